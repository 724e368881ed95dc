/- Contract of dec.Read at a text that begins with a figure. -/
import Derived.Test.YtdochnioodedmaaDoorD3
import Derived.Test.YtdochnioodedmaaDoorA2
import Derived.Lib.AppendStr
import Derived.Lib.Split
namespace Go.Proofs.YtdochnioodedmaaDoor
open Go Go.RowKit

abbrev dW3 (w : World) : World := ((w.alloc (.cells #[.int .i64 0] 2)).alloc (.cells #[.int .i64 0] 3)).alloc (.cells #[.int .i64 0] 27)
theorem dW3_facts {w W : World} (hb : Below (dW3 w).heap.size (dW3 w) W) :
    (W.cell? ⟨w.heap.size, 0, none⟩ = some (.int .i64 0) ∧ W.cell? ⟨w.heap.size + 1, 0, none⟩ = some (.int .i64 0) ∧ W.cell? ⟨w.heap.size + 1 + 1, 0, none⟩ = some (.int .i64 0)) ∧
    (W.frozen? ⟨w.heap.size, 0, none⟩ = false ∧ W.frozen? ⟨w.heap.size + 1, 0, none⟩ = false ∧ W.frozen? ⟨w.heap.size + 1 + 1, 0, none⟩ = false) ∧ w.heap.size + 3 ≤ W.heap.size ∧ Below w.heap.size w W := by
  obtain ⟨hc, hf⟩ := bcell hb
  have hs : (dW3 w).heap.size = w.heap.size + 3 := by simp [dW3]
  rw [hs] at hc hf
  refine ⟨⟨(hc _ _ (by omega)).trans ?_, (hc _ _ (by omega)).trans ?_, (hc _ _ (by omega)).trans ?_⟩, ⟨(hf _ _ (by omega)).trans ?_, (hf _ _ (by omega)).trans ?_, (hf _ _ (by omega)).trans ?_⟩, by have := hb.size; rw [hs] at this; exact this,
    ((((Below.refl _ _).alloc (Nat.le_refl _) _).alloc (by simp) _).alloc (by simp; omega) _).trans (hb.mono (by rw [hs]; omega))⟩
  all_goals simp [dW3, go_sem]

/-- the loop's numbers, one round -/
theorem dec_step (low d : Nat) (hl : low < 18446744073709551616) (hd : d ≤ 9) : ∃ hi lo sm cy : Nat, hi ≤ 9 ∧ cy ≤ 1 ∧ lo < 18446744073709551616 ∧ sm < 18446744073709551616 ∧
    low * 10 / 18446744073709551616 = hi ∧ low * 10 % 18446744073709551616 = lo ∧ (lo + d) % 18446744073709551616 = sm ∧ (lo + d) / 18446744073709551616 = cy ∧
    ((hi + cy = 0 ∧ sm = low * 10 + d) ∨ (1 ≤ hi + cy ∧ 18446744073709551616 ≤ low * 10 + d)) := by
  refine ⟨_, _, _, _, ?_, ?_, ?_, ?_, rfl, rfl, rfl, rfl, ?_⟩ <;> omega

set_option maxRecDepth 100000 in
set_option maxHeartbeats 4000000 in
theorem decRead_core (s X : ByteArray) (p e : Nat) (w : World) (hs : s.size ≤ 140737488351232) (hpos : 0 < s.size) (h45 : ¬ s[0].toNat = 45) (hp0 : 0 < p) (hb1 : p ≤ e) (hb2 : e ≤ s.size)
    (hsp : ∀ W, Calls Tryd.prog 40 #[.string s] W fun r w' => r = .returned (.tuple #[.int .i64 0, .int .i64 0, .int .i64 p, .int .i64 e]) ∧ W = w')
    (hX : X = s.extract 0 p ++ ((if p < e then s.extract (p + 1) e else ⟨#[]⟩) ++ ⟨#[48, 48, 48, 48, 48, 48]⟩).extract 0 6) (hXs : X.size ≤ s.size + 6) (hXf : ∀ k (h : k < X.size), 48 ≤ X[k].toNat ∧ X[k].toNat ≤ 57) :
    Calls Tryd.prog 27 #[.string s] w fun r w' => r = .returned (if decNat X.data.toList ≤ 9223372036854775807 then .tuple #[.int .i64 (decNat X.data.toList : Nat), .int .i64 e, .int .i64 0] else .tuple #[.int .i64 0, .int .i64 0, .int .i64 3]) ∧ Below w.heap.size w w' := by
  have hmf : ∀ (fn : Fn) (first cap : Array Value) (w : World), (Instr.makeFunc fn first cap).run Tryd.prog w = .ok (.func fn first cap) w := fun _ _ _ _ => rfl
  have t1 := beqF (show ¬ (p : Int) = 0 by omega)
  have t2 := beqF (show ¬ (s[0].toNat : Int) = 45 by omega)
  obtain ⟨c, W, hrun, hb, hsz, hcell⟩ := convBytes X (dW3 w)
  obtain ⟨⟨k0, k1, k2⟩, ⟨l0, l1, l2⟩, hW3, HB⟩ := dW3_facts hb
  have hs3 : (dW3 w).heap.size = w.heap.size + 1 + 1 + 1 := by simp [dW3]
  rw [hs3] at hcell hrun
  obtain ⟨n, hn⟩ : ∃ n, X.size = n := ⟨_, rfl⟩
  rw [hn] at hrun hcell hXs
  have HN := hid hn
  clear hb hsz hs3 h45 hn
  by_cases hpe : p < e
  · rw [if_pos hpe] at hX
    rw [hX] at hrun
    have HX := hid hX
    clear hX
    go_enter_defers Tryd.func27, Tryd.ntmps27
    go_wp2_with (first | (go_at_call 40; refine (hsp _).mono ?_; rintro e w2 ⟨rfl, rfl⟩) | (go_at_call 41; refine (wrong_no _ _).mono ?_; rintro e w2 ⟨rfl, rfl⟩))
    clear hsp hrun
    go_loop [10, 12, 13, 14, 15, 53] (fun low c1 c2 c3 c4 i => ∃ k : Nat, ∃ lw : Nat, k ≤ n ∧ lw < 18446744073709551616 ∧ i = .int .i64 k ∧ low = .int .u64 lw ∧ Hid (decNat (X.data.toList.take k) = lw)) (fun _ _ _ _ _ i => n - (intOf i).toNat)
    case atStart => exact ⟨0, 0, by omega, by decide, rfl, rfl, rfl⟩
    case round =>
      obtain ⟨k, lw, hk, hlw, rfl, rfl, HL⟩ := hrel
      by_cases hlt : k < n
      · have hkX : k < X.size := by have := HN.out; omega
        have hc := hcell k (by omega)
        have hg : X.data.toList.getD k 0 = X[k] := by
          rw [List.getD_eq_getElem?_getD, List.getElem?_eq_getElem (by rw [size_toList]; exact hkX)]; rfl
        rw [hg] at hc
        have hxf := hXf k hkX
        have HT := hid (take_snoc X k hkX)
        generalize X[k] = x at hc hxf HT
        clear hg hcell hXf
        obtain ⟨hi, lo, sm, cy, bhi, bcy, blo, bsm, e1, e2, e3, e4, hor⟩ := dec_step lw (x.toNat - 48) hlw (by omega)
        have hmul : ∀ V, Calls Tryd.prog 42 #[.int .u64 lw, .int .u64 10] V fun r w' => r = .returned (.tuple #[.int .u64 hi, .int .u64 lo]) ∧ V = w' := fun V => by
          have := mul64_any lw 10 hlw (by decide) V
          rw [e1, e2] at this
          exact this
        have hadd : ∀ V, (callFunc 43 #[.int .u64 lo, .int .u64 ((x.toNat : Int) - 48), .int .u64 0]).run Tryd.prog V = .ok (.value (.tuple #[.int .u64 sm, .int .u64 cy])) V := fun V => by
          have := add64_run lo ((x.toNat : Int) - 48) (by omega) (by omega) V
          rw [this, show ((lo : Int) + ((x.toNat : Int) - 48)) % 18446744073709551616 = (sm : Int) by omega, show ((lo : Int) + ((x.toNat : Int) - 48)) / 18446744073709551616 = (cy : Int) by omega]
        have hl48 : 48 ≤ (x.toNat : Int) := by omega
        have hx57 : (x.toNat : Int) ≤ 57 := by omega
        have HOR := hid hor
        have BSM := hid bsm
        clear e1 e2 e3 e4 hor blo bsm hxf
        rcases HOR.out with ⟨hz, hsm⟩ | ⟨hnz, hov⟩
        · have t3 := bneF (show ((hi : Int) + cy) = 0 by omega)
          have HL2 := hid (show decNat (X.data.toList.take (k + 1)) = sm by rw [HT.out, decNat_snoc, HL.out, hsm])
          have HLW := hid hlw
          clear hz hsm hlw
          go_wp2_with (first | (go_at_call 42; refine (hmul _).mono ?_; rintro e w2 ⟨rfl, rfl⟩) | (go_at_call 41; refine (wrong_no _ _).mono ?_; rintro e w2 ⟨rfl, rfl⟩))
          exact ⟨⟨k + 1, sm, by omega, BSM.out, by go_num, rfl, HL2⟩, by simp [intOf]; omega⟩
        · have t3 := bneT (show ¬ ((hi : Int) + cy) = 0 by omega)
          have HBIG := hid (show ¬ decNat X.data.toList ≤ 9223372036854775807 by
            have h1 := decNat_take X.data.toList (k + 1)
            rw [HT.out, decNat_snoc, HL.out] at h1
            omega)
          clear hnz hov hlw
          go_wp2_with (first | (go_at_call 42; refine (hmul _).mono ?_; rintro e w2 ⟨rfl, rfl⟩) | (go_at_call 41; refine (wrong_yes _ _).mono ?_; rintro e w2 ⟨rfl, rfl⟩))
          refine leaves_cons (f := 39) (args := #[.pointer (some ⟨w.heap.size, 0, none⟩), .pointer (some ⟨w.heap.size + 1 + 1, 0, none⟩)]) (by simp) (by simp [go_sem]) ?_
          refine (caught_panicking w.heap.size 0 0 3 [] W k0 l0 k2 l2 (by omega)).mono ?_
          rintro r u' w2 ⟨rfl, rfl, m0, m2, m1, z1, HB2⟩
          refine leaves_cons (f := 38) (args := #[.pointer (some ⟨w.heap.size + 1 + 1, 0, none⟩), .pointer (some ⟨w.heap.size + 1, 0, none⟩)]) (by simp [settle]) (by simp [go_sem]) ?_
          refine (read1_bad w.heap.size 0 w2 m2 (m1.trans k1) (z1.trans l1)).mono ?_
          rintro r u' w3 ⟨rfl, rfl, rfl⟩
          refine ⟨.tuple #[.int .i64 0, .int .i64 0, .int .i64 3], ?_, ?_, ?_⟩
          · have m2' : w2.cell? ⟨w.heap.size + 1 + 1, 0, none⟩ = some (.int .i64 3) := m2
            have m1' := m1.trans k1
            simp [results, Tryd.results27, go_sem, m0, m1', m2']
          · rfl
          · exact (HB.trans HB2).setCell (by simp) _
      · have hkn : k = n := by omega
        have HLA := hid (show decNat X.data.toList = lw by
          have := HL.out
          rwa [List.take_of_length_le (by rw [size_toList]; have := HN.out; omega)] at this)
        clear hkn
        by_cases hbig : lw ≤ 9223372036854775807
        · have HSM := hid (show decNat X.data.toList ≤ 9223372036854775807 by rw [HLA.out]; exact hbig)
          have HBI := hid hbig
          clear hbig hlw
          go_wp2_with (first | (go_at_call 44; refine (joined_no _ HBI.out _).mono ?_; rintro e w2 ⟨rfl, rfl⟩))
          refine leaves_cons (f := 39) (args := #[.pointer (some ⟨w.heap.size, 0, none⟩), .pointer (some ⟨w.heap.size + 1 + 1, 0, none⟩)]) (by simp) (by simp [go_sem]) ?_
          refine (caught_idle _ _ _).mono ?_
          rintro r u' w2 ⟨rfl, rfl, rfl⟩
          refine leaves_cons (f := 38) (args := #[.pointer (some ⟨w.heap.size + 1 + 1, 0, none⟩), .pointer (some ⟨w.heap.size + 1, 0, none⟩)]) (by simp [settle]) (by simp [go_sem]) ?_
          refine (read1_ok w.heap.size _ ?_).mono ?_
          · show World.cell? _ ⟨w.heap.size + 1 + 1, 0, none⟩ = _
            simp [go_sem, k2]
          rintro r u' w2 ⟨rfl, rfl, rfl⟩
          refine ⟨.tuple #[.int .i64 lw, .int .i64 e, .int .i64 0], by simp [results, Tryd.results27, go_sem, k0, k1, k2], ?_, ?_⟩
          · rw [HLA.out]
          · exact ((HB.setCell (Nat.le_refl _) _).setCell (by simp) _).setCell (by simp; omega) _
        · have HBIG := hid (show ¬ decNat X.data.toList ≤ 9223372036854775807 by rw [HLA.out]; exact hbig)
          have HBI := hid (show 9223372036854775807 < lw by omega)
          have HLW := hid hlw
          clear hbig hlw
          go_wp2_with (first | (go_at_call 44; refine (joined_over _ HBI.out HLW.out _).mono ?_; rintro e w2 ⟨rfl, rfl⟩))
          refine leaves_cons (f := 39) (args := #[.pointer (some ⟨w.heap.size, 0, none⟩), .pointer (some ⟨w.heap.size + 1 + 1, 0, none⟩)]) (by simp) (by simp [go_sem]) ?_
          refine (caught_panicking w.heap.size 0 0 3 [] W k0 l0 k2 l2 (by omega)).mono ?_
          rintro r u' w2 ⟨rfl, rfl, m0, m2, m1, z1, HB2⟩
          refine leaves_cons (f := 38) (args := #[.pointer (some ⟨w.heap.size + 1 + 1, 0, none⟩), .pointer (some ⟨w.heap.size + 1, 0, none⟩)]) (by simp [settle]) (by simp [go_sem]) ?_
          refine (read1_bad w.heap.size 0 w2 m2 (m1.trans k1) (z1.trans l1)).mono ?_
          rintro r u' w3 ⟨rfl, rfl, rfl⟩
          refine ⟨.tuple #[.int .i64 0, .int .i64 0, .int .i64 3], ?_, ?_, ?_⟩
          · have m2' : w2.cell? ⟨w.heap.size + 1 + 1, 0, none⟩ = some (.int .i64 3) := m2
            have m1' := m1.trans k1
            simp [results, Tryd.results27, go_sem, m0, m1', m2']
          · rfl
          · exact (HB.trans HB2).setCell (by simp) _
  · rw [if_neg hpe] at hX
    rw [hX] at hrun
    have HX := hid hX
    clear hX
    go_enter_defers Tryd.func27, Tryd.ntmps27
    go_wp2_with (first | (go_at_call 40; refine (hsp _).mono ?_; rintro e w2 ⟨rfl, rfl⟩) | (go_at_call 41; refine (wrong_no _ _).mono ?_; rintro e w2 ⟨rfl, rfl⟩))
    clear hsp hrun
    go_loop [10, 12, 13, 14, 15, 53] (fun low c1 c2 c3 c4 i => ∃ k : Nat, ∃ lw : Nat, k ≤ n ∧ lw < 18446744073709551616 ∧ i = .int .i64 k ∧ low = .int .u64 lw ∧ Hid (decNat (X.data.toList.take k) = lw)) (fun _ _ _ _ _ i => n - (intOf i).toNat)
    case atStart => exact ⟨0, 0, by omega, by decide, rfl, rfl, rfl⟩
    case round =>
      obtain ⟨k, lw, hk, hlw, rfl, rfl, HL⟩ := hrel
      by_cases hlt : k < n
      · have hkX : k < X.size := by have := HN.out; omega
        have hc := hcell k (by omega)
        have hg : X.data.toList.getD k 0 = X[k] := by
          rw [List.getD_eq_getElem?_getD, List.getElem?_eq_getElem (by rw [size_toList]; exact hkX)]; rfl
        rw [hg] at hc
        have hxf := hXf k hkX
        have HT := hid (take_snoc X k hkX)
        generalize X[k] = x at hc hxf HT
        clear hg hcell hXf
        obtain ⟨hi, lo, sm, cy, bhi, bcy, blo, bsm, e1, e2, e3, e4, hor⟩ := dec_step lw (x.toNat - 48) hlw (by omega)
        have hmul : ∀ V, Calls Tryd.prog 42 #[.int .u64 lw, .int .u64 10] V fun r w' => r = .returned (.tuple #[.int .u64 hi, .int .u64 lo]) ∧ V = w' := fun V => by
          have := mul64_any lw 10 hlw (by decide) V
          rw [e1, e2] at this
          exact this
        have hadd : ∀ V, (callFunc 43 #[.int .u64 lo, .int .u64 ((x.toNat : Int) - 48), .int .u64 0]).run Tryd.prog V = .ok (.value (.tuple #[.int .u64 sm, .int .u64 cy])) V := fun V => by
          have := add64_run lo ((x.toNat : Int) - 48) (by omega) (by omega) V
          rw [this, show ((lo : Int) + ((x.toNat : Int) - 48)) % 18446744073709551616 = (sm : Int) by omega, show ((lo : Int) + ((x.toNat : Int) - 48)) / 18446744073709551616 = (cy : Int) by omega]
        have hl48 : 48 ≤ (x.toNat : Int) := by omega
        have hx57 : (x.toNat : Int) ≤ 57 := by omega
        have HOR := hid hor
        have BSM := hid bsm
        clear e1 e2 e3 e4 hor blo bsm hxf
        rcases HOR.out with ⟨hz, hsm⟩ | ⟨hnz, hov⟩
        · have t3 := bneF (show ((hi : Int) + cy) = 0 by omega)
          have HL2 := hid (show decNat (X.data.toList.take (k + 1)) = sm by rw [HT.out, decNat_snoc, HL.out, hsm])
          have HLW := hid hlw
          clear hz hsm hlw
          go_wp2_with (first | (go_at_call 42; refine (hmul _).mono ?_; rintro e w2 ⟨rfl, rfl⟩) | (go_at_call 41; refine (wrong_no _ _).mono ?_; rintro e w2 ⟨rfl, rfl⟩))
          exact ⟨⟨k + 1, sm, by omega, BSM.out, by go_num, rfl, HL2⟩, by simp [intOf]; omega⟩
        · have t3 := bneT (show ¬ ((hi : Int) + cy) = 0 by omega)
          have HBIG := hid (show ¬ decNat X.data.toList ≤ 9223372036854775807 by
            have h1 := decNat_take X.data.toList (k + 1)
            rw [HT.out, decNat_snoc, HL.out] at h1
            omega)
          clear hnz hov hlw
          go_wp2_with (first | (go_at_call 42; refine (hmul _).mono ?_; rintro e w2 ⟨rfl, rfl⟩) | (go_at_call 41; refine (wrong_yes _ _).mono ?_; rintro e w2 ⟨rfl, rfl⟩))
          refine leaves_cons (f := 39) (args := #[.pointer (some ⟨w.heap.size, 0, none⟩), .pointer (some ⟨w.heap.size + 1 + 1, 0, none⟩)]) (by simp) (by simp [go_sem]) ?_
          refine (caught_panicking w.heap.size 0 0 3 [] W k0 l0 k2 l2 (by omega)).mono ?_
          rintro r u' w2 ⟨rfl, rfl, m0, m2, m1, z1, HB2⟩
          refine leaves_cons (f := 38) (args := #[.pointer (some ⟨w.heap.size + 1 + 1, 0, none⟩), .pointer (some ⟨w.heap.size + 1, 0, none⟩)]) (by simp [settle]) (by simp [go_sem]) ?_
          refine (read1_bad w.heap.size 0 w2 m2 (m1.trans k1) (z1.trans l1)).mono ?_
          rintro r u' w3 ⟨rfl, rfl, rfl⟩
          refine ⟨.tuple #[.int .i64 0, .int .i64 0, .int .i64 3], ?_, ?_, ?_⟩
          · have m2' : w2.cell? ⟨w.heap.size + 1 + 1, 0, none⟩ = some (.int .i64 3) := m2
            have m1' := m1.trans k1
            simp [results, Tryd.results27, go_sem, m0, m1', m2']
          · rfl
          · exact (HB.trans HB2).setCell (by simp) _
      · have hkn : k = n := by omega
        have HLA := hid (show decNat X.data.toList = lw by
          have := HL.out
          rwa [List.take_of_length_le (by rw [size_toList]; have := HN.out; omega)] at this)
        clear hkn
        by_cases hbig : lw ≤ 9223372036854775807
        · have HSM := hid (show decNat X.data.toList ≤ 9223372036854775807 by rw [HLA.out]; exact hbig)
          have HBI := hid hbig
          clear hbig hlw
          go_wp2_with (first | (go_at_call 44; refine (joined_no _ HBI.out _).mono ?_; rintro e w2 ⟨rfl, rfl⟩))
          refine leaves_cons (f := 39) (args := #[.pointer (some ⟨w.heap.size, 0, none⟩), .pointer (some ⟨w.heap.size + 1 + 1, 0, none⟩)]) (by simp) (by simp [go_sem]) ?_
          refine (caught_idle _ _ _).mono ?_
          rintro r u' w2 ⟨rfl, rfl, rfl⟩
          refine leaves_cons (f := 38) (args := #[.pointer (some ⟨w.heap.size + 1 + 1, 0, none⟩), .pointer (some ⟨w.heap.size + 1, 0, none⟩)]) (by simp [settle]) (by simp [go_sem]) ?_
          refine (read1_ok w.heap.size _ ?_).mono ?_
          · show World.cell? _ ⟨w.heap.size + 1 + 1, 0, none⟩ = _
            simp [go_sem, k2]
          rintro r u' w2 ⟨rfl, rfl, rfl⟩
          refine ⟨.tuple #[.int .i64 lw, .int .i64 e, .int .i64 0], by simp [results, Tryd.results27, go_sem, k0, k1, k2], ?_, ?_⟩
          · rw [HLA.out]
          · exact ((HB.setCell (Nat.le_refl _) _).setCell (by simp) _).setCell (by simp; omega) _
        · have HBIG := hid (show ¬ decNat X.data.toList ≤ 9223372036854775807 by rw [HLA.out]; exact hbig)
          have HBI := hid (show 9223372036854775807 < lw by omega)
          have HLW := hid hlw
          clear hbig hlw
          go_wp2_with (first | (go_at_call 44; refine (joined_over _ HBI.out HLW.out _).mono ?_; rintro e w2 ⟨rfl, rfl⟩))
          refine leaves_cons (f := 39) (args := #[.pointer (some ⟨w.heap.size, 0, none⟩), .pointer (some ⟨w.heap.size + 1 + 1, 0, none⟩)]) (by simp) (by simp [go_sem]) ?_
          refine (caught_panicking w.heap.size 0 0 3 [] W k0 l0 k2 l2 (by omega)).mono ?_
          rintro r u' w2 ⟨rfl, rfl, m0, m2, m1, z1, HB2⟩
          refine leaves_cons (f := 38) (args := #[.pointer (some ⟨w.heap.size + 1 + 1, 0, none⟩), .pointer (some ⟨w.heap.size + 1, 0, none⟩)]) (by simp [settle]) (by simp [go_sem]) ?_
          refine (read1_bad w.heap.size 0 w2 m2 (m1.trans k1) (z1.trans l1)).mono ?_
          rintro r u' w3 ⟨rfl, rfl, rfl⟩
          refine ⟨.tuple #[.int .i64 0, .int .i64 0, .int .i64 3], ?_, ?_, ?_⟩
          · have m2' : w2.cell? ⟨w.heap.size + 1 + 1, 0, none⟩ = some (.int .i64 3) := m2
            have m1' := m1.trans k1
            simp [results, Tryd.results27, go_sem, m0, m1', m2']
          · rfl
          · exact (HB.trans HB2).setCell (by simp) _

theorem bytes_ext {a b : ByteArray} (h : a.data.toList = b.data.toList) : a = b := by rw [← str_toList a, ← str_toList b, h]
theorem append_toList (a b : ByteArray) : (a ++ b).data.toList = a.data.toList ++ b.data.toList := by simp
theorem figs_pos (s : ByteArray) (hpos : 0 < s.size) (hf : isFig s[0] = true) : 0 < figs s.data.toList := by
  have e := drop_cons s 0 hpos
  rw [List.drop_zero] at e
  rw [e, figs, List.takeWhile_cons, if_pos hf]
  simp

theorem decRead_any (s : ByteArray) (w : World) (hs : s.size ≤ 140737488351232) (hpos : 0 < s.size) (hf : isFig s[0] = true) :
    Calls Tryd.prog 27 #[.string s] w fun r w' => r = .returned (if numVal s.data.toList ≤ 9223372036854775807 then .tuple #[.int .i64 (numVal s.data.toList : Nat), .int .i64 (spanEnd s.data.toList : Nat), .int .i64 0] else .tuple #[.int .i64 0, .int .i64 0, .int .i64 3]) ∧ Below w.heap.size w w' := by
  have hsm : s.size ≤ maxLen := by unfold maxLen; omega
  obtain ⟨hb1, hb2⟩ := spanEnd_bounds s.data.toList
  rw [size_toList] at hb2
  have h := decRead_core s (str (numDigits s.data.toList)) (figs s.data.toList) (spanEnd s.data.toList) w hs hpos (by
    intro h; simp [isFig] at hf; omega) (figs_pos s hpos hf) hb1 hb2 (fun W => span_any s W hsm hpos hf) (bytes_ext (by
      rw [toList_str, append_toList, Lib.extract_from_zero, Lib.extract_from_zero, append_toList, numDigits]
      split
      · rw [Lib.extract_data]
      · rfl)) (by
      rw [size_str, numDigits, List.length_append, List.length_take, List.length_take, size_toList]; omega) (fun k hk => by
      have h := List.all_eq_true.1 (numDigits_all s.data.toList) (str (numDigits s.data.toList))[k] (List.getElem_mem _)
      simpa [isFig] using h)
  rw [toList_str] at h
  exact h

end Go.Proofs.YtdochnioodedmaaDoor
