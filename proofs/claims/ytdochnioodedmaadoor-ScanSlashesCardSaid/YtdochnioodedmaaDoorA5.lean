/- Contract of scan.text. (Printed by gen/xa5.py.) -/
import Derived.Test.YtdochnioodedmaaDoorA1
import Derived.Test.YtdochnioodedmaaDoorA2
import Derived.Test.YtdochnioodedmaaDoorL1
import Derived.Test.YtdochnioodedmaaDoorM2
import Derived.Deep.QuietTactic
import Derived.BigQuiet
import Derived.Deep.LoopGhost
import Derived.Deep.RegionWith
import Derived.IntWalk
namespace Go.Proofs.YtdochnioodedmaaDoor
open Go Go.RowKit

theorem elem_bytes : ElemOk Tryd.prog 43 5 1 1 :=
  ⟨Tryd.underlying43, by
    obtain ⟨i, hi, h⟩ : ∃ i, Tryd.prog.info? 5 = some i ∧ i.zero = some (.int .u8 0) ∧ i.size = 1 ∧ i.bytes = 1 := ⟨_, rfl, by kernel_rfl, by kernel_rfl, by kernel_rfl⟩
    exact ⟨i, _, hi, h.1, h.2.1, h.2.2, rfl⟩, by decide⟩

theorem quiet_eq {P : Program} {f : FuncId} {args : Array Value} {w : World} {n : Nat} {v : Value}
    (h : Calls P f args (w.drewN n) fun e w' => e = .returned v ∧ w.drewN n = w') : Calls P f args (w.drewN n) fun e w'' => e = .returned v ∧ ∃ m, w'' = w.drewN m :=
  h.mono fun _ _ ⟨he, hm⟩ => ⟨he, n, hm.symm⟩

/-- the token's block, as a new variable holds it -/
abbrev tok0 : Obj := .cells #[.int .i64 0, .int .i64 0, .string ⟨#[]⟩, .int .i64 0] 23
theorem tok_facts {w wr : World} (hb : Below (w.heap.size + 1) (w.alloc tok0) wr) :
    wr.cell? ⟨w.heap.size, 0, none⟩ = some (.int .i64 0) ∧ wr.cell? ⟨w.heap.size, 1, none⟩ = some (.int .i64 0) ∧ wr.cell? ⟨w.heap.size, 2, none⟩ = some (.string ⟨#[]⟩) ∧ wr.cell? ⟨w.heap.size, 3, none⟩ = some (.int .i64 0) ∧
    wr.frozen? ⟨w.heap.size, 0, none⟩ = false ∧ wr.frozen? ⟨w.heap.size, 1, none⟩ = false ∧ wr.frozen? ⟨w.heap.size, 2, none⟩ = false ∧ wr.frozen? ⟨w.heap.size, 3, none⟩ = false := by
  obtain ⟨hc, hf⟩ := bcell hb
  refine ⟨(hc _ _ (by omega)).trans ?_, (hc _ _ (by omega)).trans ?_, (hc _ _ (by omega)).trans ?_, (hc _ _ (by omega)).trans ?_, (hf _ _ (by omega)).trans ?_, (hf _ _ (by omega)).trans ?_, (hf _ _ (by omega)).trans ?_, (hf _ _ (by omega)).trans ?_⟩ <;> simp

theorem idx3 (d : UInt8) : (d.toNat = 34 ∨ d.toNat = 92 ∨ d.toNat = 47) → ∃ i : Nat, Lib.indexByte [34, 92, 47] d = i := by
  intro h
  have e : d = 34 ∨ d = 92 ∨ d = 47 := by
    rcases h with h | h | h
    · exact .inl (UInt8.toNat_inj.1 h)
    · exact .inr (.inl (UInt8.toNat_inj.1 h))
    · exact .inr (.inr (UInt8.toNat_inj.1 h))
  rcases e with rfl | rfl | rfl
  · exact ⟨0, by decide⟩
  · exact ⟨1, by decide⟩
  · exact ⟨2, by decide⟩
theorem idx3_not (d : UInt8) (h : ¬ (d.toNat = 34 ∨ d.toNat = 92 ∨ d.toNat = 47)) : Lib.indexByte [34, 92, 47] d = -1 := by
  have h1 : ((34 : UInt8) == d) = false := by rw [beq_eq_false_iff_ne]; rintro rfl; exact h (.inl rfl)
  have h2 : ((92 : UInt8) == d) = false := by rw [beq_eq_false_iff_ne]; rintro rfl; exact h (.inr (.inl rfl))
  have h3 : ((47 : UInt8) == d) = false := by rw [beq_eq_false_iff_ne]; rintro rfl; exact h (.inr (.inr rfl))
  simp [Lib.indexByte, h1, h2, h3]

set_option maxRecDepth 100000 in
set_option maxHeartbeats 4000000 in
theorem text_any (s : ByteArray) (w : World) (hs : s.size ≤ 140737488351232) (hpos : 0 < s.size) :
    Calls Tryd.prog 20 #[.string s] w fun e w' => e = .returned (.tuple #[tokVal (textRes s.data.toList).1, .int .i64 ((textRes s.data.toList).2 : Nat)]) ∧ Below w.heap.size w w' := by
  go_enter Tryd.func20, Tryd.ntmps20
  go_wp2_with fail
  go_loopw [4, 5] (fun v i wr => ∃ (k : Nat) (out : List UInt8), 1 ≤ k ∧ k ≤ s.size ∧ out.length ≤ k ∧ i = .int .i64 k ∧ wr.ownsRow (w.heap.size + 1) 5 1 v out.length (byteVals out) ∧
      Below (w.heap.size + 1) (w.alloc tok0) wr ∧ Hid (textGo (s.data.toList.drop 1) [] 1 = textGo (s.data.toList.drop k) out k)) (fun _ i _ => s.size - (intOf i).toNat)
  case atStart => exact ⟨1, [], by omega, by omega, by simp, rfl, own_nil _ _ _ _, Below.refl _ _, rfl⟩
  case round =>
    obtain ⟨k, out, hk0, hk, hol, rfl, hown, hb, H⟩ := hrel
    have hsz : w.heap.size + 1 ≤ wr.heap.size := by have := hb.size; simpa using this
    obtain ⟨q0, q1, q2, q3, f0, f1, f2, f3⟩ := tok_facts hb
    have HB : Below w.heap.size w wr := ((Below.refl _ _).alloc (Nat.le_refl _) _).trans (hb.mono (by omega))
    by_cases hlt : k < s.size
    · have HD := hid (drop_cons s k hlt)
      by_cases h10 : s[k].toNat = 10
      · have t1 := bneF (show (s[k].toNat : Int) = 10 by omega)
        have HN := hid (show textGo (s.data.toList.drop 1) [] 1 = none by rw [H.out, HD.out, textGo_end _ _ _ _ h10])
        clear h10
        go_wp2_with fail
        refine bodyPost_ret (v := .tuple #[.agg #[.int .i64 0, .int .i64 0, .string ⟨#[]⟩, .int .i64 0], .int .i64 0]) (by simp [results, Tryd.results20, go_sem, q0, q1, q2, q3]) rfl ⟨?_, ?_⟩
        · rw [textRes_none _ HN.out]; rfl
        · exact (((HB.setCell (Nat.le_refl _) _).setCell (Nat.le_refl _) _).setCell (Nat.le_refl _) _).setCell (Nat.le_refl _) _
      · have t1 := bneT (show ¬ (s[k].toNat : Int) = 10 by omega)
        by_cases h34 : s[k].toNat = 34
        · have t2 := beqT (show (s[k].toNat : Int) = 34 by omega)
          have HN := hid (show textGo (s.data.toList.drop 1) [] 1 = some (out, k + 1) by rw [H.out, HD.out, textGo_quote _ _ _ _ h34])
          have hcv := own_text (P := Tryd.prog) (src := 43) (dst := 9) Tryd.underlying43 Tryd.underlying5 Tryd.underlying9 hown rfl
          clear h10 h34
          go_wp2_with fail
          refine bodyPost_ret (v := .tuple #[.agg #[.int .i64 3, .int .i64 0, .string (str out), .int .i64 0], .int .i64 (k + 1)]) (by simp [results, Tryd.results20, go_sem, q0, q1, q2, q3]) rfl ⟨?_, ?_⟩
          · rw [textRes_some _ HN.out]; rfl
          · exact (((HB.setCell (Nat.le_refl _) _).setCell (Nat.le_refl _) _).setCell (Nat.le_refl _) _).setCell (Nat.le_refl _) _
        · have t2 := beqF (show ¬ (s[k].toNat : Int) = 34 by omega)
          by_cases h92 : s[k].toNat = 92
          · have t3 := bneF (show (s[k].toNat : Int) = 92 by omega)
            by_cases hl1 : k + 1 < s.size
            · have HD1 := hid (drop_cons s (k + 1) hl1)
              by_cases hd : s[k + 1].toNat = 34 ∨ s[k + 1].toNat = 92 ∨ s[k + 1].toNat = 47
              · obtain ⟨ix, hI⟩ := idx3 s[k + 1] hd
                have HH := hid (show textGo (s.data.toList.drop 1) [] 1 = textGo (s.data.toList.drop (k + 2)) (out ++ [s[k + 1]]) (k + 2) by
                  rw [H.out, HD.out, HD1.out, textGo_kept _ _ _ _ _ h92 hd])
                clear h10 h34 h92 hd
                go_wp2_with (first | (go_at_call 28; refine (indexByte_any _ _ _).mono ?_; rintro e w2 ⟨rfl, rfl⟩; rw [hI]) | (at_builtin; refine app_own elem_bytes rfl _ _ rfl (w.heap.size + 1) _ _ _ rfl hown [.int .u8 s[k + 1].toNat] rfl (by simp [Value.oneCell']) rfl _ hb (by unfold maxLen; omega) (by omega) (by omega) ?_; intro v' w1 hown1 hb1 hsz1))
                exact ⟨⟨k + 2, out ++ [s[k + 1]], by omega, by omega, by simp; omega, by go_num, by rw [List.length_append, byteVals_append]; exact hown1, hb1, HH⟩, by simp [intOf]; omega⟩
              · have hI := idx3_not s[k + 1] hd
                have H92 := hid h92
                have HND := hid hd
                clear h10 h34 h92 hd
                by_cases hl3 : k + 3 < s.size
                · have HD2 := hid (drop_cons s (k + 2) (by omega))
                  have HD3 := hid (drop_cons s (k + 3) hl3)
                  have hlo2 := hexDig_lo s[k + 2]
                  have hhi2 := hexDig_hi s[k + 2]
                  have hlo3 := hexDig_lo s[k + 3]
                  have hhi3 := hexDig_hi s[k + 3]
                  by_cases hx : s[k + 1].toNat = 120
                  · have t4 := beqT (show (s[k + 1].toNat : Int) = 120 by omega)
                    have HX := hid hx
                    clear hx
                    by_cases hg2 : 0 ≤ hexDig s[k + 2]
                    · by_cases hg3 : 0 ≤ hexDig s[k + 3]
                      · go_wp2_with (first | (go_at_call 28; refine (indexByte_any _ _ _).mono ?_; rintro e w2 ⟨rfl, rfl⟩; rw [hI]) | (go_at_call 29; refine (digit_any _ _).mono ?_; rintro e w2 ⟨rfl, rfl⟩))
                        have e2 : IntKind.i64.wrap ((k : Int) + 2) = (k : Int) + 2 := IntWalk.i64_in _ (by omega)
                        have e3 : IntKind.i64.wrap ((k : Int) + 3) = (k : Int) + 3 := IntWalk.i64_in _ (by omega)
                        have g2 : ((k : Int) + 2).toNat = k + 2 := by omega
                        have g3 : ((k : Int) + 3).toNat = k + 3 := by omega
                        have p2 : (0 : Int) ≤ (k : Int) + 2 := by omega
                        have p3 : (0 : Int) ≤ (k : Int) + 3 := by omega
                        go_quiet ((go_at_call 29; exact quiet_eq (digit_any _ _)))
                        have hown' : (wr.drewN nq).ownsRow (w.heap.size + 1) 5 1 _ out.length (byteVals out) := hown
                        have hb' : Below (w.heap.size + 1) (w.alloc tok0) (wr.drewN nq) := ⟨hb.os, hb.tape, hb.output, hb.size, hb.block⟩
                        rw [hexByte_val _ _ hg2 hg3]
                        generalize wr.drewN nq = wq at hown' hb'
                        clear hown hb q0 q1 q2 q3 f0 f1 f2 f3 HB hsz
                        have hsz : w.heap.size + 1 ≤ wq.heap.size := by have := hb'.size; simpa using this
                        obtain ⟨q0, q1, q2, q3, f0, f1, f2, f3⟩ := tok_facts hb'
                        have HB : Below w.heap.size w wq := ((Below.refl _ _).alloc (Nat.le_refl _) _).trans (hb'.mono (by omega))
                        clear e2 e3
                        generalize hcb : hexByte s[k + 2] s[k + 3] = cb
                        have HCB := hid hcb
                        clear hcb
                        by_cases h10c : cb.toNat = 10
                        · have t5 := beqT (show (cb.toNat : Int) = 10 by omega)
                          have HN := hid (show textGo (s.data.toList.drop 1) [] 1 = none by
                            rw [H.out, HD.out, HD1.out, HD2.out, HD3.out, textGo_hex_bad _ _ _ _ _ _ _ H92.out HND.out (by rw [HCB.out]; omega)])
                          clear h10c
                          go_wp2_with fail
                          refine bodyPost_ret (v := .tuple #[.agg #[.int .i64 0, .int .i64 0, .string ⟨#[]⟩, .int .i64 0], .int .i64 0]) (by simp [results, Tryd.results20, go_sem, q0, q1, q2, q3]) rfl ⟨?_, ?_⟩
                          · rw [textRes_none _ HN.out]; rfl
                          · exact by first | exact (((HB.setCell (Nat.le_refl _) _).setCell (Nat.le_refl _) _).setCell (Nat.le_refl _) _).setCell (Nat.le_refl _) _ | exact below_drewN ((((HB.setCell (Nat.le_refl _) _).setCell (Nat.le_refl _) _).setCell (Nat.le_refl _) _).setCell (Nat.le_refl _) _) _
                        · have t5 := beqF (show ¬ (cb.toNat : Int) = 10 by omega)
                          have HH := hid (show textGo (s.data.toList.drop 1) [] 1 = textGo (s.data.toList.drop (k + 4)) (out ++ [cb]) (k + 4) by
                            rw [H.out, HD.out, HD1.out, HD2.out, HD3.out, textGo_hex _ _ _ _ _ _ _ H92.out HX.out hg2 hg3 (by rw [HCB.out]; exact h10c), HCB.out])
                          clear h10c
                          go_wp2_with (first | (at_builtin; refine app_own elem_bytes rfl _ _ rfl (w.heap.size + 1) _ _ _ rfl hown' [.int .u8 cb.toNat] rfl (by simp [Value.oneCell']) rfl _ hb' (by unfold maxLen; omega) (by omega) (by omega) ?_; intro v' w1 hown1 hb1 hsz1))
                          exact ⟨⟨k + 4, out ++ [cb], by omega, by omega, by simp; omega, by go_num, by rw [List.length_append, byteVals_append]; exact hown1, hb1, HH⟩, by simp [intOf]; omega⟩
                      · have HN := hid (show textGo (s.data.toList.drop 1) [] 1 = none by
                          rw [H.out, HD.out, HD1.out, HD2.out, HD3.out, textGo_hex_bad _ _ _ _ _ _ _ H92.out HND.out (by omega)])
                        go_wp2_with (first | (go_at_call 28; refine (indexByte_any _ _ _).mono ?_; rintro e w2 ⟨rfl, rfl⟩; rw [hI]) | (go_at_call 29; refine (digit_any _ _).mono ?_; rintro e w2 ⟨rfl, rfl⟩))
                        refine bodyPost_ret (v := .tuple #[.agg #[.int .i64 0, .int .i64 0, .string ⟨#[]⟩, .int .i64 0], .int .i64 0]) (by simp [results, Tryd.results20, go_sem, q0, q1, q2, q3]) rfl ⟨?_, ?_⟩
                        · rw [textRes_none _ HN.out]; rfl
                        · exact (((HB.setCell (Nat.le_refl _) _).setCell (Nat.le_refl _) _).setCell (Nat.le_refl _) _).setCell (Nat.le_refl _) _
                    · have HN := hid (show textGo (s.data.toList.drop 1) [] 1 = none by
                        rw [H.out, HD.out, HD1.out, HD2.out, HD3.out, textGo_hex_bad _ _ _ _ _ _ _ H92.out HND.out (by omega)])
                      go_wp2_with (first | (go_at_call 28; refine (indexByte_any _ _ _).mono ?_; rintro e w2 ⟨rfl, rfl⟩; rw [hI]) | (go_at_call 29; refine (digit_any _ _).mono ?_; rintro e w2 ⟨rfl, rfl⟩))
                      refine bodyPost_ret (v := .tuple #[.agg #[.int .i64 0, .int .i64 0, .string ⟨#[]⟩, .int .i64 0], .int .i64 0]) (by simp [results, Tryd.results20, go_sem, q0, q1, q2, q3]) rfl ⟨?_, ?_⟩
                      · rw [textRes_none _ HN.out]; rfl
                      · exact (((HB.setCell (Nat.le_refl _) _).setCell (Nat.le_refl _) _).setCell (Nat.le_refl _) _).setCell (Nat.le_refl _) _
                  · have t4 := beqF (show ¬ (s[k + 1].toNat : Int) = 120 by omega)
                    have HN := hid (show textGo (s.data.toList.drop 1) [] 1 = none by
                      rw [H.out, HD.out, HD1.out, HD2.out, HD3.out, textGo_hex_bad _ _ _ _ _ _ _ H92.out HND.out (by omega)])
                    clear hx
                    go_wp2_with (first | (go_at_call 28; refine (indexByte_any _ _ _).mono ?_; rintro e w2 ⟨rfl, rfl⟩; rw [hI]) | (go_at_call 29; refine (digit_any _ _).mono ?_; rintro e w2 ⟨rfl, rfl⟩))
                    refine bodyPost_ret (v := .tuple #[.agg #[.int .i64 0, .int .i64 0, .string ⟨#[]⟩, .int .i64 0], .int .i64 0]) (by simp [results, Tryd.results20, go_sem, q0, q1, q2, q3]) rfl ⟨?_, ?_⟩
                    · rw [textRes_none _ HN.out]; rfl
                    · exact (((HB.setCell (Nat.le_refl _) _).setCell (Nat.le_refl _) _).setCell (Nat.le_refl _) _).setCell (Nat.le_refl _) _
                · have HN := hid (show textGo (s.data.toList.drop 1) [] 1 = none by
                    rw [H.out, HD.out, textGo_short _ _ _ _ H92.out (by
                      intro d he
                      rw [HD1.out] at he
                      simp at he
                      subst he
                      exact HND.out) (by rw [List.length_drop, size_toList]; omega)])
                  go_wp2_with (first | (go_at_call 28; refine (indexByte_any _ _ _).mono ?_; rintro e w2 ⟨rfl, rfl⟩; rw [hI]) | (go_at_call 29; refine (digit_any _ _).mono ?_; rintro e w2 ⟨rfl, rfl⟩))
                  refine bodyPost_ret (v := .tuple #[.agg #[.int .i64 0, .int .i64 0, .string ⟨#[]⟩, .int .i64 0], .int .i64 0]) (by simp [results, Tryd.results20, go_sem, q0, q1, q2, q3]) rfl ⟨?_, ?_⟩
                  · rw [textRes_none _ HN.out]; rfl
                  · exact (((HB.setCell (Nat.le_refl _) _).setCell (Nat.le_refl _) _).setCell (Nat.le_refl _) _).setCell (Nat.le_refl _) _
            · have HN := hid (show textGo (s.data.toList.drop 1) [] 1 = none by
                rw [H.out, HD.out, drop_end s (k + 1) (by omega), textGo_short _ _ _ _ h92 (by intro d he; simp at he) (by simp)])
              clear h10 h34 h92
              go_wp2_with fail
              refine bodyPost_ret (v := .tuple #[.agg #[.int .i64 0, .int .i64 0, .string ⟨#[]⟩, .int .i64 0], .int .i64 0]) (by simp [results, Tryd.results20, go_sem, q0, q1, q2, q3]) rfl ⟨?_, ?_⟩
              · rw [textRes_none _ HN.out]; rfl
              · exact (((HB.setCell (Nat.le_refl _) _).setCell (Nat.le_refl _) _).setCell (Nat.le_refl _) _).setCell (Nat.le_refl _) _
          · have t3 := bneT (show ¬ (s[k].toNat : Int) = 92 by omega)
            have HH := hid (show textGo (s.data.toList.drop 1) [] 1 = textGo (s.data.toList.drop (k + 1)) (out ++ [s[k]]) (k + 1) by
              rw [H.out, HD.out, textGo_plain _ _ _ _ h10 h34 h92])
            clear h10 h34 h92
            go_wp2_with (first | (at_builtin; refine app_own elem_bytes rfl _ _ rfl (w.heap.size + 1) _ _ _ rfl hown [.int .u8 s[k].toNat] rfl (by simp [Value.oneCell']) rfl _ hb (by unfold maxLen; omega) (by omega) (by omega) ?_; intro v' w1 hown1 hb1 hsz1))
            exact ⟨⟨k + 1, out ++ [s[k]], by omega, by omega, by simp; omega, by go_num, by rw [List.length_append, byteVals_append]; exact hown1, hb1, HH⟩, by simp [intOf]; omega⟩
    · have HN := hid (show textGo (s.data.toList.drop 1) [] 1 = none by rw [H.out, drop_end s k (by omega)]; rfl)
      go_wp2_with fail
      refine bodyPost_ret (v := .tuple #[.agg #[.int .i64 0, .int .i64 0, .string ⟨#[]⟩, .int .i64 0], .int .i64 0]) (by simp [results, Tryd.results20, go_sem, q0, q1, q2, q3]) rfl ⟨?_, ?_⟩
      · rw [textRes_none _ HN.out]; rfl
      · exact (((HB.setCell (Nat.le_refl _) _).setCell (Nat.le_refl _) _).setCell (Nat.le_refl _) _).setCell (Nat.le_refl _) _

end Go.Proofs.YtdochnioodedmaaDoor
