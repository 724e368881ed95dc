/- Contracts of scan.number and of its closure. -/
import Derived.Test.YtdochnioodedmaaDoorD4
import Derived.Test.YtdochnioodedmaaDoorA1
import Derived.Test.YtdochnioodedmaaDoorA5
import Derived.Deep.LoopGhost
namespace Go.Proofs.YtdochnioodedmaaDoor
open Go Go.RowKit

/-- the three blocks of scan.number: the text, the token, the place -/
abbrev nW (w : World) (s : ByteArray) (a : Int) : World := ((w.alloc (.cells #[.string s] 9)).alloc tok0).alloc (.cells #[.int .i64 a] 3)

set_option maxRecDepth 100000 in
set_option maxHeartbeats 1000000 in
theorem number1_any (s : ByteArray) (a : Nat) (w : World) (hs : s.size ≤ maxLen) (ha : a ≤ s.size) :
    Calls Tryd.prog 26 #[.pointer (some ⟨w.heap.size + 1 + 1, 0, none⟩), .pointer (some ⟨w.heap.size, 0, none⟩)] (nW w s a) fun e w' => e = .returned (.tuple #[]) ∧ w' = nW w s ((a + figs (s.data.toList.drop a) : Nat) : Int) := by
  unfold maxLen at hs
  go_enter Tryd.func26, Tryd.ntmps26
  go_wp2_with fail
  go_loopg [] (s.size - a) (fun g wr => ∃ j : Nat, a ≤ j ∧ j ≤ s.size ∧ g = s.size - j ∧ wr = nW w s j ∧ Hid (((s.data.toList.drop a).take (j - a)).all isFig = true))
  case atStart => exact ⟨a, by omega, by omega, rfl, rfl, hid (by simp)⟩
  case round =>
    obtain ⟨j, hj0, hj, rfl, rfl, H⟩ := hrel
    by_cases hjt : j < s.size
    · by_cases hg : isFig s[j] = true
      · have HS := hid (all_snoc s a j hjt hj0 isFig H.out hg)
        have HG := hid hg
        clear hg
        go_wp2_with (go_at_call 18; refine (isFigure_any _ _).mono ?_; rintro e w2 ⟨rfl, rfl⟩; rw [HG.out])
        go_roundg (s.size - (j + 1))
        case measure => omega
        case rel => exact ⟨j + 1, by omega, by omega, rfl, by first | rfl | (congr 4), HS⟩
      · have hg' : isFig s[j] = false := by simpa using hg
        have HF := hid (show figs (s.data.toList.drop a) = j - a from figs_drop_stop s a j hjt hj0 H.out hg')
        have HG := hid hg'
        clear hg hg'
        go_wp2_with (go_at_call 18; refine (isFigure_any _ _).mono ?_; rintro e w2 ⟨rfl, rfl⟩; rw [HG.out])
        go_end0
        exact ⟨rfl, by rw [HF.out, show a + (j - a) = j by omega]⟩
    · have HF := hid (show figs (s.data.toList.drop a) = s.size - a from figs_drop_end s a j (by omega) ha H.out)
      go_wp2_with fail
      go_end0
      exact ⟨rfl, by rw [HF.out, show a + (s.size - a) = j by omega]⟩

theorem nW_facts {w W : World} {s : ByteArray} {a : Int} (hb : Below (nW w s a).heap.size (nW w s a) W) :
    W.cell? ⟨w.heap.size + 1, 0, none⟩ = some (.int .i64 0) ∧ W.cell? ⟨w.heap.size + 1, 1, none⟩ = some (.int .i64 0) ∧ W.cell? ⟨w.heap.size + 1, 2, none⟩ = some (.string ⟨#[]⟩) ∧ W.cell? ⟨w.heap.size + 1, 3, none⟩ = some (.int .i64 0) ∧
    W.frozen? ⟨w.heap.size + 1, 0, none⟩ = false ∧ W.frozen? ⟨w.heap.size + 1, 1, none⟩ = false ∧ W.frozen? ⟨w.heap.size + 1, 2, none⟩ = false ∧ W.frozen? ⟨w.heap.size + 1, 3, none⟩ = false ∧
    W.cell? ⟨w.heap.size + 1 + 1, 0, none⟩ = some (.int .i64 a) ∧ Below w.heap.size w W := by
  obtain ⟨hc, hf⟩ := bcell hb
  have hs : (nW w s a).heap.size = w.heap.size + 3 := by simp [nW]
  rw [hs] at hc hf
  refine ⟨(hc _ _ (by omega)).trans ?_, (hc _ _ (by omega)).trans ?_, (hc _ _ (by omega)).trans ?_, (hc _ _ (by omega)).trans ?_, (hf _ _ (by omega)).trans ?_, (hf _ _ (by omega)).trans ?_, (hf _ _ (by omega)).trans ?_, (hf _ _ (by omega)).trans ?_, (hc _ _ (by omega)).trans ?_,
    ((((Below.refl _ _).alloc (Nat.le_refl _) _).alloc (by simp) _).alloc (by simp; omega) _).trans (hb.mono (by rw [hs]; omega))⟩
  all_goals simp [nW, go_sem]

theorem number_read (s : ByteArray) (m : Nat) (hs : s.size ≤ 140737488351232) (hpos : 0 < s.size) (hf : isFig s[0] = true) (hm : 0 < m) (hm2 : m ≤ s.size) (W : World) :
    ∃ e : Nat, Calls Tryd.prog 27 #[.string (s.extract 0 m)] W fun r w' => r = .returned (if numVal (s.data.toList.take m) ≤ 9223372036854775807 then .tuple #[.int .i64 (numVal (s.data.toList.take m) : Nat), .int .i64 e, .int .i64 0] else .tuple #[.int .i64 0, .int .i64 0, .int .i64 3]) ∧ Below W.heap.size W w' := by
  have hx : (s.extract 0 m).size = m := by rw [ByteArray.size_extract]; omega
  have h := decRead_any (s.extract 0 m) W (by omega) (by omega) (by rw [ByteArray.getElem_extract]; simpa using hf)
  rw [Lib.extract_from_zero] at h
  exact ⟨_, h⟩
theorem number_read_ok (s : ByteArray) (m : Nat) (hs : s.size ≤ 140737488351232) (hpos : 0 < s.size) (hf : isFig s[0] = true) (hm : 0 < m) (hm2 : m ≤ s.size) (hv : numVal (s.data.toList.take m) ≤ 9223372036854775807) (W : World) :
    Calls Tryd.prog 27 #[.string (s.extract 0 m)] W fun r w' => (∃ e : Nat, r = .returned (.tuple #[.int .i64 (numVal (s.data.toList.take m) : Nat), .int .i64 e, .int .i64 0])) ∧ Below W.heap.size W w' := by
  obtain ⟨e, h⟩ := number_read s m hs hpos hf hm hm2 W
  exact h.mono fun r w' ⟨hr, hb⟩ => ⟨⟨e, by rw [hr, if_pos hv]⟩, hb⟩
theorem number_read_bad (s : ByteArray) (m : Nat) (hs : s.size ≤ 140737488351232) (hpos : 0 < s.size) (hf : isFig s[0] = true) (hm : 0 < m) (hm2 : m ≤ s.size) (hv : ¬ numVal (s.data.toList.take m) ≤ 9223372036854775807) (W : World) :
    Calls Tryd.prog 27 #[.string (s.extract 0 m)] W fun r w' => r = .returned (.tuple #[.int .i64 0, .int .i64 0, .int .i64 3]) ∧ Below W.heap.size W w' := by
  obtain ⟨e, h⟩ := number_read s m hs hpos hf hm hm2 W
  exact h.mono fun r w' ⟨hr, hb⟩ => ⟨by rw [hr, if_neg hv], hb⟩

set_option maxRecDepth 100000 in
set_option maxHeartbeats 4000000 in
theorem number_any (s : ByteArray) (w : World) (hs : s.size ≤ 140737488351232) (hpos : 0 < s.size) (hf : isFig s[0] = true) :
    Calls Tryd.prog 19 #[.string s] w fun e w' => e = .returned (.tuple #[tokVal (numRes s.data.toList).1, .int .i64 (numRes s.data.toList).2]) ∧ Below w.heap.size w w' := by
  have hsm : s.size ≤ maxLen := by unfold maxLen; omega
  have hmf : ∀ (fn : Fn) (first cap : Array Value) (w : World), (Instr.makeFunc fn first cap).run Tryd.prog w = .ok (.func fn first cap) w := fun _ _ _ _ => rfl
  have hfl := figs_le s.data.toList
  have hfp := figs_pos s hpos hf
  rw [size_toList] at hfl
  have h1 : ∀ W, W = nW w s 0 → Calls Tryd.prog 26 #[.pointer (some ⟨w.heap.size + 1 + 1, 0, none⟩), .pointer (some ⟨w.heap.size, 0, none⟩)] W fun e w' => e = .returned (.tuple #[]) ∧ w' = nW w s ((figs s.data.toList : Nat) : Int) := by
    rintro W rfl
    have h := number1_any s 0 w hsm (Nat.zero_le _)
    rw [List.drop_zero, Nat.zero_add] at h
    exact h
  generalize hfg : figs s.data.toList = a at hfl h1 hfp
  have HA := hid hfg
  clear hfg
  by_cases hl1 : a + 1 < s.size
  · have HD0 := hid (drop_cons s a (by omega))
    have HD1 := hid (drop_cons s (a + 1) hl1)
    by_cases h46 : s[a].toNat = 46
    · have t46 := beqT (show (s[a].toNat : Int) = 46 by omega)
      by_cases hg : isFig s[a + 1] = true
      · have HFG := hid hg
        obtain ⟨m, hm⟩ : ∃ m, a + 1 + figs (s.data.toList.drop (a + 1)) = m := ⟨_, rfl⟩
        have hml := figs_le (s.data.toList.drop (a + 1))
        rw [List.length_drop, size_toList] at hml
        have H46 := hid h46
        have HMM := hid hm
        have h2 : ∀ W, W = nW w s ((a : Int) + 1) → Calls Tryd.prog 26 #[.pointer (some ⟨w.heap.size + 1 + 1, 0, none⟩), .pointer (some ⟨w.heap.size, 0, none⟩)] W fun e w' => e = .returned (.tuple #[]) ∧ w' = nW w s ((m : Nat) : Int) := by
          rintro W rfl
          have h := number1_any s (a + 1) w hsm (by omega)
          rw [hm] at h
          exact h
        have hma : a + 1 ≤ m := by omega
        have hms : m ≤ s.size := by omega
        clear h46 hg hm hml
        have HM := hid (show numLen s.data.toList = m by unfold numLen; rw [HA.out, HD0.out, HD1.out]; simp only; rw [if_pos ⟨H46.out, HFG.out⟩, ← HD1.out]; exact HMM.out)
        by_cases hv : numVal (s.data.toList.take m) ≤ 9223372036854775807
        · have hr := number_read_ok s m hs hpos hf (by omega) (by omega) hv
          have HRES := hid (show numRes s.data.toList = ({ kind := 2, at_ := 0, text := [], n := (numVal (s.data.toList.take m) : Nat) }, ((m : Nat) : Int)) by
            unfold numRes; rw [HM.out, if_pos hv])
          clear hv
          generalize numVal (s.data.toList.take m) = nv at hr HRES
          go_enter Tryd.func19, Tryd.ntmps19
          go_wp2_with (first | (go_at_call 26; (first | (guard_target =~ Calls _ _ _ (nW w s 0) _; refine (h1 _ rfl).mono ?_) | refine (h2 _ rfl).mono ?_); rintro e w2 ⟨rfl, rfl⟩) | (go_at_call 18; refine (isFigure_any _ _).mono ?_; rintro e w2 ⟨rfl, rfl⟩; rw [HFG.out]) | (go_at_call 27; refine (hr _).mono ?_; rintro e w2 ⟨⟨ue, rfl⟩, hb2⟩; obtain ⟨q0, q1, q2, q3, f0, f1, f2, f3, c2, HB⟩ := nW_facts hb2))
          go_region
          go_wp2_with fail
          refine bodyPost_ret (v := .tuple #[.agg #[.int .i64 2, .int .i64 0, .string ⟨#[]⟩, .int .i64 nv], .int .i64 ((m : Nat) : Int)]) (by simp [results, Tryd.results19, go_sem, q0, q1, q2, q3]) rfl ⟨?_, ?_⟩
          · rw [HRES.out]; rfl
          · exact ((((HB.setCell (by simp) _).setCell (by simp) _).setCell (by simp) _).setCell (by simp) _).drew
        · have hr := number_read_bad s m hs hpos hf (by omega) (by omega) hv
          have HRES := hid (show numRes s.data.toList = ({ kind := 0, at_ := 0, text := [], n := 0 }, -1) by
            unfold numRes; rw [HM.out, if_neg hv])
          clear hv
          go_enter Tryd.func19, Tryd.ntmps19
          go_wp2_with (first | (go_at_call 26; (first | (guard_target =~ Calls _ _ _ (nW w s 0) _; refine (h1 _ rfl).mono ?_) | refine (h2 _ rfl).mono ?_); rintro e w2 ⟨rfl, rfl⟩) | (go_at_call 18; refine (isFigure_any _ _).mono ?_; rintro e w2 ⟨rfl, rfl⟩; rw [HFG.out]) | (go_at_call 27; refine (hr _).mono ?_; rintro e w2 ⟨rfl, hb2⟩; obtain ⟨q0, q1, q2, q3, f0, f1, f2, f3, c2, HB⟩ := nW_facts hb2))
          refine bodyPost_ret (v := .tuple #[.agg #[.int .i64 0, .int .i64 0, .string ⟨#[]⟩, .int .i64 0], .int .i64 (-1)]) (by simp [results, Tryd.results19, go_sem, q0, q1, q2, q3]) rfl ⟨?_, ?_⟩
          · rw [HRES.out]; rfl
          · exact (((HB.setCell (by simp) _).setCell (by simp) _).setCell (by simp) _).setCell (by simp) _
      · have hg' : isFig s[a + 1] = false := by simpa using hg
        have HFG := hid hg'
        have HNG := hid (show numLen s.data.toList = a by unfold numLen; rw [HA.out, HD0.out, HD1.out]; simp only; rw [if_neg (fun h => hg h.2)])
        clear h46 hg hg'
        have HM := hid (show numLen s.data.toList = a by exact HNG.out)
        by_cases hv : numVal (s.data.toList.take a) ≤ 9223372036854775807
        · have hr := number_read_ok s a hs hpos hf (by omega) (by omega) hv
          have HRES := hid (show numRes s.data.toList = ({ kind := 2, at_ := 0, text := [], n := (numVal (s.data.toList.take a) : Nat) }, ((a : Nat) : Int)) by
            unfold numRes; rw [HM.out, if_pos hv])
          clear hv
          generalize numVal (s.data.toList.take a) = nv at hr HRES
          go_enter Tryd.func19, Tryd.ntmps19
          go_wp2_with (first | (go_at_call 26; refine (h1 _ rfl).mono ?_; rintro e w2 ⟨rfl, rfl⟩) | (go_at_call 18; refine (isFigure_any _ _).mono ?_; rintro e w2 ⟨rfl, rfl⟩; rw [HFG.out]) | (go_at_call 27; refine (hr _).mono ?_; rintro e w2 ⟨⟨ue, rfl⟩, hb2⟩; obtain ⟨q0, q1, q2, q3, f0, f1, f2, f3, c2, HB⟩ := nW_facts hb2))
          go_region
          go_wp2_with fail
          refine bodyPost_ret (v := .tuple #[.agg #[.int .i64 2, .int .i64 0, .string ⟨#[]⟩, .int .i64 nv], .int .i64 ((a : Nat) : Int)]) (by simp [results, Tryd.results19, go_sem, q0, q1, q2, q3]) rfl ⟨?_, ?_⟩
          · rw [HRES.out]; rfl
          · exact ((((HB.setCell (by simp) _).setCell (by simp) _).setCell (by simp) _).setCell (by simp) _).drew
        · have hr := number_read_bad s a hs hpos hf (by omega) (by omega) hv
          have HRES := hid (show numRes s.data.toList = ({ kind := 0, at_ := 0, text := [], n := 0 }, -1) by
            unfold numRes; rw [HM.out, if_neg hv])
          clear hv
          go_enter Tryd.func19, Tryd.ntmps19
          go_wp2_with (first | (go_at_call 26; refine (h1 _ rfl).mono ?_; rintro e w2 ⟨rfl, rfl⟩) | (go_at_call 18; refine (isFigure_any _ _).mono ?_; rintro e w2 ⟨rfl, rfl⟩; rw [HFG.out]) | (go_at_call 27; refine (hr _).mono ?_; rintro e w2 ⟨rfl, hb2⟩; obtain ⟨q0, q1, q2, q3, f0, f1, f2, f3, c2, HB⟩ := nW_facts hb2))
          refine bodyPost_ret (v := .tuple #[.agg #[.int .i64 0, .int .i64 0, .string ⟨#[]⟩, .int .i64 0], .int .i64 (-1)]) (by simp [results, Tryd.results19, go_sem, q0, q1, q2, q3]) rfl ⟨?_, ?_⟩
          · rw [HRES.out]; rfl
          · exact (((HB.setCell (by simp) _).setCell (by simp) _).setCell (by simp) _).setCell (by simp) _
    · have t46 := beqF (show ¬ (s[a].toNat : Int) = 46 by omega)
      have HNG := hid (show numLen s.data.toList = a by unfold numLen; rw [HA.out, HD0.out, HD1.out]; simp only; rw [if_neg (fun h => h46 h.1)])
      clear h46
      have HM := hid (show numLen s.data.toList = a by exact HNG.out)
      by_cases hv : numVal (s.data.toList.take a) ≤ 9223372036854775807
      · have hr := number_read_ok s a hs hpos hf (by omega) (by omega) hv
        have HRES := hid (show numRes s.data.toList = ({ kind := 2, at_ := 0, text := [], n := (numVal (s.data.toList.take a) : Nat) }, ((a : Nat) : Int)) by
          unfold numRes; rw [HM.out, if_pos hv])
        clear hv
        generalize numVal (s.data.toList.take a) = nv at hr HRES
        go_enter Tryd.func19, Tryd.ntmps19
        go_wp2_with (first | (go_at_call 26; refine (h1 _ rfl).mono ?_; rintro e w2 ⟨rfl, rfl⟩) | (go_at_call 27; refine (hr _).mono ?_; rintro e w2 ⟨⟨ue, rfl⟩, hb2⟩; obtain ⟨q0, q1, q2, q3, f0, f1, f2, f3, c2, HB⟩ := nW_facts hb2))
        go_region
        go_wp2_with fail
        refine bodyPost_ret (v := .tuple #[.agg #[.int .i64 2, .int .i64 0, .string ⟨#[]⟩, .int .i64 nv], .int .i64 ((a : Nat) : Int)]) (by simp [results, Tryd.results19, go_sem, q0, q1, q2, q3]) rfl ⟨?_, ?_⟩
        · rw [HRES.out]; rfl
        · exact ((((HB.setCell (by simp) _).setCell (by simp) _).setCell (by simp) _).setCell (by simp) _).drew
      · have hr := number_read_bad s a hs hpos hf (by omega) (by omega) hv
        have HRES := hid (show numRes s.data.toList = ({ kind := 0, at_ := 0, text := [], n := 0 }, -1) by
          unfold numRes; rw [HM.out, if_neg hv])
        clear hv
        go_enter Tryd.func19, Tryd.ntmps19
        go_wp2_with (first | (go_at_call 26; refine (h1 _ rfl).mono ?_; rintro e w2 ⟨rfl, rfl⟩) | (go_at_call 27; refine (hr _).mono ?_; rintro e w2 ⟨rfl, hb2⟩; obtain ⟨q0, q1, q2, q3, f0, f1, f2, f3, c2, HB⟩ := nW_facts hb2))
        refine bodyPost_ret (v := .tuple #[.agg #[.int .i64 0, .int .i64 0, .string ⟨#[]⟩, .int .i64 0], .int .i64 (-1)]) (by simp [results, Tryd.results19, go_sem, q0, q1, q2, q3]) rfl ⟨?_, ?_⟩
        · rw [HRES.out]; rfl
        · exact (((HB.setCell (by simp) _).setCell (by simp) _).setCell (by simp) _).setCell (by simp) _
  · have HNG := hid (show numLen s.data.toList = a by
      unfold numLen; rw [HA.out]
      by_cases hla : a < s.size
      · rw [drop_cons s a hla, drop_end s (a + 1) (by omega)]
      · rw [drop_end s a (by omega)])
    have HM := hid (show numLen s.data.toList = a by exact HNG.out)
    by_cases hv : numVal (s.data.toList.take a) ≤ 9223372036854775807
    · have hr := number_read_ok s a hs hpos hf (by omega) (by omega) hv
      have HRES := hid (show numRes s.data.toList = ({ kind := 2, at_ := 0, text := [], n := (numVal (s.data.toList.take a) : Nat) }, ((a : Nat) : Int)) by
        unfold numRes; rw [HM.out, if_pos hv])
      clear hv
      generalize numVal (s.data.toList.take a) = nv at hr HRES
      go_enter Tryd.func19, Tryd.ntmps19
      go_wp2_with (first | (go_at_call 26; refine (h1 _ rfl).mono ?_; rintro e w2 ⟨rfl, rfl⟩) | (go_at_call 27; refine (hr _).mono ?_; rintro e w2 ⟨⟨ue, rfl⟩, hb2⟩; obtain ⟨q0, q1, q2, q3, f0, f1, f2, f3, c2, HB⟩ := nW_facts hb2))
      go_region
      go_wp2_with fail
      refine bodyPost_ret (v := .tuple #[.agg #[.int .i64 2, .int .i64 0, .string ⟨#[]⟩, .int .i64 nv], .int .i64 ((a : Nat) : Int)]) (by simp [results, Tryd.results19, go_sem, q0, q1, q2, q3]) rfl ⟨?_, ?_⟩
      · rw [HRES.out]; rfl
      · exact ((((HB.setCell (by simp) _).setCell (by simp) _).setCell (by simp) _).setCell (by simp) _).drew
    · have hr := number_read_bad s a hs hpos hf (by omega) (by omega) hv
      have HRES := hid (show numRes s.data.toList = ({ kind := 0, at_ := 0, text := [], n := 0 }, -1) by
        unfold numRes; rw [HM.out, if_neg hv])
      clear hv
      go_enter Tryd.func19, Tryd.ntmps19
      go_wp2_with (first | (go_at_call 26; refine (h1 _ rfl).mono ?_; rintro e w2 ⟨rfl, rfl⟩) | (go_at_call 27; refine (hr _).mono ?_; rintro e w2 ⟨rfl, hb2⟩; obtain ⟨q0, q1, q2, q3, f0, f1, f2, f3, c2, HB⟩ := nW_facts hb2))
      refine bodyPost_ret (v := .tuple #[.agg #[.int .i64 0, .int .i64 0, .string ⟨#[]⟩, .int .i64 0], .int .i64 (-1)]) (by simp [results, Tryd.results19, go_sem, q0, q1, q2, q3]) rfl ⟨?_, ?_⟩
      · rw [HRES.out]; rfl
      · exact (((HB.setCell (by simp) _).setCell (by simp) _).setCell (by simp) _).setCell (by simp) _

end Go.Proofs.YtdochnioodedmaaDoor
