/- The contract of scan.next. PRINTED BY gen/xe2.py -/
import Derived.Test.YtdochnioodedmaaDoorE1
import Derived.Test.YtdochnioodedmaaDoorA3
import Derived.Test.YtdochnioodedmaaDoorA4
import Derived.Test.YtdochnioodedmaaDoorA6
namespace Go.Proofs.YtdochnioodedmaaDoor
open Go Go.RowKit

theorem nextRes_line {op : Bool} {c : UInt8} {r : List UInt8} (h : c.toNat = 10 ∨ c.toNat = 59) : nextRes op (c :: r) = ({ kind := 1, at_ := 0, text := [], n := 0 }, 1) := by
  unfold nextRes; simp only; rw [if_pos h]
theorem nextRes_num {op : Bool} {c : UInt8} {r : List UInt8} (h : ¬ (c.toNat = 10 ∨ c.toNat = 59)) (h1 : isFig c = true) : nextRes op (c :: r) = numRes (c :: r) := by
  unfold nextRes; simp only; rw [if_neg h, if_pos h1]
theorem nextRes_text {op : Bool} {c : UInt8} {r : List UInt8} (h : ¬ (c.toNat = 10 ∨ c.toNat = 59)) (h1 : isFig c = false) (h2 : c.toNat = 34) : nextRes op (c :: r) = ((textRes (c :: r)).1, (((textRes (c :: r)).2 : Nat) : Int)) := by
  unfold nextRes; simp only; rw [if_neg h, if_neg (by simp [h1]), if_pos h2]
theorem nextRes_expr {op : Bool} {c : UInt8} {r : List UInt8} (h : ¬ (c.toNat = 10 ∨ c.toNat = 59)) (h1 : isFig c = false) (h2 : ¬ c.toNat = 34) (h3 : c.toNat = 47 ∧ op = false) : nextRes op (c :: r) = ((exprRes (c :: r)).1, (((exprRes (c :: r)).2 : Nat) : Int)) := by
  unfold nextRes; simp only; rw [if_neg h, if_neg (by simp [h1]), if_neg h2, if_pos h3]
theorem nextRes_word {op : Bool} {c : UInt8} {r : List UInt8} (h : ¬ (c.toNat = 10 ∨ c.toNat = 59)) (h1 : isFig c = false) (h2 : ¬ c.toNat = 34) (h3 : ¬ (c.toNat = 47 ∧ op = false)) (h4 : wordB c = true) : nextRes op (c :: r) = (wordTok (c :: r), ((wordLen (c :: r) : Nat) : Int)) := by
  unfold nextRes; simp only; rw [if_neg h, if_neg (by simp [h1]), if_neg h2, if_neg h3, if_pos h4]
theorem nextRes_mark {op : Bool} {c : UInt8} {r : List UInt8} (h : ¬ (c.toNat = 10 ∨ c.toNat = 59)) (h1 : isFig c = false) (h2 : ¬ c.toNat = 34) (h3 : ¬ (c.toNat = 47 ∧ op = false)) (h4 : wordB c = false) : nextRes op (c :: r) = (markTok (c :: r), (((markBest (c :: r)).length : Nat) : Int)) := by
  unfold nextRes; simp only; rw [if_neg h, if_neg (by simp [h1]), if_neg h2, if_neg h3, if_neg (by simp [h4])]

theorem isName_first (s : ByteArray) (hpos : 0 < s.size) (hf : isFig s[0] = false) (w : World) :
    Calls Tryd.prog 22 #[.string (s.extract 0 1)] w fun e w' => e = .returned (.bool (wordB s[0])) ∧ Below w.heap.size w w' := by
  have h := isName_any (s.extract 0 1) w (by rw [ByteArray.size_extract]; unfold maxLen; omega)
  have e : (s.extract 0 1).data.toList = [s[0]] := by
    have h2 := drop_cons s 0 hpos
    rw [List.drop_zero] at h2
    rw [ByteArray.data_extract, Array.toList_extract, List.extract, List.drop_zero, h2]; rfl
  rw [e] at h
  have e2 : isNameB [s[0]] = wordB s[0] := by simp [isNameB, hf]
  rwa [e2] at h

set_option maxRecDepth 100000 in
set_option maxHeartbeats 4000000 in
theorem next_any (s : ByteArray) (op : Bool) (w : World) (hs : s.size ≤ 140737488351232) (hpos : 0 < s.size) :
    Calls Tryd.prog 16 #[.string s, .bool op] w fun e w' => e = .returned (.tuple #[tokVal (nextRes op s.data.toList).1, .int .i64 (nextRes op s.data.toList).2]) ∧ Below w.heap.size w w' := by
  have hsm : s.size ≤ maxLen := by unfold maxLen; omega
  have hD := drop_cons s 0 hpos
  rw [List.drop_zero] at hD
  have HD := hid hD
  clear hD
  have HB0 : Below w.heap.size w (w.alloc tok0) := (Below.refl _ _).alloc (Nat.le_refl _) _
  have hb : Below (w.heap.size + 1) (w.alloc tok0) (w.alloc tok0) := Below.refl _ _
  have hsz : w.heap.size + 1 ≤ (w.alloc tok0).heap.size := by simp
  by_cases hline : s[0].toNat = 10 ∨ s[0].toNat = 59
  · have HR : Hid (nextRes op s.data.toList = ({ kind := 1, at_ := 0, text := [], n := 0 }, 1)) := hid (by rw [HD.out]; exact nextRes_line hline)
    clear hb hsz
    rcases hline with h | h
    · have t1 := beqT (show (s[0].toNat : Int) = 10 by omega)
      clear h
      go_enter Tryd.func16, Tryd.ntmps16
      go_wp2_with fail
      refine bodyPost_ret (v := .tuple #[.agg #[.int .i64 1, .int .i64 0, .string ⟨#[]⟩, .int .i64 0], .int .i64 1]) (by simp [results, Tryd.results16, go_sem]) rfl ⟨?_, ?_⟩
      · rw [HR.out]; rfl
      · exact (Below.refl _ _).alloc (Nat.le_refl _) _
    · have t1 := beqF (show ¬ (s[0].toNat : Int) = 10 by omega)
      have t2 := beqT (show (s[0].toNat : Int) = 59 by omega)
      clear h
      go_enter Tryd.func16, Tryd.ntmps16
      go_wp2_with fail
      refine bodyPost_ret (v := .tuple #[.agg #[.int .i64 1, .int .i64 0, .string ⟨#[]⟩, .int .i64 0], .int .i64 1]) (by simp [results, Tryd.results16, go_sem]) rfl ⟨?_, ?_⟩
      · rw [HR.out]; rfl
      · exact (Below.refl _ _).alloc (Nat.le_refl _) _
  · have t1 := beqF (show ¬ (s[0].toNat : Int) = 10 by omega)
    have t2 := beqF (show ¬ (s[0].toNat : Int) = 59 by omega)
    have HL := hid hline
    clear hline
    by_cases hf : isFig s[0] = true
    · have C := fun W => number_any s W hs hpos hf
      obtain ⟨t, ht⟩ : ∃ t, (numRes s.data.toList).1 = t := ⟨_, rfl⟩
      obtain ⟨n, hn⟩ : ∃ n, (numRes s.data.toList).2 = n := ⟨_, rfl⟩
      have HR : Hid (nextRes op s.data.toList = (t, n)) := hid (by rw [← ht, ← hn, HD.out]; exact nextRes_num HL.out hf)
      rw [ht, hn] at C
      have HF := hid hf
      clear ht hn hf
      go_enter Tryd.func16, Tryd.ntmps16
      go_wp2_with (first | (go_at_call 18; refine (isFigure_any _ _).mono ?_; rintro e w9 ⟨rfl, rfl⟩; rw [HF.out]) | (go_at_call 19; refine (C _).mono ?_; rintro e w3 ⟨rfl, hb3⟩; replace hb := hb.trans (hb3.mono hsz); obtain ⟨q0, q1, q2, q3, f0, f1, f2, f3⟩ := tok_facts hb; have HB := HB0.trans (hb.mono (by omega)); clear hb3; unfold tokVal))
      refine bodyPost_ret (v := .tuple #[.agg #[.int .i64 t.kind, .int .i64 t.at_, .string (str t.text), .int .i64 t.n], .int .i64 n]) (by simp [results, Tryd.results16, go_sem, q0, q1, q2, q3]) rfl ⟨?_, ?_⟩
      · rw [HR.out]; rfl
      · exact (((HB.setCell (Nat.le_refl _) _).setCell (Nat.le_refl _) _).setCell (Nat.le_refl _) _).setCell (Nat.le_refl _) _
    · replace hf : isFig s[0] = false := by simpa using hf
      have HF := hid hf
      by_cases h34 : s[0].toNat = 34
      · have t3 := beqT (show (s[0].toNat : Int) = 34 by omega)
        have C := fun W => text_any s W hs hpos
        obtain ⟨t, ht⟩ : ∃ t, (textRes s.data.toList).1 = t := ⟨_, rfl⟩
        obtain ⟨n, hn⟩ : ∃ n : Int, ((textRes s.data.toList).2 : Int) = n := ⟨_, rfl⟩
        have HR : Hid (nextRes op s.data.toList = (t, n)) := hid (by rw [← ht, ← hn, HD.out]; exact nextRes_text HL.out hf h34)
        rw [ht, hn] at C
        clear ht hn hf h34
        go_enter Tryd.func16, Tryd.ntmps16
        go_wp2_with (first | (go_at_call 18; refine (isFigure_any _ _).mono ?_; rintro e w9 ⟨rfl, rfl⟩; rw [HF.out]) | (go_at_call 20; refine (C _).mono ?_; rintro e w3 ⟨rfl, hb3⟩; replace hb := hb.trans (hb3.mono hsz); obtain ⟨q0, q1, q2, q3, f0, f1, f2, f3⟩ := tok_facts hb; have HB := HB0.trans (hb.mono (by omega)); clear hb3; unfold tokVal))
        refine bodyPost_ret (v := .tuple #[.agg #[.int .i64 t.kind, .int .i64 t.at_, .string (str t.text), .int .i64 t.n], .int .i64 n]) (by simp [results, Tryd.results16, go_sem, q0, q1, q2, q3]) rfl ⟨?_, ?_⟩
        · rw [HR.out]; rfl
        · exact (((HB.setCell (Nat.le_refl _) _).setCell (Nat.le_refl _) _).setCell (Nat.le_refl _) _).setCell (Nat.le_refl _) _
      · have t3 := beqF (show ¬ (s[0].toNat : Int) = 34 by omega)
        by_cases h47 : s[0].toNat = 47 ∧ op = false
        · obtain ⟨h47, rfl⟩ := h47
          have t4 := beqT (show (s[0].toNat : Int) = 47 by omega)
          have C := fun W => expression_any s W hs hpos
          obtain ⟨t, ht⟩ : ∃ t, (exprRes s.data.toList).1 = t := ⟨_, rfl⟩
          obtain ⟨n, hn⟩ : ∃ n : Int, ((exprRes s.data.toList).2 : Int) = n := ⟨_, rfl⟩
          have HR : Hid (nextRes false s.data.toList = (t, n)) := hid (by rw [← ht, ← hn, HD.out]; exact nextRes_expr HL.out hf h34 ⟨h47, rfl⟩)
          rw [ht, hn] at C
          clear ht hn hf h34 h47
          go_enter Tryd.func16, Tryd.ntmps16
          go_wp2_with (first | (go_at_call 18; refine (isFigure_any _ _).mono ?_; rintro e w9 ⟨rfl, rfl⟩; rw [HF.out]) | (go_at_call 21; refine (C _).mono ?_; rintro e w3 ⟨rfl, hb3⟩; replace hb := hb.trans (hb3.mono hsz); obtain ⟨q0, q1, q2, q3, f0, f1, f2, f3⟩ := tok_facts hb; have HB := HB0.trans (hb.mono (by omega)); clear hb3; unfold tokVal))
          refine bodyPost_ret (v := .tuple #[.agg #[.int .i64 t.kind, .int .i64 t.at_, .string (str t.text), .int .i64 t.n], .int .i64 n]) (by simp [results, Tryd.results16, go_sem, q0, q1, q2, q3]) rfl ⟨?_, ?_⟩
          · rw [HR.out]; rfl
          · exact (((HB.setCell (Nat.le_refl _) _).setCell (Nat.le_refl _) _).setCell (Nat.le_refl _) _).setCell (Nat.le_refl _) _
        · have H47 := hid h47
          have N1 := fun W => isName_first s hpos hf W
          by_cases hw : wordB s[0] = true
          · have C := fun W => word_any s W hsm hpos hf hw
            rw [hw] at N1
            obtain ⟨t, ht⟩ : ∃ t, wordTok s.data.toList = t := ⟨_, rfl⟩
            obtain ⟨n, hn⟩ : ∃ n : Int, ((wordLen s.data.toList : Nat) : Int) = n := ⟨_, rfl⟩
            have HR : Hid (nextRes op s.data.toList = (t, n)) := hid (by rw [← ht, ← hn, HD.out]; exact nextRes_word HL.out hf h34 H47.out hw)
            rw [ht, hn] at C
            clear ht hn hf h34 hw
            by_cases h47b : s[0].toNat = 47
            · have t4 := beqT (show (s[0].toNat : Int) = 47 by omega)
              obtain rfl : op = true := by
                cases op with
                | true => rfl
                | false => exact absurd ⟨h47b, rfl⟩ H47.out
              clear h47 h47b
              go_enter Tryd.func16, Tryd.ntmps16
              go_wp2_with (first | (go_at_call 18; refine (isFigure_any _ _).mono ?_; rintro e w9 ⟨rfl, rfl⟩; rw [HF.out]) | (go_at_call 22; refine (N1 _).mono ?_; rintro e w2 ⟨rfl, hb2⟩; clear N1; replace hb := hb.trans (hb2.mono hsz); replace hsz := Nat.le_trans hsz hb2.size; clear hb2) | (go_at_call 23; refine (C _).mono ?_; rintro e w3 ⟨rfl, hb3⟩; replace hb := hb.trans (hb3.mono hsz); obtain ⟨q0, q1, q2, q3, f0, f1, f2, f3⟩ := tok_facts hb; have HB := HB0.trans (hb.mono (by omega)); clear hb3; unfold tokVal))
              refine bodyPost_ret (v := .tuple #[.agg #[.int .i64 t.kind, .int .i64 t.at_, .string (str t.text), .int .i64 t.n], .int .i64 n]) (by simp [results, Tryd.results16, go_sem, q0, q1, q2, q3]) rfl ⟨?_, ?_⟩
              · rw [HR.out]; rfl
              · exact (((HB.setCell (Nat.le_refl _) _).setCell (Nat.le_refl _) _).setCell (Nat.le_refl _) _).setCell (Nat.le_refl _) _
            · have t4 := beqF (show ¬ (s[0].toNat : Int) = 47 by omega)
              clear h47 h47b
              go_enter Tryd.func16, Tryd.ntmps16
              go_wp2_with (first | (go_at_call 18; refine (isFigure_any _ _).mono ?_; rintro e w9 ⟨rfl, rfl⟩; rw [HF.out]) | (go_at_call 22; refine (N1 _).mono ?_; rintro e w2 ⟨rfl, hb2⟩; clear N1; replace hb := hb.trans (hb2.mono hsz); replace hsz := Nat.le_trans hsz hb2.size; clear hb2) | (go_at_call 23; refine (C _).mono ?_; rintro e w3 ⟨rfl, hb3⟩; replace hb := hb.trans (hb3.mono hsz); obtain ⟨q0, q1, q2, q3, f0, f1, f2, f3⟩ := tok_facts hb; have HB := HB0.trans (hb.mono (by omega)); clear hb3; unfold tokVal))
              refine bodyPost_ret (v := .tuple #[.agg #[.int .i64 t.kind, .int .i64 t.at_, .string (str t.text), .int .i64 t.n], .int .i64 n]) (by simp [results, Tryd.results16, go_sem, q0, q1, q2, q3]) rfl ⟨?_, ?_⟩
              · rw [HR.out]; rfl
              · exact (((HB.setCell (Nat.le_refl _) _).setCell (Nat.le_refl _) _).setCell (Nat.le_refl _) _).setCell (Nat.le_refl _) _
          · replace hw : wordB s[0] = false := by simpa using hw
            have C := fun W => mark_any s W
            rw [hw] at N1
            obtain ⟨t, ht⟩ : ∃ t, markTok s.data.toList = t := ⟨_, rfl⟩
            obtain ⟨n, hn⟩ : ∃ n : Int, (((markBest s.data.toList).length : Nat) : Int) = n := ⟨_, rfl⟩
            have HR : Hid (nextRes op s.data.toList = (t, n)) := hid (by rw [← ht, ← hn, HD.out]; exact nextRes_mark HL.out hf h34 H47.out hw)
            rw [ht, hn] at C
            clear ht hn hf h34 hw
            by_cases h47b : s[0].toNat = 47
            · have t4 := beqT (show (s[0].toNat : Int) = 47 by omega)
              obtain rfl : op = true := by
                cases op with
                | true => rfl
                | false => exact absurd ⟨h47b, rfl⟩ H47.out
              clear h47 h47b
              go_enter Tryd.func16, Tryd.ntmps16
              go_wp2_with (first | (go_at_call 18; refine (isFigure_any _ _).mono ?_; rintro e w9 ⟨rfl, rfl⟩; rw [HF.out]) | (go_at_call 22; refine (N1 _).mono ?_; rintro e w2 ⟨rfl, hb2⟩; clear N1; replace hb := hb.trans (hb2.mono hsz); replace hsz := Nat.le_trans hsz hb2.size; clear hb2) | (go_at_call 24; refine (C _).mono ?_; rintro e w3 ⟨rfl, hb3⟩; replace hb := hb.trans (hb3.mono hsz); obtain ⟨q0, q1, q2, q3, f0, f1, f2, f3⟩ := tok_facts hb; have HB := HB0.trans (hb.mono (by omega)); clear hb3; unfold tokVal))
              refine bodyPost_ret (v := .tuple #[.agg #[.int .i64 t.kind, .int .i64 t.at_, .string (str t.text), .int .i64 t.n], .int .i64 n]) (by simp [results, Tryd.results16, go_sem, q0, q1, q2, q3]) rfl ⟨?_, ?_⟩
              · rw [HR.out]; rfl
              · exact (((HB.setCell (Nat.le_refl _) _).setCell (Nat.le_refl _) _).setCell (Nat.le_refl _) _).setCell (Nat.le_refl _) _
            · have t4 := beqF (show ¬ (s[0].toNat : Int) = 47 by omega)
              clear h47 h47b
              go_enter Tryd.func16, Tryd.ntmps16
              go_wp2_with (first | (go_at_call 18; refine (isFigure_any _ _).mono ?_; rintro e w9 ⟨rfl, rfl⟩; rw [HF.out]) | (go_at_call 22; refine (N1 _).mono ?_; rintro e w2 ⟨rfl, hb2⟩; clear N1; replace hb := hb.trans (hb2.mono hsz); replace hsz := Nat.le_trans hsz hb2.size; clear hb2) | (go_at_call 24; refine (C _).mono ?_; rintro e w3 ⟨rfl, hb3⟩; replace hb := hb.trans (hb3.mono hsz); obtain ⟨q0, q1, q2, q3, f0, f1, f2, f3⟩ := tok_facts hb; have HB := HB0.trans (hb.mono (by omega)); clear hb3; unfold tokVal))
              refine bodyPost_ret (v := .tuple #[.agg #[.int .i64 t.kind, .int .i64 t.at_, .string (str t.text), .int .i64 t.n], .int .i64 n]) (by simp [results, Tryd.results16, go_sem, q0, q1, q2, q3]) rfl ⟨?_, ?_⟩
              · rw [HR.out]; rfl
              · exact (((HB.setCell (Nat.le_refl _) _).setCell (Nat.le_refl _) _).setCell (Nat.le_refl _) _).setCell (Nat.le_refl _) _

end Go.Proofs.YtdochnioodedmaaDoor
