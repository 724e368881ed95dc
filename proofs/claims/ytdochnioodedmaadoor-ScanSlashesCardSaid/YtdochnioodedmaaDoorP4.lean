/- Plain laws of the scan layer: a run of tokens; what stands behind an end of line, or a tab, changes no token ahead of it. -/
import Derived.Test.YtdochnioodedmaaDoorP3
namespace Go.Proofs.YtdochnioodedmaaDoor
open Go Go.RowKit

theorem numRes_odd {c : UInt8} (h : Odd c) (l m : List UInt8) : numRes (l ++ c :: m) = numRes l := by
  unfold numRes
  rw [numLen_odd h, List.take_append_of_le_length (numLen_le l)]
theorem wordTok_odd {c : UInt8} (h : Odd c) (l m : List UInt8) : wordTok (l ++ c :: m) = wordTok l := by
  unfold wordTok
  rw [wordLen_odd h, List.take_append_of_le_length (wordLen_le l)]
theorem markTok_odd {c : UInt8} (h : Odd c) (l m : List UInt8) : markTok (l ++ c :: m) = markTok l := by
  unfold markTok
  rw [markBest_odd h]
theorem textRes_more {d : UInt8} {r : List UInt8} (m : List UInt8) (hp : 0 < (textRes (d :: r)).2) : textRes (d :: r ++ m) = textRes (d :: r) := by
  cases h : textGo r [] 1 with
  | none => rw [textRes_none (d :: r) h] at hp; simp at hp
  | some tn =>
    obtain ⟨t, n⟩ := tn
    rw [textRes_some (d :: r) (t := t) (n := n) h, textRes_some (d :: r ++ m) (t := t) (n := n) (textGo_more r [] m 1 t n h)]
theorem exprRes_more {d : UInt8} {r : List UInt8} (m : List UInt8) (hp : 0 < (exprRes (d :: r)).2) : exprRes (d :: r ++ m) = exprRes (d :: r) := by
  cases h : exprEnd r 1 with
  | none => rw [exprRes_none (l := d :: r) h] at hp; simp at hp
  | some k =>
    have hk := exprEnd_len _ _ _ h
    have ht : (d :: r ++ m).take k = (d :: r).take k := List.take_append_of_le_length (by simp; omega)
    have h2 : exprEnd ((d :: r ++ m).drop 1) 1 = some k := exprEnd_more r m 1 k h
    by_cases h3 : reErr (((d :: r).take k).drop 1) = 0
    · rw [exprRes_ok (l := d :: r) h h3, exprRes_ok h2 (by rw [ht]; exact h3), ht]
    · rw [exprRes_bad (l := d :: r) h h3] at hp; simp at hp
theorem nextRes_odd {op : Bool} {l : List UInt8} {c : UInt8} (hc : Odd c) (m : List UInt8) (hp : 0 < (nextRes op l).2) : nextRes op (l ++ c :: m) = nextRes op l := by
  cases l with
  | nil => simp [nextRes] at hp
  | cons d r =>
    rw [List.cons_append]
    unfold nextRes at hp ⊢
    simp only at hp ⊢
    by_cases h1 : d.toNat = 10 ∨ d.toNat = 59
    · rw [if_pos h1, if_pos h1]
    · rw [if_neg h1] at hp
      rw [if_neg h1, if_neg h1]
      by_cases h2 : isFig d = true
      · rw [if_pos h2, if_pos h2]; exact numRes_odd hc (d :: r) m
      · rw [if_neg h2] at hp
        rw [if_neg h2, if_neg h2]
        by_cases h3 : d.toNat = 34
        · rw [if_pos h3] at hp
          have := textRes_more (d := d) (r := r) (c :: m) (by simpa using hp)
          rw [List.cons_append] at this
          rw [if_pos h3, if_pos h3, this]
        · rw [if_neg h3] at hp
          rw [if_neg h3, if_neg h3]
          by_cases h4 : d.toNat = 47 ∧ op = false
          · rw [if_pos h4] at hp
            have := exprRes_more (d := d) (r := r) (c :: m) (by simpa using hp)
            rw [List.cons_append] at this
            rw [if_pos h4, if_pos h4, this]
          · rw [if_neg h4, if_neg h4]
            have e1 := wordTok_odd hc (d :: r) m
            have e2 := wordLen_odd hc (d :: r) m
            have e3 := markTok_odd hc (d :: r) m
            have e4 := markBest_odd hc (d :: r) m
            rw [List.cons_append] at e1 e2 e3 e4
            rw [e1, e2, e3, e4]

/-- the tokens from a place on, to the end -/
inductive Runs (l : List UInt8) : Nat → Bool → List Tok → Prop
  | fin (a : Nat) (op : Bool) (h : ¬ from_ l a < l.length) : Runs l a op [{ noTok with at_ := (from_ l a : Nat) }]
  | step (a : Nat) (op : Bool) (R : List Tok) (h : from_ l a < l.length) (hp : 0 < (nextRes op (l.drop (from_ l a))).2)
      (hr : Runs l (from_ l a + (nextRes op (l.drop (from_ l a))).2.toNat) (operandB (nextRes op (l.drop (from_ l a))).1.kind (nextRes op (l.drop (from_ l a))).1.text) R) :
      Runs l a op ({ (nextRes op (l.drop (from_ l a))).1 with at_ := (from_ l a : Nat) } :: R)
theorem Runs.pos {l : List UInt8} {a : Nat} {op : Bool} {R : List Tok} (h : Runs l a op R) : 0 < R.length := by cases h <;> simp

theorem runs_of_go (l : List UInt8) : ∀ (f a : Nat) (op : Bool) (acc L : List Tok), tokGo l f a op acc = .ok L → ∃ R, L = acc ++ R ∧ Runs l a op R := by
  intro f
  induction f with
  | zero => intro a op acc L h; cases h
  | succ f ih =>
    intro a op acc L h
    by_cases hlt : from_ l a < l.length
    · by_cases h0 : (nextRes op (l.drop (from_ l a))).2 < 0
      · rw [tokGo_over hlt h0] at h; cases h
      · by_cases hz : (nextRes op (l.drop (from_ l a))).2 = 0
        · rw [tokGo_none hlt hz] at h; cases h
        · have hp : 0 < (nextRes op (l.drop (from_ l a))).2 := by omega
          by_cases hm : 2000 ≤ acc.length
          · rw [tokGo_many hlt hp hm] at h; cases h
          · rw [tokGo_more hlt hp hm] at h
            obtain ⟨R, rfl, hr⟩ := ih _ _ _ _ h
            exact ⟨_ :: R, by simp, .step a op R hlt hp hr⟩
    · by_cases hm : 2000 ≤ acc.length
      · rw [tokGo_endmany hlt hm] at h; cases h
      · rw [tokGo_end hlt hm] at h
        injection h with h
        subst h
        exact ⟨_, rfl, .fin a op hlt⟩
theorem go_of_runs {l : List UInt8} {a : Nat} {op : Bool} {R : List Tok} (h : Runs l a op R) : ∀ (f : Nat) (acc : List Tok), a ≤ l.length → l.length - a < f →
    tokGo l f a op acc = .ok (acc ++ R) ∨ ∃ at_, tokGo l f a op acc = .bad 6 at_ := by
  induction h with
  | fin a op h =>
    intro f acc ha hf
    obtain ⟨f, rfl⟩ : ∃ g, f = g + 1 := ⟨f - 1, by omega⟩
    by_cases hm : 2000 ≤ acc.length
    · exact .inr ⟨_, tokGo_endmany h hm⟩
    · exact .inl (tokGo_end h hm)
  | step a op R h hp hr ih =>
    intro f acc ha hf
    obtain ⟨f, rfl⟩ : ∃ g, f = g + 1 := ⟨f - 1, by omega⟩
    obtain ⟨hf1, hf2⟩ := from_le ha
    obtain ⟨n1, n2⟩ := nextRes_next h hp
    by_cases hm : 2000 ≤ acc.length
    · exact .inr ⟨_, tokGo_many h hp hm⟩
    · rw [tokGo_more h hp hm]
      have := ih f (acc ++ [{ (nextRes op (l.drop (from_ l a))).1 with at_ := (from_ l a : Nat) }]) n2 (by omega)
      simpa using this
/-- .. of few tokens -/
theorem go_of_runs_few {l : List UInt8} {a : Nat} {op : Bool} {R : List Tok} (h : Runs l a op R) : ∀ (f : Nat) (acc : List Tok), a ≤ l.length → l.length - a < f → acc.length + R.length ≤ 2000 →
    tokGo l f a op acc = .ok (acc ++ R) := by
  induction h with
  | fin a op h =>
    intro f acc ha hf hs
    obtain ⟨f, rfl⟩ : ∃ g, f = g + 1 := ⟨f - 1, by omega⟩
    exact tokGo_end h (by simp at hs; omega)
  | step a op R h hp hr ih =>
    intro f acc ha hf hs
    obtain ⟨f, rfl⟩ : ∃ g, f = g + 1 := ⟨f - 1, by omega⟩
    obtain ⟨hf1, hf2⟩ := from_le ha
    obtain ⟨n1, n2⟩ := nextRes_next h hp
    simp only [List.length_cons] at hs
    rw [tokGo_more h hp (by omega)]
    have := ih f (acc ++ [{ (nextRes op (l.drop (from_ l a))).1 with at_ := (from_ l a : Nat) }]) n2 (by omega) (by simp; omega)
    simpa using this
theorem tokens_runs {l : List UInt8} {L : List Tok} (h : tokens l = .ok L) : Runs l 0 false L := by
  unfold tokens at h
  split at h
  · cases h
  · obtain ⟨R, rfl, hr⟩ := runs_of_go l _ _ _ _ _ h
    exact hr
theorem runs_tokens {l : List UInt8} {R : List Tok} (h : Runs l 0 false R) (hl : l.length ≤ 8192) : tokens l = .ok R ∨ ∃ at_, tokens l = .bad 6 at_ := by
  unfold tokens
  rw [if_neg (by omega)]
  simpa using go_of_runs h (l.length + 1) [] (Nat.zero_le _) (by omega)
theorem runs_tokens_few {l : List UInt8} {R : List Tok} (h : Runs l 0 false R) (hl : l.length ≤ 8192) (hr : R.length ≤ 2000) : tokens l = .ok R := by
  unfold tokens
  rw [if_neg (by omega)]
  simpa using go_of_runs_few h (l.length + 1) [] (Nat.zero_le _) (by omega) (by simpa using hr)

theorem skipN_line (b : Bool) (l m : List UInt8) {c : UInt8} (hc : c.toNat = 10) : skipN b (l ++ c :: m) = skipN b l := by
  induction l generalizing b with
  | nil => cases b <;> simp [skipN, hc]
  | cons d r ih => cases b <;> simp only [List.cons_append, skipN, ih]
theorem skipN_stop (b : Bool) (l m : List UInt8) (h : skipN b l < l.length) : skipN b (l ++ m) = skipN b l := by
  induction l generalizing b with
  | nil => simp [skipN] at h
  | cons d r ih =>
    cases b
    · simp only [List.cons_append, skipN, List.length_cons] at h ⊢
      split
      · rename_i h1; rw [if_pos h1] at h; rw [ih false (by omega)]
      · rename_i h1; rw [if_neg h1] at h
        split
        · rename_i h2; rw [if_pos h2] at h; rw [ih true (by omega)]
        · rfl
    · simp only [List.cons_append, skipN, List.length_cons] at h ⊢
      split
      · rfl
      · rename_i h1; rw [if_neg h1] at h; rw [ih true (by omega)]
theorem skipN_through (l m : List UInt8) (h : skipN false l = l.length) (h35 : ∀ c ∈ l, c.toNat ≠ 35) : skipN false (l ++ m) = l.length + skipN false m := by
  induction l with
  | nil => simp
  | cons d r ih =>
    have hd := h35 d (by simp)
    simp only [List.cons_append, skipN, List.length_cons] at h ⊢
    by_cases h1 : d.toNat = 32 ∨ d.toNat = 9
    · rw [if_pos h1] at h ⊢
      rw [ih (by omega) (fun c hc => h35 c (by simp [hc]))]
      omega
    · rw [if_neg h1, if_neg hd] at h
      omega

theorem from_line {l m : List UInt8} {a : Nat} {c : UInt8} (hc : c.toNat = 10) (ha : a ≤ l.length) : from_ (l ++ c :: m) a = from_ l a := by
  unfold from_
  rw [List.drop_append_of_le_length ha, skipN_line _ _ _ hc]
theorem from_stop {l m : List UInt8} {a : Nat} (ha : a ≤ l.length) (h : from_ l a < l.length) : from_ (l ++ m) a = from_ l a := by
  unfold from_ at h ⊢
  rw [List.drop_append_of_le_length ha, skipN_stop _ _ _ (by rw [List.length_drop]; omega)]
theorem from_shift (p l : List UInt8) (a : Nat) : from_ (p ++ l) (p.length + a) = p.length + from_ l a := by
  unfold from_
  rw [List.drop_append, List.drop_of_length_le (by omega), List.nil_append, show p.length + a - p.length = a by omega]
  omega

/-- a token, so many places further on -/
def shiftTok (k : Nat) (t : Tok) : Tok := { t with at_ := t.at_ + k }
theorem runs_shift (p : List UInt8) {l : List UInt8} {a : Nat} {op : Bool} {R : List Tok} (h : Runs l a op R) : Runs (p ++ l) (p.length + a) op (R.map (shiftTok p.length)) := by
  induction h with
  | fin a op h =>
    have e := from_shift p l a
    have := Runs.fin (l := p ++ l) (p.length + a) op (by rw [e]; simp; omega)
    rw [e] at this
    simp only [List.map_cons, List.map_nil, shiftTok]
    rw [show ((from_ l a : Nat) : Int) + (p.length : Nat) = ((p.length + from_ l a : Nat) : Int) by omega]
    exact this
  | step a op R h hp hr ih =>
    have e := from_shift p l a
    have hd : (p ++ l).drop (p.length + from_ l a) = l.drop (from_ l a) := by
      rw [List.drop_append, List.drop_of_length_le (by omega), List.nil_append, show p.length + from_ l a - p.length = from_ l a by omega]
    have := Runs.step (l := p ++ l) (p.length + a) op (R.map (shiftTok p.length)) (by rw [e]; simp; omega) (by rw [e, hd]; exact hp) (by
      rw [e, hd, Nat.add_assoc]; exact ih)
    rw [e, hd] at this
    simp only [List.map_cons, shiftTok]
    rw [show ((from_ l a : Nat) : Int) + (p.length : Nat) = ((p.length + from_ l a : Nat) : Int) by omega]
    exact this

end Go.Proofs.YtdochnioodedmaaDoor
