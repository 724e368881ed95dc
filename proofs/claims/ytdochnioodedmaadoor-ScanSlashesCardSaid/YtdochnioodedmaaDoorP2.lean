/- Plain laws of the scan layer: the next token is no end, and lies within the text. -/
import Derived.Test.YtdochnioodedmaaDoorP1
namespace Go.Proofs.YtdochnioodedmaaDoor
open Go Go.RowKit

theorem numRes_pos {l : List UInt8} (h : 0 < (numRes l).2) : (numRes l).1.kind = 2 ∧ (numRes l).2 ≤ l.length := by
  have := numLen_le l
  unfold numRes at h ⊢
  split at h
  · rename_i h2; rw [if_pos h2]; exact ⟨rfl, by simp only; omega⟩
  · simp at h
theorem textRes_pos {l : List UInt8} (h : 0 < (textRes l).2) : (textRes l).1.kind = 3 ∧ (textRes l).2 ≤ l.length := by
  unfold textRes at h ⊢
  split at h
  · rename_i t n h2
    have h3 := textGo_len _ _ _ _ _ h2
    rw [List.length_drop] at h3
    refine ⟨rfl, ?_⟩
    simp only
    cases l with
    | nil => simp [textGo] at h2
    | cons c r => simp only [List.length_cons] at h3 ⊢; omega
  · simp at h
theorem exprRes_pos {l : List UInt8} (h : 0 < (exprRes l).2) : (exprRes l).1.kind = 4 ∧ (exprRes l).2 ≤ l.length := by
  unfold exprRes at h ⊢
  split at h
  · simp at h
  · rename_i k h2
    have h3 := exprEnd_len _ _ _ h2
    rw [List.length_drop] at h3
    split at h
    · rename_i h4
      rw [if_pos h4]
      exact ⟨rfl, by simp only; omega⟩
    · simp at h
theorem wordTok_kind (l : List UInt8) : (wordTok l).kind ≠ 0 := by unfold wordTok; simp only; split <;> decide
theorem nextRes_pos {op : Bool} {l : List UInt8} (h : 0 < (nextRes op l).2) : (nextRes op l).1.kind ≠ 0 ∧ (nextRes op l).2 ≤ l.length := by
  cases l with
  | nil => simp [nextRes] at h
  | cons c r =>
    unfold nextRes at h ⊢
    simp only at h ⊢
    split at h
    · rename_i h1; rw [if_pos h1]; exact ⟨by decide, by simp; omega⟩
    · rename_i h1; rw [if_neg h1]
      split at h
      · rename_i h2; rw [if_pos h2]
        obtain ⟨a, b⟩ := numRes_pos h
        exact ⟨by rw [a]; decide, b⟩
      · rename_i h2; rw [if_neg h2]
        split at h
        · rename_i h3; rw [if_pos h3]
          simp only at h
          obtain ⟨a, b⟩ := textRes_pos (l := c :: r) (by omega)
          exact ⟨by rw [a]; decide, by simp only; omega⟩
        · rename_i h3; rw [if_neg h3]
          split at h
          · rename_i h4; rw [if_pos h4]
            simp only at h
            obtain ⟨a, b⟩ := exprRes_pos (l := c :: r) (by omega)
            exact ⟨by rw [a]; decide, by simp only; omega⟩
          · rename_i h4; rw [if_neg h4]
            split
            · exact ⟨wordTok_kind _, by have := wordLen_le (c :: r); simp only; omega⟩
            · exact ⟨by simp [markTok], by have := markBest_len (c :: r); simp only; omega⟩
theorem from_le {l : List UInt8} {a : Nat} (h : a ≤ l.length) : a ≤ from_ l a ∧ from_ l a ≤ l.length := by
  have := skipN_le false (l.drop a)
  rw [List.length_drop] at this
  unfold from_
  omega

theorem tokGo_over {l : List UInt8} {f a : Nat} {op : Bool} {acc : List Tok} (h : from_ l a < l.length) (h1 : (nextRes op (l.drop (from_ l a))).2 < 0) : tokGo l (f + 1) a op acc = .bad 3 (from_ l a) := by
  rw [tokGo, if_pos h, if_pos h1]
theorem tokGo_none {l : List UInt8} {f a : Nat} {op : Bool} {acc : List Tok} (h : from_ l a < l.length) (h1 : (nextRes op (l.drop (from_ l a))).2 = 0) : tokGo l (f + 1) a op acc = .bad 9 (from_ l a) := by
  rw [tokGo, if_pos h, if_neg (by omega), if_pos h1]
theorem tokGo_many {l : List UInt8} {f a : Nat} {op : Bool} {acc : List Tok} (h : from_ l a < l.length) (h1 : 0 < (nextRes op (l.drop (from_ l a))).2) (h2 : 2000 ≤ acc.length) : tokGo l (f + 1) a op acc = .bad 6 (from_ l a) := by
  rw [tokGo, if_pos h, if_neg (by omega), if_neg (by omega), if_pos h2]
theorem tokGo_more {l : List UInt8} {f a : Nat} {op : Bool} {acc : List Tok} (h : from_ l a < l.length) (h1 : 0 < (nextRes op (l.drop (from_ l a))).2) (h2 : ¬ 2000 ≤ acc.length) :
    tokGo l (f + 1) a op acc = tokGo l f (from_ l a + (nextRes op (l.drop (from_ l a))).2.toNat) (operandB (nextRes op (l.drop (from_ l a))).1.kind (nextRes op (l.drop (from_ l a))).1.text) (acc ++ [{ (nextRes op (l.drop (from_ l a))).1 with at_ := (from_ l a : Nat) }]) := by
  rw [tokGo, if_pos h, if_neg (by omega), if_neg (by omega), if_neg h2]
theorem tokGo_endmany {l : List UInt8} {f a : Nat} {op : Bool} {acc : List Tok} (h : ¬ from_ l a < l.length) (h2 : 2000 ≤ acc.length) : tokGo l (f + 1) a op acc = .bad 6 (from_ l a) := by
  rw [tokGo, if_neg h, if_pos h2]
theorem tokGo_end {l : List UInt8} {f a : Nat} {op : Bool} {acc : List Tok} (h : ¬ from_ l a < l.length) (h2 : ¬ 2000 ≤ acc.length) : tokGo l (f + 1) a op acc = .ok (acc ++ [{ noTok with at_ := (from_ l a : Nat) }]) := by
  rw [tokGo, if_neg h, if_neg h2]

end Go.Proofs.YtdochnioodedmaaDoor
