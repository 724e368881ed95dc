/- Plain words of package class: how long the text of a set of bytes is. -/
import Derived.Test.YtdochnioodedmaaDoorM3
namespace Go.Proofs.YtdochnioodedmaaDoor
open Go Go.RowKit

/-- one part of a set's text, a byte or a span: how long it is -/
def rangeLen (r : List UInt8) : Option Nat :=
  match signOf r with
  | none => none
  | some (a, n) =>
    if (r.drop n).head? = some 45 then
      match signOf (r.drop (n + 1)) with
      | none => none
      | some (b, m) => if b.toNat < a.toNat then none else some (n + 1 + m)
    else some n
def setGo : Nat → Bool → List UInt8 → Option Nat
  | 0, _, _ => none
  | f + 1, many, r => if many = true ∧ r.head? = some 93 then some 1 else
    match rangeLen r with
    | none => none
    | some n => (setGo f true (r.drop n)).map (n + ·)
/-- class.Read: how long the set's text is -/
def classLen (s : List UInt8) : Option Nat :=
  if s.head? ≠ some 91 then none else
  (setGo (s.length + 1) false (s.drop (if (s.drop 1).head? = some 94 then 2 else 1))).map ((if (s.drop 1).head? = some 94 then 2 else 1) + ·)

theorem rangeLen_none {r : List UInt8} (h : signOf r = none) : rangeLen r = none := by unfold rangeLen; rw [h]
theorem rangeLen_one {r : List UInt8} {a : UInt8} {n : Nat} (h : signOf r = some (a, n)) (h2 : (r.drop n).head? ≠ some 45) : rangeLen r = some n := by
  unfold rangeLen; rw [h]; simp only; rw [if_neg h2]
theorem rangeLen_bad {r : List UInt8} {a : UInt8} {n : Nat} (h : signOf r = some (a, n)) (h2 : (r.drop n).head? = some 45) (h3 : signOf (r.drop (n + 1)) = none) : rangeLen r = none := by
  unfold rangeLen; rw [h]; simp only; rw [if_pos h2, h3]
theorem rangeLen_turned {r : List UInt8} {a b : UInt8} {n m : Nat} (h : signOf r = some (a, n)) (h2 : (r.drop n).head? = some 45) (h3 : signOf (r.drop (n + 1)) = some (b, m)) (hl : b.toNat < a.toNat) : rangeLen r = none := by
  unfold rangeLen; rw [h]; simp only; rw [if_pos h2, h3]; simp only; rw [if_pos hl]
theorem rangeLen_two {r : List UInt8} {a b : UInt8} {n m : Nat} (h : signOf r = some (a, n)) (h2 : (r.drop n).head? = some 45) (h3 : signOf (r.drop (n + 1)) = some (b, m)) (hl : ¬ b.toNat < a.toNat) : rangeLen r = some (n + 1 + m) := by
  unfold rangeLen; rw [h]; simp only; rw [if_pos h2, h3]; simp only; rw [if_neg hl]

theorem setGo_succ (f : Nat) (many : Bool) (r : List UInt8) : setGo (f + 1) many r = if many = true ∧ r.head? = some 93 then some 1 else
    match rangeLen r with
    | none => none
    | some n => (setGo f true (r.drop n)).map (n + ·) := rfl
theorem setGo_end {f : Nat} {r : List UInt8} (h : r.head? = some 93) : setGo (f + 1) true r = some 1 := by
  rw [setGo_succ, if_pos ⟨rfl, h⟩]
theorem setGo_none {f : Nat} {m : Bool} {r : List UInt8} (h : ¬ (m = true ∧ r.head? = some 93)) (h2 : rangeLen r = none) : setGo (f + 1) m r = none := by
  rw [setGo_succ, if_neg h, h2]
theorem setGo_some {f n : Nat} {m : Bool} {r : List UInt8} (h : ¬ (m = true ∧ r.head? = some 93)) (h2 : rangeLen r = some n) : setGo (f + 1) m r = (setGo f true (r.drop n)).map (n + ·) := by
  rw [setGo_succ, if_neg h, h2]

theorem class_step {L : Option Nat} {l : List UInt8} {k g m n : Nat} (HE : L = (setGo (g + 1) (decide (0 < m)) (l.drop k)).map (k + ·)) (hne : ¬ (0 < m ∧ (l.drop k).head? = some 93)) (hr : rangeLen (l.drop k) = some n) :
    L = (setGo g (decide (0 < m + 1)) (l.drop (k + n))).map (k + n + ·) := by
  rw [HE, setGo_some (by simpa using hne) hr, List.drop_drop, Option.map_map, decide_eq_true (show 0 < m + 1 by omega)]
  congr 1
  funext x
  simp [Nat.add_assoc]
theorem class_none {L : Option Nat} {l : List UInt8} {k g m : Nat} (HE : L = (setGo (g + 1) (decide (0 < m)) (l.drop k)).map (k + ·)) (hne : ¬ (0 < m ∧ (l.drop k).head? = some 93)) (hr : rangeLen (l.drop k) = none) : L = none := by
  rw [HE, setGo_none (by simpa using hne) hr]; rfl
theorem class_end {L : Option Nat} {l : List UInt8} {k g m : Nat} (HE : L = (setGo (g + 1) (decide (0 < m)) (l.drop k)).map (k + ·)) (hm : 0 < m) (h : (l.drop k).head? = some 93) : L = some (k + 1) := by
  rw [HE, decide_eq_true hm, setGo_end h]; rfl

end Go.Proofs.YtdochnioodedmaaDoor
