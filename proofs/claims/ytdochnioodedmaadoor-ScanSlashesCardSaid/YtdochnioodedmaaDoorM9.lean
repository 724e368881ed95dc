/- Plain words of package scan: the regular expression between slashes, the next token, all tokens. -/
import Derived.Test.YtdochnioodedmaaDoorM8
namespace Go.Proofs.YtdochnioodedmaaDoor
open Go Go.RowKit

/-- the place of the slash that ends a regular expression -/
def exprEnd : List UInt8 → Nat → Option Nat
  | [], _ => none
  | c :: r, k =>
    if c.toNat = 10 then none
    else if c.toNat = 92 then
      match r with
      | [] => none
      | d :: r2 => if d.toNat = 10 then none else exprEnd r2 (k + 2)
    else if c.toNat = 47 then some k else exprEnd r (k + 1)
theorem exprEnd_line (c : UInt8) (r : List UInt8) (k : Nat) (h : c.toNat = 10) : exprEnd (c :: r) k = none := by
  rw [exprEnd.eq_def]; simp only; rw [if_pos h]
theorem exprEnd_slash (c : UInt8) (r : List UInt8) (k : Nat) (h : c.toNat = 47) : exprEnd (c :: r) k = some k := by
  rw [exprEnd.eq_def]; simp only; rw [if_neg (by omega), if_neg (by omega), if_pos h]
theorem exprEnd_plain (c : UInt8) (r : List UInt8) (k : Nat) (h1 : ¬ c.toNat = 10) (h2 : ¬ c.toNat = 92) (h3 : ¬ c.toNat = 47) : exprEnd (c :: r) k = exprEnd r (k + 1) := by
  rw [exprEnd.eq_def]; simp only; rw [if_neg h1, if_neg h2, if_neg h3]
theorem exprEnd_kept (c d : UInt8) (r : List UInt8) (k : Nat) (h : c.toNat = 92) (hd : ¬ d.toNat = 10) : exprEnd (c :: d :: r) k = exprEnd r (k + 2) := by
  rw [exprEnd.eq_def]; simp only; rw [if_neg (by omega), if_pos h, if_neg hd]
theorem exprEnd_keptline (c d : UInt8) (r : List UInt8) (k : Nat) (h : c.toNat = 92) (hd : d.toNat = 10) : exprEnd (c :: d :: r) k = none := by
  rw [exprEnd.eq_def]; simp only; rw [if_neg (by omega), if_pos h, if_pos hd]
theorem exprEnd_cut (c : UInt8) (k : Nat) (h : c.toNat = 92) : exprEnd [c] k = none := by
  rw [exprEnd.eq_def]; simp only; rw [if_neg (by omega), if_pos h]

abbrev noTok : Tok := { kind := 0, at_ := 0, text := [], n := 0 }
/-- scan.expression -/
def exprRes (l : List UInt8) : Tok × Nat :=
  match exprEnd (l.drop 1) 1 with
  | none => (noTok, 0)
  | some k => if reErr ((l.take k).drop 1) = 0 then ({ kind := 4, at_ := 0, text := (l.take k).drop 1, n := 0 }, k + 1) else (noTok, 0)
theorem exprRes_none {l : List UInt8} (h : exprEnd (l.drop 1) 1 = none) : exprRes l = (noTok, 0) := by unfold exprRes; rw [h]
theorem exprRes_bad {l : List UInt8} {k : Nat} (h : exprEnd (l.drop 1) 1 = some k) (h2 : ¬ reErr ((l.take k).drop 1) = 0) : exprRes l = (noTok, 0) := by unfold exprRes; rw [h]; simp only; rw [if_neg h2]
theorem exprRes_ok {l : List UInt8} {k : Nat} (h : exprEnd (l.drop 1) 1 = some k) (h2 : reErr ((l.take k).drop 1) = 0) : exprRes l = ({ kind := 4, at_ := 0, text := (l.take k).drop 1, n := 0 }, k + 1) := by unfold exprRes; rw [h]; simp only; rw [if_pos h2]

/-- scan.next -/
def nextRes (op : Bool) : List UInt8 → Tok × Int
  | [] => (noTok, 0)
  | c :: r =>
    if c.toNat = 10 ∨ c.toNat = 59 then ({ kind := 1, at_ := 0, text := [], n := 0 }, 1)
    else if isFig c = true then numRes (c :: r)
    else if c.toNat = 34 then ((textRes (c :: r)).1, ((textRes (c :: r)).2 : Nat))
    else if c.toNat = 47 ∧ op = false then ((exprRes (c :: r)).1, ((exprRes (c :: r)).2 : Nat))
    else if wordB c = true then (wordTok (c :: r), (wordLen (c :: r) : Nat))
    else (markTok (c :: r), ((markBest (c :: r)).length : Nat))

/-- scan.Tokens' result: the tokens, or what is wrong, and where -/
inductive TRes where
  | ok (l : List Tok)
  | bad (e at_ : Nat)
/-- where the next token begins -/
def from_ (l : List UInt8) (a : Nat) : Nat := a + skipN false (l.drop a)
def tokGo (l : List UInt8) : Nat → Nat → Bool → List Tok → TRes
  | 0, _, _, _ => .bad 0 0
  | f + 1, a, op, acc =>
    if from_ l a < l.length then
      if (nextRes op (l.drop (from_ l a))).2 < 0 then .bad 3 (from_ l a)
      else if (nextRes op (l.drop (from_ l a))).2 = 0 then .bad 9 (from_ l a)
      else if 2000 ≤ acc.length then .bad 6 (from_ l a)
      else tokGo l f (from_ l a + (nextRes op (l.drop (from_ l a))).2.toNat) (operandB (nextRes op (l.drop (from_ l a))).1.kind (nextRes op (l.drop (from_ l a))).1.text) (acc ++ [{ (nextRes op (l.drop (from_ l a))).1 with at_ := (from_ l a : Nat) }])
    else if 2000 ≤ acc.length then .bad 6 (from_ l a)
    else .ok (acc ++ [{ noTok with at_ := (from_ l a : Nat) }])
def tokens (l : List UInt8) : TRes := if 8192 < l.length then .bad 6 0 else tokGo l (l.length + 1) 0 false []

end Go.Proofs.YtdochnioodedmaaDoor
