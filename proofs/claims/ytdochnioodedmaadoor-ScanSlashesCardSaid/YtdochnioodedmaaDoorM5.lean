/- Plain words of package regex: whether a text is a regular expression, and how far it is read, as a function of the text. -/
import Derived.Test.YtdochnioodedmaaDoorM4
namespace Go.Proofs.YtdochnioodedmaaDoor
open Go Go.RowKit

/-- what a part of the reader comes to: a place and a number of nodes, or what is wrong -/
inductive PRes where
  | ok (at_ n : Nat)
  | bad (e : Nat)
def PRes.bind : PRes → (Nat → Nat → PRes) → PRes
  | .ok a n, f => f a n
  | .bad e, _ => .bad e
abbrev reBad : List UInt8 := [42, 43, 63, 41, 124, 123, 125, 47]
abbrev rePosts : List UInt8 := [42, 43, 63]
def putP (a n : Nat) : PRes := if 2000 ≤ n then .bad 6 else .ok a (n + 1)
/-- an atom; 'grp': what a bracket comes to -/
def atomP (grp : Nat → Nat → PRes) (l : List UInt8) (a n : Nat) : PRes :=
  match (l.drop a).head? with
  | none => .bad 0
  | some c =>
    if c = 40 then grp a n
    else if c = 46 ∨ c = 94 ∨ c = 36 then putP (a + 1) n
    else if c = 91 then
      match classLen (l.drop a) with
      | none => .bad 9
      | some m => putP (a + m) n
    else if c ∈ reBad then .bad 9
    else match signOf (l.drop a) with
      | none => .bad 9
      | some (_, m) => putP (a + m) n
/-- the signs behind an atom -/
def postsP (l : List UInt8) : Nat → Nat → Nat → PRes
  | 0, a, n => .ok a n
  | f + 1, a, n =>
    match (l.drop a).head? with
    | none => .ok a n
    | some c => if c ∈ rePosts then (putP (a + 1) n).bind (postsP l f) else .ok a n
def pieceP (grp : Nat → Nat → PRes) (l : List UInt8) (a n : Nat) : PRes := (atomP grp l a n).bind (postsP l (l.length + 1))
def catGo (grp : Nat → Nat → PRes) (l : List UInt8) : Nat → Bool → Nat → Nat → PRes
  | 0, _, _, _ => .bad 0
  | f + 1, first, a, n =>
    if (l.drop a).head? = none ∨ (l.drop a).head? = some 124 ∨ (l.drop a).head? = some 41 then (if first = true then putP a n else .ok a n)
    else (pieceP grp l a n).bind fun a n => if first = true then catGo grp l f false a n else (putP a n).bind (catGo grp l f false)
def catP (grp : Nat → Nat → PRes) (l : List UInt8) (a n : Nat) : PRes := catGo grp l (l.length + 1) true a n
def altGo (grp : Nat → Nat → PRes) (l : List UInt8) : Nat → Nat → Nat → PRes
  | 0, _, _ => .bad 0
  | f + 1, a, n => if (l.drop a).head? = some 124 then ((catP grp l (a + 1) n).bind putP).bind (altGo grp l f) else .ok a n
def allP (grp : Nat → Nat → PRes) (l : List UInt8) (a n : Nat) : PRes := (catP grp l a n).bind (altGo grp l (l.length + 1))
/-- a bracket, where so many more may stand within it -/
def groupP (l : List UInt8) : Nat → Nat → Nat → PRes
  | 0, _, _ => .bad 7
  | d + 1, a, n => (allP (groupP l d) l (a + 1) n).bind fun a n => if (l.drop a).head? = some 41 then .ok (a + 1) n else .bad 9
/-- regex.Read: what is wrong; 0: nothing -/
def reErr (l : List UInt8) : Nat :=
  match allP (groupP l 30) l 0 0 with
  | .ok a _ => if a < l.length then 9 else 0
  | .bad e => e

/-- a part's result lies behind its beginning, within the text, and has at least one node, no more than 2000 -/
def Fwd (l : List UInt8) (a : Nat) : PRes → Prop
  | .ok a2 n2 => a ≤ a2 ∧ a2 ≤ l.length ∧ 1 ≤ n2 ∧ n2 ≤ 2000
  | .bad _ => True
theorem putP_fwd {l : List UInt8} {a n : Nat} (h : a ≤ l.length) (hn : n ≤ 2000) : Fwd l a (putP a n) := by
  unfold putP
  split
  · trivial
  · exact ⟨Nat.le_refl _, h, by omega, by omega⟩
theorem Fwd.mono {l : List UInt8} {a b : Nat} {r : PRes} (h : Fwd l b r) (hab : a ≤ b) : Fwd l a r := by
  cases r with
  | ok a2 n2 => exact ⟨by have := h.1; omega, h.2⟩
  | bad e => trivial

end Go.Proofs.YtdochnioodedmaaDoor
