/- Plain words of package regex: each step of its loops. -/
import Derived.Test.YtdochnioodedmaaDoorM7
namespace Go.Proofs.YtdochnioodedmaaDoor
open Go Go.RowKit

theorem head_some {s : ByteArray} {a : Nat} (h : a < s.size) : (s.data.toList.drop a).head? = some s[a] := by rw [drop_cons s a h]; rfl
theorem head_none {s : ByteArray} {a : Nat} (h : s.size ≤ a) : (s.data.toList.drop a).head? = none := by rw [drop_end s a h]; rfl
theorem putP_ok {a n : Nat} (h : n < 2000) : putP a n = .ok a (n + 1) := by unfold putP; rw [if_neg (by omega)]
theorem putP_bad {a n : Nat} (h : 2000 ≤ n) : putP a n = .bad 6 := by unfold putP; rw [if_pos h]

theorem postsP_end {l : List UInt8} {f a n : Nat} (h : (l.drop a).head? = none) : postsP l (f + 1) a n = .ok a n := by
  unfold postsP; rw [h]
theorem postsP_stop {l : List UInt8} {f a n : Nat} {c : UInt8} (h : (l.drop a).head? = some c) (hc : c ∉ rePosts) : postsP l (f + 1) a n = .ok a n := by
  unfold postsP; rw [h]; simp only; rw [if_neg hc]
theorem postsP_step {l : List UInt8} {f a n : Nat} {c : UInt8} (h : (l.drop a).head? = some c) (hc : c ∈ rePosts) : postsP l (f + 1) a n = (putP (a + 1) n).bind (postsP l f) := by
  conv => lhs; unfold postsP
  rw [h]; simp only; rw [if_pos hc]

theorem pieceP_ok {grp : Nat → Nat → PRes} {l : List UInt8} {a n a2 n2 : Nat} (h : atomP grp l a n = .ok a2 n2) : pieceP grp l a n = postsP l (l.length + 1) a2 n2 := by
  unfold pieceP; rw [h]; rfl
theorem pieceP_bad {grp : Nat → Nat → PRes} {l : List UInt8} {a n e : Nat} (h : atomP grp l a n = .bad e) : pieceP grp l a n = .bad e := by
  unfold pieceP; rw [h]; rfl

theorem catGo_end {grp : Nat → Nat → PRes} {l : List UInt8} {f a n : Nat} {first : Bool} (h : (l.drop a).head? = none ∨ (l.drop a).head? = some 124 ∨ (l.drop a).head? = some 41) :
    catGo grp l (f + 1) first a n = if first = true then putP a n else .ok a n := by
  unfold catGo; rw [if_pos h]
theorem catGo_bad {grp : Nat → Nat → PRes} {l : List UInt8} {f a n e : Nat} {first : Bool} (h : ¬ ((l.drop a).head? = none ∨ (l.drop a).head? = some 124 ∨ (l.drop a).head? = some 41)) (hp : pieceP grp l a n = .bad e) :
    catGo grp l (f + 1) first a n = .bad e := by
  unfold catGo; rw [if_neg h, hp]; rfl
theorem catGo_first {grp : Nat → Nat → PRes} {l : List UInt8} {f a n a2 n2 : Nat} (h : ¬ ((l.drop a).head? = none ∨ (l.drop a).head? = some 124 ∨ (l.drop a).head? = some 41)) (hp : pieceP grp l a n = .ok a2 n2) :
    catGo grp l (f + 1) true a n = catGo grp l f false a2 n2 := by
  conv => lhs; unfold catGo
  rw [if_neg h, hp]; rfl
theorem catGo_more {grp : Nat → Nat → PRes} {l : List UInt8} {f a n a2 n2 : Nat} (h : ¬ ((l.drop a).head? = none ∨ (l.drop a).head? = some 124 ∨ (l.drop a).head? = some 41)) (hp : pieceP grp l a n = .ok a2 n2) :
    catGo grp l (f + 1) false a n = (putP a2 n2).bind (catGo grp l f false) := by
  conv => lhs; unfold catGo
  rw [if_neg h, hp]; rfl

theorem altGo_end {grp : Nat → Nat → PRes} {l : List UInt8} {f a n : Nat} (h : ¬ (l.drop a).head? = some 124) : altGo grp l (f + 1) a n = .ok a n := by
  unfold altGo; rw [if_neg h]
theorem altGo_bad {grp : Nat → Nat → PRes} {l : List UInt8} {f a n e : Nat} (h : (l.drop a).head? = some 124) (hc : catP grp l (a + 1) n = .bad e) : altGo grp l (f + 1) a n = .bad e := by
  unfold altGo; rw [if_pos h, hc]; rfl
theorem altGo_put {grp : Nat → Nat → PRes} {l : List UInt8} {f a n a2 n2 : Nat} (h : (l.drop a).head? = some 124) (hc : catP grp l (a + 1) n = .ok a2 n2) : altGo grp l (f + 1) a n = (putP a2 n2).bind (altGo grp l f) := by
  conv => lhs; unfold altGo
  rw [if_pos h, hc]; rfl
theorem allP_ok {grp : Nat → Nat → PRes} {l : List UInt8} {a n a2 n2 : Nat} (h : catP grp l a n = .ok a2 n2) : allP grp l a n = altGo grp l (l.length + 1) a2 n2 := by
  unfold allP; rw [h]; rfl
theorem allP_bad {grp : Nat → Nat → PRes} {l : List UInt8} {a n e : Nat} (h : catP grp l a n = .bad e) : allP grp l a n = .bad e := by
  unfold allP; rw [h]; rfl

end Go.Proofs.YtdochnioodedmaaDoor
