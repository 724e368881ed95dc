/- What a part of the reader promises; put in that form; the atom. -/
import Derived.Test.YtdochnioodedmaaDoorR1
import Derived.Test.YtdochnioodedmaaDoorM5
import Derived.Test.YtdochnioodedmaaDoorC3
import Derived.Test.YtdochnioodedmaaDoorC4
import Derived.Test.YtdochnioodedmaaDoorC5
namespace Go.Proofs.YtdochnioodedmaaDoor
open Go Go.RowKit

/-- what a method of the reader does, told by the model's result -/
def PPost (b : Nat) (s : ByteArray) (deep : Nat) (W : World) : PRes → Ending → World → Prop
  | .ok a n => fun e w' => (∃ i : Nat, e = .returned (.int .i64 i)) ∧ RD b s a deep n w' ∧ Below b W w'
  | .bad er => fun e w' => e = .panicked [{ v := reFault er, recovered := false }] ∧ Below b W w'

theorem put_any (b : Nat) (s : ByteArray) (at_ deep n : Nat) (kind : Int) (k : Cls) (i j : Int) (W : World) (H : RD b s at_ deep n W) (hn : n ≤ 2000) :
    Calls Tryd.prog 58 #[.pointer (some ⟨b, 0, none⟩), .agg (reCells kind k i j).toArray] W (PPost b s deep W (putP at_ n)) := by
  unfold putP
  by_cases h : 2000 ≤ n
  · rw [if_pos h]
    exact put_bad b s at_ deep n kind k i j W H h hn
  · rw [if_neg h]
    exact (put_ok b s at_ deep n kind k i j W H (by omega)).mono fun e w' ⟨he, hr, hb⟩ => ⟨⟨n, he⟩, hr, hb⟩

/-- a new variable of the call's own, seven cells -/
theorem blk_facts7 {W : World} {b T : Nat} {c0 c1 c2 c3 c4 c5 c6 : Value} (h : W.heap[b]? = some (.cells #[c0, c1, c2, c3, c4, c5, c6] T (0, 0))) :
    (W.cell? ⟨b, 0, none⟩ = some c0 ∧ W.cell? ⟨b, 1, none⟩ = some c1 ∧ W.cell? ⟨b, 2, none⟩ = some c2 ∧ W.cell? ⟨b, 3, none⟩ = some c3 ∧ W.cell? ⟨b, 4, none⟩ = some c4 ∧ W.cell? ⟨b, 5, none⟩ = some c5 ∧ W.cell? ⟨b, 6, none⟩ = some c6) ∧
    W.frozen? ⟨b, 0, none⟩ = false ∧ W.frozen? ⟨b, 1, none⟩ = false ∧ W.frozen? ⟨b, 2, none⟩ = false ∧ W.frozen? ⟨b, 3, none⟩ = false ∧ W.frozen? ⟨b, 4, none⟩ = false ∧ W.frozen? ⟨b, 5, none⟩ = false ∧ W.frozen? ⟨b, 6, none⟩ = false :=
  ⟨⟨blk_cell h 0, blk_cell h 1, blk_cell h 2, blk_cell h 3, blk_cell h 4, blk_cell h 5, blk_cell h 6⟩, blk_frozen h 0, blk_frozen h 1, blk_frozen h 2, blk_frozen h 3, blk_frozen h 4, blk_frozen h 5, blk_frozen h 6⟩

/-- the reader's cells -/
theorem RD.facts {b at_ deep n : Nat} {s : ByteArray} {W : World} (h : RD b s at_ deep n W) :
    W.cell? ⟨b, 0, none⟩ = some (.string s) ∧ W.cell? ⟨b, 1, none⟩ = some (.int .i64 at_) ∧ W.cell? ⟨b, 2, none⟩ = some (.int .i64 deep) ∧ W.frozen? ⟨b, 1, none⟩ = false ∧ W.frozen? ⟨b, 2, none⟩ = false := by
  obtain ⟨sl, xs, hb, _⟩ := h.own
  exact ⟨blk_cell hb 0, blk_cell hb 1, blk_cell hb 2, blk_frozen hb 1, blk_frozen hb 2⟩
theorem RD.grow {b at_ deep n : Nat} {s : ByteArray} {W W2 : World} (h : RD b s at_ deep n W) (hb : Below W.heap.size W W2) : RD b s at_ deep n W2 := by
  obtain ⟨sl, xs, h1, h2⟩ := h.own
  have hs := h.size
  refine ⟨⟨sl, xs, (hb.block b (by omega)).trans h1, ?_⟩, by have := hb.size; omega⟩
  refine ⟨h2.1, ?_⟩
  rcases h2.2 with hl | ⟨g, cap, cur, hv, hg, hh, r⟩
  · exact .inl hl
  · have hlt : g < W.heap.size := (Array.getElem?_eq_some_iff.1 hh).1
    exact .inr ⟨g, cap, cur, hv, hg, (hb.block g hlt).trans hh, r⟩
theorem RD.place {b at_ deep n : Nat} {s : ByteArray} {W : World} (h : RD b s at_ deep n W) (a2 : Nat) (v : Int) (hv : v = a2) : RD b s a2 deep n (W.setCell ⟨b, 1, none⟩ (.int .i64 v)) := by
  obtain ⟨sl, xs, h1, h2⟩ := h.own
  subst hv
  exact ⟨⟨sl, xs, heap_setCell_same _ _ _ _ _ _ h1, ownsRow_setCell_below h2 (by simp) _⟩, by simpa using h.size⟩
theorem RD.nest {b at_ deep n : Nat} {s : ByteArray} {W : World} (h : RD b s at_ deep n W) (d2 : Nat) (v : Int) (hv : v = d2) : RD b s at_ d2 n (W.setCell ⟨b, 2, none⟩ (.int .i64 v)) := by
  obtain ⟨sl, xs, h1, h2⟩ := h.own
  subst hv
  exact ⟨⟨sl, xs, heap_setCell_same _ _ _ _ _ _ h1, ownsRow_setCell_below h2 (by simp) _⟩, by simpa using h.size⟩

/-- the ways of an atom -/
theorem atomP_group {grp : Nat → Nat → PRes} {l : List UInt8} {a n : Nat} (h : (l.drop a).head? = some 40) : atomP grp l a n = grp a n := by
  unfold atomP; rw [h]; rfl
theorem atomP_dot {grp : Nat → Nat → PRes} {l : List UInt8} {a n : Nat} (h : (l.drop a).head? = some 46) : atomP grp l a n = putP (a + 1) n := by
  unfold atomP; rw [h]; rfl
theorem atomP_begin {grp : Nat → Nat → PRes} {l : List UInt8} {a n : Nat} (h : (l.drop a).head? = some 94) : atomP grp l a n = putP (a + 1) n := by
  unfold atomP; rw [h]; rfl
theorem atomP_end {grp : Nat → Nat → PRes} {l : List UInt8} {a n : Nat} (h : (l.drop a).head? = some 36) : atomP grp l a n = putP (a + 1) n := by
  unfold atomP; rw [h]; rfl

theorem atomP_bad {grp : Nat → Nat → PRes} {l : List UInt8} {a n : Nat} {c : UInt8} (h : (l.drop a).head? = some c) (h1 : ¬ c = 40) (h2 : ¬ (c = 46 ∨ c = 94 ∨ c = 36)) (h3 : ¬ c = 91) (h4 : c ∈ reBad) : atomP grp l a n = .bad 9 := by
  unfold atomP; rw [h]; simp only; rw [if_neg h1, if_neg h2, if_neg h3, if_pos h4]
theorem atomP_nosign {grp : Nat → Nat → PRes} {l : List UInt8} {a n : Nat} {c : UInt8} (h : (l.drop a).head? = some c) (h1 : ¬ c = 40) (h2 : ¬ (c = 46 ∨ c = 94 ∨ c = 36)) (h3 : ¬ c = 91) (h4 : c ∉ reBad) (h5 : signOf (l.drop a) = none) : atomP grp l a n = .bad 9 := by
  unfold atomP; rw [h]; simp only; rw [if_neg h1, if_neg h2, if_neg h3, if_neg h4, h5]
theorem atomP_sign {grp : Nat → Nat → PRes} {l : List UInt8} {a n m : Nat} {c d : UInt8} (h : (l.drop a).head? = some c) (h1 : ¬ c = 40) (h2 : ¬ (c = 46 ∨ c = 94 ∨ c = 36)) (h3 : ¬ c = 91) (h4 : c ∉ reBad) (h5 : signOf (l.drop a) = some (d, m)) : atomP grp l a n = putP (a + m) n := by
  unfold atomP; rw [h]; simp only; rw [if_neg h1, if_neg h2, if_neg h3, if_neg h4, h5]
theorem atomP_noset {grp : Nat → Nat → PRes} {l : List UInt8} {a n : Nat} (h : (l.drop a).head? = some 91) (h5 : classLen (l.drop a) = none) : atomP grp l a n = .bad 9 := by
  unfold atomP; rw [h]; simp only; rw [if_neg (by decide), if_neg (by decide), if_pos trivial, h5]
theorem atomP_set {grp : Nat → Nat → PRes} {l : List UInt8} {a n m : Nat} (h : (l.drop a).head? = some 91) (h5 : classLen (l.drop a) = some m) : atomP grp l a n = putP (a + m) n := by
  unfold atomP; rw [h]; simp only; rw [if_neg (by decide), if_neg (by decide), if_pos trivial, h5]

theorem classRead_sub (s : ByteArray) (a : Nat) (hs : s.size ≤ 140737488351232) (ha : a < s.size) (h : s[a] = 91) (w : World) :
    Calls Tryd.prog 68 #[.string (s.extract a s.size)] w fun e w' => (∃ k, e = .returned (classRes k (classLen (s.data.toList.drop a)))) ∧ Below w.heap.size w w' := by
  have hz : (s.extract a s.size).size = s.size - a := by rw [ByteArray.size_extract]; omega
  have h2 := classRead_any (s.extract a s.size) w (by omega) (by omega) (by rw [ByteArray.getElem_extract]; simpa using h)
  rwa [extract_drop] at h2

theorem u8_ne {c d : UInt8} (h : ¬ c = d) : ¬ (c.toNat : Int) = (d.toNat : Int) := fun e => h (UInt8.toNat_inj.1 (by omega))

end Go.Proofs.YtdochnioodedmaaDoor
