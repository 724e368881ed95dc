/- Contracts of package class: Span, One, Or, Not: each makes a set of bytes, and turns no memory that was there. -/
import Derived.Test.YtdochnioodedmaaDoorProg
import Derived.Test.YtdochnioodedmaaDoorM2
import Derived.WalkKit
import Derived.WalkSpells
import Derived.WalkLawsBesides
import Derived.Below
import Derived.RegionTactic
import Derived.BigRegion
import Derived.Deep.LoopGhost
namespace Go.Proofs.YtdochnioodedmaaDoor
open Go Go.RowKit

/-- a set of bytes: four words -/
structure Cls where
  w0 : Int
  w1 : Int
  w2 : Int
  w3 : Int
deriving DecidableEq
def clsCells (k : Cls) : Array Value := #[.int .u64 k.w0, .int .u64 k.w1, .int .u64 k.w2, .int .u64 k.w3]
def clsVal (k : Cls) : Value := .agg (clsCells k)

theorem setCell_new (W : World) (cs : Array Value) (T n b j : Nat) (v : Value) (hb : b = W.heap.size) : ((W.alloc (.cells cs T)).drewN n).setCell ⟨b, j, none⟩ v = (W.alloc (.cells (cs.setIfInBounds j v) T)).drewN n := by
  subst hb
  unfold World.setCell World.alloc World.drewN
  congr 1
  apply Array.ext
  · simp
  · intro i h1 h2
    simp only [Array.getElem_modify, Array.getElem_push]
    by_cases hi : i < W.heap.size
    · simp [hi, Nat.ne_of_gt hi]
    · have : W.heap.size = i := by simp at h2; omega
      simp [this]

theorem set4 {W : World} {b T : Nat} {c0 c1 c2 c3 : Value} (u0 u1 u2 u3 : Value) (h : W.heap[b]? = some (.cells #[c0, c1, c2, c3] T (0, 0))) : ((((W.setCell ⟨b, 0, none⟩ u0).setCell ⟨b, 1, none⟩ u1).setCell ⟨b, 2, none⟩ u2).setCell ⟨b, 3, none⟩ u3).heap[b]? = some (.cells #[u0, u1, u2, u3] T (0, 0)) := by
  rw [heap_setCell_same _ _ _ _ _ _ (heap_setCell_same _ _ _ _ _ _ (heap_setCell_same _ _ _ _ _ _ (heap_setCell_same _ _ _ _ _ _ h)))]
  rfl
theorem below_set4 {B : Nat} {w W : World} {b : Nat} (u0 u1 u2 u3 : Value) (h : Below B w W) (hb : B ≤ b) : Below B w ((((W.setCell ⟨b, 0, none⟩ u0).setCell ⟨b, 1, none⟩ u1).setCell ⟨b, 2, none⟩ u2).setCell ⟨b, 3, none⟩ u3) := (((h.setCell hb u0).setCell hb u1).setCell hb u2).setCell hb u3
theorem below_drewN {B : Nat} {w W : World} (h : Below B w W) (n : Nat) : Below B w (W.drewN n) := ⟨h.os, h.tape, h.output, h.size, h.block⟩
theorem heap_new (W : World) (o : Obj) : (W.alloc o).heap[W.heap.size]? = some o := by
  show (W.heap.push o)[W.heap.size]? = some o
  exact Array.getElem?_push_size
/-- a block's cells -/
theorem blk_cell {W : World} {b T : Nat} {cs : Array Value} (h : W.heap[b]? = some (.cells cs T (0, 0))) (j : Nat) : W.cell? ⟨b, j, none⟩ = cs[j]? := by simp [World.cell?, h]
theorem blk_frozen {W : World} {b T : Nat} {cs : Array Value} (h : W.heap[b]? = some (.cells cs T (0, 0))) (j : Nat) : W.frozen? ⟨b, j, none⟩ = false := by simp [World.frozen?, h]

set_option maxRecDepth 100000 in
set_option maxHeartbeats 1000000 in
theorem span0_any (a b : UInt8) (w : World) :
    Calls Tryd.prog 74 #[.int .u8 a.toNat, .int .u8 b.toNat] w fun e w' => (∃ k, e = .returned (clsVal k)) ∧ Below w.heap.size w w' := by
  have ha := a.toNat_lt
  go_enter Tryd.func74, Tryd.ntmps74
  go_wp2_with fail
  go_loopw [6] (fun i wr => ∃ c n : Nat, ∃ k : Cls, a.toNat ≤ c ∧ c ≤ 256 ∧ i = .int .i64 c ∧ wr = (((w.alloc (.cells (clsCells ⟨0, 0, 0, 0⟩) 83)).alloc (.cells (clsCells k) 83))).drewN n) (fun i _ => 256 - (intOf i).toNat)
  case atStart =>
    exact ⟨a.toNat, 0, ⟨0, 0, 0, 0⟩, Nat.le_refl _, by omega, rfl, rfl⟩
  case round =>
    obtain ⟨c, n, k, hc0, hc, rfl, rfl⟩ := hrel
    have hb := b.toNat_lt
    by_cases hle : c ≤ b.toNat
    · have h4 : (c : Int) / 64 = 0 ∨ (c : Int) / 64 = 1 ∨ (c : Int) / 64 = 2 ∨ (c : Int) / 64 = 3 := by omega
      rcases h4 with h0 | h0 | h0 | h0
      all_goals
        unfold clsCells
        go_wp2_with fail
        go_region
        go_wp2_with fail
        refine ⟨?_, by simp [intOf]; omega⟩
        rw [setCell_new _ _ _ _ _ _ _ (by simp)]
      · exact ⟨c + 1, n + 1, ⟨bits BinOp.or IntKind.u64 k.w0 (IntKind.u64.wrap (2 ^ (c % 64))), k.w1, k.w2, k.w3⟩, by omega, by omega, rfl, rfl⟩
      · exact ⟨c + 1, n + 1, ⟨k.w0, bits BinOp.or IntKind.u64 k.w1 (IntKind.u64.wrap (2 ^ (c % 64))), k.w2, k.w3⟩, by omega, by omega, rfl, rfl⟩
      · exact ⟨c + 1, n + 1, ⟨k.w0, k.w1, bits BinOp.or IntKind.u64 k.w2 (IntKind.u64.wrap (2 ^ (c % 64))), k.w3⟩, by omega, by omega, rfl, rfl⟩
      · exact ⟨c + 1, n + 1, ⟨k.w0, k.w1, k.w2, bits BinOp.or IntKind.u64 k.w3 (IntKind.u64.wrap (2 ^ (c % 64)))⟩, by omega, by omega, rfl, rfl⟩
    · unfold clsCells
      go_wp2_with fail
      have hf := set4 (W := ((w.alloc (.cells #[.int .u64 0, .int .u64 0, .int .u64 0, .int .u64 0] 83)).alloc (.cells (clsCells k) 83)).drewN n) (b := w.heap.size) (T := 83) (.int .u64 k.w0) (.int .u64 k.w1) (.int .u64 k.w2) (.int .u64 k.w3) (by rw [World.heap_drewN, Below.heap_alloc _ _ _ (by simp)]; exact heap_new _ _)
      have hbel := below_set4 (b := w.heap.size) (.int .u64 k.w0) (.int .u64 k.w1) (.int .u64 k.w2) (.int .u64 k.w3) (below_drewN (((Below.refl w.heap.size w).alloc (Nat.le_refl _) (.cells #[.int .u64 0, .int .u64 0, .int .u64 0, .int .u64 0] 83)).alloc (by simp) (.cells (clsCells k) 83)) n) (Nat.le_refl _)
      unfold clsCells at hf hbel
      generalize World.setCell _ _ _ = wf at hf hbel ⊢
      have q0 := blk_cell hf 0
      have q1 := blk_cell hf 1
      have q2 := blk_cell hf 2
      have q3 := blk_cell hf 3
      refine bodyPost_ret (v := clsVal k) (by simp [results, Tryd.results74, go_sem, q0, q1, q2, q3, clsVal, clsCells]) rfl ⟨⟨k, rfl⟩, hbel⟩

end Go.Proofs.YtdochnioodedmaaDoor
