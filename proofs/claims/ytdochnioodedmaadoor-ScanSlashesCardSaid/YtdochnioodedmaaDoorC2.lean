/- Contracts of package class: One, Or, Not: each makes a set of bytes, and turns no memory that was there. -/
import Derived.Test.YtdochnioodedmaaDoorC1
namespace Go.Proofs.YtdochnioodedmaaDoor
open Go Go.RowKit

theorem setCell_alloc_lt (X : World) (o : Obj) (a : Addr) (v : Value) (h : a.block < X.heap.size) : (X.alloc o).setCell a v = (X.setCell a v).alloc o := by
  unfold World.setCell World.alloc
  simp only
  congr 1
  apply Array.ext
  · simp
  · intro i h1 h2
    simp only [Array.getElem_modify, Array.getElem_push, Array.size_modify]
    by_cases hi : i < X.heap.size
    · simp [hi]
    · have h3 : ¬ a.block = i := by simp at h2; omega
      simp [hi, h3]
theorem setCell_top (W : World) (cs : Array Value) (T b j : Nat) (v : Value) (hb : b = W.heap.size) : (W.alloc (.cells cs T)).setCell ⟨b, j, none⟩ v = W.alloc (.cells (cs.setIfInBounds j v) T) := setCell_new W cs T 0 b j v hb
theorem setCell_drewN (W : World) (n : Nat) (a : Addr) (v : Value) : (W.drewN n).setCell a v = (W.setCell a v).drewN n := rfl

theorem heap_new_at (W : World) (o : Obj) {b : Nat} (hb : b = W.heap.size) : (W.alloc o).heap[b]? = some o := by rw [hb]; exact heap_new W o
theorem blk_facts4 {W : World} {b T : Nat} {c0 c1 c2 c3 : Value} (h : W.heap[b]? = some (.cells #[c0, c1, c2, c3] T (0, 0))) : W.cell? ⟨b, 0, none⟩ = some c0 ∧ W.cell? ⟨b, 1, none⟩ = some c1 ∧ W.cell? ⟨b, 2, none⟩ = some c2 ∧ W.cell? ⟨b, 3, none⟩ = some c3 ∧ W.frozen? ⟨b, 0, none⟩ = false ∧ W.frozen? ⟨b, 1, none⟩ = false ∧ W.frozen? ⟨b, 2, none⟩ = false ∧ W.frozen? ⟨b, 3, none⟩ = false :=
  ⟨blk_cell h 0, blk_cell h 1, blk_cell h 2, blk_cell h 3, blk_frozen h 0, blk_frozen h 1, blk_frozen h 2, blk_frozen h 3⟩

set_option maxRecDepth 100000 in
set_option maxHeartbeats 1000000 in
theorem one_any (a : UInt8) (w : World) :
    Calls Tryd.prog 70 #[.int .u8 a.toNat] w fun e w' => (∃ k, e = .returned (clsVal k)) ∧ Below w.heap.size w w' := by
  go_enter Tryd.func70, Tryd.ntmps70
  go_wp2_with (
    go_at_call 74;
    refine (span0_any a a _).mono ?_;
    rintro e w2 ⟨⟨k, rfl⟩, hb2⟩;
    have hh := (hb2.block w.heap.size (by simp)).trans (heap_new w _);
    have hbel : Below w.heap.size w w2 := ((Below.refl w.heap.size w).alloc (Nat.le_refl _) _).trans (hb2.mono (by simp));
    clear hb2;
    obtain ⟨f0, f1, f2, f3, g0, g1, g2, g3⟩ := blk_facts4 hh;
    unfold clsVal clsCells)
  have hf := set4 (.int .u64 k.w0) (.int .u64 k.w1) (.int .u64 k.w2) (.int .u64 k.w3) hh
  have hbf := below_set4 (.int .u64 k.w0) (.int .u64 k.w1) (.int .u64 k.w2) (.int .u64 k.w3) hbel (Nat.le_refl _)
  generalize World.setCell _ _ _ = wf at hf hbf ⊢
  obtain ⟨q0, q1, q2, q3, _⟩ := blk_facts4 hf
  refine bodyPost_ret (v := clsVal k) (by simp [results, Tryd.results70, go_sem, q0, q1, q2, q3, clsVal, clsCells]) rfl ⟨⟨k, rfl⟩, hbf⟩

set_option maxRecDepth 100000 in
set_option maxHeartbeats 1000000 in
theorem or_any (k l : Cls) (w : World) :
    Calls Tryd.prog 73 #[clsVal k, clsVal l] w fun e w' => (∃ m, e = .returned (clsVal m)) ∧ Below w.heap.size w w' := by
  unfold clsVal clsCells
  go_enter Tryd.func73, Tryd.ntmps73
  go_wp2_with fail
  go_loopw [6] (fun i wr => ∃ c n : Nat, ∃ m : Cls, c ≤ 4 ∧ i = .int .i64 c ∧ wr = ((((w.alloc (.cells (clsCells m) 83)).alloc (.cells (clsCells l) 83))).alloc (.cells (clsCells ⟨0, 0, 0, 0⟩) 83)).drewN n) (fun i _ => 4 - (intOf i).toNat)
  case atStart =>
    exact ⟨0, 0, k, by omega, rfl, rfl⟩
  case round =>
    obtain ⟨c, n, m, hc, rfl, rfl⟩ := hrel
    by_cases hle : c < 4
    · have h4 : c = 0 ∨ c = 1 ∨ c = 2 ∨ c = 3 := by omega
      rcases h4 with rfl | rfl | rfl | rfl
      all_goals
        unfold clsCells
        go_wp2_with fail
        go_region
        go_wp2_with fail
        refine ⟨?_, by simp [intOf]⟩
        simp only [setCell_drewN]
        rw [setCell_alloc_lt _ _ _ _ (by simp only [World.size_alloc]; omega), setCell_alloc_lt _ _ _ _ (by simp only [World.size_alloc]; omega)]
        rw [setCell_top _ _ _ _ _ _ rfl]
      · exact ⟨1, n + 1, ⟨bits BinOp.or IntKind.u64 m.w0 l.w0, m.w1, m.w2, m.w3⟩, by omega, rfl, rfl⟩
      · exact ⟨2, n + 1, ⟨m.w0, bits BinOp.or IntKind.u64 m.w1 l.w1, m.w2, m.w3⟩, by omega, rfl, rfl⟩
      · exact ⟨3, n + 1, ⟨m.w0, m.w1, bits BinOp.or IntKind.u64 m.w2 l.w2, m.w3⟩, by omega, rfl, rfl⟩
      · exact ⟨4, n + 1, ⟨m.w0, m.w1, m.w2, bits BinOp.or IntKind.u64 m.w3 l.w3⟩, by omega, rfl, rfl⟩
    · obtain rfl : c = 4 := by omega
      unfold clsCells
      go_wp2_with fail
      have hf := set4 (W := (((w.alloc (.cells (clsCells m) 83)).alloc (.cells (clsCells l) 83)).alloc (.cells (clsCells ⟨0, 0, 0, 0⟩) 83)).drewN n) (b := w.heap.size + 1 + 1) (T := 83) (.int .u64 m.w0) (.int .u64 m.w1) (.int .u64 m.w2) (.int .u64 m.w3) (by rw [World.heap_drewN]; exact heap_new_at ((w.alloc (.cells (clsCells m) 83)).alloc (.cells (clsCells l) 83)) _ (by simp only [World.size_alloc]))
      have hbel := below_set4 (b := w.heap.size + 1 + 1) (.int .u64 m.w0) (.int .u64 m.w1) (.int .u64 m.w2) (.int .u64 m.w3) (below_drewN ((((Below.refl w.heap.size w).alloc (Nat.le_refl _) (.cells (clsCells m) 83)).alloc (by simp) (.cells (clsCells l) 83)).alloc (by simp only [World.size_alloc]; omega) (.cells (clsCells ⟨0, 0, 0, 0⟩) 83)) n) (by omega)
      unfold clsCells at hf hbel
      generalize World.setCell _ _ _ = wf at hf hbel ⊢
      obtain ⟨q0, q1, q2, q3, _⟩ := blk_facts4 hf
      refine bodyPost_ret (v := clsVal m) (by simp [results, Tryd.results73, go_sem, q0, q1, q2, q3, clsVal, clsCells]) rfl ⟨⟨m, rfl⟩, hbel⟩
set_option maxRecDepth 100000 in
set_option maxHeartbeats 1000000 in
theorem not_any (k : Cls) (w : World) :
    Calls Tryd.prog 71 #[clsVal k] w fun e w' => (∃ m, e = .returned (clsVal m)) ∧ Below w.heap.size w w' := by
  unfold clsVal clsCells
  go_enter Tryd.func71, Tryd.ntmps71
  go_wp2_with fail
  go_loopw [4] (fun i wr => ∃ c n : Nat, ∃ m : Cls, c ≤ 4 ∧ i = .int .i64 c ∧ wr = ((w.alloc (.cells (clsCells m) 83)).alloc (.cells (clsCells ⟨0, 0, 0, 0⟩) 83)).drewN n) (fun i _ => 4 - (intOf i).toNat)
  case atStart =>
    exact ⟨0, 0, k, by omega, rfl, rfl⟩
  case round =>
    obtain ⟨c, n, m, hc, rfl, rfl⟩ := hrel
    by_cases hle : c < 4
    · have h4 : c = 0 ∨ c = 1 ∨ c = 2 ∨ c = 3 := by omega
      rcases h4 with rfl | rfl | rfl | rfl
      all_goals
        unfold clsCells
        go_wp2_with fail
        refine ⟨?_, by simp [intOf]⟩
        simp only [setCell_drewN]
        rw [setCell_alloc_lt _ _ _ _ (by simp only [World.size_alloc]; omega)]
        rw [setCell_top _ _ _ _ _ _ rfl]
      · exact ⟨1, n, ⟨bits BinOp.xor IntKind.u64 (if IntKind.u64.signed = true then -1 else IntKind.u64.max) m.w0, m.w1, m.w2, m.w3⟩, by omega, rfl, rfl⟩
      · exact ⟨2, n, ⟨m.w0, bits BinOp.xor IntKind.u64 (if IntKind.u64.signed = true then -1 else IntKind.u64.max) m.w1, m.w2, m.w3⟩, by omega, rfl, rfl⟩
      · exact ⟨3, n, ⟨m.w0, m.w1, bits BinOp.xor IntKind.u64 (if IntKind.u64.signed = true then -1 else IntKind.u64.max) m.w2, m.w3⟩, by omega, rfl, rfl⟩
      · exact ⟨4, n, ⟨m.w0, m.w1, m.w2, bits BinOp.xor IntKind.u64 (if IntKind.u64.signed = true then -1 else IntKind.u64.max) m.w3⟩, by omega, rfl, rfl⟩
    · obtain rfl : c = 4 := by omega
      unfold clsCells
      go_wp2_with fail
      have hf := set4 (W := ((w.alloc (.cells (clsCells m) 83)).alloc (.cells (clsCells ⟨0, 0, 0, 0⟩) 83)).drewN n) (b := w.heap.size + 1) (T := 83) (.int .u64 m.w0) (.int .u64 m.w1) (.int .u64 m.w2) (.int .u64 m.w3) (by rw [World.heap_drewN]; exact heap_new_at (w.alloc (.cells (clsCells m) 83)) _ (by simp only [World.size_alloc]))
      have hbel := below_set4 (b := w.heap.size + 1) (.int .u64 m.w0) (.int .u64 m.w1) (.int .u64 m.w2) (.int .u64 m.w3) (below_drewN (((Below.refl w.heap.size w).alloc (Nat.le_refl _) (.cells (clsCells m) 83)).alloc (by simp only [World.size_alloc]; omega) (.cells (clsCells ⟨0, 0, 0, 0⟩) 83)) n) (by omega)
      unfold clsCells at hf hbel
      generalize World.setCell _ _ _ = wf at hf hbel ⊢
      obtain ⟨q0, q1, q2, q3, _⟩ := blk_facts4 hf
      refine bodyPost_ret (v := clsVal m) (by simp [results, Tryd.results71, go_sem, q0, q1, q2, q3, clsVal, clsCells]) rfl ⟨⟨m, rfl⟩, hbel⟩
end Go.Proofs.YtdochnioodedmaaDoor
