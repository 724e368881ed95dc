/- The walk of the law ScanOperands. -/
import Derived.Test.YtdochnioodedmaaDoorS1
namespace Go.Proofs.YtdochnioodedmaaDoor
open Go Go.RowKit

theorem refOperand_any (k a n : Int) (t : ByteArray) (w : World) :
    Calls Tryd.prog 11 #[.agg #[.int .i64 k, .int .i64 a, .string t, .int .i64 n]] w fun e w' => e = .returned (.bool (operandB k t.data.toList)) ∧ Below w.heap.size w w' := by
  go_enter Tryd.func11, Tryd.ntmps11
  go_wp2
  all_goals go_ret
  all_goals refine ⟨ret_bool ?_, (Below.refl _ _).alloc (Nat.le_refl _) _⟩
  all_goals try simp only [Lib.toList_data] at *
  all_goals (rw [Bool.eq_iff_iff]; simp_all [operandB]; try omega)

set_option maxRecDepth 100000 in
set_option maxHeartbeats 1000000 in
theorem scanOperands_any (k a n : Int) (t : ByteArray) (w : World) :
    Calls Tryd.prog 3 #[.agg #[.int .i64 k, .int .i64 a, .string t, .int .i64 n]] w fun e w' => e = .returned (.bool true) ∧ Below w.heap.size w w' := by
  have B0 := heap_new w (.cells #[.int .i64 k, .int .i64 a, .string t, .int .i64 n] 23)
  have HB0 := (Below.refl w.heap.size w).alloc (Nat.le_refl _) (.cells #[.int .i64 k, .int .i64 a, .string t, .int .i64 n] 23)
  have O1 := fun W => operand_any k a n t W
  have O2 := fun W => refOperand_any k a n t W
  generalize operandB k t.data.toList = r at O1 O2
  have hrr : (r == r) = true := by simp
  go_enter Tryd.func3, Tryd.ntmps3
  go_wp2_with fail
  refine (shown_any _).mono ?_
  rintro e w2 ⟨rfl, hb2⟩
  have B2 := (hb2.block w.heap.size (by simp)).trans B0
  have HB2 := HB0.trans (hb2.mono (by simp))
  have hsz : w.heap.size < w2.heap.size := (Array.getElem?_eq_some_iff.1 B2).1
  clear B0 HB0 hb2
  obtain ⟨k0, k1, k2, k3, _⟩ := blk_facts4 B2
  go_wp2_with fail
  go_region_with (first
      | (go_at_call 10;
         have hx := O1;
         clear O1;
         refine (hx _).mono ?_;
         rintro e w4 ⟨rfl, hb4⟩;
         have B4 := (hb4.block w.heap.size (by first | exact hsz | (have := hsz; simp; omega))).trans B2;
         obtain ⟨k0, k1, k2, k3, _⟩ := blk_facts4 B4)
      | (go_at_call 11;
         have hx := O2;
         clear O2;
         refine (hx _).mono ?_;
         rintro e w5 ⟨rfl, hb5⟩))
  all_goals
    have hz4 : w2.heap.size ≤ w4.heap.size := hb4.size
    have HB5 : Below w.heap.size w w5 := (HB2.drew.trans (hb4.mono (show w.heap.size ≤ w2.drew.heap.size from Nat.le_of_lt hsz))).trans (hb5.mono (by omega))
    go_wp2_with fail
    go_ret
    exact ⟨rfl, HB5⟩

end Go.Proofs.YtdochnioodedmaaDoor
