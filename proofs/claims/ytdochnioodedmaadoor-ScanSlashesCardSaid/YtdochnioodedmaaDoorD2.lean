/- Contracts of package dec: the deferred functions, span (of a numeral that begins with a figure), joined; bits.Add64. -/
import Derived.Test.YtdochnioodedmaaDoorD1
import Derived.Deep.QuietTactic
import Derived.BigQuiet
import Derived.RegionTactic
namespace Go.Proofs.YtdochnioodedmaaDoor
open Go Go.RowKit

theorem add64_run (x y : Int) (hx : 0 ≤ x) (hy : 0 ≤ y) (w : World) : (callFunc 43 #[.int .u64 x, .int .u64 y, .int .u64 0]).run Tryd.prog w =
      .ok (.value (.tuple #[.int .u64 ((x + y) % 18446744073709551616), .int .u64 ((x + y) / 18446744073709551616)])) w := by
  rw [run_callFunc_extern Tryd.func43 (by kernel_rfl) (by kernel_rfl) (by kernel_rfl) (e := add64Entry) (by kernel_rfl), run_add64 x y 0 hx hy (by decide) (by decide)]
  simp only [Int.add_zero]
  rfl

theorem joined_no (x : Nat) (hx : x ≤ 9223372036854775807) (w : World) :
    Calls Tryd.prog 44 #[.int .u64 0, .int .u64 x, .bool false] w fun e w' => e = .returned (.int .i64 x) ∧ w = w' := by
  have h1 : ¬ (9223372036854775807 < (x : Int)) := by omega
  go_enter Tryd.func44, Tryd.ntmps44
  go_wp2_with (go_at_call 41; refine (wrong_no _ _).mono ?_; rintro e w2 ⟨rfl, rfl⟩)
  go_ret
  exact ⟨rfl, rfl⟩

theorem joined_over (x : Nat) (h : 9223372036854775807 < x) (hx : x < 18446744073709551616) (w : World) :
    Calls Tryd.prog 44 #[.int .u64 0, .int .u64 x, .bool false] w fun e w' => e = .panicked [{ v := decFault 3, recovered := false }] ∧ w = w' := by
  have h1 : 9223372036854775807 < (x : Int) := by omega
  go_enter Tryd.func44, Tryd.ntmps44
  go_wp2_with (go_at_call 41; refine (wrong_yes _ _).mono ?_; rintro e w2 ⟨rfl, rfl⟩)
  exact ⟨rfl, rfl, rfl⟩

theorem read1_ok (b : Nat) (w : World) (c2 : w.cell? ⟨b + 2, 0, none⟩ = some (.int .i64 0)) :
    CallsD Tryd.prog 38 #[.pointer (some ⟨b + 2, 0, none⟩), .pointer (some ⟨b + 1, 0, none⟩)] .returning w fun e u' w' => u' = .returning ∧ e = .returned (.tuple #[]) ∧ w = w' := by
  go_enter_d Tryd.func38, Tryd.ntmps38
  go_wp2
  go_end0
  exact ⟨rfl, rfl⟩

theorem read1_bad (b : Nat) (x : Int) (w : World) (c2 : w.cell? ⟨b + 2, 0, none⟩ = some (.int .i64 3)) (c1 : w.cell? ⟨b + 1, 0, none⟩ = some (.int .i64 x)) (f1 : w.frozen? ⟨b + 1, 0, none⟩ = false) :
    CallsD Tryd.prog 38 #[.pointer (some ⟨b + 2, 0, none⟩), .pointer (some ⟨b + 1, 0, none⟩)] .returning w fun e u' w' => u' = .returning ∧ e = .returned (.tuple #[]) ∧ w.setCell ⟨b + 1, 0, none⟩ (.int .i64 0) = w' := by
  go_enter_d Tryd.func38, Tryd.ntmps38
  go_wp2
  go_end0
  exact ⟨rfl, rfl⟩

theorem caught_idle (p q : Addr) (w : World) :
    CallsD Tryd.prog 39 #[.pointer (some p), .pointer (some q)] .returning w fun e u' w' => u' = .returning ∧ e = .returned (.tuple #[]) ∧ w = w' := by
  refine callsD_of_wpS Tryd.func39 rfl fun c₀ cs hu => ?_
  simp only [Tryd.ntmps39, List.size_toArray, List.length_cons, List.length_nil, Nat.reduceAdd, Nat.reduceSub, Array.replicate_succ, Array.replicate_zero, List.push_toArray, List.append_toArray, List.nil_append, List.cons_append]
  apply wpS_seq
  apply wpS_region
  simp [wpOpsS, go_sem, recoverD, hu, Exit.thenS]
  refine wpS_of_wp ?_
  go_wp2
  cases c₀
  simp_all [bodyPostS, results, Tryd.results39]

theorem decAssert (ev : Int) (w : World) : (Instr.typeAssert (.iface 78 (.agg #[.int .i64 ev])) 20 78 true).run Tryd.prog w = .ok (.tuple #[.agg #[.int .i64 ev], .bool true]) w := by kernel_rfl

set_option maxRecDepth 100000 in
set_option maxHeartbeats 1000000 in
theorem caught_panicking (b : Nat) (x y ev : Int) (older : List PanicEntry) (w : World) (c0 : w.cell? ⟨b, 0, none⟩ = some (.int .i64 x)) (f0 : w.frozen? ⟨b, 0, none⟩ = false) (c2 : w.cell? ⟨b + 2, 0, none⟩ = some (.int .i64 y)) (f2 : w.frozen? ⟨b + 2, 0, none⟩ = false) (hb : b + 2 < w.heap.size) :
    CallsD Tryd.prog 39 #[.pointer (some ⟨b, 0, none⟩), .pointer (some ⟨b + 2, 0, none⟩)] (.panicking ({ v := decFault ev, recovered := false } :: older)) w fun e u' w' => u' = .panicking ({ v := decFault ev, recovered := true } :: older) ∧ e = .returned (.tuple #[]) ∧
      w'.cell? ⟨b, 0, none⟩ = some (.int .i64 0) ∧ w'.cell? ⟨b + 2, 0, none⟩ = some (.int .i64 ev) ∧ w'.cell? ⟨b + 1, 0, none⟩ = w.cell? ⟨b + 1, 0, none⟩ ∧ w'.frozen? ⟨b + 1, 0, none⟩ = w.frozen? ⟨b + 1, 0, none⟩ ∧ Below b w w' := by
  unfold decFault
  have hta := decAssert ev
  refine callsD_of_wpS Tryd.func39 rfl fun c₀ cs hu => ?_
  simp only [Tryd.ntmps39, List.size_toArray, List.length_cons, List.length_nil, Nat.reduceAdd, Nat.reduceSub, Array.replicate_succ, Array.replicate_zero, List.push_toArray, List.append_toArray, List.nil_append, List.cons_append]
  apply wpS_seq
  apply wpS_region
  simp [wpOpsS, go_sem, recoverD, hu, Exit.thenS]
  refine wpS_of_wp ?_
  obtain ⟨a0, g0⟩ := own_alloc (b := b) (W := w) (by omega) (.cells #[.int .i64 ev] 78)
  obtain ⟨a1, g1⟩ := own_alloc (b := b + 1) (W := w) (by omega) (.cells #[.int .i64 ev] 78)
  obtain ⟨a2, g2⟩ := own_alloc (b := b + 2) (W := w) (by omega) (.cells #[.int .i64 ev] 78)
  have k0 := (a0 0).trans c0
  have k2 := (a2 0).trans c2
  have l0 := (g0 0).trans f0
  have l2 := (g2 0).trans f2
  have k1 := hid (a1 0)
  have l1 := hid (g1 0)
  have HB : Below b w (w.alloc (.cells #[.int .i64 ev] 78)) := (Below.refl _ _).alloc (by omega) _
  clear a0 g0 a1 g1 a2 g2 c0 c2 f0 f2
  go_wp2
  go_region
  generalize w.alloc (.cells #[.int .i64 ev] 78) = W at *
  refine ⟨rfl, _, rfl, _, results_none rfl _ _ _, rfl, rfl, ?_, ?_, ?_, ?_, ?_⟩
  · simp [go_sem, k0]
  · simp [go_sem, k2]
  · rw [← k1.out]; simp [go_sem]
  · rw [← l1.out]; simp [go_sem]
  · exact ((HB.setCell (Nat.le_refl _) _).setCell (by simp) _).drew

end Go.Proofs.YtdochnioodedmaaDoor
