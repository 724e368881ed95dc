/- The contract of regex.Read. -/
import Derived.Test.YtdochnioodedmaaDoorR8
import Derived.Test.YtdochnioodedmaaDoorD2
namespace Go.Proofs.YtdochnioodedmaaDoor
open Go Go.RowKit

theorem re1_idle (p q : Addr) (w : World) :
    CallsD Tryd.prog 46 #[.pointer (some p), .pointer (some q)] .returning w fun e u' w' => u' = .returning ∧ e = .returned (.tuple #[]) ∧ w = w' := by
  refine callsD_of_wpS Tryd.func46 rfl fun c₀ cs hu => ?_
  simp only [Tryd.ntmps46, List.size_toArray, List.length_cons, List.length_nil, Nat.reduceAdd, Nat.reduceSub, Array.replicate_succ, Array.replicate_zero, List.push_toArray, List.append_toArray, List.nil_append, List.cons_append]
  apply wpS_seq
  apply wpS_region
  simp [wpOpsS, go_sem, recoverD, hu, Exit.thenS]
  refine wpS_of_wp ?_
  go_wp2
  cases c₀
  simp_all [bodyPostS, results, Tryd.results46]

theorem reAssert (ev : Int) (w : World) : (Instr.typeAssert (.iface 66 (.agg #[.int .i64 ev])) 20 66 true).run Tryd.prog w = .ok (.tuple #[.agg #[.int .i64 ev], .bool true]) w := by kernel_rfl

set_option maxRecDepth 100000 in
set_option maxHeartbeats 1000000 in
theorem re1_panicking (b : Nat) (x y : Value) (ev : Nat) (older : List PanicEntry) (w : World) (c0 : w.cell? ⟨b, 0, none⟩ = some x) (f0 : w.frozen? ⟨b, 0, none⟩ = false) (c2 : w.cell? ⟨b + 1, 0, none⟩ = some y) (f2 : w.frozen? ⟨b + 1, 0, none⟩ = false) (hx : x = .slice none 0 0) (hy : y = .int .i64 0) (hb : b + 1 < w.heap.size) :
    CallsD Tryd.prog 46 #[.pointer (some ⟨b, 0, none⟩), .pointer (some ⟨b + 1, 0, none⟩)] (.panicking ({ v := reFault ev, recovered := false } :: older)) w fun e u' w' => u' = .panicking ({ v := reFault ev, recovered := true } :: older) ∧ e = .returned (.tuple #[]) ∧
      w'.cell? ⟨b, 0, none⟩ = some (.slice none 0 0) ∧ w'.cell? ⟨b + 1, 0, none⟩ = some (.int .i64 ev) ∧ Below b w w' := by
  subst hx hy
  unfold reFault
  have hta := reAssert ev
  refine callsD_of_wpS Tryd.func46 rfl fun c₀ cs hu => ?_
  simp only [Tryd.ntmps46, List.size_toArray, List.length_cons, List.length_nil, Nat.reduceAdd, Nat.reduceSub, Array.replicate_succ, Array.replicate_zero, List.push_toArray, List.append_toArray, List.nil_append, List.cons_append]
  apply wpS_seq
  apply wpS_region
  simp [wpOpsS, go_sem, recoverD, hu, Exit.thenS]
  refine wpS_of_wp ?_
  obtain ⟨a0, g0⟩ := own_alloc (b := b) (W := w) (by omega) (.cells #[.int .i64 ev] 66)
  obtain ⟨a2, g2⟩ := own_alloc (b := b + 1) (W := w) (by omega) (.cells #[.int .i64 ev] 66)
  have k0 := (a0 0).trans c0
  have k2 := (a2 0).trans c2
  have l0 := (g0 0).trans f0
  have l2 := (g2 0).trans f2
  have HB : Below b w (w.alloc (.cells #[.int .i64 ev] 66)) := (Below.refl _ _).alloc (by omega) _
  clear a0 g0 a2 g2 c0 c2 f0 f2
  go_wp2
  go_region
  generalize w.alloc (.cells #[.int .i64 ev] 66) = W at *
  refine ⟨rfl, _, rfl, _, results_none rfl _ _ _, rfl, rfl, ?_, ?_, ?_⟩
  · simp [go_sem, k0]
  · simp [go_sem, k2]
  · exact ((HB.setCell (Nat.le_refl _) _).setCell (by simp) _).drew

theorem RD.start (W : World) (s : ByteArray) : RD W.heap.size s 0 0 0 (W.alloc (.cells #[.string s, .int .i64 0, .int .i64 0, .slice none 0 0] 70)) :=
  ⟨⟨_, [], heap_new W _, own_nil _ _ _ _⟩, by simp⟩

abbrev reW (w : World) : World := (w.alloc (.cells #[.slice none 0 0] 47)).alloc (.cells #[.int .i64 0] 27)
theorem reW_facts {s : ByteArray} {w W1 W : World} (hW : W1 = (reW w).alloc (.cells #[.string s, .int .i64 0, .int .i64 0, .slice none 0 0] 70)) (hb : Below (w.heap.size + 1 + 1) W1 W) :
    (W.cell? ⟨w.heap.size, 0, none⟩ = some (.slice none 0 0) ∧ W.cell? ⟨w.heap.size + 1, 0, none⟩ = some (.int .i64 0)) ∧
    (W.frozen? ⟨w.heap.size, 0, none⟩ = false ∧ W.frozen? ⟨w.heap.size + 1, 0, none⟩ = false) ∧ w.heap.size + 2 ≤ W.heap.size ∧ Below w.heap.size w W := by
  subst hW
  obtain ⟨hc, hf⟩ := bcell hb
  have hs := hb.size
  refine ⟨⟨(hc _ _ (by omega)).trans ?_, (hc _ _ (by omega)).trans ?_⟩, ⟨(hf _ _ (by omega)).trans ?_, (hf _ _ (by omega)).trans ?_⟩, by simp [reW] at hs; omega,
    ((((Below.refl _ _).alloc (Nat.le_refl _) _).alloc (by simp) _).alloc (by simp; omega) _).trans (hb.mono (by omega))⟩
  all_goals simp [reW, go_sem]

set_option maxRecDepth 100000 in
set_option maxHeartbeats 2000000 in
theorem reRead_any (s : ByteArray) (w : World) (hs : s.size ≤ 140737488351232) :
    Calls Tryd.prog 30 #[.string s] w fun r w' => (∃ v, r = .returned (.tuple #[v, .int .i64 (reErr s.data.toList : Nat)])) ∧ Below w.heap.size w w' := by
  have hmf : ∀ (fn : Fn) (first cap : Array Value) (w : World), (Instr.makeFunc fn first cap).run Tryd.prog w = .ok (.func fn first cap) w := fun _ _ _ _ => rfl
  have A := allTop_any (reW w).heap.size s hs _ (RD.start (reW w) s)
  rw [show (reW w).heap.size = w.heap.size + 1 + 1 by simp [reW]] at A
  cases hat : allP (groupP s.data.toList 30) s.data.toList 0 0 with
  | bad er =>
    rw [hat] at A
    have HR : Hid (reErr s.data.toList = er) := hid (by unfold reErr; rw [hat])
    clear hat
    go_enter_defers Tryd.func30, Tryd.ntmps30
    go_wp2_with fail
    refine A.mono ?_
    rintro e w9 ⟨rfl, hB9⟩
    obtain ⟨⟨k0, k1⟩, ⟨l0, l1⟩, hsz, HB⟩ := reW_facts rfl hB9
    go_wp2_with fail
    refine leaves_cons (f := 46) (args := #[.pointer (some ⟨w.heap.size, 0, none⟩), .pointer (some ⟨w.heap.size + 1, 0, none⟩)]) (by simp) (by simp [go_sem]) ?_
    refine (re1_panicking w.heap.size _ _ er [] w9 k0 l0 k1 l1 rfl rfl (by omega)).mono ?_
    rintro r u' w2 ⟨rfl, rfl, m0, m1, HB2⟩
    refine ⟨.tuple #[.slice none 0 0, .int .i64 er], by simp [results, Tryd.results30, go_sem, m0, m1], ⟨⟨_, by rw [HR.out]⟩, HB.trans HB2⟩⟩
  | ok a n =>
    rw [hat] at A
    by_cases hlt : a < s.size
    · have HR : Hid (reErr s.data.toList = 9) := hid (by unfold reErr; rw [hat]; simp only; rw [if_pos (by rw [size_toList]; exact hlt)])
      clear hat
      go_enter_defers Tryd.func30, Tryd.ntmps30
      go_wp2_with fail
      refine A.mono ?_
      rintro e w9 ⟨⟨ix, rfl⟩, H9, hB9⟩
      obtain ⟨⟨k0, k1⟩, ⟨l0, l1⟩, hsz, HB⟩ := reW_facts rfl hB9
      obtain ⟨c0, c1, c2, f1, f2⟩ := H9.facts
      go_wp2_with fail
      refine leaves_cons (f := 46) (args := #[.pointer (some ⟨w.heap.size, 0, none⟩), .pointer (some ⟨w.heap.size + 1, 0, none⟩)]) (by simp) (by simp [go_sem]) ?_
      refine (re1_idle _ _ _).mono ?_
      rintro r u' w2 ⟨rfl, rfl, rfl⟩
      refine ⟨.tuple #[.slice none 0 0, .int .i64 9], by simp [results, Tryd.results30, go_sem, k0, k1], ⟨⟨_, by rw [HR.out]; rfl⟩, (HB.setCell (Nat.le_refl _) _).setCell (by simp) _⟩⟩
    · have HR : Hid (reErr s.data.toList = 0) := hid (by unfold reErr; rw [hat]; simp only; rw [if_neg (by rw [size_toList]; exact hlt)])
      clear hat
      go_enter_defers Tryd.func30, Tryd.ntmps30
      go_wp2_with fail
      refine A.mono ?_
      rintro e w9 ⟨⟨ix, rfl⟩, H9, hB9⟩
      obtain ⟨⟨k0, k1⟩, ⟨l0, l1⟩, hsz, HB⟩ := reW_facts rfl hB9
      obtain ⟨c0, c1, c2, f1, f2⟩ := H9.facts
      obtain ⟨sl, xs, hb9, ho⟩ := H9.own
      obtain ⟨ao, cap, rfl⟩ : ∃ ao cap, sl = .slice ao n cap := by
        rcases ho.2 with ⟨rfl, h0⟩ | ⟨g, cap, cur, rfl, _⟩
        · exact ⟨none, 0, by rw [h0]⟩
        · exact ⟨_, cap, rfl⟩
      have c3 : w9.cell? ⟨w.heap.size + 1 + 1, 3, none⟩ = some (.slice ao n cap) := blk_cell hb9 3
      clear hb9 ho
      go_wp2_with fail
      refine leaves_cons (f := 46) (args := #[.pointer (some ⟨w.heap.size, 0, none⟩), .pointer (some ⟨w.heap.size + 1, 0, none⟩)]) (by simp) (by simp [go_sem]) ?_
      refine (re1_idle _ _ _).mono ?_
      rintro r u' w2 ⟨rfl, rfl, rfl⟩
      refine ⟨.tuple #[.slice ao n cap, .int .i64 0], by simp [results, Tryd.results30, go_sem, k0, k1], ⟨⟨_, by rw [HR.out]; rfl⟩, (HB.setCell (Nat.le_refl _) _).setCell (by simp) _⟩⟩

end Go.Proofs.YtdochnioodedmaaDoor
