/- Contracts of class.Read's closure and of regex.dot. -/
import Derived.Test.YtdochnioodedmaaDoorC2
import Derived.Test.YtdochnioodedmaaDoorC3
import Derived.Test.YtdochnioodedmaaDoorA2
import Derived.Deep.LoopGhost
import Derived.Deep.RegionWith
namespace Go.Proofs.YtdochnioodedmaaDoor
open Go Go.RowKit

set_option maxRecDepth 100000 in
theorem takes_yes (s : ByteArray) (k : Nat) (c : UInt8) (p q : Nat) (w : World) (hk : k < s.size) (hc : s[k] = c) (hp : w.cell? ⟨p, 0, none⟩ = some (.int .i64 k)) (hf : w.frozen? ⟨p, 0, none⟩ = false) (hq : w.cell? ⟨q, 0, none⟩ = some (.string s)) (hs : s.size ≤ maxLen) :
    Calls Tryd.prog 72 #[.int .u8 c.toNat, .pointer (some ⟨p, 0, none⟩), .pointer (some ⟨q, 0, none⟩)] w fun e w' => e = .returned (.bool true) ∧ w' = w.setCell ⟨p, 0, none⟩ (.int .i64 (k + 1 : Nat)) := by
  unfold maxLen at hs
  go_enter Tryd.func72, Tryd.ntmps72
  have t := beqT (show (s[k].toNat : Int) = c.toNat by rw [hc])
  clear hc
  go_wp2_with fail
  go_ret
  exact ⟨rfl, by first | rfl | (congr 3)⟩
set_option maxRecDepth 100000 in
theorem takes_no (s : ByteArray) (k : Nat) (c : UInt8) (p q : Nat) (w : World) (hc : s.data.toList[k]? ≠ some c) (hp : w.cell? ⟨p, 0, none⟩ = some (.int .i64 k)) (hq : w.cell? ⟨q, 0, none⟩ = some (.string s)) :
    Calls Tryd.prog 72 #[.int .u8 c.toNat, .pointer (some ⟨p, 0, none⟩), .pointer (some ⟨q, 0, none⟩)] w fun e w' => e = .returned (.bool false) ∧ w = w' := by
  go_enter Tryd.func72, Tryd.ntmps72
  by_cases hk : k < s.size
  · have hne : ¬ s[k].toNat = c.toNat := fun e => hc (by
      have h1 : s.data.toList[k]? = some s[k] := by have := drop_cons s k hk; rw [← List.head?_drop, this]; rfl
      rw [h1, UInt8.toNat_inj.1 e])
    have t := beqF (show ¬ (s[k].toNat : Int) = c.toNat by omega)
    clear hne hc
    go_wp2_with fail
    go_ret
    exact ⟨rfl, rfl⟩
  · clear hc
    go_wp2_with fail
    go_ret
    exact ⟨rfl, rfl⟩

set_option maxRecDepth 100000 in
set_option maxHeartbeats 1000000 in
theorem dot_any (w : World) :
    Calls Tryd.prog 67 #[] w fun e w' => (∃ k, e = .returned (clsVal k)) ∧ Below w.heap.size w w' := by
  go_enter Tryd.func67, Tryd.ntmps67
  go_wp2_with (first
    | (go_at_call 70;
       refine (one_any 10 _).mono ?_;
       rintro e w2 ⟨⟨k1, rfl⟩, hb2⟩;
       have hh2 := (hb2.block w.heap.size (by simp)).trans (heap_new w _);
       have hbel2 : Below w.heap.size w w2 := ((Below.refl w.heap.size w).alloc (Nat.le_refl _) _).trans (hb2.mono (by simp));
       have hsz2 : w.heap.size + 1 ≤ w2.heap.size := by { have := hb2.size; simpa using this };
       clear hb2)
    | (go_at_call 71;
       refine (not_any _ _).mono ?_;
       rintro e w3 ⟨⟨k, rfl⟩, hb3⟩;
       have hh := (hb3.block w.heap.size (by omega)).trans hh2;
       have hbel : Below w.heap.size w w3 := hbel2.trans (hb3.mono (by omega));
       clear hb3 hh2 hbel2;
       obtain ⟨f0, f1, f2, f3, g0, g1, g2, g3⟩ := blk_facts4 hh;
       unfold clsVal clsCells))
  have hf := set4 (.int .u64 k.w0) (.int .u64 k.w1) (.int .u64 k.w2) (.int .u64 k.w3) hh
  have hbf := below_set4 (.int .u64 k.w0) (.int .u64 k.w1) (.int .u64 k.w2) (.int .u64 k.w3) hbel (Nat.le_refl _)
  generalize World.setCell _ _ _ = wf at hf hbf ⊢
  obtain ⟨q0, q1, q2, q3, _⟩ := blk_facts4 hf
  refine bodyPost_ret (v := clsVal k) (by simp [results, Tryd.results67, go_sem, q0, q1, q2, q3, clsVal, clsCells]) rfl ⟨⟨k, rfl⟩, hbf⟩

end Go.Proofs.YtdochnioodedmaaDoor
