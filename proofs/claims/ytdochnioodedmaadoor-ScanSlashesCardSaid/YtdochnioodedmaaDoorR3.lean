/- The atom of a regular expression that is a set. -/
import Derived.Test.YtdochnioodedmaaDoorR2
import Derived.Test.YtdochnioodedmaaDoorM6
namespace Go.Proofs.YtdochnioodedmaaDoor
open Go Go.RowKit

theorem set_late {W0 W1 w2 : World} {o : Obj} (hb : Below W1.heap.size W1 w2) (hh : W1.heap = (W0.alloc o).heap) (h1 : W1.os = W0.os) (h2 : W1.tape = W0.tape) (h3 : W1.output = W0.output) :
    w2.heap[W0.heap.size]? = some o ∧ Below W0.heap.size W0 w2 ∧ W0.heap.size + 1 ≤ w2.heap.size := by
  have hz : W1.heap.size = W0.heap.size + 1 := by rw [hh]; simp
  have hs := hb.size
  refine ⟨?_, ⟨hb.os.trans h1, hb.tape.trans h2, hb.output.trans h3, by omega, fun k hk => ?_⟩, by omega⟩
  · rw [hb.block _ (by omega), hh]; exact heap_new W0 o
  · rw [hb.block _ (by omega), hh]; exact Below.heap_alloc _ _ _ hk
theorem set_early {W0 W1 w2 : World} {o z : Obj} (hb : Below W1.heap.size W1 w2) (hh : W1.heap = ((W0.alloc o).alloc z).heap) (h1 : W1.os = W0.os) (h2 : W1.tape = W0.tape) (h3 : W1.output = W0.output) :
    w2.heap[W0.heap.size]? = some o ∧ w2.heap[W0.heap.size + 1]? = some z ∧ Below W0.heap.size W0 w2 ∧ W0.heap.size + 1 + 1 ≤ w2.heap.size := by
  have hz : W1.heap.size = W0.heap.size + 1 + 1 := by rw [hh]; simp
  have hs := hb.size
  refine ⟨?_, ?_, ⟨hb.os.trans h1, hb.tape.trans h2, hb.output.trans h3, by omega, fun k hk => ?_⟩, by omega⟩
  · rw [hb.block _ (by omega), hh, Below.heap_alloc _ _ _ (by simp)]; exact heap_new W0 o
  · rw [hb.block _ (by omega), hh]; exact heap_new_at _ _ (by simp)
  · rw [hb.block _ (by omega), hh, Below.heap_alloc _ _ _ (by simp; omega)]; exact Below.heap_alloc _ _ _ hk

set_option maxRecDepth 100000 in
set_option maxHeartbeats 4000000 in
theorem atom_set (grp : Nat → Nat → PRes) (b : Nat) (s : ByteArray) (deep : Nat) (hs : s.size ≤ 140737488351232)
    (a n : Nat) (W : World) (ha : a < s.size) (h91 : s[a] = 91) (hn : n ≤ 2000) (H : RD b s a deep n W) :
    Calls Tryd.prog 65 #[.pointer (some ⟨b, 0, none⟩)] W (PPost b s deep W (atomP grp s.data.toList a n)) := by
  have hh : (s.data.toList.drop a).head? = some s[a] := by rw [drop_cons s a ha]; rfl
  have hc := h91
  clear h91
  obtain ⟨c0, c1, c2, f1, f2⟩ := H.facts
  go_enter Tryd.func65, Tryd.ntmps65
  go_wp2_with fail
  go_quiet (fail)
  have H0 := H.drewN nq
  have hW0 : Below b W (W.drewN nq) := below_drewN (Below.refl _ _) _
  generalize W.drewN nq = W0 at H0 hW0 ⊢
  have HC := hid hc
  rw [hc] at hh
  have HH := hid hh
  have hsz := H0.size
  have e0 : b ≠ W0.heap.size := by omega
  have e1 : ¬ W0.heap.size = b := by omega
  have H1 := H0.grow ((Below.refl W0.heap.size W0).alloc (Nat.le_refl _) (.cells #[.int .i64 1, .int .u64 0, .int .u64 0, .int .u64 0, .int .u64 0, .int .i64 0, .int .i64 0] 85))
  have hB1 := hW0.trans (((Below.refl W0.heap.size W0).alloc (Nat.le_refl _) (.cells #[.int .i64 1, .int .u64 0, .int .u64 0, .int .u64 0, .int .u64 0, .int .i64 0, .int .i64 0] 85)).mono (show b ≤ W0.heap.size by omega))
  clear c0 c1 c2 f1 f2 hc hh
  clear hB1
  obtain ⟨c0, c1, c2, f1, f2⟩ := H1.facts
  obtain ⟨d0, d1, d2, d4, d5⟩ := (H1.grow ((Below.refl _ _).alloc (Nat.le_refl _) (.cells #[.int .u64 0, .int .u64 0, .int .u64 0, .int .u64 0] 83))).facts
  have CR := classRead_sub s a hs ha HC.out
  clear H1
  cases hcl : classLen (s.data.toList.drop a) with
  | none =>
    have HL := hid hcl
    have HR := hid (show atomP grp s.data.toList a n = .bad 9 from atomP_noset HH.out hcl)
    clear hcl
    go_wp2_with fail
    go_region_with (go_at_call 68;
                            refine (CR _).mono ?_;
                            rintro e w2 ⟨⟨ck, rfl⟩, hb2⟩;
                            rw [HL.out];
                            unfold classRes clsVal clsCells;
                            first
                              | (obtain ⟨B2, K2, hA2, hs2⟩ := set_early (W0 := W0) (o := (.cells #[.int .i64 1, .int .u64 0, .int .u64 0, .int .u64 0, .int .u64 0, .int .i64 0, .int .i64 0] 85)) (z := (.cells #[.int .u64 0, .int .u64 0, .int .u64 0, .int .u64 0] 83)) hb2 rfl rfl rfl rfl; have tokB : True := trivial; obtain ⟨k0, k1, k2, k3, g0, g1, g2, g3⟩ := blk_facts4 K2)
                              | (obtain ⟨B2, hA2, hs2⟩ := set_late (W0 := W0) (o := (.cells #[.int .i64 1, .int .u64 0, .int .u64 0, .int .u64 0, .int .u64 0, .int .i64 0, .int .i64 0] 85)) hb2 rfl rfl rfl rfl))
    all_goals
      go_wp2_with fail
      rw [HR.out]
      first
        | exact ⟨rfl, rfl, hW0.trans ((below_set4 _ _ _ _ hA2 (by omega)).mono (by omega))⟩
        | exact ⟨rfl, rfl, hW0.trans ((hA2.alloc (by omega) _).mono (by omega))⟩
  | some m =>
    have HL := hid hcl
    have hm := classLen_len hcl
    rw [List.length_drop, size_toList] at hm
    have HEQ := hid (atomP_set (grp := grp) (n := n) HH.out hcl)
    clear hcl
    go_wp2_with fail
    go_region_with (go_at_call 68;
                            refine (CR _).mono ?_;
                            rintro e w2 ⟨⟨ck, rfl⟩, hb2⟩;
                            rw [HL.out];
                            unfold classRes clsVal clsCells;
                            first
                              | (obtain ⟨B2, K2, hA2, hs2⟩ := set_early (W0 := W0) (o := (.cells #[.int .i64 1, .int .u64 0, .int .u64 0, .int .u64 0, .int .u64 0, .int .i64 0, .int .i64 0] 85)) (z := (.cells #[.int .u64 0, .int .u64 0, .int .u64 0, .int .u64 0] 83)) hb2 rfl rfl rfl rfl; have tokB : True := trivial; obtain ⟨k0, k1, k2, k3, g0, g1, g2, g3⟩ := blk_facts4 K2)
                              | (obtain ⟨B2, hA2, hs2⟩ := set_late (W0 := W0) (o := (.cells #[.int .i64 1, .int .u64 0, .int .u64 0, .int .u64 0, .int .u64 0, .int .i64 0, .int .i64 0] 85)) hb2 rfl rfl rfl rfl))
    all_goals
      first
        | (clear tokB
           have B3 : ((((w2.setCell ⟨W0.heap.size + 1, 0, none⟩ (.int .u64 ck.w0)).setCell ⟨W0.heap.size + 1, 1, none⟩ (.int .u64 ck.w1)).setCell ⟨W0.heap.size + 1, 2, none⟩ (.int .u64 ck.w2)).setCell ⟨W0.heap.size + 1, 3, none⟩ (.int .u64 ck.w3)).heap[W0.heap.size]? = _ := (heap_set_ne (by simp)).trans ((heap_set_ne (by simp)).trans ((heap_set_ne (by simp)).trans ((heap_set_ne (by simp)).trans B2)))
           have K3 := set4 (.int .u64 ck.w0) (.int .u64 ck.w1) (.int .u64 ck.w2) (.int .u64 ck.w3) K2
           have hA := below_set4 (b := W0.heap.size + 1) (.int .u64 ck.w0) (.int .u64 ck.w1) (.int .u64 ck.w2) (.int .u64 ck.w3) hA2 (by omega)
           have H3 := H0.grow hA
           clear hb2 e0 e1 c0 c1 c2 f1 f2 d0 d1 d2 d4 d5 k0 k1 k2 k3 g0 g1 g2 g3
           have e0 : b ≠ W0.heap.size := by omega
           have e1 : ¬ W0.heap.size = b := by omega
           generalize World.setCell _ _ _ = w3 at B3 K3 hA H3 ⊢
           obtain ⟨k0, k1, k2, k3, _⟩ := blk_facts4 K3)
        | (have B3 := (Below.heap_alloc w2 (.cells #[.int .u64 ck.w0, .int .u64 ck.w1, .int .u64 ck.w2, .int .u64 ck.w3] 83) W0.heap.size (by omega)).trans B2
           have hA := hA2.alloc (by omega) (.cells #[.int .u64 ck.w0, .int .u64 ck.w1, .int .u64 ck.w2, .int .u64 ck.w3] 83)
           have H3 := H0.grow hA
           clear hb2 e0 e1 c0 c1 c2 f1 f2 d0 d1 d2 d4 d5
           have e0 : b ≠ W0.heap.size := by omega
           have e1 : ¬ W0.heap.size = b := by omega
           obtain ⟨k0, k1, k2, k3, _⟩ := blk_facts4 (heap_new w2 (.cells #[.int .u64 ck.w0, .int .u64 ck.w1, .int .u64 ck.w2, .int .u64 ck.w3] 83))
           generalize w2.alloc (.cells #[.int .u64 ck.w0, .int .u64 ck.w1, .int .u64 ck.w2, .int .u64 ck.w3] 83) = w3 at B3 hA H3 k0 k1 k2 k3 ⊢)
      obtain ⟨⟨s0, s1, s2, s3, s4, s5, s6⟩, z0, z1, z2, z3, z4, z5, z6⟩ := blk_facts7 B3
      obtain ⟨c0, c1, c2, f1, f2⟩ := H3.facts
      cases hput : putP (a + m) n with
      | ok a2 n2 =>
        have HR := hid (show atomP grp s.data.toList a n = _ from HEQ.out.trans hput)
        go_wp2_with (go_at_call 58;
                     refine (put_any b s (a + m) deep n 1 ck 0 0 _ ((H0.grow ((((hA.setCell (Nat.le_refl _) _).setCell (Nat.le_refl _) _).setCell (Nat.le_refl _) _).setCell (Nat.le_refl _) _)).place (a + m) _ (by omega)) hn).mono ?_;
                     rw [hput];
                     rintro e w9 ⟨⟨ix, rfl⟩, H9, hB9⟩;
                     replace hB9 := ((hW0.trans (((((hA.setCell (Nat.le_refl _) _).setCell (Nat.le_refl _) _).setCell (Nat.le_refl _) _).setCell (Nat.le_refl _) _).mono (by omega))).setCell (Nat.le_refl _) _).trans hB9)
        go_ret
        rw [HR.out]
        exact ⟨⟨ix, rfl⟩, H9, hB9⟩
      | bad er =>
        have HR := hid (show atomP grp s.data.toList a n = _ from HEQ.out.trans hput)
        go_wp2_with (go_at_call 58;
                     refine (put_any b s (a + m) deep n 1 ck 0 0 _ ((H0.grow ((((hA.setCell (Nat.le_refl _) _).setCell (Nat.le_refl _) _).setCell (Nat.le_refl _) _).setCell (Nat.le_refl _) _)).place (a + m) _ (by omega)) hn).mono ?_;
                     rw [hput];
                     rintro e w9 ⟨rfl, hB9⟩;
                     replace hB9 := ((hW0.trans (((((hA.setCell (Nat.le_refl _) _).setCell (Nat.le_refl _) _).setCell (Nat.le_refl _) _).setCell (Nat.le_refl _) _).mono (by omega))).setCell (Nat.le_refl _) _).trans hB9)
        rw [HR.out]
        exact ⟨rfl, rfl, hB9⟩
end Go.Proofs.YtdochnioodedmaaDoor
