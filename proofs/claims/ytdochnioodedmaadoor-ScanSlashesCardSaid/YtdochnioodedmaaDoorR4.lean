/- The contract of reader.atom. -/
import Derived.Test.YtdochnioodedmaaDoorR3
namespace Go.Proofs.YtdochnioodedmaaDoor
open Go Go.RowKit

set_option maxRecDepth 100000 in
set_option maxHeartbeats 4000000 in
theorem atom_any (grp : Nat → Nat → PRes) (b : Nat) (s : ByteArray) (deep : Nat) (hs : s.size ≤ 140737488351232)
    (hG : ∀ a n W, a < s.size → n ≤ 2000 → RD b s a deep n W → Calls Tryd.prog 66 #[.pointer (some ⟨b, 0, none⟩)] W (PPost b s deep W (grp a n)))
    (a n : Nat) (W : World) (ha : a < s.size) (hn : n ≤ 2000) (H : RD b s a deep n W) :
    Calls Tryd.prog 65 #[.pointer (some ⟨b, 0, none⟩)] W (PPost b s deep W (atomP grp s.data.toList a n)) := by
  by_cases n91 : s[a] = 91
  · exact atom_set grp b s deep hs a n W ha n91 hn H
  have N91 := hid n91
  clear n91
  have hh : (s.data.toList.drop a).head? = some s[a] := by rw [drop_cons s a ha]; rfl
  obtain ⟨c, hc⟩ : ∃ c, s[a] = c := ⟨_, rfl⟩
  obtain ⟨c0, c1, c2, f1, f2⟩ := H.facts
  go_enter Tryd.func65, Tryd.ntmps65
  go_wp2_with fail
  go_quiet (fail)
  have H0 := H.drewN nq
  have hW0 : Below b W (W.drewN nq) := below_drewN (Below.refl _ _) _
  generalize W.drewN nq = W0 at H0 hW0 ⊢
  have HC := hid hc
  rw [hc] at hh
  have HH := hid hh
  have hsz := H0.size
  have e0 : b ≠ W0.heap.size := by omega
  have e1 : ¬ W0.heap.size = b := by omega
  have H1 := H0.grow ((Below.refl W0.heap.size W0).alloc (Nat.le_refl _) (.cells #[.int .i64 1, .int .u64 0, .int .u64 0, .int .u64 0, .int .u64 0, .int .i64 0, .int .i64 0] 85))
  have hB1 := hW0.trans (((Below.refl W0.heap.size W0).alloc (Nat.le_refl _) (.cells #[.int .i64 1, .int .u64 0, .int .u64 0, .int .u64 0, .int .u64 0, .int .i64 0, .int .i64 0] 85)).mono (show b ≤ W0.heap.size by omega))
  clear c0 c1 c2 f1 f2 hc hh
  by_cases h40 : c = 40
  · subst h40
    have G := hG a n _ ha hn H1
    cases hg : grp a n with
    | ok a2 n2 =>
      rw [hg] at G
      have HR := hid (show atomP grp s.data.toList a n = _ from (atomP_group HH.out).trans hg)
      clear hg hG
      go_wp2_with (go_at_call 66; refine G.mono ?_; rintro e w9 ⟨⟨ix, rfl⟩, H9, hB9⟩)
      go_ret
      rw [HR.out]
      exact ⟨⟨ix, rfl⟩, H9, hB1.trans hB9⟩
    | bad er =>
      rw [hg] at G
      have HR := hid (show atomP grp s.data.toList a n = _ from (atomP_group HH.out).trans hg)
      clear hg hG
      go_wp2_with (go_at_call 66; refine G.mono ?_; rintro e w9 ⟨rfl, hB9⟩)
      rw [HR.out]
      exact ⟨rfl, rfl, hB1.trans hB9⟩
  · have t40 := beqF (show ¬ (c.toNat : Int) = 40 from u8_ne (d := 40) h40)
    clear hG
    by_cases h46 : c = 46
    · subst h46
      clear hB1 H1
      cases hput : putP (a + 1) n with
      | ok a2 n2 =>
        have HR := hid (show atomP grp s.data.toList a n = _ from (atomP_dot HH.out).trans hput)
        go_wp2_with (first
            | (go_at_call 67;
                                              refine (dot_any _).mono ?_;
                                              rintro e w3 ⟨⟨dk, rfl⟩, hb3⟩;
                                              have B3 := (hb3.block W0.heap.size (by simp)).trans (heap_new W0 _);
                                              have hA : Below W0.heap.size W0 w3 := ((Below.refl W0.heap.size W0).alloc (Nat.le_refl _) _).trans (hb3.mono (by simp));
                                              clear hb3 e0 e1;
                                              have H3 := H0.grow hA;
                                              obtain ⟨⟨s0, s1, s2, s3, s4, s5, s6⟩, z0, z1, z2, z3, z4, z5, z6⟩ := blk_facts7 B3;
                                              obtain ⟨c0, c1, c2, f1, f2⟩ := H3.facts;
                                              unfold clsVal clsCells)
            | (go_at_call 58;
                                              refine (put_any b s (a + 1) deep n 1 dk 0 0 _ ((H0.grow ((((hA.setCell (Nat.le_refl _) _).setCell (Nat.le_refl _) _).setCell (Nat.le_refl _) _).setCell (Nat.le_refl _) _)).place (a + 1) _ (by omega)) hn).mono ?_;
                                              rw [hput];
                                              rintro e w9 ⟨⟨ix, rfl⟩, H9, hB9⟩;
                                              replace hB9 := ((hW0.trans (((((hA.setCell (Nat.le_refl _) _).setCell (Nat.le_refl _) _).setCell (Nat.le_refl _) _).setCell (Nat.le_refl _) _).mono (by omega))).setCell (Nat.le_refl _) _).trans hB9))
        go_ret
        rw [HR.out]
        exact ⟨⟨ix, rfl⟩, H9, hB9⟩
      | bad er =>
        have HR := hid (show atomP grp s.data.toList a n = _ from (atomP_dot HH.out).trans hput)
        go_wp2_with (first
            | (go_at_call 67;
                                              refine (dot_any _).mono ?_;
                                              rintro e w3 ⟨⟨dk, rfl⟩, hb3⟩;
                                              have B3 := (hb3.block W0.heap.size (by simp)).trans (heap_new W0 _);
                                              have hA : Below W0.heap.size W0 w3 := ((Below.refl W0.heap.size W0).alloc (Nat.le_refl _) _).trans (hb3.mono (by simp));
                                              clear hb3 e0 e1;
                                              have H3 := H0.grow hA;
                                              obtain ⟨⟨s0, s1, s2, s3, s4, s5, s6⟩, z0, z1, z2, z3, z4, z5, z6⟩ := blk_facts7 B3;
                                              obtain ⟨c0, c1, c2, f1, f2⟩ := H3.facts;
                                              unfold clsVal clsCells)
            | (go_at_call 58;
                                              refine (put_any b s (a + 1) deep n 1 dk 0 0 _ ((H0.grow ((((hA.setCell (Nat.le_refl _) _).setCell (Nat.le_refl _) _).setCell (Nat.le_refl _) _).setCell (Nat.le_refl _) _)).place (a + 1) _ (by omega)) hn).mono ?_;
                                              rw [hput];
                                              rintro e w9 ⟨rfl, hB9⟩;
                                              replace hB9 := ((hW0.trans (((((hA.setCell (Nat.le_refl _) _).setCell (Nat.le_refl _) _).setCell (Nat.le_refl _) _).setCell (Nat.le_refl _) _).mono (by omega))).setCell (Nat.le_refl _) _).trans hB9))
        rw [HR.out]
        exact ⟨rfl, rfl, hB9⟩
    · have t46 := beqF (show ¬ (c.toNat : Int) = 46 from u8_ne (d := 46) h46)
      by_cases h94 : c = 94
      · subst h94
        obtain ⟨c0, c1, c2, f1, f2⟩ := (H0.grow ((Below.refl W0.heap.size W0).alloc (Nat.le_refl _) (.cells #[.int .i64 7, .int .u64 0, .int .u64 0, .int .u64 0, .int .u64 0, .int .i64 0, .int .i64 0] 85))).facts
        cases hput : putP (a + 1) n with
        | ok a2 n2 =>
          have HR := hid (show atomP grp s.data.toList a n = _ from (atomP_begin HH.out).trans hput)
          go_wp2_with (first
              | (go_at_call 58;
                                                refine (put_any b s (a + 1) deep n 7 ⟨0, 0, 0, 0⟩ 0 0 _ ((H0.grow ((Below.refl W0.heap.size W0).alloc (Nat.le_refl _) _)).place (a + 1) _ (by omega)) hn).mono ?_;
                                                rw [hput];
                                                rintro e w9 ⟨⟨ix, rfl⟩, H9, hB9⟩;
                                                replace hB9 := ((hW0.trans (((Below.refl W0.heap.size W0).alloc (Nat.le_refl _) _).mono (by omega))).setCell (Nat.le_refl _) _).trans hB9))
          go_ret
          rw [HR.out]
          exact ⟨⟨ix, rfl⟩, H9, hB9⟩
        | bad er =>
          have HR := hid (show atomP grp s.data.toList a n = _ from (atomP_begin HH.out).trans hput)
          go_wp2_with (first
              | (go_at_call 58;
                                                refine (put_any b s (a + 1) deep n 7 ⟨0, 0, 0, 0⟩ 0 0 _ ((H0.grow ((Below.refl W0.heap.size W0).alloc (Nat.le_refl _) _)).place (a + 1) _ (by omega)) hn).mono ?_;
                                                rw [hput];
                                                rintro e w9 ⟨rfl, hB9⟩;
                                                replace hB9 := ((hW0.trans (((Below.refl W0.heap.size W0).alloc (Nat.le_refl _) _).mono (by omega))).setCell (Nat.le_refl _) _).trans hB9))
          rw [HR.out]
          exact ⟨rfl, rfl, hB9⟩
      · have t94 := beqF (show ¬ (c.toNat : Int) = 94 from u8_ne (d := 94) h94)
        by_cases h36 : c = 36
        · subst h36
          obtain ⟨c0, c1, c2, f1, f2⟩ := (H0.grow ((Below.refl W0.heap.size W0).alloc (Nat.le_refl _) (.cells #[.int .i64 8, .int .u64 0, .int .u64 0, .int .u64 0, .int .u64 0, .int .i64 0, .int .i64 0] 85))).facts
          cases hput : putP (a + 1) n with
          | ok a2 n2 =>
            have HR := hid (show atomP grp s.data.toList a n = _ from (atomP_end HH.out).trans hput)
            go_wp2_with (first
                | (go_at_call 58;
                                                  refine (put_any b s (a + 1) deep n 8 ⟨0, 0, 0, 0⟩ 0 0 _ ((H0.grow ((Below.refl W0.heap.size W0).alloc (Nat.le_refl _) _)).place (a + 1) _ (by omega)) hn).mono ?_;
                                                  rw [hput];
                                                  rintro e w9 ⟨⟨ix, rfl⟩, H9, hB9⟩;
                                                  replace hB9 := ((hW0.trans (((Below.refl W0.heap.size W0).alloc (Nat.le_refl _) _).mono (by omega))).setCell (Nat.le_refl _) _).trans hB9))
            go_ret
            rw [HR.out]
            exact ⟨⟨ix, rfl⟩, H9, hB9⟩
          | bad er =>
            have HR := hid (show atomP grp s.data.toList a n = _ from (atomP_end HH.out).trans hput)
            go_wp2_with (first
                | (go_at_call 58;
                                                  refine (put_any b s (a + 1) deep n 8 ⟨0, 0, 0, 0⟩ 0 0 _ ((H0.grow ((Below.refl W0.heap.size W0).alloc (Nat.le_refl _) _)).place (a + 1) _ (by omega)) hn).mono ?_;
                                                  rw [hput];
                                                  rintro e w9 ⟨rfl, hB9⟩;
                                                  replace hB9 := ((hW0.trans (((Below.refl W0.heap.size W0).alloc (Nat.le_refl _) _).mono (by omega))).setCell (Nat.le_refl _) _).trans hB9))
            rw [HR.out]
            exact ⟨rfl, rfl, hB9⟩
        · have t36 := beqF (show ¬ (c.toNat : Int) = 36 from u8_ne (d := 36) h36)
          by_cases h91 : c = 91
          · subst h91
            exact absurd HC.out N91.out
          · have t91 := beqF (show ¬ (c.toNat : Int) = 91 from u8_ne (d := 91) h91)
            by_cases hbad : c ∈ reBad
            · obtain ⟨ix, _, hI⟩ := idx_in hbad
              have HR := hid (show atomP grp s.data.toList a n = .bad 9 from atomP_bad HH.out h40 (fun e => by rcases e with e | e | e; exact h46 e; exact h94 e; exact h36 e) h91 hbad)
              go_wp2_with (first
                  | (go_at_call 28;
                                        refine (indexByte_any _ _ _).mono ?_;
                                        rintro e w7 ⟨rfl, rfl⟩;
                                        rw [hI]))
              rw [HR.out]
              exact ⟨rfl, rfl, hB1⟩
            · have hI := idx_out hbad
              have HNO := hid (show ¬ (c = 46 ∨ c = 94 ∨ c = 36) from fun e => by rcases e with e | e | e; exact h46 e; exact h94 e; exact h36 e)
              have HBAD := hid hbad
              obtain ⟨c0, c1, c2, f1, f2⟩ := H1.facts
              cases hsg : signOf (s.data.toList.drop a) with
              | none =>
                have HS := hid hsg
                have HR := hid (show atomP grp s.data.toList a n = .bad 9 from atomP_nosign HH.out h40 HNO.out h91 HBAD.out hsg)
                clear hsg hbad
                go_wp2_with (first
                    | (go_at_call 28;
                                        refine (indexByte_any _ _ _).mono ?_;
                                        rintro e w7 ⟨rfl, rfl⟩;
                                        rw [hI]))
                go_region_with (go_at_call 69;
                                        refine (sign_sub s a _ hs).mono ?_;
                                        rintro e w2 ⟨rfl, hb2⟩;
                                        rw [HS.out];
                                        unfold signVal;
                                        have B2 := (hb2.block W0.heap.size (show W0.heap.size < (W0.alloc (.cells #[.int .i64 1, .int .u64 0, .int .u64 0, .int .u64 0, .int .u64 0, .int .i64 0, .int .i64 0] 85)).heap.size by simp)).trans (heap_new W0 (.cells #[.int .i64 1, .int .u64 0, .int .u64 0, .int .u64 0, .int .u64 0, .int .i64 0, .int .i64 0] 85));
                                        have hA2 : Below W0.heap.size W0 w2 := (((Below.refl W0.heap.size W0).alloc (Nat.le_refl _) (.cells #[.int .i64 1, .int .u64 0, .int .u64 0, .int .u64 0, .int .u64 0, .int .i64 0, .int .i64 0] 85)).drew).trans (hb2.mono (show W0.heap.size ≤ (W0.alloc (.cells #[.int .i64 1, .int .u64 0, .int .u64 0, .int .u64 0, .int .u64 0, .int .i64 0, .int .i64 0] 85)).heap.size by simp));
                                        have hs2 : W0.heap.size + 1 ≤ w2.heap.size := by { have h : (W0.alloc (.cells #[.int .i64 1, .int .u64 0, .int .u64 0, .int .u64 0, .int .u64 0, .int .i64 0, .int .i64 0] 85)).heap.size ≤ w2.heap.size := hb2.size; simpa using h };
                                        clear hb2)
                all_goals
                  go_wp2_with fail
                  rw [HR.out]
                  exact ⟨rfl, rfl, hW0.trans (hA2.mono (by omega))⟩
              | some bn =>
                obtain ⟨sb, m⟩ := bn
                have hm := signOf_len hsg
                rw [List.length_drop, size_toList] at hm
                have HS := hid hsg
                have HEQ := hid (atomP_sign (grp := grp) (n := n) HH.out h40 HNO.out h91 HBAD.out hsg)
                clear hsg hbad hB1 H1
                cases hput : putP (a + m) n with
                | ok a2 n2 =>
                  have HR := hid (show atomP grp s.data.toList a n = _ from HEQ.out.trans hput)
                  go_wp2_with (first
                      | (go_at_call 28;
                                                        refine (indexByte_any _ _ _).mono ?_;
                                                        rintro e w7 ⟨rfl, rfl⟩;
                                                        rw [hI]))
                  go_region_with (go_at_call 69;
                                                        refine (sign_sub s a _ hs).mono ?_;
                                                        rintro e w2 ⟨rfl, hb2⟩;
                                                        rw [HS.out];
                                                        unfold signVal;
                                                        have B2 := (hb2.block W0.heap.size (show W0.heap.size < (W0.alloc (.cells #[.int .i64 1, .int .u64 0, .int .u64 0, .int .u64 0, .int .u64 0, .int .i64 0, .int .i64 0] 85)).heap.size by simp)).trans (heap_new W0 (.cells #[.int .i64 1, .int .u64 0, .int .u64 0, .int .u64 0, .int .u64 0, .int .i64 0, .int .i64 0] 85));
                                                        have hA2 : Below W0.heap.size W0 w2 := (((Below.refl W0.heap.size W0).alloc (Nat.le_refl _) (.cells #[.int .i64 1, .int .u64 0, .int .u64 0, .int .u64 0, .int .u64 0, .int .i64 0, .int .i64 0] 85)).drew).trans (hb2.mono (show W0.heap.size ≤ (W0.alloc (.cells #[.int .i64 1, .int .u64 0, .int .u64 0, .int .u64 0, .int .u64 0, .int .i64 0, .int .i64 0] 85)).heap.size by simp));
                                                        have hs2 : W0.heap.size + 1 ≤ w2.heap.size := by { have h : (W0.alloc (.cells #[.int .i64 1, .int .u64 0, .int .u64 0, .int .u64 0, .int .u64 0, .int .i64 0, .int .i64 0] 85)).heap.size ≤ w2.heap.size := hb2.size; simpa using h };
                                                        clear hb2)
                  all_goals
                    go_wp2_with (first
                        | (go_at_call 70;
                                                        refine (one_any sb _).mono ?_;
                                                        rintro e w3 ⟨⟨dk, rfl⟩, hb3⟩;
                                                        have B3 := (hb3.block W0.heap.size (by omega)).trans B2;
                                                        have hA : Below W0.heap.size W0 w3 := hA2.trans (hb3.mono (by omega));
                                                        clear hb3 e0 e1;
                                                        have H3 := H0.grow hA;
                                                        obtain ⟨⟨s0, s1, s2, s3, s4, s5, s6⟩, z0, z1, z2, z3, z4, z5, z6⟩ := blk_facts7 B3;
                                                        obtain ⟨c0, c1, c2, f1, f2⟩ := H3.facts;
                                                        unfold clsVal clsCells)
                        | (go_at_call 58;
                                                        refine (put_any b s (a + m) deep n 1 dk 0 0 _ ((H0.grow ((((hA.setCell (Nat.le_refl _) _).setCell (Nat.le_refl _) _).setCell (Nat.le_refl _) _).setCell (Nat.le_refl _) _)).place (a + m) _ (by omega)) hn).mono ?_;
                                                        rw [hput];
                                                        rintro e w9 ⟨⟨ix, rfl⟩, H9, hB9⟩;
                                                        replace hB9 := ((hW0.trans (((((hA.setCell (Nat.le_refl _) _).setCell (Nat.le_refl _) _).setCell (Nat.le_refl _) _).setCell (Nat.le_refl _) _).mono (by omega))).setCell (Nat.le_refl _) _).trans hB9))
                    go_ret
                    rw [HR.out]
                    exact ⟨⟨ix, rfl⟩, H9, hB9⟩
                | bad er =>
                  have HR := hid (show atomP grp s.data.toList a n = _ from HEQ.out.trans hput)
                  go_wp2_with (first
                      | (go_at_call 28;
                                                        refine (indexByte_any _ _ _).mono ?_;
                                                        rintro e w7 ⟨rfl, rfl⟩;
                                                        rw [hI]))
                  go_region_with (go_at_call 69;
                                                        refine (sign_sub s a _ hs).mono ?_;
                                                        rintro e w2 ⟨rfl, hb2⟩;
                                                        rw [HS.out];
                                                        unfold signVal;
                                                        have B2 := (hb2.block W0.heap.size (show W0.heap.size < (W0.alloc (.cells #[.int .i64 1, .int .u64 0, .int .u64 0, .int .u64 0, .int .u64 0, .int .i64 0, .int .i64 0] 85)).heap.size by simp)).trans (heap_new W0 (.cells #[.int .i64 1, .int .u64 0, .int .u64 0, .int .u64 0, .int .u64 0, .int .i64 0, .int .i64 0] 85));
                                                        have hA2 : Below W0.heap.size W0 w2 := (((Below.refl W0.heap.size W0).alloc (Nat.le_refl _) (.cells #[.int .i64 1, .int .u64 0, .int .u64 0, .int .u64 0, .int .u64 0, .int .i64 0, .int .i64 0] 85)).drew).trans (hb2.mono (show W0.heap.size ≤ (W0.alloc (.cells #[.int .i64 1, .int .u64 0, .int .u64 0, .int .u64 0, .int .u64 0, .int .i64 0, .int .i64 0] 85)).heap.size by simp));
                                                        have hs2 : W0.heap.size + 1 ≤ w2.heap.size := by { have h : (W0.alloc (.cells #[.int .i64 1, .int .u64 0, .int .u64 0, .int .u64 0, .int .u64 0, .int .i64 0, .int .i64 0] 85)).heap.size ≤ w2.heap.size := hb2.size; simpa using h };
                                                        clear hb2)
                  all_goals
                    go_wp2_with (first
                        | (go_at_call 70;
                                                        refine (one_any sb _).mono ?_;
                                                        rintro e w3 ⟨⟨dk, rfl⟩, hb3⟩;
                                                        have B3 := (hb3.block W0.heap.size (by omega)).trans B2;
                                                        have hA : Below W0.heap.size W0 w3 := hA2.trans (hb3.mono (by omega));
                                                        clear hb3 e0 e1;
                                                        have H3 := H0.grow hA;
                                                        obtain ⟨⟨s0, s1, s2, s3, s4, s5, s6⟩, z0, z1, z2, z3, z4, z5, z6⟩ := blk_facts7 B3;
                                                        obtain ⟨c0, c1, c2, f1, f2⟩ := H3.facts;
                                                        unfold clsVal clsCells)
                        | (go_at_call 58;
                                                        refine (put_any b s (a + m) deep n 1 dk 0 0 _ ((H0.grow ((((hA.setCell (Nat.le_refl _) _).setCell (Nat.le_refl _) _).setCell (Nat.le_refl _) _).setCell (Nat.le_refl _) _)).place (a + m) _ (by omega)) hn).mono ?_;
                                                        rw [hput];
                                                        rintro e w9 ⟨rfl, hB9⟩;
                                                        replace hB9 := ((hW0.trans (((((hA.setCell (Nat.le_refl _) _).setCell (Nat.le_refl _) _).setCell (Nat.le_refl _) _).setCell (Nat.le_refl _) _).mono (by omega))).setCell (Nat.le_refl _) _).trans hB9))
                    rw [HR.out]
                    exact ⟨rfl, rfl, hB9⟩

end Go.Proofs.YtdochnioodedmaaDoor
