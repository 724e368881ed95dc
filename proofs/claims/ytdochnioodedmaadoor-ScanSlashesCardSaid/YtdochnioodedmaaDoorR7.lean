/- The contracts of reader.all. -/
import Derived.Test.YtdochnioodedmaaDoorR6
namespace Go.Proofs.YtdochnioodedmaaDoor
open Go Go.RowKit

set_option maxRecDepth 100000 in
set_option maxHeartbeats 2000000 in
theorem all_any (grp : Nat → Nat → PRes) (b : Nat) (s : ByteArray) (deep : Nat) (hs : s.size ≤ 140737488351232) (hG : GrpOk b s deep grp) (hF : GrpFwd s grp)
    (a n : Nat) (W : World) (ha : a ≤ s.size) (hn : n ≤ 2000) (H : RD b s a deep n W) :
    Calls Tryd.prog 47 #[.pointer (some ⟨b, 0, none⟩)] W (PPost b s deep W (allP grp s.data.toList a n)) := by
  have A := cat_any grp b s deep hs hG hF a n W ha hn H
  have F := catP_fwd (l := s.data.toList) hF a n ha hn
  have HG := hid hG
  have HF := hid hF
  clear hG hF
  cases hat : catP grp s.data.toList a n with
  | bad er =>
    rw [hat] at A
    have HR := hid (allP_bad hat)
    clear hat F
    go_enter Tryd.func47, Tryd.ntmps47
    go_wp2_with (go_at_call 56; refine A.mono ?_; rintro e w9 ⟨rfl, hB9⟩)
    rw [HR.out]
    exact ⟨rfl, rfl, hB9⟩
  | ok a2 n2 =>
    rw [hat] at A F
    obtain ⟨F1, F2, F3, F4⟩ := F
    rw [size_toList] at F2
    have HR0 := hid (allP_ok hat)
    clear hat
    go_enter Tryd.func47, Tryd.ntmps47
    go_wp2_with (go_at_call 56; refine A.mono ?_; rintro e w2 ⟨⟨ix, rfl⟩, H2, hB2⟩)
    clear A
    go_loopg [3] (s.size - a2) (fun g v wr => ∃ ix a' n' f : Nat, v = .int .i64 ix ∧ g = s.size - a' ∧ a' ≤ s.size ∧ 1 ≤ n' ∧ n' ≤ 2000 ∧ RD b s a' deep n' wr ∧ Below b W wr ∧ s.size - a' < f ∧ Hid (allP grp s.data.toList a n = altGo grp s.data.toList f a' n'))
    case atStart => exact ⟨ix, a2, n2, _, rfl, rfl, F2, F3, F4, H2, hB2, by rw [size_toList]; omega, HR0⟩
    case round =>
      clear H2 hB2 HR0 F1 F2 F3 F4
      obtain ⟨ix, a', n', f, rfl, rfl, ha', hn1, hn', H1, hB, hf, HE⟩ := hrel
      obtain ⟨g, rfl⟩ : ∃ g, f = g + 1 := ⟨f - 1, by omega⟩
      by_cases hh : (s.data.toList.drop a').head? = some 124
      · have hlt : a' < s.size := head_lt hh
        have t1 : seesB s.data.toList a' 124 = true := seesB_true hh
        have C := fun W H => cat_any grp b s deep hs HG.out HF.out (a' + 1) n' W (by omega) hn' H
        have F := catP_fwd (l := s.data.toList) HF.out (a' + 1) n' (by rw [size_toList]; omega) hn'
        have HH := hid hh
        clear hh
        cases hc : catP grp s.data.toList (a' + 1) n' with
        | bad er =>
          rw [hc] at C
          have HR := hid (HE.out.trans (altGo_bad (f := g) HH.out hc))
          clear hc F
          go_wp2_with fail
          refine (sees_lit b s a' deep n' _ _ H1 (by omega) (by omega)).mono ?_
          rintro e w3 ⟨rfl, m, rfl⟩
          replace H1 := H1.drewN m
          replace hB := below_drewN hB m
          generalize wr.drewN m = w4 at H1 hB ⊢
          obtain ⟨c0, c1, c2, f1, f2⟩ := H1.facts
          go_wp2_with (first
            | (go_at_call 56;
               refine (C _ (H1.place (a' + 1) _ (by omega))).mono ?_;
               rintro e w9 ⟨rfl, hB9⟩;
               replace hB9 := (hB.setCell (Nat.le_refl _) _).trans hB9))
          rw [HR.out]
          exact ⟨rfl, rfl, hB9⟩
        | ok a3 n3 =>
          rw [hc] at C F
          obtain ⟨F1, F2, F3, F4⟩ := F
          rw [size_toList] at F2
          have HC := hid hc
          clear hc
          by_cases hn2 : n3 < 2000
          · have HR := hid (HE.out.trans ((altGo_put (f := g) HH.out HC.out).trans (by rw [putP_ok hn2]; rfl : _ = altGo grp s.data.toList g a3 (n3 + 1))))
            go_wp2_with fail
            refine (sees_lit b s a' deep n' _ _ H1 (by omega) (by omega)).mono ?_
            rintro e w3 ⟨rfl, m, rfl⟩
            replace H1 := H1.drewN m
            replace hB := below_drewN hB m
            generalize wr.drewN m = w4 at H1 hB ⊢
            obtain ⟨c0, c1, c2, f1, f2⟩ := H1.facts
            go_wp2_with (first
              | (go_at_call 56;
                 refine (C _ (H1.place (a' + 1) _ (by omega))).mono ?_;
                 rintro e w9 ⟨⟨i4, rfl⟩, H9, hB9⟩;
                 replace hB9 := (hB.setCell (Nat.le_refl _) _).trans hB9)
              | (go_at_call 58;
                 refine (put_ok b s a3 deep n3 3 ⟨0, 0, 0, 0⟩ ix i4 _ H9 hn2).mono ?_;
                 rintro e w10 ⟨rfl, H10, hB10⟩;
                 replace hB10 := hB9.trans hB10))
            go_roundg (s.size - a3)
            case measure => omega
            case rel => exact ⟨n3, a3, n3 + 1, g, rfl, rfl, F2, by omega, by omega, H10, hB10, by omega, HR⟩
          · have HR := hid (HE.out.trans ((altGo_put (f := g) HH.out HC.out).trans (by rw [putP_bad (by omega)]; rfl : _ = PRes.bad 6)))
            go_wp2_with fail
            refine (sees_lit b s a' deep n' _ _ H1 (by omega) (by omega)).mono ?_
            rintro e w3 ⟨rfl, m, rfl⟩
            replace H1 := H1.drewN m
            replace hB := below_drewN hB m
            generalize wr.drewN m = w4 at H1 hB ⊢
            obtain ⟨c0, c1, c2, f1, f2⟩ := H1.facts
            go_wp2_with (first
              | (go_at_call 56;
                 refine (C _ (H1.place (a' + 1) _ (by omega))).mono ?_;
                 rintro e w9 ⟨⟨i4, rfl⟩, H9, hB9⟩;
                 replace hB9 := (hB.setCell (Nat.le_refl _) _).trans hB9)
              | (go_at_call 58;
                 refine (put_bad b s a3 deep n3 3 ⟨0, 0, 0, 0⟩ ix i4 _ H9 (by omega) F4).mono ?_;
                 rintro e w10 ⟨rfl, hB10⟩;
                 replace hB10 := hB9.trans hB10))
            rw [HR.out]
            exact ⟨rfl, rfl, hB10⟩
      · have t1 : seesB s.data.toList a' 124 = false := seesB_false hh
        have HR := hid (HE.out.trans (altGo_end (f := g) (n := n') hh))
        clear hh
        go_wp2_with fail
        refine (sees_lit b s a' deep n' _ _ H1 (by omega) (by omega)).mono ?_
        rintro e w3 ⟨rfl, m, rfl⟩
        replace H1 := H1.drewN m
        replace hB := below_drewN hB m
        generalize wr.drewN m = w4 at H1 hB ⊢
        go_wp2_with fail
        go_ret
        rw [HR.out]
        exact ⟨⟨ix, rfl⟩, H1, hB⟩

end Go.Proofs.YtdochnioodedmaaDoor
