/- The contract of reader.piece. -/
import Derived.Test.YtdochnioodedmaaDoorR4
import Derived.Test.YtdochnioodedmaaDoorM8
namespace Go.Proofs.YtdochnioodedmaaDoor
open Go Go.RowKit

theorem posts_in {c : UInt8} (h : c ∈ rePosts) : ∃ i : Nat, i < 3 ∧ ∀ w, Calls Tryd.prog 28 #[.string ⟨#[42, 43, 63]⟩, .int .u8 c.toNat] w fun e w' => e = .returned (.int .i64 i) ∧ w = w' := by
  obtain ⟨i, hi, hI⟩ := idx_in h
  refine ⟨i, hi, fun w => ?_⟩
  have := indexByte_any ⟨#[42, 43, 63]⟩ c w
  rw [show Lib.indexByte (ByteArray.mk #[42, 43, 63]).data.toList c = i from hI] at this
  exact this
theorem posts_out {c : UInt8} (h : c ∉ rePosts) : ∀ w, Calls Tryd.prog 28 #[.string ⟨#[42, 43, 63]⟩, .int .u8 c.toNat] w fun e w' => e = .returned (.int .i64 (-1)) ∧ w = w' := by
  intro w
  have := indexByte_any ⟨#[42, 43, 63]⟩ c w
  rw [show Lib.indexByte (ByteArray.mk #[42, 43, 63]).data.toList c = -1 from idx_out h] at this
  exact this

set_option maxRecDepth 100000 in
set_option maxHeartbeats 2000000 in
theorem piece_any (grp : Nat → Nat → PRes) (b : Nat) (s : ByteArray) (deep : Nat) (hs : s.size ≤ 140737488351232)
    (hG : ∀ a n W, a < s.size → n ≤ 2000 → RD b s a deep n W → Calls Tryd.prog 66 #[.pointer (some ⟨b, 0, none⟩)] W (PPost b s deep W (grp a n)))
    (hF : ∀ a n, a < s.data.toList.length → n ≤ 2000 → Fwd s.data.toList (a + 1) (grp a n))
    (a n : Nat) (W : World) (ha : a < s.size) (hn : n ≤ 2000) (H : RD b s a deep n W) :
    Calls Tryd.prog 63 #[.pointer (some ⟨b, 0, none⟩)] W (PPost b s deep W (pieceP grp s.data.toList a n)) := by
  have A := atom_any grp b s deep hs hG a n W ha hn H
  have F := atomP_fwd (l := s.data.toList) (grp := grp) (a := a) (n := n) ha hn (hF a n ha hn)
  clear hG hF
  cases hat : atomP grp s.data.toList a n with
  | bad er =>
    rw [hat] at A
    have HR := hid (pieceP_bad hat)
    clear hat F
    go_enter Tryd.func63, Tryd.ntmps63
    go_wp2_with (go_at_call 65; refine A.mono ?_; rintro e w9 ⟨rfl, hB9⟩)
    rw [HR.out]
    exact ⟨rfl, rfl, hB9⟩
  | ok a2 n2 =>
    rw [hat] at A F
    obtain ⟨F1, F2, F3, F4⟩ := F
    rw [size_toList] at F2
    have HR0 := hid (pieceP_ok hat)
    clear hat
    go_enter Tryd.func63, Tryd.ntmps63
    go_wp2_with (go_at_call 65; refine A.mono ?_; rintro e w2 ⟨⟨ix, rfl⟩, H2, hB2⟩)
    clear A
    go_loopg [3] (s.size - a2) (fun g v wr => ∃ ix a' n' f : Nat, v = .int .i64 ix ∧ g = s.size - a' ∧ a' ≤ s.size ∧ n' ≤ 2000 ∧ RD b s a' deep n' wr ∧ Below b W wr ∧ s.size - a' < f ∧ Hid (pieceP grp s.data.toList a n = postsP s.data.toList f a' n'))
    case atStart => exact ⟨ix, a2, n2, _, rfl, rfl, F2, F4, H2, hB2, by rw [size_toList]; omega, HR0⟩
    case round =>
      clear H2 hB2 HR0 F1 F2 F3 F4
      obtain ⟨ix, a', n', f, rfl, rfl, ha', hn', H1, hB, hf, HE⟩ := hrel
      obtain ⟨g, rfl⟩ : ∃ g, f = g + 1 := ⟨f - 1, by omega⟩
      obtain ⟨c0, c1, c2, f1, f2⟩ := H1.facts
      by_cases hlt : a' < s.size
      · have hd : decide ((a' : Int) < s.size) = true := decide_eq_true (by omega)
        obtain ⟨c, hc⟩ : ∃ c, s[a'] = c := ⟨_, rfl⟩
        have hh := head_some hlt
        rw [hc] at hh
        have HH := hid hh
        have HC := hid hc
        clear hh hc
        go_wp2_with fail
        go_quiet (fail)
        clear hd
        replace H1 := H1.drewN nq
        replace hB := below_drewN hB nq
        generalize wr.drewN nq = w3 at H1 hB ⊢
        clear c0 c1 c2 f1 f2
        obtain ⟨c0, c1, c2, f1, f2⟩ := H1.facts
        have hc := HC.out
        by_cases hp : c ∈ rePosts
        · obtain ⟨i, hi, CI⟩ := posts_in hp
          have HS := hid (postsP_step (f := g) (n := n') HH.out hp)
          go_wp2_with fail
          go_quiet ((go_at_call 28; exact quiet_eq (CI _)))
          replace H1 := H1.drewN nq
          replace hB := below_drewN hB nq
          generalize w3.drewN nq = w4 at H1 hB ⊢
          clear c0 c1 c2 f1 f2 hc CI
          obtain ⟨c0, c1, c2, f1, f2⟩ := H1.facts
          have hk : decide ((i : Int) < 0) = false := decide_eq_false (by omega)
          by_cases hn2 : n' < 2000
          · have HR := hid (HE.out.trans (HS.out.trans (by rw [putP_ok hn2]; rfl : _ = postsP s.data.toList g (a' + 1) (n' + 1))))
            go_wp2_with (go_at_call 58;
                         refine (put_ok b s (a' + 1) deep n' (4 + i) ⟨0, 0, 0, 0⟩ ix 0 _ (H1.place (a' + 1) _ (by omega)) hn2).mono ?_;
                         rintro e w9 ⟨rfl, H9, hB9⟩;
                         replace hB9 := (hB.setCell (Nat.le_refl _) _).trans hB9)
            go_roundg (s.size - (a' + 1))
            case measure => omega
            case rel => exact ⟨n', a' + 1, n' + 1, g, rfl, rfl, by omega, by omega, H9, hB9, by omega, HR⟩
          · have HR := hid (HE.out.trans (HS.out.trans (by rw [putP_bad (by omega)]; rfl : _ = PRes.bad 6)))
            go_wp2_with (go_at_call 58;
                         refine (put_bad b s (a' + 1) deep n' (4 + i) ⟨0, 0, 0, 0⟩ ix 0 _ (H1.place (a' + 1) _ (by omega)) (by omega) hn').mono ?_;
                         rintro e w9 ⟨rfl, hB9⟩;
                         replace hB9 := (hB.setCell (Nat.le_refl _) _).trans hB9)
            rw [HR.out]
            exact ⟨rfl, rfl, hB9⟩
        · have CI := posts_out hp
          have HS := hid (HE.out.trans (postsP_stop (f := g) (n := n') HH.out hp))
          go_wp2_with fail
          go_quiet ((go_at_call 28; exact quiet_eq (CI _)))
          replace H1 := H1.drewN nq
          replace hB := below_drewN hB nq
          generalize w3.drewN nq = w4 at H1 hB ⊢
          go_wp2_with fail
          go_ret
          rw [HS.out]
          exact ⟨⟨ix, rfl⟩, H1, hB⟩
      · have hd : decide ((a' : Int) < s.size) = false := decide_eq_false (by omega)
        have HS := hid (HE.out.trans (postsP_end (f := g) (n := n') (head_none (by omega))))
        go_wp2_with fail
        go_quiet (fail)
        go_wp2_with fail
        go_ret
        rw [HS.out]
        exact ⟨⟨ix, rfl⟩, H1.drewN _, below_drewN hB _⟩

end Go.Proofs.YtdochnioodedmaaDoor
