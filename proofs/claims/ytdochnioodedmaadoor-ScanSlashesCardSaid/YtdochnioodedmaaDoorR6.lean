/- The contract of reader.cat. -/
import Derived.Test.YtdochnioodedmaaDoorR5
namespace Go.Proofs.YtdochnioodedmaaDoor
open Go Go.RowKit

/-- a part's contract, as a name -/
def GrpOk (b : Nat) (s : ByteArray) (deep : Nat) (grp : Nat → Nat → PRes) : Prop :=
  ∀ a n W, a < s.size → n ≤ 2000 → RD b s a deep n W → Calls Tryd.prog 66 #[.pointer (some ⟨b, 0, none⟩)] W (PPost b s deep W (grp a n))
def GrpFwd (s : ByteArray) (grp : Nat → Nat → PRes) : Prop := ∀ a n, a < s.data.toList.length → n ≤ 2000 → Fwd s.data.toList (a + 1) (grp a n)

/-- does a byte stand here? -/
def seesB (l : List UInt8) (a : Nat) (c : Int) : Bool := (l.drop a).head?.any fun x => decide ((x.toNat : Int) = c)
theorem seesB_true {l : List UInt8} {a : Nat} {c : UInt8} (h : (l.drop a).head? = some c) : seesB l a c.toNat = true := by unfold seesB; rw [h]; simp
theorem seesB_false {l : List UInt8} {a : Nat} {c : UInt8} (h : ¬ (l.drop a).head? = some c) : seesB l a c.toNat = false := by
  unfold seesB
  cases hd : (l.drop a).head? with
  | none => rfl
  | some x =>
    rw [hd] at h
    have : ¬ x = c := fun e => h (by rw [e])
    simp only [Option.any_some, decide_eq_false_iff_not]
    exact fun e => this (UInt8.toNat_inj.1 (by omega))
theorem sees_lit (b : Nat) (s : ByteArray) (at_ deep n : Nat) (c : Int) (W : World) (H : RD b s at_ deep n W) (h0 : 0 ≤ c) (h1 : c < 256) :
    Calls Tryd.prog 57 #[.pointer (some ⟨b, 0, none⟩), .int .u8 c] W fun e w' => e = .returned (.bool (seesB s.data.toList at_ c)) ∧ ∃ m, w' = W.drewN m := by
  obtain ⟨u, rfl⟩ : ∃ u : UInt8, c = u.toNat := ⟨c.toNat.toUInt8, by simp; omega⟩
  have h := sees_any b s at_ deep n u W H
  by_cases hh : (s.data.toList.drop at_).head? = some u
  · rw [decide_eq_true hh] at h
    rw [seesB_true hh]
    exact h
  · rw [decide_eq_false hh] at h
    rw [seesB_false hh]
    exact h

set_option maxRecDepth 100000 in
set_option maxHeartbeats 2000000 in
theorem cat_any (grp : Nat → Nat → PRes) (b : Nat) (s : ByteArray) (deep : Nat) (hs : s.size ≤ 140737488351232) (hG : GrpOk b s deep grp) (hF : GrpFwd s grp)
    (a n : Nat) (W : World) (ha : a ≤ s.size) (hn : n ≤ 2000) (H : RD b s a deep n W) :
    Calls Tryd.prog 56 #[.pointer (some ⟨b, 0, none⟩)] W (PPost b s deep W (catP grp s.data.toList a n)) := by
  have HG := hid hG
  have HF := hid hF
  clear hG hF
  have HR0 : Hid (catP grp s.data.toList a n = catGo grp s.data.toList (s.data.toList.length + 1) true a n) := hid rfl
  go_enter Tryd.func56, Tryd.ntmps56
  go_wp2_with fail
  go_loopg [3] (s.size - a) (fun g v wr => ∃ (v3 : Int) (first : Bool) (a' n' f : Nat), v = .int .i64 v3 ∧ (if first = true then v3 = -1 else 0 ≤ v3) ∧ g = s.size - a' ∧ a' ≤ s.size ∧ n' ≤ 2000 ∧ RD b s a' deep n' wr ∧ Below b W wr ∧ s.size - a' < f ∧ Hid (catP grp s.data.toList a n = catGo grp s.data.toList f first a' n'))
  case atStart => exact ⟨-1, true, a, n, _, rfl, rfl, rfl, ha, hn, H, Below.refl _ _, by rw [size_toList]; omega, HR0⟩
  case round =>
    clear HR0
    obtain ⟨v3, first, a', n', f, rfl, hv3, rfl, ha', hn', H1, hB, hf, HE⟩ := hrel
    obtain ⟨g, rfl⟩ : ∃ g, f = g + 1 := ⟨f - 1, by omega⟩
    obtain ⟨c0, c1, c2, f1, f2⟩ := H1.facts
    by_cases hend : (s.data.toList.drop a').head? = none ∨ (s.data.toList.drop a').head? = some 124 ∨ (s.data.toList.drop a').head? = some 41
    · have HC := hid (HE.out.trans (catGo_end (grp := grp) (f := g) (n := n') (first := first) hend))
      have hlt2 : (s.data.toList.drop a').head? ≠ none → a' < s.size := fun h => by
        rcases Nat.lt_or_ge a' s.size with h2 | h2
        · exact h2
        · exact absurd (head_none h2) h
      rcases hend with h | h | h
      · have hd : decide ((a' : Int) < s.size) = false := decide_eq_false (fun e => by rw [head_some (by omega)] at h; cases h)
        have hd2 : decide (a' < s.size) = false := decide_eq_false (fun e => by rw [head_some (by omega)] at h; cases h)
        clear h hlt2
        go_wp2_with fail
        go_quiet (fail)
        replace H1 := H1.drewN nq
        replace hB := below_drewN hB nq
        generalize wr.drewN nq = w3 at H1 hB ⊢
        clear c0 c1 c2 f1 f2 hd
        cases first with
        | true =>
          obtain rfl : v3 = -1 := hv3
          by_cases hn2 : n' < 2000
          · have HR := hid (HC.out.trans (by rw [if_pos rfl, putP_ok hn2] : _ = PRes.ok a' (n' + 1)))
            go_wp2_with (go_at_call 58;
                         refine (put_ok b s a' deep n' 0 ⟨0, 0, 0, 0⟩ 0 0 _ H1 hn2).mono ?_;
                         rintro e w9 ⟨rfl, H9, hB9⟩;
                         replace hB9 := hB.trans hB9)
            go_ret
            rw [HR.out]
            exact ⟨⟨n', rfl⟩, H9, hB9⟩
          · have HR := hid (HC.out.trans (by rw [if_pos rfl, putP_bad (by omega)] : _ = PRes.bad 6))
            go_wp2_with (go_at_call 58;
                         refine (put_bad b s a' deep n' 0 ⟨0, 0, 0, 0⟩ 0 0 _ H1 (by omega) hn').mono ?_;
                         rintro e w9 ⟨rfl, hB9⟩;
                         replace hB9 := hB.trans hB9)
            rw [HR.out]
            exact ⟨rfl, rfl, hB9⟩
        | false =>
          have hv : 0 ≤ v3 := hv3
          obtain ⟨i3, rfl⟩ := Int.eq_ofNat_of_zero_le hv
          have hk : decide ((i3 : Int) < 0) = false := decide_eq_false (by omega)
          have HR := hid (HC.out.trans (if_neg (by simp) : _ = PRes.ok a' n'))
          go_wp2_with fail
          go_ret
          rw [HR.out]
          exact ⟨⟨i3, rfl⟩, H1, hB⟩
      · have hlt := hlt2 (by rw [h]; simp)
        have hd : decide ((a' : Int) < s.size) = true := decide_eq_true (by omega)
        have t1 : seesB s.data.toList a' 124 = true := seesB_true h
        clear h hlt2
        go_wp2_with fail
        go_quiet ((go_at_call 57; exact Calls.quiet_of (sees_lit b s a' deep n' _ _ (H1.drewN _) (by omega) (by omega))))
        replace H1 := H1.drewN nq
        replace hB := below_drewN hB nq
        generalize wr.drewN nq = w3 at H1 hB ⊢
        clear c0 c1 c2 f1 f2 hd
        cases first with
        | true =>
          obtain rfl : v3 = -1 := hv3
          by_cases hn2 : n' < 2000
          · have HR := hid (HC.out.trans (by rw [if_pos rfl, putP_ok hn2] : _ = PRes.ok a' (n' + 1)))
            go_wp2_with (go_at_call 58;
                         refine (put_ok b s a' deep n' 0 ⟨0, 0, 0, 0⟩ 0 0 _ H1 hn2).mono ?_;
                         rintro e w9 ⟨rfl, H9, hB9⟩;
                         replace hB9 := hB.trans hB9)
            go_ret
            rw [HR.out]
            exact ⟨⟨n', rfl⟩, H9, hB9⟩
          · have HR := hid (HC.out.trans (by rw [if_pos rfl, putP_bad (by omega)] : _ = PRes.bad 6))
            go_wp2_with (go_at_call 58;
                         refine (put_bad b s a' deep n' 0 ⟨0, 0, 0, 0⟩ 0 0 _ H1 (by omega) hn').mono ?_;
                         rintro e w9 ⟨rfl, hB9⟩;
                         replace hB9 := hB.trans hB9)
            rw [HR.out]
            exact ⟨rfl, rfl, hB9⟩
        | false =>
          have hv : 0 ≤ v3 := hv3
          obtain ⟨i3, rfl⟩ := Int.eq_ofNat_of_zero_le hv
          have hk : decide ((i3 : Int) < 0) = false := decide_eq_false (by omega)
          have HR := hid (HC.out.trans (if_neg (by simp) : _ = PRes.ok a' n'))
          go_wp2_with fail
          go_ret
          rw [HR.out]
          exact ⟨⟨i3, rfl⟩, H1, hB⟩
      · have hlt := hlt2 (by rw [h]; simp)
        have hd : decide ((a' : Int) < s.size) = true := decide_eq_true (by omega)
        have t1 : seesB s.data.toList a' 124 = false := seesB_false (c := 124) (by rw [h]; decide)
        have t2 : seesB s.data.toList a' 41 = true := seesB_true h
        clear h hlt2
        go_wp2_with fail
        go_quiet ((go_at_call 57; exact Calls.quiet_of (sees_lit b s a' deep n' _ _ (H1.drewN _) (by omega) (by omega))))
        replace H1 := H1.drewN nq
        replace hB := below_drewN hB nq
        generalize wr.drewN nq = w3 at H1 hB ⊢
        clear c0 c1 c2 f1 f2 hd
        cases first with
        | true =>
          obtain rfl : v3 = -1 := hv3
          by_cases hn2 : n' < 2000
          · have HR := hid (HC.out.trans (by rw [if_pos rfl, putP_ok hn2] : _ = PRes.ok a' (n' + 1)))
            go_wp2_with (go_at_call 58;
                         refine (put_ok b s a' deep n' 0 ⟨0, 0, 0, 0⟩ 0 0 _ H1 hn2).mono ?_;
                         rintro e w9 ⟨rfl, H9, hB9⟩;
                         replace hB9 := hB.trans hB9)
            go_ret
            rw [HR.out]
            exact ⟨⟨n', rfl⟩, H9, hB9⟩
          · have HR := hid (HC.out.trans (by rw [if_pos rfl, putP_bad (by omega)] : _ = PRes.bad 6))
            go_wp2_with (go_at_call 58;
                         refine (put_bad b s a' deep n' 0 ⟨0, 0, 0, 0⟩ 0 0 _ H1 (by omega) hn').mono ?_;
                         rintro e w9 ⟨rfl, hB9⟩;
                         replace hB9 := hB.trans hB9)
            rw [HR.out]
            exact ⟨rfl, rfl, hB9⟩
        | false =>
          have hv : 0 ≤ v3 := hv3
          obtain ⟨i3, rfl⟩ := Int.eq_ofNat_of_zero_le hv
          have hk : decide ((i3 : Int) < 0) = false := decide_eq_false (by omega)
          have HR := hid (HC.out.trans (if_neg (by simp) : _ = PRes.ok a' n'))
          go_wp2_with fail
          go_ret
          rw [HR.out]
          exact ⟨⟨i3, rfl⟩, H1, hB⟩
    · have hlt : a' < s.size := by
        rcases Nat.lt_or_ge a' s.size with h | h
        · exact h
        · exact absurd (.inl (head_none h)) hend
      have hd : decide ((a' : Int) < s.size) = true := decide_eq_true (by omega)
      have t1 : seesB s.data.toList a' 124 = false := seesB_false (c := 124) (fun e => hend (.inr (.inl e)))
      have t2 : seesB s.data.toList a' 41 = false := seesB_false (c := 41) (fun e => hend (.inr (.inr e)))
      have HEND := hid hend
      clear hend
      go_wp2_with fail
      go_quiet ((go_at_call 57; exact Calls.quiet_of (sees_lit b s a' deep n' _ _ (H1.drewN _) (by omega) (by omega))))
      replace H1 := H1.drewN nq
      replace hB := below_drewN hB nq
      generalize wr.drewN nq = w3 at H1 hB ⊢
      clear c0 c1 c2 f1 f2 hd
      have P := piece_any grp b s deep hs HG.out HF.out a' n' w3 hlt hn' H1
      cases hp : pieceP grp s.data.toList a' n' with
      | bad er =>
        rw [hp] at P
        have HR := hid (HE.out.trans (catGo_bad (f := g) (first := first) HEND.out hp))
        clear hp
        go_wp2_with (go_at_call 63; refine P.mono ?_; rintro e w9 ⟨rfl, hB9⟩; replace hB9 := hB.trans hB9)
        rw [HR.out]
        exact ⟨rfl, rfl, hB9⟩
      | ok a2 n2 =>
        have F := pieceP_fwd (l := s.data.toList) hlt hn' (HF.out a' n' hlt hn')
        rw [hp] at P F
        obtain ⟨F1, F2, F3, F4⟩ := F
        rw [size_toList] at F2
        have HP := hid hp
        clear hp
        cases first with
        | true =>
          obtain rfl : v3 = -1 := hv3
          have HR := hid (HE.out.trans (catGo_first (f := g) HEND.out HP.out))
          go_wp2_with (go_at_call 63; refine P.mono ?_; rintro e w9 ⟨⟨ix, rfl⟩, H9, hB9⟩; replace hB9 := hB.trans hB9)
          go_roundg (s.size - a2)
          case measure => omega
          case rel => exact ⟨ix, false, a2, n2, g, rfl, Int.natCast_nonneg _, rfl, F2, F4, H9, hB9, by omega, HR⟩
        | false =>
          have hv : 0 ≤ v3 := hv3
          obtain ⟨i3, rfl⟩ := Int.eq_ofNat_of_zero_le hv
          have hk : decide ((i3 : Int) < 0) = false := decide_eq_false (by omega)
          by_cases hn2 : n2 < 2000
          · have HR := hid (HE.out.trans ((catGo_more (f := g) HEND.out HP.out).trans (by rw [putP_ok hn2]; rfl : _ = catGo grp s.data.toList g false a2 (n2 + 1))))
            go_wp2_with (first
              | (go_at_call 63; refine P.mono ?_; rintro e w9 ⟨⟨ix, rfl⟩, H9, hB9⟩; replace hB9 := hB.trans hB9)
              | (go_at_call 58;
                 refine (put_ok b s a2 deep n2 2 ⟨0, 0, 0, 0⟩ i3 ix _ H9 hn2).mono ?_;
                 rintro e w10 ⟨rfl, H10, hB10⟩;
                 replace hB10 := hB9.trans hB10))
            go_roundg (s.size - a2)
            case measure => omega
            case rel => exact ⟨n2, false, a2, n2 + 1, g, rfl, Int.natCast_nonneg _, rfl, F2, by omega, H10, hB10, by omega, HR⟩
          · have HR := hid (HE.out.trans ((catGo_more (f := g) HEND.out HP.out).trans (by rw [putP_bad (by omega)]; rfl : _ = PRes.bad 6)))
            go_wp2_with (first
              | (go_at_call 63; refine P.mono ?_; rintro e w9 ⟨⟨ix, rfl⟩, H9, hB9⟩; replace hB9 := hB.trans hB9)
              | (go_at_call 58;
                 refine (put_bad b s a2 deep n2 2 ⟨0, 0, 0, 0⟩ i3 ix _ H9 (by omega) F4).mono ?_;
                 rintro e w10 ⟨rfl, hB10⟩;
                 replace hB10 := hB9.trans hB10))
            rw [HR.out]
            exact ⟨rfl, rfl, hB10⟩

end Go.Proofs.YtdochnioodedmaaDoor
