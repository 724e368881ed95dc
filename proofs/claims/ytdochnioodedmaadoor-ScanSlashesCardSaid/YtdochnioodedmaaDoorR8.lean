/- The contract of reader.group; of reader.all at the top. -/
import Derived.Test.YtdochnioodedmaaDoorR7
namespace Go.Proofs.YtdochnioodedmaaDoor
open Go Go.RowKit

theorem groupP_ok {l : List UInt8} {d a n a2 n2 : Nat} (h : allP (groupP l d) l (a + 1) n = .ok a2 n2) (h2 : (l.drop a2).head? = some 41) : groupP l (d + 1) a n = .ok (a2 + 1) n2 := by
  rw [groupP, h]; simp only [PRes.bind]; rw [if_pos h2]
theorem groupP_open {l : List UInt8} {d a n a2 n2 : Nat} (h : allP (groupP l d) l (a + 1) n = .ok a2 n2) (h2 : ¬ (l.drop a2).head? = some 41) : groupP l (d + 1) a n = .bad 9 := by
  rw [groupP, h]; simp only [PRes.bind]; rw [if_neg h2]
theorem groupP_bad {l : List UInt8} {d a n e : Nat} (h : allP (groupP l d) l (a + 1) n = .bad e) : groupP l (d + 1) a n = .bad e := by
  rw [groupP, h]; rfl

set_option maxRecDepth 100000 in
set_option maxHeartbeats 2000000 in
theorem group_deep (b : Nat) (s : ByteArray) (a n : Nat) (W : World) (H : RD b s a 30 n W) :
    Calls Tryd.prog 66 #[.pointer (some ⟨b, 0, none⟩)] W (PPost b s 30 W (groupP s.data.toList 0 a n)) := by
  obtain ⟨c0, c1, c2, f1, f2⟩ := H.facts
  go_enter Tryd.func66, Tryd.ntmps66
  go_wp2_with fail
  exact ⟨rfl, rfl, Below.refl _ _⟩

theorem deep_dec (d : Nat) : ((d + 1 : Nat) : Int) - 1 = d := by omega

set_option maxRecDepth 100000 in
set_option maxHeartbeats 2000000 in
theorem group_step (b : Nat) (s : ByteArray) (deep d : Nat) (hs : s.size ≤ 140737488351232) (hd : deep < 30) (hG : GrpOk b s (deep + 1) (groupP s.data.toList d)) : GrpOk b s deep (groupP s.data.toList (d + 1)) := by
  intro a n W ha hn H
  have A := fun W H => all_any (groupP s.data.toList d) b s (deep + 1) hs hG (groupP_fwd d) (a + 1) n W (by omega) hn H
  have F := allP_fwd (l := s.data.toList) (groupP_fwd d) (a + 1) n (by rw [size_toList]; omega) hn
  clear hG
  obtain ⟨c0, c1, c2, f1, f2⟩ := H.facts
  have hcmp : decide ((30 : Int) ≤ (deep : Int)) = false := decide_eq_false (by omega)
  cases hat : allP (groupP s.data.toList d) s.data.toList (a + 1) n with
  | bad er =>
    rw [hat] at A
    have HR := hid (groupP_bad hat)
    clear hat F
    go_enter Tryd.func66, Tryd.ntmps66
    go_wp2_with fail
    refine (A _ ((H.nest (deep + 1) ((deep : Int) + 1) (by omega)).place (a + 1) ((a : Int) + 1) (by omega))).mono ?_
    rintro e w9 ⟨rfl, hB9⟩
    replace hB9 := (((Below.refl b W).setCell (Nat.le_refl _) _).setCell (Nat.le_refl _) _).trans hB9
    go_wp2_with fail
    rw [HR.out]
    exact ⟨rfl, rfl, hB9⟩
  | ok a2 n2 =>
    rw [hat] at A F
    obtain ⟨F1, F2, F3, F4⟩ := F
    rw [size_toList] at F2
    have HA := hid hat
    clear hat
    by_cases hh : (s.data.toList.drop a2).head? = some 41
    · have hlt : a2 < s.size := head_lt hh
      have t1 : seesB s.data.toList a2 41 = true := seesB_true hh
      have HR := hid (groupP_ok HA.out hh)
      clear hh
      go_enter Tryd.func66, Tryd.ntmps66
      go_wp2_with fail
      refine (A _ ((H.nest (deep + 1) ((deep : Int) + 1) (by omega)).place (a + 1) ((a : Int) + 1) (by omega))).mono ?_
      rintro e w9 ⟨⟨ix, rfl⟩, H9, hB9⟩
      replace hB9 := (((Below.refl b W).setCell (Nat.le_refl _) _).setCell (Nat.le_refl _) _).trans hB9
      clear c0 c1 c2 f1 f2
      go_wp2_with fail
      refine (sees_lit b s a2 (deep + 1) n2 _ _ H9 (by omega) (by omega)).mono ?_
      rintro e w3 ⟨rfl, m, rfl⟩
      replace H9 := H9.drewN m
      replace hB9 := below_drewN hB9 m
      generalize w9.drewN m = w4 at H9 hB9 ⊢
      obtain ⟨c0, c1, c2, f1, f2⟩ := H9.facts
      go_wp2_with fail
      go_ret
      rw [HR.out]
      exact ⟨⟨ix, rfl⟩, (H9.place (a2 + 1) _ (by omega)).nest deep _ (by omega), (hB9.setCell (Nat.le_refl _) _).setCell (Nat.le_refl _) _⟩
    · have t1 : seesB s.data.toList a2 41 = false := seesB_false hh
      have HR := hid (groupP_open HA.out hh)
      clear hh
      go_enter Tryd.func66, Tryd.ntmps66
      go_wp2_with fail
      refine (A _ ((H.nest (deep + 1) ((deep : Int) + 1) (by omega)).place (a + 1) ((a : Int) + 1) (by omega))).mono ?_
      rintro e w9 ⟨⟨ix, rfl⟩, H9, hB9⟩
      replace hB9 := (((Below.refl b W).setCell (Nat.le_refl _) _).setCell (Nat.le_refl _) _).trans hB9
      clear c0 c1 c2 f1 f2
      go_wp2_with fail
      refine (sees_lit b s a2 (deep + 1) n2 _ _ H9 (by omega) (by omega)).mono ?_
      rintro e w3 ⟨rfl, m, rfl⟩
      replace H9 := H9.drewN m
      replace hB9 := below_drewN hB9 m
      generalize w9.drewN m = w4 at H9 hB9 ⊢
      obtain ⟨c0, c1, c2, f1, f2⟩ := H9.facts
      go_wp2_with fail
      rw [HR.out]
      exact ⟨rfl, rfl, hB9⟩

theorem group_any (b : Nat) (s : ByteArray) (hs : s.size ≤ 140737488351232) : ∀ d deep, deep + d = 30 → GrpOk b s deep (groupP s.data.toList d) := by
  intro d
  induction d with
  | zero =>
    intro deep h a n W _ _ H
    obtain rfl : deep = 30 := h
    exact group_deep b s a n W H
  | succ d ih =>
    intro deep h
    exact group_step b s deep d hs (by omega) (ih (deep + 1) (by omega))

theorem allTop_any (b : Nat) (s : ByteArray) (hs : s.size ≤ 140737488351232) (W : World) (H : RD b s 0 0 0 W) :
    Calls Tryd.prog 47 #[.pointer (some ⟨b, 0, none⟩)] W (PPost b s 0 W (allP (groupP s.data.toList 30) s.data.toList 0 0)) :=
  all_any _ b s 0 hs (group_any b s hs 30 0 rfl) (groupP_fwd 30) 0 0 W (Nat.zero_le _) (Nat.zero_le _) H

end Go.Proofs.YtdochnioodedmaaDoor
