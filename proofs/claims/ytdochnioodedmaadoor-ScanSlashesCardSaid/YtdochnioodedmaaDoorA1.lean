import Derived.Test.YtdochnioodedmaaDoorProg
import Derived.Test.YtdochnioodedmaaDoorM1
import Derived.WalkKit
import Derived.WalkSpells
import Derived.WalkLawsBesides
import Derived.Below

namespace Go.Proofs.YtdochnioodedmaaDoor
open Go Go.RowKit

theorem isFigure_any (c : UInt8) (w : World) :
    Calls Tryd.prog 18 #[.int .u8 c.toNat] w fun e w' => e = .returned (.bool (isFig c)) ∧ w = w' := by
  go_enter Tryd.func18, Tryd.ntmps18
  go_wp2
  all_goals go_ret
  all_goals exact ⟨ret_bool (by rw [isFig]; first | (rw [decide_eq_decide]; omega) | (rw [eq_comm, decide_eq_false_iff_not]; omega)), rfl⟩

theorem digit_any (c : UInt8) (w : World) :
    Calls Tryd.prog 29 #[.int .u8 c.toNat] w fun e w' => e = .returned (.int .i64 (hexDig c)) ∧ w = w' := by
  go_enter Tryd.func29, Tryd.ntmps29
  go_wp2
  all_goals go_ret
  all_goals exact ⟨ret_int (by rw [hexDig]; repeat' split
                               all_goals omega), rfl⟩

set_option maxHeartbeats 400000 in
theorem skip_any (s : ByteArray) (a : Nat) (w : World) (hs : s.size ≤ maxLen) (ha : a ≤ s.size) :
    Calls Tryd.prog 15 #[.string s, .int .i64 a] w fun e w' => e = .returned (.int .i64 ((a + skipN false (s.data.toList.drop a) : Nat) : Int)) ∧ w = w' := by
  unfold maxLen at hs
  go_enter Tryd.func15, Tryd.ntmps15
  go_wp2
  go_loop [1] (fun i => ∃ k : Nat, a ≤ k ∧ k ≤ s.size ∧ i = .int .i64 k ∧ Hid (a + skipN false (s.data.toList.drop a) = k + skipN false (s.data.toList.drop k))) (fun i => s.size - (intOf i).toNat)
  case atStart => exact ⟨a, by omega, by omega, rfl, rfl⟩
  case round =>
    obtain ⟨k, hk0, hk, rfl, H⟩ := hrel
    by_cases hlt : k < s.size
    · have HD := hid (drop_cons s k hlt)
      by_cases h1 : s[k].toNat = 32 ∨ s[k].toNat = 9
      · have e1 : Hid (a + skipN false (s.data.toList.drop a) = (k + 1) + skipN false (s.data.toList.drop (k + 1))) := by
          show _ = _
          rw [H.out, HD.out]; simp only [skipN]; rw [if_pos h1]; omega
        rcases h1 with h1 | h1
        all_goals go_wp2
        all_goals go_round
        all_goals first | (case rel => exact ⟨k + 1, by omega, by omega, by go_num, e1⟩) | (case measure => simp [intOf]; omega)
      · have t1 := beqF (show ¬ (s[k].toNat : Int) = 32 by omega)
        have t2 := beqF (show ¬ (s[k].toNat : Int) = 9 by omega)
        by_cases h4 : s[k].toNat = 35
        · have e1 : Hid (a + skipN false (s.data.toList.drop a) = k + skipN true (s.data.toList.drop k)) := by
            show _ = _
            rw [H.out, HD.out]; simp only [skipN]; rw [if_neg h1, if_pos h4, if_neg (by omega)]
          have t3 := beqT (show (s[k].toNat : Int) = 35 by omega)
          have H4 := hid h4
          clear h1 h4
          go_wp2
          go_loop [1] (fun i => ∃ j : Nat, k ≤ j ∧ j ≤ s.size ∧ (j = k → True) ∧ i = .int .i64 j ∧ Hid (a + skipN false (s.data.toList.drop a) = j + skipN true (s.data.toList.drop j))) (fun i => s.size - (intOf i).toNat)
          case atStart => exact ⟨k, by omega, by omega, fun _ => trivial, rfl, e1⟩
          case round =>
            obtain ⟨j, hj0, hj, _, rfl, HJ⟩ := hrel
            by_cases hjt : j < s.size
            · have HE := hid (drop_cons s j hjt)
              by_cases h5 : s[j].toNat = 10
              · have hne : ¬ j = k := by
                  intro e; subst e; have := H4.out; omega
                have e2 : Hid (a + skipN false (s.data.toList.drop a) = j + skipN false (s.data.toList.drop j)) := by
                  show _ = _
                  rw [HJ.out, HE.out]; simp only [skipN]; rw [if_pos h5, if_neg (by omega), if_neg (by omega)]
                have t4 := bneF (show (s[j].toNat : Int) = 10 by omega)
                clear h5
                go_wp2
                exact ⟨⟨j, by omega, by omega, rfl, e2⟩, by simp [intOf]; omega⟩
              · have e2 : Hid (a + skipN false (s.data.toList.drop a) = (j + 1) + skipN true (s.data.toList.drop (j + 1))) := by
                  show _ = _
                  rw [HJ.out, HE.out]; simp only [skipN]; rw [if_neg h5]; omega
                have t4 := bneT (show ¬ (s[j].toNat : Int) = 10 by omega)
                clear h5
                go_wp2
                exact ⟨⟨j + 1, by omega, by omega, fun _ => trivial, by go_num, e2⟩, by simp [intOf]; omega⟩
            · have e2 : Hid (a + skipN false (s.data.toList.drop a) = j + skipN false (s.data.toList.drop j)) := by
                show _ = _
                rw [HJ.out, drop_end s j (by omega)]; simp only [skipN]
              go_wp2
              exact ⟨⟨j, by omega, by omega, rfl, e2⟩, by simp [intOf]; omega⟩
        · have t3 := beqF (show ¬ (s[k].toNat : Int) = 35 by omega)
          have e := H.out
          rw [HD.out] at e
          simp only [skipN] at e
          rw [if_neg h1, if_neg h4] at e
          have E := hid e
          clear h1 h4 e
          go_wp2
          go_ret
          exact ⟨ret_int (by have := E.out; omega), rfl⟩
    · go_wp2
      go_ret
      have e := H.out
      rw [drop_end s k (by omega)] at e
      exact ⟨ret_int (by simp only [skipN] at e; omega), rfl⟩
end Go.Proofs.YtdochnioodedmaaDoor
