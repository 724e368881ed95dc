/- Contract of scan.mark. -/
import Derived.Test.YtdochnioodedmaaDoorA2
import Derived.Test.YtdochnioodedmaaDoorL2
import Derived.Deep.RegionWith
import Derived.Deep.LoopGhost
namespace Go.Proofs.YtdochnioodedmaaDoor
open Go Go.RowKit

set_option maxRecDepth 100000 in
set_option maxHeartbeats 1000000 in
theorem mark_any (s : ByteArray) (w : World) :
    Calls Tryd.prog 24 #[.string s] w fun e w' => e = .returned (.tuple #[tokVal (markTok s.data.toList), .int .i64 ((markBest s.data.toList).length : Nat)]) ∧ Below w.heap.size w w' := by
  go_enter Tryd.func24, Tryd.ntmps24
  go_wp2_with (go_at_call 13; refine (marks_any _).mono ?_; rintro e w2 ⟨rfl, rfl⟩)
  go_step3
  go_wp2_with fail
  go_step3
  go_wp2_with (go_at_call 13; refine (marks_any _).mono ?_; rintro e w2 ⟨rfl, rfl⟩)
  have hmk : ∀ j, j < 32 → ((w.alloc (.cells #[.int .i64 0, .int .i64 0, .string ⟨#[]⟩, .int .i64 0] 23)).alloc (.cells (strs marksL) 9)).cell? ⟨w.heap.size + 1, j, none⟩ = some (.string (str (marksL.getD j []))) := by
    intro j hj
    have e := strs_get marksL j hj
    simp [e]
  go_loop [4, 9] (fun b i => ∃ k : Nat, k ≤ 32 ∧ i = .int .i64 k ∧ b = .string (str ((marksL.take k).foldl (markStep s.data.toList) []))) (fun _ i => 32 - (intOf i).toNat)
  case atStart => exact ⟨0, by omega, rfl, rfl⟩
  case round =>
    obtain ⟨k, hk, rfl, rfl⟩ := hrel
    by_cases hlt : k < 32
    · have hcell := hmk k hlt
      have HT := hid (show marksL.take (k + 1) = marksL.take k ++ [marksL.getD k []] by
        have hl : k < marksL.length := hlt
        rw [List.take_succ_eq_append_getElem hl, List.getD_eq_getElem?_getD, List.getElem?_eq_getElem hl]; rfl)
      generalize hm : marksL.getD k [] = m at HT hcell
      generalize hbe : (marksL.take k).foldl (markStep s.data.toList) [] = best
      have HB := hid hbe
      clear hm hbe hmk
      have HS := hid (show (marksL.take (k + 1)).foldl (markStep s.data.toList) [] = markStep s.data.toList best m by rw [HT.out, List.foldl_append, HB.out]; rfl)
      by_cases h1 : Lib.hasPrefix s.data.toList m = true
      · have tp : Lib.hasPrefix s.data.toList (str m).data.toList = true := by rw [toList_str]; exact h1
        by_cases h2 : best.length < m.length
        · have t2 : (str best).size < (str m).size := h2
          have HM := hid (show markStep s.data.toList best m = m by unfold markStep; rw [if_pos]; simp only [Bool.and_eq_true, decide_eq_true_eq]; exact ⟨h1, h2⟩)
          clear h1 h2
          go_wp2_with (go_at_call 34; refine (hasPrefix_any _ _ _).mono ?_; rintro e w2 ⟨rfl, rfl⟩; rw [tp])
          go_round
          case rel => exact ⟨k + 1, by omega, by go_num, by rw [HS.out, HM.out]⟩
          case measure => simp [intOf]; omega
        · have t2 : ¬ (str best).size < (str m).size := h2
          have HM := hid (show markStep s.data.toList best m = best by unfold markStep; rw [if_neg]; simp only [Bool.and_eq_true, decide_eq_true_eq]; exact fun h => h2 h.2)
          clear h1 h2
          go_wp2_with (go_at_call 34; refine (hasPrefix_any _ _ _).mono ?_; rintro e w2 ⟨rfl, rfl⟩; rw [tp])
          go_round
          case rel => exact ⟨k + 1, by omega, by go_num, by rw [HS.out, HM.out]⟩
          case measure => simp [intOf]; omega
      · have tp : Lib.hasPrefix s.data.toList (str m).data.toList = false := by rw [toList_str]; simpa using h1
        have HM := hid (show markStep s.data.toList best m = best by unfold markStep; rw [if_neg]; simp only [Bool.and_eq_true, decide_eq_true_eq]; exact fun h => h1 h.1)
        clear h1
        go_wp2_with (go_at_call 34; refine (hasPrefix_any _ _ _).mono ?_; rintro e w2 ⟨rfl, rfl⟩; rw [tp])
        go_round
        case rel => exact ⟨k + 1, by omega, by go_num, by rw [HS.out, HM.out]⟩
        case measure => simp [intOf]; omega
    · clear hmk
      generalize hbe : (marksL.take k).foldl (markStep s.data.toList) [] = best
      have HB := hid (show markBest s.data.toList = best by rw [← hbe, List.take_of_length_le (Nat.le_of_not_lt hlt)]; rfl)
      clear hbe
      go_wp2_with fail
      refine bodyPost_ret (v := .tuple #[.agg #[.int .i64 7, .int .i64 0, .string (str best), .int .i64 0], .int .i64 (str best).size]) (by simp [results, Tryd.results24, go_sem]) rfl ⟨?_, ?_⟩
      · rw [markTok, HB.out]; rfl
      · exact ((Below.refl _ _).alloc (Nat.le_refl _) _).alloc (by simp) _

end Go.Proofs.YtdochnioodedmaaDoor
