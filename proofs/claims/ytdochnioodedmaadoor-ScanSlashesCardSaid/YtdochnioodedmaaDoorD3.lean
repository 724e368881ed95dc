/- Contract of dec.span at a text that begins with a figure. -/
import Derived.Test.YtdochnioodedmaaDoorD2
namespace Go.Proofs.YtdochnioodedmaaDoor
open Go Go.RowKit

theorem take_snoc (s : ByteArray) (k : Nat) (h : k < s.size) : s.data.toList.take (k + 1) = s.data.toList.take k ++ [s[k]] := by
  rw [List.take_succ_eq_append_getElem (by rw [size_toList]; exact h)]; rfl
theorem all_snoc (s : ByteArray) (a k : Nat) (h : k < s.size) (ha : a ≤ k) (p : UInt8 → Bool) (h1 : ((s.data.toList.drop a).take (k - a)).all p = true) (h2 : p s[k] = true) : ((s.data.toList.drop a).take (k + 1 - a)).all p = true := by
  have e : (s.data.toList.drop a).take (k + 1 - a) = (s.data.toList.drop a).take (k - a) ++ [s[k]] := by
    rw [show k + 1 - a = (k - a) + 1 by omega, List.take_succ_eq_append_getElem (by rw [List.length_drop, size_toList]; omega)]
    congr 2
    rw [List.getElem_drop]
    simp only [Nat.add_sub_cancel' ha]
    rfl
  rw [e, List.all_append, h1]
  simp [h2]

theorem getElem_drop' (s : ByteArray) (a j : Nat) (h : j < s.size) (ha : a ≤ j) : (s.data.toList.drop a)[j - a]'(by rw [List.length_drop, size_toList]; omega) = s[j] := by
  rw [List.getElem_drop]
  simp only [Nat.add_sub_cancel' ha]
  rfl
theorem figs_drop_stop (s : ByteArray) (a j : Nat) (h : j < s.size) (ha : a ≤ j) (h1 : ((s.data.toList.drop a).take (j - a)).all isFig = true) (h2 : isFig s[j] = false) : figs (s.data.toList.drop a) = j - a :=
  Nat.le_antisymm (figs_lt _ _ (by rw [List.length_drop, size_toList]; omega) (by rw [getElem_drop' s a j h ha]; exact h2)) (figs_ge _ _ (by rw [List.length_drop, size_toList]; omega) h1)
theorem figs_drop_end (s : ByteArray) (a j : Nat) (h : s.size ≤ j) (ha : a ≤ s.size) (h1 : ((s.data.toList.drop a).take (j - a)).all isFig = true) : figs (s.data.toList.drop a) = s.size - a :=
  Nat.le_antisymm (by have := figs_le (s.data.toList.drop a); rw [List.length_drop, size_toList] at this; exact this) (figs_ge _ _ (by rw [List.length_drop, size_toList]; exact Nat.le_refl _) (by
    rw [List.take_of_length_le (by rw [List.length_drop, size_toList]; omega)] at h1
    rw [List.take_of_length_le (by rw [List.length_drop, size_toList]; exact Nat.le_refl _)]; exact h1))

set_option maxRecDepth 100000 in
set_option maxHeartbeats 2000000 in
theorem span_any (s : ByteArray) (w : World) (hs : s.size ≤ maxLen) (hpos : 0 < s.size) (hf : isFig s[0] = true) :
    Calls Tryd.prog 40 #[.string s] w fun e w' => e = .returned (.tuple #[.int .i64 0, .int .i64 0, .int .i64 (figs s.data.toList : Nat), .int .i64 (spanEnd s.data.toList : Nat)]) ∧ w = w' := by
  unfold maxLen at hs
  have b0 : 48 ≤ s[0].toNat ∧ s[0].toNat ≤ 57 := by simpa [isFig] using hf
  have t1 := beqF (show ¬ (s[0].toNat : Int) = 32 by omega)
  have t2 := beqF (show ¬ (s[0].toNat : Int) = 9 by omega)
  have t3 := beqF (show ¬ (s[0].toNat : Int) = 45 by omega)
  have t4 := beqF (show ¬ (s[0].toNat : Int) = 43 by omega)
  clear b0 hf
  go_enter Tryd.func40, Tryd.ntmps40
  go_wp2_with fail
  refine wp_loop_rounds 1 ?_
  rw [rounds_succ]
  go_wp2_with fail
  go_loop [4] (fun i => ∃ k : Nat, k ≤ s.size ∧ i = .int .i64 k ∧ Hid (((s.data.toList.drop 0).take (k - 0)).all isFig = true)) (fun i => s.size - (intOf i).toNat)
  case atStart => exact ⟨0, by omega, rfl, hid (by simp)⟩
  case round =>
    obtain ⟨k, hk, rfl, H⟩ := hrel
    by_cases hlt : k < s.size
    · by_cases hg : 48 ≤ s[k].toNat ∧ s[k].toNat ≤ 57
      · have HS := hid (all_snoc s 0 k hlt (Nat.zero_le _) isFig H.out (by simp [isFig, hg]))
        have g1 : 48 ≤ (s[k].toNat : Int) := by omega
        have g2 : (s[k].toNat : Int) ≤ 57 := by omega
        clear hg
        go_wp2_with fail
        go_round
        case rel => exact ⟨k + 1, by omega, by go_num, HS⟩
        case measure => simp [intOf]; omega
      · have hfk : figs s.data.toList = k := Nat.le_antisymm (figs_lt _ k (by rw [size_toList]; exact hlt) (by
          show isFig s[k] = false
          simp only [isFig, decide_eq_false_iff_not]; exact hg)) (figs_ge _ k (by rw [size_toList]; exact hk) (by simpa using H.out))
        have HF := hid hfk
        clear hfk
        by_cases hp : s[k].toNat = 46
        · have t5 := beqT (show (s[k].toNat : Int) = 46 by omega)
          have HD := hid (drop_cons s k hlt)
          have HP := hid hp
          have g1 : ¬ 48 ≤ (s[k].toNat : Int) := by omega
          have HE0 := hid (show spanEnd s.data.toList = k + 1 + figs (s.data.toList.drop (k + 1)) by
            unfold spanEnd; rw [HF.out, HD.out]; simp only; rw [if_pos HP.out])
          clear hp hg
          go_wp2_with fail
          go_loop [5] (fun i => ∃ j : Nat, k + 1 ≤ j ∧ j ≤ s.size ∧ i = .int .i64 j ∧ Hid (((s.data.toList.drop (k + 1)).take (j - (k + 1))).all isFig = true)) (fun i => s.size - (intOf i).toNat)
          case atStart => exact ⟨k + 1, by omega, by omega, by go_num, hid (by simp)⟩
          case round =>
            obtain ⟨j, hj0, hj, rfl, HJ⟩ := hrel
            by_cases hjt : j < s.size
            · by_cases hg : 48 ≤ s[j].toNat ∧ s[j].toNat ≤ 57
              · have HS := hid (all_snoc s (k + 1) j hjt hj0 isFig HJ.out (by simp [isFig, hg]))
                have g3 : 48 ≤ (s[j].toNat : Int) := by omega
                have g4 : (s[j].toNat : Int) ≤ 57 := by omega
                clear hg
                go_wp2_with fail
                go_round
                case rel => exact ⟨j + 1, by omega, by omega, by go_num, HS⟩
                case measure => simp [intOf]; omega
              · have HE := hid (show spanEnd s.data.toList = j by
                  rw [HE0.out, figs_drop_stop s (k + 1) j hjt hj0 HJ.out (by simp only [isFig, decide_eq_false_iff_not]; exact hg)]; omega)
                by_cases hlo : 48 ≤ s[j].toNat
                · have g3 : 48 ≤ (s[j].toNat : Int) := by omega
                  have g4 : ¬ (s[j].toNat : Int) ≤ 57 := by omega
                  clear hg
                  go_wp2_with fail
                  refine bodyPost_ret (v := .tuple #[.int .i64 0, .int .i64 0, .int .i64 k, .int .i64 j]) (by simp [results, Tryd.results40]) rfl ⟨?_, rfl⟩
                  rw [HF.out, HE.out]
                · have g3 : ¬ 48 ≤ (s[j].toNat : Int) := by omega
                  clear hg
                  go_wp2_with fail
                  refine bodyPost_ret (v := .tuple #[.int .i64 0, .int .i64 0, .int .i64 k, .int .i64 j]) (by simp [results, Tryd.results40]) rfl ⟨?_, rfl⟩
                  rw [HF.out, HE.out]
            · have HE := hid (show spanEnd s.data.toList = j by
                rw [HE0.out, figs_drop_end s (k + 1) j (by omega) (by omega) HJ.out]; omega)
              go_wp2_with fail
              refine bodyPost_ret (v := .tuple #[.int .i64 0, .int .i64 0, .int .i64 k, .int .i64 j]) (by simp [results, Tryd.results40]) rfl ⟨?_, rfl⟩
              rw [HF.out, HE.out]
        · have t5 := beqF (show ¬ (s[k].toNat : Int) = 46 by omega)
          have HD := hid (drop_cons s k hlt)
          have HE := hid (show spanEnd s.data.toList = k by
            unfold spanEnd; rw [HF.out, HD.out]; simp only; rw [if_neg hp])
          clear hp
          by_cases hlo : 48 ≤ s[k].toNat
          · have g1 : 48 ≤ (s[k].toNat : Int) := by omega
            have g2 : ¬ (s[k].toNat : Int) ≤ 57 := by omega
            clear hg
            go_wp2_with fail
            refine bodyPost_ret (v := .tuple #[.int .i64 0, .int .i64 0, .int .i64 k, .int .i64 k]) (by simp [results, Tryd.results40]) rfl ⟨?_, rfl⟩
            rw [HF.out, HE.out]
          · have g1 : ¬ 48 ≤ (s[k].toNat : Int) := by omega
            clear hg
            go_wp2_with fail
            refine bodyPost_ret (v := .tuple #[.int .i64 0, .int .i64 0, .int .i64 k, .int .i64 k]) (by simp [results, Tryd.results40]) rfl ⟨?_, rfl⟩
            rw [HF.out, HE.out]
    · have HF := hid (show figs s.data.toList = k by
        have e := figs_drop_end s 0 k (by omega) (Nat.zero_le _) H.out
        rw [List.drop_zero] at e
        rw [e]; omega)
      have HE := hid (show spanEnd s.data.toList = k by
        unfold spanEnd; rw [HF.out, drop_end s k (by omega)])
      go_wp2_with fail
      refine bodyPost_ret (v := .tuple #[.int .i64 0, .int .i64 0, .int .i64 k, .int .i64 k]) (by simp [results, Tryd.results40]) rfl ⟨?_, rfl⟩
      rw [HF.out, HE.out]

end Go.Proofs.YtdochnioodedmaaDoor
