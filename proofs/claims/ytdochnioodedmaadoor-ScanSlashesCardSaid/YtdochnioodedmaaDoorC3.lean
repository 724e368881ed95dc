/- Contract of class.Sign. -/
import Derived.Test.YtdochnioodedmaaDoorA1
import Derived.Test.YtdochnioodedmaaDoorA5
import Derived.Test.YtdochnioodedmaaDoorC1
import Derived.Test.YtdochnioodedmaaDoorL1
import Derived.Test.YtdochnioodedmaaDoorM2
import Derived.Test.YtdochnioodedmaaDoorM3
import Derived.Deep.QuietTactic
import Derived.BigQuiet
import Derived.IntWalk
namespace Go.Proofs.YtdochnioodedmaaDoor
open Go Go.RowKit

theorem len_cons1 (s : ByteArray) (h : 0 < s.size) : s.data.toList = s[0] :: s.data.toList.drop 1 := by
  have h0 := drop_cons s 0 (by omega)
  rw [List.drop_zero] at h0
  exact h0
theorem len_cons2 (s : ByteArray) (h : 1 < s.size) : s.data.toList = s[0] :: s[1] :: s.data.toList.drop 2 :=
  (len_cons1 s (by omega)).trans (congrArg (s[0] :: ·) (drop_cons s 1 h))
theorem len_cons4 (s : ByteArray) (h : 3 < s.size) : s.data.toList = s[0] :: s[1] :: s[2] :: s[3] :: s.data.toList.drop 4 :=
  (len_cons2 s (by omega)).trans (congrArg (fun l => s[0] :: s[1] :: l) ((drop_cons s 2 (by omega)).trans (congrArg (s[2] :: ·) (drop_cons s 3 h))))

set_option maxRecDepth 100000 in
set_option maxHeartbeats 4000000 in
theorem sign_any (s : ByteArray) (w : World) (hs : s.size ≤ 140737488351232) :
    Calls Tryd.prog 69 #[.string s] w fun e w' => e = .returned (signVal (signOf s.data.toList)) ∧ Below w.heap.size w w' := by
  go_enter Tryd.func69, Tryd.ntmps69
  by_cases h0 : 0 < s.size
  · have hne : s.toList.isEmpty = false := by rw [isEmpty_of]; exact decide_eq_false (by omega)
    have hnl : ¬ s.toList = [] := fun e => by rw [e] at hne; cases hne
    by_cases h92 : s[0].toNat = 92
    · have t1 := bneF (show (s[0].toNat : Int) = 92 by omega)
      by_cases h1 : 1 < s.size
      · have L2 := hid (len_cons2 s h1)
        have H92 := hid h92
        clear h92
        by_cases hk : s[1] ∈ signKept
        · obtain ⟨ix, _, hI⟩ := idx_in hk
          have HR := hid (show signOf s.data.toList = some (s[1], 2) by rw [L2.out]; exact signOf_kept _ H92.out hk)
          clear hk
          go_wp2_with (first | (go_at_call 28; refine (indexByte_any _ _ _).mono ?_; rintro e w2 ⟨rfl, rfl⟩; rw [hI]))
          refine bodyPost_ret (v := signVal (signOf s.data.toList)) (by rw [show signOf s.data.toList = _ from HR]; simp [results, Tryd.results69, go_sem, signVal]) rfl ⟨rfl, Below.refl _ _⟩
        · have hI := idx_out hk
          have HK := hid hk
          clear hk
          by_cases hx : s[1].toNat = 120
          · have t4 := bneF (show (s[1].toNat : Int) = 120 by omega)
            have HX := hid hx
            clear hx
            by_cases h3 : 3 < s.size
            · have L4 := hid (len_cons4 s h3)
              have hlo2 := hexDig_lo s[2]
              have hhi2 := hexDig_hi s[2]
              have hlo3 := hexDig_lo s[3]
              have hhi3 := hexDig_hi s[3]
              by_cases hg2 : 0 ≤ hexDig s[2]
              · by_cases hg3 : 0 ≤ hexDig s[3]
                · have HR := hid (show signOf s.data.toList = some (hexByte s[2] s[3], 4) by rw [L4.out]; exact signOf_hex _ H92.out HK.out HX.out hg2 hg3)
                  go_wp2_with (first | (go_at_call 28; refine (indexByte_any _ _ _).mono ?_; rintro e w2 ⟨rfl, rfl⟩; rw [hI]) | (go_at_call 29; refine (digit_any _ _).mono ?_; rintro e w2 ⟨rfl, rfl⟩))
                  go_quiet ((go_at_call 29; exact quiet_eq (digit_any _ _)))
                  rw [hexByte_val _ _ hg2 hg3]
                  go_wp2_with fail
                  refine bodyPost_ret (v := signVal (signOf s.data.toList)) (by rw [show signOf s.data.toList = _ from HR]; simp [results, Tryd.results69, go_sem, signVal]) rfl ⟨rfl, below_drewN (Below.refl _ _) _⟩
                · have HR := hid (show signOf s.data.toList = none by rw [L4.out]; exact signOf_nohex _ H92.out HK.out HX.out (fun e => hg3 e.2))
                  go_wp2_with (first | (go_at_call 28; refine (indexByte_any _ _ _).mono ?_; rintro e w2 ⟨rfl, rfl⟩; rw [hI]) | (go_at_call 29; refine (digit_any _ _).mono ?_; rintro e w2 ⟨rfl, rfl⟩))
                  refine bodyPost_ret (v := signVal (signOf s.data.toList)) (by rw [show signOf s.data.toList = _ from HR]; simp [results, Tryd.results69, go_sem, signVal]) rfl ⟨rfl, Below.refl _ _⟩
              · have HR := hid (show signOf s.data.toList = none by rw [L4.out]; exact signOf_nohex _ H92.out HK.out HX.out (fun e => hg2 e.1))
                go_wp2_with (first | (go_at_call 28; refine (indexByte_any _ _ _).mono ?_; rintro e w2 ⟨rfl, rfl⟩; rw [hI]) | (go_at_call 29; refine (digit_any _ _).mono ?_; rintro e w2 ⟨rfl, rfl⟩))
                refine bodyPost_ret (v := signVal (signOf s.data.toList)) (by rw [show signOf s.data.toList = _ from HR]; simp [results, Tryd.results69, go_sem, signVal]) rfl ⟨rfl, Below.refl _ _⟩
            · have HR := hid (show signOf s.data.toList = none by
                rw [L2.out]
                exact signOf_cut _ H92.out HK.out HX.out (by rw [List.length_drop, size_toList]; omega))
              go_wp2_with (first | (go_at_call 28; refine (indexByte_any _ _ _).mono ?_; rintro e w2 ⟨rfl, rfl⟩; rw [hI]) | (go_at_call 29; refine (digit_any _ _).mono ?_; rintro e w2 ⟨rfl, rfl⟩))
              refine bodyPost_ret (v := signVal (signOf s.data.toList)) (by rw [show signOf s.data.toList = _ from HR]; simp [results, Tryd.results69, go_sem, signVal]) rfl ⟨rfl, Below.refl _ _⟩
          · have t4 := bneT (show ¬ (s[1].toNat : Int) = 120 by omega)
            have HR := hid (show signOf s.data.toList = none by rw [L2.out]; exact signOf_nox _ H92.out HK.out hx)
            clear hx
            rcases Nat.lt_or_ge s.size 4 with h4 | h4
            all_goals
              go_wp2_with (first | (go_at_call 28; refine (indexByte_any _ _ _).mono ?_; rintro e w2 ⟨rfl, rfl⟩; rw [hI]) | (go_at_call 29; refine (digit_any _ _).mono ?_; rintro e w2 ⟨rfl, rfl⟩))
              refine bodyPost_ret (v := signVal (signOf s.data.toList)) (by rw [show signOf s.data.toList = _ from HR]; simp [results, Tryd.results69, go_sem, signVal]) rfl ⟨rfl, Below.refl _ _⟩
      · have HR := hid (show signOf s.data.toList = none by rw [len_cons1 s h0, drop_end s 1 (by omega)]; exact signOf_short h92)
        clear h92
        go_wp2_with fail
        refine bodyPost_ret (v := signVal (signOf s.data.toList)) (by rw [show signOf s.data.toList = _ from HR]; simp [results, Tryd.results69, go_sem, signVal]) rfl ⟨rfl, Below.refl _ _⟩
    · have t1 := bneT (show ¬ (s[0].toNat : Int) = 92 by omega)
      by_cases hk : s[0] ∈ signBad
      · obtain ⟨ix, _, hI⟩ := idx_in hk
        have HR := hid (show signOf s.data.toList = none by rw [len_cons1 s h0]; exact signOf_bad _ h92 hk)
        clear h92 hk
        go_wp2_with (first | (go_at_call 28; refine (indexByte_any _ _ _).mono ?_; rintro e w2 ⟨rfl, rfl⟩; rw [hI]))
        refine bodyPost_ret (v := signVal (signOf s.data.toList)) (by rw [show signOf s.data.toList = _ from HR]; simp [results, Tryd.results69, go_sem, signVal]) rfl ⟨rfl, Below.refl _ _⟩
      · have hI := idx_out hk
        have HR := hid (show signOf s.data.toList = some (s[0], 1) by rw [len_cons1 s h0]; exact signOf_one _ h92 hk)
        clear h92 hk
        go_wp2_with (first | (go_at_call 28; refine (indexByte_any _ _ _).mono ?_; rintro e w2 ⟨rfl, rfl⟩; rw [hI]))
        refine bodyPost_ret (v := signVal (signOf s.data.toList)) (by rw [show signOf s.data.toList = _ from HR]; simp [results, Tryd.results69, go_sem, signVal]) rfl ⟨rfl, Below.refl _ _⟩
  · have hem : s.toList.isEmpty = true := by rw [isEmpty_of]; exact decide_eq_true (by omega)
    have hnl : s.toList = [] := List.isEmpty_iff.1 hem
    have HR := hid (show signOf s.data.toList = none by rw [show s.data.toList = [] by have := drop_end s 0 (by omega); simpa using this]; rfl)
    go_wp2_with fail
    refine bodyPost_ret (v := signVal (signOf s.data.toList)) (by rw [show signOf s.data.toList = _ from HR]; simp [results, Tryd.results69, go_sem, signVal]) rfl ⟨rfl, Below.refl _ _⟩
end Go.Proofs.YtdochnioodedmaaDoor
