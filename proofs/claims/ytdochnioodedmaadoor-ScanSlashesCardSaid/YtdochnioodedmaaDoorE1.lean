/- The contract of scan.expression. -/
import Derived.Test.YtdochnioodedmaaDoorR9
import Derived.Test.YtdochnioodedmaaDoorM9
namespace Go.Proofs.YtdochnioodedmaaDoor
open Go Go.RowKit

theorem extract_one (s : ByteArray) (k : Nat) : (s.extract 1 k).data.toList = (s.data.toList.take k).drop 1 := by
  rw [ByteArray.data_extract, Array.toList_extract, List.extract, List.drop_take]

theorem reRead_ok (s : ByteArray) (k : Nat) (hs : s.size ≤ 140737488351232) (h : reErr ((s.data.toList.take k).drop 1) = 0) (w : World) :
    Calls Tryd.prog 30 #[.string (s.extract 1 k)] w fun r w' => (∃ v, r = .returned (.tuple #[v, .int .i64 0])) ∧ Below w.heap.size w w' := by
  have h2 := reRead_any (s.extract 1 k) w (by rw [ByteArray.size_extract]; omega)
  rw [extract_one, h] at h2
  exact h2
theorem reRead_no (s : ByteArray) (k er : Nat) (hs : s.size ≤ 140737488351232) (h : reErr ((s.data.toList.take k).drop 1) = er) (w : World) :
    Calls Tryd.prog 30 #[.string (s.extract 1 k)] w fun r w' => (∃ v, r = .returned (.tuple #[v, .int .i64 er])) ∧ Below w.heap.size w w' := by
  have h2 := reRead_any (s.extract 1 k) w (by rw [ByteArray.size_extract]; omega)
  rw [extract_one, h] at h2
  exact h2

set_option maxRecDepth 100000 in
set_option maxHeartbeats 2000000 in
theorem expression_any (s : ByteArray) (w : World) (hs : s.size ≤ 140737488351232) (hpos : 0 < s.size) :
    Calls Tryd.prog 21 #[.string s] w fun e w' => e = .returned (.tuple #[tokVal (exprRes s.data.toList).1, .int .i64 ((exprRes s.data.toList).2 : Nat)]) ∧ Below w.heap.size w w' := by
  go_enter Tryd.func21, Tryd.ntmps21
  go_wp2_with fail
  go_loop [4] (fun i => ∃ k : Nat, 1 ≤ k ∧ k ≤ s.size + 1 ∧ i = .int .i64 k ∧ Hid (exprEnd (s.data.toList.drop 1) 1 = exprEnd (s.data.toList.drop k) k)) (fun i => s.size + 1 - (intOf i).toNat)
  case atStart => exact ⟨1, by omega, by omega, rfl, rfl⟩
  case round =>
    obtain ⟨k, hk0, hk, rfl, H⟩ := hrel
    have HB : Below w.heap.size w (w.alloc tok0) := (Below.refl _ _).alloc (Nat.le_refl _) _
    by_cases hlt : k < s.size
    · have HD := hid (drop_cons s k hlt)
      by_cases h10 : s[k].toNat = 10
      · have t1 := bneF (show (s[k].toNat : Int) = 10 by omega)
        have HN := hid (show exprEnd (s.data.toList.drop 1) 1 = none by rw [H.out, HD.out, exprEnd_line _ _ _ h10])
        clear h10
        go_wp2_with fail
        refine bodyPost_ret (v := .tuple #[.agg #[.int .i64 0, .int .i64 0, .string ⟨#[]⟩, .int .i64 0], .int .i64 0]) (by simp [results, Tryd.results21, go_sem]) rfl ⟨?_, ?_⟩
        · rw [exprRes_none HN.out]; rfl
        · exact HB
      · have t1 := bneT (show ¬ (s[k].toNat : Int) = 10 by omega)
        by_cases h92 : s[k].toNat = 92
        · have t2 := beqT (show (s[k].toNat : Int) = 92 by omega)
          by_cases hl1 : k + 1 < s.size
          · have HD1 := hid (drop_cons s (k + 1) hl1)
            by_cases hd : s[k + 1].toNat = 10
            · have t3 := beqT (show (s[k + 1].toNat : Int) = 10 by omega)
              have HN := hid (show exprEnd (s.data.toList.drop 1) 1 = none by rw [H.out, HD.out, HD1.out, exprEnd_keptline _ _ _ _ h92 hd])
              clear h10 h92 hd
              go_wp2_with fail
              refine bodyPost_ret (v := .tuple #[.agg #[.int .i64 0, .int .i64 0, .string ⟨#[]⟩, .int .i64 0], .int .i64 0]) (by simp [results, Tryd.results21, go_sem]) rfl ⟨?_, ?_⟩
              · rw [exprRes_none HN.out]; rfl
              · exact HB
            · have t3 := beqF (show ¬ (s[k + 1].toNat : Int) = 10 by omega)
              have HH := hid (show exprEnd (s.data.toList.drop 1) 1 = exprEnd (s.data.toList.drop (k + 2)) (k + 2) by rw [H.out, HD.out, HD1.out, exprEnd_kept _ _ _ _ h92 hd])
              clear h10 h92 hd
              go_wp2_with fail
              go_round
              case rel => exact ⟨k + 2, by omega, by omega, by go_num, HH⟩
              case measure => simp [intOf]; omega
          · have HH := hid (show exprEnd (s.data.toList.drop 1) 1 = exprEnd (s.data.toList.drop (k + 2)) (k + 2) by
              rw [H.out, HD.out, drop_end s (k + 1) (by omega), drop_end s (k + 2) (by omega), exprEnd_cut _ _ h92]; rfl)
            clear h10 h92
            go_wp2_with fail
            go_round
            case rel => exact ⟨k + 2, by omega, by omega, by go_num, HH⟩
            case measure => simp [intOf]; omega
        · have t2 := beqF (show ¬ (s[k].toNat : Int) = 92 by omega)
          by_cases h47 : s[k].toNat = 47
          · have t3 := beqT (show (s[k].toNat : Int) = 47 by omega)
            have HN := hid (show exprEnd (s.data.toList.drop 1) 1 = some k by rw [H.out, HD.out, exprEnd_slash _ _ _ h47])
            clear h10 h92 h47
            by_cases hre : reErr ((s.data.toList.take k).drop 1) = 0
            · have R := fun W => reRead_ok s k hs hre W
              have HR := hid (exprRes_ok HN.out hre)
              clear hre
              go_wp2_with (go_at_call 30; refine (R _).mono ?_; rintro e w2 ⟨⟨v, rfl⟩, hb2⟩; obtain ⟨q0, q1, q2, q3, f0, f1, f2, f3⟩ := tok_facts (hb2.mono (by simp)); have HB2 := HB.trans (hb2.mono (by simp)); clear hb2)
              refine bodyPost_ret (v := .tuple #[.agg #[.int .i64 4, .int .i64 0, .string (s.extract 1 k), .int .i64 0], .int .i64 (k + 1)]) (by simp [results, Tryd.results21, go_sem, q0, q1, q2, q3]) rfl ⟨?_, ?_⟩
              · rw [HR.out]
                simp only [tokVal, ← extract_one, str_toList]
                rfl
              · exact (((HB2.setCell (Nat.le_refl _) _).setCell (Nat.le_refl _) _).setCell (Nat.le_refl _) _).setCell (Nat.le_refl _) _
            · obtain ⟨er, her⟩ : ∃ er, reErr ((s.data.toList.take k).drop 1) = er := ⟨_, rfl⟩
              have R := fun W => reRead_no s k er hs her W
              have HR := hid (exprRes_bad HN.out hre)
              have t4 := bneT (show ¬ ((er : Nat) : Int) = 0 by omega)
              clear hre her
              go_wp2_with (go_at_call 30; refine (R _).mono ?_; rintro e w2 ⟨⟨v, rfl⟩, hb2⟩; obtain ⟨q0, q1, q2, q3, f0, f1, f2, f3⟩ := tok_facts (hb2.mono (by simp)); have HB2 := HB.trans (hb2.mono (by simp)); clear hb2)
              refine bodyPost_ret (v := .tuple #[.agg #[.int .i64 0, .int .i64 0, .string ⟨#[]⟩, .int .i64 0], .int .i64 0]) (by simp [results, Tryd.results21, go_sem, q0, q1, q2, q3]) rfl ⟨?_, ?_⟩
              · rw [HR.out]; rfl
              · exact (((HB2.setCell (Nat.le_refl _) _).setCell (Nat.le_refl _) _).setCell (Nat.le_refl _) _).setCell (Nat.le_refl _) _
          · have t3 := beqF (show ¬ (s[k].toNat : Int) = 47 by omega)
            have HH := hid (show exprEnd (s.data.toList.drop 1) 1 = exprEnd (s.data.toList.drop (k + 1)) (k + 1) by rw [H.out, HD.out, exprEnd_plain _ _ _ h10 h92 h47])
            clear h10 h92 h47
            go_wp2_with fail
            go_round
            case rel => exact ⟨k + 1, by omega, by omega, by go_num, HH⟩
            case measure => simp [intOf]; omega
    · have HN := hid (show exprEnd (s.data.toList.drop 1) 1 = none by rw [H.out, drop_end s k (by omega)]; rfl)
      go_wp2_with fail
      refine bodyPost_ret (v := .tuple #[.agg #[.int .i64 0, .int .i64 0, .string ⟨#[]⟩, .int .i64 0], .int .i64 0]) (by simp [results, Tryd.results21, go_sem]) rfl ⟨?_, ?_⟩
      · rw [exprRes_none HN.out]; rfl
      · exact HB

end Go.Proofs.YtdochnioodedmaaDoor
