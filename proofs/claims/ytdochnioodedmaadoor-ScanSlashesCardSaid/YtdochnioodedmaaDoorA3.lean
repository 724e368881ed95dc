/- Contracts of scan.word and scan.mark. -/
import Derived.Test.YtdochnioodedmaaDoorA2
import Derived.Test.YtdochnioodedmaaDoorL2
import Derived.Deep.RegionWith
import Derived.Deep.CutBlock
namespace Go.Proofs.YtdochnioodedmaaDoor
open Go Go.RowKit

theorem keys_cells (W : World) (T : TypeId) (j : Nat) (h : j < keysL.length) : (W.alloc (.cells (strs keysL) T)).cell? ⟨W.heap.size, 0 + j, none⟩ = some (.string (str (keysL.getD j []))) := by
  have e := strs_get keysL j h
  rw [Nat.zero_add]
  simp [e]
theorem keysContains_any (W : World) (x : ByteArray) :
    Calls Tryd.prog 33 #[.slice (some ⟨W.heap.size, 0, none⟩) 20 20, .string x] ((W.alloc (.cells (strs keysL) 9)).drew) fun e w' => e = .returned (.bool (decide (x.data.toList ∈ keysL))) ∧ (W.alloc (.cells (strs keysL) 9)).drew = w' :=
  sContains_any W.heap.size 0 20 keysL x _ (by decide) (fun j hj => keys_cells W _ j hj)

set_option maxRecDepth 100000 in
set_option maxHeartbeats 1000000 in
theorem word_any (s : ByteArray) (w : World) (hs : s.size ≤ maxLen) (hpos : 0 < s.size) (hf : isFig s[0] = false) (h1 : wordB s[0] = true) :
    Calls Tryd.prog 23 #[.string s] w fun e w' => e = .returned (.tuple #[tokVal (wordTok s.data.toList), .int .i64 (wordLen s.data.toList : Nat)]) ∧ Below w.heap.size w w' := by
  have hs' := hs
  unfold maxLen at hs
  have HL := hid (drop_cons s 0 hpos)
  have HF := hid hf
  have H1 := hid (show (s.data.toList.take 1).all wordB = true by
    have e := HL.out; rw [List.drop_zero] at e; rw [e]; simp [h1])
  clear hf h1
  go_enter Tryd.func23, Tryd.ntmps23
  go_wp2
  go_loopw [4] (fun n wr => ∃ k : Nat, 1 ≤ k ∧ k ≤ s.size ∧ n = .int .i64 k ∧ Hid ((s.data.toList.take k).all wordB = true) ∧ Below (w.heap.size + 1) (w.alloc (.cells #[.int .i64 0, .int .i64 0, .string ByteArray.empty, .int .i64 0] 23)) wr) (fun n _ => s.size - (intOf n).toNat)
  case atStart => exact ⟨1, by omega, by omega, rfl, H1, Below.refl _ _⟩
  case round =>
    obtain ⟨k, hk0, hk, rfl, H, hb⟩ := hrel
    have hsz : w.heap.size + 1 ≤ wr.heap.size := by have := hb.size; simpa using this
    by_cases hlt : k < s.size
    · have HC := hid (show isNameB (s.extract 0 (k + 1)).data.toList = wordB s[k] by
        have e := HL.out; rw [List.drop_zero] at e
        have ht : s.data.toList.take (k + 1) = s.data.toList.take k ++ [s[k]] := by
          rw [List.take_succ_eq_append_getElem (by rw [size_toList]; exact hlt)]; rfl
        rw [Lib.extract_from_zero, isNameB_take _ _ _ _ e HF.out (by omega), ht, List.all_append, H.out]; simp)
      have hxs : (s.extract 0 (k + 1)).size ≤ maxLen := by rw [ByteArray.size_extract]; unfold maxLen; omega
      by_cases hw : wordB s[k] = true
      · rw [hw] at HC
        go_wp2_with (go_at_call 22; refine (isName_any _ _ hxs).mono ?_; rintro e w1 ⟨rfl, hb1⟩; rw [HC.out])
        go_roundw
        case rel =>
          refine ⟨k + 1, by omega, by omega, by go_num, hid ?_, below_trans hb hb1 (by omega)⟩
          rw [List.take_succ_eq_append_getElem (by rw [size_toList]; exact hlt), List.all_append, H.out]
          simp only [List.all_cons, List.all_nil, Bool.and_true, Bool.true_and]
          exact hw
        case measure => simp [intOf]; omega
      · have hw' : wordB s[k] = false := by simpa using hw
        rw [hw'] at HC
        go_wp2_with (go_at_call 22; refine (isName_any _ _ hxs).mono ?_; rintro e w1 ⟨rfl, hb1⟩; rw [HC.out])
        have hkl : wordLen s.data.toList = k := Nat.le_antisymm (wordLen_lt _ k (by rw [size_toList]; exact hlt) hw') (wordLen_ge _ k (by rw [size_toList]; exact hk) H.out)
        have hb2 := below_trans hb hb1 (by omega)
        have hsz2 : w.heap.size + 1 ≤ w1.heap.size := by have := hb2.size; simpa using this
        obtain ⟨hcl0, hfz0⟩ := bcell hb2
        have hcl : ∀ j, w1.cell? ⟨w.heap.size, j, none⟩ = _ := fun j => hcl0 _ j (by omega)
        have hfz : ∀ j, w1.frozen? ⟨w.heap.size, j, none⟩ = _ := fun j => hfz0 _ j (by omega)
        obtain ⟨hca, hfa⟩ := own_alloc (b := w.heap.size) (W := w1) (by omega) (.cells (strs keysL) 9)
        have q0 := (hca 0).trans (hcl 0)
        have q1 := (hca 1).trans (hcl 1)
        have q2 := (hca 2).trans (hcl 2)
        have q3 := (hca 3).trans (hcl 3)
        have f0 := (hfa 0).trans (hfz 0)
        have f1 := (hfa 1).trans (hfz 1)
        have f2 := (hfa 2).trans (hfz 2)
        have f3 := (hfa 3).trans (hfz 3)
        simp at q0 q1 q2 q3 f0 f1 f2 f3
        clear hcl0 hfz0 hcl hfz hca hfa
        have HB : Below w.heap.size w w1 := ((Below.refl _ _).alloc (Nat.le_refl _) _).trans (hb2.mono (by omega))
        have HK : Hid (wordTok s.data.toList = ⟨if decide ((s.extract 0 k).data.toList ∈ keysL) = true then 6 else 5, 0, (s.extract 0 k).data.toList, 0⟩) := by
          show _ = _
          rw [Lib.extract_from_zero, ← hkl, wordTok]; congr 1; simp
        have HL2 := hid hkl
        have HX := hid (str_toList (s.extract 0 k))
        clear hkl
        generalize hd : decide ((s.extract 0 k).data.toList ∈ keysL) = b at HK
        have HD := hid hd
        clear hd
        cases b
        all_goals go_region_with (first | (go_at_call 14; refine (keys_any _).mono ?_; rintro e w2 ⟨rfl, rfl⟩) | (go_at_call 33; refine (keysContains_any w1 _).mono ?_; rintro e w2 ⟨rfl, rfl⟩; rw [HD.out]))
        all_goals go_wp2
        · refine bodyPost_ret (v := .tuple #[.agg #[.int .i64 5, .int .i64 0, .string (s.extract 0 k), .int .i64 0], .int .i64 k]) (by simp [results, Tryd.results23, go_sem, q0, q1, q2, q3]) rfl ⟨?_, ?_⟩
          · rw [HK.out, HL2.out, tokVal, HX.out]; rfl
          · exact ((((((HB.alloc (by omega) _).setCell (Nat.le_refl _) _).setCell (Nat.le_refl _) _).setCell (Nat.le_refl _) _).setCell (Nat.le_refl _) _).drew)
        · refine bodyPost_ret (v := .tuple #[.agg #[.int .i64 6, .int .i64 0, .string (s.extract 0 k), .int .i64 0], .int .i64 k]) (by simp [results, Tryd.results23, go_sem, q0, q1, q2, q3]) rfl ⟨?_, ?_⟩
          · rw [HK.out, HL2.out, tokVal, HX.out]; rfl
          · exact ((((((HB.alloc (by omega) _).setCell (Nat.le_refl _) _).setCell (Nat.le_refl _) _).setCell (Nat.le_refl _) _).setCell (Nat.le_refl _) _).drew)
    · have hkl : wordLen s.data.toList = k := Nat.le_antisymm (by have := wordLen_le s.data.toList; rw [size_toList] at this; omega) (wordLen_ge _ k (by rw [size_toList]; exact hk) H.out)
      go_wp2_with fail
      obtain ⟨hcl0, hfz0⟩ := bcell hb
      have hcl : ∀ j, wr.cell? ⟨w.heap.size, j, none⟩ = _ := fun j => hcl0 _ j (by omega)
      have hfz : ∀ j, wr.frozen? ⟨w.heap.size, j, none⟩ = _ := fun j => hfz0 _ j (by omega)
      obtain ⟨hca, hfa⟩ := own_alloc (b := w.heap.size) (W := wr) (by omega) (.cells (strs keysL) 9)
      have q0 := (hca 0).trans (hcl 0)
      have q1 := (hca 1).trans (hcl 1)
      have q2 := (hca 2).trans (hcl 2)
      have q3 := (hca 3).trans (hcl 3)
      have f0 := (hfa 0).trans (hfz 0)
      have f1 := (hfa 1).trans (hfz 1)
      have f2 := (hfa 2).trans (hfz 2)
      have f3 := (hfa 3).trans (hfz 3)
      simp at q0 q1 q2 q3 f0 f1 f2 f3
      clear hcl0 hfz0 hcl hfz hca hfa
      have HB : Below w.heap.size w wr := ((Below.refl _ _).alloc (Nat.le_refl _) _).trans (hb.mono (by omega))
      have HK : Hid (wordTok s.data.toList = ⟨if decide ((s.extract 0 k).data.toList ∈ keysL) = true then 6 else 5, 0, (s.extract 0 k).data.toList, 0⟩) := by
        show _ = _
        rw [Lib.extract_from_zero, ← hkl, wordTok]; congr 1; simp
      have HL2 := hid hkl
      have HX := hid (str_toList (s.extract 0 k))
      clear hkl
      generalize hd : decide ((s.extract 0 k).data.toList ∈ keysL) = b at HK
      have HD := hid hd
      clear hd
      cases b
      all_goals go_region_with (first | (go_at_call 14; refine (keys_any _).mono ?_; rintro e w2 ⟨rfl, rfl⟩) | (go_at_call 33; refine (keysContains_any wr _).mono ?_; rintro e w2 ⟨rfl, rfl⟩; rw [HD.out]))
      all_goals go_wp2
      · refine bodyPost_ret (v := .tuple #[.agg #[.int .i64 5, .int .i64 0, .string (s.extract 0 k), .int .i64 0], .int .i64 k]) (by simp [results, Tryd.results23, go_sem, q0, q1, q2, q3]) rfl ⟨?_, ?_⟩
        · rw [HK.out, HL2.out, tokVal, HX.out]; rfl
        · exact ((((((HB.alloc (by omega) _).setCell (Nat.le_refl _) _).setCell (Nat.le_refl _) _).setCell (Nat.le_refl _) _).setCell (Nat.le_refl _) _).drew)
      · refine bodyPost_ret (v := .tuple #[.agg #[.int .i64 6, .int .i64 0, .string (s.extract 0 k), .int .i64 0], .int .i64 k]) (by simp [results, Tryd.results23, go_sem, q0, q1, q2, q3]) rfl ⟨?_, ?_⟩
        · rw [HK.out, HL2.out, tokVal, HX.out]; rfl
        · exact ((((((HB.alloc (by omega) _).setCell (Nat.le_refl _) _).setCell (Nat.le_refl _) _).setCell (Nat.le_refl _) _).setCell (Nat.le_refl _) _).drew)

end Go.Proofs.YtdochnioodedmaaDoor
