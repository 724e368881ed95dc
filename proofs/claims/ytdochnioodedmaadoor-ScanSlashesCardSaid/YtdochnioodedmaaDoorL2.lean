/- Contracts of strings.Split at a text of one byte, of scan.Keys and scan.Marks, and of slices.Contains at texts. -/
import Derived.Test.YtdochnioodedmaaDoorL1
import Derived.Lib.SplitLaws
namespace Go.Proofs.YtdochnioodedmaaDoor
open Go Go.RowKit

theorem splitB_strs (c : UInt8) (k : Nat) (s : ByteArray) : ((Lib.splitB ⟨#[c]⟩ 0 k s).map Value.string).toArray = strs (Lib.splitK [c] 0 k s.data.toList) := by
  unfold strs
  rw [← Lib.splitB_data ⟨#[c]⟩ 0 k s, List.map_map]
  congr 2

set_option maxHeartbeats 1000000 in
theorem splitOne_any (s : ByteArray) (c : UInt8) (w : World) (hs : s.size < 4294967281) :
    Calls Tryd.prog 17 #[.string s, .string ⟨#[c]⟩] w fun e w' =>
      e = .returned (.slice (some ⟨w.heap.size, 0, none⟩) (Lib.split s.data.toList [c]).length (Lib.split s.data.toList [c]).length) ∧
      w' = w.alloc (.cells (strs (Lib.split s.data.toList [c])) 9) := by
  have h1 : 1 ≤ (⟨#[c]⟩ : ByteArray).size := Nat.le_refl 1
  have hcb : Lib.countB s ⟨#[c]⟩ = Lib.countByte s.data.toList c := Lib.count_one c _
  have hlen := Lib.splitB_all ⟨#[c]⟩ h1 0 _ s rfl
  rw [hcb] at hlen
  have hsp : Lib.split s.data.toList [c] = Lib.splitK [c] 0 (Lib.countByte s.data.toList c) s.data.toList := by
    unfold Lib.split; rw [Lib.count_one]; rfl
  have hl2 : (Lib.split s.data.toList [c]).length = Lib.countByte s.data.toList c + 1 := by
    rw [hsp]; have e := Lib.splitB_data ⟨#[c]⟩ 0 (Lib.countByte s.data.toList c) s
    have e2 := congrArg List.length e
    rw [List.length_map, hlen] at e2
    exact e2.symm
  have hc := genSplitOne_any s c w hs
  rw [hlen] at hc
  have e2 : Lib.cellsOf (Lib.splitB ⟨#[c]⟩ 0 (Lib.countByte s.data.toList c) s) (Lib.countByte s.data.toList c + 1) = strs (Lib.split s.data.toList [c]) := by
    rw [← hlen, Lib.cellsOf_full, hsp]; exact splitB_strs c _ s
  rw [e2, ← hl2] at hc
  clear e2 hl2 hsp hlen hcb
  go_enter Tryd.func17, Tryd.ntmps17
  go_wp2_with (go_at_call 25; refine hc.mono ?_; rintro e w' ⟨rfl, hw⟩; rw [hw])
  go_ret
  exact ⟨rfl, rfl⟩

theorem split_keys : Lib.split (⟨#[66, 69, 71, 73, 78, 32, 69, 78, 68, 32, 112, 114, 105, 110, 116, 32, 105, 102, 32, 101, 108, 115, 101, 32, 119, 104, 105, 108, 101, 32, 102, 111, 114, 32, 105, 110, 32, 98, 114, 101, 97, 107, 32, 99, 111, 110, 116, 105, 110, 117, 101, 32, 110, 101, 120, 116, 32, 101, 120, 105, 116, 32, 100, 101, 108, 101, 116, 101, 32, 108, 101, 110, 103, 116, 104, 32, 115, 117, 98, 115, 116, 114, 32, 105, 110, 100, 101, 120, 32, 116, 111, 117, 112, 112, 101, 114, 32, 116, 111, 108, 111, 119, 101, 114, 32, 115, 117, 98, 32, 103, 115, 117, 98]⟩ : ByteArray).data.toList [32] = keysL := by decide +kernel
theorem split_keys_any (w : World) :
    Calls Tryd.prog 17 #[.string ⟨#[66, 69, 71, 73, 78, 32, 69, 78, 68, 32, 112, 114, 105, 110, 116, 32, 105, 102, 32, 101, 108, 115, 101, 32, 119, 104, 105, 108, 101, 32, 102, 111, 114, 32, 105, 110, 32, 98, 114, 101, 97, 107, 32, 99, 111, 110, 116, 105, 110, 117, 101, 32, 110, 101, 120, 116, 32, 101, 120, 105, 116, 32, 100, 101, 108, 101, 116, 101, 32, 108, 101, 110, 103, 116, 104, 32, 115, 117, 98, 115, 116, 114, 32, 105, 110, 100, 101, 120, 32, 116, 111, 117, 112, 112, 101, 114, 32, 116, 111, 108, 111, 119, 101, 114, 32, 115, 117, 98, 32, 103, 115, 117, 98]⟩, .string ⟨#[32]⟩] w fun e w' =>
      e = .returned (.slice (some ⟨w.heap.size, 0, none⟩) 20 20) ∧ w' = w.alloc (.cells (strs keysL) 9) := by
  have h := splitOne_any ⟨#[66, 69, 71, 73, 78, 32, 69, 78, 68, 32, 112, 114, 105, 110, 116, 32, 105, 102, 32, 101, 108, 115, 101, 32, 119, 104, 105, 108, 101, 32, 102, 111, 114, 32, 105, 110, 32, 98, 114, 101, 97, 107, 32, 99, 111, 110, 116, 105, 110, 117, 101, 32, 110, 101, 120, 116, 32, 101, 120, 105, 116, 32, 100, 101, 108, 101, 116, 101, 32, 108, 101, 110, 103, 116, 104, 32, 115, 117, 98, 115, 116, 114, 32, 105, 110, 100, 101, 120, 32, 116, 111, 117, 112, 112, 101, 114, 32, 116, 111, 108, 111, 119, 101, 114, 32, 115, 117, 98, 32, 103, 115, 117, 98]⟩ 32 w (by decide +kernel)
  rw [split_keys] at h
  exact h

theorem keys_any (w : World) :
    Calls Tryd.prog 14 #[] w fun e w' =>
      e = .returned (.slice (some ⟨w.heap.size, 0, none⟩) 20 20) ∧ w' = w.alloc (.cells (strs keysL) 9) := by
  go_enter Tryd.func14, Tryd.ntmps14
  go_wp2_with (go_at_call 17; refine (split_keys_any _).mono ?_; rintro e w' ⟨rfl, rfl⟩)
  go_ret
  exact ⟨rfl, rfl⟩

theorem split_marks : Lib.split (⟨#[123, 32, 125, 32, 40, 32, 41, 32, 91, 32, 93, 32, 44, 32, 63, 32, 58, 32, 126, 32, 33, 126, 32, 33, 32, 61, 61, 32, 33, 61, 32, 60, 61, 32, 62, 61, 32, 60, 32, 62, 32, 38, 38, 32, 124, 124, 32, 61, 32, 43, 61, 32, 45, 61, 32, 42, 61, 32, 47, 61, 32, 37, 61, 32, 43, 32, 45, 32, 42, 32, 47, 32, 37, 32, 36]⟩ : ByteArray).data.toList [32] = marksL := by decide +kernel
theorem split_marks_any (w : World) :
    Calls Tryd.prog 17 #[.string ⟨#[123, 32, 125, 32, 40, 32, 41, 32, 91, 32, 93, 32, 44, 32, 63, 32, 58, 32, 126, 32, 33, 126, 32, 33, 32, 61, 61, 32, 33, 61, 32, 60, 61, 32, 62, 61, 32, 60, 32, 62, 32, 38, 38, 32, 124, 124, 32, 61, 32, 43, 61, 32, 45, 61, 32, 42, 61, 32, 47, 61, 32, 37, 61, 32, 43, 32, 45, 32, 42, 32, 47, 32, 37, 32, 36]⟩, .string ⟨#[32]⟩] w fun e w' =>
      e = .returned (.slice (some ⟨w.heap.size, 0, none⟩) 32 32) ∧ w' = w.alloc (.cells (strs marksL) 9) := by
  have h := splitOne_any ⟨#[123, 32, 125, 32, 40, 32, 41, 32, 91, 32, 93, 32, 44, 32, 63, 32, 58, 32, 126, 32, 33, 126, 32, 33, 32, 61, 61, 32, 33, 61, 32, 60, 61, 32, 62, 61, 32, 60, 32, 62, 32, 38, 38, 32, 124, 124, 32, 61, 32, 43, 61, 32, 45, 61, 32, 42, 61, 32, 47, 61, 32, 37, 61, 32, 43, 32, 45, 32, 42, 32, 47, 32, 37, 32, 36]⟩ 32 w (by decide +kernel)
  rw [split_marks] at h
  exact h

theorem marks_any (w : World) :
    Calls Tryd.prog 13 #[] w fun e w' =>
      e = .returned (.slice (some ⟨w.heap.size, 0, none⟩) 32 32) ∧ w' = w.alloc (.cells (strs marksL) 9) := by
  go_enter Tryd.func13, Tryd.ntmps13
  go_wp2_with (go_at_call 17; refine (split_marks_any _).mono ?_; rintro e w' ⟨rfl, rfl⟩)
  go_ret
  exact ⟨rfl, rfl⟩

set_option maxHeartbeats 1000000 in
theorem sIndex_any (b off c : Nat) (zs : List (List UInt8)) (x : ByteArray) (w : World) (hbig : zs.length ≤ 9223372036854775807) (hc : ∀ j, j < zs.length → w.cell? ⟨b, off + j, none⟩ = some (.string (str (zs.getD j [])))) :
    Calls Tryd.prog 49 #[.slice (some ⟨b, off, none⟩) zs.length c, .string x] w fun e w' => ∃ i : Int, e = .returned (.int .i64 i) ∧ (0 ≤ i ↔ x.data.toList ∈ zs) ∧ w = w' := by
  obtain ⟨n, hn⟩ : ∃ n, n = zs.length := ⟨_, rfl⟩
  rw [← hn] at hbig hc ⊢
  have HN := hid hn
  clear hn
  go_enter Tryd.func49, Tryd.ntmps49
  go_wp2
  go_loop [5, 8] (fun _ i => ∃ k : Nat, k ≤ n ∧ i = .int .i64 k ∧ Hid (∀ j, j < k → zs.getD j [] ≠ x.data.toList)) (fun _ i => n - (intOf i).toNat)
  case atStart => exact ⟨0, Nat.zero_le _, rfl, hid (fun j hj => absurd hj (Nat.not_lt_zero _))⟩
  case round =>
    obtain ⟨k, hk, rfl, hne⟩ := hrel
    have hcell : k < n → w.cell? ⟨b, off + k, none⟩ = some (.string (str (zs.getD k []))) := fun _ => hc k (by omega)
    obtain ⟨y, hy⟩ : ∃ y, str (zs.getD k []) = y := ⟨_, rfl⟩
    rw [hy] at hcell
    have HY := hid hy
    clear hy hc
    by_cases hlt : k < n
    · have hcell' := hcell hlt
      clear hcell
      go_wp2
      · have heq : (x.toList == y.toList) = true := by assumption
        go_ret
        have e1 : x = y := (Lib.bytes_beq_iff _ _).1 heq
        refine ⟨_, rfl, ⟨fun _ => ?_, fun _ => by omega⟩, rfl⟩
        have e2 : zs.getD k [] = x.data.toList := by rw [e1, ← HY.out, toList_str]
        have hkl : k < zs.length := by have := HN.out; omega
        rw [← e2, List.getD_eq_getElem?_getD, List.getElem?_eq_getElem hkl]
        exact List.getElem_mem hkl
      · have hneq : (x.toList == y.toList) = false := by assumption
        have e1 : zs.getD k [] ≠ x.data.toList := fun h => (Lib.bytes_beq_false_iff _ _).1 hneq (by rw [← HY.out, h, str_toList])
        go_round
        case rel =>
          refine ⟨k + 1, by omega, by go_num, hid (fun j hj => ?_)⟩
          by_cases e : j = k
          · subst e; exact e1
          · exact hne.out j (by omega)
        case measure => simp [intOf]; omega
    · clear hcell
      go_wp2
      go_ret
      refine ⟨-1, rfl, ⟨fun h => absurd h (by decide), fun h => ?_⟩, rfl⟩
      obtain ⟨j, hj, e⟩ := List.getElem_of_mem h
      exact absurd (by rw [List.getD_eq_getElem?_getD, List.getElem?_eq_getElem hj]; exact e) (hne.out j (by have := HN.out; omega))

theorem sContains_any (b off c : Nat) (zs : List (List UInt8)) (x : ByteArray) (w : World) (hbig : zs.length ≤ 9223372036854775807) (hc : ∀ j, j < zs.length → w.cell? ⟨b, off + j, none⟩ = some (.string (str (zs.getD j [])))) :
    Calls Tryd.prog 33 #[.slice (some ⟨b, off, none⟩) zs.length c, .string x] w fun e w' => e = .returned (.bool (decide (x.data.toList ∈ zs))) ∧ w = w' := by
  have hi := sIndex_any b off c zs x w hbig hc
  clear hc
  go_enter Tryd.func33, Tryd.ntmps33
  go_wp2_with (go_at_call 49; refine hi.mono ?_; rintro e w' ⟨i, rfl, hiff, rfl⟩; have HI := hid hiff; clear hiff)
  go_ret
  exact ⟨ret_bool (decide_eq_decide.2 HI.out), rfl⟩

end Go.Proofs.YtdochnioodedmaaDoor
