/- Contracts of scan.Operand and of hex.IsName with what it calls. -/
import Derived.Test.YtdochnioodedmaaDoorProg
import Derived.Test.YtdochnioodedmaaDoorM1
import Derived.WalkKit
import Derived.WalkSpells
import Derived.WalkLawsBesides
import Derived.Below
import Derived.Lib.Strings
import Derived.Lib.SlicesS
import Derived.Lib.ConvBytes
namespace Go.Proofs.YtdochnioodedmaaDoor
open Go Go.RowKit

theorem operand_any (k a n : Int) (t : ByteArray) (w : World) :
    Calls Tryd.prog 10 #[.agg #[.int .i64 k, .int .i64 a, .string t, .int .i64 n]] w fun e w' => e = .returned (.bool (operandB k t.data.toList)) ∧ Below w.heap.size w w' := by
  go_enter Tryd.func10, Tryd.ntmps10
  go_wp2
  all_goals go_ret
  all_goals refine ⟨ret_bool ?_, (Below.refl _ _).alloc (Nat.le_refl _) _⟩
  all_goals try simp only [Lib.toList_data] at *
  all_goals (rw [Bool.eq_iff_iff]; simp_all [operandB])

theorem isName1_any (c : UInt8) (w : World) :
    Calls Tryd.prog 31 #[.int .u8 c.toNat] w fun e w' => e = .returned (.bool (!wordB c)) ∧ w = w' := by
  go_enter Tryd.func31, Tryd.ntmps31
  go_wp2
  all_goals go_ret
  all_goals exact ⟨ret_bool (by rw [Bool.eq_iff_iff]; simp [wordB, bne_iff_ne]; try omega), rfl⟩

/-- what the index says -/
def IdxPost (zs : List UInt8) (i : Int) : Prop := 0 ≤ i ↔ zs.all wordB = false

set_option maxHeartbeats 1000000 in
theorem nIndexFunc_any (b off n c : Nat) (zs : List UInt8) (w : World) (hz : zs.length = n) (hbig : n ≤ 9223372036854775807) (hc : ∀ j, j < n → w.cell? ⟨b, off + j, none⟩ = some (.int .u8 (zs.getD j 0).toNat)) :
    Calls Tryd.prog 48 #[.slice (some ⟨b, off, none⟩) n c, .func (.func 31) #[] #[]] w fun e w' => ∃ i : Int, e = .returned (.int .i64 i) ∧ IdxPost zs i ∧ w = w' := by
  have HZ := hid hz
  clear hz
  go_enter Tryd.func48, Tryd.ntmps48
  go_wp2_with fail
  go_loop [5, 8] (fun _ i => ∃ k : Nat, k ≤ n ∧ i = .int .i64 k ∧ Hid ((zs.take k).all wordB = true)) (fun _ i => n - (intOf i).toNat)
  case atStart => exact ⟨0, Nat.zero_le _, rfl, hid (by simp)⟩
  case round =>
    obtain ⟨k, hk, rfl, H⟩ := hrel
    by_cases hlt : k < n
    · have hcell := hc k hlt
      have HT := hid (show zs.take (k + 1) = zs.take k ++ [zs.getD k 0] by
        have hl : k < zs.length := by have := HZ.out; omega
        rw [List.take_succ_eq_append_getElem hl, List.getD_eq_getElem?_getD, List.getElem?_eq_getElem hl]; rfl)
      obtain ⟨y, hy⟩ : ∃ y, zs.getD k 0 = y := ⟨_, rfl⟩
      rw [hy] at hcell
      have HY := hid hy
      clear hy hc
      by_cases hw : wordB y = true
      · go_wp2_with (go_at_call 31; refine (isName1_any _ _).mono ?_; rintro e w' ⟨rfl, rfl⟩)
        go_round
        case rel => exact ⟨k + 1, by omega, by go_num, hid (by rw [HT.out, HY.out, List.all_append, H.out]; simp [hw])⟩
        case measure => simp [intOf]; omega
      · have hw' : wordB y = false := by simpa using hw
        clear hw
        go_wp2_with (go_at_call 31; refine (isName1_any _ _).mono ?_; rintro e w' ⟨rfl, rfl⟩)
        go_ret
        refine ⟨k, rfl, ⟨fun _ => ?_, fun _ => by omega⟩, rfl⟩
        refine Bool.eq_false_iff.2 fun h0 => ?_
        have h : ∀ x, x ∈ zs → wordB x = true := List.all_eq_true.1 h0
        have hl : k < zs.length := by have := HZ.out; omega
        have hm : y ∈ zs := by rw [← HY.out, List.getD_eq_getElem?_getD, List.getElem?_eq_getElem hl]; exact List.getElem_mem hl
        have := h y hm
        rw [hw'] at this
        exact absurd this (by decide)
    · clear hc
      go_wp2
      go_ret
      refine ⟨-1, rfl, ⟨fun h => absurd h (by decide), fun h => ?_⟩, rfl⟩
      have e := H.out
      rw [List.take_of_length_le (by have := HZ.out; omega), h] at e
      exact absurd e (by decide)

theorem nContainsFunc_any (b off n c : Nat) (zs : List UInt8) (w : World) (hz : zs.length = n) (hbig : n ≤ 9223372036854775807) (hc : ∀ j, j < n → w.cell? ⟨b, off + j, none⟩ = some (.int .u8 (zs.getD j 0).toNat)) :
    Calls Tryd.prog 32 #[.slice (some ⟨b, off, none⟩) n c, .func (.func 31) #[] #[]] w fun e w' => e = .returned (.bool (!zs.all wordB)) ∧ w = w' := by
  have hi := nIndexFunc_any b off n c zs w hz hbig hc
  clear hc hz
  go_enter Tryd.func32, Tryd.ntmps32
  go_wp2_with (go_at_call 48; refine hi.mono ?_; rintro e w' ⟨i, rfl, hiff, rfl⟩; have HI := hid hiff; clear hiff)
  go_ret
  exact ⟨ret_bool (by have := HI.out; unfold IdxPost at this; rw [Bool.eq_iff_iff, decide_eq_true_eq, this]; simp), rfl⟩

/-- '[]byte(s)' makes one new block, which holds the string's bytes. -/
theorem convBytes (s : ByteArray) (w : World) : ∃ (c : Nat) (W : World), (convert 9 43 (.string s)).run Tryd.prog w = .ok (.slice (some ⟨w.heap.size, 0, none⟩) s.size c) W ∧ Below w.heap.size w W ∧ W.heap.size = w.heap.size + 1 ∧
    ∀ j, j < s.size → W.cell? ⟨w.heap.size, j, none⟩ = some (.int .u8 (s.data.toList.getD j 0).toNat) := by
  refine ⟨_, _, Lib.run_convert_string_bytes w 9 43 5 s Tryd.underlying9 Tryd.underlying43 Tryd.underlying5, ⟨?_, ?_, ?_, ?_, ?_⟩, Lib.bytesWorld_size w _ s, fun j hj => Lib.bytesWorld_cell w _ s j hj⟩
  · unfold Lib.bytesWorld World.freeze; rw [if_neg (by decide)]; rfl
  · unfold Lib.bytesWorld World.freeze; rw [if_neg (by decide)]; rfl
  · unfold Lib.bytesWorld World.freeze; rw [if_neg (by decide)]; rfl
  · rw [Lib.bytesWorld_size]; omega
  · exact fun k hk => Lib.bytesWorld_at_old w _ s k hk

theorem isEmpty_of (s : ByteArray) : s.toList.isEmpty = decide (s.size = 0) := by
  rw [Lib.toList_data]
  cases h : s.data.toList with
  | nil => have := size_toList s; rw [h] at this; simp at this; simp [← this]
  | cons a l => have := size_toList s; rw [h] at this; simp at this; simp [← this]

set_option maxRecDepth 100000 in
theorem isName_any (s : ByteArray) (w : World) (hs : s.size ≤ maxLen) :
    Calls Tryd.prog 22 #[.string s] w fun e w' => e = .returned (.bool (isNameB s.data.toList)) ∧ Below w.heap.size w w' := by
  unfold maxLen at hs
  by_cases h0 : s.size = 0
  · have hne : s.toList.isEmpty = true := by rw [isEmpty_of]; simp [h0]
    have hne' : s.toList = [] := by simpa using hne
    have hl : s.data.toList = [] := by rw [← Lib.toList_data]; exact hne'
    rw [hl]
    clear hl
    go_enter Tryd.func22, Tryd.ntmps22
    go_wp2_with fail
    go_ret
    exact ⟨ret_bool (by simp [isNameB]), Below.refl _ _⟩
  · have hpos : 0 < s.size := by omega
    have hne : s.toList.isEmpty = false := by rw [isEmpty_of]; simp [h0]
    have hne' : ¬ s.toList = [] := by simpa using hne
    have HL := hid (drop_cons s 0 hpos)
    obtain ⟨c, W, hrun, hb, hsz, hcell⟩ := convBytes s w
    have hcf := nContainsFunc_any w.heap.size 0 s.size c s.data.toList W rfl hs (by simpa using hcell)
    clear hcell hsz
    by_cases hf : isFig s[0] = true
    · have t1 : ¬ ((s[0].toNat : Int) < 48) := by simp [isFig] at hf; omega
      have t2 : ¬ (57 < (s[0].toNat : Int)) := by simp [isFig] at hf; omega
      have HF := hid hf
      clear hf hrun hcf
      go_enter Tryd.func22, Tryd.ntmps22
      go_wp2_with fail
      go_ret
      exact ⟨ret_bool (by have e := HL.out; rw [List.drop_zero] at e; rw [e, isNameB, HF.out]; rfl), Below.refl _ _⟩
    · have hf' : isFig s[0] = false := by simpa using hf
      have t1 : ((s[0].toNat : Int) < 48) ∨ ((s[0].toNat : Int) > 57) := by simp [isFig] at hf; omega
      have HB := hid (show isNameB s.data.toList = s.data.toList.all wordB by
        have e := HL.out
        rw [List.drop_zero] at e
        rw [e, isNameB, hf']
        rfl)
      clear hf hf'
      generalize s.data.toList.all wordB = b at HB hcf
      rcases t1 with t1 | t1
      all_goals go_enter Tryd.func22, Tryd.ntmps22
      all_goals go_wp2_with (go_at_call 32; refine hcf.mono ?_; rintro e w' ⟨rfl, rfl⟩)
      all_goals go_ret
      all_goals exact ⟨ret_bool (by first | (rw [HB.out]; done) | (rw [HB.out]; simp; omega)), hb⟩
end Go.Proofs.YtdochnioodedmaaDoor
