/- Contracts of the library's small functions on strings: at every string, in this program's own numbers. -/
import Derived.Test.YtdochnioodedmaaDoorProg
import Derived.Test.YtdochnioodedmaaDoorM1
import Derived.WalkKit
import Derived.WalkSpells
import Derived.WalkLawsBesides
import Derived.Below
import Derived.Deep.LoopGhost
import Derived.Deep.OwnRows
import Derived.Lib.Walk
import Derived.Lib.Strings
import Derived.Lib.SlicesS
import Derived.Lib.Bytealg
import Derived.Lib.Split
import Derived.Laws.Strings3
import Derived.KernelRfl
namespace Go.Proofs.YtdochnioodedmaaDoor
open Go Go.RowKit

theorem mkb_toUInt8 (c : UInt8) : (c.toNat : Int).toNat.toUInt8 = c := by simp

theorem liteIndexByte_any (s : ByteArray) (c : UInt8) (w : World) :
    Calls Tryd.prog 45 #[.string s, .int .u8 c.toNat] w fun e w' => e = .returned (.int .i64 (Lib.indexByte s.data.toList c)) ∧ w = w' := by
  go_enter Tryd.func45, Tryd.ntmps45
  go_wp2
  rw [run_callFunc_extern Tryd.func55 (by kernel_rfl) (by kernel_rfl) (by kernel_rfl) (e := Extern.BytealgIndexByte.indexByte) (by kernel_rfl), Lib.run_indexByteString]
  simp only [Result.andThen]
  rw [Oper.upon_value]
  go_wp2
  go_ret
  exact ⟨rfl, rfl⟩

theorem indexByte_any (s : ByteArray) (c : UInt8) (w : World) :
    Calls Tryd.prog 28 #[.string s, .int .u8 c.toNat] w fun e w' => e = .returned (.int .i64 (Lib.indexByte s.data.toList c)) ∧ w = w' := by
  go_enter Tryd.func28, Tryd.ntmps28
  go_wp2_with (go_at_call 45; refine (liteIndexByte_any _ _ _).mono ?_; rintro e w' ⟨rfl, rfl⟩)
  go_ret
  exact ⟨rfl, rfl⟩

theorem liteHasPrefix_any (s p : ByteArray) (w : World) :
    Calls Tryd.prog 50 #[.string s, .string p] w fun e w' => e = .returned (.bool (Lib.hasPrefix s.data.toList p.data.toList)) ∧ w = w' := by
  rw [← Lib.hasPrefix_of_take, ← Lib.size_eq, ← Lib.size_eq]
  go_enter Tryd.func50, Tryd.ntmps50
  go_wp2
  · rename_i h
    go_ret
    refine ⟨?_, rfl⟩
    show Ending.returned (Value.bool ((s.extract 0 p.size).toList == p.toList)) = _
    rw [Lib.extract_toList, Lib.toList_data]
    simp [h]
  · rename_i h
    go_ret
    refine ⟨?_, rfl⟩
    show Ending.returned (Value.bool false) = _
    simp [h]

theorem hasPrefix_any (s p : ByteArray) (w : World) :
    Calls Tryd.prog 34 #[.string s, .string p] w fun e w' => e = .returned (.bool (Lib.hasPrefix s.data.toList p.data.toList)) ∧ w = w' := by
  go_enter Tryd.func34, Tryd.ntmps34
  go_wp2_with (go_at_call 50; refine (liteHasPrefix_any _ _ _).mono ?_; rintro e w' ⟨rfl, rfl⟩)
  go_ret
  exact ⟨rfl, rfl⟩

theorem liteIndexOne_any (s : ByteArray) (c : UInt8) (w : World) :
    Calls Tryd.prog 54 #[.string s, .string ⟨#[c]⟩] w fun e w' => e = .returned (.int .i64 (Lib.indexByte s.data.toList c)) ∧ w = w' := by
  go_enter Tryd.func54, Tryd.ntmps54
  go_wp2_with (go_at_call 45; refine (liteIndexByte_any _ _ _).mono ?_; rintro e w' ⟨rfl, rfl⟩)
  · have h : ([c] == s.toList) = true := by assumption
    go_ret
    refine ⟨?_, rfl⟩
    have e : s.data.toList = [c] := by rw [← Lib.toList_data]; exact (beq_iff_eq.1 h).symm
    rw [e]
    simp [Lib.indexByte]
  · go_ret
    exact ⟨rfl, rfl⟩

theorem indexOne_any (s : ByteArray) (c : UInt8) (w : World) :
    Calls Tryd.prog 37 #[.string s, .string ⟨#[c]⟩] w fun e w' => e = .returned (.int .i64 (Lib.indexByte s.data.toList c)) ∧ w = w' := by
  go_enter Tryd.func37, Tryd.ntmps37
  go_wp2_with (go_at_call 54; refine (liteIndexOne_any _ _ _).mono ?_; rintro e w' ⟨rfl, rfl⟩)
  go_ret
  exact ⟨rfl, rfl⟩

theorem countOne_any (s : ByteArray) (c : UInt8) (w : World) :
    Calls Tryd.prog 36 #[.string s, .string ⟨#[c]⟩] w fun e w' => e = .returned (.int .i64 (Lib.countByte s.data.toList c)) ∧ w = w' := by
  go_enter Tryd.func36, Tryd.ntmps36
  go_wp2
  rw [run_callFunc_extern Tryd.func53 (by kernel_rfl) (by kernel_rfl) (by kernel_rfl) (e := Extern.BytealgCount.count) (by kernel_rfl), Lib.run_countString]
  simp only [Result.andThen]
  rw [Oper.upon_value]
  go_wp2
  go_ret
  exact ⟨rfl, rfl⟩

theorem indexOneB_any (s : ByteArray) (c : UInt8) (w : World) :
    Calls Tryd.prog 37 #[.string s, .string ⟨#[c]⟩] w fun e w' => e = .returned (.int .i64 (Lib.indexB s ⟨#[c]⟩)) ∧ w = w' :=
  (indexOne_any s c w).mono fun e w' ⟨he, hw⟩ => ⟨by rw [he]; exact ret_int (Lib.index_one s.data.toList c).symm, hw⟩

theorem info_string : (Tryd.prog.info? 9).map (fun i => (i.zero, i.size, i.bytes)) = some (some (.string ByteArray.empty), 1, 16) := by kernel_rfl

set_option maxHeartbeats 4000000 in
set_option maxRecDepth 1000000 in
theorem genSplitOne_any (s : ByteArray) (c : UInt8) (w : World) (hs : s.size < 4294967281) :
    Calls Tryd.prog 25 #[.string s, .string ⟨#[c]⟩, .int .i64 0, .int .i64 (-1)] w fun e w' =>
      e = .returned (.slice (some ⟨w.heap.size, 0, none⟩) (Lib.splitB ⟨#[c]⟩ 0 (Lib.countByte s.data.toList c) s).length (Lib.countByte s.data.toList c + 1)) ∧
      w' = w.alloc (.cells (Lib.cellsOf (Lib.splitB ⟨#[c]⟩ 0 (Lib.countByte s.data.toList c) s) (Lib.countByte s.data.toList c + 1)) 9) := by
  obtain ⟨cn, hcn⟩ : ∃ cn : Nat, Lib.countByte s.data.toList c = cn := ⟨_, rfl⟩
  have hC := countOne_any s c w
  rw [hcn] at hC ⊢
  have hcl : cn ≤ s.size := by rw [← hcn, Lib.size_eq]; exact List.count_le_length
  clear hcn
  have hmin : min ((cn : Int) + 1) ((s.size : Int) + 1) = (cn : Int) + 1 := by omega
  have hmk := run_make_row' (P := Tryd.prog) 32 9 (.string ByteArray.empty) 16 Tryd.underlying32 info_string rfl .i64 .i64 (cn + 1) (by omega) (by omega)
  have e1 : ((cn + 1 : Nat) : Int) = (cn : Int) + 1 := by omega
  rw [e1] at hmk
  clear e1
  go_enter Tryd.func25, Tryd.ntmps25
  go_wp2_with (first | (go_at_call 36; refine hC.mono ?_; rintro e w' ⟨rfl, rfl⟩))
  clear hmk hC hmin
  go_loopg [0, 10] cn (fun g s0 s10 wr => ∃ (done : List ByteArray) (rest : ByteArray), s0 = .string rest ∧ s10 = .int .i64 done.length ∧ done.length ≤ cn ∧ g = cn - done.length ∧ rest.size ≤ s.size ∧
      wr = w.alloc (.cells (Lib.cellsOf done (cn + 1)) 9) ∧ done ++ Lib.splitB ⟨#[c]⟩ 0 (cn - done.length) rest = Lib.splitB ⟨#[c]⟩ 0 cn s)
  case atStart => exact ⟨[], s, rfl, rfl, Nat.zero_le _, rfl, Nat.le_refl _, by rw [Lib.cellsOf_nil], rfl⟩
  case round =>
    obtain ⟨done, rest, rfl, rfl, hd, rfl, hrs, rfl, hsp⟩ := hrel
    have hnext : (Lib.cellsOf done (cn + 1))[done.length]? = some (.string ByteArray.empty) := Lib.cellsOf_next (by omega)
    have HS : Hid (done ++ Lib.splitB ⟨#[c]⟩ 0 (cn - done.length) rest = Lib.splitB ⟨#[c]⟩ 0 cn s) := hsp
    clear hsp
    have fin : Lib.splitB ⟨#[c]⟩ 0 (cn - done.length) rest = [rest] → (Lib.splitB ⟨#[c]⟩ 0 cn s).length = done.length + 1 ∧ (Lib.cellsOf done (cn + 1)).setIfInBounds done.length (.string rest) = Lib.cellsOf (Lib.splitB ⟨#[c]⟩ 0 cn s) (cn + 1) := fun h => by
      have e := HS.out
      rw [h] at e
      rw [← e]
      exact ⟨by simp, Lib.cellsOf_set (by omega) rest⟩
    by_cases hlt : done.length < cn
    · rcases Lib.indexB_cases rest ⟨#[c]⟩ with hix | ⟨i, hix, hroom⟩
      · go_wp2_with (first | (go_at_call 37; refine (indexOneB_any rest c _).mono ?_; rintro e w' ⟨rfl, rfl⟩; rw [hix]))
        go_ret
        obtain ⟨f1, f2⟩ := fin (Lib.splitB_miss ⟨#[c]⟩ 0 _ rest hix)
        rw [f1, ← f2]
        exact ⟨rfl, rfl⟩
      · have hroom' : i + 1 ≤ rest.size := hroom
        have c0 : ¬ ((i : Int) < 0) := by omega
        go_wp2_with (first | (go_at_call 37; refine (indexOneB_any rest c _).mono ?_; rintro e w' ⟨rfl, rfl⟩; rw [hix]))
        go_roundg (cn - (done.length + 1))
        case measure => omega
        case rel =>
          refine ⟨done ++ [rest.extract 0 i], rest.extract (i + 1) rest.size, rfl, by simp, by simp; omega, by simp, by rw [ByteArray.size_extract]; omega, by rw [← Lib.cellsOf_set (by omega)], ?_⟩
          rw [← HS.out, show cn - done.length = (cn - (done.length + 1)) + 1 by omega, Lib.splitB_hit ⟨#[c]⟩ 0 _ rest i hix]
          simp
          rfl
    · have hltz : ¬ (((done.length : Nat) : Int) < (cn : Int)) := by omega
      go_wp2
      go_ret
      obtain ⟨f1, f2⟩ := fin (by rw [show cn - done.length = 0 by omega]; rfl)
      rw [f1, ← f2]
      exact ⟨rfl, rfl⟩

end Go.Proofs.YtdochnioodedmaaDoor
