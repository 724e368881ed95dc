/- The walk of the law ScanMarks. -/
import Derived.Test.YtdochnioodedmaaDoorS1
import Derived.Test.YtdochnioodedmaaDoorP6
import Derived.Lib.AppendStr
namespace Go.Proofs.YtdochnioodedmaaDoor
open Go Go.RowKit

theorem strs_cell (W : World) (L : List (List UInt8)) (T : TypeId) (j : Nat) (h : j < L.length) : (W.alloc (.cells (strs L) T)).cell? ⟨W.heap.size, j, none⟩ = some (.string (str (L.getD j []))) := by
  rw [World.cell?_alloc_at _ _ _ _ rfl]
  exact strs_get L j h
theorem getD_mem' {L : List (List UInt8)} {j : Nat} (h : j < L.length) : L.getD j [] ∈ L := by
  rw [List.getD_eq_getElem?_getD, List.getElem?_eq_getElem h]; exact List.getElem_mem h
theorem mark_len : ∀ m ∈ marksL, m.length ≤ 2 := by decide
theorem key_len : ∀ m ∈ keysL, m.length ≤ 8 := by decide
theorem cat_one (m : List UInt8) : ((⟨#[49, 32]⟩ : ByteArray) ++ str m).data.toList = 49 :: 32 :: m := by simp [str]
theorem cat_name (m : List UInt8) : (str m ++ (⟨#[120]⟩ : ByteArray)).data.toList = m ++ [120] := by simp [str]
theorem str_cat (m : List UInt8) : str m ++ (⟨#[120]⟩ : ByteArray) = str (m ++ [120]) := by rw [← str_toList (str m ++ _), cat_name]

set_option maxRecDepth 100000 in
set_option maxHeartbeats 2000000 in
theorem scanMarks_any (n : Nat) (w : World) (hn : n ≤ 255) :
    Calls Tryd.prog 7 #[.int .u8 n] w fun e w' => e = .returned (.bool true) ∧ Below w.heap.size w w' := by
  obtain ⟨m, hm⟩ : ∃ m, marksL.getD (n % 32) [] = m := ⟨_, rfl⟩
  obtain ⟨k, hk⟩ : ∃ k, keysL.getD (n % 20) [] = k := ⟨_, rfl⟩
  have hmm : m ∈ marksL := hm ▸ getD_mem' (by simp [marksL]; omega)
  have hkm : k ∈ keysL := hk ▸ getD_mem' (by simp [keysL]; omega)
  have T1 := fun W => tokens_at ((⟨#[49, 32]⟩ : ByteArray) ++ str m) (by have := mark_len m hmm; rw [ByteArray.size_append, size_str, show (ByteArray.mk #[49, 32]).size = 2 from rfl]; omega) ((congrArg tokens (cat_one m)).trans (marks_plain hmm)) W
  have T2 := fun W => tokens_at (str k) (by have := key_len k hkm; rw [size_str]; omega) ((congrArg tokens (toList_str k)).trans (keys_plain hkm)) W
  have T3 := fun W => tokens_at (str k ++ (⟨#[120]⟩ : ByteArray)) (by have := key_len k hkm; rw [ByteArray.size_append, size_str, show (ByteArray.mk #[120]).size = 1 from rfl]; omega) ((congrArg tokens (cat_name k)).trans (names_plain hkm)) W
  have hmz : (str m).size ≤ 2 := mark_len m hmm
  have hkz : (str k).size ≤ 8 := key_len k hkm
  have HM := hid hm
  have HK := hid hk
  have HSC := hid (str_cat k)
  clear hm hk hmm hkm
  have b1 : n % 32 < 32 := by omega
  have b2 : n % 20 < 20 := by omega
  go_enter Tryd.func7, Tryd.ntmps7
  go_wp2_with fail
  refine (shown_any _).mono ?_
  rintro e w2 ⟨rfl, hb2⟩
  go_wp2_with fail
  refine (marks_any _).mono ?_
  rintro e w3 ⟨rfl, rfl⟩
  go_wp2_with fail
  refine (keys_any _).mono ?_
  rintro e w4 ⟨rfl, rfl⟩
  have HB4 : Below w.heap.size w ((w2.alloc (.cells (strs marksL) 9)).alloc (.cells (strs keysL) 9)) := (hb2.alloc hb2.size _).alloc (by have := hb2.size; simp; omega) _
  have c1 : ((w2.alloc (.cells (strs marksL) 9)).alloc (.cells (strs keysL) 9)).cell? ⟨w2.heap.size, n % 32, none⟩ = some (.string (str m)) := by
    rw [(own_alloc (b := w2.heap.size) (by simp) _).1, strs_cell _ _ _ _ (by simp [marksL]; omega), HM.out]
  have c2 : ((w2.alloc (.cells (strs marksL) 9)).alloc (.cells (strs keysL) 9)).cell? ⟨w2.heap.size + 1, n % 20, none⟩ = some (.string (str k)) := by
    have := strs_cell (w2.alloc (.cells (strs marksL) 9)) keysL 9 (n % 20) (by simp [keysL]; omega)
    rw [HK.out] at this
    simpa using this
  generalize World.alloc (World.alloc _ _) _ = w5 at HB4 c1 c2 ⊢
  go_wp2_with fail
  refine (T1 _).mono ?_
  rintro e w6 ⟨v1, rfl, hown1, hb6⟩
  obtain ⟨g1, cap1, rfl, _, hg1, _, hc1⟩ := own_cell hown1 (by simp)
  have x0 : w6.cell? ⟨g1, 4, none⟩ = some (.int .i64 7) := hc1 4 _ rfl
  have x1 : w6.cell? ⟨g1, 5, none⟩ = some (.int .i64 2) := hc1 5 _ rfl
  have x2 : w6.cell? ⟨g1, 6, none⟩ = some (.string (str m)) := hc1 6 _ rfl
  have x3 : w6.cell? ⟨g1, 7, none⟩ = some (.int .i64 0) := hc1 7 _ rfl
  have HB6 := HB4.trans (hb6.mono HB4.size)
  clear hown1 hc1 c1 c2 T1
  go_wp2_with fail
  refine (T2 _).mono ?_
  rintro e w7 ⟨v2, rfl, hown2, hb7⟩
  obtain ⟨g2, cap2, rfl, _, hg2, _, hc2⟩ := own_cell hown2 (by simp)
  replace x0 := (hb7.cell (p := ⟨g1, 4, none⟩) hg1).trans x0
  replace x1 := (hb7.cell (p := ⟨g1, 5, none⟩) hg1).trans x1
  replace x2 := (hb7.cell (p := ⟨g1, 6, none⟩) hg1).trans x2
  replace x3 := (hb7.cell (p := ⟨g1, 7, none⟩) hg1).trans x3
  have y0 : w7.cell? ⟨g2, 0, none⟩ = some (.int .i64 6) := hc2 0 _ rfl
  have y1 : w7.cell? ⟨g2, 1, none⟩ = some (.int .i64 0) := hc2 1 _ rfl
  have y2 : w7.cell? ⟨g2, 2, none⟩ = some (.string (str k)) := hc2 2 _ rfl
  have y3 : w7.cell? ⟨g2, 3, none⟩ = some (.int .i64 0) := hc2 3 _ rfl
  have HB7 := HB6.trans (hb7.mono HB6.size)
  have hz7 : w6.heap.size ≤ w7.heap.size := hb7.size
  clear hown2 hc2 T2
  go_wp2_with fail
  refine (T3 _).mono ?_
  rintro e w8 ⟨v3, rfl, hown3, hb8⟩
  obtain ⟨g3, cap3, rfl, _, hg3, _, hc3⟩ := own_cell hown3 (by simp)
  replace x0 := (hb8.cell (p := ⟨g1, 4, none⟩) (show g1 < w7.heap.size by omega)).trans x0
  replace x1 := (hb8.cell (p := ⟨g1, 5, none⟩) (show g1 < w7.heap.size by omega)).trans x1
  replace x2 := (hb8.cell (p := ⟨g1, 6, none⟩) (show g1 < w7.heap.size by omega)).trans x2
  replace x3 := (hb8.cell (p := ⟨g1, 7, none⟩) (show g1 < w7.heap.size by omega)).trans x3
  replace y0 := (hb8.cell (p := ⟨g2, 0, none⟩) hg2).trans y0
  replace y1 := (hb8.cell (p := ⟨g2, 1, none⟩) hg2).trans y1
  replace y2 := (hb8.cell (p := ⟨g2, 2, none⟩) hg2).trans y2
  replace y3 := (hb8.cell (p := ⟨g2, 3, none⟩) hg2).trans y3
  have z0 : w8.cell? ⟨g3, 0, none⟩ = some (.int .i64 5) := hc3 0 _ rfl
  have z1 : w8.cell? ⟨g3, 1, none⟩ = some (.int .i64 0) := hc3 1 _ rfl
  have z2 : w8.cell? ⟨g3, 2, none⟩ = some (.string (str k ++ ⟨#[120]⟩)) := by rw [HSC.out]; exact hc3 2 _ rfl
  have z3 : w8.cell? ⟨g3, 3, none⟩ = some (.int .i64 0) := hc3 3 _ rfl
  have HB8 := HB7.trans (hb8.mono HB7.size)
  clear hown3 hc3 T3
  go_wp2_with fail
  go_ret
  exact ⟨rfl, HB8⟩

end Go.Proofs.YtdochnioodedmaaDoor
