/- The contract of the laws' shown. -/
import Derived.Test.YtdochnioodedmaaDoorE3
namespace Go.Proofs.YtdochnioodedmaaDoor
open Go Go.RowKit

theorem shown_one : tokens [97, 32, 47, 98, 47, 32, 50] = .ok [⟨5, 0, [97], 0⟩, ⟨7, 2, [47], 0⟩, ⟨5, 3, [98], 0⟩, ⟨7, 4, [47], 0⟩, ⟨2, 6, [], 2000000⟩, ⟨0, 7, [], 0⟩] := by kernel_rfl
theorem shown_two : tokens [126, 32, 47, 98, 47] = .ok [⟨7, 0, [126], 0⟩, ⟨4, 2, [98], 0⟩, ⟨0, 5, [], 0⟩] := by kernel_rfl

/-- what scan.Tokens does at a text that is told -/
theorem tokens_at (s : ByteArray) (hs : s.size ≤ 140737488351232) {r : TRes} (h : tokens s.data.toList = r) (w : World) : Calls Tryd.prog 12 #[.string s] w (TPost w r) := by
  have := tokens_any s w hs
  rwa [h] at this

set_option maxRecDepth 100000 in
set_option maxHeartbeats 1000000 in
theorem shown_any (w : World) : Calls Tryd.prog 9 #[] w fun e w' => e = .returned (.bool true) ∧ Below w.heap.size w w' := by
  have T1 := fun W => tokens_at ⟨#[97, 32, 47, 98, 47, 32, 50]⟩ (by decide) shown_one W
  have T2 := fun W => tokens_at ⟨#[126, 32, 47, 98, 47]⟩ (by decide) shown_two W
  go_enter Tryd.func9, Tryd.ntmps9
  go_wp2_with fail
  refine (T1 _).mono ?_
  rintro e w2 ⟨v1, rfl, hown1, hB1⟩
  obtain ⟨g1, cap1, rfl, _, hg1, _, hc1⟩ := own_cell hown1 (by decide)
  go_wp2_with fail
  refine (T2 _).mono ?_
  rintro e w3 ⟨v2, rfl, hown2, hB2⟩
  obtain ⟨g2, cap2, rfl, _, hg2, _, hc2⟩ := own_cell hown2 (by decide)
  have a1 : w3.cell? ⟨g1, 4, none⟩ = some (.int .i64 7) := (hB2.cell (p := ⟨g1, 4, none⟩) hg1).trans (hc1 4 _ rfl)
  have a2 : w3.cell? ⟨g1, 19, none⟩ = some (.int .i64 2000000) := (hB2.cell (p := ⟨g1, 19, none⟩) hg1).trans (hc1 19 _ rfl)
  have a3 : w3.cell? ⟨g2, 4, none⟩ = some (.int .i64 4) := hc2 4 _ rfl
  have a4 : w3.cell? ⟨g2, 6, none⟩ = some (.string ⟨#[98]⟩) := hc2 6 _ rfl
  clear hc1 hc2 hown1 hown2
  go_wp2_with fail
  go_ret
  exact ⟨rfl, hB1.trans (hB2.mono hB1.size)⟩

end Go.Proofs.YtdochnioodedmaaDoor
