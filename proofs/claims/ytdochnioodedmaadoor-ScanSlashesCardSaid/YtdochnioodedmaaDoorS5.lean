/- The walk of the law ScanTexts. -/
import Derived.Test.YtdochnioodedmaaDoorS1
import Derived.Test.YtdochnioodedmaaDoorP6
import Derived.Lib.AppendStr
namespace Go.Proofs.YtdochnioodedmaaDoor
open Go Go.RowKit

theorem extract_byte (s : ByteArray) (k : Nat) (h : k < s.size) : (s.extract k (k + 1)).data.toList = [s[k]] := by
  have hd := drop_cons s k h
  rw [ByteArray.data_extract, Array.toList_extract, List.extract, hd, show k + 1 - k = 1 by omega]; rfl
theorem take_next (s : ByteArray) (k : Nat) (h : k < s.size) : s.data.toList.take (k + 1) = s.data.toList.take k ++ [s[k]] := by
  rw [List.take_succ_eq_append_getElem (by simpa using h)]; rfl
theorem concat_toList (a b : ByteArray) : (a ++ b).data.toList = a.data.toList ++ b.data.toList := by simp

/-- what the law's text is, so far -/
def TextIs (s T : ByteArray) (k : Nat) : Prop := T.data.toList = 34 :: esc (s.data.toList.take k) ∧ ∀ c ∈ s.data.toList.take k, c.toNat ≠ 10
theorem TextIs.kept {s T : ByteArray} {k : Nat} (h : TextIs s T k) (hk : k < s.size) (h10 : ¬ s[k].toNat = 10) (hc : s[k].toNat = 34 ∨ s[k].toNat = 92) : TextIs s (T ++ ⟨#[92]⟩ ++ s.extract k (k + 1)) (k + 1) := by
  refine ⟨?_, ?_⟩
  · rw [concat_toList, concat_toList, extract_byte s k hk, h.1, take_next s k hk, esc_append]
    simp [esc, hc]
  · rw [take_next s k hk]
    intro c hm
    rcases List.mem_append.1 hm with hm | hm
    · exact h.2 c hm
    · rw [List.mem_singleton.1 hm]; exact h10
theorem TextIs.plain {s T : ByteArray} {k : Nat} (h : TextIs s T k) (hk : k < s.size) (h10 : ¬ s[k].toNat = 10) (hc : ¬ (s[k].toNat = 34 ∨ s[k].toNat = 92)) : TextIs s (T ++ s.extract k (k + 1)) (k + 1) := by
  refine ⟨?_, ?_⟩
  · rw [concat_toList, extract_byte s k hk, h.1, take_next s k hk, esc_append]
    simp [esc, hc]
  · rw [take_next s k hk]
    intro c hm
    rcases List.mem_append.1 hm with hm | hm
    · exact h.2 c hm
    · rw [List.mem_singleton.1 hm]; exact h10
theorem TextIs.tokens {s T : ByteArray} {k : Nat} (h : TextIs s T k) (hk : s.size ≤ k) (hl : s.size ≤ 1000) : tokens (T ++ ⟨#[34]⟩).data.toList = .ok [{ kind := 3, at_ := 0, text := s.data.toList, n := 0 }, { kind := 0, at_ := ((esc s.data.toList).length + 2 : Nat), text := [], n := 0 }] := by
  have e : s.data.toList.take k = s.data.toList := List.take_of_length_le (by rw [size_toList]; exact hk)
  obtain ⟨h1, h2⟩ := h
  rw [e] at h1 h2
  rw [concat_toList, h1]
  exact texts_plain h2 (by rw [size_toList]; exact hl)

set_option maxRecDepth 100000 in
set_option maxHeartbeats 2000000 in
theorem scanTexts_any (s : ByteArray) (w : World) (hsm : s.size ≤ maxLen) :
    Calls Tryd.prog 6 #[.string s] w fun e w' => e = .returned (.bool true) ∧ Below w.heap.size w w' := by
  unfold maxLen at hsm
  by_cases hbig : 1000 < s.size
  · go_enter Tryd.func6, Tryd.ntmps6
    go_wp2_with (go_at_call 9; refine (shown_any _).mono ?_; rintro e w2 ⟨rfl, hb2⟩)
    go_ret
    exact ⟨rfl, hb2⟩
  · have T0 : Hid (TextIs s ⟨#[34]⟩ 0) := hid ⟨rfl, by simp⟩
    go_enter Tryd.func6, Tryd.ntmps6
    go_wp2_with (go_at_call 9; refine (shown_any _).mono ?_; rintro e w2 ⟨rfl, hb2⟩)
    go_loop [4, 5] (fun t i => ∃ (k : Nat) (T : ByteArray), k ≤ s.size ∧ i = .int .i64 k ∧ t = .string T ∧ T.size ≤ 2 * k + 1 ∧ Hid (TextIs s T k)) (fun _ i => s.size - (intOf i).toNat)
    case atStart => exact ⟨0, ⟨#[34]⟩, Nat.zero_le _, rfl, rfl, by decide, T0⟩
    case round =>
      obtain ⟨k, T, hk, rfl, rfl, hT, H⟩ := hrel
      by_cases hlt : k < s.size
      · have hex : (s.extract k (k + 1)).size = 1 := by rw [ByteArray.size_extract]; omega
        have HEX := hid hex
        have hexle : (s.extract k (k + 1)).size ≤ 1 := by omega
        clear hex
        by_cases h10 : s[k].toNat = 10
        · have t1 := beqT (show (s[k].toNat : Int) = 10 by omega)
          clear h10
          go_wp2_with fail
          go_ret
          exact ⟨rfl, hb2⟩
        · have t1 := beqF (show ¬ (s[k].toNat : Int) = 10 by omega)
          have H10 := hid h10
          by_cases h34 : s[k].toNat = 34
          · have t2 := beqT (show (s[k].toNat : Int) = 34 by omega)
            have HN := hid (H.out.kept hlt H10.out (.inl h34))
            clear h10 h34
            go_wp2_with fail
            go_round
            case rel => exact ⟨k + 1, _, by omega, by go_num, rfl, by have := HEX.out; simp only [ByteArray.size_append]; rw [this, show (ByteArray.mk #[92]).size = 1 from rfl]; omega, HN⟩
            case measure => simp [intOf]; omega
          · have t2 := beqF (show ¬ (s[k].toNat : Int) = 34 by omega)
            by_cases h92 : s[k].toNat = 92
            · have t3 := beqT (show (s[k].toNat : Int) = 92 by omega)
              have HN := hid (H.out.kept hlt H10.out (.inr h92))
              clear h10 h34 h92
              go_wp2_with fail
              go_round
              case rel => exact ⟨k + 1, _, by omega, by go_num, rfl, by have := HEX.out; simp only [ByteArray.size_append]; rw [this, show (ByteArray.mk #[92]).size = 1 from rfl]; omega, HN⟩
              case measure => simp [intOf]; omega
            · have t3 := beqF (show ¬ (s[k].toNat : Int) = 92 by omega)
              have HN := hid (H.out.plain hlt H10.out (fun e => e.elim h34 h92))
              clear h10 h34 h92
              go_wp2_with fail
              go_round
              case rel => exact ⟨k + 1, _, by omega, by go_num, rfl, by have := HEX.out; simp only [ByteArray.size_append]; rw [this]; omega, HN⟩
              case measure => simp [intOf]; omega
      · have TK := fun W => tokens_at (T ++ ⟨#[34]⟩) (by rw [ByteArray.size_append, show (ByteArray.mk #[34]).size = 1 from rfl]; omega) (H.out.tokens (by omega) (by omega)) W
        go_wp2_with fail
        refine (TK _).mono ?_
        rintro e w3 ⟨v, rfl, hown, hb3⟩
        obtain ⟨g, cap, rfl, _, hg, _, hc⟩ := own_cell hown (by simp)
        have a0 : w3.cell? ⟨g, 0, none⟩ = some (.int .i64 3) := hc 0 _ rfl
        have a2 : w3.cell? ⟨g, 2, none⟩ = some (.string s) := by
          have := hc 2 _ rfl
          rwa [str_toList] at this
        have a4 : w3.cell? ⟨g, 4, none⟩ = some (.int .i64 0) := hc 4 _ rfl
        clear hc hown TK
        go_wp2_with fail
        go_ret
        exact ⟨rfl, hb2.trans (hb3.mono hb2.size)⟩

end Go.Proofs.YtdochnioodedmaaDoor
