/- The walk of the law ScanJoins. -/
import Derived.Test.YtdochnioodedmaaDoorS7
namespace Go.Proofs.YtdochnioodedmaaDoor
open Go Go.RowKit

theorem join_get (A B : List Tok) (n : Nat) (hA : 0 < A.length) :
    (A.dropLast ++ lineTok n :: B.map (shiftTok (n + 1))).length = A.length + B.length ∧
    (∀ (k : Nat) (t : Tok), k + 1 < A.length → A[k]? = some t → (A.dropLast ++ lineTok n :: B.map (shiftTok (n + 1)))[k]? = some t) ∧
    (A.dropLast ++ lineTok n :: B.map (shiftTok (n + 1)))[A.length - 1]? = some (lineTok n) ∧
    (∀ (k : Nat) (u : Tok), A.length ≤ k → B[k - A.length]? = some u → (A.dropLast ++ lineTok n :: B.map (shiftTok (n + 1)))[k]? = some (shiftTok (n + 1) u)) := by
  have hd : A.dropLast.length = A.length - 1 := List.length_dropLast
  refine ⟨by simp; omega, fun k t hk ht => ?_, ?_, fun k u hk hu => ?_⟩
  · rw [List.getElem?_append_left (by omega), List.getElem?_dropLast, if_pos (by omega)]; exact ht
  · rw [List.getElem?_append_right (by omega), hd, Nat.sub_self]; rfl
  · rw [List.getElem?_append_right (by omega), hd, show k - (A.length - 1) = (k - A.length) + 1 by omega, List.getElem?_cons_succ, List.getElem?_map, hu]; rfl

theorem cat_line (s t : ByteArray) : (s ++ (⟨#[10]⟩ : ByteArray) ++ t).data.toList = s.data.toList ++ 10 :: t.data.toList := by simp

/-- a token's cells in a row's block -/
def TokAt (W : World) (g k : Nat) (t : Tok) : Prop :=
  W.cell? ⟨g, k * 4, none⟩ = some (.int .i64 t.kind) ∧ W.cell? ⟨g, k * 4 + 1, none⟩ = some (.int .i64 t.at_) ∧ W.cell? ⟨g, k * 4 + 2, none⟩ = some (.string (str t.text)) ∧ W.cell? ⟨g, k * 4 + 3, none⟩ = some (.int .i64 t.n)
theorem TokAt.of {W W2 : World} {g : Nat} {L : List Tok} (hc : ∀ j u, (tokCells L)[j]? = some u → W.cell? ⟨g, j, none⟩ = some u) (hb : Below W.heap.size W W2) (hg : g < W.heap.size) {k : Nat} {t : Tok} (h : L[k]? = some t) : TokAt W2 g k t := by
  obtain ⟨a, b, c, d⟩ := tokCells_get L k t h
  rw [Nat.mul_comm] at a b c d
  exact ⟨(hb.cell (p := ⟨g, _, none⟩) hg).trans (hc _ _ a), (hb.cell (p := ⟨g, _, none⟩) hg).trans (hc _ _ b), (hb.cell (p := ⟨g, _, none⟩) hg).trans (hc _ _ c), (hb.cell (p := ⟨g, _, none⟩) hg).trans (hc _ _ d)⟩

set_option maxRecDepth 100000 in
set_option maxHeartbeats 2000000 in
theorem scanJoins_bad (s t : ByteArray) (w : World) (hsm : s.size ≤ 140737488351232) (htm : t.size ≤ 140737488351232) (hbig : ¬ 1500 < s.size + t.size) (h : ¬ ∃ A B, tokens s.data.toList = .ok A ∧ tokens t.data.toList = .ok B) :
    Calls Tryd.prog 5 #[.string s, .string t] w fun e w' => e = .returned (.bool true) ∧ Below w.heap.size w w' := by
  have T1 := fun W => tokens_any s W hsm
  have T2 := fun W => tokens_any t W htm
  cases h1 : tokens s.data.toList with
  | bad er at_ =>
    rw [h1] at T1
    obtain ⟨p1, _⟩ := places_bad h1
    have t1 := bneT (show ¬ ((er : Nat) : Int) = 0 by omega)
    clear h1 h
    go_enter Tryd.func5, Tryd.ntmps5
    go_wp2_with (go_at_call 9; refine (shown_any _).mono ?_; rintro e w2 ⟨rfl, hb2⟩)
    refine (T1 _).mono ?_
    rintro e w3 ⟨rfl, hb3⟩
    go_wp2_with fail
    refine (T2 _).mono ?_
    intro e w4 h4
    obtain ⟨v, er2, ae, rfl, hb4⟩ := tpost_any h4
    clear h4
    go_wp2_with fail
    go_ret
    exact ⟨rfl, (hb2.trans (hb3.mono hb2.size)).trans (hb4.mono (hb2.trans (hb3.mono hb2.size)).size)⟩
  | ok A =>
    rw [h1] at T1
    cases h2 : tokens t.data.toList with
    | ok B => exact absurd ⟨A, B, h1, h2⟩ h
    | bad er at_ =>
      rw [h2] at T2
      obtain ⟨p1, _⟩ := places_bad h2
      have t1 := bneT (show ¬ ((er : Nat) : Int) = 0 by omega)
      clear h1 h2 h
      go_enter Tryd.func5, Tryd.ntmps5
      go_wp2_with (go_at_call 9; refine (shown_any _).mono ?_; rintro e w2 ⟨rfl, hb2⟩)
      refine (T1 _).mono ?_
      rintro e w3 ⟨v, rfl, _, hb3⟩
      go_wp2_with fail
      refine (T2 _).mono ?_
      rintro e w4 ⟨rfl, hb4⟩
      go_wp2_with fail
      go_ret
      exact ⟨rfl, (hb2.trans (hb3.mono hb2.size)).trans (hb4.mono (hb2.trans (hb3.mono hb2.size)).size)⟩

set_option maxRecDepth 100000 in
set_option maxHeartbeats 4000000 in
theorem scanJoins_good (s t : ByteArray) (w : World) (hbig : ¬ 1500 < s.size + t.size) (A B : List Tok) (hA : tokens s.data.toList = .ok A) (hB : tokens t.data.toList = .ok B) :
    Calls Tryd.prog 5 #[.string s, .string t] w fun e w' => e = .returned (.bool true) ∧ Below w.heap.size w w' := by
  have T1 := fun W => tokens_at s (by omega) hA W
  have T2 := fun W => tokens_at t (by omega) hB W
  have hz3 : (s ++ (⟨#[10]⟩ : ByteArray) ++ t).size ≤ 140737488351232 := by rw [ByteArray.size_append, ByteArray.size_append, show (ByteArray.mk #[10]).size = 1 from rfl]; omega
  have JP := joins_plain hA hB (by rw [size_toList, size_toList]; omega)
  rw [← cat_line, size_toList] at JP
  have hAs := places_size (places_ok hA)
  have hBs := places_size (places_ok hB)
  rw [size_toList] at hAs hBs
  obtain ⟨hA0, HPA⟩ := places_ok hA
  obtain ⟨hB0, HPB⟩ := places_ok hB
  obtain ⟨j0, j1, j2, j3⟩ := join_get A B s.size hA0
  have HPBB := hid HPB
  clear HPA HPB hA hB
  generalize A.dropLast ++ lineTok s.size :: B.map (shiftTok (s.size + 1)) = K at JP j0 j1 j2 j3
  have J0 := hid j0
  have J1 := hid j1
  have J2 := hid j2
  have J3 := hid j3
  have t9 := bneF (show (K.length : Int) = (A.length : Int) + (B.length : Int) by omega)
  clear j0 j1 j2 j3
  have HJP := hid JP
  clear JP
  go_enter Tryd.func5, Tryd.ntmps5
  go_wp2_with (go_at_call 9; refine (shown_any _).mono ?_; rintro e w2 ⟨rfl, hb2⟩)
  refine (T1 _).mono ?_
  rintro e w3 ⟨v1, rfl, hown1, hb3⟩
  obtain ⟨g1, cap1, rfl, _, hg1, hLm1, hc1⟩ := own_cell hown1 hA0
  unfold maxLen at hLm1
  have HC1 := hid hc1
  clear hown1 hc1 T1
  go_wp2_with fail
  refine (T2 _).mono ?_
  rintro e w4 ⟨v2, rfl, hown2, hb4⟩
  obtain ⟨g2, cap2, rfl, _, hg2, hLm2, hc2⟩ := own_cell hown2 hB0
  unfold maxLen at hLm2
  have HC2 := hid hc2
  have HB4 := (hb2.trans (hb3.mono hb2.size)).trans (hb4.mono (hb2.trans (hb3.mono hb2.size)).size)
  clear hown2 hc2 T2
  go_wp2_with fail
  rcases HJP.out with h | ⟨ab, h⟩
  rotate_left
  · have T3 := fun W => tokens_at _ hz3 h W
    refine (T3 _).mono ?_
    rintro e w5 ⟨rfl, hb5⟩
    clear T3 h
    go_wp2_with fail
    go_ret
    exact ⟨rfl, HB4.trans (hb5.mono HB4.size)⟩
  have T3 := fun W => tokens_at _ hz3 h W
  refine (T3 _).mono ?_
  rintro e w5 ⟨v3, rfl, hown3, hb5⟩
  have hK0 : 0 < K.length := by have := J0.out; omega
  obtain ⟨g3, cap3, rfl, _, hg3, hLm3, hc3⟩ := own_cell hown3 hK0
  unfold maxLen at hLm3
  have HC3 := hid hc3
  have HB5 := HB4.trans (hb5.mono HB4.size)
  have hs35 : w3.heap.size ≤ w5.heap.size := Nat.le_trans hb4.size hb5.size
  have hs45 : w4.heap.size ≤ w5.heap.size := hb5.size
  clear hown3 hc3 T3 h
  go_wp2_with fail
  go_loopw [15] (fun i wr => ∃ k : Nat, k ≤ K.length ∧ i = .int .i64 k ∧ Below w5.heap.size w5 wr) (fun i _ => K.length - (intOf i).toNat)
  case atStart => exact ⟨0, Nat.zero_le _, rfl, Below.refl _ _⟩
  case round =>
    obtain ⟨k, hk, rfl, hbr⟩ := hrel
    have hsr := hbr.size
    by_cases hlt : k < K.length
    · by_cases hc1 : k + 1 < A.length
      · obtain ⟨u, hu⟩ : ∃ u, A[k]? = some u := ⟨_, List.getElem?_eq_getElem (by omega)⟩
        obtain ⟨x0, x1, x2, x3⟩ := TokAt.of HC1.out ((hb4.trans (hb5.mono hb4.size)).trans ((hbr.alloc hsr (.cells #[.int .i64 1, .int .i64 (s.size : Int), .string ⟨#[]⟩, .int .i64 0] 23)).mono hs35)) hg1 hu
        obtain ⟨y0, y1, y2, y3⟩ := TokAt.of HC3.out (hbr.alloc hsr (.cells #[.int .i64 u.kind, .int .i64 u.at_, .string (str u.text), .int .i64 u.n] 23)) hg3 (J1.out k u hc1 hu)
        have d1 : decide ((k : Int) < (A.length : Int) - 1) = true := decide_eq_true (by omega)
        have d2 : decide ((A.length : Int) ≤ (k : Int)) = false := decide_eq_false (by omega)
        have d3 : decide (A.length ≤ k) = false := decide_eq_false (by omega)
        have hkA : k < A.length := by omega
        clear hu
        go_wp2_with fail
        go_quiet (fail)
        go_wp2_with fail
        go_roundw
        case rel => exact ⟨k + 1, by omega, by go_num, below_drewN (hbr.alloc hsr _) _⟩
        case measure => simp [intOf]; omega
      · by_cases hc2 : k + 1 = A.length
        · have hgk : K[k]? = some (lineTok s.size) := by rw [show k = A.length - 1 by omega]; exact J2.out
          obtain ⟨y0, y1, y2, y3⟩ := TokAt.of HC3.out (hbr.alloc hsr (.cells #[.int .i64 1, .int .i64 (s.size : Int), .string ⟨#[]⟩, .int .i64 0] 23)) hg3 hgk
          replace y2 : (wr.alloc (.cells #[.int .i64 1, .int .i64 (s.size : Int), .string ⟨#[]⟩, .int .i64 0] 23)).cell? ⟨g3, k * 4 + 2, none⟩ = some (.string ⟨#[]⟩) := y2
          unfold lineTok at y0 y1 y3
          simp only at y0 y1 y3
          have d1 : decide ((k : Int) < (A.length : Int) - 1) = false := decide_eq_false (by omega)
          have d2 : decide ((A.length : Int) ≤ (k : Int)) = false := decide_eq_false (by omega)
          have d3 : decide (A.length ≤ k) = false := decide_eq_false (by omega)
          clear hgk hc2
          go_wp2_with fail
          go_quiet (fail)
          go_wp2_with fail
          go_roundw
          case rel => exact ⟨k + 1, by omega, by go_num, below_drewN (hbr.alloc hsr _) _⟩
          case measure => simp [intOf]; omega
        · have hkB : k - A.length < B.length := by have := J0.out; omega
          obtain ⟨u, hu⟩ : ∃ u, B[k - A.length]? = some u := ⟨_, List.getElem?_eq_getElem hkB⟩
          obtain ⟨x0, x1, x2, x3⟩ := TokAt.of HC2.out (hb5.trans ((hbr.alloc hsr (.cells #[.int .i64 1, .int .i64 (s.size : Int), .string ⟨#[]⟩, .int .i64 0] 23)).mono hs45)) hg2 hu
          obtain ⟨y0, y1, y2, y3⟩ := TokAt.of HC3.out (hbr.alloc hsr (.cells #[.int .i64 u.kind, .int .i64 (u.at_ + (s.size : Int) + 1), .string (str u.text), .int .i64 u.n] 23)) hg3 (J3.out k u (by omega) hu)
          unfold shiftTok at y0 y1 y2 y3
          simp only at y0 y1 y2 y3
          rw [show u.at_ + ((s.size + 1 : Nat) : Int) = u.at_ + (s.size : Int) + 1 by omega] at y1
          obtain ⟨ua, ub, _, _⟩ := HPBB.out _ u hu
          rw [size_toList] at ub
          have d1 : decide ((k : Int) < (A.length : Int) - 1) = false := decide_eq_false (by omega)
          have d2 : decide ((A.length : Int) ≤ (k : Int)) = true := decide_eq_true (by omega)
          have d3 : decide (A.length ≤ k) = true := decide_eq_true (by omega)
          have e3 : ((k : Int) - (A.length : Int)).toNat = k - A.length := by omega
          have e5 : (0 : Int) ≤ (k : Int) - (A.length : Int) := by omega
          have hAk : A.length ≤ k := by omega
          clear hu
          go_wp2_with fail
          clear e3
          go_quiet (fail)
          go_wp2_with fail
          go_roundw
          case rel => exact ⟨k + 1, by omega, by go_num, below_drewN (hbr.alloc hsr _) _⟩
          case measure => simp [intOf]; omega
    · go_wp2_with fail
      go_ret
      exact ⟨rfl, HB5.trans (hbr.mono HB5.size)⟩

set_option maxRecDepth 100000 in
theorem scanJoins_any (s t : ByteArray) (w : World) (hsm : s.size ≤ 140737488351232) (htm : t.size ≤ 140737488351232) :
    Calls Tryd.prog 5 #[.string s, .string t] w fun e w' => e = .returned (.bool true) ∧ Below w.heap.size w w' := by
  by_cases hbig : 1500 < s.size + t.size
  · go_enter Tryd.func5, Tryd.ntmps5
    have hbig2 : (1500 : Int) < (s.size : Int) + (t.size : Int) := by omega
    go_wp2_with (go_at_call 9; refine (shown_any _).mono ?_; rintro e w2 ⟨rfl, hb2⟩)
    go_ret
    exact ⟨rfl, hb2⟩
  · by_cases h : ∃ A B, tokens s.data.toList = .ok A ∧ tokens t.data.toList = .ok B
    · obtain ⟨A, B, hA, hB⟩ := h
      exact scanJoins_good s t w hbig A B hA hB
    · exact scanJoins_bad s t w hsm htm hbig h

end Go.Proofs.YtdochnioodedmaaDoor
