/- The walk of the law ScanPlaces. -/
import Derived.Test.YtdochnioodedmaaDoorS1
import Derived.Test.YtdochnioodedmaaDoorP3
import Derived.IntWalk
namespace Go.Proofs.YtdochnioodedmaaDoor
open Go Go.RowKit

theorem tokCells_get : ∀ (L : List Tok) (k : Nat) (t : Tok), L[k]? = some t →
    (tokCells L)[4 * k]? = some (.int .i64 t.kind) ∧ (tokCells L)[4 * k + 1]? = some (.int .i64 t.at_) ∧ (tokCells L)[4 * k + 2]? = some (.string (str t.text)) ∧ (tokCells L)[4 * k + 3]? = some (.int .i64 t.n) := by
  intro L
  induction L with
  | nil => intro k t h; simp at h
  | cons u r ih =>
    intro k t h
    cases k with
    | zero =>
      simp only [List.getElem?_cons_zero, Option.some.injEq] at h
      subst h
      simp [tokCells]
    | succ k =>
      simp only [List.getElem?_cons_succ] at h
      obtain ⟨a, b, c, d⟩ := ih k t h
      have e : tokCells (u :: r) = [.int .i64 u.kind, .int .i64 u.at_, .string (str u.text), .int .i64 u.n] ++ tokCells r := rfl
      rw [e]
      refine ⟨?_, ?_, ?_, ?_⟩
      · rw [List.getElem?_append_right (by simp; omega)]; simpa [Nat.mul_add] using a
      · rw [List.getElem?_append_right (by simp; omega), show 4 * (k + 1) + 1 - List.length [Value.int .i64 u.kind, .int .i64 u.at_, .string (str u.text), .int .i64 u.n] = 4 * k + 1 by simp; omega]; exact b
      · rw [List.getElem?_append_right (by simp; omega), show 4 * (k + 1) + 2 - List.length [Value.int .i64 u.kind, .int .i64 u.at_, .string (str u.text), .int .i64 u.n] = 4 * k + 2 by simp; omega]; exact c
      · rw [List.getElem?_append_right (by simp; omega), show 4 * (k + 1) + 3 - List.length [Value.int .i64 u.kind, .int .i64 u.at_, .string (str u.text), .int .i64 u.n] = 4 * k + 3 by simp; omega]; exact d

set_option maxRecDepth 100000 in
set_option maxHeartbeats 2000000 in
theorem scanPlaces_any (s : ByteArray) (w : World) (hsm : s.size ≤ maxLen) :
    Calls Tryd.prog 4 #[.string s] w fun e w' => e = .returned (.bool true) ∧ Below w.heap.size w w' := by
  unfold maxLen at hsm
  by_cases hbig : 3000 < s.size
  · go_enter Tryd.func4, Tryd.ntmps4
    go_wp2_with (go_at_call 9; refine (shown_any _).mono ?_; rintro e w2 ⟨rfl, hb2⟩)
    go_ret
    exact ⟨rfl, hb2⟩
  · have T := fun W => tokens_any s W (by omega)
    cases htk : tokens s.data.toList with
    | bad er at_ =>
      rw [htk] at T
      obtain ⟨p1, p2⟩ := places_bad htk
      rw [size_toList] at p2
      have t1 := bneT (show ¬ ((er : Nat) : Int) = 0 by omega)
      clear htk
      go_enter Tryd.func4, Tryd.ntmps4
      go_wp2_with (first
        | (go_at_call 9; refine (shown_any _).mono ?_; rintro e w2 ⟨rfl, hb2⟩)
        | (go_at_call 12; refine (T _).mono ?_; rintro e w3 ⟨rfl, hb3⟩))
      go_ret
      exact ⟨rfl, hb2.trans (hb3.mono hb2.size)⟩
    | ok L =>
      rw [htk] at T
      obtain ⟨h0, HP⟩ := places_ok htk
      rw [size_toList] at HP
      have HPL := hid HP
      clear htk HP
      go_enter Tryd.func4, Tryd.ntmps4
      go_wp2_with (first
        | (go_at_call 9; refine (shown_any _).mono ?_; rintro e w2 ⟨rfl, hb2⟩)
        | (go_at_call 12; refine (T _).mono ?_; rintro e w3 ⟨v, rfl, hown, hb3⟩; obtain ⟨g, cap, rfl, _, hg, hL, hc⟩ := own_cell hown h0; have HC := hid hc; clear hc hown))
      clear T
      unfold maxLen at hL
      go_loopw [7] (fun i wr => ∃ k : Nat, k ≤ L.length ∧ i = .int .i64 k ∧ ∃ n, wr = w3.drewN n) (fun i _ => L.length - (intOf i).toNat)
      case atStart => exact ⟨0, Nat.zero_le _, rfl, 0, rfl⟩
      case round =>
        obtain ⟨k, hk, rfl, n, rfl⟩ := hrel
        by_cases hlt : k < L.length
        · go_wp2_with fail
          obtain ⟨t, ht⟩ : ∃ t, L[k]? = some t := ⟨_, List.getElem?_eq_getElem hlt⟩
          have HT := hid ht
          obtain ⟨x0, x1, x2, x3⟩ := tokCells_get L k t ht
          rw [Nat.mul_comm] at x0 x1
          clear ht
          have k0 := HC.out _ _ x0
          have k1 := HC.out _ _ x1
          obtain ⟨p1, p2, p3, p4⟩ := HPL.out k t HT.out
          clear x0 x1 x2 x3
          have t5 : ((t.kind == 0) == ((k : Int) == (L.length : Int) - 1)) = true := by
            rw [beq_iff_eq, Bool.eq_iff_iff, beq_iff_eq, beq_iff_eq, p3]; omega
          by_cases hk0 : 0 < k
          · have e1 : IntKind.i64.wrap ((k : Int) - 1) = (k : Int) - 1 := IntWalk.i64_in _ (by omega)
            have e2 : (0 : Int) ≤ (k : Int) - 1 := by omega
            have e3 : ((k : Int) - 1).toNat = k - 1 := by omega
            have e4 : k - 1 < L.length := by omega
            obtain ⟨u, hu⟩ : ∃ u, L[k - 1]? = some u := ⟨_, List.getElem?_eq_getElem (by omega)⟩
            have hlt2 := p4 u hk0 hu
            obtain ⟨y0, y1, y2, y3⟩ := tokCells_get L (k - 1) u hu
            rw [Nat.mul_comm] at y1
            have j1 := HC.out _ _ y1
            clear hu y0 y1 y2 y3 p4
            have d1 : decide ((0 : Int) < k) = true := decide_eq_true (by omega)
            have d2 : decide (0 < k) = true := decide_eq_true hk0
            have d3 : decide (t.at_ ≤ u.at_) = false := decide_eq_false (by omega)
            have d4 : decide ((s.size : Int) < t.at_) = false := decide_eq_false (by omega)
            go_quiet (fail)
            clear e1 e2 e3
            go_wp2_with fail
            go_roundw
            case rel => exact ⟨k + 1, by omega, by go_num, n + nq, rfl⟩
            case measure => simp [intOf]; omega
          · clear p4
            have d1 : decide ((0 : Int) < k) = false := decide_eq_false (by omega)
            have d2 : decide (0 < k) = false := decide_eq_false hk0
            have d4 : decide ((s.size : Int) < t.at_) = false := decide_eq_false (by omega)
            go_quiet (fail)
            go_wp2_with fail
            go_roundw
            case rel => exact ⟨k + 1, by omega, by go_num, n + nq, rfl⟩
            case measure => simp [intOf]; omega
        · go_wp2_with fail
          go_ret
          exact ⟨rfl, below_drewN (hb2.trans (hb3.mono hb2.size)) _⟩

end Go.Proofs.YtdochnioodedmaaDoor
