/- The walk of the law ScanSlashes. -/
import Derived.Test.YtdochnioodedmaaDoorS3
import Derived.Test.YtdochnioodedmaaDoorS5
import Derived.Test.YtdochnioodedmaaDoorP5
namespace Go.Proofs.YtdochnioodedmaaDoor
open Go Go.RowKit

theorem tpost_any {w w' : World} {r : TRes} {e : Ending} (h : TPost w r e w') : ∃ (v : Value) (er a : Nat), e = .returned (.tuple #[v, .int .i64 er, .int .i64 a]) ∧ Below w.heap.size w w' := by
  cases r with
  | ok l => obtain ⟨v, h1, _, h2⟩ := h; exact ⟨v, 0, 0, h1, h2⟩
  | bad er a => exact ⟨_, er, a, h.1, h.2⟩

set_option maxRecDepth 100000 in
set_option maxHeartbeats 2000000 in
theorem scanSlashes_few (s : ByteArray) (w : World) (hbig : ¬ 300 < s.size) (h : ¬ ∃ L, tokens s.data.toList = .ok L ∧ 2 ≤ L.length) :
    Calls Tryd.prog 8 #[.string s] w fun e w' => e = .returned (.bool true) ∧ Below w.heap.size w w' := by
  have T := fun W => tokens_any s W (by omega)
  cases htk : tokens s.data.toList with
  | bad er at_ =>
    rw [htk] at T
    obtain ⟨p1, p2⟩ := places_bad htk
    have t1 := bneT (show ¬ ((er : Nat) : Int) = 0 by omega)
    clear htk h
    go_enter Tryd.func8, Tryd.ntmps8
    go_wp2_with (first
      | (go_at_call 9; refine (shown_any _).mono ?_; rintro e w2 ⟨rfl, hb2⟩)
      | (go_at_call 12; refine (T _).mono ?_; rintro e w3 ⟨rfl, hb3⟩))
    go_ret
    exact ⟨rfl, hb2.trans (hb3.mono hb2.size)⟩
  | ok L =>
    have hl : L.length < 2 := by
      rcases Nat.lt_or_ge L.length 2 with h2 | h2
      · exact h2
      · exact absurd ⟨L, htk, h2⟩ h
    rw [htk] at T
    clear htk h
    go_enter Tryd.func8, Tryd.ntmps8
    go_wp2_with (first
      | (go_at_call 9; refine (shown_any _).mono ?_; rintro e w2 ⟨rfl, hb2⟩)
      | (go_at_call 12; refine (T _).mono ?_; rintro e w3 ⟨v, rfl, hown, hb3⟩; obtain ⟨ao, cap, rfl⟩ := own_slice hown; clear hown))
    go_ret
    exact ⟨rfl, hb2.trans (hb3.mono hb2.size)⟩

theorem cat_slash (s : ByteArray) : (s ++ (⟨#[9, 47, 97, 47]⟩ : ByteArray)).data.toList = s.data.toList ++ slashU := by simp

set_option maxRecDepth 100000 in
set_option maxHeartbeats 2000000 in
theorem scanSlashes_remark (s : ByteArray) (w : World) (hbig : ¬ 300 < s.size) (L : List Tok) (kind at_ n : Int) (text : List UInt8) (htk : tokens s.data.toList = .ok L) (h2 : 2 ≤ L.length)
    (hlast : L[L.length - 2]? = some { kind := kind, at_ := at_, text := text, n := n }) (hLs : L.length ≤ s.size + 1)
    (i0 : Nat) (hi0 : i0 < s.size) (h35 : s[i0].toNat = 35) (hai : at_ ≤ (i0 : Int)) :
    Calls Tryd.prog 8 #[.string s] w fun e w' => e = .returned (.bool true) ∧ Below w.heap.size w w' := by
  have T1 := fun W => tokens_at s (by omega) htk W
  have hcells := tokCells_get L (L.length - 2) _ hlast
  rw [Nat.mul_comm] at hcells
  have HCL := hid hcells
  obtain ⟨_, HP⟩ := places_ok htk
  rw [size_toList] at HP
  obtain ⟨p1, p2, p3, p4⟩ := HP (L.length - 2) _ hlast
  obtain ⟨eo, heo⟩ : ∃ eo, L[L.length - 1]? = some eo := ⟨_, List.getElem?_eq_getElem (by omega)⟩
  obtain ⟨q1, q2, q3, q4⟩ := HP (L.length - 1) eo heo
  have q5 := q4 _ (by omega) (by rw [show L.length - 1 - 1 = L.length - 2 by omega]; exact hlast)
  simp only at q5 p1
  obtain ⟨a, rfl⟩ := Int.eq_ofNat_of_zero_le p1
  have has : a < s.size := by omega
  have hL2 : L.length ≤ s.size + 1 := hLs
  have T2 := fun W => tokens_any (s ++ ⟨#[9, 47, 97, 47]⟩) W (by rw [ByteArray.size_append, show (ByteArray.mk #[9, 47, 97, 47]).size = 4 from rfl]; omega)
  have H35 := hid h35
  clear h35
  clear HP p1 p2 p3 p4 eo heo q1 q2 q3 q4 q5 hcells
  go_enter Tryd.func8, Tryd.ntmps8
  go_wp2_with (go_at_call 9; refine (shown_any _).mono ?_; rintro e w2 ⟨rfl, hb2⟩)
  refine (T1 _).mono ?_
  rintro e w3 ⟨v1, rfl, hown1, hb3⟩
  obtain ⟨g1, cap1, rfl, _, hg1, hLm, hc1⟩ := own_cell hown1 (by omega)
  unfold maxLen at hLm
  have x0 : w3.cell? ⟨g1, (L.length - 2) * 4, none⟩ = some (.int .i64 kind) := hc1 _ _ HCL.out.1
  have x1 : w3.cell? ⟨g1, (L.length - 2) * 4 + 1, none⟩ = some (.int .i64 a) := hc1 _ _ HCL.out.2.1
  have x2 : w3.cell? ⟨g1, (L.length - 2) * 4 + 2, none⟩ = some (.string (str text)) := hc1 _ _ HCL.out.2.2.1
  have x3 : w3.cell? ⟨g1, (L.length - 2) * 4 + 3, none⟩ = some (.int .i64 n) := hc1 _ _ HCL.out.2.2.2
  have HB3 := hb2.trans (hb3.mono hb2.size)
  have e3 : ((L.length : Int) - 2).toNat = L.length - 2 := by omega
  have e4 : L.length - 2 < L.length := by omega
  have e5 : (0 : Int) ≤ (L.length : Int) - 2 := by omega
  clear hown1 hc1 T1
  go_wp2_with fail
  have B3 := heap_new w3 (.cells #[.int .i64 kind, .int .i64 a, .string (str text), .int .i64 n] 23)
  have HB4 := HB3.alloc HB3.size (.cells #[.int .i64 kind, .int .i64 a, .string (str text), .int .i64 n] 23)
  have hz4 : w3.heap.size < (w3.alloc (.cells #[.int .i64 kind, .int .i64 a, .string (str text), .int .i64 n] 23)).heap.size := by simp
  generalize World.alloc _ _ = w4 at B3 HB4 hz4 ⊢
  clear x0 x1 x2 x3
  refine (T2 _).mono ?_
  intro e w5 h5
  obtain ⟨v, er, ae, rfl, hb5⟩ := tpost_any h5
  have B5 := (hb5.block w3.heap.size hz4).trans B3
  have HB5 := HB4.trans (hb5.mono HB4.size)
  obtain ⟨k0, k1, k2, k3, _⟩ := blk_facts4 B5
  have hlast1 : s.size - 1 < s.size := by omega
  clear B3 B5 h5 T2
  by_cases h6 : (er : Int) = 6
  · have t6 := beqT h6
    clear h6
    go_wp2_with fail
    go_ret
    exact ⟨rfl, HB5⟩
  · have t6 := beqF h6
    clear h6
    by_cases hl : s[s.size - 1].toNat = 35
    · have t7 := beqT (show (s[s.size - 1].toNat : Int) = 35 by omega)
      clear hl
      go_wp2_with fail
      go_ret
      exact ⟨rfl, HB5⟩
    · have t7 := beqF (show ¬ (s[s.size - 1].toNat : Int) = 35 by omega)
      clear hl
      go_wp2_with fail
      go_loop [11] (fun i => ∃ k : Nat, k ≤ i0 ∧ i = .int .i64 k) (fun i => s.size - (intOf i).toNat)
      case atStart => exact ⟨a, by omega, rfl⟩
      case round =>
        obtain ⟨k, hk, rfl⟩ := hrel
        have hks : k < s.size := by omega
        by_cases hc : s[k].toNat = 35
        · have t8 := beqT (show (s[k].toNat : Int) = 35 by omega)
          clear hc
          go_wp2_with fail
          go_ret
          exact ⟨rfl, HB5⟩
        · have t8 := beqF (show ¬ (s[k].toNat : Int) = 35 by omega)
          have hne : k ≠ i0 := fun e => hc (by subst e; exact H35.out)
          clear hc
          go_wp2_with fail
          go_round
          case rel => exact ⟨k + 1, by omega, by go_num⟩
          case measure => simp [intOf]; omega

set_option maxRecDepth 100000 in
theorem scanSlashes_big (s : ByteArray) (w : World) (hsm : s.size ≤ maxLen) (hbig : 300 < s.size) :
    Calls Tryd.prog 8 #[.string s] w fun e w' => e = .returned (.bool true) ∧ Below w.heap.size w w' := by
  unfold maxLen at hsm
  go_enter Tryd.func8, Tryd.ntmps8
  go_wp2_with (go_at_call 9; refine (shown_any _).mono ?_; rintro e w2 ⟨rfl, hb2⟩)
  go_ret
  exact ⟨rfl, hb2⟩

set_option maxRecDepth 100000 in
set_option maxHeartbeats 2000000 in
theorem scanSlashes_plain (s : ByteArray) (w : World) (hbig : ¬ 300 < s.size) (L : List Tok) (kind at_ n : Int) (text : List UInt8) (htk : tokens s.data.toList = .ok L) (h2 : 2 ≤ L.length)
    (hlast : L[L.length - 2]? = some { kind := kind, at_ := at_, text := text, n := n }) (hLs : L.length ≤ s.size + 1)
    (h35 : ∀ (i : Nat) (c : UInt8), at_ ≤ (i : Int) → s.data.toList[i]? = some c → c.toNat ≠ 35) :
    Calls Tryd.prog 8 #[.string s] w fun e w' => e = .returned (.bool true) ∧ Below w.heap.size w w' := by
  have SP := slashes_plain (last := { kind := kind, at_ := at_, text := text, n := n }) htk h2 hlast (by rw [size_toList]; omega) h35
  rw [← cat_slash, size_toList] at SP
  have hz2 : (s ++ (⟨#[9, 47, 97, 47]⟩ : ByteArray)).size ≤ 140737488351232 := by rw [ByteArray.size_append, show (ByteArray.mk #[9, 47, 97, 47]).size = 4 from rfl]; omega
  have T1 := fun W => tokens_at s (by omega) htk W
  have hcells := tokCells_get L (L.length - 2) _ hlast
  rw [Nat.mul_comm] at hcells
  have HCL := hid hcells
  obtain ⟨_, HP⟩ := places_ok htk
  rw [size_toList] at HP
  obtain ⟨p1, p2, p3, p4⟩ := HP (L.length - 2) _ hlast
  obtain ⟨eo, heo⟩ : ∃ eo, L[L.length - 1]? = some eo := ⟨_, List.getElem?_eq_getElem (by omega)⟩
  obtain ⟨q1, q2, q3, q4⟩ := HP (L.length - 1) eo heo
  have q5 := q4 _ (by omega) (by rw [show L.length - 1 - 1 = L.length - 2 by omega]; exact hlast)
  simp only at q5 p1
  obtain ⟨a, rfl⟩ := Int.eq_ofNat_of_zero_le p1
  have has : a < s.size := by omega
  have hL2 : L.length ≤ s.size + 1 := hLs
  have H35 := hid h35
  clear h35
  clear HP p1 p2 p3 p4 eo heo q1 q2 q3 q4 q5 hcells
  have HSP := hid SP
  clear SP
  go_enter Tryd.func8, Tryd.ntmps8
  go_wp2_with (go_at_call 9; refine (shown_any _).mono ?_; rintro e w2 ⟨rfl, hb2⟩)
  refine (T1 _).mono ?_
  rintro e w3 ⟨v1, rfl, hown1, hb3⟩
  obtain ⟨g1, cap1, rfl, _, hg1, hLm, hc1⟩ := own_cell hown1 (by omega)
  unfold maxLen at hLm
  have x0 : w3.cell? ⟨g1, (L.length - 2) * 4, none⟩ = some (.int .i64 kind) := hc1 _ _ HCL.out.1
  have x1 : w3.cell? ⟨g1, (L.length - 2) * 4 + 1, none⟩ = some (.int .i64 a) := hc1 _ _ HCL.out.2.1
  have x2 : w3.cell? ⟨g1, (L.length - 2) * 4 + 2, none⟩ = some (.string (str text)) := hc1 _ _ HCL.out.2.2.1
  have x3 : w3.cell? ⟨g1, (L.length - 2) * 4 + 3, none⟩ = some (.int .i64 n) := hc1 _ _ HCL.out.2.2.2
  have HB3 := hb2.trans (hb3.mono hb2.size)
  have e3 : ((L.length : Int) - 2).toNat = L.length - 2 := by omega
  have e4 : L.length - 2 < L.length := by omega
  have e5 : (0 : Int) ≤ (L.length : Int) - 2 := by omega
  clear hown1 hc1 T1
  go_wp2_with fail
  have B3 := heap_new w3 (.cells #[.int .i64 kind, .int .i64 a, .string (str text), .int .i64 n] 23)
  have HB4 := HB3.alloc HB3.size (.cells #[.int .i64 kind, .int .i64 a, .string (str text), .int .i64 n] 23)
  have hz4 : w3.heap.size < (w3.alloc (.cells #[.int .i64 kind, .int .i64 a, .string (str text), .int .i64 n] 23)).heap.size := by simp
  generalize World.alloc _ _ = w4 at B3 HB4 hz4 ⊢
  clear x0 x1 x2 x3
  rcases HSP.out with h | ⟨ab, h⟩
  rotate_left
  · have T2 := fun W => tokens_at _ hz2 h W
    refine (T2 _).mono ?_
    rintro e w5 ⟨rfl, hb5⟩
    clear T2 h
    go_wp2_with fail
    go_ret
    exact ⟨rfl, HB4.trans (hb5.mono HB4.size)⟩
  cases hop : operandB kind text
  all_goals rw [hop] at h
  · have T2 := fun W => tokens_at _ hz2 h W
    have hKL : (L.dropLast ++ slashTail false s.size).length = L.length + 1 := by simp [slashTail]; omega
    have hK4 : (L.dropLast ++ slashTail false s.size)[(L.dropLast ++ slashTail false s.size).length - 2]? = some { kind := 4, at_ := (s.size + 1 : Nat), text := [97], n := 0 } := by
      rw [hKL, List.getElem?_append_right (by simp)]
      simp [slashTail]
    generalize L.dropLast ++ slashTail false s.size = K at T2 hKL hK4
    have t9 := beqT (show (K.length : Int) = (L.length : Int) + 1 by omega)
    have hK2 : 2 ≤ K.length := by omega
    have O := fun W => operand_any kind a n (str text) W
    rw [toList_str, hop] at O
    clear h hKL
    refine (T2 _).mono ?_
    rintro e w5 ⟨v2, rfl, hown2, hb5⟩
    obtain ⟨g2, cap2, rfl, _, hg2, hKm, hc2⟩ := own_cell hown2 (by omega)
    unfold maxLen at hKm
    have y0 : w5.cell? ⟨g2, (K.length - 2) * 4, none⟩ = some (.int .i64 4) := by
      have h5 := (tokCells_get K (K.length - 2) _ hK4).1
      rw [Nat.mul_comm] at h5
      exact hc2 _ _ h5
    clear hK4
    have e6 : ((K.length : Int) - 2).toNat = K.length - 2 := by omega
    have e7 : K.length - 2 < K.length := by omega
    have e8 : (0 : Int) ≤ (K.length : Int) - 2 := by omega
    have B5 := (hb5.block w3.heap.size hz4).trans B3
    have HB5 := HB4.trans (hb5.mono HB4.size)
    obtain ⟨k0, k1, k2, k3, _⟩ := blk_facts4 B5
    have hlast1 : s.size - 1 < s.size := by omega
    have t7 := beqF (show ¬ (s[s.size - 1].toNat : Int) = 35 from fun e => H35.out (s.size - 1) s[s.size - 1] (by omega) (by rw [List.getElem?_eq_getElem (by rw [size_toList]; omega)]; rfl) (by omega))
    clear B3 B5 T2 hown2 hc2
    go_wp2_with fail
    go_loop [11] (fun i => ∃ k : Nat, a ≤ k ∧ k ≤ s.size ∧ i = .int .i64 k) (fun i => s.size - (intOf i).toNat)
    case atStart => exact ⟨a, Nat.le_refl _, by omega, rfl⟩
    case round =>
      obtain ⟨k, hak, hk, rfl⟩ := hrel
      by_cases hks : k < s.size
      · have t8 := beqF (show ¬ (s[k].toNat : Int) = 35 from fun e => H35.out k s[k] (by omega) (by rw [List.getElem?_eq_getElem (by rw [size_toList]; exact hks)]; rfl) (by omega))
        go_wp2_with fail
        go_round
        case rel => exact ⟨k + 1, by omega, by omega, by go_num⟩
        case measure => simp [intOf]; omega
      · go_wp2_with (go_at_call 10; refine (O _).mono ?_; rintro e w6 ⟨rfl, hb6⟩; replace y0 := (hb6.cell (p := ⟨g2, (K.length - 2) * 4, none⟩) hg2).trans y0)
        go_ret
        exact ⟨rfl, HB5.trans (hb6.mono HB5.size)⟩
  · have T2 := fun W => tokens_at _ hz2 h W
    have hKL : (L.dropLast ++ slashTail true s.size).length = L.length + 3 := by simp [slashTail]; omega
    generalize L.dropLast ++ slashTail true s.size = K at T2 hKL
    have t9 := beqT (show (K.length : Int) = (L.length : Int) + 3 by omega)
    have hK2 : 2 ≤ K.length := by omega
    have O := fun W => operand_any kind a n (str text) W
    rw [toList_str, hop] at O
    clear h hKL
    refine (T2 _).mono ?_
    rintro e w5 ⟨v2, rfl, hown2, hb5⟩
    obtain ⟨g2, cap2, rfl, _, hg2, hKm, hc2⟩ := own_cell hown2 (by omega)
    unfold maxLen at hKm
    have B5 := (hb5.block w3.heap.size hz4).trans B3
    have HB5 := HB4.trans (hb5.mono HB4.size)
    obtain ⟨k0, k1, k2, k3, _⟩ := blk_facts4 B5
    have hlast1 : s.size - 1 < s.size := by omega
    have t7 := beqF (show ¬ (s[s.size - 1].toNat : Int) = 35 from fun e => H35.out (s.size - 1) s[s.size - 1] (by omega) (by rw [List.getElem?_eq_getElem (by rw [size_toList]; omega)]; rfl) (by omega))
    clear B3 B5 T2 hown2 hc2
    go_wp2_with fail
    go_loop [11] (fun i => ∃ k : Nat, a ≤ k ∧ k ≤ s.size ∧ i = .int .i64 k) (fun i => s.size - (intOf i).toNat)
    case atStart => exact ⟨a, Nat.le_refl _, by omega, rfl⟩
    case round =>
      obtain ⟨k, hak, hk, rfl⟩ := hrel
      by_cases hks : k < s.size
      · have t8 := beqF (show ¬ (s[k].toNat : Int) = 35 from fun e => H35.out k s[k] (by omega) (by rw [List.getElem?_eq_getElem (by rw [size_toList]; exact hks)]; rfl) (by omega))
        go_wp2_with fail
        go_round
        case rel => exact ⟨k + 1, by omega, by omega, by go_num⟩
        case measure => simp [intOf]; omega
      · go_wp2_with (go_at_call 10; refine (O _).mono ?_; rintro e w6 ⟨rfl, hb6⟩; skip)
        go_ret
        exact ⟨rfl, HB5.trans (hb6.mono HB5.size)⟩

theorem places_size {n : Nat} {L : List Tok} (h : Places n L) : L.length ≤ n + 1 := by
  obtain ⟨h0, hp⟩ := h
  have key : ∀ (k : Nat) (t : Tok), L[k]? = some t → (k : Int) ≤ t.at_ := by
    intro k
    induction k with
    | zero => intro t ht; exact (hp 0 t ht).1
    | succ k ih =>
      intro t ht
      have hk : k < L.length := by
        have := (List.getElem?_eq_some_iff.1 ht).1
        omega
      have hu := List.getElem?_eq_getElem hk
      have h1 := ih _ hu
      have h2 := (hp (k + 1) t ht).2.2.2 _ (by omega) hu
      omega
  have hl := List.getElem?_eq_getElem (show L.length - 1 < L.length by omega)
  have h1 := key _ _ hl
  have h2 := (hp _ _ hl).2.1
  omega

theorem scanSlashes_any (s : ByteArray) (w : World) (hsm : s.size ≤ maxLen) :
    Calls Tryd.prog 8 #[.string s] w fun e w' => e = .returned (.bool true) ∧ Below w.heap.size w w' := by
  by_cases hbig : 300 < s.size
  · exact scanSlashes_big s w hsm hbig
  · by_cases h : ∃ L, tokens s.data.toList = .ok L ∧ 2 ≤ L.length
    · obtain ⟨L, htk, h2⟩ := h
      have hlast := List.getElem?_eq_getElem (show L.length - 2 < L.length by omega)
      have hsz := places_size (places_ok htk)
      rw [size_toList] at hsz
      generalize L[L.length - 2] = t at hlast
      obtain ⟨kind, at_, text, n⟩ := t
      by_cases hr : ∃ (i : Nat) (c : UInt8), at_ ≤ (i : Int) ∧ s.data.toList[i]? = some c ∧ c.toNat = 35
      · obtain ⟨i, c, h1, h3, h4⟩ := hr
        have hi : i < s.size := (List.getElem?_eq_some_iff.1 h3).1
        have hc : s[i] = c := (List.getElem?_eq_some_iff.1 h3).2
        exact scanSlashes_remark s w hbig L kind at_ n text htk h2 hlast hsz i hi (by rw [hc]; exact h4) h1
      · exact scanSlashes_plain s w hbig L kind at_ n text htk h2 hlast hsz (fun i c h1 h3 h4 => hr ⟨i, c, h1, h3, h4⟩)
    · exact scanSlashes_few s w hbig h

end Go.Proofs.YtdochnioodedmaaDoor
