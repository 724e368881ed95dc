/- Contract of class.Read. -/
import Derived.Test.YtdochnioodedmaaDoorC4
import Derived.Test.YtdochnioodedmaaDoorM4
namespace Go.Proofs.YtdochnioodedmaaDoor
open Go Go.RowKit

abbrev zeroCls : Cls := ⟨0, 0, 0, 0⟩
/-- the four blocks of class.Read: the text, the result, the set, the place -/
structure RW (w : World) (s : ByteArray) (k : Cls) (at_ : Int) (W : World) : Prop where
  bel : Below w.heap.size w W
  b0 : W.heap[w.heap.size]? = some (.cells #[.string s] 9 (0, 0))
  b1 : W.heap[w.heap.size + 1]? = some (.cells (clsCells zeroCls) 83 (0, 0))
  b2 : W.heap[w.heap.size + 1 + 1]? = some (.cells (clsCells k) 83 (0, 0))
  b3 : W.heap[w.heap.size + 1 + 1 + 1]? = some (.cells #[.int .i64 at_] 3 (0, 0))
  size : w.heap.size + 4 ≤ W.heap.size
theorem RW.below {w W W2 : World} {s : ByteArray} {k : Cls} {a : Int} (h : RW w s k a W) (hb : Below W.heap.size W W2) : RW w s k a W2 :=
  have hs := h.size
  ⟨h.bel.trans (hb.mono (by omega)), (hb.block _ (by omega)).trans h.b0, (hb.block _ (by omega)).trans h.b1, (hb.block _ (by omega)).trans h.b2, (hb.block _ (by omega)).trans h.b3, by have := hb.size; omega⟩
theorem RW.drewN {w W : World} {s : ByteArray} {k : Cls} {a : Int} (h : RW w s k a W) (n : Nat) : RW w s k a (W.drewN n) := ⟨below_drewN h.bel n, h.b0, h.b1, h.b2, h.b3, h.size⟩
theorem heap_set_ne {W : World} {b j : Nat} {v : Value} {k : Nat} (h : k ≠ b) : (W.setCell ⟨b, j, none⟩ v).heap[k]? = W.heap[k]? := Below.heap_setCell W ⟨b, j, none⟩ v k h
theorem RW.place {w W : World} {s : ByteArray} {k : Cls} {a : Int} (h : RW w s k a W) (a2 : Int) : RW w s k a2 (W.setCell ⟨w.heap.size + 1 + 1 + 1, 0, none⟩ (.int .i64 a2)) :=
  ⟨h.bel.setCell (by simp; omega) _, (heap_set_ne (by omega)).trans h.b0, (heap_set_ne (by omega)).trans h.b1, (heap_set_ne (by omega)).trans h.b2, heap_setCell_same _ _ _ _ _ _ h.b3, by simpa using h.size⟩
theorem RW.set {w W : World} {s : ByteArray} {k : Cls} {a : Int} (h : RW w s k a W) (m : Cls) : RW w s m a ((((W.setCell ⟨w.heap.size + 1 + 1, 0, none⟩ (.int .u64 m.w0)).setCell ⟨w.heap.size + 1 + 1, 1, none⟩ (.int .u64 m.w1)).setCell ⟨w.heap.size + 1 + 1, 2, none⟩ (.int .u64 m.w2)).setCell ⟨w.heap.size + 1 + 1, 3, none⟩ (.int .u64 m.w3)) :=
  ⟨below_set4 _ _ _ _ h.bel (by omega), (heap_set_ne (by omega)).trans ((heap_set_ne (by omega)).trans ((heap_set_ne (by omega)).trans ((heap_set_ne (by omega)).trans h.b0))), (heap_set_ne (by omega)).trans ((heap_set_ne (by omega)).trans ((heap_set_ne (by omega)).trans ((heap_set_ne (by omega)).trans h.b1))), set4 _ _ _ _ h.b2, (heap_set_ne (by omega)).trans ((heap_set_ne (by omega)).trans ((heap_set_ne (by omega)).trans ((heap_set_ne (by omega)).trans h.b3))), by simpa using h.size⟩

theorem extract_drop (s : ByteArray) (k : Nat) : (s.extract k s.size).data.toList = s.data.toList.drop k := by
  rw [ByteArray.data_extract, Array.toList_extract, List.extract]
  rw [List.take_of_length_le]
  simp
theorem sign_sub (s : ByteArray) (k : Nat) (w : World) (hs : s.size ≤ 140737488351232) :
    Calls Tryd.prog 69 #[.string (s.extract k s.size)] w fun e w' => e = .returned (signVal (signOf (s.data.toList.drop k))) ∧ Below w.heap.size w w' := by
  have h := sign_any (s.extract k s.size) w (by rw [ByteArray.size_extract]; omega)
  rwa [extract_drop] at h

def classRes (k : Cls) : Option Nat → Value
  | none => .tuple #[clsVal k, .int .i64 0, .int .i64 2]
  | some n => .tuple #[clsVal k, .int .i64 n, .int .i64 0]

theorem RW.start (w : World) (s : ByteArray) : RW w s zeroCls 0 ((((w.alloc (.cells #[.string s] 9)).alloc (.cells (clsCells zeroCls) 83)).alloc (.cells (clsCells zeroCls) 83)).alloc (.cells #[.int .i64 0] 3)) where
  bel := ((((Below.refl w.heap.size w).alloc (Nat.le_refl _) _).alloc (by simp) _).alloc (by simp; omega) _).alloc (by simp; omega) _
  b0 := (Below.heap_alloc _ _ _ (by simp; omega)).trans ((Below.heap_alloc _ _ _ (by simp; omega)).trans ((Below.heap_alloc _ _ _ (by simp)).trans (heap_new w _)))
  b1 := (Below.heap_alloc _ _ _ (by simp)).trans ((Below.heap_alloc _ _ _ (by simp)).trans (heap_new_at _ _ (by simp)))
  b2 := (Below.heap_alloc _ _ _ (by simp)).trans (heap_new_at _ _ (by simp))
  b3 := heap_new_at _ _ (by simp)
  size := by simp
theorem RW.c0 {w W : World} {s : ByteArray} {k : Cls} {a : Int} (h : RW w s k a W) : W.cell? ⟨w.heap.size, 0, none⟩ = some (.string s) := blk_cell h.b0 0
theorem RW.c3 {w W : World} {s : ByteArray} {k : Cls} {a : Int} (h : RW w s k a W) : W.cell? ⟨w.heap.size + 1 + 1 + 1, 0, none⟩ = some (.int .i64 a) := blk_cell h.b3 0
theorem RW.f3 {w W : World} {s : ByteArray} {k : Cls} {a : Int} (h : RW w s k a W) : W.frozen? ⟨w.heap.size + 1 + 1 + 1, 0, none⟩ = false := blk_frozen h.b3 0
theorem RW.to {w W : World} {s : ByteArray} {k : Cls} {a b : Int} (h : RW w s k a W) (e : a = b) : RW w s k b W := e ▸ h

theorem takes_rw (s : ByteArray) (k : Nat) (c : UInt8) (w W : World) (m : Cls) (a : Int) (H : RW w s m a W) (ha : a = k) (hs : s.size ≤ maxLen) :
    Calls Tryd.prog 72 #[.int .u8 c.toNat, .pointer (some ⟨w.heap.size + 1 + 1 + 1, 0, none⟩), .pointer (some ⟨w.heap.size, 0, none⟩)] W fun e w' =>
      e = .returned (.bool (decide ((s.data.toList.drop k).head? = some c))) ∧ RW w s m ((if (s.data.toList.drop k).head? = some c then k + 1 else k : Nat) : Int) w' := by
  subst ha
  by_cases h : (s.data.toList.drop k).head? = some c
  · have hk : k < s.size := by
      rcases Nat.lt_or_ge k s.size with h1 | h1
      · exact h1
      · rw [drop_end s k h1] at h; cases h
    have hc : s[k] = c := by rw [drop_cons s k hk] at h; simpa using h
    rw [if_pos h, decide_eq_true h]
    exact (takes_yes s k c _ _ W hk hc H.c3 H.f3 H.c0 hs).mono fun e w' ⟨he, hw⟩ => ⟨he, by rw [hw]; exact H.place _⟩
  · rw [if_neg h, decide_eq_false h]
    exact (takes_no s k c _ _ W (by rw [← List.head?_drop]; exact h) H.c3 H.c0).mono fun e w' ⟨he, hw⟩ => ⟨he, hw ▸ H⟩

set_option maxRecDepth 100000 in
set_option maxHeartbeats 4000000 in
theorem classRead_any (s : ByteArray) (w : World) (hs : s.size ≤ 140737488351232) (h0 : 0 < s.size) (h91 : s[0] = 91) :
    Calls Tryd.prog 68 #[.string s] w fun e w' => (∃ k, e = .returned (classRes k (classLen s.data.toList))) ∧ Below w.heap.size w w' := by
  have hsm : s.size ≤ maxLen := by unfold maxLen; omega
  have hmf : ∀ (fn : Fn) (first cap : Array Value) (w : World), (Instr.makeFunc fn first cap).run Tryd.prog w = .ok (.func fn first cap) w := fun _ _ _ _ => rfl
  have h91' : (s.data.toList.drop 0).head? = some 91 := by rw [drop_cons s 0 h0]; simp [h91]
  obtain ⟨nb, hnb⟩ : ∃ nb, decide ((s.data.toList.drop 1).head? = some 94) = nb := ⟨_, rfl⟩
  obtain ⟨st, hst⟩ : ∃ st : Nat, (if (s.data.toList.drop 1).head? = some 94 then 2 else 1 : Nat) = st := ⟨_, rfl⟩
  have hst1 : 1 ≤ st ∧ st ≤ 2 := by subst hst; split <;> omega
  have HL : Hid (classLen s.data.toList = (setGo (s.size + 1) false (s.data.toList.drop st)).map (st + ·)) := by
    show classLen s.data.toList = _
    unfold classLen
    rw [if_neg (by rw [List.drop_zero] at h91'; simp [h91']), hst, size_toList]
  have hsts : st ≤ s.size := by
    subst hst
    split
    · rename_i h
      rcases Nat.lt_or_ge 1 s.size with h1 | h1
      · exact h1
      · rw [drop_end s 1 h1] at h; cases h
    · exact h0
  have HNB := hid hnb
  have HST := hid hst
  have H91 := hid h91'
  clear hnb hst h91 h91'
  have hst0 : Calls Tryd.prog 72 #[.int .u8 91, .pointer (some ⟨w.heap.size + 1 + 1 + 1, 0, none⟩), .pointer (some ⟨w.heap.size, 0, none⟩)] ((((w.alloc (.cells #[.string s] 9)).alloc (.cells #[.int .u64 0, .int .u64 0, .int .u64 0, .int .u64 0] 83)).alloc (.cells #[.int .u64 0, .int .u64 0, .int .u64 0, .int .u64 0] 83)).alloc (.cells #[.int .i64 0] 3)) fun e w' =>
      e = .returned (.bool true) ∧ RW w s zeroCls ((1 : Nat) : Int) w' := by
    have h := takes_rw s 0 91 w _ zeroCls 0 (RW.start w s) rfl hsm
    rw [decide_eq_true H91.out, if_pos H91.out] at h
    exact h
  go_enter Tryd.func68, Tryd.ntmps68
  go_wp2_with (first
      | (go_at_call 72;
                                        have hx := hst0;
                                        clear hst0;
                                        refine hx.mono ?_;
                                        clear hx;
                                        rintro e w2 ⟨rfl, H2⟩)
      | (go_at_call 72;
                                        have hx := takes_rw s 1 94 w w2 zeroCls _ H2 rfl hsm;
                                        clear H2;
                                        refine hx.mono ?_;
                                        clear hx;
                                        rintro e w3 ⟨rfl, H3⟩;
                                        rw [HNB.out];
                                        replace H3 := H3.to (congrArg Nat.cast HST.out)))
  go_loopw [9] (fun mv wr => ∃ (m k f : Nat) (cl : Cls), mv = .int .i64 m ∧ m ≤ k ∧ k ≤ s.size ∧ s.size - k < f ∧ RW w s cl k wr ∧ Hid (classLen s.data.toList = (setGo f (decide (0 < m)) (s.data.toList.drop k)).map (k + ·))) (fun mv _ => s.size + 1 - (intOf mv).toNat)
  case atStart => exact ⟨0, st, s.size + 1, zeroCls, rfl, by omega, by omega, by omega, H3, HL⟩
  case round =>
    obtain ⟨m, k, f, cl, rfl, hmk, hks, hf, H, HE⟩ := hrel
    obtain ⟨g, rfl⟩ : ∃ g, f = g + 1 := ⟨f - 1, by omega⟩
    by_cases hend : 0 < m ∧ (s.data.toList.drop k).head? = some 93
    · have T93 := takes_rw s k 93 w wr cl k H rfl hsm
      rw [decide_eq_true hend.2, if_pos hend.2] at T93
      have HR := hid (class_end HE.out hend.1 hend.2)
      have hm := hend.1
      clear hend
      cases nb with
      | false =>
        go_wp2_with (first
            | (go_at_call 72;
                                        have hx := T93;
                                        clear T93;
                                        refine hx.mono ?_;
                                        clear hx;
                                        rintro e w2 ⟨rfl, H2⟩;
                                        have c3 := H2.c3;
                                        have f3 := H2.f3;
                                        obtain ⟨k0, k1, k2, k3, _⟩ := blk_facts4 H2.b2;
                                        obtain ⟨r0, r1, r2, r3, p0, p1, p2, p3⟩ := blk_facts4 H2.b1))
        go_region
        all_goals
          go_wp2_with fail
          generalize hW : World.setCell _ _ _ = wf
          have hf : wf.heap[w.heap.size + 1]? = some (.cells (clsCells cl) 83 (0, 0)) := by rw [← hW]; exact set4 _ _ _ _ (H2.b1)
          have hbf : Below w.heap.size w wf := by rw [← hW]; first | exact below_set4 _ _ _ _ (H2.bel).drew (by omega) | exact below_set4 _ _ _ _ (H2.bel) (by omega)
          obtain ⟨q0, q1, q2, q3, _⟩ := blk_facts4 hf
          refine bodyPost_ret (v := classRes cl (some (k + 1))) (by simp [results, Tryd.results68, go_sem, q0, q1, q2, q3, classRes, clsVal, clsCells]) rfl ⟨⟨cl, by rw [HR.out]⟩, hbf.drew⟩
      | true =>
        go_wp2_with (first
            | (go_at_call 72;
                                        have hx := T93;
                                        clear T93;
                                        refine hx.mono ?_;
                                        clear hx;
                                        rintro e w2 ⟨rfl, H2⟩;
                                        have c3 := H2.c3;
                                        have f3 := H2.f3;
                                        obtain ⟨k0, k1, k2, k3, _⟩ := blk_facts4 H2.b2;
                                        obtain ⟨r0, r1, r2, r3, p0, p1, p2, p3⟩ := blk_facts4 H2.b1))
        go_region_with (first
          | (go_at_call 70;
                                        refine (one_any 10 _).mono ?_;
                                        rintro e w7 ⟨⟨sp, rfl⟩, hb7⟩;
                                        have H7 := (H2.drewN _).below hb7;
                                        clear hb7;
                                        obtain ⟨k0, k1, k2, k3, _⟩ := blk_facts4 H7.b2)
          | (go_at_call 73;
                                        refine (or_any cl sp _).mono ?_;
                                        rintro e w8 ⟨⟨mo, rfl⟩, hb8⟩;
                                        have H8 := H7.below hb8;
                                        clear hb8)
          | (go_at_call 71;
                                        refine (not_any mo _).mono ?_;
                                        rintro e w9 ⟨⟨mm, rfl⟩, hb9⟩;
                                        have H9 := H8.below hb9;
                                        clear hb9 k0 k1 k2 k3;
                                        obtain ⟨k0, k1, k2, k3, g0, g1, g2, g3⟩ := blk_facts4 H9.b2;
                                        unfold clsVal clsCells))
        all_goals
          have H10 := H9.set mm
          generalize World.setCell _ _ _ = w10 at H10 ⊢
          have c3 := H10.c3
          have f3 := H10.f3
          obtain ⟨k0, k1, k2, k3, _⟩ := blk_facts4 H10.b2
          obtain ⟨r0, r1, r2, r3, p0, p1, p2, p3⟩ := blk_facts4 H10.b1
          go_wp2_with fail
          go_region
          all_goals
            go_wp2_with fail
            generalize hW : World.setCell _ _ _ = wf
            have hf : wf.heap[w.heap.size + 1]? = some (.cells (clsCells mm) 83 (0, 0)) := by rw [← hW]; exact set4 _ _ _ _ (H10.b1)
            have hbf : Below w.heap.size w wf := by rw [← hW]; first | exact below_set4 _ _ _ _ (H10.bel).drew (by omega) | exact below_set4 _ _ _ _ (H10.bel) (by omega)
            obtain ⟨q0, q1, q2, q3, _⟩ := blk_facts4 hf
            refine bodyPost_ret (v := classRes mm (some (k + 1))) (by simp [results, Tryd.results68, go_sem, q0, q1, q2, q3, classRes, clsVal, clsCells]) rfl ⟨⟨mm, by rw [HR.out]⟩, hbf.drew⟩
    · have HEND := hid hend
      rcases Nat.eq_zero_or_pos m with hm | hm
      · clear hend
        have H2 := H
        have c0 := H2.c0
        have c3 := H2.c3
        have S1 := fun W => sign_sub s k W hs
        cases hs1 : signOf (s.data.toList.drop k) with
        | none =>
          have HS1 := hid hs1
          clear hs1
          go_wp2_with (first
              | (go_at_call 72;
                                                have hx := T93;
                                                clear T93;
                                                refine hx.mono ?_;
                                                clear hx;
                                                rintro e w2 ⟨rfl, H2⟩;
                                                have c0 := H2.c0;
                                                have c3 := H2.c3)
              | (go_at_call 69;
                                                refine (S1 _).mono ?_;
                                                clear S1;
                                                rintro e w4 ⟨rfl, hb4⟩;
                                                rw [HS1.out];
                                                unfold signVal;
                                                have H4 := H2.below hb4;
                                                clear H2 hb4 c0 c3;
                                                obtain ⟨r0, r1, r2, r3, p0, p1, p2, p3⟩ := blk_facts4 H4.b1))
          have HR := class_none HE.out HEND.out (rangeLen_none HS1.out)
          have hf := set4 (.int .u64 0) (.int .u64 0) (.int .u64 0) (.int .u64 0) H4.b1
          have hbf := below_set4 (b := w.heap.size + 1) (.int .u64 0) (.int .u64 0) (.int .u64 0) (.int .u64 0) H4.bel (by omega)
          generalize World.setCell _ _ _ = wf at hf hbf ⊢
          obtain ⟨q0, q1, q2, q3, _⟩ := blk_facts4 hf
          refine bodyPost_ret (v := classRes zeroCls none) (by simp [results, Tryd.results68, go_sem, q0, q1, q2, q3, classRes, clsVal, clsCells]) rfl ⟨⟨zeroCls, by rw [HR]⟩, hbf⟩
        | some an =>
          obtain ⟨a, n⟩ := an
          have hn := signOf_len hs1
          rw [List.length_drop, size_toList] at hn
          have HS1 := hid hs1
          clear hs1
          by_cases h45 : (s.data.toList.drop (k + n)).head? = some 45
          · have hkn : k + n < s.size := by
              rcases Nat.lt_or_ge (k + n) s.size with h1 | h1
              · exact h1
              · rw [drop_end s _ h1] at h45; cases h45
            have H45 := hid h45
            clear h45
            have S2 := fun W => sign_sub s (k + n + 1) W hs
            cases hs2 : signOf (s.data.toList.drop (k + n + 1)) with
            | none =>
              have HS2 := hid hs2
              clear hs2
              go_wp2_with (first
                  | (go_at_call 72;
                                                have hx := T93;
                                                clear T93;
                                                refine hx.mono ?_;
                                                clear hx;
                                                rintro e w2 ⟨rfl, H2⟩;
                                                have c0 := H2.c0;
                                                have c3 := H2.c3)
                  | (go_at_call 69;
                                                refine (S1 _).mono ?_;
                                                clear S1;
                                                rintro e w4 ⟨rfl, hb4⟩;
                                                rw [HS1.out];
                                                unfold signVal;
                                                have H4 := H2.below hb4;
                                                clear H2 hb4 c0 c3;
                                                have c3 := H4.c3;
                                                have f3 := H4.f3)
                  | (go_at_call 72;
                                                have hx := takes_rw s (k + n) 45 w (w4.setCell ⟨w.heap.size + 1 + 1 + 1, 0, none⟩ (.int .i64 ((k : Int) + n))) cl ((k : Int) + n) (H4.place _) (by omega) hsm;
                                                clear H4 c3 f3;
                                                rw [decide_eq_true H45.out, if_pos H45.out] at hx;
                                                refine hx.mono ?_;
                                                clear hx;
                                                rintro e w5 ⟨rfl, H5⟩;
                                                have c0 := H5.c0;
                                                have c3 := H5.c3)
                  | (go_at_call 69;
                                                refine (S2 _).mono ?_;
                                                clear S2;
                                                rintro e w6 ⟨rfl, hb6⟩;
                                                rw [HS2.out];
                                                unfold signVal;
                                                have H6 := H5.below hb6;
                                                clear H5 hb6 c0 c3;
                                                obtain ⟨r0, r1, r2, r3, p0, p1, p2, p3⟩ := blk_facts4 H6.b1))
              have HR := class_none HE.out HEND.out (rangeLen_bad HS1.out (by rw [List.drop_drop]; exact H45.out) (by rw [List.drop_drop, ← Nat.add_assoc]; exact HS2.out))
              have hf := set4 (.int .u64 0) (.int .u64 0) (.int .u64 0) (.int .u64 0) H6.b1
              have hbf := below_set4 (b := w.heap.size + 1) (.int .u64 0) (.int .u64 0) (.int .u64 0) (.int .u64 0) H6.bel (by omega)
              generalize World.setCell _ _ _ = wf at hf hbf ⊢
              obtain ⟨q0, q1, q2, q3, _⟩ := blk_facts4 hf
              refine bodyPost_ret (v := classRes zeroCls none) (by simp [results, Tryd.results68, go_sem, q0, q1, q2, q3, classRes, clsVal, clsCells]) rfl ⟨⟨zeroCls, by rw [HR]⟩, hbf⟩
            | some bm =>
              obtain ⟨b, m2⟩ := bm
              have hn2 := signOf_len hs2
              rw [List.length_drop, size_toList] at hn2
              have HS2 := hid hs2
              clear hs2
              by_cases hba : b.toNat < a.toNat
              · have hba2 : (b.toNat : Int) < (a.toNat : Int) := by omega
                go_wp2_with (first
                    | (go_at_call 72;
                                                have hx := T93;
                                                clear T93;
                                                refine hx.mono ?_;
                                                clear hx;
                                                rintro e w2 ⟨rfl, H2⟩;
                                                have c0 := H2.c0;
                                                have c3 := H2.c3)
                    | (go_at_call 69;
                                                refine (S1 _).mono ?_;
                                                clear S1;
                                                rintro e w4 ⟨rfl, hb4⟩;
                                                rw [HS1.out];
                                                unfold signVal;
                                                have H4 := H2.below hb4;
                                                clear H2 hb4 c0 c3;
                                                have c3 := H4.c3;
                                                have f3 := H4.f3)
                    | (go_at_call 72;
                                                have hx := takes_rw s (k + n) 45 w (w4.setCell ⟨w.heap.size + 1 + 1 + 1, 0, none⟩ (.int .i64 ((k : Int) + n))) cl ((k : Int) + n) (H4.place _) (by omega) hsm;
                                                clear H4 c3 f3;
                                                rw [decide_eq_true H45.out, if_pos H45.out] at hx;
                                                refine hx.mono ?_;
                                                clear hx;
                                                rintro e w5 ⟨rfl, H5⟩;
                                                have c0 := H5.c0;
                                                have c3 := H5.c3)
                    | (go_at_call 69;
                                                refine (S2 _).mono ?_;
                                                clear S2;
                                                rintro e w6 ⟨rfl, hb6⟩;
                                                rw [HS2.out];
                                                unfold signVal;
                                                have H6 := H5.below hb6;
                                                clear H5 hb6 c0 c3;
                                                have c3 := H6.c3;
                                                have f3 := H6.f3;
                                                obtain ⟨r0, r1, r2, r3, p0, p1, p2, p3⟩ := blk_facts4 H6.b1))
                have HR := class_none HE.out HEND.out (rangeLen_turned HS1.out (by rw [List.drop_drop]; exact H45.out) (by rw [List.drop_drop, ← Nat.add_assoc]; exact HS2.out) hba)
                have hf := set4 (.int .u64 0) (.int .u64 0) (.int .u64 0) (.int .u64 0) H6.b1
                have hbf := below_set4 (b := w.heap.size + 1) (.int .u64 0) (.int .u64 0) (.int .u64 0) (.int .u64 0) H6.bel (by omega)
                generalize World.setCell _ _ _ = wf at hf hbf ⊢
                obtain ⟨q0, q1, q2, q3, _⟩ := blk_facts4 hf
                refine bodyPost_ret (v := classRes zeroCls none) (by simp [results, Tryd.results68, go_sem, q0, q1, q2, q3, classRes, clsVal, clsCells]) rfl ⟨⟨zeroCls, by rw [HR]⟩, hbf⟩
              · have hba2 : ¬ (b.toNat : Int) < (a.toNat : Int) := by omega
                go_wp2_with (first
                    | (go_at_call 72;
                                                have hx := T93;
                                                clear T93;
                                                refine hx.mono ?_;
                                                clear hx;
                                                rintro e w2 ⟨rfl, H2⟩;
                                                have c0 := H2.c0;
                                                have c3 := H2.c3)
                    | (go_at_call 69;
                                                refine (S1 _).mono ?_;
                                                clear S1;
                                                rintro e w4 ⟨rfl, hb4⟩;
                                                rw [HS1.out];
                                                unfold signVal;
                                                have H4 := H2.below hb4;
                                                clear H2 hb4 c0 c3;
                                                have c3 := H4.c3;
                                                have f3 := H4.f3)
                    | (go_at_call 72;
                                                have hx := takes_rw s (k + n) 45 w (w4.setCell ⟨w.heap.size + 1 + 1 + 1, 0, none⟩ (.int .i64 ((k : Int) + n))) cl ((k : Int) + n) (H4.place _) (by omega) hsm;
                                                clear H4 c3 f3;
                                                rw [decide_eq_true H45.out, if_pos H45.out] at hx;
                                                refine hx.mono ?_;
                                                clear hx;
                                                rintro e w5 ⟨rfl, H5⟩;
                                                have c0 := H5.c0;
                                                have c3 := H5.c3)
                    | (go_at_call 69;
                                                refine (S2 _).mono ?_;
                                                clear S2;
                                                rintro e w6 ⟨rfl, hb6⟩;
                                                rw [HS2.out];
                                                unfold signVal;
                                                have H6 := H5.below hb6;
                                                clear H5 hb6 c0 c3;
                                                have c3 := H6.c3;
                                                have f3 := H6.f3;
                                                obtain ⟨k0, k1, k2, k3, _⟩ := blk_facts4 H6.b2))
                have H7 := H6.place ((k : Int) + n + 1 + m2)
                go_region_with (first
                    | (go_at_call 74;
                                                        refine (span0_any a b _).mono ?_;
                                                        rintro e w8 ⟨⟨sp, rfl⟩, hb8⟩;
                                                        have H8 := (H7.drewN _).below hb8;
                                                        clear hb8;
                                                        obtain ⟨k0, k1, k2, k3, _⟩ := blk_facts4 H8.b2)
                    | (go_at_call 73;
                                                        refine (or_any cl sp _).mono ?_;
                                                        rintro e w9 ⟨⟨mm, rfl⟩, hb9⟩;
                                                        have H9 := H8.below hb9;
                                                        clear hb9 k0 k1 k2 k3;
                                                        obtain ⟨k0, k1, k2, k3, g0, g1, g2, g3⟩ := blk_facts4 H9.b2;
                                                        unfold clsVal clsCells))
                all_goals
                  have HE2 := class_step HE.out HEND.out (rangeLen_two HS1.out (by rw [List.drop_drop]; exact H45.out) (by rw [List.drop_drop, ← Nat.add_assoc]; exact HS2.out) hba)
                  have H10 := H9.set mm
                  generalize World.setCell _ _ _ = w10 at H10 ⊢
                  go_wp2_with fail
                  exact ⟨⟨m + 1, k + (n + 1 + m2), g, mm, by go_num, by omega, by omega, by omega, H10.to (by omega), hid HE2⟩, by simp [intOf]; omega⟩
          · have H45 := hid h45
            clear h45
            go_wp2_with (first
                | (go_at_call 72;
                                                have hx := T93;
                                                clear T93;
                                                refine hx.mono ?_;
                                                clear hx;
                                                rintro e w2 ⟨rfl, H2⟩;
                                                have c0 := H2.c0;
                                                have c3 := H2.c3)
                | (go_at_call 69;
                                                refine (S1 _).mono ?_;
                                                clear S1;
                                                rintro e w4 ⟨rfl, hb4⟩;
                                                rw [HS1.out];
                                                unfold signVal;
                                                have H4 := H2.below hb4;
                                                clear H2 hb4 c0 c3;
                                                have c3 := H4.c3;
                                                have f3 := H4.f3)
                | (go_at_call 72;
                                                have hx := takes_rw s (k + n) 45 w (w4.setCell ⟨w.heap.size + 1 + 1 + 1, 0, none⟩ (.int .i64 ((k : Int) + n))) cl ((k : Int) + n) (H4.place _) (by omega) hsm;
                                                clear H4 c3 f3;
                                                rw [decide_eq_false H45.out, if_neg H45.out] at hx;
                                                refine hx.mono ?_;
                                                clear hx;
                                                rintro e w5 ⟨rfl, H5⟩;
                                                have c0 := H5.c0;
                                                have c3 := H5.c3;
                                                obtain ⟨k0, k1, k2, k3, _⟩ := blk_facts4 H5.b2))
            go_region_with (first
                | (go_at_call 74;
                                                    refine (span0_any a a _).mono ?_;
                                                    rintro e w8 ⟨⟨sp, rfl⟩, hb8⟩;
                                                    have H8 := (H5.drewN _).below hb8;
                                                    clear hb8;
                                                    obtain ⟨k0, k1, k2, k3, _⟩ := blk_facts4 H8.b2)
                | (go_at_call 73;
                                                    refine (or_any cl sp _).mono ?_;
                                                    rintro e w9 ⟨⟨mm, rfl⟩, hb9⟩;
                                                    have H9 := H8.below hb9;
                                                    clear hb9 k0 k1 k2 k3;
                                                    obtain ⟨k0, k1, k2, k3, g0, g1, g2, g3⟩ := blk_facts4 H9.b2;
                                                    unfold clsVal clsCells))
            all_goals
              have HE2 := class_step HE.out HEND.out (rangeLen_one HS1.out (by rw [List.drop_drop]; exact H45.out))
              have H10 := H9.set mm
              generalize World.setCell _ _ _ = w10 at H10 ⊢
              go_wp2_with fail
              exact ⟨⟨m + 1, k + (n), g, mm, by go_num, by omega, by omega, by omega, H10.to (by omega), hid HE2⟩, by simp [intOf]; omega⟩
      · have hne : ¬ (s.data.toList.drop k).head? = some 93 := fun e => hend ⟨hm, e⟩
        have T93 := takes_rw s k 93 w wr cl k H rfl hsm
        rw [decide_eq_false hne, if_neg hne] at T93
        clear hend hne
        have S1 := fun W => sign_sub s k W hs
        cases hs1 : signOf (s.data.toList.drop k) with
        | none =>
          have HS1 := hid hs1
          clear hs1
          go_wp2_with (first
              | (go_at_call 72;
                                                have hx := T93;
                                                clear T93;
                                                refine hx.mono ?_;
                                                clear hx;
                                                rintro e w2 ⟨rfl, H2⟩;
                                                have c0 := H2.c0;
                                                have c3 := H2.c3)
              | (go_at_call 69;
                                                refine (S1 _).mono ?_;
                                                clear S1;
                                                rintro e w4 ⟨rfl, hb4⟩;
                                                rw [HS1.out];
                                                unfold signVal;
                                                have H4 := H2.below hb4;
                                                clear H2 hb4 c0 c3;
                                                obtain ⟨r0, r1, r2, r3, p0, p1, p2, p3⟩ := blk_facts4 H4.b1))
          have HR := class_none HE.out HEND.out (rangeLen_none HS1.out)
          have hf := set4 (.int .u64 0) (.int .u64 0) (.int .u64 0) (.int .u64 0) H4.b1
          have hbf := below_set4 (b := w.heap.size + 1) (.int .u64 0) (.int .u64 0) (.int .u64 0) (.int .u64 0) H4.bel (by omega)
          generalize World.setCell _ _ _ = wf at hf hbf ⊢
          obtain ⟨q0, q1, q2, q3, _⟩ := blk_facts4 hf
          refine bodyPost_ret (v := classRes zeroCls none) (by simp [results, Tryd.results68, go_sem, q0, q1, q2, q3, classRes, clsVal, clsCells]) rfl ⟨⟨zeroCls, by rw [HR]⟩, hbf⟩
        | some an =>
          obtain ⟨a, n⟩ := an
          have hn := signOf_len hs1
          rw [List.length_drop, size_toList] at hn
          have HS1 := hid hs1
          clear hs1
          by_cases h45 : (s.data.toList.drop (k + n)).head? = some 45
          · have hkn : k + n < s.size := by
              rcases Nat.lt_or_ge (k + n) s.size with h1 | h1
              · exact h1
              · rw [drop_end s _ h1] at h45; cases h45
            have H45 := hid h45
            clear h45
            have S2 := fun W => sign_sub s (k + n + 1) W hs
            cases hs2 : signOf (s.data.toList.drop (k + n + 1)) with
            | none =>
              have HS2 := hid hs2
              clear hs2
              go_wp2_with (first
                  | (go_at_call 72;
                                                have hx := T93;
                                                clear T93;
                                                refine hx.mono ?_;
                                                clear hx;
                                                rintro e w2 ⟨rfl, H2⟩;
                                                have c0 := H2.c0;
                                                have c3 := H2.c3)
                  | (go_at_call 69;
                                                refine (S1 _).mono ?_;
                                                clear S1;
                                                rintro e w4 ⟨rfl, hb4⟩;
                                                rw [HS1.out];
                                                unfold signVal;
                                                have H4 := H2.below hb4;
                                                clear H2 hb4 c0 c3;
                                                have c3 := H4.c3;
                                                have f3 := H4.f3)
                  | (go_at_call 72;
                                                have hx := takes_rw s (k + n) 45 w (w4.setCell ⟨w.heap.size + 1 + 1 + 1, 0, none⟩ (.int .i64 ((k : Int) + n))) cl ((k : Int) + n) (H4.place _) (by omega) hsm;
                                                clear H4 c3 f3;
                                                rw [decide_eq_true H45.out, if_pos H45.out] at hx;
                                                refine hx.mono ?_;
                                                clear hx;
                                                rintro e w5 ⟨rfl, H5⟩;
                                                have c0 := H5.c0;
                                                have c3 := H5.c3)
                  | (go_at_call 69;
                                                refine (S2 _).mono ?_;
                                                clear S2;
                                                rintro e w6 ⟨rfl, hb6⟩;
                                                rw [HS2.out];
                                                unfold signVal;
                                                have H6 := H5.below hb6;
                                                clear H5 hb6 c0 c3;
                                                obtain ⟨r0, r1, r2, r3, p0, p1, p2, p3⟩ := blk_facts4 H6.b1))
              have HR := class_none HE.out HEND.out (rangeLen_bad HS1.out (by rw [List.drop_drop]; exact H45.out) (by rw [List.drop_drop, ← Nat.add_assoc]; exact HS2.out))
              have hf := set4 (.int .u64 0) (.int .u64 0) (.int .u64 0) (.int .u64 0) H6.b1
              have hbf := below_set4 (b := w.heap.size + 1) (.int .u64 0) (.int .u64 0) (.int .u64 0) (.int .u64 0) H6.bel (by omega)
              generalize World.setCell _ _ _ = wf at hf hbf ⊢
              obtain ⟨q0, q1, q2, q3, _⟩ := blk_facts4 hf
              refine bodyPost_ret (v := classRes zeroCls none) (by simp [results, Tryd.results68, go_sem, q0, q1, q2, q3, classRes, clsVal, clsCells]) rfl ⟨⟨zeroCls, by rw [HR]⟩, hbf⟩
            | some bm =>
              obtain ⟨b, m2⟩ := bm
              have hn2 := signOf_len hs2
              rw [List.length_drop, size_toList] at hn2
              have HS2 := hid hs2
              clear hs2
              by_cases hba : b.toNat < a.toNat
              · have hba2 : (b.toNat : Int) < (a.toNat : Int) := by omega
                go_wp2_with (first
                    | (go_at_call 72;
                                                have hx := T93;
                                                clear T93;
                                                refine hx.mono ?_;
                                                clear hx;
                                                rintro e w2 ⟨rfl, H2⟩;
                                                have c0 := H2.c0;
                                                have c3 := H2.c3)
                    | (go_at_call 69;
                                                refine (S1 _).mono ?_;
                                                clear S1;
                                                rintro e w4 ⟨rfl, hb4⟩;
                                                rw [HS1.out];
                                                unfold signVal;
                                                have H4 := H2.below hb4;
                                                clear H2 hb4 c0 c3;
                                                have c3 := H4.c3;
                                                have f3 := H4.f3)
                    | (go_at_call 72;
                                                have hx := takes_rw s (k + n) 45 w (w4.setCell ⟨w.heap.size + 1 + 1 + 1, 0, none⟩ (.int .i64 ((k : Int) + n))) cl ((k : Int) + n) (H4.place _) (by omega) hsm;
                                                clear H4 c3 f3;
                                                rw [decide_eq_true H45.out, if_pos H45.out] at hx;
                                                refine hx.mono ?_;
                                                clear hx;
                                                rintro e w5 ⟨rfl, H5⟩;
                                                have c0 := H5.c0;
                                                have c3 := H5.c3)
                    | (go_at_call 69;
                                                refine (S2 _).mono ?_;
                                                clear S2;
                                                rintro e w6 ⟨rfl, hb6⟩;
                                                rw [HS2.out];
                                                unfold signVal;
                                                have H6 := H5.below hb6;
                                                clear H5 hb6 c0 c3;
                                                have c3 := H6.c3;
                                                have f3 := H6.f3;
                                                obtain ⟨r0, r1, r2, r3, p0, p1, p2, p3⟩ := blk_facts4 H6.b1))
                have HR := class_none HE.out HEND.out (rangeLen_turned HS1.out (by rw [List.drop_drop]; exact H45.out) (by rw [List.drop_drop, ← Nat.add_assoc]; exact HS2.out) hba)
                have hf := set4 (.int .u64 0) (.int .u64 0) (.int .u64 0) (.int .u64 0) H6.b1
                have hbf := below_set4 (b := w.heap.size + 1) (.int .u64 0) (.int .u64 0) (.int .u64 0) (.int .u64 0) H6.bel (by omega)
                generalize World.setCell _ _ _ = wf at hf hbf ⊢
                obtain ⟨q0, q1, q2, q3, _⟩ := blk_facts4 hf
                refine bodyPost_ret (v := classRes zeroCls none) (by simp [results, Tryd.results68, go_sem, q0, q1, q2, q3, classRes, clsVal, clsCells]) rfl ⟨⟨zeroCls, by rw [HR]⟩, hbf⟩
              · have hba2 : ¬ (b.toNat : Int) < (a.toNat : Int) := by omega
                go_wp2_with (first
                    | (go_at_call 72;
                                                have hx := T93;
                                                clear T93;
                                                refine hx.mono ?_;
                                                clear hx;
                                                rintro e w2 ⟨rfl, H2⟩;
                                                have c0 := H2.c0;
                                                have c3 := H2.c3)
                    | (go_at_call 69;
                                                refine (S1 _).mono ?_;
                                                clear S1;
                                                rintro e w4 ⟨rfl, hb4⟩;
                                                rw [HS1.out];
                                                unfold signVal;
                                                have H4 := H2.below hb4;
                                                clear H2 hb4 c0 c3;
                                                have c3 := H4.c3;
                                                have f3 := H4.f3)
                    | (go_at_call 72;
                                                have hx := takes_rw s (k + n) 45 w (w4.setCell ⟨w.heap.size + 1 + 1 + 1, 0, none⟩ (.int .i64 ((k : Int) + n))) cl ((k : Int) + n) (H4.place _) (by omega) hsm;
                                                clear H4 c3 f3;
                                                rw [decide_eq_true H45.out, if_pos H45.out] at hx;
                                                refine hx.mono ?_;
                                                clear hx;
                                                rintro e w5 ⟨rfl, H5⟩;
                                                have c0 := H5.c0;
                                                have c3 := H5.c3)
                    | (go_at_call 69;
                                                refine (S2 _).mono ?_;
                                                clear S2;
                                                rintro e w6 ⟨rfl, hb6⟩;
                                                rw [HS2.out];
                                                unfold signVal;
                                                have H6 := H5.below hb6;
                                                clear H5 hb6 c0 c3;
                                                have c3 := H6.c3;
                                                have f3 := H6.f3;
                                                obtain ⟨k0, k1, k2, k3, _⟩ := blk_facts4 H6.b2))
                have H7 := H6.place ((k : Int) + n + 1 + m2)
                go_region_with (first
                    | (go_at_call 74;
                                                        refine (span0_any a b _).mono ?_;
                                                        rintro e w8 ⟨⟨sp, rfl⟩, hb8⟩;
                                                        have H8 := (H7.drewN _).below hb8;
                                                        clear hb8;
                                                        obtain ⟨k0, k1, k2, k3, _⟩ := blk_facts4 H8.b2)
                    | (go_at_call 73;
                                                        refine (or_any cl sp _).mono ?_;
                                                        rintro e w9 ⟨⟨mm, rfl⟩, hb9⟩;
                                                        have H9 := H8.below hb9;
                                                        clear hb9 k0 k1 k2 k3;
                                                        obtain ⟨k0, k1, k2, k3, g0, g1, g2, g3⟩ := blk_facts4 H9.b2;
                                                        unfold clsVal clsCells))
                all_goals
                  have HE2 := class_step HE.out HEND.out (rangeLen_two HS1.out (by rw [List.drop_drop]; exact H45.out) (by rw [List.drop_drop, ← Nat.add_assoc]; exact HS2.out) hba)
                  have H10 := H9.set mm
                  generalize World.setCell _ _ _ = w10 at H10 ⊢
                  go_wp2_with fail
                  exact ⟨⟨m + 1, k + (n + 1 + m2), g, mm, by go_num, by omega, by omega, by omega, H10.to (by omega), hid HE2⟩, by simp [intOf]; omega⟩
          · have H45 := hid h45
            clear h45
            go_wp2_with (first
                | (go_at_call 72;
                                                have hx := T93;
                                                clear T93;
                                                refine hx.mono ?_;
                                                clear hx;
                                                rintro e w2 ⟨rfl, H2⟩;
                                                have c0 := H2.c0;
                                                have c3 := H2.c3)
                | (go_at_call 69;
                                                refine (S1 _).mono ?_;
                                                clear S1;
                                                rintro e w4 ⟨rfl, hb4⟩;
                                                rw [HS1.out];
                                                unfold signVal;
                                                have H4 := H2.below hb4;
                                                clear H2 hb4 c0 c3;
                                                have c3 := H4.c3;
                                                have f3 := H4.f3)
                | (go_at_call 72;
                                                have hx := takes_rw s (k + n) 45 w (w4.setCell ⟨w.heap.size + 1 + 1 + 1, 0, none⟩ (.int .i64 ((k : Int) + n))) cl ((k : Int) + n) (H4.place _) (by omega) hsm;
                                                clear H4 c3 f3;
                                                rw [decide_eq_false H45.out, if_neg H45.out] at hx;
                                                refine hx.mono ?_;
                                                clear hx;
                                                rintro e w5 ⟨rfl, H5⟩;
                                                have c0 := H5.c0;
                                                have c3 := H5.c3;
                                                obtain ⟨k0, k1, k2, k3, _⟩ := blk_facts4 H5.b2))
            go_region_with (first
                | (go_at_call 74;
                                                    refine (span0_any a a _).mono ?_;
                                                    rintro e w8 ⟨⟨sp, rfl⟩, hb8⟩;
                                                    have H8 := (H5.drewN _).below hb8;
                                                    clear hb8;
                                                    obtain ⟨k0, k1, k2, k3, _⟩ := blk_facts4 H8.b2)
                | (go_at_call 73;
                                                    refine (or_any cl sp _).mono ?_;
                                                    rintro e w9 ⟨⟨mm, rfl⟩, hb9⟩;
                                                    have H9 := H8.below hb9;
                                                    clear hb9 k0 k1 k2 k3;
                                                    obtain ⟨k0, k1, k2, k3, g0, g1, g2, g3⟩ := blk_facts4 H9.b2;
                                                    unfold clsVal clsCells))
            all_goals
              have HE2 := class_step HE.out HEND.out (rangeLen_one HS1.out (by rw [List.drop_drop]; exact H45.out))
              have H10 := H9.set mm
              generalize World.setCell _ _ _ = w10 at H10 ⊢
              go_wp2_with fail
              exact ⟨⟨m + 1, k + (n), g, mm, by go_num, by omega, by omega, by omega, H10.to (by omega), hid HE2⟩, by simp [intOf]; omega⟩
end Go.Proofs.YtdochnioodedmaaDoor
