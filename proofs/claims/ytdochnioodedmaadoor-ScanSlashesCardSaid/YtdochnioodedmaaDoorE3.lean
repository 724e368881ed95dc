/- The contract of scan.Tokens. PRINTED BY gen/xe3.py -/
import Derived.Test.YtdochnioodedmaaDoorE2
import Derived.Test.YtdochnioodedmaaDoorP2
import Derived.ScopeJumps
import Derived.Deep.Cut
namespace Go.Proofs.YtdochnioodedmaaDoor
open Go Go.RowKit

def tokCells : List Tok → List Value
  | [] => []
  | t :: r => [.int .i64 t.kind, .int .i64 t.at_, .string (str t.text), .int .i64 t.n] ++ tokCells r
theorem tokCells_append (a b : List Tok) : tokCells (a ++ b) = tokCells a ++ tokCells b := by
  induction a with
  | nil => rfl
  | cons t r ih => simp [tokCells, ih]

/-- what scan.Tokens does -/
def TPost (w : World) : TRes → Ending → World → Prop
  | .ok l => fun e w' => ∃ v, e = .returned (.tuple #[v, .int .i64 0, .int .i64 0]) ∧ w'.ownsRow w.heap.size 23 4 v l.length (tokCells l) ∧ Below w.heap.size w w'
  | .bad er at_ => fun e w' => e = .returned (.tuple #[.slice none 0 0, .int .i64 er, .int .i64 at_]) ∧ Below w.heap.size w w'

theorem elem_tok : ElemOk Tryd.prog 26 23 4 40 :=
  ⟨Tryd.underlying26, by
    obtain ⟨i, hi, h⟩ : ∃ i, Tryd.prog.info? 23 = some i ∧ i.zero = some (.agg #[.int .i64 0, .int .i64 0, .string ⟨#[]⟩, .int .i64 0]) ∧ i.size = 4 ∧ i.bytes = 40 := ⟨_, rfl, by kernel_rfl, by kernel_rfl, by kernel_rfl⟩
    exact ⟨i, _, hi, h.1, h.2.1, h.2.2, rfl⟩, by decide⟩

theorem own_grow {W W2 : World} {base : Nat} {e : TypeId} {size n : Nat} {v : Value} {xs : List Value} (h : W.ownsRow base e size v n xs) (hb : Below W.heap.size W W2) : W2.ownsRow base e size v n xs := by
  refine ⟨h.1, ?_⟩
  rcases h.2 with hl | ⟨g, cap, cur, hv, hg, hh, r⟩
  · exact .inl hl
  · have hlt : g < W.heap.size := (Array.getElem?_eq_some_iff.1 hh).1
    exact .inr ⟨g, cap, cur, hv, hg, (hb.block g hlt).trans hh, r⟩
theorem own_slice {W : World} {base : Nat} {e : TypeId} {size n : Nat} {v : Value} {xs : List Value} (h : W.ownsRow base e size v n xs) : ∃ ao cap, v = .slice ao n cap := by
  rcases h.2 with ⟨rfl, h0⟩ | ⟨g, cap, cur, rfl, _⟩
  · exact ⟨none, 0, by rw [h0]⟩
  · exact ⟨_, cap, rfl⟩
theorem own_lt {W : World} {base : Nat} {e : TypeId} {size n : Nat} {v : Value} {xs : List Value} (h : W.ownsRow base e size v n xs) (k : Nat) (hk : v.ownBlock = some k) : k < W.heap.size := by
  rcases h.2 with ⟨rfl, _⟩ | ⟨g, cap, cur, rfl, _, hh, _⟩
  · simp [Value.ownBlock] at hk
  · have : g = k := by simpa [Value.ownBlock] using hk
    exact this ▸ (Array.getElem?_eq_some_iff.1 hh).1

/-- app_own, telling of the blocks beside the row -/
theorem app_own2 {P : Program} {T e : TypeId} {size bytes : Nat} (E : ElemOk P T e size bytes) {w : World} {ops : Array Oper} {rest : List Oper} {o : Oper} {a : Act} {Q : Exit → Act → World → Prop} (hgd : o.guard = none) (s x : Operand)
    (ho : o.op = .call { callee := .builtin .append, args := #[s, x], argTypes := #[T, T] }) (base : Nat) (v : Value) (n : Nat) (xs : List Value) (hs : a.eval s = v) (hown : w.ownsRow base e size v n xs)
    (news : List Value) (hl : news.length = size) (h1 : ∀ u ∈ news, u.oneCell' = true) (hx : a.eval x = .slice (some ⟨w.heap.size, 0, none⟩) 1 1) (W0 : World) (hbel : Below base W0 w)
    (h63 : n + 1 ≤ maxLen) (hbytes : (n + 1) * bytes ≤ 140737488355328) (hbase : base ≤ w.heap.size)
    (h : ∀ v' w', w'.ownsRow base e size v' (n + 1) (xs ++ news) → Below base W0 w' → w.heap.size + 1 ≤ w'.heap.size → (∀ k, k < w.heap.size → v.ownBlock ≠ some k → w'.heap[k]? = w.heap[k]?) → wpList P ops Q rest (a.put o.dst v') w') :
    wpList P ops Q (o :: rest) a (w.alloc (.cells news.toArray e)) := by
  obtain ⟨i, z, hi, hz, hsize, hby, hzs⟩ := E.hi
  refine wpList_append_own _ hgd s x T ho base e i z size bytes E.ht hi hz hsize hby hzs E.hpos v n xs hs (hown.alloc _) ⟨w.heap.size, 0, none⟩ 1 1 news hx (by omega) ?_ h1 h63 hbytes (by simp; omega) ?_
  · intro j u hj
    have ha : (⟨w.heap.size, 0, none⟩ : Addr).add j = ⟨w.heap.size, j, none⟩ := by unfold Addr.add; split <;> simp_all
    rw [ha, World.cell?_alloc_at _ _ _ _ rfl]
    simpa using hj
  · intro v' w' hown' hg _
    refine h v' w' hown' ((hbel.alloc hbase _).grown hg (by simp; omega) (fun k hk => own_base hown k hk)) ?_ ?_
    · have := hg.size
      simpa using this
    · intro k hk hne
      rw [hg.block k (by simp; omega) (fun e => hne e.symm)]
      exact Below.heap_alloc _ _ _ hk

theorem next_sub (s : ByteArray) (a : Nat) (op : Bool) (hs : s.size ≤ 140737488351232) (ha : a < s.size) (w : World) :
    Calls Tryd.prog 16 #[.string (s.extract a s.size), .bool op] w fun e w' => e = .returned (.tuple #[tokVal (nextRes op (s.data.toList.drop a)).1, .int .i64 (nextRes op (s.data.toList.drop a)).2]) ∧ Below w.heap.size w w' := by
  have h := next_any (s.extract a s.size) op w (by rw [ByteArray.size_extract]; omega) (by rw [ByteArray.size_extract]; omega)
  rwa [extract_drop] at h

theorem blk_tok {W : World} {b T : Nat} {c0 c1 c2 c3 : Value} (h : W.heap[b]? = some (.cells #[c0, c1, c2, c3] T (0, 0))) : W.cell? ⟨b, 0, none⟩ = some c0 ∧ W.cell? ⟨b, 1, none⟩ = some c1 ∧ W.cell? ⟨b, 2, none⟩ = some c2 ∧ W.cell? ⟨b, 3, none⟩ = some c3 :=
  ⟨blk_cell h 0, blk_cell h 1, blk_cell h 2, blk_cell h 3⟩

theorem _root_.Go.RowKit.Below.setCells4 {B b : Nat} {a w : World} (h : Below B a w) (hb : B ≤ b) (c0 c1 c2 c3 : Value) : Below B a ((((w.setCell ⟨b, 0, none⟩ c0).setCell ⟨b, 1, none⟩ c1).setCell ⟨b, 2, none⟩ c2).setCell ⟨b, 3, none⟩ c3) :=
  (((h.setCell hb _).setCell hb _).setCell hb _).setCell hb _

set_option maxRecDepth 100000 in
set_option maxHeartbeats 4000000 in
theorem tokens_any (s : ByteArray) (w : World) (hs : s.size ≤ 140737488351232) :
    Calls Tryd.prog 12 #[.string s] w (TPost w (tokens s.data.toList)) := by
  have hsm : s.size ≤ maxLen := by unfold maxLen; omega
  go_enter Tryd.func12, Tryd.ntmps12
  go_wp2_with fail
  refine wp_scope_jumps 0 (fun a' w' => ∃ (er at_ : Nat) (u5 u8 u9 u10 u11 u12 u13 u14 u15 u16 u17 u18 u19 u20 u21 u22 u23 u24 u25 u26 u27 u28 u29 u30 u31 u32 u33 u34 u35 u36 u37 u38 u39 u40 u41 u42 u43 u44 u45 u46 u47 u48 u49 u50 u51 u52 u53 u54 u55 u56 : Value), a' = { tmps := #[.string s, undef, .slice none 0 0, .int .i64 0, .int .i64 0, u5, .int .i64 er, .int .i64 at_, u8, u9, u10, u11, u12, u13, u14, u15, u16, u17, u18, u19, u20, u21, u22, u23, u24, u25, u26, u27, u28, u29, u30, u31, u32, u33, u34, u35, u36, u37, u38, u39, u40, u41, u42, u43, u44, u45, u46, u47, u48, u49, u50, u51, u52, u53, u54, u55, u56], defers := [] } ∧ Hid (tokens s.data.toList = .bad er at_) ∧ Below w.heap.size w w') (fun _ _ => 0) rfl ?_ ?_
  · by_cases hbig : 8192 < s.size
    · have HR : Hid (tokens s.data.toList = .bad 6 0) := hid (by unfold tokens; rw [size_toList, if_pos hbig])
      go_wp2_with fail
      go_step3
      exact ⟨rfl, 6, 0, _, _, _, _, _, _, _, _, _, _, _, _, _, _, _, _, _, _, _, _, _, _, _, _, _, _, _, _, _, _, _, _, _, _, _, _, _, _, _, _, _, _, _, _, _, _, _, _, _, _, rfl, HR, Below.refl _ _⟩
    · have HR0 : Hid (tokens s.data.toList = tokGo s.data.toList (s.data.toList.length + 1) 0 false []) := hid (by unfold tokens; rw [size_toList, if_neg hbig])
      go_wp2_with fail
      clear hbig
      go_loopg [2, 3, 4, 5, 6, 7, 8] s.size (fun g v2 v3 v4 v5 v6 v7 v8 wr => ∃ (a f cap : Nat) (ao : Option Addr) (op : Bool) (acc : List Tok), v2 = .slice none 0 0 ∧ v3 = .int .i64 0 ∧ v4 = .int .i64 0 ∧ v5 = .slice ao acc.length cap ∧ v6 = .int .i64 6 ∧ v7 = .int .i64 a ∧ v8 = .bool op ∧ g = s.size - a ∧ a ≤ s.size ∧ s.size - a < f ∧ acc.length ≤ 2000 ∧
          wr.ownsRow w.heap.size 23 4 (.slice ao acc.length cap) acc.length (tokCells acc) ∧ Below w.heap.size w wr ∧ Hid (tokens s.data.toList = tokGo s.data.toList f a op acc))
      case atStart => exact ⟨0, _, 0, none, false, [], rfl, rfl, rfl, rfl, rfl, rfl, rfl, rfl, Nat.zero_le _, by rw [size_toList]; omega, Nat.zero_le _, own_nil _ _ _ _, Below.refl _ _, HR0⟩
      case round =>
        clear HR0
        obtain ⟨a, f, cap, ao, op, acc, rfl, rfl, rfl, rfl, rfl, rfl, rfl, rfl, ha, hf, hacc, hown, hB, HE⟩ := hrel
        obtain ⟨g, rfl⟩ : ∃ g, f = g + 1 := ⟨f - 1, by omega⟩
        obtain ⟨hfr1, hfr2⟩ := from_le (l := s.data.toList) (a := a) (by rw [size_toList]; exact ha)
        rw [size_toList] at hfr2
        have SK := fun W => skip_any s a W hsm ha
        have hfe : a + skipN false (s.data.toList.drop a) = from_ s.data.toList a := rfl
        rw [hfe] at SK
        clear hfe
        have hwr : w.heap.size ≤ wr.heap.size := hB.size
        have hbt : Below (wr.heap.size + 1) (wr.alloc tok0) (wr.alloc tok0) := Below.refl _ _
        have hsz : wr.heap.size + 1 ≤ (wr.alloc tok0).heap.size := by simp
        have HBW : Below wr.heap.size wr (wr.alloc tok0) := (Below.refl _ _).alloc (Nat.le_refl _) _
        generalize hF : from_ s.data.toList a = fr at SK hfr1 hfr2
        have HF := hid hF
        clear hF
        by_cases hlt : fr < s.size
        · have hltl : fr < s.data.toList.length := by rw [size_toList]; exact hlt
          have HLT := hid hltl
          clear hltl
          have C := fun W => next_sub s fr op hs hlt W
          obtain ⟨t, ht⟩ : ∃ t, (nextRes op (s.data.toList.drop fr)).1 = t := ⟨_, rfl⟩
          obtain ⟨n, hn⟩ : ∃ n, (nextRes op (s.data.toList.drop fr)).2 = n := ⟨_, rfl⟩
          rw [ht, hn] at C
          have HT := hid ht
          have HN := hid hn
          clear ht hn
          by_cases hn0 : n < 0
          · have t1 : decide (n < 0) = true := decide_eq_true hn0
            have HR : Hid (tokens s.data.toList = .bad 3 fr) := hid (by have h := tokGo_over (f := g) (a := a) (acc := acc) (op := op) (l := s.data.toList) (by rw [HF.out]; exact HLT.out) (by rw [HF.out, HN.out]; exact hn0); rw [HF.out] at h; exact HE.out.trans h)
            go_wp2_with (first | (go_at_call 15; refine (SK _).mono ?_; rintro e w9 ⟨rfl, rfl⟩) | (go_at_call 16; refine (C _).mono ?_; rintro e w3 ⟨rfl, hb3⟩; replace hbt := hbt.trans (hb3.mono hsz); obtain ⟨q0, q1, q2, q3, f0, f1, f2, f3⟩ := tok_facts hbt; replace hsz := Nat.le_trans hsz hb3.size; clear hb3; unfold tokVal))
            go_step3
            exact ⟨rfl, 3, fr, _, _, _, _, _, _, _, _, _, _, _, _, _, _, _, _, _, _, _, _, _, _, _, _, _, _, _, _, _, _, _, _, _, _, _, _, _, _, _, _, _, _, _, _, _, _, _, _, _, _, rfl, HR, hB.trans (((HBW.trans (hbt.mono (by omega))).setCells4 (Nat.le_refl _) _ _ _ _).mono hwr)⟩
          · have t1 : decide (n < 0) = false := decide_eq_false hn0
            by_cases hnz : n = 0
            · subst hnz
              have HR : Hid (tokens s.data.toList = .bad 9 fr) := hid (by have h := tokGo_none (f := g) (a := a) (acc := acc) (op := op) (l := s.data.toList) (by rw [HF.out]; exact HLT.out) (by rw [HF.out, HN.out]); rw [HF.out] at h; exact HE.out.trans h)
              go_wp2_with (first | (go_at_call 15; refine (SK _).mono ?_; rintro e w9 ⟨rfl, rfl⟩) | (go_at_call 16; refine (C _).mono ?_; rintro e w3 ⟨rfl, hb3⟩; replace hbt := hbt.trans (hb3.mono hsz); obtain ⟨q0, q1, q2, q3, f0, f1, f2, f3⟩ := tok_facts hbt; replace hsz := Nat.le_trans hsz hb3.size; clear hb3; unfold tokVal))
              go_step3
              exact ⟨rfl, 9, fr, _, _, _, _, _, _, _, _, _, _, _, _, _, _, _, _, _, _, _, _, _, _, _, _, _, _, _, _, _, _, _, _, _, _, _, _, _, _, _, _, _, _, _, _, _, _, _, _, _, _, rfl, HR, hB.trans (((HBW.trans (hbt.mono (by omega))).setCells4 (Nat.le_refl _) _ _ _ _).mono hwr)⟩
            · have t2 : (n == 0) = false := beqF hnz
              have hpos : 0 < n := by omega
              have HP := hid (show 0 < (nextRes op (s.data.toList.drop fr)).2 by rw [HN.out]; exact hpos)
              obtain ⟨hk0, hnl⟩ := nextRes_pos HP.out
              rw [HN.out, List.length_drop, size_toList] at hnl
              rw [HT.out] at hk0
              by_cases hmany : 2000 ≤ acc.length
              · have t3 : decide ((2000 : Int) ≤ acc.length) = true := decide_eq_true (by omega)
                have t4 : decide (2000 ≤ acc.length) = true := decide_eq_true hmany
                have HR : Hid (tokens s.data.toList = .bad 6 fr) := hid (by have h := tokGo_many (f := g) (a := a) (acc := acc) (op := op) (l := s.data.toList) (by rw [HF.out]; exact HLT.out) (by rw [HF.out]; exact HP.out) hmany; rw [HF.out] at h; exact HE.out.trans h)
                go_wp2_with (first | (go_at_call 15; refine (SK _).mono ?_; rintro e w9 ⟨rfl, rfl⟩) | (go_at_call 16; refine (C _).mono ?_; rintro e w3 ⟨rfl, hb3⟩; replace hbt := hbt.trans (hb3.mono hsz); obtain ⟨q0, q1, q2, q3, f0, f1, f2, f3⟩ := tok_facts hbt; replace hsz := Nat.le_trans hsz hb3.size; clear hb3; unfold tokVal))
                go_step3
                exact ⟨rfl, 6, fr, _, _, _, _, _, _, _, _, _, _, _, _, _, _, _, _, _, _, _, _, _, _, _, _, _, _, _, _, _, _, _, _, _, _, _, _, _, _, _, _, _, _, _, _, _, _, _, _, _, _, rfl, HR, hB.trans (((HBW.trans (hbt.mono (by omega))).setCells4 (Nat.le_refl _) _ _ _ _).mono hwr)⟩
              · have t3 : decide ((2000 : Int) ≤ acc.length) = false := decide_eq_false (by omega)
                have t4 : decide (2000 ≤ acc.length) = false := decide_eq_false hmany
                obtain ⟨m, rfl⟩ := Int.eq_ofNat_of_zero_le (show 0 ≤ n by omega)
                have HR := hid (by have h := tokGo_more (f := g) (a := a) (acc := acc) (op := op) (l := s.data.toList) (by rw [HF.out]; exact HLT.out) (by rw [HF.out]; exact HP.out) hmany; rw [HF.out, HT.out, HN.out, Int.toNat_natCast] at h; exact HE.out.trans h)
                go_upto_region 13 with (first | (go_at_call 15; refine (SK _).mono ?_; rintro e w9 ⟨rfl, rfl⟩) | (go_at_call 16; refine (C _).mono ?_; rintro e w3 ⟨rfl, hb3⟩; replace hbt := hbt.trans (hb3.mono hsz); obtain ⟨q0, q1, q2, q3, f0, f1, f2, f3⟩ := tok_facts hbt; replace hsz := Nat.le_trans hsz hb3.size; clear hb3; unfold tokVal))
                have B3 := (hbt.block wr.heap.size (by omega)).trans (heap_new wr tok0)
                have B4 := set4 (.int .i64 t.kind) (.int .i64 t.at_) (.string (str t.text)) (.int .i64 t.n) B3
                have HW4 : Below wr.heap.size wr _ := (HBW.trans (hbt.mono (by omega))).setCells4 (b := wr.heap.size) (Nat.le_refl _) (.int .i64 t.kind) (.int .i64 t.at_) (.string (str t.text)) (.int .i64 t.n)
                generalize World.setCell _ _ _ = w4 at B4 HW4 ⊢
                clear q0 q1 q2 q3 f0 f1 f2 f3 hbt hsz B3
                obtain ⟨k0, k1, k2, k3, f0, f1, f2, f3⟩ := blk_facts4 B4
                go_upto_region 14 with fail
                have B5 : (w4.setCell ⟨wr.heap.size, 1, none⟩ (.int .i64 fr)).heap[wr.heap.size]? = some (.cells #[.int .i64 t.kind, .int .i64 fr, .string (str t.text), .int .i64 t.n] 23 (0, 0)) := heap_setCell_same _ _ _ _ _ _ B4
                have HW5 := HW4.setCell (p := ⟨wr.heap.size, 1, none⟩) (Nat.le_refl _) (.int .i64 fr)
                generalize World.setCell _ _ _ = w5 at B5 HW5 ⊢
                clear k0 k1 k2 k3 f0 f1 f2 f3 B4 HW4
                obtain ⟨k0, k1, k2, k3, f0, f1, f2, f3⟩ := blk_facts4 B5
                have hlt5 : wr.heap.size < w5.heap.size := (Array.getElem?_eq_some_iff.1 B5).1
                have hown5 := own_grow hown HW5
                have HB5 := hB.trans (HW5.mono hwr)
                have tk := beqF hk0
                have HK := hid hk0
                have HNE : Hid (Value.ownBlock (.slice ao acc.length cap) ≠ some wr.heap.size) := hid (fun e => by have := own_lt hown _ e; omega)
                clear hk0 hown
                have O := fun W => operand_any t.kind fr t.n (str t.text) W
                rw [toList_str] at O
                generalize hop2 : operandB t.kind t.text = op2 at O HR
                have HOP := hid hop2
                clear hop2
                go_wp2_with (first
                  | (at_builtin;
                     refine app_own2 elem_tok rfl _ _ rfl w.heap.size _ _ _ rfl hown5 [.int .i64 t.kind, .int .i64 fr, .string (str t.text), .int .i64 t.n] rfl (by simp [Value.oneCell']) rfl _ HB5 (by unfold maxLen; omega) (by omega) (by omega) ?_;
                     intro v' w6 hown6 hb6 hsz6 hbk6;
                     obtain ⟨k0, k1, k2, k3, f0, f1, f2, f3⟩ := blk_facts4 ((hbk6 wr.heap.size hlt5 HNE.out).trans B5);
                     obtain ⟨ao6, cap6, rfl⟩ := own_slice hown6;
                     clear hbk6)
                  | (go_at_call 10; refine (O _).mono ?_; rintro e w7 ⟨rfl, hb7⟩))
                go_roundg (s.size - (fr + m))
                case measure => omega
                case rel => exact ⟨fr + m, g, cap6, ao6, op2, _, rfl, rfl, rfl, by simp, rfl, by go_num, rfl, rfl, by omega, by omega, by simp; omega, by rw [tokCells_append]; simpa [tokCells] using own_grow hown6 hb7, hb6.trans (hb7.mono (by omega)), HR⟩
        · have hltl : ¬ fr < s.data.toList.length := by rw [size_toList]; exact hlt
          have HLT := hid hltl
          clear hltl
          have tl : decide ((fr : Int) < s.size) = false := decide_eq_false (by omega)
          have tl2 : decide (fr < s.size) = false := decide_eq_false hlt
          by_cases hmany : 2000 ≤ acc.length
          · have t3 : decide ((2000 : Int) ≤ acc.length) = true := decide_eq_true (by omega)
            have t4 : decide (2000 ≤ acc.length) = true := decide_eq_true hmany
            have HR : Hid (tokens s.data.toList = .bad 6 fr) := hid (by have h := tokGo_endmany (f := g) (a := a) (acc := acc) (op := op) (l := s.data.toList) (by rw [HF.out]; exact HLT.out) hmany; rw [HF.out] at h; exact HE.out.trans h)
            go_wp2_with (go_at_call 15; refine (SK _).mono ?_; rintro e w9 ⟨rfl, rfl⟩)
            go_step3
            exact ⟨rfl, 6, fr, _, _, _, _, _, _, _, _, _, _, _, _, _, _, _, _, _, _, _, _, _, _, _, _, _, _, _, _, _, _, _, _, _, _, _, _, _, _, _, _, _, _, _, _, _, _, _, _, _, _, rfl, HR, hB.trans (HBW.mono hwr)⟩
          · have t3 : decide ((2000 : Int) ≤ acc.length) = false := decide_eq_false (by omega)
            have t4 : decide (2000 ≤ acc.length) = false := decide_eq_false hmany
            have HR := hid (by have h := tokGo_end (f := g) (a := a) (acc := acc) (op := op) (l := s.data.toList) (by rw [HF.out]; exact HLT.out) hmany; rw [HF.out] at h; exact HE.out.trans h)
            go_upto_region 14 with (go_at_call 15; refine (SK _).mono ?_; rintro e w9 ⟨rfl, rfl⟩)
            have B5 := heap_new wr (.cells #[.int .i64 0, .int .i64 fr, .string ⟨#[]⟩, .int .i64 0] 23)
            have HW5 := (Below.refl wr.heap.size wr).alloc (Nat.le_refl _) (.cells #[.int .i64 0, .int .i64 fr, .string ⟨#[]⟩, .int .i64 0] 23)
            generalize World.alloc _ _ = w5 at B5 HW5 ⊢
            obtain ⟨k0, k1, k2, k3, f0, f1, f2, f3⟩ := blk_facts4 B5
            have hlt5 : wr.heap.size < w5.heap.size := (Array.getElem?_eq_some_iff.1 B5).1
            have hown5 := own_grow hown HW5
            have HB5 := hB.trans (HW5.mono hwr)
            have HNE : Hid (Value.ownBlock (.slice ao acc.length cap) ≠ some wr.heap.size) := hid (fun e => by have := own_lt hown _ e; omega)
            clear hown
            go_upto_region 15 with (first
                  | (at_builtin;
                     refine app_own2 elem_tok rfl _ _ rfl w.heap.size _ _ _ rfl hown5 [.int .i64 0, .int .i64 fr, .string ⟨#[]⟩, .int .i64 0] rfl (by simp [Value.oneCell']) rfl _ HB5 (by unfold maxLen; omega) (by omega) (by omega) ?_;
                     intro v' w6 hown6 hb6 hsz6 hbk6;
                     obtain ⟨k0, k1, k2, k3, f0, f1, f2, f3⟩ := blk_facts4 ((hbk6 wr.heap.size hlt5 HNE.out).trans B5);
                     obtain ⟨ao6, cap6, rfl⟩ := own_slice hown6;
                     clear hbk6))
            go_upto_region 16 with fail
            go_wp2_with fail
            simp only [Exit.jump]
            go_ret3
            rw [HR.out]
            exact ⟨_, rfl, by rw [tokCells_append]; simpa [tokCells, str] using hown6, hb6⟩
  · rintro a' w' ⟨er, at_, u5, u8, u9, u10, u11, u12, u13, u14, u15, u16, u17, u18, u19, u20, u21, u22, u23, u24, u25, u26, u27, u28, u29, u30, u31, u32, u33, u34, u35, u36, u37, u38, u39, u40, u41, u42, u43, u44, u45, u46, u47, u48, u49, u50, u51, u52, u53, u54, u55, u56, rfl, HR, hB⟩
    go_wp2_with fail
    go_ret3
    rw [HR.out]
    exact ⟨rfl, hB⟩

end Go.Proofs.YtdochnioodedmaaDoor
