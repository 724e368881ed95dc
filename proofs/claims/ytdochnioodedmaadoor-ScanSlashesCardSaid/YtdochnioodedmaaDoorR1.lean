/- The reader of package regex: its block, and the contracts of sees and put. -/
import Derived.Test.YtdochnioodedmaaDoorC2
import Derived.Test.YtdochnioodedmaaDoorA5
import Derived.Deep.LoopGhost
import Derived.Deep.RegionWith
import Derived.Deep.QuietTactic
import Derived.BigQuiet
import Derived.Deep.RegionLaw
import Derived.Deep.AppendLies
namespace Go.Proofs.YtdochnioodedmaaDoor
open Go Go.RowKit

/-- what gives up -/
def reFault (e : Nat) : Value := .iface 66 (.agg #[.int .i64 e])
/-- a node -/
def reCells (kind : Int) (k : Cls) (i j : Int) : List Value := [.int .i64 kind, .int .u64 k.w0, .int .u64 k.w1, .int .u64 k.w2, .int .u64 k.w3, .int .i64 i, .int .i64 j]
/-- the reader's block -/
structure RD (b : Nat) (s : ByteArray) (at_ deep n : Nat) (W : World) : Prop where
  own : ∃ sl xs, W.heap[b]? = some (.cells #[.string s, .int .i64 at_, .int .i64 deep, sl] 70 (0, 0)) ∧ W.ownsRow (b + 1) 85 7 sl n xs
  size : b + 1 ≤ W.heap.size

theorem RD.drewN {b at_ deep n : Nat} {s : ByteArray} {W : World} (h : RD b s at_ deep n W) (m : Nat) : RD b s at_ deep n (W.drewN m) := ⟨h.own, h.size⟩

theorem elem_re : ElemOk Tryd.prog 47 85 7 56 :=
  ⟨Tryd.underlying47, by
    obtain ⟨i, hi, h⟩ : ∃ i, Tryd.prog.info? 85 = some i ∧ i.zero = some (.agg #[.int .i64 0, .int .u64 0, .int .u64 0, .int .u64 0, .int .u64 0, .int .i64 0, .int .i64 0]) ∧ i.size = 7 ∧ i.bytes = 56 := ⟨_, rfl, by kernel_rfl, by kernel_rfl, by kernel_rfl⟩
    exact ⟨i, _, hi, h.1, h.2.1, h.2.2, rfl⟩, by decide⟩

set_option maxRecDepth 100000 in
set_option maxHeartbeats 1000000 in
theorem sees_any (b : Nat) (s : ByteArray) (at_ deep n : Nat) (c : UInt8) (W : World) (H : RD b s at_ deep n W) :
    Calls Tryd.prog 57 #[.pointer (some ⟨b, 0, none⟩), .int .u8 c.toNat] W fun e w' => e = .returned (.bool (decide ((s.data.toList.drop at_).head? = some c))) ∧ ∃ m, w' = W.drewN m := by
  obtain ⟨sl, xs, hb, _⟩ := H.own
  have c0 : W.cell? ⟨b, 0, none⟩ = some (.string s) := blk_cell hb 0
  have c1 : W.cell? ⟨b, 1, none⟩ = some (.int .i64 at_) := blk_cell hb 1
  clear hb
  go_enter Tryd.func57, Tryd.ntmps57
  go_wp2_with fail
  by_cases hk : at_ < s.size
  · have hd : decide ((at_ : Int) < s.size) = true := decide_eq_true (by omega)
    by_cases hc : s[at_].toNat = c.toNat
    · have t := beqT (show (s[at_].toNat : Int) = c.toNat by omega)
      have HR := hid (show (s.data.toList.drop at_).head? = some c by rw [drop_cons s at_ hk, UInt8.toNat_inj.1 hc]; rfl)
      clear hc
      go_quiet (fail)
      go_wp2_with fail
      go_ret
      exact ⟨by rw [decide_eq_true HR.out]; rfl, _, rfl⟩
    · have t := beqF (show ¬ (s[at_].toNat : Int) = c.toNat by omega)
      have HR := hid (show ¬ (s.data.toList.drop at_).head? = some c by rw [drop_cons s at_ hk]; intro e; simp at e; exact hc (by rw [e]))
      clear hc
      go_quiet (fail)
      go_wp2_with fail
      go_ret
      exact ⟨by rw [decide_eq_false HR.out]; rfl, _, rfl⟩
  · have hd : decide ((at_ : Int) < s.size) = false := decide_eq_false (by omega)
    have HR := hid (show ¬ (s.data.toList.drop at_).head? = some c by rw [drop_end s at_ (by omega)]; simp)
    go_quiet (fail)
    go_wp2_with fail
    go_ret
    exact ⟨by rw [decide_eq_false HR.out]; rfl, _, rfl⟩

set_option maxRecDepth 100000 in
set_option maxHeartbeats 1000000 in
theorem put_bad (b : Nat) (s : ByteArray) (at_ deep n : Nat) (kind : Int) (k : Cls) (i j : Int) (W : World) (H : RD b s at_ deep n W) (hn : 2000 ≤ n) (hn2 : n ≤ 2000) :
    Calls Tryd.prog 58 #[.pointer (some ⟨b, 0, none⟩), .agg (reCells kind k i j).toArray] W fun e w' => e = .panicked [{ v := reFault 6, recovered := false }] ∧ Below b W w' := by
  obtain ⟨sl, xs, hb, ho⟩ := H.own
  have hsz := H.size
  obtain ⟨g, cap, rfl, _⟩ := own_cell ho (by omega)
  have hb2 : Below b W (W.alloc (.cells (reCells kind k i j).toArray 85)) := (Below.refl b W).alloc (by omega) _
  obtain ⟨a0, g0⟩ := own_alloc (b := b) (W := W) (by omega) (.cells (reCells kind k i j).toArray 85)
  have c3 := (a0 3).trans (blk_cell hb 3)
  unfold reCells at c3 hb2
  clear hb a0 g0 ho
  unfold reCells
  go_enter Tryd.func58, Tryd.ntmps58
  go_wp2_with fail
  exact ⟨rfl, rfl, hb2⟩

/-- an append of one element to a slice of the call's own, as a step of a region that draws -/
theorem app_step {P : Program} {T e : TypeId} {size bytes : Nat} (E : ElemOk P T e size bytes) {w : World} {ops : Array Oper} {o : Oper} {a : Act} {K : Act → World → Prop} {Q : Exit → Act → World → Prop} {R : Prop} (hgd : o.guard = none) (s x : Operand)
    (ho : o.op = .call { callee := .builtin .append, args := #[s, x], argTypes := #[T, T] }) (base : Nat) (v : Value) (n : Nat) (xs : List Value) (hs : a.eval s = v) (hown : w.ownsRow base e size v n xs)
    (news : List Value) (hl : news.length = size) (h1 : ∀ u ∈ news, u.oneCell' = true) (hx : a.eval x = .slice (some ⟨w.heap.size, 0, none⟩) 1 1) (W0 : World) (hbel : Below base W0 w)
    (h63 : n + 1 ≤ maxLen) (hbytes : (n + 1) * bytes ≤ 140737488355328) (hbase : base ≤ w.heap.size)
    (h : ∀ g cap w', w'.ownsRow base e size (.slice (some ⟨g, 0, none⟩) (n + 1) cap) (n + 1) (xs ++ news) → Below base W0 w' → w.heap.size + 1 ≤ w'.heap.size → K (a.put o.dst (.slice (some ⟨g, 0, none⟩) (n + 1) cap)) w') :
    if Region.wanted o (yielded ops a.tmps) = true then Oper.wp P o a (w.alloc (.cells news.toArray e)) K Q else R := by
  obtain ⟨i, z, hi, hz, hsize, hby, hzs⟩ := E.hi
  refine step_append_lies _ hgd s x T ho base e i z size bytes E.ht hi hz hsize hby hzs E.hpos v n xs hs (hown.alloc _) ⟨w.heap.size, 0, none⟩ 1 1 news hx (by omega) ?_ h1 (by omega) h63 hbytes (by simp; omega) _ rfl ?_
  · exact World.news_of_block (heap_new w _)
  · intro g cap w' hown' hg _ _
    refine h g cap w' hown' ((hbel.alloc hbase _).grown hg (by simp; omega) (fun k hk => own_base hown k hk)) ?_
    have := hg.size
    simpa using this

set_option maxRecDepth 100000 in
set_option maxHeartbeats 1000000 in
theorem put_ok (b : Nat) (s : ByteArray) (at_ deep n : Nat) (kind : Int) (k : Cls) (i j : Int) (W : World) (H : RD b s at_ deep n W) (hn : n < 2000) :
    Calls Tryd.prog 58 #[.pointer (some ⟨b, 0, none⟩), .agg (reCells kind k i j).toArray] W fun e w' => e = .returned (.int .i64 n) ∧ RD b s at_ deep (n + 1) w' ∧ Below b W w' := by
  obtain ⟨sl, xs, hb, ho⟩ := H.own
  have hsz := H.size
  obtain ⟨a0, g0⟩ := own_alloc (b := b) (W := W) (by omega) (.cells (reCells kind k i j).toArray 85)
  have hb2 : Below b W (W.alloc (.cells (reCells kind k i j).toArray 85)) := (Below.refl b W).alloc (by omega) _
  have ho2 : (W.alloc (.cells (reCells kind k i j).toArray 85)).ownsRow (b + 1) 85 7 sl n xs := ho.alloc _
  have hbb : (W.alloc (.cells (reCells kind k i j).toArray 85)).heap[b]? = some (.cells #[.string s, .int .i64 at_, .int .i64 deep, sl] 70 (0, 0)) := (Below.heap_alloc _ _ _ (by omega)).trans hb
  have hsl : ∃ ao cap, sl = .slice ao n cap := by
    rcases ho.2 with ⟨rfl, h0⟩ | ⟨g, cap, cur, rfl, _⟩
    · exact ⟨none, 0, by rw [h0]⟩
    · exact ⟨_, cap, rfl⟩
  obtain ⟨ao, cap, rfl⟩ := hsl
  have c3 : (W.alloc (.cells (reCells kind k i j).toArray 85)).cell? ⟨b, 3, none⟩ = some (.slice ao n cap) := (a0 3).trans (blk_cell hb 3)
  have c3b : ((W.alloc (.cells (reCells kind k i j).toArray 85)).alloc (.cells (reCells kind k i j).toArray 85)).cell? ⟨b, 3, none⟩ = some (.slice ao n cap) := ((own_alloc (b := b) (by simp; omega) (.cells (reCells kind k i j).toArray 85)).1 3).trans c3
  clear hb ho a0 g0
  have e1 : (W.alloc (.cells (reCells kind k i j).toArray 85)).heap.size = W.heap.size + 1 := by simp
  have HONE : ∀ u ∈ reCells kind k i j, u.oneCell' = true := by simp [reCells, Value.oneCell']
  unfold reCells at *
  go_enter Tryd.func58, Tryd.ntmps58
  go_wp2_with fail
  go_region_law (refine app_step (w := (W.alloc (.cells #[.int .i64 kind, .int .u64 k.w0, .int .u64 k.w1, .int .u64 k.w2, .int .u64 k.w3, .int .i64 i, .int .i64 j] 85)).drew) elem_re rfl (.tmp 17) (.tmp 19) rfl (b + 1) (.slice ao n cap) n xs (by simp [Act.eval]) ho2 [.int .i64 kind, .int .u64 k.w0, .int .u64 k.w1, .int .u64 k.w2, .int .u64 k.w3, .int .i64 i, .int .i64 j] rfl HONE (by simp [Act.eval]) _ (Below.refl (b + 1) _) (by unfold maxLen; omega) (by omega) (by simp; omega) ?_; intro g1 cap1 w1 hown1 hb1 hsz1; have hb3 := (hb1.block b (by omega)).trans hbb; have d4 := blk_frozen hb3 3; have d5 : w1.cell? ⟨b, 3, none⟩ = some (.slice ao n cap) := blk_cell hb3 3)
  all_goals
    have HF : RD b s at_ deep (n + 1) (w1.setCell ⟨b, 3, none⟩ (.slice (some ⟨g1, 0, none⟩) (n + 1) cap1)) := ⟨⟨_, _, heap_setCell_same _ _ _ _ _ _ hb3, ownsRow_setCell_below hown1 (by simp) _⟩, by have := hb1.size; simp at this ⊢; omega⟩
    have HB : Below b W (w1.setCell ⟨b, 3, none⟩ (.slice (some ⟨g1, 0, none⟩) (n + 1) cap1)) := (hb2.drew.trans (hb1.mono (Nat.le_succ b))).setCell (Nat.le_refl _) _
    go_wp2_with fail
    go_ret
    exact ⟨by simp, HF, HB⟩

end Go.Proofs.YtdochnioodedmaaDoor
