/- Appending one element to a slice that the call itself has made: the law in the form that my walks use. -/
import Derived.Below
import Derived.OwnWalk
import Derived.Laws.OwnMore
import Derived.Laws.NewBlocks
import Derived.Deep.AppendLies
import Derived.WalkKit
import Derived.Laws.BytesArg
import Derived.Test.YtdochnioodedmaaDoorM1
namespace Go.Proofs.YtdochnioodedmaaDoor
open Go Go.RowKit

/-- what an append reads of a slice's type and of its elements' type -/
structure ElemOk (P : Program) (T e : TypeId) (size bytes : Nat) : Prop where
  ht : P.underlying T = some (.slice e)
  hi : ∃ i z, P.info? e = some i ∧ i.zero = some z ∧ i.size = size ∧ i.bytes = bytes ∧ z.cells.size = size
  hpos : 0 < size

theorem own_base {w : World} {base : Nat} {e : TypeId} {size n : Nat} {v : Value} {xs : List Value} (h : w.ownsRow base e size v n xs) (k : Nat) (hk : v.ownBlock = some k) : base ≤ k := by
  rcases h.2 with ⟨rfl, _⟩ | ⟨g, cap, cur, rfl, hb, _⟩
  · simp [Value.ownBlock] at hk
  · have : g = k := by simpa [Value.ownBlock] using hk
    omega

theorem own_nil (W : World) (base : Nat) (e : TypeId) (size : Nat) : W.ownsRow base e size (.slice none 0 0) 0 [] := ⟨by simp, .inl ⟨rfl, rfl⟩⟩

theorem app_own {P : Program} {T e : TypeId} {size bytes : Nat} (E : ElemOk P T e size bytes) {w : World} {ops : Array Oper} {rest : List Oper} {o : Oper} {a : Act} {Q : Exit → Act → World → Prop} (hgd : o.guard = none) (s x : Operand)
    (ho : o.op = .call { callee := .builtin .append, args := #[s, x], argTypes := #[T, T] }) (base : Nat) (v : Value) (n : Nat) (xs : List Value) (hs : a.eval s = v) (hown : w.ownsRow base e size v n xs)
    (news : List Value) (hl : news.length = size) (h1 : ∀ u ∈ news, u.oneCell' = true) (hx : a.eval x = .slice (some ⟨w.heap.size, 0, none⟩) 1 1) (W0 : World) (hbel : Below base W0 w)
    (h63 : n + 1 ≤ maxLen) (hbytes : (n + 1) * bytes ≤ 140737488355328) (hbase : base ≤ w.heap.size)
    (h : ∀ v' w', w'.ownsRow base e size v' (n + 1) (xs ++ news) → Below base W0 w' → w.heap.size + 1 ≤ w'.heap.size → wpList P ops Q rest (a.put o.dst v') w') :
    wpList P ops Q (o :: rest) a (w.alloc (.cells news.toArray e)) := by
  obtain ⟨i, z, hi, hz, hsize, hby, hzs⟩ := E.hi
  refine wpList_append_own _ hgd s x T ho base e i z size bytes E.ht hi hz hsize hby hzs E.hpos v n xs hs (hown.alloc _) ⟨w.heap.size, 0, none⟩ 1 1 news hx (by omega) ?_ h1 h63 hbytes (by simp; omega) ?_
  · intro j u hj
    have ha : (⟨w.heap.size, 0, none⟩ : Addr).add j = ⟨w.heap.size, j, none⟩ := by unfold Addr.add; split <;> simp_all
    rw [ha, World.cell?_alloc_at _ _ _ _ rfl]
    simpa using hj
  · intro v' w' hown' hg _
    refine h v' w' hown' ((hbel.alloc hbase _).grown hg (by simp; omega) (fun k hk => own_base hown k hk)) ?_
    have := hg.size
    simpa using this

/-- the cells of an owned row, read -/
theorem own_cell {w : World} {base : Nat} {e : TypeId} {size n : Nat} {v : Value} {xs : List Value} (h : w.ownsRow base e size v n xs) (hn : 0 < n) : ∃ g cap, v = .slice (some ⟨g, 0, none⟩) n cap ∧ base ≤ g ∧ g < w.heap.size ∧ n ≤ maxLen ∧ ∀ j u, xs[j]? = some u → w.cell? ⟨g, j, none⟩ = some u := by
  obtain ⟨g, cap, hv, hg, _⟩ := h.form hn
  have hm : n ≤ maxLen ∧ g < w.heap.size := by
    rcases h.2 with ⟨_, h1⟩ | ⟨g', cap', cur, he, _, hh, h1, h2, _⟩
    · omega
    · rw [hv] at he
      injection he with he _ _
      injection he with he
      injection he with he _ _
      subst he
      exact ⟨Nat.le_trans h1 h2, (Array.getElem?_eq_some_iff.1 hh).1⟩
  refine ⟨g, cap, hv, hg, hm.2, hm.1, fun j u hj => ?_⟩
  have ha : (⟨g, 0, none⟩ : Addr).add j = ⟨g, j, none⟩ := by unfold Addr.add; split <;> simp_all
  rw [← ha]
  exact h.cells (g := g) (by rw [hv]; rfl) j u hj

/-- an owned row of bytes, as a text -/
theorem own_text {P : Program} {src dst e : TypeId} (hs : P.underlying src = some (.slice e)) (he : P.underlying e = some (.int .u8)) (hd : P.underlying dst = some .string) {w : World} {base n : Nat} {v : Value} {l : List UInt8}
    (h : w.ownsRow base e 1 v n (byteVals l)) (hn : n = l.length) : (convert src dst v).run P w = .ok (.string (str l)) w := by
  subst hn
  rcases Nat.eq_zero_or_pos l.length with h0 | h0
  · obtain rfl := List.eq_nil_of_length_eq_zero h0
    rcases h.2 with ⟨rfl, _⟩ | ⟨g, cap, cur, rfl, _⟩
    · exact run_convert_bytes_nil w src e hs he 0 0 dst hd
    · exact run_convert_bytes_arg w src e hs he g 0 0 cap [] rfl (fun i hi => absurd hi (Nat.not_lt_zero _)) dst hd
  · obtain ⟨g, cap, rfl, _, _, _, hc⟩ := own_cell h h0
    have e1 : strOfNums (l.map fun c => (c.toNat : Int)) = str l := by
      simp only [strOfNums, str, List.map_map]
      rw [List.map_id'' (fun c => by simp) l]
    rw [← e1]
    refine run_convert_bytes_arg w src e hs he g 0 l.length cap (l.map fun c => (c.toNat : Int)) (by simp) (fun i hi => ?_) dst hd
    rw [Nat.zero_add]
    refine hc i _ ?_
    simp [byteVals, List.getD, hi]

theorem bits_hex_fin : ∀ x : Fin 16, ∀ y : Fin 16, bits BinOp.or IntKind.i64 ((x.val : Int) * 16) (y.val : Int) % 256 = (x.val : Int) * 16 + (y.val : Int) := by decide +kernel
theorem bits_hex (x y : Int) (hx : 0 ≤ x) (hx' : x ≤ 15) (hy : 0 ≤ y) (hy' : y ≤ 15) : bits BinOp.or IntKind.i64 (x * 16) y % 256 = x * 16 + y := by
  obtain ⟨a, rfl⟩ := Int.eq_ofNat_of_zero_le hx
  obtain ⟨b, rfl⟩ := Int.eq_ofNat_of_zero_le hy
  exact bits_hex_fin ⟨a, by omega⟩ ⟨b, by omega⟩
theorem hexByte_val (e f : UInt8) (he : 0 ≤ hexDig e) (hf : 0 ≤ hexDig f) : bits BinOp.or IntKind.i64 (hexDig e * 16) (hexDig f) % 256 = ((hexByte e f).toNat : Int) := by
  have h1 := hexDig_hi e
  have h2 := hexDig_hi f
  rw [bits_hex _ _ he h1 hf h2]
  unfold hexByte
  simp
  omega

end Go.Proofs.YtdochnioodedmaaDoor
