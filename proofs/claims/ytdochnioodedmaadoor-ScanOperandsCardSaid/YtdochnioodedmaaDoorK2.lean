/- The law ScanOperands: for every token the law returns true and leaves its argument as it was. No condition. -/
import Derived.Test.YtdochnioodedmaaDoorS2
import Derived.Test.YtdochnioodedmaaDoorK1
namespace Go.Proofs.YtdochnioodedmaaDoor.scanOperandsLaw
open Go Go.ChangeShapes Go.WideShapes Go.ChangeAt Go.RowKit Go.Joins

theorem cellsTok : Tryd.prog.cellsOf 23 = 4 := by kernel_rfl

theorem contract (H : Type) (enc : TypeId × Value → H) (W : World) (base : Nat) (args : Array Value) (ds gs : List (DataW H)) (before : List MemPlace)
    (hval : ∀ (j : Nat) t v, Tryd.f3.params[j]? = some t → args[j]? = some v → Value.okWide Tryd.prog W .any base t v)
    (hW : DataW.Whole enc Tryd.prog Tryd.f3.params.toList Rows.scanOperandsSpec.vars false W args.toList ds gs before) :
    Calls Tryd.prog 3 args W fun e W' => ∃ v, e = .returned v ∧ Rows.scanOperandsSpec.post enc Tryd.prog Tryd.f3 false true false false W args v W' := by
  have hW' := hW
  obtain ⟨p, q, hA0, hV, rfl, hfz, hnd⟩ := hW
  have hA : DataW.TrodAll enc Tryd.prog W 0 (fun _ => true) true Tryd.f3.params.toList args.toList ds p := hA0
  rw [Tryd.params3] at hA hval
  obtain ⟨v0, d0, rfl, rfl, h0⟩ := trodAll_one hA
  obtain ⟨rfl, rfl⟩ := trodVars_none hV
  obtain ⟨c0, c1, c2, c3, y0, y1, y2, y3, m, rfl, rfl, rfl, hy0, hy1, hy2, hy3⟩ := open_agg4 Tryd.underlying23 (by kernel_rfl) cellsTok (hval 0 23 v0 rfl rfl) h0
  obtain ⟨k, e0, rfl, wk⟩ := DataW.trod_int Tryd.underlying3 hy0
  obtain ⟨a, e1, rfl, wa⟩ := DataW.trod_int Tryd.underlying3 hy1
  obtain ⟨t, e2, rfl, wt⟩ := DataW.trod_string Tryd.underlying9 hy2
  obtain ⟨n, e3, rfl, wn⟩ := DataW.trod_int Tryd.underlying2 hy3
  simp at e0 e1 e2 e3
  subst e0 e1 e2 e3
  clear hA0
  simp only [List.append_nil] at hW'
  have structReads : ∀ (W' : World) (sp : Nat → Bool), DataW.Trod enc Tryd.prog W' 0 sp true 23 (.agg #[.int .i64 k, .int .i64 a, .string t, .int .i64 n]) (.agg [.lit (.int .i64 k), .lit (.int .i64 a), .lit (.string t.data.toList), .lit (.int .i64 n)]) [] := fun W' sp =>
    shut_agg4 (y0 := (.lit (.int .i64 k), [])) (y1 := (.lit (.int .i64 a), [])) (y2 := (.lit (.string t.data.toList), [])) (y3 := (.lit (.int .i64 n), [])) Tryd.underlying23 (by kernel_rfl) cellsTok ⟨1, by simp [DataW.trod, Tryd.underlying3, wk]⟩ ⟨1, by simp [DataW.trod, Tryd.underlying3, wa]⟩ ⟨1, by simp [DataW.trod, Tryd.underlying9, wt]⟩ ⟨1, by simp [DataW.trod, Tryd.underlying2, wn]⟩
  refine (scanOperands_any k a n t W).mono fun e W' ⟨he, hb⟩ => ?_
  subst he
  exact ⟨_, rfl, law_post hW' (fun _ _ _ => trodAll_mk1 (shut_bool Tryd.underlying4 true)) (fun sp => trodAll_mk1 (structReads _ sp)) (fun _ => rfl) hb (ok_one (by kernel_rfl) rfl (okWide_bool_mk Tryd.underlying4 _))⟩

theorem laid_met (os : Os) : laidMet Tryd.prog Rows.scanOperandsRow.laid ((laidWorld os).forCall (fun _ _ => 0) ⟨#[], #[.agg #[.int .i64 0, .int .i64 0, .string ⟨#[]⟩, .int .i64 0]], []⟩).memory :=
  laidMet_of_run' 8 (by kernel_rfl) (by kernel_rfl)
theorem reads (os : Os) {H : Type} (enc : TypeId × Value → H) : ∃ places, DataW.whole enc Tryd.prog ((laidWorld os).forCall (fun _ _ => 0) ⟨#[], #[.agg #[.int .i64 0, .int .i64 0, .string ⟨#[]⟩, .int .i64 0]], []⟩).memory Tryd.f3.params.toList Rows.scanOperandsSpec.vars false #[Value.agg #[.int .i64 0, .int .i64 0, .string ⟨#[]⟩, .int .i64 0]].toList 8 = some ([.agg [.lit (.int .i64 0), .lit (.int .i64 0), .lit (.string []), .lit (.int .i64 0)]], [], places) :=
  ⟨[], by kernel_rfl⟩

set_option maxRecDepth 100000 in
theorem lifted (os : Os) (started : os.Started) (H : Type) (enc : TypeId × Value → H) (F : Stop.Interp) :
    ReturnsInHanded {} Tryd.checked os 3 .any ((OpenSpec.ofChange Rows.scanOperandsSpec).preRow enc Tryd.prog Tryd.f3 Rows.scanOperandsRow.domain false Rows.scanOperandsRow.laid) (((OpenSpec.ofChange Rows.scanOperandsSpec).at F).post enc Tryd.prog Tryd.f3 false true false false) := by
  obtain ⟨places, hx⟩ := reads os enc
  refine returnsInHanded_of_row (C := Tryd.checked) (s := OpenSpec.ofChange Rows.scanOperandsSpec) own started (by kernel_rfl) Tryd.func3
    (witness_row_at (enc := enc) (C := Tryd.checked) false (laidWorld os) #[.agg #[.int .i64 0, .int .i64 0, .string ⟨#[]⟩, .int .i64 0]] rfl (by kernel_rfl) (by kernel_rfl) (by kernel_rfl)
      (OpenSpec.preRow_of_cond 8 hx (by kernel_rfl) (fun k hk => by cases hk) (by kernel_rfl) (laid_met os))) ?_
  intro W base args ds gs before hval hW _ _ _ _ _ _
  exact contract H enc W base args ds gs before hval hW

theorem said : Rows.ScanOperandsSaid :=
  OpenClaim.holds_of_cond 3 Tryd.f3 rfl rfl rfl rfl rfl rfl rfl ⟨rfl, rfl, rfl, rfl, rfl⟩ rfl rfl rfl rfl rfl (by kernel_rfl) Tryd.func3 (by kernel_rfl)
    (of_decide_eq_true (by kernel_rfl)) (by unfold Func.isWrapper; first | (rw [if_pos (by decide +kernel)]; kernel_rfl) | (rw [if_neg (by decide +kernel)]; exact ⟨rfl, rfl⟩))
    (fun os started H enc _ F => by rw [OpenClaim.pre_eq_preRow]; exact lifted os started H enc F)

theorem plain (f : FuncId) (fn : Func) (hf : Tryd.pinned.checked.prog.funcNamed "dragoman/dragomanlaw15.ScanOperands" = some f) (hfn : Tryd.pinned.checked.prog.funcs[f]? = some fn) :
    true = Tryd.pinned.checked.prog.looks [] ∧ ∀ (j : Nat) t, fn.params[j]? = some t → Tryd.pinned.checked.prog.wantsStandIn t = false := by
  obtain rfl : f = 3 := Option.some.inj ((show Tryd.prog.funcNamed "dragoman/dragomanlaw15.ScanOperands" = some 3 by kernel_rfl).symm.trans hf) |>.symm
  obtain rfl : fn = Tryd.f3 := (Option.some.inj (Tryd.func3.symm.trans hfn)).symm
  refine ⟨by kernel_rfl, fun j t ht => ?_⟩
  rw [Tryd.params3] at ht
  obtain rfl : t = 23 := by simpa using Array.mem_of_getElem? ht
  exact (show Tryd.prog.wantsStandIn 23 = false by kernel_rfl)

end Go.Proofs.YtdochnioodedmaaDoor.scanOperandsLaw
namespace Go.Proofs.YtdochnioodedmaaDoor
open Go
theorem scanOperands_card : Rows.ScanOperandsCardSaid :=
  Claim7.holds_tied_plain_at .later [] _ _ _ _ scanOperandsLaw.said (fun _ h => by cases h) (by kernel_rfl) (fun _ h => by cases h) scanOperands_row_tie rfl ⟨rfl, rfl⟩ (by kernel_rfl) rfl scanOperandsLaw.plain (by kernel_rfl)
end Go.Proofs.YtdochnioodedmaaDoor
