/- bolterlaw15.RowsRuns, its tied card: For every argument that can be read and is of the bulk that the second form names, the law answers true and leaves the input as it was. The bound on the bulk is the form's only condition; the walk does not use it. -/
import Derived.Test.YtngbaaiocoobdaaDoorArg15
import Derived.Test.YtngbaaiocoobdaaDoorRunsLaw
import Derived.Test.YtngbaaiocoobdaaDoorHead
namespace Go.Proofs.YtngbaaiocoobdaaDoor.RowsRuns
open Go.RowKit Go.ChangeShapes Go.WideShapes Go.ChangeAt

set_option maxRecDepth 100000 in
theorem walk {H : Type} {enc : TypeId × Value → H} {W : World} {base : Nat} (v : Value) (d : DataW H) (p : List MemPlace) (hok : Value.okWide Tryd.prog W .any base 47 v)
    (h : DataW.Trod enc Tryd.prog W 0 (fun _ => true) true 47 v d p) (hfit : Fits 47 d) :
    Calls Tryd.prog 6 #[v] W fun e w' => e = .returned (.bool true) ∧ Ext W w' := by
  obtain ⟨v1, v2, l, ts, rfl, hl, ht, hb⟩ := arg_texts hok h hfit
  exact runsLaw_c hl ht hb

abbrev wit : Array Value := #[.agg #[.slice none 0 0, .slice none 0 0]]

set_option maxRecDepth 100000 in
theorem lifted (os : Os) (started : os.Started) (H : Type) (enc : TypeId × Value → H) (F : Stop.Interp) :
    ReturnsInHanded {} Tryd.checked os 6 .any ((Rows.OpenSpec.upto Rows.rowsRunsSpec).preRow enc Tryd.prog Tryd.f6 Rows.rowsRunsUptoRow.domain false Rows.rowsRunsUptoRow.laid)
      (((Rows.OpenSpec.upto Rows.rowsRunsSpec).at F).post enc Tryd.prog Tryd.f6 false true false false) := by
  have hw : (DataW.whole enc Tryd.prog ((World.laidAll Tryd.prog os Rows.rowsRunsUptoRow.laid).forCall (fun _ _ => 0) ⟨#[], wit, []⟩).memory Tryd.f6.params.toList Rows.rowsRunsSpec.vars false wit.toList 8).map (fun x => (x.1, x.2.1)) =
      some ([.agg [.nil, .nil]], []) := by kernel_rfl
  obtain ⟨⟨x1, x2, x3⟩, hx, hx1⟩ := Option.map_eq_some_iff.1 hw
  simp only [Prod.mk.injEq] at hx1
  obtain ⟨rfl, rfl⟩ := hx1
  refine returnsInHanded_of_row (C := Tryd.checked) (s := Rows.OpenSpec.upto Rows.rowsRunsSpec) own started (by kernel_rfl) Tryd.func6
    (witness_laid (enc := enc) (laid := Rows.rowsRunsUptoRow.laid) wit (by kernel_rfl) (by kernel_rfl) (by kernel_rfl)
      (OpenSpec.preRow_of_cond 8 hx (by kernel_rfl) (fun k hk => by cases hk; kernel_rfl) (by kernel_rfl) (by rw [MakeChecks.laidMetH_plain _ _ _ (by kernel_rfl)]; exact laidMet_laidAll _ (by kernel_rfl) (by kernel_rfl)))) ?_
  intro W base args ds gs before hval hW _ _ hsz _ _ _
  exact law_post (fn := Tryd.f6) (s := Rows.rowsRunsSpec) (by kernel_rfl) (by kernel_rfl) (fun _ => rfl) rfl (by kernel_rfl) (of_decide_eq_true (by kernel_rfl)) hval hW hsz walk

theorem c_name : Tryd.prog.funcNamed Rows.rowsRunsUptoRow.func = some 6 := by kernel_rfl
set_option maxRecDepth 100000 in
set_option maxHeartbeats 8000000 in
theorem c_closed : joinedFacts Tryd.prog 6 Tryd.f6 (Rows.OpenSpec.upto Rows.rowsRunsSpec).bare Rows.rowsRunsUptoRow = true := by
  unfold joinedFacts
  rw [Head.mayEnter, Head.liftsFinal, Head.make]
  repeat' (with_reducible apply Head.and_mk)
  all_goals (as_aux_lemma => kernel_rfl)
theorem c_inst : Tryd.f6.isInstance Tryd.prog Rows.rowsRunsUptoRow.origin Rows.rowsRunsUptoRow.targs := of_decide_eq_true (by kernel_rfl)
theorem c_wrap : Tryd.f6.isWrapper Tryd.prog Rows.rowsRunsUptoRow.wrapper Rows.rowsRunsUptoRow.mainSum := by
  unfold Func.isWrapper; first | (rw [if_pos (by decide +kernel)]; kernel_rfl) | (rw [if_neg (by decide +kernel)]; exact ⟨rfl, rfl⟩)
theorem said : Rows.RowsRunsUptoSaid :=
  OpenClaim.holds_of_cond 6 Tryd.f6 rfl rfl rfl rfl rfl rfl rfl ⟨rfl, rfl, rfl, rfl, rfl⟩ rfl rfl rfl rfl rfl c_name Tryd.func6 c_closed c_inst c_wrap
    (fun os started H enc _ F => by rw [OpenClaim.pre_eq_preRow]; exact lifted os started H enc F)

theorem plain (f : FuncId) (fn : Func) (hf : Tryd.pinned.checked.prog.funcNamed "bolter/bolterlaw15.RowsRuns" = some f) (hfn : Tryd.pinned.checked.prog.funcs[f]? = some fn) :
    true = Tryd.pinned.checked.prog.looks [] ∧ ∀ (j : Nat) t, fn.params[j]? = some t → Tryd.pinned.checked.prog.wantsStandIn t = false := by
  obtain rfl : f = 6 := Option.some.inj ((show Tryd.prog.funcNamed "bolter/bolterlaw15.RowsRuns" = some 6 by kernel_rfl).symm.trans hf) |>.symm
  obtain rfl : fn = Tryd.f6 := (Option.some.inj (Tryd.func6.symm.trans hfn)).symm
  refine ⟨by kernel_rfl, fun j t ht => ?_⟩
  rw [Tryd.params6] at ht
  obtain rfl : t = 47 := by simpa using Array.mem_of_getElem? ht
  exact (show Tryd.prog.wantsStandIn 47 = false by kernel_rfl)

theorem c_wf : Rows.rowsRunsUptoRow.wfByText (Rows.OpenSpec.upto Rows.rowsRunsSpec) = true := by kernel_rfl
theorem c_goes : false = Rows.rowsRunsUptoRow.goesBy Tryd.prog := by kernel_rfl

/-- THE CARD -/
theorem card : Rows.RowsRunsUptoCardSaid :=
  Claim7.holds_tied_plain_at .later [] _ _ _ _ said (fun _ h => by cases h) c_wf (fun _ h => by cases h) rowsRunsUpto_row_tie rfl ⟨rfl, rfl⟩ Head.main rfl plain c_goes
end Go.Proofs.YtngbaaiocoobdaaDoor.RowsRuns
