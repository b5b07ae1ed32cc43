/- bolterlaw16.CombEntries, its tied card: For every argument that can be read, the law answers true and leaves the input as it was. No condition of its own. -/
import Derived.Test.YtpeipjfmibjoiaaDoorArgTbl
import Derived.Test.YtpeipjfmibjoiaaDoorEntriesLaw
import Derived.Test.YtpeipjfmibjoiaaDoorHead
namespace Go.Proofs.YtpeipjfmibjoiaaDoor.CombEntries
open Go.RowKit Go.ChangeShapes Go.WideShapes Go.ChangeAt

set_option maxRecDepth 100000 in
theorem walk {H : Type} {enc : TypeId × Value → H} {W : World} {base : Nat} (v : Value) (d : DataW H) (p : List MemPlace) (hok : Value.okWide Tryd.prog W .any base 37 v)
    (h : DataW.Trod enc Tryd.prog W 0 (fun _ => true) true 37 v d p) (hfit : Fits 37 d) :
    Calls Tryd.prog 4 #[v] W fun e w' => e = .returned (.bool true) ∧ Ext W w' := by
  obtain ⟨T, hT⟩ := arg_tbl hok h hfit
  exact combEntries_c hT

abbrev wit : Array Value := #[.agg #[.slice none 0 0, .int .i64 0, .slice none 0 0, .slice none 0 0, .slice none 0 0]]

set_option maxRecDepth 100000 in
theorem lifted (os : Os) (started : os.Started) (H : Type) (enc : TypeId × Value → H) (F : Stop.Interp) :
    ReturnsInHanded {} Tryd.checked os 4 .any ((OpenSpec.ofChange Rows.combEntriesSpec).preRow enc Tryd.prog Tryd.f4 Rows.combEntriesRow.domain false Rows.combEntriesRow.laid)
      (((OpenSpec.ofChange Rows.combEntriesSpec).at F).post enc Tryd.prog Tryd.f4 false true false false) := by
  have hw : (DataW.whole enc Tryd.prog ((World.laidAll Tryd.prog os Rows.combEntriesRow.laid).forCall (fun _ _ => 0) ⟨#[], wit, []⟩).memory Tryd.f4.params.toList Rows.combEntriesSpec.vars false wit.toList 8).map (fun x => (x.1, x.2.1)) =
      some ([.agg [.nil, .lit (.int .i64 0), .nil, .nil, .nil]], []) := by kernel_rfl
  obtain ⟨⟨x1, x2, x3⟩, hx, hx1⟩ := Option.map_eq_some_iff.1 hw
  simp only [Prod.mk.injEq] at hx1
  obtain ⟨rfl, rfl⟩ := hx1
  refine returnsInHanded_of_row (C := Tryd.checked) (s := OpenSpec.ofChange Rows.combEntriesSpec) own started (by kernel_rfl) Tryd.func4
    (witness_laid (enc := enc) (laid := Rows.combEntriesRow.laid) wit (by kernel_rfl) (by kernel_rfl) (by kernel_rfl)
      (OpenSpec.preRow_of_cond 8 hx (by kernel_rfl) (fun k hk => by cases hk) (by kernel_rfl) (by rw [MakeChecks.laidMetH_plain _ _ _ (by kernel_rfl)]; exact laidMet_laidAll _ (by kernel_rfl) (by kernel_rfl)))) ?_
  intro W base args ds gs before hval hW _ _ hsz _ _ _
  exact law_post (fn := Tryd.f4) (s := Rows.combEntriesSpec) (by kernel_rfl) (by kernel_rfl) (fun _ => rfl) rfl (by kernel_rfl) (of_decide_eq_true (by kernel_rfl)) hval hW hsz walk

theorem c_name : Tryd.prog.funcNamed Rows.combEntriesRow.func = some 4 := by kernel_rfl
set_option maxRecDepth 100000 in
set_option maxHeartbeats 8000000 in
theorem c_closed : joinedFacts Tryd.prog 4 Tryd.f4 (OpenSpec.ofChange Rows.combEntriesSpec).bare Rows.combEntriesRow = true := by
  unfold joinedFacts
  rw [Head.mayEnter, Head.liftsFinal, Head.make]
  repeat' (with_reducible apply Head.and_mk)
  all_goals (as_aux_lemma => kernel_rfl)
theorem c_inst : Tryd.f4.isInstance Tryd.prog Rows.combEntriesRow.origin Rows.combEntriesRow.targs := of_decide_eq_true (by kernel_rfl)
theorem c_wrap : Tryd.f4.isWrapper Tryd.prog Rows.combEntriesRow.wrapper Rows.combEntriesRow.mainSum := by
  unfold Func.isWrapper; first | (rw [if_pos (by decide +kernel)]; kernel_rfl) | (rw [if_neg (by decide +kernel)]; exact ⟨rfl, rfl⟩)
theorem said : Rows.CombEntriesSaid :=
  OpenClaim.holds_of_cond 4 Tryd.f4 rfl rfl rfl rfl rfl rfl rfl ⟨rfl, rfl, rfl, rfl, rfl⟩ rfl rfl rfl rfl rfl c_name Tryd.func4 c_closed c_inst c_wrap
    (fun os started H enc _ F => by rw [OpenClaim.pre_eq_preRow]; exact lifted os started H enc F)

theorem plain (f : FuncId) (fn : Func) (hf : Tryd.pinned.checked.prog.funcNamed "bolter/bolterlaw16.CombEntries" = some f) (hfn : Tryd.pinned.checked.prog.funcs[f]? = some fn) :
    true = Tryd.pinned.checked.prog.looks [] ∧ ∀ (j : Nat) t, fn.params[j]? = some t → Tryd.pinned.checked.prog.wantsStandIn t = false := by
  obtain rfl : f = 4 := Option.some.inj ((show Tryd.prog.funcNamed "bolter/bolterlaw16.CombEntries" = some 4 by kernel_rfl).symm.trans hf) |>.symm
  obtain rfl : fn = Tryd.f4 := (Option.some.inj (Tryd.func4.symm.trans hfn)).symm
  refine ⟨by kernel_rfl, fun j t ht => ?_⟩
  rw [Tryd.params4] at ht
  obtain rfl : t = 37 := by simpa using Array.mem_of_getElem? ht
  exact (show Tryd.prog.wantsStandIn 37 = false by kernel_rfl)

theorem c_wf : Rows.combEntriesRow.wfByText (OpenSpec.ofChange Rows.combEntriesSpec) = true := by kernel_rfl
theorem c_goes : false = Rows.combEntriesRow.goesBy Tryd.prog := by kernel_rfl

/-- THE CARD -/
theorem card : Rows.CombEntriesCardSaid :=
  Claim7.holds_tied_plain_at .later [] _ _ _ _ said (fun _ h => by cases h) c_wf (fun _ h => by cases h) combEntries_row_tie rfl ⟨rfl, rfl⟩ Head.main rfl plain c_goes
end Go.Proofs.YtpeipjfmibjoiaaDoor.CombEntries
