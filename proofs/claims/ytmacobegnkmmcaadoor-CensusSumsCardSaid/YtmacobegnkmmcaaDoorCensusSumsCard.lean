/- bolterlaw14.CensusSums, its tied card: For every argument that can be read, the law answers true and leaves the input as it was. No condition of its own. -/
import Derived.Test.YtmacobegnkmmcaaDoorArg
import Derived.Test.YtmacobegnkmmcaaDoorSumsLaw
import Derived.Test.YtmacobegnkmmcaaDoorWakes14
import Derived.Test.YtmacobegnkmmcaaDoorHead
namespace Go.Proofs.YtmacobegnkmmcaaDoor.CensusSums
open Go.RowKit Go.ChangeShapes Go.WideShapes Go.ChangeAt

set_option maxRecDepth 100000 in
theorem walk {H : Type} {enc : TypeId × Value → H} {W : World} {base : Nat} (v : Value) (d : DataW H) (p : List MemPlace) (hok : Value.okWide Tryd.prog W .any base 25 v)
    (h : DataW.Trod enc Tryd.prog W 0 (fun _ => true) true 25 v d p) (hfit : Fits 25 d) :
    Calls Tryd.prog 8 #[v] W fun e w' => e = .returned (.bool true) ∧ Ext W w' := by
  obtain ⟨dn, hd, _⟩ := arg_dense hok h hfit
  by_cases hgo : dn.next.length ≤ 40 ∧ May dn
  · exact sums_go wakes14_c hd hgo.1 hgo.2
  · exact sums_skip wakes14_c hd hgo

abbrev wit : Array Value := #[.agg #[.slice none 0 0, .slice none 0 0]]

set_option maxRecDepth 100000 in
theorem lifted (os : Os) (started : os.Started) (H : Type) (enc : TypeId × Value → H) (F : Stop.Interp) :
    ReturnsInHanded {} Tryd.checked os 8 .any ((OpenSpec.ofChange Rows.censusSumsSpec).preRow enc Tryd.prog Tryd.f8 Rows.censusSumsRow.domain false Rows.censusSumsRow.laid)
      (((OpenSpec.ofChange Rows.censusSumsSpec).at F).post enc Tryd.prog Tryd.f8 false true false false) := by
  have hw : (DataW.whole enc Tryd.prog ((World.laidAll Tryd.prog os Rows.censusSumsRow.laid).forCall (fun _ _ => 0) ⟨#[], wit, []⟩).memory Tryd.f8.params.toList Rows.censusSumsSpec.vars false wit.toList 8).map (fun x => (x.1, x.2.1)) =
      some ([.agg [.nil, .nil]], []) := by kernel_rfl
  obtain ⟨⟨x1, x2, x3⟩, hx, hx1⟩ := Option.map_eq_some_iff.1 hw
  simp only [Prod.mk.injEq] at hx1
  obtain ⟨rfl, rfl⟩ := hx1
  refine returnsInHanded_of_row (C := Tryd.checked) (s := OpenSpec.ofChange Rows.censusSumsSpec) own started (by kernel_rfl) Tryd.func8
    (witness_laid (enc := enc) (laid := Rows.censusSumsRow.laid) wit (by kernel_rfl) (by kernel_rfl) (by kernel_rfl)
      (OpenSpec.preRow_of_cond 8 hx (by kernel_rfl) (fun k hk => by cases hk) (by kernel_rfl) (by rw [MakeChecks.laidMetH_plain _ _ _ (by kernel_rfl)]; exact laidMet_laidAll _ (by kernel_rfl) (by kernel_rfl)))) ?_
  intro W base args ds gs before hval hW _ _ hsz _ _ _
  exact law_post (fn := Tryd.f8) (s := Rows.censusSumsSpec) (by kernel_rfl) (by kernel_rfl) (fun _ => rfl) rfl (by kernel_rfl) (of_decide_eq_true (by kernel_rfl)) hval hW hsz walk

theorem c_name : Tryd.prog.funcNamed Rows.censusSumsRow.func = some 8 := by kernel_rfl
set_option maxRecDepth 100000 in
set_option maxHeartbeats 8000000 in
theorem c_closed : joinedFacts Tryd.prog 8 Tryd.f8 (OpenSpec.ofChange Rows.censusSumsSpec).bare Rows.censusSumsRow = true := by
  unfold joinedFacts
  rw [Head.mayEnter, Head.liftsFinal, Head.make]
  repeat' (with_reducible apply Head.and_mk)
  all_goals (as_aux_lemma => kernel_rfl)
theorem c_inst : Tryd.f8.isInstance Tryd.prog Rows.censusSumsRow.origin Rows.censusSumsRow.targs := of_decide_eq_true (by kernel_rfl)
theorem c_wrap : Tryd.f8.isWrapper Tryd.prog Rows.censusSumsRow.wrapper Rows.censusSumsRow.mainSum := by
  unfold Func.isWrapper; first | (rw [if_pos (by decide +kernel)]; kernel_rfl) | (rw [if_neg (by decide +kernel)]; exact ⟨rfl, rfl⟩)
theorem said : Rows.CensusSumsSaid :=
  OpenClaim.holds_of_cond 8 Tryd.f8 rfl rfl rfl rfl rfl rfl rfl ⟨rfl, rfl, rfl, rfl, rfl⟩ rfl rfl rfl rfl rfl c_name Tryd.func8 c_closed c_inst c_wrap
    (fun os started H enc _ F => by rw [OpenClaim.pre_eq_preRow]; exact lifted os started H enc F)

theorem plain (f : FuncId) (fn : Func) (hf : Tryd.pinned.checked.prog.funcNamed "bolter/bolterlaw14.CensusSums" = some f) (hfn : Tryd.pinned.checked.prog.funcs[f]? = some fn) :
    false = Tryd.pinned.checked.prog.looks [] ∧ ∀ (j : Nat) t, fn.params[j]? = some t → Tryd.pinned.checked.prog.wantsStandIn t = false := by
  obtain rfl : f = 8 := Option.some.inj ((show Tryd.prog.funcNamed "bolter/bolterlaw14.CensusSums" = some 8 by kernel_rfl).symm.trans hf) |>.symm
  obtain rfl : fn = Tryd.f8 := (Option.some.inj (Tryd.func8.symm.trans hfn)).symm
  refine ⟨by kernel_rfl, fun j t ht => ?_⟩
  rw [Tryd.params8] at ht
  obtain rfl : t = 25 := by simpa using Array.mem_of_getElem? ht
  exact (show Tryd.prog.wantsStandIn 25 = false by kernel_rfl)

theorem c_wf : Rows.censusSumsRow.wfByText (OpenSpec.ofChange Rows.censusSumsSpec) = true := by kernel_rfl
theorem c_goes : false = Rows.censusSumsRow.goesBy Tryd.prog := by kernel_rfl

/-- THE CARD -/
theorem card : Rows.CensusSumsCardSaid :=
  Claim7.holds_tied_plain_at .later [] _ _ _ _ said (fun _ h => by cases h) c_wf (fun _ h => by cases h) censusSums_row_tie rfl ⟨rfl, rfl⟩ Head.main rfl plain c_goes
end Go.Proofs.YtmacobegnkmmcaaDoor.CensusSums
