/- bolterlaw16.CombGreat, its tied card: the law answers true. It takes no argument; no condition of its own. -/
import Derived.Test.YtpeipjfmibjoiaaDoorLaw
import Derived.Test.YtpeipjfmibjoiaaDoorGrt16
import Derived.Test.YtpeipjfmibjoiaaDoorHead
namespace Go.Proofs.YtpeipjfmibjoiaaDoor.CombGreat
open Go.RowKit Go.ChangeShapes Go.WideShapes Go.ChangeAt

abbrev wit : Array Value := #[]

set_option maxRecDepth 100000 in
theorem lifted (os : Os) (started : os.Started) (H : Type) (enc : TypeId × Value → H) (F : Stop.Interp) :
    ReturnsInHanded {} Tryd.checked os 6 .any ((OpenSpec.ofChange Rows.combGreatSpec).preRow enc Tryd.prog Tryd.f6 Rows.combGreatRow.domain false Rows.combGreatRow.laid)
      (((OpenSpec.ofChange Rows.combGreatSpec).at F).post enc Tryd.prog Tryd.f6 false true false false) := by
  have hw : (DataW.whole enc Tryd.prog ((World.laidAll Tryd.prog os Rows.combGreatRow.laid).forCall (fun _ _ => 0) ⟨#[], wit, []⟩).memory Tryd.f6.params.toList Rows.combGreatSpec.vars false wit.toList 8).map (fun x => (x.1, x.2.1)) =
      some ([], []) := by kernel_rfl
  obtain ⟨⟨x1, x2, x3⟩, hx, hx1⟩ := Option.map_eq_some_iff.1 hw
  simp only [Prod.mk.injEq] at hx1
  obtain ⟨rfl, rfl⟩ := hx1
  refine returnsInHanded_of_row (C := Tryd.checked) (s := OpenSpec.ofChange Rows.combGreatSpec) own started (by kernel_rfl) Tryd.func6
    (witness_laid (enc := enc) (laid := Rows.combGreatRow.laid) wit (by kernel_rfl) (by kernel_rfl) (by kernel_rfl)
      (OpenSpec.preRow_of_cond 8 hx (by kernel_rfl) (fun k hk => by cases hk) (by kernel_rfl) (by rw [MakeChecks.laidMetH_plain _ _ _ (by kernel_rfl)]; exact laidMet_laidAll _ (by kernel_rfl) (by kernel_rfl)))) ?_
  intro W base args ds gs before hval hW _ _ hsz _ _ _
  exact law_post0 (fn := Tryd.f6) (s := Rows.combGreatSpec) (by kernel_rfl) (by kernel_rfl) rfl rfl hW (fun W => combGreat_c W)

theorem c_name : Tryd.prog.funcNamed Rows.combGreatRow.func = some 6 := by kernel_rfl
set_option maxRecDepth 100000 in
set_option maxHeartbeats 8000000 in
theorem c_closed : joinedFacts Tryd.prog 6 Tryd.f6 (OpenSpec.ofChange Rows.combGreatSpec).bare Rows.combGreatRow = true := by
  unfold joinedFacts
  rw [Head.mayEnter, Head.liftsFinal, Head.make]
  repeat' (with_reducible apply Head.and_mk)
  all_goals (as_aux_lemma => kernel_rfl)
theorem c_inst : Tryd.f6.isInstance Tryd.prog Rows.combGreatRow.origin Rows.combGreatRow.targs := of_decide_eq_true (by kernel_rfl)
theorem c_wrap : Tryd.f6.isWrapper Tryd.prog Rows.combGreatRow.wrapper Rows.combGreatRow.mainSum := by
  unfold Func.isWrapper; first | (rw [if_pos (by decide +kernel)]; kernel_rfl) | (rw [if_neg (by decide +kernel)]; exact ⟨rfl, rfl⟩)
theorem said : Rows.CombGreatSaid :=
  OpenClaim.holds_of_cond 6 Tryd.f6 rfl rfl rfl rfl rfl rfl rfl ⟨rfl, rfl, rfl, rfl, rfl⟩ rfl rfl rfl rfl rfl c_name Tryd.func6 c_closed c_inst c_wrap
    (fun os started H enc _ F => by rw [OpenClaim.pre_eq_preRow]; exact lifted os started H enc F)

theorem plain (f : FuncId) (fn : Func) (hf : Tryd.pinned.checked.prog.funcNamed "bolter/bolterlaw16.CombGreat" = some f) (hfn : Tryd.pinned.checked.prog.funcs[f]? = some fn) :
    true = Tryd.pinned.checked.prog.looks [] ∧ ∀ (j : Nat) t, fn.params[j]? = some t → Tryd.pinned.checked.prog.wantsStandIn t = false := by
  obtain rfl : f = 6 := Option.some.inj ((show Tryd.prog.funcNamed "bolter/bolterlaw16.CombGreat" = some 6 by kernel_rfl).symm.trans hf) |>.symm
  obtain rfl : fn = Tryd.f6 := (Option.some.inj (Tryd.func6.symm.trans hfn)).symm
  refine ⟨by kernel_rfl, fun j t ht => ?_⟩
  rw [Tryd.params6] at ht
  simp at ht

theorem c_wf : Rows.combGreatRow.wfByText (OpenSpec.ofChange Rows.combGreatSpec) = true := by kernel_rfl
theorem c_goes : false = Rows.combGreatRow.goesBy Tryd.prog := by kernel_rfl

/-- THE CARD -/
theorem card : Rows.CombGreatCardSaid :=
  Claim7.holds_tied_plain_at .later [] _ _ _ _ said (fun _ h => by cases h) c_wf (fun _ h => by cases h) combGreat_row_tie rfl ⟨rfl, rfl⟩ Head.main rfl plain c_goes
end Go.Proofs.YtpeipjfmibjoiaaDoor.CombGreat
