/- bolterlaw14.CensusGreat, its tied card: the law answers true. It takes no argument; no condition of its own. -/
import Derived.Test.YtpkngnompkdlnaaDoorLaw
import Derived.Test.YtpkngnompkdlnaaDoorGreat
import Derived.Test.YtpkngnompkdlnaaDoorHead
namespace Go.Proofs.YtpkngnompkdlnaaDoor.CensusGreat
open Go.RowKit Go.ChangeShapes Go.WideShapes Go.ChangeAt

abbrev wit : Array Value := #[]

set_option maxRecDepth 100000 in
theorem lifted (os : Os) (started : os.Started) (H : Type) (enc : TypeId × Value → H) (F : Stop.Interp) :
    ReturnsInHanded {} Tryd.checked os 5 .any ((OpenSpec.ofChange Rows.censusGreatSpec).preRow enc Tryd.prog Tryd.f5 Rows.censusGreatRow.domain false Rows.censusGreatRow.laid)
      (((OpenSpec.ofChange Rows.censusGreatSpec).at F).post enc Tryd.prog Tryd.f5 false true false false) := by
  have hw : (DataW.whole enc Tryd.prog ((World.laidAll Tryd.prog os Rows.censusGreatRow.laid).forCall (fun _ _ => 0) ⟨#[], wit, []⟩).memory Tryd.f5.params.toList Rows.censusGreatSpec.vars false wit.toList 8).map (fun x => (x.1, x.2.1)) =
      some ([], []) := by kernel_rfl
  obtain ⟨⟨x1, x2, x3⟩, hx, hx1⟩ := Option.map_eq_some_iff.1 hw
  simp only [Prod.mk.injEq] at hx1
  obtain ⟨rfl, rfl⟩ := hx1
  refine returnsInHanded_of_row (C := Tryd.checked) (s := OpenSpec.ofChange Rows.censusGreatSpec) own started (by kernel_rfl) Tryd.func5
    (witness_laid (enc := enc) (laid := Rows.censusGreatRow.laid) wit (by kernel_rfl) (by kernel_rfl) (by kernel_rfl)
      (OpenSpec.preRow_of_cond 8 hx (by kernel_rfl) (fun k hk => by cases hk) (by kernel_rfl) (by rw [MakeChecks.laidMetH_plain _ _ _ (by kernel_rfl)]; exact laidMet_laidAll _ (by kernel_rfl) (by kernel_rfl)))) ?_
  intro W base args ds gs before hval hW _ _ hsz _ _ _
  exact law_post0 (fn := Tryd.f5) (s := Rows.censusGreatSpec) (by kernel_rfl) (by kernel_rfl) rfl rfl hW (fun W => censusGreat_c W)

theorem c_name : Tryd.prog.funcNamed Rows.censusGreatRow.func = some 5 := by kernel_rfl
set_option maxRecDepth 100000 in
set_option maxHeartbeats 8000000 in
theorem c_closed : joinedFacts Tryd.prog 5 Tryd.f5 (OpenSpec.ofChange Rows.censusGreatSpec).bare Rows.censusGreatRow = true := by
  unfold joinedFacts
  rw [Head.mayEnter, Head.liftsFinal, Head.make]
  repeat' (with_reducible apply Head.and_mk)
  all_goals (as_aux_lemma => kernel_rfl)
theorem c_inst : Tryd.f5.isInstance Tryd.prog Rows.censusGreatRow.origin Rows.censusGreatRow.targs := of_decide_eq_true (by kernel_rfl)
theorem c_wrap : Tryd.f5.isWrapper Tryd.prog Rows.censusGreatRow.wrapper Rows.censusGreatRow.mainSum := by
  unfold Func.isWrapper; first | (rw [if_pos (by decide +kernel)]; kernel_rfl) | (rw [if_neg (by decide +kernel)]; exact ⟨rfl, rfl⟩)
theorem said : Rows.CensusGreatSaid :=
  OpenClaim.holds_of_cond 5 Tryd.f5 rfl rfl rfl rfl rfl rfl rfl ⟨rfl, rfl, rfl, rfl, rfl⟩ rfl rfl rfl rfl rfl c_name Tryd.func5 c_closed c_inst c_wrap
    (fun os started H enc _ F => by rw [OpenClaim.pre_eq_preRow]; exact lifted os started H enc F)

theorem plain (f : FuncId) (fn : Func) (hf : Tryd.pinned.checked.prog.funcNamed "bolter/bolterlaw14.CensusGreat" = some f) (hfn : Tryd.pinned.checked.prog.funcs[f]? = some fn) :
    true = Tryd.pinned.checked.prog.looks [] ∧ ∀ (j : Nat) t, fn.params[j]? = some t → Tryd.pinned.checked.prog.wantsStandIn t = false := by
  obtain rfl : f = 5 := Option.some.inj ((show Tryd.prog.funcNamed "bolter/bolterlaw14.CensusGreat" = some 5 by kernel_rfl).symm.trans hf) |>.symm
  obtain rfl : fn = Tryd.f5 := (Option.some.inj (Tryd.func5.symm.trans hfn)).symm
  refine ⟨by kernel_rfl, fun j t ht => ?_⟩
  rw [Tryd.params5] at ht
  simp at ht

theorem c_wf : Rows.censusGreatRow.wfByText (OpenSpec.ofChange Rows.censusGreatSpec) = true := by kernel_rfl
theorem c_goes : false = Rows.censusGreatRow.goesBy Tryd.prog := by kernel_rfl

/-- THE CARD -/
theorem card : Rows.CensusGreatCardSaid :=
  Claim7.holds_tied_plain_at .later [] _ _ _ _ said (fun _ h => by cases h) c_wf (fun _ h => by cases h) censusGreat_row_tie rfl ⟨rfl, rfl⟩ Head.main rfl plain c_goes
end Go.Proofs.YtpkngnompkdlnaaDoor.CensusGreat
