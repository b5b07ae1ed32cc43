/- bolterlaw13.WitnessMore, its tied card: For every argument that can be read, the law answers true and leaves the input as it was. No condition of its own. -/
import Derived.Test.YtloooajippcdlaaDoorArgMany
import Derived.Test.YtloooajippcdlaaDoorSentOf
import Derived.Test.YtloooajippcdlaaDoorMore13
import Derived.Test.YtloooajippcdlaaDoorHead
namespace Go.Proofs.YtloooajippcdlaaDoor.WitnessMore
open Go.RowKit Go.ChangeShapes Go.WideShapes Go.ChangeAt

set_option maxRecDepth 100000 in
theorem walk {H : Type} {enc : TypeId × Value → H} {W : World} {base : Nat} {a : Nat → Addr} (hS : Sents W a) (v : Value) (d : DataW H) (p : List MemPlace) (hok : Value.okWide Tryd.prog W .any base 46 v)
    (h : DataW.Trod enc Tryd.prog W 0 (fun _ => true) true 46 v d p) (hfit : Fits 46 d) :
    Calls Tryd.prog 5 #[v] W fun e w' => e = .returned (.bool true) ∧ Ext W w' := by
  obtain ⟨v1, l, r, rfl, h1, h2⟩ := arg_many hok h hfit
  exact more13_c h1 h2 hS

abbrev wit : Array Value := #[.agg #[.slice none 0 0, .int .i64 0]]

set_option maxRecDepth 100000 in
theorem lifted (os : Os) (started : os.Started) (H : Type) (enc : TypeId × Value → H) (F : Stop.Interp) :
    ReturnsInHanded {} Tryd.checked os 5 .any ((OpenSpec.ofChange Rows.witnessMoreSpec).preRow enc Tryd.prog Tryd.f5 Rows.witnessMoreRow.domain false Rows.witnessMoreRow.laid)
      (((OpenSpec.ofChange Rows.witnessMoreSpec).at F).post enc Tryd.prog Tryd.f5 false true false false) := by
  have hw : (DataW.whole enc Tryd.prog ((sentWorld os).forCall (fun _ _ => 0) ⟨#[], wit, []⟩).memory Tryd.f5.params.toList Rows.witnessMoreSpec.vars false wit.toList 8).map (fun x => (x.1, x.2.1)) =
      some ([.agg [.nil, .lit (.int .i64 0)]], []) := by kernel_rfl
  obtain ⟨⟨x1, x2, x3⟩, hx, hx1⟩ := Option.map_eq_some_iff.1 hw
  simp only [Prod.mk.injEq] at hx1
  obtain ⟨rfl, rfl⟩ := hx1
  refine returnsInHanded_of_row (C := Tryd.checked) (s := OpenSpec.ofChange Rows.witnessMoreSpec) own started (by kernel_rfl) Tryd.func5
    (witness_sent (enc := enc) (laid := Rows.witnessMoreRow.laid) wit (by kernel_rfl) (by kernel_rfl) (by kernel_rfl)
      (OpenSpec.preRow_of_cond 8 hx (by kernel_rfl) (fun k hk => by cases hk) (by kernel_rfl) (sentWorld_met os _))) ?_
  intro W base args ds gs before hval hW _ _ hsz hL _ _
  obtain ⟨a, hS⟩ := sents_of hL
  exact law_post (fn := Tryd.f5) (s := Rows.witnessMoreSpec) (by kernel_rfl) (by kernel_rfl) (fun _ => rfl) rfl (by kernel_rfl) (of_decide_eq_true (by kernel_rfl)) hval hW hsz (walk hS)

theorem c_name : Tryd.prog.funcNamed Rows.witnessMoreRow.func = some 5 := by kernel_rfl
set_option maxRecDepth 100000 in
set_option maxHeartbeats 8000000 in
theorem c_closed : joinedFacts Tryd.prog 5 Tryd.f5 (OpenSpec.ofChange Rows.witnessMoreSpec).bare Rows.witnessMoreRow = true := by
  unfold joinedFacts
  rw [Head.mayEnter, Head.liftsFinal, Head.make]
  repeat' (with_reducible apply Head.and_mk)
  all_goals (as_aux_lemma => kernel_rfl)
theorem c_inst : Tryd.f5.isInstance Tryd.prog Rows.witnessMoreRow.origin Rows.witnessMoreRow.targs := of_decide_eq_true (by kernel_rfl)
theorem c_wrap : Tryd.f5.isWrapper Tryd.prog Rows.witnessMoreRow.wrapper Rows.witnessMoreRow.mainSum := by
  unfold Func.isWrapper; first | (rw [if_pos (by decide +kernel)]; kernel_rfl) | (rw [if_neg (by decide +kernel)]; exact ⟨rfl, rfl⟩)
theorem said : Rows.WitnessMoreSaid :=
  OpenClaim.holds_of_cond 5 Tryd.f5 rfl rfl rfl rfl rfl rfl rfl ⟨rfl, rfl, rfl, rfl, rfl⟩ rfl rfl rfl rfl rfl c_name Tryd.func5 c_closed c_inst c_wrap
    (fun os started H enc _ F => by rw [OpenClaim.pre_eq_preRow]; exact lifted os started H enc F)

theorem plain (f : FuncId) (fn : Func) (hf : Tryd.pinned.checked.prog.funcNamed "bolter/bolterlaw13.WitnessMore" = some f) (hfn : Tryd.pinned.checked.prog.funcs[f]? = some fn) :
    true = Tryd.pinned.checked.prog.looks [] ∧ ∀ (j : Nat) t, fn.params[j]? = some t → Tryd.pinned.checked.prog.wantsStandIn t = false := by
  obtain rfl : f = 5 := Option.some.inj ((show Tryd.prog.funcNamed "bolter/bolterlaw13.WitnessMore" = some 5 by kernel_rfl).symm.trans hf) |>.symm
  obtain rfl : fn = Tryd.f5 := (Option.some.inj (Tryd.func5.symm.trans hfn)).symm
  refine ⟨by kernel_rfl, fun j t ht => ?_⟩
  rw [Tryd.params5] at ht
  obtain rfl : t = 46 := by simpa using Array.mem_of_getElem? ht
  exact (show Tryd.prog.wantsStandIn 46 = false by kernel_rfl)

theorem c_wf : Rows.witnessMoreRow.wfByText (OpenSpec.ofChange Rows.witnessMoreSpec) = true := by kernel_rfl
theorem c_goes : false = Rows.witnessMoreRow.goesBy Tryd.prog := by kernel_rfl

/-- THE CARD -/
theorem card : Rows.WitnessMoreCardSaid :=
  Claim7.holds_tied_plain_at .later [] _ _ _ _ said (fun _ h => by cases h) c_wf (fun _ h => by cases h) witnessMore_row_tie rfl ⟨rfl, rfl⟩ Head.main rfl plain c_goes
end Go.Proofs.YtloooajippcdlaaDoor.WitnessMore
