/- bolterlaw15.RowsExact, its tied card: For every argument that can be read and is of bulk at most 1048576, the law answers true and leaves the input as it was. -/
import Derived.Test.YtloooajippcdlaaDoorArgDss
import Derived.Test.YtloooajippcdlaaDoorSentOf
import Derived.Test.YtloooajippcdlaaDoorExact15
import Derived.Test.YtloooajippcdlaaDoorHead
namespace Go.Proofs.YtloooajippcdlaaDoor.RowsExact
open Go.RowKit Go.ChangeShapes Go.WideShapes Go.ChangeAt

set_option maxRecDepth 100000 in
theorem walk {H : Type} {enc : TypeId × Value → H} {W : World} {base : Nat} {a : Nat → Addr} (hS : Sents W a) (v : Value) (d : DataW H) (p : List MemPlace) (hok : Value.okWide Tryd.prog W .any base 63 v)
    (h : DataW.Trod enc Tryd.prog W 0 (fun _ => true) true 63 v d p) (hfit : Fits 63 d) :
    Calls Tryd.prog 6 #[v] W fun e w' => e = .returned (.bool true) ∧ Ext W w' := by
  obtain ⟨ls, h1, h2⟩ := arg_dss hok h hfit
  exact exact15_c h1 h2 hS

abbrev wit : Array Value := #[.slice none 0 0]

set_option maxRecDepth 100000 in
theorem lifted (os : Os) (started : os.Started) (H : Type) (enc : TypeId × Value → H) (F : Stop.Interp) :
    ReturnsInHanded {} Tryd.checked os 6 .any ((Rows.OpenSpec.upto Rows.rowsExactSpec).preRow enc Tryd.prog Tryd.f6 Rows.rowsExactUptoRow.domain false Rows.rowsExactUptoRow.laid)
      (((Rows.OpenSpec.upto Rows.rowsExactSpec).at F).post enc Tryd.prog Tryd.f6 false true false false) := by
  have hw : (DataW.whole enc Tryd.prog ((sentWorld os).forCall (fun _ _ => 0) ⟨#[], wit, []⟩).memory Tryd.f6.params.toList Rows.rowsExactSpec.vars false wit.toList 8).map (fun x => (x.1, x.2.1)) =
      some ([.nil], []) := by kernel_rfl
  obtain ⟨⟨x1, x2, x3⟩, hx, hx1⟩ := Option.map_eq_some_iff.1 hw
  simp only [Prod.mk.injEq] at hx1
  obtain ⟨rfl, rfl⟩ := hx1
  refine returnsInHanded_of_row (C := Tryd.checked) (s := Rows.OpenSpec.upto Rows.rowsExactSpec) own started (by kernel_rfl) Tryd.func6
    (witness_sent (enc := enc) (laid := Rows.rowsExactUptoRow.laid) wit (by kernel_rfl) (by kernel_rfl) (by kernel_rfl)
      (OpenSpec.preRow_of_cond 8 hx (by kernel_rfl) (fun k hk => by cases hk; kernel_rfl) (by kernel_rfl) (sentWorld_met os _))) ?_
  intro W base args ds gs before hval hW _ _ hsz hL _ _
  obtain ⟨a, hS⟩ := sents_of hL
  exact law_post (fn := Tryd.f6) (s := Rows.rowsExactSpec) (by kernel_rfl) (by kernel_rfl) (fun _ => rfl) rfl (by kernel_rfl) (of_decide_eq_true (by kernel_rfl)) hval hW hsz (walk hS)

theorem c_name : Tryd.prog.funcNamed Rows.rowsExactUptoRow.func = some 6 := by kernel_rfl
set_option maxRecDepth 100000 in
set_option maxHeartbeats 8000000 in
theorem c_closed : joinedFacts Tryd.prog 6 Tryd.f6 (Rows.OpenSpec.upto Rows.rowsExactSpec).bare Rows.rowsExactUptoRow = true := by
  unfold joinedFacts
  rw [Head.mayEnter, Head.liftsFinal, Head.make]
  repeat' (with_reducible apply Head.and_mk)
  all_goals (as_aux_lemma => kernel_rfl)
theorem c_inst : Tryd.f6.isInstance Tryd.prog Rows.rowsExactUptoRow.origin Rows.rowsExactUptoRow.targs := of_decide_eq_true (by kernel_rfl)
theorem c_wrap : Tryd.f6.isWrapper Tryd.prog Rows.rowsExactUptoRow.wrapper Rows.rowsExactUptoRow.mainSum := by
  unfold Func.isWrapper; first | (rw [if_pos (by decide +kernel)]; kernel_rfl) | (rw [if_neg (by decide +kernel)]; exact ⟨rfl, rfl⟩)
theorem said : Rows.RowsExactUptoSaid :=
  OpenClaim.holds_of_cond 6 Tryd.f6 rfl rfl rfl rfl rfl rfl rfl ⟨rfl, rfl, rfl, rfl, rfl⟩ rfl rfl rfl rfl rfl c_name Tryd.func6 c_closed c_inst c_wrap
    (fun os started H enc _ F => by rw [OpenClaim.pre_eq_preRow]; exact lifted os started H enc F)

theorem plain (f : FuncId) (fn : Func) (hf : Tryd.pinned.checked.prog.funcNamed "bolter/bolterlaw15.RowsExact" = some f) (hfn : Tryd.pinned.checked.prog.funcs[f]? = some fn) :
    true = Tryd.pinned.checked.prog.looks [] ∧ ∀ (j : Nat) t, fn.params[j]? = some t → Tryd.pinned.checked.prog.wantsStandIn t = false := by
  obtain rfl : f = 6 := Option.some.inj ((show Tryd.prog.funcNamed "bolter/bolterlaw15.RowsExact" = some 6 by kernel_rfl).symm.trans hf) |>.symm
  obtain rfl : fn = Tryd.f6 := (Option.some.inj (Tryd.func6.symm.trans hfn)).symm
  refine ⟨by kernel_rfl, fun j t ht => ?_⟩
  rw [Tryd.params6] at ht
  obtain rfl : t = 63 := by simpa using Array.mem_of_getElem? ht
  exact (show Tryd.prog.wantsStandIn 63 = false by kernel_rfl)

theorem c_wf : Rows.rowsExactUptoRow.wfByText (Rows.OpenSpec.upto Rows.rowsExactSpec) = true := by kernel_rfl
theorem c_goes : false = Rows.rowsExactUptoRow.goesBy Tryd.prog := by kernel_rfl

/-- THE CARD -/
theorem card : Rows.RowsExactUptoCardSaid :=
  Claim7.holds_tied_plain_at .later [] _ _ _ _ said (fun _ h => by cases h) c_wf (fun _ h => by cases h) rowsExactUpto_row_tie rfl ⟨rfl, rfl⟩ Head.main rfl plain c_goes
end Go.Proofs.YtloooajippcdlaaDoor.RowsExact
