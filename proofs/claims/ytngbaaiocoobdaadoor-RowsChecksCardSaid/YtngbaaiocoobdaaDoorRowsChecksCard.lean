/- bolterlaw15.RowsChecks, its tied card: For every argument that can be read, the law answers true and leaves the input as it was. No condition of its own. -/
import Derived.Test.YtngbaaiocoobdaaDoorSentOf
import Derived.Test.YtngbaaiocoobdaaDoorHead
namespace Go.Proofs.YtngbaaiocoobdaaDoor.RowsChecks
open Go.RowKit Go.ChangeShapes Go.WideShapes Go.ChangeAt

set_option maxRecDepth 100000 in
theorem walk {H : Type} {enc : TypeId × Value → H} {W : World} {base : Nat} {a : Nat → Addr} (hS : Sents W a) (v : Value) (d : DataW H) (p : List MemPlace) (hok : Value.okWide Tryd.prog W .any base 79 v)
    (h : DataW.Trod enc Tryd.prog W 0 (fun _ => true) true 79 v d p) (hfit : Fits 79 d) :
    Calls Tryd.prog 11 #[v] W fun e w' => e = .returned (.bool true) ∧ Ext W w' := by
  obtain ⟨v1, v2, v3, l, ss, bs, rfl, hl, hf, hs, hb, hb8⟩ := arg_raw15 hok h hfit
  exact checksLaw_c hl hf hs hb hb8 hS

abbrev wit : Array Value := #[.agg #[.slice none 0 0, .slice none 0 0, .slice none 0 0]]

set_option maxRecDepth 100000 in
theorem lifted (os : Os) (started : os.Started) (H : Type) (enc : TypeId × Value → H) (F : Stop.Interp) :
    ReturnsInHanded {} Tryd.checked os 11 .any ((OpenSpec.ofChange Rows.rowsChecksSpec).preRow enc Tryd.prog Tryd.f11 Rows.rowsChecksRow.domain false Rows.rowsChecksRow.laid)
      (((OpenSpec.ofChange Rows.rowsChecksSpec).at F).post enc Tryd.prog Tryd.f11 false true false false) := by
  have hw : (DataW.whole enc Tryd.prog ((sentWorld os).forCall (fun _ _ => 0) ⟨#[], wit, []⟩).memory Tryd.f11.params.toList Rows.rowsChecksSpec.vars false wit.toList 8).map (fun x => (x.1, x.2.1)) =
      some ([.agg [.nil, .nil, .nil]], []) := by kernel_rfl
  obtain ⟨⟨x1, x2, x3⟩, hx, hx1⟩ := Option.map_eq_some_iff.1 hw
  simp only [Prod.mk.injEq] at hx1
  obtain ⟨rfl, rfl⟩ := hx1
  refine returnsInHanded_of_row (C := Tryd.checked) (s := OpenSpec.ofChange Rows.rowsChecksSpec) own started (by kernel_rfl) Tryd.func11
    (witness_sent (enc := enc) (laid := Rows.rowsChecksRow.laid) wit (by kernel_rfl) (by kernel_rfl) (by kernel_rfl)
      (OpenSpec.preRow_of_cond 8 hx (by kernel_rfl) (fun k hk => by cases hk) (by kernel_rfl) (sentWorld_met os _))) ?_
  intro W base args ds gs before hval hW _ _ hsz hL _ _
  obtain ⟨a, hS⟩ := sents_of hL
  exact law_post (fn := Tryd.f11) (s := Rows.rowsChecksSpec) (by kernel_rfl) (by kernel_rfl) (fun _ => rfl) rfl (by kernel_rfl) (of_decide_eq_true (by kernel_rfl)) hval hW hsz (walk hS)

theorem c_name : Tryd.prog.funcNamed Rows.rowsChecksRow.func = some 11 := by kernel_rfl
set_option maxRecDepth 100000 in
set_option maxHeartbeats 8000000 in
theorem c_closed : joinedFacts Tryd.prog 11 Tryd.f11 (OpenSpec.ofChange Rows.rowsChecksSpec).bare Rows.rowsChecksRow = true := by
  unfold joinedFacts
  rw [Head.mayEnter, Head.liftsFinal, Head.make]
  repeat' (with_reducible apply Head.and_mk)
  all_goals (as_aux_lemma => kernel_rfl)
theorem c_inst : Tryd.f11.isInstance Tryd.prog Rows.rowsChecksRow.origin Rows.rowsChecksRow.targs := of_decide_eq_true (by kernel_rfl)
theorem c_wrap : Tryd.f11.isWrapper Tryd.prog Rows.rowsChecksRow.wrapper Rows.rowsChecksRow.mainSum := by
  unfold Func.isWrapper; first | (rw [if_pos (by decide +kernel)]; kernel_rfl) | (rw [if_neg (by decide +kernel)]; exact ⟨rfl, rfl⟩)
theorem said : Rows.RowsChecksSaid :=
  OpenClaim.holds_of_cond 11 Tryd.f11 rfl rfl rfl rfl rfl rfl rfl ⟨rfl, rfl, rfl, rfl, rfl⟩ rfl rfl rfl rfl rfl c_name Tryd.func11 c_closed c_inst c_wrap
    (fun os started H enc _ F => by rw [OpenClaim.pre_eq_preRow]; exact lifted os started H enc F)

theorem plain (f : FuncId) (fn : Func) (hf : Tryd.pinned.checked.prog.funcNamed "bolter/bolterlaw15.RowsChecks" = some f) (hfn : Tryd.pinned.checked.prog.funcs[f]? = some fn) :
    true = Tryd.pinned.checked.prog.looks [] ∧ ∀ (j : Nat) t, fn.params[j]? = some t → Tryd.pinned.checked.prog.wantsStandIn t = false := by
  obtain rfl : f = 11 := Option.some.inj ((show Tryd.prog.funcNamed "bolter/bolterlaw15.RowsChecks" = some 11 by kernel_rfl).symm.trans hf) |>.symm
  obtain rfl : fn = Tryd.f11 := (Option.some.inj (Tryd.func11.symm.trans hfn)).symm
  refine ⟨by kernel_rfl, fun j t ht => ?_⟩
  rw [Tryd.params11] at ht
  obtain rfl : t = 79 := by simpa using Array.mem_of_getElem? ht
  exact (show Tryd.prog.wantsStandIn 79 = false by kernel_rfl)

theorem c_wf : Rows.rowsChecksRow.wfByText (OpenSpec.ofChange Rows.rowsChecksSpec) = true := by kernel_rfl
theorem c_goes : false = Rows.rowsChecksRow.goesBy Tryd.prog := by kernel_rfl

/-- THE CARD -/
theorem card : Rows.RowsChecksCardSaid :=
  Claim7.holds_tied_plain_at .later [] _ _ _ _ said (fun _ h => by cases h) c_wf (fun _ h => by cases h) rowsChecks_row_tie rfl ⟨rfl, rfl⟩ Head.main rfl plain c_goes
end Go.Proofs.YtngbaaiocoobdaaDoor.RowsChecks
