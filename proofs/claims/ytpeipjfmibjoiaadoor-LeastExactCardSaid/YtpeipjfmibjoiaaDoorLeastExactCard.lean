/- bolterlaw12.LeastExact, its tied card: For every argument that can be read, the law answers true and leaves the input as it was. No condition of its own. -/
import Derived.Test.YtpeipjfmibjoiaaDoorArgDs
import Derived.Test.YtpeipjfmibjoiaaDoorSentOf
import Derived.Test.YtpeipjfmibjoiaaDoorLeastLaw
import Derived.Test.YtpeipjfmibjoiaaDoorHead
namespace Go.Proofs.YtpeipjfmibjoiaaDoor.LeastExact
open Go.RowKit Go.ChangeShapes Go.WideShapes Go.ChangeAt

set_option maxRecDepth 100000 in
theorem walk {H : Type} {enc : TypeId × Value → H} {W : World} {base : Nat} {a : Nat → Addr} (hS : Sents W a) (v : Value) (d : DataW H) (p : List MemPlace) (hok : Value.okWide Tryd.prog W .any base 75 v)
    (h : DataW.Trod enc Tryd.prog W 0 (fun _ => true) true 75 v d p) (hfit : Fits 75 d) :
    Calls Tryd.prog 10 #[v] W fun e w' => e = .returned (.bool true) ∧ Ext W w' := by
  obtain ⟨l, hl, hf⟩ := arg_densesR hok h hfit
  exact leastLaw_c hl hf hS

abbrev wit : Array Value := #[.slice none 0 0]

set_option maxRecDepth 100000 in
theorem lifted (os : Os) (started : os.Started) (H : Type) (enc : TypeId × Value → H) (F : Stop.Interp) :
    ReturnsInHanded {} Tryd.checked os 10 .any ((OpenSpec.ofChange Rows.leastExactSpec).preRow enc Tryd.prog Tryd.f10 Rows.leastExactRow.domain false Rows.leastExactRow.laid)
      (((OpenSpec.ofChange Rows.leastExactSpec).at F).post enc Tryd.prog Tryd.f10 false true false false) := by
  have hw : (DataW.whole enc Tryd.prog ((sentWorld os).forCall (fun _ _ => 0) ⟨#[], wit, []⟩).memory Tryd.f10.params.toList Rows.leastExactSpec.vars false wit.toList 8).map (fun x => (x.1, x.2.1)) =
      some ([.nil], []) := by kernel_rfl
  obtain ⟨⟨x1, x2, x3⟩, hx, hx1⟩ := Option.map_eq_some_iff.1 hw
  simp only [Prod.mk.injEq] at hx1
  obtain ⟨rfl, rfl⟩ := hx1
  refine returnsInHanded_of_row (C := Tryd.checked) (s := OpenSpec.ofChange Rows.leastExactSpec) own started (by kernel_rfl) Tryd.func10
    (witness_sent (enc := enc) (laid := Rows.leastExactRow.laid) wit (by kernel_rfl) (by kernel_rfl) (by kernel_rfl)
      (OpenSpec.preRow_of_cond 8 hx (by kernel_rfl) (fun k hk => by cases hk) (by kernel_rfl) (sentWorld_met os _))) ?_
  intro W base args ds gs before hval hW _ _ hsz hL _ _
  obtain ⟨a, hS⟩ := sents_of hL
  exact law_post (fn := Tryd.f10) (s := Rows.leastExactSpec) (by kernel_rfl) (by kernel_rfl) (fun _ => rfl) rfl (by kernel_rfl) (of_decide_eq_true (by kernel_rfl)) hval hW hsz (walk hS)

theorem c_name : Tryd.prog.funcNamed Rows.leastExactRow.func = some 10 := by kernel_rfl
set_option maxRecDepth 100000 in
set_option maxHeartbeats 8000000 in
theorem c_closed : joinedFacts Tryd.prog 10 Tryd.f10 (OpenSpec.ofChange Rows.leastExactSpec).bare Rows.leastExactRow = true := by
  unfold joinedFacts
  rw [Head.mayEnter, Head.liftsFinal, Head.make]
  repeat' (with_reducible apply Head.and_mk)
  all_goals (as_aux_lemma => kernel_rfl)
theorem c_inst : Tryd.f10.isInstance Tryd.prog Rows.leastExactRow.origin Rows.leastExactRow.targs := of_decide_eq_true (by kernel_rfl)
theorem c_wrap : Tryd.f10.isWrapper Tryd.prog Rows.leastExactRow.wrapper Rows.leastExactRow.mainSum := by
  unfold Func.isWrapper; first | (rw [if_pos (by decide +kernel)]; kernel_rfl) | (rw [if_neg (by decide +kernel)]; exact ⟨rfl, rfl⟩)
theorem said : Rows.LeastExactSaid :=
  OpenClaim.holds_of_cond 10 Tryd.f10 rfl rfl rfl rfl rfl rfl rfl ⟨rfl, rfl, rfl, rfl, rfl⟩ rfl rfl rfl rfl rfl c_name Tryd.func10 c_closed c_inst c_wrap
    (fun os started H enc _ F => by rw [OpenClaim.pre_eq_preRow]; exact lifted os started H enc F)

theorem plain (f : FuncId) (fn : Func) (hf : Tryd.pinned.checked.prog.funcNamed "bolter/bolterlaw12.LeastExact" = some f) (hfn : Tryd.pinned.checked.prog.funcs[f]? = some fn) :
    true = Tryd.pinned.checked.prog.looks [] ∧ ∀ (j : Nat) t, fn.params[j]? = some t → Tryd.pinned.checked.prog.wantsStandIn t = false := by
  obtain rfl : f = 10 := Option.some.inj ((show Tryd.prog.funcNamed "bolter/bolterlaw12.LeastExact" = some 10 by kernel_rfl).symm.trans hf) |>.symm
  obtain rfl : fn = Tryd.f10 := (Option.some.inj (Tryd.func10.symm.trans hfn)).symm
  refine ⟨by kernel_rfl, fun j t ht => ?_⟩
  rw [Tryd.params10] at ht
  obtain rfl : t = 75 := by simpa using Array.mem_of_getElem? ht
  exact (show Tryd.prog.wantsStandIn 75 = false by kernel_rfl)

theorem c_wf : Rows.leastExactRow.wfByText (OpenSpec.ofChange Rows.leastExactSpec) = true := by kernel_rfl
theorem c_goes : false = Rows.leastExactRow.goesBy Tryd.prog := by kernel_rfl

/-- THE CARD -/
theorem card : Rows.LeastExactCardSaid :=
  Claim7.holds_tied_plain_at .later [] _ _ _ _ said (fun _ h => by cases h) c_wf (fun _ h => by cases h) leastExact_row_tie rfl ⟨rfl, rfl⟩ Head.main rfl plain c_goes
end Go.Proofs.YtpeipjfmibjoiaaDoor.LeastExact
