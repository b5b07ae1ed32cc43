/- bolterlaw13.WitnessClasses, its tied card: For every argument that can be read, the law answers true and leaves the input as it was. No condition of its own. -/
import Derived.Test.YthnojechejckpaaDoorArg
import Derived.Test.YthnojechejckpaaDoorWitCls
import Derived.Test.YthnojechejckpaaDoorWakes13
import Derived.Test.YthnojechejckpaaDoorHead
namespace Go.Proofs.YthnojechejckpaaDoor.WitnessClasses
open Go.RowKit Go.ChangeShapes Go.WideShapes Go.ChangeAt

set_option maxRecDepth 100000 in
theorem walk {H : Type} {enc : TypeId × Value → H} {W : World} {base : Nat} (v : Value) (d : DataW H) (p : List MemPlace) (hok : Value.okWide Tryd.prog W .any base 40 v)
    (h : DataW.Trod enc Tryd.prog W 0 (fun _ => true) true 40 v d p) (hfit : Fits 40 d) :
    Calls Tryd.prog 6 #[v] W fun e w' => e = .returned (.bool true) ∧ Ext W w' := by
  have hu := Tryd.underlying40
  obtain ⟨cs, rfl, _⟩ := okWide_struct hu hok
  obtain ⟨fuel, hf⟩ := h
  obtain ⟨xs, n, _, hx, h1, h2, h3⟩ := DataW.trod_struct hu hf
  simp only [Prod.mk.injEq] at hx
  obtain ⟨rfl, rfl⟩ := hx
  obtain ⟨c0, c1, c2, c3, c4, hcs⟩ := len_five (l := (Value.agg cs).cells.toList) (h1.trans (by kernel_rfl))
  obtain ⟨y0, y1, y2, rfl⟩ := len_three (h2.trans (show _ = 3 from rfl))
  rw [hcs] at h3
  obtain rfl : cs = #[c0, c1, c2, c3, c4] := by
    apply Array.toList_inj.1
    exact hcs
  have e0 := h3 0 _ rfl
  have e1 := h3 1 _ rfl
  have e2 := h3 2 _ rfl
  rw [show Tryd.prog.cellsOf _ = 2 by kernel_rfl] at e0 e1
  rw [show Tryd.prog.cellsOf _ = 1 by kernel_rfl] at e2
  have f0 : Fits 25 y0.1 := Fits.field (j := 0) hu hfit rfl rfl
  have f1 : Fits 25 y1.1 := Fits.field (j := 1) hu hfit rfl rfl
  have f2 : Fits 38 y2.1 := Fits.field (j := 2) hu hfit rfl rfl
  obtain ⟨vn, vl, da, g1, g2, g3, _⟩ := read_dense e0 f0
  obtain ⟨un, ul, db, m1, m2, m3, _⟩ := read_dense e1 f1
  obtain ⟨vt, ts, j1, j2, j3, _⟩ := read_rows (bytes := 24) (bytes' := 1) Tryd.underlying38 Tryd.underlying41 Tryd.underlying5 (by kernel_rfl) (by kernel_rfl) (by kernel_rfl) (by kernel_rfl) (by decide) (by decide) e2 f2
  simp at g1 m1 j1
  obtain ⟨rfl, rfl⟩ := g1
  obtain ⟨rfl, rfl⟩ := m1
  subst j1
  have hda : DenseV W (.agg #[c0, c1]) da := ⟨_, _, rfl, g2, g3⟩
  have hdb : DenseV W (.agg #[c2, c3]) db := ⟨_, _, rfl, m2, m3⟩
  by_cases hgo : (da.next.length ≤ 20 ∧ db.next.length ≤ 20) ∧ May da ∧ May db
  · exact clsW_go wakes13_c hda hdb hgo.1 hgo.2.1 hgo.2.2
  · exact clsW_skip wakes13_c hda hdb hgo

abbrev wit : Array Value := #[.agg #[.slice none 0 0, .slice none 0 0, .slice none 0 0, .slice none 0 0, .slice none 0 0]]

set_option maxRecDepth 100000 in
theorem lifted (os : Os) (started : os.Started) (H : Type) (enc : TypeId × Value → H) (F : Stop.Interp) :
    ReturnsInHanded {} Tryd.checked os 6 .any ((OpenSpec.ofChange Rows.witnessClassesSpec).preRow enc Tryd.prog Tryd.f6 Rows.witnessClassesRow.domain false Rows.witnessClassesRow.laid)
      (((OpenSpec.ofChange Rows.witnessClassesSpec).at F).post enc Tryd.prog Tryd.f6 false true false false) := by
  have hw : (DataW.whole enc Tryd.prog ((World.laidAll Tryd.prog os Rows.witnessClassesRow.laid).forCall (fun _ _ => 0) ⟨#[], wit, []⟩).memory Tryd.f6.params.toList Rows.witnessClassesSpec.vars false wit.toList 8).map (fun x => (x.1, x.2.1)) =
      some ([.agg [.agg [.nil, .nil], .agg [.nil, .nil], .nil]], []) := by kernel_rfl
  obtain ⟨⟨x1, x2, x3⟩, hx, hx1⟩ := Option.map_eq_some_iff.1 hw
  simp only [Prod.mk.injEq] at hx1
  obtain ⟨rfl, rfl⟩ := hx1
  refine returnsInHanded_of_row (C := Tryd.checked) (s := OpenSpec.ofChange Rows.witnessClassesSpec) own started (by kernel_rfl) Tryd.func6
    (witness_laid (enc := enc) (laid := Rows.witnessClassesRow.laid) wit (by kernel_rfl) (by kernel_rfl) (by kernel_rfl)
      (OpenSpec.preRow_of_cond 8 hx (by kernel_rfl) (fun k hk => by cases hk) (by kernel_rfl) (by rw [MakeChecks.laidMetH_plain _ _ _ (by kernel_rfl)]; exact laidMet_laidAll _ (by kernel_rfl) (by kernel_rfl)))) ?_
  intro W base args ds gs before hval hW _ _ hsz _ _ _
  exact law_post (fn := Tryd.f6) (s := Rows.witnessClassesSpec) (by kernel_rfl) (by kernel_rfl) (fun _ => rfl) rfl (by kernel_rfl) (of_decide_eq_true (by kernel_rfl)) hval hW hsz walk

theorem c_name : Tryd.prog.funcNamed Rows.witnessClassesRow.func = some 6 := by kernel_rfl
set_option maxRecDepth 100000 in
set_option maxHeartbeats 8000000 in
theorem c_closed : joinedFacts Tryd.prog 6 Tryd.f6 (OpenSpec.ofChange Rows.witnessClassesSpec).bare Rows.witnessClassesRow = true := by
  unfold joinedFacts
  rw [Head.mayEnter, Head.liftsFinal, Head.make]
  repeat' (with_reducible apply Head.and_mk)
  all_goals (as_aux_lemma => kernel_rfl)
theorem c_inst : Tryd.f6.isInstance Tryd.prog Rows.witnessClassesRow.origin Rows.witnessClassesRow.targs := of_decide_eq_true (by kernel_rfl)
theorem c_wrap : Tryd.f6.isWrapper Tryd.prog Rows.witnessClassesRow.wrapper Rows.witnessClassesRow.mainSum := by
  unfold Func.isWrapper; first | (rw [if_pos (by decide +kernel)]; kernel_rfl) | (rw [if_neg (by decide +kernel)]; exact ⟨rfl, rfl⟩)
theorem said : Rows.WitnessClassesSaid :=
  OpenClaim.holds_of_cond 6 Tryd.f6 rfl rfl rfl rfl rfl rfl rfl ⟨rfl, rfl, rfl, rfl, rfl⟩ rfl rfl rfl rfl rfl c_name Tryd.func6 c_closed c_inst c_wrap
    (fun os started H enc _ F => by rw [OpenClaim.pre_eq_preRow]; exact lifted os started H enc F)

theorem plain (f : FuncId) (fn : Func) (hf : Tryd.pinned.checked.prog.funcNamed "bolter/bolterlaw13.WitnessClasses" = some f) (hfn : Tryd.pinned.checked.prog.funcs[f]? = some fn) :
    false = Tryd.pinned.checked.prog.looks [] ∧ ∀ (j : Nat) t, fn.params[j]? = some t → Tryd.pinned.checked.prog.wantsStandIn t = false := by
  obtain rfl : f = 6 := Option.some.inj ((show Tryd.prog.funcNamed "bolter/bolterlaw13.WitnessClasses" = some 6 by kernel_rfl).symm.trans hf) |>.symm
  obtain rfl : fn = Tryd.f6 := (Option.some.inj (Tryd.func6.symm.trans hfn)).symm
  refine ⟨by kernel_rfl, fun j t ht => ?_⟩
  rw [Tryd.params6] at ht
  obtain rfl : t = 40 := by simpa using Array.mem_of_getElem? ht
  exact (show Tryd.prog.wantsStandIn 40 = false by kernel_rfl)

theorem c_wf : Rows.witnessClassesRow.wfByText (OpenSpec.ofChange Rows.witnessClassesSpec) = true := by kernel_rfl
theorem c_goes : false = Rows.witnessClassesRow.goesBy Tryd.prog := by kernel_rfl

/-- THE CARD -/
theorem card : Rows.WitnessClassesCardSaid :=
  Claim7.holds_tied_plain_at .later [] _ _ _ _ said (fun _ h => by cases h) c_wf (fun _ h => by cases h) witnessClasses_row_tie rfl ⟨rfl, rfl⟩ Head.main rfl plain c_goes
end Go.Proofs.YthnojechejckpaaDoor.WitnessClasses
