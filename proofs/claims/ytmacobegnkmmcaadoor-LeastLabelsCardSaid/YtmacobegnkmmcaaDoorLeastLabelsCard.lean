/- bolterlaw12.LeastLabels, its tied card: For every argument that can be read, the law answers true and leaves the input as it was. No condition of its own. -/
import Derived.Test.YtmacobegnkmmcaaDoorArg
import Derived.Test.YtmacobegnkmmcaaDoorLabelsLaw
import Derived.Test.YtmacobegnkmmcaaDoorWakes12
import Derived.Test.YtmacobegnkmmcaaDoorHead
namespace Go.Proofs.YtmacobegnkmmcaaDoor.LeastLabels
open Go.RowKit Go.ChangeShapes Go.WideShapes Go.ChangeAt

set_option maxRecDepth 100000 in
theorem walk {H : Type} {enc : TypeId × Value → H} {W : World} {base : Nat} (v : Value) (d : DataW H) (p : List MemPlace) (hok : Value.okWide Tryd.prog W .any base 54 v)
    (h : DataW.Trod enc Tryd.prog W 0 (fun _ => true) true 54 v d p) (hfit : Fits 54 d) :
    Calls Tryd.prog 7 #[v] W fun e w' => e = .returned (.bool true) ∧ Ext W w' := by
  have hu := Tryd.underlying54
  obtain ⟨cs, rfl, _⟩ := okWide_struct hu hok
  obtain ⟨fuel, hf⟩ := h
  obtain ⟨xs, n, _, hx, h1, h2, h3⟩ := DataW.trod_struct hu hf
  simp only [Prod.mk.injEq] at hx
  obtain ⟨rfl, rfl⟩ := hx
  obtain ⟨c0, c1, c2, hcs⟩ := len_three (l := (Value.agg cs).cells.toList) (h1.trans (by kernel_rfl))
  obtain ⟨y0, y1, rfl⟩ := len_two (h2.trans (show _ = 2 from rfl))
  rw [hcs] at h3
  obtain rfl : cs = #[c0, c1, c2] := by
    apply Array.toList_inj.1
    exact hcs
  have e0 := h3 0 _ rfl
  have e1 := h3 1 _ rfl
  rw [show Tryd.prog.cellsOf _ = 2 by kernel_rfl] at e0
  rw [show Tryd.prog.cellsOf _ = 1 by kernel_rfl] at e1
  have f0 : Fits 25 y0.1 := Fits.field (j := 0) hu hfit rfl rfl
  have f1 : Fits 26 y1.1 := Fits.field (j := 1) hu hfit rfl rfl
  obtain ⟨vn, vl, dn, g1, g2, g3, _⟩ := read_dense e0 f0
  obtain ⟨vt, ts, j1, j2, j3, _⟩ := read_rows (bytes := 24) (bytes' := 1) Tryd.underlying26 Tryd.underlying31 Tryd.underlying5 (by kernel_rfl) (by kernel_rfl) (by kernel_rfl) (by kernel_rfl) (by decide) (by decide) e1 f1
  simp at g1 j1
  obtain ⟨rfl, rfl⟩ := g1
  subst j1
  have hd : DenseV W (.agg #[c0, c1]) dn := ⟨_, _, rfl, g2, g3⟩
  by_cases hgo : dn.next.length ≤ 200 ∧ May dn
  · refine labels_go wakes12_c hd hgo.1 hgo.2 j2 (fun t ht z hz => ?_)
    have h := (j3 t ht).1 z hz
    have e1 : IntKind.u8.min = 0 := rfl
    have e2 : IntKind.u8.max = 255 := rfl
    omega
  · obtain ⟨_, a, c, hv, _⟩ := j2
    exact labels_skip wakes12_c hd hgo ⟨a, _, c, hv⟩

abbrev wit : Array Value := #[.agg #[.slice none 0 0, .slice none 0 0, .slice none 0 0]]

set_option maxRecDepth 100000 in
theorem lifted (os : Os) (started : os.Started) (H : Type) (enc : TypeId × Value → H) (F : Stop.Interp) :
    ReturnsInHanded {} Tryd.checked os 7 .any ((OpenSpec.ofChange Rows.leastLabelsSpec).preRow enc Tryd.prog Tryd.f7 Rows.leastLabelsRow.domain false Rows.leastLabelsRow.laid)
      (((OpenSpec.ofChange Rows.leastLabelsSpec).at F).post enc Tryd.prog Tryd.f7 false true false false) := by
  have hw : (DataW.whole enc Tryd.prog ((World.laidAll Tryd.prog os Rows.leastLabelsRow.laid).forCall (fun _ _ => 0) ⟨#[], wit, []⟩).memory Tryd.f7.params.toList Rows.leastLabelsSpec.vars false wit.toList 8).map (fun x => (x.1, x.2.1)) =
      some ([.agg [.agg [.nil, .nil], .nil]], []) := by kernel_rfl
  obtain ⟨⟨x1, x2, x3⟩, hx, hx1⟩ := Option.map_eq_some_iff.1 hw
  simp only [Prod.mk.injEq] at hx1
  obtain ⟨rfl, rfl⟩ := hx1
  refine returnsInHanded_of_row (C := Tryd.checked) (s := OpenSpec.ofChange Rows.leastLabelsSpec) own started (by kernel_rfl) Tryd.func7
    (witness_laid (enc := enc) (laid := Rows.leastLabelsRow.laid) wit (by kernel_rfl) (by kernel_rfl) (by kernel_rfl)
      (OpenSpec.preRow_of_cond 8 hx (by kernel_rfl) (fun k hk => by cases hk) (by kernel_rfl) (by rw [MakeChecks.laidMetH_plain _ _ _ (by kernel_rfl)]; exact laidMet_laidAll _ (by kernel_rfl) (by kernel_rfl)))) ?_
  intro W base args ds gs before hval hW _ _ hsz _ _ _
  exact law_post (fn := Tryd.f7) (s := Rows.leastLabelsSpec) (by kernel_rfl) (by kernel_rfl) (fun _ => rfl) rfl (by kernel_rfl) (of_decide_eq_true (by kernel_rfl)) hval hW hsz walk

theorem c_name : Tryd.prog.funcNamed Rows.leastLabelsRow.func = some 7 := by kernel_rfl
set_option maxRecDepth 100000 in
set_option maxHeartbeats 8000000 in
theorem c_closed : joinedFacts Tryd.prog 7 Tryd.f7 (OpenSpec.ofChange Rows.leastLabelsSpec).bare Rows.leastLabelsRow = true := by
  unfold joinedFacts
  rw [Head.mayEnter, Head.liftsFinal, Head.make]
  repeat' (with_reducible apply Head.and_mk)
  all_goals (as_aux_lemma => kernel_rfl)
theorem c_inst : Tryd.f7.isInstance Tryd.prog Rows.leastLabelsRow.origin Rows.leastLabelsRow.targs := of_decide_eq_true (by kernel_rfl)
theorem c_wrap : Tryd.f7.isWrapper Tryd.prog Rows.leastLabelsRow.wrapper Rows.leastLabelsRow.mainSum := by
  unfold Func.isWrapper; first | (rw [if_pos (by decide +kernel)]; kernel_rfl) | (rw [if_neg (by decide +kernel)]; exact ⟨rfl, rfl⟩)
theorem said : Rows.LeastLabelsSaid :=
  OpenClaim.holds_of_cond 7 Tryd.f7 rfl rfl rfl rfl rfl rfl rfl ⟨rfl, rfl, rfl, rfl, rfl⟩ rfl rfl rfl rfl rfl c_name Tryd.func7 c_closed c_inst c_wrap
    (fun os started H enc _ F => by rw [OpenClaim.pre_eq_preRow]; exact lifted os started H enc F)

theorem plain (f : FuncId) (fn : Func) (hf : Tryd.pinned.checked.prog.funcNamed "bolter/bolterlaw12.LeastLabels" = some f) (hfn : Tryd.pinned.checked.prog.funcs[f]? = some fn) :
    false = Tryd.pinned.checked.prog.looks [] ∧ ∀ (j : Nat) t, fn.params[j]? = some t → Tryd.pinned.checked.prog.wantsStandIn t = false := by
  obtain rfl : f = 7 := Option.some.inj ((show Tryd.prog.funcNamed "bolter/bolterlaw12.LeastLabels" = some 7 by kernel_rfl).symm.trans hf) |>.symm
  obtain rfl : fn = Tryd.f7 := (Option.some.inj (Tryd.func7.symm.trans hfn)).symm
  refine ⟨by kernel_rfl, fun j t ht => ?_⟩
  rw [Tryd.params7] at ht
  obtain rfl : t = 54 := by simpa using Array.mem_of_getElem? ht
  exact (show Tryd.prog.wantsStandIn 54 = false by kernel_rfl)

theorem c_wf : Rows.leastLabelsRow.wfByText (OpenSpec.ofChange Rows.leastLabelsSpec) = true := by kernel_rfl
theorem c_goes : false = Rows.leastLabelsRow.goesBy Tryd.prog := by kernel_rfl

/-- THE CARD -/
theorem card : Rows.LeastLabelsCardSaid :=
  Claim7.holds_tied_plain_at .later [] _ _ _ _ said (fun _ h => by cases h) c_wf (fun _ h => by cases h) leastLabels_row_tie rfl ⟨rfl, rfl⟩ Head.main rfl plain c_goes
end Go.Proofs.YtmacobegnkmmcaaDoor.LeastLabels
