/- bolterlaw14.CensusExact, its tied card: For every argument that can be read, the law answers true and leaves the input as it was. No condition of its own. -/
import Derived.Test.YtloooajippcdlaaDoorLaw
import Derived.Test.YtloooajippcdlaaDoorArgDs
import Derived.Test.YtloooajippcdlaaDoorTexts
import Derived.OpenShut
import Derived.Test.YtloooajippcdlaaDoorSentOf
import Derived.Test.YtloooajippcdlaaDoorCenLaw
import Derived.Test.YtloooajippcdlaaDoorHead
namespace Go.Proofs.YtloooajippcdlaaDoor.CensusExact
open Go.RowKit Go.ChangeShapes Go.WideShapes Go.ChangeAt

theorem len_five14 {α : Type} {l : List α} (h : l.length = 5) : ∃ a b c d e, l = [a, b, c, d, e] := by
  match l, h with
  | [a, b, c, d, e], _ => exact ⟨a, b, c, d, e, rfl⟩
theorem len_six14 {α : Type} {l : List α} (h : l.length = 6) : ∃ a b c d e f, l = [a, b, c, d, e, f] := by
  match l, h with
  | [a, b, c, d, e, f], _ => exact ⟨a, b, c, d, e, f, rfl⟩

set_option maxRecDepth 100000 in
theorem arg_ask14 {H : Type} {enc : TypeId × Value → H} {W : World} {base : Nat} {v : Value} {d : DataW H} {p : List MemPlace} (hok : Value.okWide Tryd.prog W .any base 39 v)
    (h : DataW.Trod enc Tryd.prog W 0 (fun _ => true) true 39 v d p) (hfit : Fits 39 d) :
    ∃ vn vl v1 v2 v3 v4 dn ls ns ks ts, v = .agg #[vn, vl, v1, v2, v3, v4] ∧ DenseV W (.agg #[vn, vl]) dn ∧ Reach dn ∧ Ints W v1 ls ∧ Ints W v2 ns ∧ IntsK .u64 W v3 ks ∧ (∀ k ∈ ks, 0 ≤ k ∧ k < 18446744073709551616) ∧ TextsV W v4 ts ∧ ∀ t ∈ ts, t.length ≤ 140737488351232 ∧ ∀ z ∈ t, 0 ≤ z ∧ z ≤ 255 := by
  have hu := Tryd.underlying39
  obtain ⟨cs, rfl, _⟩ := okWide_struct hu hok
  obtain ⟨fuel, hf⟩ := h
  obtain ⟨xs, n, _, hx, h1, h2, h3⟩ := DataW.trod_struct hu hf
  simp only [Prod.mk.injEq] at hx
  obtain ⟨rfl, rfl⟩ := hx
  obtain ⟨c0, c1, c2, c3, c4, c5, hcs⟩ := len_six14 (l := (Value.agg cs).cells.toList) (h1.trans (by kernel_rfl))
  obtain ⟨y0, y1, y2, y3, y4, rfl⟩ := len_five14 (h2.trans (show _ = 5 from rfl))
  rw [hcs] at h3
  obtain rfl : cs = #[c0, c1, c2, c3, c4, c5] := by
    apply Array.toList_inj.1
    exact hcs
  have e0 := h3 0 _ rfl
  have e1 := h3 1 _ rfl
  have e2 := h3 2 _ rfl
  have e3 := h3 3 _ rfl
  have e4 := h3 4 _ rfl
  rw [show Tryd.prog.cellsOf _ = 2 by kernel_rfl] at e0
  rw [show Tryd.prog.cellsOf _ = 1 by kernel_rfl] at e1 e2 e3 e4
  have f0 : Fits 25 y0.1 := Fits.field (j := 0) hu hfit rfl rfl
  have f1 : Fits 23 y1.1 := Fits.field (j := 1) hu hfit rfl rfl
  have f2 : Fits 23 y2.1 := Fits.field (j := 2) hu hfit rfl rfl
  have f3 : Fits 36 y3.1 := Fits.field (j := 3) hu hfit rfl rfl
  have f4 : Fits 37 y4.1 := Fits.field (j := 4) hu hfit rfl rfl
  obtain ⟨vn, vl, dn, g1, g2, g3, g4⟩ := read_dense e0 f0
  obtain ⟨v1, ls, j1, j2, _⟩ := read_ints (bytes := 8) Tryd.underlying23 Tryd.underlying3 (by kernel_rfl) (by kernel_rfl) (by decide) e1 f1
  obtain ⟨v2, ns, k1, k2, _⟩ := read_ints (bytes := 8) Tryd.underlying23 Tryd.underlying3 (by kernel_rfl) (by kernel_rfl) (by decide) e2 f2
  obtain ⟨v3, ks, l1, l2, l3, _⟩ := read_ints (bytes := 8) Tryd.underlying36 Tryd.underlying87 (by kernel_rfl) (by kernel_rfl) (by decide) e3 f3
  obtain ⟨v4, ts, m1, m2, m3, _⟩ := read_rows (bytes := 24) (bytes' := 1) Tryd.underlying37 Tryd.underlying28 Tryd.underlying5 (by kernel_rfl) (by kernel_rfl) (by kernel_rfl) (by kernel_rfl) (by decide) (by decide) e4 f4
  simp at g1 j1 k1 l1 m1
  obtain ⟨rfl, rfl⟩ := g1
  subst j1; subst k1; subst l1; subst m1
  refine ⟨_, _, _, _, _, _, dn, ls, ns, ks, ts, rfl, ⟨_, _, rfl, g2, g3⟩, g4.reach, j2, k2, l2, fun k hk => ?_, m2, fun t ht => ?_⟩
  · have h9 := l3 k hk
    have e5 : IntKind.u64.min = 0 := rfl
    have e6 : IntKind.u64.max = 18446744073709551615 := rfl
    rw [e5, e6] at h9
    omega
  · obtain ⟨h8, h9⟩ := m3 t ht
    refine ⟨by omega, fun z hz => ?_⟩
    have h7 := h8 z hz
    exact ⟨h7.1, h7.2⟩

set_option maxRecDepth 100000 in
theorem walk {H : Type} {enc : TypeId × Value → H} {W : World} {base : Nat} {a : Nat → Addr} (hS : Sents W a) (v : Value) (d : DataW H) (p : List MemPlace) (hok : Value.okWide Tryd.prog W .any base 39 v)
    (h : DataW.Trod enc Tryd.prog W 0 (fun _ => true) true 39 v d p) (hfit : Fits 39 d) :
    Calls Tryd.prog 4 #[v] W fun e w' => e = .returned (.bool true) ∧ Ext W w' := by
  obtain ⟨vn, vl, v1, v2, v3, v4, dn, ls, ns, ks, ts, rfl, h1, h2, h3, h4, h5, h6, h7, h8⟩ := arg_ask14 hok h hfit
  exact exact14_c h1 h2 h3 h4 h5 h6 h7 h8 hS

abbrev wit : Array Value := #[.agg #[.slice none 0 0, .slice none 0 0, .slice none 0 0, .slice none 0 0, .slice none 0 0, .slice none 0 0]]

set_option maxRecDepth 100000 in
theorem lifted (os : Os) (started : os.Started) (H : Type) (enc : TypeId × Value → H) (F : Stop.Interp) :
    ReturnsInHanded {} Tryd.checked os 4 .any ((OpenSpec.ofChange Rows.censusExactSpec).preRow enc Tryd.prog Tryd.f4 Rows.censusExactRow.domain false Rows.censusExactRow.laid)
      (((OpenSpec.ofChange Rows.censusExactSpec).at F).post enc Tryd.prog Tryd.f4 false true false false) := by
  have hw : (DataW.whole enc Tryd.prog ((sentWorld os).forCall (fun _ _ => 0) ⟨#[], wit, []⟩).memory Tryd.f4.params.toList Rows.censusExactSpec.vars false wit.toList 8).map (fun x => (x.1, x.2.1)) =
      some ([.agg [.agg [.nil, .nil], .nil, .nil, .nil, .nil]], []) := by kernel_rfl
  obtain ⟨⟨x1, x2, x3⟩, hx, hx1⟩ := Option.map_eq_some_iff.1 hw
  simp only [Prod.mk.injEq] at hx1
  obtain ⟨rfl, rfl⟩ := hx1
  refine returnsInHanded_of_row (C := Tryd.checked) (s := OpenSpec.ofChange Rows.censusExactSpec) own started (by kernel_rfl) Tryd.func4
    (witness_sent (enc := enc) (laid := Rows.censusExactRow.laid) wit (by kernel_rfl) (by kernel_rfl) (by kernel_rfl)
      (OpenSpec.preRow_of_cond 8 hx (by kernel_rfl) (fun k hk => by cases hk) (by kernel_rfl) (sentWorld_met os _))) ?_
  intro W base args ds gs before hval hW _ _ hsz hL _ _
  obtain ⟨a, hS⟩ := sents_of hL
  exact law_post (fn := Tryd.f4) (s := Rows.censusExactSpec) (by kernel_rfl) (by kernel_rfl) (fun _ => rfl) rfl (by kernel_rfl) (of_decide_eq_true (by kernel_rfl)) hval hW hsz (walk hS)

theorem c_name : Tryd.prog.funcNamed Rows.censusExactRow.func = some 4 := by kernel_rfl
set_option maxRecDepth 100000 in
set_option maxHeartbeats 8000000 in
theorem c_closed : joinedFacts Tryd.prog 4 Tryd.f4 (OpenSpec.ofChange Rows.censusExactSpec).bare Rows.censusExactRow = true := by
  unfold joinedFacts
  rw [Head.mayEnter, Head.liftsFinal, Head.make]
  repeat' (with_reducible apply Head.and_mk)
  all_goals (as_aux_lemma => kernel_rfl)
theorem c_inst : Tryd.f4.isInstance Tryd.prog Rows.censusExactRow.origin Rows.censusExactRow.targs := of_decide_eq_true (by kernel_rfl)
theorem c_wrap : Tryd.f4.isWrapper Tryd.prog Rows.censusExactRow.wrapper Rows.censusExactRow.mainSum := by
  unfold Func.isWrapper; first | (rw [if_pos (by decide +kernel)]; kernel_rfl) | (rw [if_neg (by decide +kernel)]; exact ⟨rfl, rfl⟩)
theorem said : Rows.CensusExactSaid :=
  OpenClaim.holds_of_cond 4 Tryd.f4 rfl rfl rfl rfl rfl rfl rfl ⟨rfl, rfl, rfl, rfl, rfl⟩ rfl rfl rfl rfl rfl c_name Tryd.func4 c_closed c_inst c_wrap
    (fun os started H enc _ F => by rw [OpenClaim.pre_eq_preRow]; exact lifted os started H enc F)

theorem plain (f : FuncId) (fn : Func) (hf : Tryd.pinned.checked.prog.funcNamed "bolter/bolterlaw14.CensusExact" = some f) (hfn : Tryd.pinned.checked.prog.funcs[f]? = some fn) :
    true = Tryd.pinned.checked.prog.looks [] ∧ ∀ (j : Nat) t, fn.params[j]? = some t → Tryd.pinned.checked.prog.wantsStandIn t = false := by
  obtain rfl : f = 4 := Option.some.inj ((show Tryd.prog.funcNamed "bolter/bolterlaw14.CensusExact" = some 4 by kernel_rfl).symm.trans hf) |>.symm
  obtain rfl : fn = Tryd.f4 := (Option.some.inj (Tryd.func4.symm.trans hfn)).symm
  refine ⟨by kernel_rfl, fun j t ht => ?_⟩
  rw [Tryd.params4] at ht
  obtain rfl : t = 39 := by simpa using Array.mem_of_getElem? ht
  exact (show Tryd.prog.wantsStandIn 39 = false by kernel_rfl)

theorem c_wf : Rows.censusExactRow.wfByText (OpenSpec.ofChange Rows.censusExactSpec) = true := by kernel_rfl
theorem c_goes : false = Rows.censusExactRow.goesBy Tryd.prog := by kernel_rfl

/-- THE CARD -/
theorem card : Rows.CensusExactCardSaid :=
  Claim7.holds_tied_plain_at .later [] _ _ _ _ said (fun _ h => by cases h) c_wf (fun _ h => by cases h) censusExact_row_tie rfl ⟨rfl, rfl⟩ Head.main rfl plain c_goes
end Go.Proofs.YtloooajippcdlaaDoor.CensusExact
