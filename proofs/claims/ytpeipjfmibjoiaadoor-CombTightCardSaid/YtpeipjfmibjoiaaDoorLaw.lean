/- From a law's walk to its row's first form: every law here takes one argument, lists variables that the walk need not look at, and says 'true; the input reads as it did'. Condition: the walk, given as a hypothesis by each law's own text. -/
import Derived.Test.YtpeipjfmibjoiaaDoorCards
import Derived.Test.YtpeipjfmibjoiaaDoorTie
import Derived.Test.YtpeipjfmibjoiaaDoorRead
import Derived.OpenShut
import Derived.Deep.DeepHandedRow
import Derived.Lay
namespace Go.Proofs.YtpeipjfmibjoiaaDoor
open Go.RowKit Go.ChangeShapes Go.WideShapes Go.ChangeAt

theorem own : ownKnob Tryd.prog.godebug = none := by kernel_rfl
theorem laidOut : laidOutB Tryd.prog = true := by kernel_rfl

/-- a world that fits, written by the kit's own law -/
theorem witness_laid {H : Type} {enc : TypeId × Value → H} {os : Os} {f : FuncId} {fn : Func} {s : OpenSpec} {conds : List PathCond} {apart : Bool} {laid : List (String × DataW Unit)} (args : Array Value)
    (hz : ((World.laidAll Tryd.prog os laid).forCall (fun _ _ => 0) ⟨#[], args, []⟩).variablesZipB Tryd.prog = true)
    (hr : (((World.laidAll Tryd.prog os laid).forCall (fun _ _ => 0) ⟨#[], args, []⟩).heap.toList.drop Tryd.prog.globals.size).take ((begin Tryd.prog (fun _ _ => 0) default).world.heap.size - Tryd.prog.globals.size) =
      (begin Tryd.prog (fun _ _ => 0) default).world.heap.toList.drop Tryd.prog.globals.size)
    (hok : Input.okWideB Tryd.prog ((World.laidAll Tryd.prog os laid).forCall (fun _ _ => 0) ⟨#[], args, []⟩) f ⟨#[], args, []⟩ = true)
    (hrow : s.preRow enc Tryd.prog fn conds apart laid ((World.laidAll Tryd.prog os laid).forCall (fun _ _ => 0) ⟨#[], args, []⟩).memory args) :
    ∃ (w : World) (tape : Tape) (i : Input), w.os = os ∧ (w.forCall tape i).Shaped Tryd.checked.prog ∧ i.vars = [] ∧ Input.okWide Tryd.checked.prog (w.forCall tape i) .any w.heap.size f i ∧
      s.preRow enc Tryd.checked.prog fn conds apart laid (w.forCall tape i).memory i.args ∧ ({ modest := false } : Assume).holds Tryd.checked.prog (lone (Frame.enter Tryd.checked.prog f i.args .normal) [] (w.forCall tape i)) :=
  ⟨World.laidAll Tryd.prog os laid, fun _ _ => 0, ⟨#[], args, []⟩, World.laidAll_os _ _ _, World.shaped_of_ZipB hz hr, (Input.okWide_of_okWideB (base := 0) hok).1, (Input.okWide_of_okWideB hok).2, hrow, by
    simp only [Assume.holds]
    exact ⟨by simp, by simp, fun _ => Modest.zero, by simp, by simp⟩⟩

set_option maxRecDepth 100000 in
/-- WHAT A LAW's WALK GIVES, FOR EVERY ARGUMENT: the row's answer -/
theorem law_post {H : Type} {enc : TypeId × Value → H} {fn : Func} {s : ChangeSpec} {t : TypeId} {F : FuncId} {W : World} {base : Nat} {args : Array Value} {ds gs : List (DataW H)} {before : List MemPlace}
    (hp : fn.params = #[t]) (hr : fn.resultTypes = #[4]) (hs : ∀ d : DataW H, s.fn H [d] = { results := [.lit (.bool true)], args := [d] }) (hv : s.vars = [])
    (hrec : Tryd.prog.readableRec t = true) (hrow : t < Tryd.prog.types.size)
    (hval : ∀ (j : Nat) t v, fn.params[j]? = some t → args[j]? = some v → Value.okWide Tryd.prog W .any base t v)
    (hW : DataW.Whole enc Tryd.prog fn.params.toList s.vars false W args.toList ds gs before)
    (hsz : (DataW.weightsEach Tryd.prog (fn.params.toList ++ s.plain.varTypes Tryd.prog) (ds ++ gs)).all (· ≤ reachBytes) = true)
    (walk : ∀ (v : Value) (d : DataW H) (p : List MemPlace), Value.okWide Tryd.prog W .any base t v → DataW.Trod enc Tryd.prog W 0 (fun _ => true) true t v d p → Fits t d →
      Calls Tryd.prog F #[v] W fun e w' => e = .returned (.bool true) ∧ Ext W w') :
    Calls Tryd.prog F args W fun e W' => ∃ v, e = .returned v ∧ s.post enc Tryd.prog fn false true false false W args v W' := by
  have hW' := hW
  obtain ⟨p, q, hA0, hV, rfl, _, _⟩ := hW
  rw [hp] at hA0 hval
  obtain ⟨v0, d0, rfl, rfl, h0⟩ := trodAll_one hA0
  rw [hv] at hV
  obtain ⟨rfl, rfl⟩ := trodVars_none hV
  have hlt : ∀ x ∈ p, x.block < W.heap.size := fun x hx => by simpa using hW'.lt x (by simpa using hx)
  have hfit : Fits t d0 := Fits.of_each hsz (j := 0) (by simp [hp]) (by simp)
  have hok := hval 0 t v0 (by simp) (by simp)
  refine (walk v0 d0 p hok h0 hfit).mono fun e W' ⟨he, hx⟩ => ?_
  subst he
  refine ⟨_, rfl, _, _, _, [], p ++ [], [], hW', ?_, ?_, ?_, Below.frame hx _, fun h => by cases h⟩
  · rw [hr, List.append_nil, hs]
    exact trodAll_mk1 (shut_bool Tryd.underlying4 _)
  · rw [hp, List.append_nil, hs]
    simpa using trodAll_mk1 (Below.trod laidOut hrec hrow h0 hx hlt)
  · rw [hv, List.append_nil, hs]
    rfl

set_option maxRecDepth 100000 in
/-- the same of a law without arguments -/
theorem law_post0 {H : Type} {enc : TypeId × Value → H} {fn : Func} {s : ChangeSpec} {F : FuncId} {W : World} {args : Array Value} {ds gs : List (DataW H)} {before : List MemPlace}
    (hp : fn.params = #[]) (hr : fn.resultTypes = #[4]) (hs : s.fn H [] = { results := [.lit (.bool true)], args := [] }) (hv : s.vars = [])
    (hW : DataW.Whole enc Tryd.prog fn.params.toList s.vars false W args.toList ds gs before)
    (walk : ∀ W : World, Calls Tryd.prog F #[] W fun e w' => e = .returned (.bool true) ∧ Ext W w') :
    Calls Tryd.prog F args W fun e W' => ∃ v, e = .returned v ∧ s.post enc Tryd.prog fn false true false false W args v W' := by
  have hW' := hW
  obtain ⟨p, q, hA0, hV, rfl, _, _⟩ := hW
  rw [hp] at hA0
  obtain ⟨hn, rfl, rfl⟩ := trodAll_nil hA0
  rw [hv] at hV
  obtain ⟨rfl, rfl⟩ := trodVars_none hV
  obtain rfl : args = #[] := by apply Array.toList_inj.1; simpa using hn
  refine (walk W).mono fun e W' ⟨he, hx⟩ => ?_
  subst he
  refine ⟨_, rfl, _, _, _, [], [], [], hW', ?_, ?_, ?_, Below.frame hx _, fun h => by cases h⟩
  · rw [hr, List.append_nil, hs]
    exact trodAll_mk1 (shut_bool Tryd.underlying4 _)
  · rw [hp, List.append_nil, hs]; rfl
  · rw [hv, List.append_nil, hs]; rfl

end Go.Proofs.YtpeipjfmibjoiaaDoor
