/- From a law's walk to its row's first form: every law here takes one argument, lists variables that the walk need not look at, and says 'true; the input reads as it did'. Condition: the walk, given as a hypothesis by each law's own text. -/
import Derived.Test.YtihginaanlcilaaDoorRows
import Derived.Test.YtihginaanlcilaaDoorBase
import Derived.ProofKit
import Derived.SizedLaws
import Derived.Deep.Slices
import Derived.Test.YtihginaanlcilaaDoorCards
import Derived.Test.YtihginaanlcilaaDoorTie
import Derived.OpenShut
import Derived.Deep.DeepHandedRow
import Derived.Lay
namespace Go.Proofs.YtihginaanlcilaaDoor
open Go.RowKit Go.ChangeShapes Go.WideShapes

section
variable {H : Type} {enc : TypeId × Value → H} {W : World} {base fuel : Nat} {spare : Nat → Bool} {held : Bool} {cs : List Value} {x : DataW H × List MemPlace}

/-- every slice in it fits the reach -/
def Fits (t : TypeId) (d : DataW H) : Prop := ∀ n ∈ d.weights Tryd.prog t, n ≤ reachBytes

theorem Fits.of_each {ts : List TypeId} {ds : List (DataW H)} (h : (DataW.weightsEach Tryd.prog ts ds).all (· ≤ reachBytes) = true) {j : Nat} {t : TypeId} {d : DataW H} (ht : ts[j]? = some t) (hd : ds[j]? = some d) : Fits t d := fun n hn =>
  of_decide_eq_true (List.all_eq_true.1 h n (DataW.weights_mem_each ht hd n hn))

theorem Fits.field {t : TypeId} {fs : Array Field} {parts : List (DataW H)} (hu : Tryd.prog.underlying t = some (.struct fs)) (h : Fits t (.agg parts)) {j : Nat} {f : Field} {d : DataW H} (hf : fs[j]? = some f) (hd : parts[j]? = some d) :
    Fits f.type d := fun n hn => h n (by
  simp only [DataW.weights, hu]
  exact DataW.weights_mem_each (j := j) (by simp [hf]) hd n hn)

theorem weights_mem_all {e : TypeId} {l : List (DataW H)} {d : DataW H} (hd : d ∈ l) {n : Nat} (hn : n ∈ d.weights Tryd.prog e) : n ∈ DataW.weightsAll Tryd.prog e l := by
  induction l with
  | nil => simp at hd
  | cons d0 r ih =>
    simp only [DataW.weightsAll, List.mem_append]
    rcases List.mem_cons.1 hd with rfl | h
    · exact Or.inl hn
    · exact Or.inr (ih h)

theorem Fits.elem {t e : TypeId} {els sp : List (DataW H)} (hu : Tryd.prog.underlying t = some (.slice e)) (h : Fits t (.slice els sp)) {d : DataW H} (hd : d ∈ els) : Fits e d := fun n hn => h n (by
  simp only [DataW.weights, hu, List.mem_cons, List.mem_append]
  exact Or.inr (Or.inl (weights_mem_all hd hn)))

theorem Fits.length {t e : TypeId} {els sp : List (DataW H)} (hu : Tryd.prog.underlying t = some (.slice e)) (h : Fits t (.slice els sp)) : (els.length + sp.length) * Tryd.prog.bytesOf e ≤ 140737488351232 :=
  h _ (by simp only [DataW.weights, hu, List.mem_cons, true_or])

theorem read_int {t : TypeId} {k : IntKind} (ht : Tryd.prog.underlying t = some (.int k)) (h : DataW.trod enc Tryd.prog W base spare held fuel t cs = some x) : ∃ n, cs = [.int k n] ∧ k.min ≤ n ∧ n ≤ k.max := by
  obtain ⟨n, h1, _, h3⟩ := DataW.trod_int ht h
  refine ⟨n, h1, ?_⟩
  simpa [Lit.wf] using h3

/-- A SLICE, READ: what holds of each element's cells is said by R; what is known of each element by Q. -/
theorem read_slice {α : Type} {t e : TypeId} {size bytes : Nat} {R : World → Nat → Nat → α → Prop} {Q : α → Prop} (ht : Tryd.prog.underlying t = some (.slice e)) (hc : Tryd.prog.cellsOf e = size) (hb : Tryd.prog.bytesOf e = bytes) (hs : 0 < size) (h1 : 0 < bytes)
    (hR : ∀ n b o cs' y, W.cells? base ⟨b, o, none⟩ size = some cs' → DataW.trod enc Tryd.prog W base spare held n e cs' = some y → Fits e y.1 → ∃ z, R W b o z ∧ Q z)
    (h : DataW.trod enc Tryd.prog W base spare held fuel t cs = some x) (hf : Fits t x.1) :
    ∃ v l, cs = [v] ∧ SliceV size R W v l ∧ (∀ z ∈ l, Q z) ∧ l.length * bytes ≤ 140737488351232 := by
  rcases Deep.open_slice ht h with ⟨rfl, rfl⟩ | ⟨a, len, cap, m, n, D, Pl, rfl, _, hl, _, hm, rfl, hx⟩
  · exact ⟨_, [], rfl, ⟨by simp, none, 0, rfl, by simp, fun h => by simp at h⟩, by simp, by simp⟩
  · have hle : len ≤ m := by rw [hm]; split <;> omega
    have hw := hf.length ht
    simp only [List.length_map, List.length_range] at hw
    rw [hb] at hw
    have hlb : len * bytes ≤ 140737488351232 := by
      have : len * bytes ≤ (len + (m - len)) * bytes := Nat.mul_le_mul_right _ (by omega)
      omega
    have hll : len ≤ len * bytes := Nat.le_mul_of_pos_right _ h1
    have hel : ∀ i, i < len → ∃ (z : α), ∃ b o, a = ⟨b, o, none⟩ ∧ R W b (o + i * size) z ∧ Q z := fun i hi => by
      obtain ⟨b, o, s⟩ := a
      have hsp : s = none := by
        obtain ⟨cs', h1, _⟩ := hx 0 (by omega)
        rw [hc] at h1
        obtain ⟨_, h4, h5⟩ := World.cells?_some h1
        have h6 := h5 0 hs
        obtain ⟨v0, h7⟩ : ∃ v, cs'[0]? = some v := by
          rw [List.getElem?_eq_getElem (by omega)]; exact ⟨_, rfl⟩
        rw [h7, Nat.zero_mul] at h6
        exact World.cell?_spot (a := ⟨b, o, s⟩) (by simpa [Addr.add] using h6)
      subst hsp
      obtain ⟨cs', h1, h2⟩ := hx i (by omega)
      rw [hc, add_plain] at h1
      obtain ⟨z, h9, h10⟩ := hR n b (o + i * size) cs' _ h1 h2 (hf.elem ht (by simp only [List.mem_map, List.mem_range]; exact ⟨i, hi, rfl⟩))
      exact ⟨z, b, o, rfl, h9, h10⟩
    by_cases h0 : len = 0
    · subst h0
      exact ⟨_, [], rfl, ⟨by simp, some a, cap, rfl, by simp, fun h => by simp at h⟩, by simp, by simp⟩
    · obtain ⟨z0, b, o, rfl, _⟩ := hel 0 (by omega)
      letI : Inhabited α := ⟨z0⟩
      obtain ⟨g, hg⟩ := Deep.choose_lt (n := len) (p := fun i z => R W b (o + i * size) z ∧ Q z) (fun i hi => by
        obtain ⟨z, b', o', h3, h4, h5⟩ := hel i hi
        simp only [Addr.mk.injEq, and_true] at h3
        obtain ⟨rfl, rfl⟩ := h3
        exact ⟨z, h4, h5⟩)
      refine ⟨_, (List.range len).map g, rfl, ⟨by simp; omega, some ⟨b, o, none⟩, cap, by simp, ⟨by simpa using hl, fun h => by cases h⟩, fun _ => ⟨b, o, rfl, fun i z hz => ?_⟩⟩, ?_, by simpa using hlb⟩
      · rw [List.getElem?_map] at hz
        by_cases hi : i < len
        · rw [List.getElem?_range hi] at hz
          simp only [Option.map_some, Option.some.injEq] at hz
          exact hz ▸ (hg i hi).1
        · rw [List.getElem?_eq_none (by simp; omega)] at hz
          simp at hz
      · intro z hz
        simp only [List.mem_map, List.mem_range] at hz
        obtain ⟨i, hi, rfl⟩ := hz
        exact (hg i hi).2

/-- every integer is one of its kind -/
def FitsK (k : IntKind) (l : List Int) : Prop := ∀ z ∈ l, k.min ≤ z ∧ z ≤ k.max

theorem read_ints {t e : TypeId} {k : IntKind} {bytes : Nat} (ht : Tryd.prog.underlying t = some (.slice e)) (he : Tryd.prog.underlying e = some (.int k)) (hc : Tryd.prog.cellsOf e = 1) (hb : Tryd.prog.bytesOf e = bytes) (h1 : 0 < bytes)
    (h : DataW.trod enc Tryd.prog W base spare held fuel t cs = some x) (hf : Fits t x.1) : ∃ v l, cs = [v] ∧ IntsK k W v l ∧ FitsK k l ∧ l.length * bytes ≤ 140737488351232 :=
  read_slice (R := IntAt k) (Q := fun z => k.min ≤ z ∧ z ≤ k.max) ht hc hb (by decide) h1 (fun n b o cs' y hcs hy _ => by
    obtain ⟨z, rfl, h3⟩ := read_int he hy
    obtain ⟨_, _, h5⟩ := World.cells?_some hcs
    have := h5 0 (by decide)
    exact ⟨z, by simpa [IntAt, Addr.add] using this, h3⟩) h hf

/-- a slice of slices of integers, all alike -/
theorem read_rows {t e g : TypeId} {k : IntKind} {bytes bytes' : Nat} (ht : Tryd.prog.underlying t = some (.slice e)) (he : Tryd.prog.underlying e = some (.slice g)) (hg : Tryd.prog.underlying g = some (.int k)) (hc : Tryd.prog.cellsOf e = 1) (hc' : Tryd.prog.cellsOf g = 1)
    (hb : Tryd.prog.bytesOf e = bytes) (hb' : Tryd.prog.bytesOf g = bytes') (h1 : 0 < bytes) (h1' : 0 < bytes')
    (h : DataW.trod enc Tryd.prog W base spare held fuel t cs = some x) (hf : Fits t x.1) : ∃ v l, cs = [v] ∧ SliceV 1 (SliceAt 1 (IntAt k)) W v l ∧ (∀ r ∈ l, FitsK k r ∧ r.length * bytes' ≤ 140737488351232) ∧ l.length * bytes ≤ 140737488351232 :=
  read_slice (R := SliceAt 1 (IntAt k)) (Q := fun r => FitsK k r ∧ r.length * bytes' ≤ 140737488351232) ht hc hb (by decide) h1 (fun n b o cs' y hcs hy hfy => by
    obtain ⟨v, l, rfl, h3, h4⟩ := read_ints he hg hc' hb' h1' hy hfy
    obtain ⟨_, _, h5⟩ := World.cells?_some hcs
    have := h5 0 (by decide)
    exact ⟨l, ⟨v, by simpa [Addr.add] using this, h3⟩, h4⟩) h hf

/-- what is known of an automaton that was read, of whatever make -/
structure DnFits (d : Dn) : Prop where
  row : ∀ r ∈ d.next, FitsK .i64 r ∧ r.length * 8 ≤ 140737488351232
  label : FitsK .i64 d.label
  rows : d.next.length * 24 ≤ 140737488351232
  labels : d.label.length * 8 ≤ 140737488351232

theorem len_two {α : Type} {l : List α} (h : l.length = 2) : ∃ a b, l = [a, b] := by
  match l, h with
  | [a, b], _ => exact ⟨a, b, rfl⟩
theorem len_three {α : Type} {l : List α} (h : l.length = 3) : ∃ a b c, l = [a, b, c] := by
  match l, h with
  | [a, b, c], _ => exact ⟨a, b, c, rfl⟩
theorem len_four {α : Type} {l : List α} (h : l.length = 4) : ∃ a b c d, l = [a, b, c, d] := by
  match l, h with
  | [a, b, c, d], _ => exact ⟨a, b, c, d, rfl⟩
theorem len_five {α : Type} {l : List α} (h : l.length = 5) : ∃ a b c d e, l = [a, b, c, d, e] := by
  match l, h with
  | [a, b, c, d, e], _ => exact ⟨a, b, c, d, e, rfl⟩

theorem read_dense (h : DataW.trod enc Tryd.prog W base spare held fuel 25 cs = some x) (hf : Fits 25 x.1) :
    ∃ vn vl d, cs = [vn, vl] ∧ RowsV W vn d.next ∧ Ints W vl d.label ∧ DnFits d := by
  have hu := Tryd.underlying25
  obtain ⟨xs, n, _, rfl, h1, h2, h3⟩ := DataW.trod_struct hu h
  have hlen : cs.length = 2 := h1.trans (by kernel_rfl)
  obtain ⟨vn, vl, rfl⟩ := len_two hlen
  obtain ⟨y0, y1, rfl⟩ := len_two (h2.trans (show _ = 2 from rfl))
  have e0 := h3 0 _ rfl
  have e1 := h3 1 _ rfl
  rw [show Tryd.prog.cellsOf _ = 1 by kernel_rfl] at e0 e1
  have f0 : Fits 22 y0.1 := Fits.field (j := 0) hu hf rfl rfl
  have f1 : Fits 23 y1.1 := Fits.field (j := 1) hu hf rfl rfl
  obtain ⟨v, l, g1, g2, g3, g4⟩ := read_rows (bytes := 24) (bytes' := 8) Tryd.underlying22 Tryd.underlying23 Tryd.underlying3 (by kernel_rfl) (by kernel_rfl) (by kernel_rfl) (by kernel_rfl) (by decide) (by decide) e0 f0
  obtain ⟨v', l', k1, k2, k3, k4⟩ := read_ints (bytes := 8) Tryd.underlying23 Tryd.underlying3 (by kernel_rfl) (by kernel_rfl) (by decide) e1 f1
  simp at g1 k1
  subst g1; subst k1
  exact ⟨_, _, ⟨l, l'⟩, rfl, g2, k2, ⟨g3, k3, g4, k4⟩⟩
end
end Go.Proofs.YtihginaanlcilaaDoor

namespace Go.Proofs.YtihginaanlcilaaDoor
open Go.RowKit Go.ChangeShapes Go.WideShapes Go.ChangeAt

theorem own : ownKnob Tryd.prog.godebug = none := by kernel_rfl
theorem laidOut : laidOutB Tryd.prog = true := by kernel_rfl

/-- a world that fits, written by the kit's own law -/
theorem witness_laid {H : Type} {enc : TypeId × Value → H} {os : Os} {f : FuncId} {fn : Func} {s : OpenSpec} {conds : List PathCond} {apart : Bool} {laid : List (String × DataW Unit)} (args : Array Value)
    (hz : ((World.laidAll Tryd.prog os laid).forCall (fun _ _ => 0) ⟨#[], args, []⟩).variablesZipB Tryd.prog = true)
    (hr : (((World.laidAll Tryd.prog os laid).forCall (fun _ _ => 0) ⟨#[], args, []⟩).heap.toList.drop Tryd.prog.globals.size).take ((begin Tryd.prog (fun _ _ => 0) default).world.heap.size - Tryd.prog.globals.size) =
      (begin Tryd.prog (fun _ _ => 0) default).world.heap.toList.drop Tryd.prog.globals.size)
    (hok : Input.okWideB Tryd.prog ((World.laidAll Tryd.prog os laid).forCall (fun _ _ => 0) ⟨#[], args, []⟩) f ⟨#[], args, []⟩ = true)
    (hrow : s.preRow enc Tryd.prog fn conds apart laid ((World.laidAll Tryd.prog os laid).forCall (fun _ _ => 0) ⟨#[], args, []⟩).memory args) :
    ∃ (w : World) (tape : Tape) (i : Input), w.os = os ∧ (w.forCall tape i).Shaped Tryd.checked.prog ∧ i.vars = [] ∧ Input.okWide Tryd.checked.prog (w.forCall tape i) .any w.heap.size f i ∧
      s.preRow enc Tryd.checked.prog fn conds apart laid (w.forCall tape i).memory i.args ∧ ({ modest := false } : Assume).holds Tryd.checked.prog (lone (Frame.enter Tryd.checked.prog f i.args .normal) [] (w.forCall tape i)) :=
  ⟨World.laidAll Tryd.prog os laid, fun _ _ => 0, ⟨#[], args, []⟩, World.laidAll_os _ _ _, World.shaped_of_ZipB hz hr, (Input.okWide_of_okWideB (base := 0) hok).1, (Input.okWide_of_okWideB hok).2, hrow, by
    simp only [Assume.holds]
    exact ⟨by simp, by simp, fun _ => Modest.zero, by simp, by simp⟩⟩

set_option maxRecDepth 100000 in
/-- WHAT A LAW's WALK GIVES, FOR EVERY ARGUMENT: the row's answer -/
theorem law_post {H : Type} {enc : TypeId × Value → H} {fn : Func} {s : ChangeSpec} {t : TypeId} {F : FuncId} {W : World} {base : Nat} {args : Array Value} {ds gs : List (DataW H)} {before : List MemPlace}
    (hp : fn.params = #[t]) (hr : fn.resultTypes = #[4]) (hs : ∀ d : DataW H, s.fn H [d] = { results := [.lit (.bool true)], args := [d] }) (hv : s.vars = [])
    (hrec : Tryd.prog.readableRec t = true) (hrow : t < Tryd.prog.types.size)
    (hval : ∀ (j : Nat) t v, fn.params[j]? = some t → args[j]? = some v → Value.okWide Tryd.prog W .any base t v)
    (hW : DataW.Whole enc Tryd.prog fn.params.toList s.vars false W args.toList ds gs before)
    (hsz : (DataW.weightsEach Tryd.prog (fn.params.toList ++ s.plain.varTypes Tryd.prog) (ds ++ gs)).all (· ≤ reachBytes) = true)
    (walk : ∀ (v : Value) (d : DataW H) (p : List MemPlace), Value.okWide Tryd.prog W .any base t v → DataW.Trod enc Tryd.prog W 0 (fun _ => true) true t v d p → Fits t d →
      Calls Tryd.prog F #[v] W fun e w' => e = .returned (.bool true) ∧ Ext W w') :
    Calls Tryd.prog F args W fun e W' => ∃ v, e = .returned v ∧ s.post enc Tryd.prog fn false true false false W args v W' := by
  have hW' := hW
  obtain ⟨p, q, hA0, hV, rfl, _, _⟩ := hW
  rw [hp] at hA0 hval
  obtain ⟨v0, d0, rfl, rfl, h0⟩ := trodAll_one hA0
  rw [hv] at hV
  obtain ⟨rfl, rfl⟩ := trodVars_none hV
  have hlt : ∀ x ∈ p, x.block < W.heap.size := fun x hx => by simpa using hW'.lt x (by simpa using hx)
  have hfit : Fits t d0 := Fits.of_each hsz (j := 0) (by simp [hp]) (by simp)
  have hok := hval 0 t v0 (by simp) (by simp)
  refine (walk v0 d0 p hok h0 hfit).mono fun e W' ⟨he, hx⟩ => ?_
  subst he
  refine ⟨_, rfl, _, _, _, [], p ++ [], [], hW', ?_, ?_, ?_, Below.frame hx _, fun h => by cases h⟩
  · rw [hr, List.append_nil, hs]
    exact trodAll_mk1 (shut_bool Tryd.underlying4 _)
  · rw [hp, List.append_nil, hs]
    simpa using trodAll_mk1 (Below.trod laidOut hrec hrow h0 hx hlt)
  · rw [hv, List.append_nil, hs]
    rfl

set_option maxRecDepth 100000 in
/-- the same of a law without arguments -/
theorem law_post0 {H : Type} {enc : TypeId × Value → H} {fn : Func} {s : ChangeSpec} {F : FuncId} {W : World} {args : Array Value} {ds gs : List (DataW H)} {before : List MemPlace}
    (hp : fn.params = #[]) (hr : fn.resultTypes = #[4]) (hs : s.fn H [] = { results := [.lit (.bool true)], args := [] }) (hv : s.vars = [])
    (hW : DataW.Whole enc Tryd.prog fn.params.toList s.vars false W args.toList ds gs before)
    (walk : ∀ W : World, Calls Tryd.prog F #[] W fun e w' => e = .returned (.bool true) ∧ Ext W w') :
    Calls Tryd.prog F args W fun e W' => ∃ v, e = .returned v ∧ s.post enc Tryd.prog fn false true false false W args v W' := by
  have hW' := hW
  obtain ⟨p, q, hA0, hV, rfl, _, _⟩ := hW
  rw [hp] at hA0
  obtain ⟨hn, rfl, rfl⟩ := trodAll_nil hA0
  rw [hv] at hV
  obtain ⟨rfl, rfl⟩ := trodVars_none hV
  obtain rfl : args = #[] := by apply Array.toList_inj.1; simpa using hn
  refine (walk W).mono fun e W' ⟨he, hx⟩ => ?_
  subst he
  refine ⟨_, rfl, _, _, _, [], [], [], hW', ?_, ?_, ?_, Below.frame hx _, fun h => by cases h⟩
  · rw [hr, List.append_nil, hs]
    exact trodAll_mk1 (shut_bool Tryd.underlying4 _)
  · rw [hp, List.append_nil, hs]; rfl
  · rw [hv, List.append_nil, hs]; rfl

end Go.Proofs.YtihginaanlcilaaDoor
