/- The map of the refiner: which splitters wait. Its keys and elements are splitters. -/
import Derived.Test.YtpeipjfmibjoiaaDoorRows
import Derived.Test.YtpeipjfmibjoiaaDoorMem
import Derived.Maps.OwnSet
import Derived.DeepKeys4
namespace Go.Proofs.YtpeipjfmibjoiaaDoor
open Go.RowKit Go.Maps

theorem spl_laidOut : laidOutB Tryd.prog = true := by kernel_rfl
theorem spl_row : (220 : TypeId) < Tryd.prog.types.size := of_decide_eq_true (by kernel_rfl)
theorem spl_wide : (match Tryd.prog.underlying 220 with | some (.array _ _) | some (.struct _) => true | _ => false) = true := by rw [Tryd.underlying220]
set_option maxRecDepth 100000 in
theorem spl_law : Keyed Tryd.prog 220 := Keyed.of_law (deep_law_laid spl_laidOut (m := 2) (by omega) spl_row (by kernel_rfl) spl_wide)

/-- a splitter, as a value -/
def splV (a b : Nat) : Value := .agg #[.int .i64 (a : Int), .int .i64 (b : Int)]

theorem spl_keyType : Tryd.prog.keyType 220 = true := by kernel_rfl
theorem spl_cells : Tryd.prog.cellsOf 220 = 2 := by kernel_rfl

theorem spl_lits (a b : Nat) (ha : a < 1000000) (hb : b < 1000000) : ∀ m, Tryd.prog.keyLits (m + 1 + 1) 220 (splV a b).cells.toList = some [.int .i64 (a : Int), .int .i64 (b : Int)] := by
  intro m
  have wa : (Lit.int .i64 (a : Int)).wf = true := WalkArith.wf_i64 (by omega)
  have wb : (Lit.int .i64 (b : Int)).wf = true := WalkArith.wf_i64 (by omega)
  have hi : ∀ x : Int, (Lit.int .i64 x).wf = true → Tryd.prog.keyLits (m + 1) 3 [.int .i64 x] = some [.int .i64 x] := by
    intro x hx
    unfold Program.keyLits
    rw [Tryd.underlying3]
    exact if_pos ⟨rfl, hx⟩
  have hc : Tryd.prog.cellsOf 3 = 1 := by kernel_rfl
  have h1 := hi _ wa
  have h2 := hi _ wb
  clear hi
  have hs : (splV a b).cells.toList = [.int .i64 (a : Int), .int .i64 (b : Int)] := rfl
  rw [hs]
  unfold Program.keyLits
  rw [Tryd.underlying220]
  simp only
  rw [if_pos ⟨spl_cells.symm, by simp⟩]
  simp [hc, h1, h2]

set_option maxRecDepth 100000 in
theorem spl_key (a b : Nat) (ha : a < 1000000) (hb : b < 1000000) : ∃ l, keyOf Tryd.prog 220 (splV a b) = some l := by
  unfold keyOf
  rw [Tryd.underlying220]
  simp only
  rw [if_pos (by rw [spl_keyType]; simp [splV, Value.formed, Tryd.underlying220, spl_cells])]
  obtain ⟨m, hm⟩ : ∃ m, Tryd.prog.types.size = m + 1 := ⟨Tryd.prog.types.size - 1, (Nat.succ_pred_eq_of_pos (Nat.lt_of_le_of_lt (Nat.zero_le _) spl_row)).symm⟩
  rw [hm, spl_lits a b ha hb]
  exact ⟨_, rfl⟩

/-- an element, read -/
def intOf? : Value → Option Int
  | .int .i64 a => some a
  | _ => none
theorem intOf?_some {v : Value} {a : Int} (h : intOf? v = some a) : v = .int .i64 a := by
  unfold intOf? at h
  split at h
  · simp at h; rw [h]
  · cases h
def splL : List Value → Option (DataW Unit × List MemPlace)
  | [u, v] => (intOf? u).bind fun a => (intOf? v).map fun b => (.agg [.lit (.int .i64 a), .lit (.int .i64 b)], [])
  | _ => none
def splE : Value → Option (DataW Unit × List MemPlace)
  | .agg xs => splL xs.toList
  | _ => none
def splD (a b : Nat) : DataW Unit := .agg [.lit (.int .i64 (a : Int)), .lit (.int .i64 (b : Int))]
theorem splE_mk (a b : Nat) : splE (splV a b) = some (splD a b, []) := rfl
theorem splE_inv {v : Value} {z : DataW Unit × List MemPlace} (h : splE v = some z) : ∃ a b : Int, v = .agg #[.int .i64 a, .int .i64 b] ∧ z = (.agg [.lit (.int .i64 a), .lit (.int .i64 b)], []) := by
  cases v with
  | agg xs =>
    have h' : splL xs.toList = some z := h
    match hx : xs.toList, h' with
    | [u, v], h' =>
      obtain ⟨a, ha, h2⟩ := Option.bind_eq_some_iff.1 (show (intOf? u).bind _ = some z from h')
      obtain ⟨b, hb, rfl⟩ := Option.map_eq_some_iff.1 h2
      obtain rfl := intOf?_some ha
      obtain rfl := intOf?_some hb
      exact ⟨a, b, by rw [← Array.toArray_toList (xs := xs), hx], rfl⟩
    | [], h' => exact absurd h' (by simp [splL])
    | [_], h' => exact absurd h' (by simp [splL])
    | _ :: _ :: _ :: _, h' => exact absurd h' (by simp [splL])
  | _ => exact absurd h (by simp [splE])

/-- block b is a map that holds just the splitters in S, each at itself; it has been stored into n times at most -/
def SetM (w : World) (b n : Nat) (S : Nat → Nat → Prop) : Prop :=
  ∃ D : DataW Unit, w.ownsMap Tryd.prog 220 splE b n D ∧ ∀ x y l, x < 1000000 → y < 1000000 → keyOf Tryd.prog 220 (splV x y) = some l →
    (Maps.has D l = true ↔ S x y) ∧ (S x y → ∀ z, D.atKey l z = splD x y)

theorem splV_inj {x y x' y' : Nat} (h : splV x y = splV x' y') : x = x' ∧ y = y' := by
  simp only [splV, Value.agg.injEq, Array.mk.injEq, List.cons.injEq, Value.int.injEq, and_true, true_and] at h
  omega

theorem SetM.made (w : World) (S : Nat → Nat → Prop) (hS : ∀ x y, ¬ S x y) : SetM (w.alloc (.map #[] 0)) w.heap.size 0 S :=
  ⟨.map [], World.ownsMap_made _ _ _ _, fun x y l _ _ _ => ⟨⟨fun h => by simp [Maps.has] at h, fun h => absurd h (hS x y)⟩, fun h => absurd h (hS x y)⟩⟩

theorem SetM.congr {w : World} {b n : Nat} {S S' : Nat → Nat → Prop} (h : SetM w b n S) (hS : ∀ x y, S' x y ↔ S x y) : SetM w b n S' := by
  obtain ⟨D, h1, h2⟩ := h
  exact ⟨D, h1, fun x y l hx hy hl => ⟨((h2 x y l hx hy hl).1).trans (hS x y).symm, fun hs => (h2 x y l hx hy hl).2 ((hS x y).1 hs)⟩⟩

theorem SetM.kept {w w' : World} {b n : Nat} {S : Nat → Nat → Prop} (h : SetM w b n S) {row : Option Nat} (hg : w.grownBy w' row) (hne : some b ≠ row) : SetM w' b n S := by
  obtain ⟨D, h1, h2⟩ := h
  exact ⟨D, h1.kept hg hne, h2⟩
theorem SetM.block {w w' : World} {b n : Nat} {S : Nat → Nat → Prop} (h : SetM w b n S) (e : w'.heap[b]? = w.heap[b]?) : SetM w' b n S := by
  obtain ⟨D, ⟨es, clock, hb, r⟩, h2⟩ := h
  exact ⟨D, ⟨es, clock, by rw [e]; exact hb, r⟩, h2⟩
theorem SetM.lt {w : World} {b n : Nat} {S : Nat → Nat → Prop} (h : SetM w b n S) : b < w.heap.size := by
  obtain ⟨D, h1, _⟩ := h
  exact h1.lt
theorem SetM.mono {w : World} {b n n' : Nat} {S : Nat → Nat → Prop} (h : SetM w b n S) (hn : n ≤ n') : SetM w b n' S := by
  obtain ⟨D, h1, h2⟩ := h
  exact ⟨D, h1.mono hn, h2⟩

theorem spl_zero (w : World) : (zeroValue 220).run Tryd.prog w = .ok (splV 0 0) w := by kernel_rfl

theorem SetM.look {w : World} {b n : Nat} {S : Nat → Nat → Prop} (h : SetM w b n S) {x y : Nat} (hx : x < 1000000) (hy : y < 1000000) :
    ∃ (p q : Int) (r : Bool), (Instr.lookup 156 (.map (some b)) (splV x y) true).run Tryd.prog w = .ok (.tuple #[.agg #[.int .i64 p, .int .i64 q], .bool r]) w ∧ (r = true ↔ S x y) ∧ (S x y → p = x ∧ q = y) ∧ (¬ S x y → p = 0 ∧ q = 0) := by
  obtain ⟨D, h1, h2⟩ := h
  obtain ⟨l, hl⟩ := spl_key x y hx hy
  obtain ⟨v, ps, hrun, hv⟩ := h1.look_ok spl_law Tryd.underlying156 (spl_zero w) (splE_mk 0 0) hl
  obtain ⟨p, q, rfl, hz⟩ := splE_inv hv
  refine ⟨p, q, _, hrun, (h2 x y l hx hy hl).1, fun hs => ?_, fun hs => ?_⟩
  · have h3 := (h2 x y l hx hy hl).2 hs (splD 0 0)
    rw [h3] at hz
    simp only [Prod.mk.injEq, splD, DataW.agg.injEq, List.cons.injEq, DataW.lit.injEq, Lit.int.injEq, and_true, true_and] at hz
    exact ⟨hz.1.1.symm, hz.1.2.symm⟩
  · have hno : Maps.has D l = false := by
      cases hh : Maps.has D l with
      | false => rfl
      | true => exact absurd ((h2 x y l hx hy hl).1.1 hh) hs
    rw [atKey_of_not_has hno] at hz
    simp only [Prod.mk.injEq, splD, DataW.agg.injEq, List.cons.injEq, DataW.lit.injEq, Lit.int.injEq, and_true, true_and] at hz
    exact ⟨by simpa using hz.1.1.symm, by simpa using hz.1.2.symm⟩

theorem spl_isKey {x y : Nat} {l : Lit} (h : keyOf Tryd.prog 220 (splV x y) = some l) : WideAt.IsKeyLit l := spl_law.key h

theorem SetM.store {w : World} {b n : Nat} {S : Nat → Nat → Prop} (h : SetM w b n S) (hn : n < maxLen) {x y : Nat} (hx : x < 1000000) (hy : y < 1000000) :
    ∃ w', (Instr.mapUpdate 156 (.map (some b)) (splV x y) (splV x y)).run Tryd.prog w = .ok () w' ∧ SetM w' b (n + 1) (fun x' y' => (x' = x ∧ y' = y) ∨ S x' y') ∧ w.mapTurned w' b := by
  obtain ⟨D, h1, h2⟩ := h
  obtain ⟨l, hl⟩ := spl_key x y hx hy
  obtain ⟨w', hrun, hown, ht⟩ := h1.store spl_law Tryd.underlying156 hn hl (splE_mk x y)
  refine ⟨w', hrun, ⟨_, hown, fun x' y' l' hx' hy' hl' => ?_⟩, ht⟩
  by_cases e : l' = l
  · subst e
    obtain ⟨rfl, rfl⟩ := splV_inj (spl_law.inj hl' hl)
    refine ⟨⟨fun _ => .inl ⟨rfl, rfl⟩, fun _ => has_put_same h1.isMap (spl_isKey hl) _⟩, fun _ z => atKey_put_same h1.isMap (spl_isKey hl) _ z⟩
  · have hne : ¬ (x' = x ∧ y' = y) := by
      rintro ⟨rfl, rfl⟩
      rw [hl] at hl'; exact e (by simpa using hl'.symm)
    rw [has_put_other e]
    refine ⟨⟨fun h3 => .inr ((h2 x' y' l' hx' hy' hl').1.1 h3), fun h3 => (h2 x' y' l' hx' hy' hl').1.2 (h3.resolve_left hne)⟩, fun h3 z => ?_⟩
    rw [atKey_put_other e]
    exact (h2 x' y' l' hx' hy' hl').2 (h3.resolve_left hne) z

theorem SetM.drop {w : World} {b n : Nat} {S : Nat → Nat → Prop} (h : SetM w b n S) {x y : Nat} (hx : x < 1000000) (hy : y < 1000000) (ty : TypeId) :
    ∃ w', (Builtin.delete_ #[156, 220] ty #[.map (some b), splV x y]).run Tryd.prog w = .ok (.tuple #[]) w' ∧ SetM w' b n (fun x' y' => ¬ (x' = x ∧ y' = y) ∧ S x' y') ∧ w.mapTurned w' b := by
  obtain ⟨D, h1, h2⟩ := h
  obtain ⟨l, hl⟩ := spl_key x y hx hy
  obtain ⟨w', hrun, hown, ht⟩ := h1.drop spl_law Tryd.underlying156 hl ty
  refine ⟨w', hrun, ⟨_, hown, fun x' y' l' hx' hy' hl' => ?_⟩, ht⟩
  by_cases e : l' = l
  · subst e
    obtain ⟨rfl, rfl⟩ := splV_inj (spl_law.inj hl' hl)
    rw [has_del_same]
    exact ⟨⟨fun h => (by cases h), fun h => absurd ⟨rfl, rfl⟩ h.1⟩, fun h => absurd ⟨rfl, rfl⟩ h.1⟩
  · have hne : ¬ (x' = x ∧ y' = y) := by
      rintro ⟨rfl, rfl⟩
      rw [hl] at hl'; exact e (by simpa using hl'.symm)
    rw [has_del_other e]
    refine ⟨⟨fun h3 => ⟨hne, (h2 x' y' l' hx' hy' hl').1.1 h3⟩, fun h3 => (h2 x' y' l' hx' hy' hl').1.2 h3.2⟩, fun h3 z => ?_⟩
    rw [atKey_del_other e]
    exact (h2 x' y' l' hx' hy' hl').2 h3.2 z
end Go.Proofs.YtpeipjfmibjoiaaDoor
