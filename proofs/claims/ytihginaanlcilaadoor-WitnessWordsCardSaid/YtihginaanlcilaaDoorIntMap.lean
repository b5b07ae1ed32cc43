/- A map from numbers to numbers that the call itself makes. -/
import Derived.Test.YtihginaanlcilaaDoorRows
import Derived.Test.YtihginaanlcilaaDoorMem
import Derived.Maps.OwnSet
namespace Go.Proofs.YtihginaanlcilaaDoor
open Go.RowKit Go.Maps

/-- block b is a map of n keys that holds at each small x just what F tells -/
def IntM (w : World) (b n : Nat) (F : Int → Option Nat) : Prop :=
  ∃ D : DataW Unit, w.ownsMap Tryd.prog 3 (plainElem Tryd.prog 3) b n D ∧ Maps.size D = n ∧ ∀ x : Int, -1000000 < x → x < 1000000 →
    Maps.has D (.int .i64 x) = (F x).isSome ∧ ∀ y, F x = some y → y < 1000000 ∧ ∀ z, D.atKey (.int .i64 x) z = .lit (.int .i64 (y : Int))

theorem int_law : Keyed Tryd.prog 3 := int_keyed Tryd.underlying3
theorem int_zeroV (w : World) : (zeroValue 3).run Tryd.prog w = .ok (.int .i64 0) w := by kernel_rfl
theorem int_key {x : Int} (h1 : -1000000 < x) (h2 : x < 1000000) : keyOf Tryd.prog 3 (.int .i64 x) = some (.int .i64 x) := keyOf_int_mk Tryd.underlying3 (WalkArith.wf_i64 (by omega))

theorem IntM.made (w : World) : IntM (w.alloc (.map #[] 0)) w.heap.size 0 (fun _ => none) :=
  ⟨.map [], World.ownsMap_made _ _ _ _, rfl, fun x _ _ => ⟨rfl, fun y h => by cases h⟩⟩
theorem IntM.block {w w' : World} {b n : Nat} {F : Int → Option Nat} (h : IntM w b n F) (e : w'.heap[b]? = w.heap[b]?) : IntM w' b n F := by
  obtain ⟨D, ⟨es, clock, hb, r⟩, h0, h2⟩ := h
  exact ⟨D, ⟨es, clock, by rw [e]; exact hb, r⟩, h0, h2⟩
theorem IntM.lt {w : World} {b n : Nat} {F : Int → Option Nat} (h : IntM w b n F) : b < w.heap.size := by
  obtain ⟨D, h1, _⟩ := h
  exact h1.lt

theorem IntM.look {w : World} {b n : Nat} {F : Int → Option Nat} (h : IntM w b n F) {x : Int} (h1 : -1000000 < x) (h2 : x < 1000000) :
    (Instr.lookup 84 (.map (some b)) (.int .i64 x) true).run Tryd.prog w = .ok (.tuple #[.int .i64 (((F x).getD 0 : Nat) : Int), .bool (F x).isSome]) w := by
  obtain ⟨D, hD, _, hF⟩ := h
  obtain ⟨v, ps, hrun, hv⟩ := hD.look_ok int_law Tryd.underlying84 (int_zeroV w) (plainElem_int (H := Unit) Tryd.underlying3 (WalkArith.wf_i64 (by omega))) (int_key h1 h2)
  obtain ⟨c, rfl, hc, _⟩ := plainElem_int_inv Tryd.underlying3 hv
  have hx := hF x h1 h2
  rw [hrun, hx.1]
  cases hf : F x with
  | none =>
    have hno : Maps.has D (.int .i64 x) = false := by rw [hx.1, hf]; rfl
    rw [atKey_of_not_has hno] at hc
    have : c = 0 := by simpa using (congrArg Prod.fst hc).symm
    subst this; rfl
  | some y =>
    rw [(hx.2 y hf).2] at hc
    have : c = (y : Int) := by simpa using (congrArg Prod.fst hc).symm
    subst this; rfl

theorem IntM.store {w : World} {b n : Nat} {F : Int → Option Nat} (h : IntM w b n F) (hn : n < maxLen) {x : Int} (h1 : -1000000 < x) (h2 : x < 1000000) (hx : F x = none) {y : Nat} (hy : y < 1000000) :
    ∃ w', (Instr.mapUpdate 84 (.map (some b)) (.int .i64 x) (.int .i64 (y : Int))).run Tryd.prog w = .ok () w' ∧ IntM w' b (n + 1) (fun x' => if x' = x then some y else F x') ∧ w.mapTurned w' b := by
  obtain ⟨D, hD, hsz, hF⟩ := h
  have hno : Maps.has D (.int .i64 x) = false := by rw [(hF x h1 h2).1, hx]; rfl
  obtain ⟨w', hrun, hown, ht⟩ := hD.store int_law Tryd.underlying84 hn (int_key h1 h2) (plainElem_int (H := Unit) Tryd.underlying3 (a := (y : Int)) (WalkArith.wf_i64 (by omega)))
  refine ⟨w', hrun, ⟨_, hown, by rw [size_put (hD.tidy int_law), hno, hsz]; rfl, fun x' h3 h4 => ?_⟩, ht⟩
  by_cases e : x' = x
  · subst e
    simp only [if_true]
    refine ⟨has_put_same hD.isMap (int_law.key (int_key h1 h2)) _, fun y' hy' => ?_⟩
    obtain rfl : y = y' := by simpa using hy'
    exact ⟨hy, fun z => atKey_put_same hD.isMap (int_law.key (int_key h1 h2)) _ z⟩
  · have hne : (Lit.int .i64 x') ≠ .int .i64 x := by intro e'; exact e (by simpa using e')
    simp only [if_neg e]
    rw [has_put_other hne]
    refine ⟨(hF x' h3 h4).1, fun y' hy' => ⟨((hF x' h3 h4).2 y' hy').1, fun z => ?_⟩⟩
    rw [atKey_put_other hne]
    exact ((hF x' h3 h4).2 y' hy').2 z
theorem IntM.len {w : World} {b n : Nat} {F : Int → Option Nat} (h : IntM w b n F) (ty : TypeId) : (Builtin.len_ #[84] ty #[.map (some b)]).run Tryd.prog w = .ok (.int .i64 (n : Int)) w := by
  obtain ⟨D, hD, hsz, _⟩ := h
  rw [hD.len Tryd.underlying84 ty, hsz]
end Go.Proofs.YtihginaanlcilaaDoor
