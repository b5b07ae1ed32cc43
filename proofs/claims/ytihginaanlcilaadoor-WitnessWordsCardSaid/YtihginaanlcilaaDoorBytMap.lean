/- A map from numbers to slices of bytes that the call itself makes. -/
import Derived.Test.YtihginaanlcilaaDoorIntMap
namespace Go.Proofs.YtihginaanlcilaaDoor
open Go.RowKit Go.Maps

/-- an element, read: a slice as its four numbers -/
def slE (v : Value) : Option (DataW Unit × List MemPlace) :=
  match v with
  | .slice none 0 0 => some (.nil, [])
  | .slice (some ⟨g, o, none⟩) n c => some (.agg [.lit (.int .i64 (g : Int)), .lit (.int .i64 (o : Int)), .lit (.int .i64 (n : Int)), .lit (.int .i64 (c : Int))], [])
  | _ => none

theorem slE_inj {v v' : Value} {z z' : DataW Unit × List MemPlace} (h : slE v = some z) (h' : slE v' = some z') (e : z.1 = z'.1) : v = v' := by
  unfold slE at h h'
  split at h
  · simp only [Option.some.injEq] at h
    subst h
    split at h'
    · rfl
    · simp only [Option.some.injEq] at h'
      subst h'
      simp at e
    · cases h'
  · simp only [Option.some.injEq] at h
    subst h
    split at h'
    · simp only [Option.some.injEq] at h'
      subst h'
      simp at e
    · simp only [Option.some.injEq] at h'
      subst h'
      simp only [DataW.agg.injEq, List.cons.injEq, DataW.lit.injEq, Lit.int.injEq, and_true, true_and] at e
      obtain ⟨e1, e2, e3, e4⟩ := e
      have e1 := Int.ofNat_inj.1 e1
      have e2 := Int.ofNat_inj.1 e2
      have e3 := Int.ofNat_inj.1 e3
      have e4 := Int.ofNat_inj.1 e4
      subst e1; subst e2; subst e3; subst e4
      rfl
    · cases h'
  · cases h
theorem slE_places {v : Value} {z : DataW Unit × List MemPlace} (h : slE v = some z) : z.2 = [] := by
  unfold slE at h
  split at h
  · simp only [Option.some.injEq] at h; subst h; rfl
  · simp only [Option.some.injEq] at h; subst h; rfl
  · cases h
theorem slE_nil : slE (.slice none 0 0) = some (.nil, []) := rfl

theorem own_slE {w : World} {B : Nat} {e : TypeId} {size n : Nat} {v : Value} {xs : List Value} (h : w.ownsRow B e size v n xs) : ∃ d, slE v = some (d, []) := by
  rcases h.2 with ⟨rfl, rfl⟩ | ⟨g, cap, _, rfl, _⟩
  · exact ⟨_, rfl⟩
  · exact ⟨_, rfl⟩

def BytM (w : World) (b n : Nat) (F : Int → Option Value) : Prop :=
  ∃ D : DataW Unit, w.ownsMap Tryd.prog 3 slE b n D ∧ ∀ x : Int, -1000000 < x → x < 1000000 →
    Maps.has D (.int .i64 x) = (F x).isSome ∧ ∀ v, F x = some v → ∃ d, slE v = some (d, []) ∧ ∀ z, D.atKey (.int .i64 x) z = d

theorem bytes_zeroV (w : World) : (zeroValue 28).run Tryd.prog w = .ok (.slice none 0 0) w := by kernel_rfl

theorem BytM.made (w : World) : BytM (w.alloc (.map #[] 0)) w.heap.size 0 (fun _ => none) :=
  ⟨.map [], World.ownsMap_made _ _ _ _, fun x _ _ => ⟨rfl, fun y h => by cases h⟩⟩
theorem BytM.block {w w' : World} {b n : Nat} {F : Int → Option Value} (h : BytM w b n F) (e : w'.heap[b]? = w.heap[b]?) : BytM w' b n F := by
  obtain ⟨D, ⟨es, clock, hb, r⟩, h2⟩ := h
  exact ⟨D, ⟨es, clock, by rw [e]; exact hb, r⟩, h2⟩
theorem BytM.lt {w : World} {b n : Nat} {F : Int → Option Value} (h : BytM w b n F) : b < w.heap.size := by
  obtain ⟨D, h1, _⟩ := h
  exact h1.lt

theorem BytM.look {w : World} {b n : Nat} {F : Int → Option Value} (h : BytM w b n F) {x : Int} (h1 : -1000000 < x) (h2 : x < 1000000) :
    (Instr.lookup 88 (.map (some b)) (.int .i64 x) true).run Tryd.prog w = .ok (.tuple #[(F x).getD (.slice none 0 0), .bool (F x).isSome]) w := by
  obtain ⟨D, hD, hF⟩ := h
  obtain ⟨v, ps, hrun, hv⟩ := hD.look_ok int_law Tryd.underlying88 (bytes_zeroV w) slE_nil (int_key h1 h2)
  have hx := hF x h1 h2
  rw [hrun, hx.1]
  cases hf : F x with
  | none =>
    have hno : Maps.has D (.int .i64 x) = false := by rw [hx.1, hf]; rfl
    rw [atKey_of_not_has hno] at hv
    rw [slE_inj hv slE_nil rfl]
    rfl
  | some y =>
    obtain ⟨d, hd, hat⟩ := hx.2 y hf
    rw [hat] at hv
    rw [slE_inj hv hd rfl]
    rfl

theorem BytM.store {w : World} {b n : Nat} {F : Int → Option Value} (h : BytM w b n F) (hn : n < maxLen) {x : Int} (h1 : -1000000 < x) (h2 : x < 1000000) {v : Value} (hv : ∃ d, slE v = some (d, [])) :
    ∃ w', (Instr.mapUpdate 88 (.map (some b)) (.int .i64 x) v).run Tryd.prog w = .ok () w' ∧ BytM w' b (n + 1) (fun x' => if x' = x then some v else F x') ∧ w.mapTurned w' b := by
  obtain ⟨D, hD, hF⟩ := h
  obtain ⟨d, hd⟩ := hv
  obtain ⟨w', hrun, hown, ht⟩ := hD.store int_law Tryd.underlying88 hn (int_key h1 h2) hd
  refine ⟨w', hrun, ⟨_, hown, fun x' h3 h4 => ?_⟩, ht⟩
  by_cases e : x' = x
  · subst e
    simp only [if_true]
    refine ⟨has_put_same hD.isMap (int_law.key (int_key h1 h2)) _, fun y' hy' => ?_⟩
    obtain rfl : v = y' := by simpa using hy'
    exact ⟨d, hd, fun z => atKey_put_same hD.isMap (int_law.key (int_key h1 h2)) _ z⟩
  · have hne : (Lit.int .i64 x') ≠ .int .i64 x := by intro e'; exact e (by simpa using e')
    simp only [if_neg e]
    rw [has_put_other hne]
    refine ⟨(hF x' h3 h4).1, fun y' hy' => ?_⟩
    obtain ⟨d', hd', hat⟩ := (hF x' h3 h4).2 y' hy'
    exact ⟨d', hd', fun z => by rw [atKey_put_other hne]; exact hat z⟩
end Go.Proofs.YtihginaanlcilaaDoor
