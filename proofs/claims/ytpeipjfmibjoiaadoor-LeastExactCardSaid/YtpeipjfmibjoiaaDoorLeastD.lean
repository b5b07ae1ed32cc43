/- The least automaton, as data: it may be, and what least_eq, apart and the order say of it. -/
import Derived.Test.YtpeipjfmibjoiaaDoorLeastS
import Derived.Test.YtpeipjfmibjoiaaDoorOrderMath
import Derived.Test.YtpeipjfmibjoiaaDoorDn
namespace Go.Proofs.YtpeipjfmibjoiaaDoor

def leastD (d : Dn) (P : Nat → Nat) : Dn := dnOf (LM.least d.aut P)

section
variable {d : Dn} (hm : May d) (P : Nat → Nat)

theorem dnOf_aut (r : List (List Nat) × List Int) : (dnOf r).aut = LM.ofRows r.1 r.2 := by
  unfold Dn.aut LM.ofRows dnOf
  congr 1
  · simp
  · funext s c
    show (((r.1.map fun (l : List Nat) => l.map fun (n : Nat) => (n : Int)).getD s []).getD c 0).toNat = _
    simp only [List.getD_eq_getElem?_getD, List.getElem?_map]
    cases h : r.1[s]? with
    | none => simp
    | some row =>
      simp only [Option.map_some, Option.getD_some, List.getElem?_map]
      cases row[c]? <;> rfl
theorem leastD_aut : (leastD d P).aut = LM.ofRows (LM.least d.aut P).1 (LM.least d.aut P).2 := dnOf_aut _

include hm
theorem leastD_is : LM.IsLeast d.aut P (LM.found d.aut P d.aut.n).1 (LM.least d.aut P).1 (LM.least d.aut P).2 := LM.isLeast hm.ok P
theorem leastD_len : (leastD d P).next.length = (LM.found d.aut P d.aut.n).1.length := by
  rw [← (leastD_is hm P).len]; simp [leastD, dnOf]
theorem leastD_le : (leastD d P).next.length ≤ d.next.length := by rw [leastD_len hm P]; exact (leastD_is hm P).le
theorem leastD_ok : (leastD d P).aut.ok := by rw [leastD_aut]; exact (leastD_is hm P).ok
theorem leastD_row {j : Nat} (hj : j < (leastD d P).next.length) : ∃ row : List Nat, (LM.least d.aut P).1[j]? = some row ∧ row.length = 256 ∧ (leastD d P).next.getD j [] = row.map fun (n : Nat) => (n : Int) := by
  rw [leastD_len hm P] at hj
  obtain ⟨row, h1, h2, _⟩ := (leastD_is hm P).row j _ (List.getElem?_eq_getElem hj)
  refine ⟨row, h1, h2, ?_⟩
  simp [leastD, dnOf, List.getD_eq_getElem?_getD, h1]
theorem leastD_entry {j c : Nat} (hj : j < (leastD d P).next.length) (hc : c < 256) : ((leastD d P).next.getD j []).getD c 0 = ((leastD d P).nx j c : Int) := by
  obtain ⟨row, h1, h2, h3⟩ := leastD_row hm P hj
  unfold Dn.nx
  rw [h3, List.getD_eq_getElem?_getD, List.getElem?_map, List.getElem?_eq_getElem (by omega)]
  simp
theorem leastD_may : May (leastD d P) := by
  have hI := leastD_is hm P
  have hl := leastD_len hm P
  have hle := leastD_le hm P
  have hlab : (leastD d P).label = (LM.found d.aut P d.aut.n).1.map d.aut.lb := hI.labels
  refine ⟨by rw [hl]; exact hI.pos, by have := hm.most; omega, by rw [hlab, hl]; simp, fun i hi => ?_, fun i hi => ?_, fun i c hi hc => ?_⟩
  · obtain ⟨row, _, h2, h3⟩ := leastD_row hm P hi
    rw [h3, List.length_map, h2]
  · rw [hlab, List.getD_eq_getElem?_getD, List.getElem?_map, List.getElem?_eq_getElem (by omega)]
    have h1 := hI.good.lt _ (List.getElem_mem (l := (LM.found d.aut P d.aut.n).1) (n := i) (by omega))
    exact hm.label _ h1
  · rw [leastD_entry hm P hi hc]
    have h1 := (leastD_ok hm P).2 i c hi hc
    have h1 : (leastD d P).nx i c < (leastD d P).next.length := h1
    omega

theorem leastD_apart (hT : LM.Tells d.aut P) : ∀ i k, i < (leastD d P).next.length → k < (leastD d P).next.length → LM.xeq (leastD d P).aut (leastD d P).aut i k → i = k := fun i k hi hk hx => by
  rw [leastD_aut] at hx
  rw [leastD_len hm P] at hi hk
  exact (leastD_is hm P).apart hm.ok hT hi hk hx

/-- how many states have been come to when rows below j are done -/
def grown (d : Dn) (P : Nat → Nat) (j : Nat) : Nat := LM.growAll 1 ((LM.least d.aut P).1.take j).flatten
/-- .. and c bytes of row j -/
def grownC (d : Dn) (P : Nat → Nat) (j c : Nat) : Nat := LM.growAll (grown d P j) (((LM.least d.aut P).1.getD j []).take c)

omit hm in
theorem grownC_zero (j : Nat) : grownC d P j 0 = grown d P j := by simp [grownC, LM.growAll]
theorem grown_lt {j : Nat} (hj : j < (leastD d P).next.length) : j < grown d P j := by
  obtain ⟨row, h1, _, _⟩ := leastD_row hm P hj
  exact (LM.least_order d.aut P h1).1
theorem grown_entry {j c : Nat} (hj : j < (leastD d P).next.length) (hc : c < 256) : (leastD d P).nx j c ≤ grownC d P j c ∧ grownC d P j (c + 1) = if (leastD d P).nx j c = grownC d P j c then grownC d P j c + 1 else grownC d P j c := by
  obtain ⟨row, h1, h2, h3⟩ := leastD_row hm P hj
  obtain ⟨e, h4, h5⟩ := (LM.least_order d.aut P h1).2 c hc
  have hn : (leastD d P).nx j c = e := by
    unfold Dn.nx
    rw [h3, List.getD_eq_getElem?_getD, List.getElem?_map, h4]; rfl
  have hr : (LM.least d.aut P).1.getD j [] = row := by rw [List.getD_eq_getElem?_getD, h1]; rfl
  unfold grownC
  rw [hr, hn]
  refine ⟨h5, ?_⟩
  rw [List.take_add_one, h4]
  show LM.growAll _ (row.take c ++ [e]) = _
  rw [LM.growAll_snoc]; rfl
theorem grown_next {j : Nat} (hj : j < (leastD d P).next.length) : grownC d P j 256 = grown d P (j + 1) := by
  obtain ⟨row, h1, h2, h3⟩ := leastD_row hm P hj
  have hr : (LM.least d.aut P).1.getD j [] = row := by rw [List.getD_eq_getElem?_getD, h1]; rfl
  unfold grownC grown
  rw [hr, show row.take 256 = row from List.take_of_length_le (by omega), show (LM.least d.aut P).1.take (j + 1) = (LM.least d.aut P).1.take j ++ [row] by rw [List.take_add_one, h1]; rfl]
  rw [List.flatten_append, LM.growAll_append]
  simp
omit hm in
theorem grow_ge (f : Nat) : ∀ l : List Nat, f ≤ LM.growAll f l
  | [] => Nat.le_refl _
  | e :: l => by
    have h1 := grow_ge (LM.grow f e) l
    have h2 : f ≤ LM.grow f e := by unfold LM.grow; split <;> omega
    have h3 : LM.growAll f (e :: l) = LM.growAll (LM.grow f e) l := rfl
    rw [h3]; omega
theorem grownC_le {j : Nat} (hj : j < (leastD d P).next.length) (c : Nat) : grownC d P j c ≤ (leastD d P).next.length := by
  obtain ⟨row, h1, h2, h3⟩ := leastD_row hm P hj
  have hr : (LM.least d.aut P).1.getD j [] = row := by rw [List.getD_eq_getElem?_getD, h1]; rfl
  have hall : LM.growAll 1 (LM.least d.aut P).1.flatten = (LM.found d.aut P d.aut.n).1.length := (LM.found_grow d.aut P d.aut.n).1
  rw [leastD_len hm P, ← hall]
  obtain ⟨hjl, hrow⟩ := List.getElem?_eq_some_iff.1 h1
  have hsplit : (LM.least d.aut P).1 = (LM.least d.aut P).1.take j ++ row :: (LM.least d.aut P).1.drop (j + 1) := by
    rw [← hrow, List.getElem_cons_drop, List.take_append_drop]
  have hf : (LM.least d.aut P).1.flatten = ((LM.least d.aut P).1.take j).flatten ++ (row.take c ++ (row.drop c ++ ((LM.least d.aut P).1.drop (j + 1)).flatten)) := by
    conv => lhs; rw [hsplit]
    rw [List.flatten_append, List.flatten_cons, ← List.append_assoc (row.take c), List.take_append_drop]
  unfold grownC grown
  rw [hr, hf, LM.growAll_append, LM.growAll_append]
  exact grow_ge _ _
end
end Go.Proofs.YtpeipjfmibjoiaaDoor
