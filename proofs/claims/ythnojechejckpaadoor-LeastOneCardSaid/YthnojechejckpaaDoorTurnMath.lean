/- An automaton numbered otherwise, with copies beside it: no program in sight. -/
import Derived.Test.YthnojechejckpaaDoorLeastMath
namespace Go.Proofs.YthnojechejckpaaDoor.LM

/-- numbers of n states, the start's kept -/
structure Perm0 (n : Nat) (p : Nat → Nat) : Prop where
  zero : p 0 = 0
  lt : ∀ i, i < n → p i < n
  inj : ∀ i j, i < n → j < n → p i = p j → i = j

theorem Perm0.id (n : Nat) : Perm0 n (fun i => i) := ⟨rfl, fun _ h => h, fun _ _ _ _ h => h⟩

/-- two that are not the start change places -/
def swapP (p : Nat → Nat) (a b : Nat) (i : Nat) : Nat := if i = a then p b else if i = b then p a else p i

theorem Perm0.swap {n : Nat} {p : Nat → Nat} (h : Perm0 n p) {a b : Nat} (ha : 1 ≤ a) (ha' : a < n) (hb : 1 ≤ b) (hb' : b < n) : Perm0 n (swapP p a b) := by
  have key : ∀ i, i < n → ∃ k, k < n ∧ swapP p a b i = p k ∧ (k = if i = a then b else if i = b then a else i) := by
    intro i hi
    unfold swapP
    by_cases e1 : i = a
    · exact ⟨b, hb', by rw [if_pos e1], by rw [if_pos e1]⟩
    · by_cases e2 : i = b
      · exact ⟨a, ha', by rw [if_neg e1, if_pos e2], by rw [if_neg e1, if_pos e2]⟩
      · exact ⟨i, hi, by rw [if_neg e1, if_neg e2], by rw [if_neg e1, if_neg e2]⟩
  refine ⟨by unfold swapP; rw [if_neg (by omega), if_neg (by omega)]; exact h.zero, fun i hi => ?_, fun i j hi hj e => ?_⟩
  · obtain ⟨k, hk, e, _⟩ := key i hi
    rw [e]; exact h.lt k hk
  · obtain ⟨k, hk, e1, q1⟩ := key i hi
    obtain ⟨m, hm, e2, q2⟩ := key j hj
    have e3 := h.inj k m hk hm (by rw [← e1, ← e2, e])
    rw [q1, q2] at e3
    split at e3 <;> split at e3 <;> (try split at e3) <;> (try split at e3) <;> omega

theorem Perm0.surj {n : Nat} {p : Nat → Nat} (h : Perm0 n p) {y : Nat} (hy : y < n) : ∃ i, i < n ∧ p i = y := by
  rcases Classical.em (∃ i, i < n ∧ p i = y) with e | e
  · exact e
  · have h1 := length_le_of_inj n ((List.range n).map p ++ [y]) (fun x hx => by
      rcases List.mem_append.1 hx with hx | hx
      · obtain ⟨i, hi, rfl⟩ := List.mem_map.1 hx
        exact h.lt i (by simpa using hi)
      · rw [List.mem_singleton] at hx; rw [hx]; exact hy) (by
      refine List.nodup_append.2 ⟨?_, by simp, fun a ha b hb hab => ?_⟩
      · rw [List.nodup_iff_pairwise_ne, List.pairwise_map]
        refine List.Pairwise.imp_of_mem (fun {a b} ha hb hne he => hne (h.inj a b (by simpa using ha) (by simpa using hb) he)) (List.nodup_iff_pairwise_ne.1 List.nodup_range)
      · obtain ⟨i, hi, rfl⟩ := List.mem_map.1 ha
        rw [List.mem_singleton] at hb
        exact e ⟨i, by simpa using hi, hab.trans hb⟩)
    simp at h1
    omega

/-- y stands for the state t: as its new number, or as a copy's -/
def Rho (n : Nat) (cs : List Nat) (p : Nat → Nat) (y t : Nat) : Prop := (t < n ∧ y = p t) ∨ ∃ k, cs[k]? = some t ∧ y = n + k

theorem Rho.lt {n : Nat} {cs : List Nat} {p : Nat → Nat} (h : Perm0 n p) {y t : Nat} (hr : Rho n cs p y t) : y < n + cs.length := by
  rcases hr with ⟨h1, rfl⟩ | ⟨k, hk, rfl⟩
  · have := h.lt t h1; omega
  · have := (List.getElem?_eq_some_iff.1 hk).1; omega

theorem turned_xeq {A X : Aut} (hA : A.ok) {cs : List Nat} {p : Nat → Nat} (hlb : ∀ y t, Rho A.n cs p y t → t < A.n → X.lb y = A.lb t)
    (hnx : ∀ y t c, Rho A.n cs p y t → t < A.n → c < 256 → Rho A.n cs p (X.nx y c) (A.nx t c)) : ∀ (w : List Nat) (y t : Nat), Rho A.n cs p y t → t < A.n → Bytes w → X.lb (X.run y w) = A.lb (A.run t w)
  | [], y, t, hr, ht, _ => hlb y t hr ht
  | c :: w, y, t, hr, ht, hw => by
    have hc := hw c (by simp)
    rw [Aut.run_cons, Aut.run_cons]
    exact turned_xeq hA hlb hnx w _ _ (hnx y t c hr ht hc) (hA.2 t c ht hc) (fun d hd => hw d (List.mem_cons_of_mem _ hd))
end Go.Proofs.YthnojechejckpaaDoor.LM
