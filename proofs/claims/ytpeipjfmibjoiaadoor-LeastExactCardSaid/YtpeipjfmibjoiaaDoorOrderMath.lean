/- The numbers of the least automaton rise as its states are come to. No program in sight. -/
import Derived.Test.YtpeipjfmibjoiaaDoorLeastMath
namespace Go.Proofs.YtpeipjfmibjoiaaDoor.LM

def grow (f e : Nat) : Nat := if e = f then f + 1 else f
def growAll (f : Nat) (l : List Nat) : Nat := l.foldl grow f
theorem growAll_snoc (f : Nat) (l : List Nat) (e : Nat) : growAll f (l ++ [e]) = grow (growAll f l) e := by simp [growAll, List.foldl_append]
theorem growAll_append (f : Nat) (l m : List Nat) : growAll f (l ++ m) = growAll (growAll f l) m := by simp [growAll, List.foldl_append]

theorem addRep_length (P : Nat → Nat) (l : List Nat) (t : Nat) : (addRep P l t).length = grow l.length (idx P l t) := by
  unfold addRep grow
  have := idx_le P l t
  by_cases h : idx P l t < l.length
  · rw [if_pos h, if_neg (by omega)]
  · rw [if_neg h, if_pos (by omega)]; simp

theorem scan_grow (A : Aut) (P : Nat → Nat) (l : List Nat) (s : Nat) : ∀ m, growAll l.length (scan A P l s m).2 = (scan A P l s m).1.length ∧
    ∀ c, c < m → ∃ e, (scan A P l s m).2[c]? = some e ∧ e ≤ growAll l.length ((scan A P l s m).2.take c)
  | 0 => ⟨rfl, fun c hc => by omega⟩
  | m + 1 => by
    obtain ⟨h1, h2⟩ := scan_grow A P l s m
    have hl := scan_length A P l s m
    simp only [scan]
    refine ⟨by rw [growAll_snoc, h1, addRep_length], fun c hc => ?_⟩
    by_cases e : c = m
    · subst e
      refine ⟨idx P (scan A P l s c).1 (A.nx s c), by rw [List.getElem?_append_right (by omega), hl]; simp, ?_⟩
      rw [List.take_append_of_le_length (by omega), List.take_of_length_le (by omega), h1]
      exact idx_le _ _ _
    · obtain ⟨x, h3, h4⟩ := h2 c (by omega)
      exact ⟨x, by rw [List.getElem?_append_left (by omega)]; exact h3, by rw [List.take_append_of_le_length (by omega)]; exact h4⟩

theorem found_grow (A : Aut) (P : Nat → Nat) : ∀ i, growAll 1 (found A P i).2.flatten = (found A P i).1.length ∧
    ∀ (j : Nat) (row : List Nat), (found A P i).2[j]? = some row → j < growAll 1 ((found A P i).2.take j).flatten ∧
      ∀ c, c < rowLen → ∃ e, row[c]? = some e ∧ e ≤ growAll (growAll 1 ((found A P i).2.take j).flatten) (row.take c)
  | 0 => ⟨rfl, fun j row h => by simp [found] at h⟩
  | i + 1 => by
    obtain ⟨h1, h2⟩ := found_grow A P i
    rw [found]
    cases hr : (found A P i).1[i]? with
    | none => exact ⟨h1, h2⟩
    | some s =>
      simp only
      have hi := (List.getElem?_eq_some_iff.1 hr).1
      have hrows := found_rows A P i (by omega)
      have hs := scan_grow A P (found A P i).1 s rowLen
      refine ⟨by rw [List.flatten_append, growAll_append, h1]; simpa using hs.1, fun j row hj => ?_⟩
      rw [List.getElem?_append] at hj
      split at hj
      · rename_i hlt
        rw [List.take_append_of_le_length (by omega)]
        exact h2 j row hj
      · rename_i hlt
        have hj2 := (List.getElem?_eq_some_iff.1 hj).1
        simp at hj2
        have e : j = (found A P i).2.length := by omega
        subst e
        simp at hj
        rw [List.take_append_of_le_length (Nat.le_refl _), List.take_of_length_le (Nat.le_refl _), h1, ← hj]
        exact ⟨by omega, hs.2⟩

theorem least_order (A : Aut) (P : Nat → Nat) {j : Nat} {row : List Nat} (h : (least A P).1[j]? = some row) : j < growAll 1 ((least A P).1.take j).flatten ∧
    ∀ c, c < 256 → ∃ e, row[c]? = some e ∧ e ≤ growAll (growAll 1 ((least A P).1.take j).flatten) (row.take c) := by
  have := (found_grow A P A.n).2 j row h
  rw [rowLen_eq] at this
  exact this

/- ---- pairs that are marked: what is left unmarked is told apart by no word ---- -/

/-- what is not marked has one label, and leads by each byte to what is not marked -/
theorem unmarked {A : Aut} (hA : A.ok) {M : Nat → Nat → Bool} (h0 : ∀ i k, i < A.n → k < A.n → M i k = false → A.lb i = A.lb k)
    (hs : ∀ i k c, i < A.n → k < A.n → c < 256 → M i k = false → M (A.nx i c) (A.nx k c) = false) : ∀ (w : List Nat) (i k : Nat), i < A.n → k < A.n → M i k = false → Bytes w → A.lb (A.run i w) = A.lb (A.run k w)
  | [], i, k, hi, hk, h, _ => h0 i k hi hk h
  | c :: w, i, k, hi, hk, h, hw => by
    have hc := hw c (by simp)
    exact unmarked hA h0 hs w _ _ (hA.2 i c hi hc) (hA.2 k c hk hc) (hs i k c hi hk hc h) (fun d hd => hw d (List.mem_cons_of_mem _ hd))
end Go.Proofs.YtpeipjfmibjoiaaDoor.LM
