/- Marks of the states that lead to a label, state by state. No program in sight. -/
import Derived.Test.YtloooajippcdlaaDoorAlive
namespace Go.Proofs.YtloooajippcdlaaDoor
open Go.RowKit
namespace RM
open LM (Aut)

def put (M : Nat → Bool) (s : Nat) (v : Bool) (q : Nat) : Bool := if q = s then v else M q
theorem put_same (M : Nat → Bool) (s : Nat) : put M s (M s) = M := by funext q; unfold put; split <;> simp_all
theorem put_true {M : Nat → Bool} {s : Nat} (h : M s = true) : put M s true = M := by have := put_same M s; rw [h] at this; exact this
theorem put_false {M : Nat → Bool} {s : Nat} (h : M s = false) : put M s false = M := by have := put_same M s; rw [h] at this; exact this
theorem put_mk (M : Nat → Bool) (s : Nat) : put M s true = mk M s := rfl
theorem dead_le_n (M : Nat → Bool) : ∀ m, dead M m ≤ m
  | 0 => Nat.le_refl _
  | m + 1 => by have := dead_le_n M m; simp only [dead]; cases M m <;> simp <;> omega

/-- a pass, before entry c of state s; l: the state's label has been looked at -/
structure Rch (A : Aut) (M0 M : Nat → Bool) (s : Nat) (l : Bool) (c : Nat) : Prop where
  sound : ∀ t, t < A.n → M t = true → Live A t
  sub : ∀ t, M0 t = true → M t = true
  how : dead M A.n < dead M0 A.n ∨ (M = M0 ∧ (∀ t, (t < s ∨ (t = s ∧ l = true)) → 0 ≤ A.lb t → M t = true) ∧ ∀ t k, (t < s ∨ (t = s ∧ k < c)) → k < 256 → M (A.nx t k) = true → M t = true)
variable {A : Aut} {M0 M : Nat → Bool} {s c : Nat} {l : Bool}
theorem Rch.start (h : ∀ t, t < A.n → M t = true → Live A t) : Rch A M M 0 false 0 := ⟨h, fun _ e => e, .inr ⟨rfl, fun t ht => ht.elim (fun h => absurd h (Nat.not_lt_zero _)) (fun h => by cases h.2), fun t k ht => by omega⟩⟩
theorem Rch.grow (h : Rch A M0 M s l c) (hs : s < A.n) (hl : Live A s) (h0 : M s = false) {l' : Bool} {c' : Nat} : Rch A M0 (put M s true) s l' c' := by
  refine ⟨fun t ht hm => ?_, fun t hm => ?_, .inl ?_⟩
  · unfold put at hm
    split at hm
    · rename_i e; subst e; exact hl
    · exact h.sound t ht hm
  · unfold put; split
    · rfl
    · exact h.sub t hm
  · rw [put_mk]
    have h1 := dead_lt M h0 A.n hs
    rcases h.how with h2 | h2
    · omega
    · rw [← h2.1]; exact h1
theorem Rch.lab (h : Rch A M0 M s false 0) (hs : s < A.n) : Rch A M0 (put M s (M s || decide (0 ≤ A.lb s))) s true 0 := by
  cases hm : M s with
  | true =>
    rw [Bool.true_or, put_true hm]
    refine ⟨h.sound, h.sub, h.how.imp id fun ⟨h1, h2, h3⟩ => ⟨h1, fun t ht hl => ?_, h3⟩⟩
    by_cases e : t = s
    · subst e; exact hm
    · exact h2 t (.inl (by omega)) hl
  | false =>
    rw [Bool.false_or]
    by_cases hl : 0 ≤ A.lb s
    · rw [decide_eq_true hl]; exact h.grow hs (live_label hl) hm
    · rw [decide_eq_false hl, put_false hm]
      refine ⟨h.sound, h.sub, h.how.imp id fun ⟨h1, h2, h3⟩ => ⟨h1, fun t ht hl' => ?_, h3⟩⟩
      by_cases e : t = s
      · subst e; exact absurd hl' hl
      · exact h2 t (.inl (by omega)) hl'
theorem Rch.ent (h : Rch A M0 M s true c) (hA : A.ok) (hs : s < A.n) (hc : c < 256) : Rch A M0 (put M s (M s || M (A.nx s c))) s true (c + 1) := by
  have hsame : (M s = true ∨ M (A.nx s c) = false) → Rch A M0 M s true (c + 1) := fun ho =>
    ⟨h.sound, h.sub, h.how.imp id fun ⟨h1, h2, h3⟩ => ⟨h1, h2, fun t k ht hk hm => by
      by_cases e : t = s ∧ k = c
      · obtain ⟨rfl, rfl⟩ := e
        rcases ho with ho | ho
        · exact ho
        · rw [ho] at hm; cases hm
      · exact h3 t k (by omega) hk hm⟩⟩
  cases hm : M s with
  | true => rw [Bool.true_or, put_true hm]; exact hsame (.inl hm)
  | false =>
    rw [Bool.false_or]
    cases hn : M (A.nx s c) with
    | true => exact h.grow hs (live_step hc (h.sound _ (hA.2 s c hs hc) hn)) hm
    | false => rw [put_false hm]; exact hsame (.inr hn)
theorem Rch.row (h : Rch A M0 M s true 256) : Rch A M0 M (s + 1) false 0 :=
  ⟨h.sound, h.sub, h.how.imp id fun ⟨h1, h2, h3⟩ => ⟨h1, fun t ht hl => h2 t (ht.elim (fun h1 => if e2 : t < s then .inl e2 else .inr ⟨by omega, rfl⟩) (fun h1 => by cases h1.2)) hl, fun t k ht hk hm => h3 t k (by omega) hk hm⟩⟩

/-- how far the marks are after k passes -/
def RchInv (A : Aut) (M : Nat → Bool) (k : Nat) : Prop := (∀ t, t < A.n → M t = true → Live A t) ∧ ((∀ t, t < A.n → M t = liveB A t) ∨ dead M A.n + k ≤ A.n)
theorem RchInv.begin (A : Aut) : RchInv A (fun _ => false) 0 := ⟨fun _ _ e => (by cases e), .inr (by have := dead_le_n (fun _ => false) A.n; omega)⟩
theorem Rch.next {k : Nat} (hA : A.ok) (h0 : RchInv A M0 k) (h : Rch A M0 M A.n false 0) : RchInv A M (k + 1) := by
  refine ⟨h.sound, ?_⟩
  rcases h0.2 with h1 | h1
  · left
    intro t ht
    rw [Bool.eq_iff_iff, liveB_iff]
    exact ⟨h.sound t ht, fun hl => h.sub t (by rw [h1 t ht]; exact liveB_iff.2 hl)⟩
  · rcases h.how with h2 | ⟨rfl, h2, h3⟩
    · right; omega
    · left
      intro t ht
      exact live_eq hA (fun t ht hl => h2 t (.inl ht) hl) (fun t c ht hc hm => h3 t c (.inl ht) hc hm) h.sound ht
theorem RchInv.done (h : RchInv A M (A.n + 1)) {t : Nat} (ht : t < A.n) : M t = liveB A t := by
  rcases h.2 with h1 | h1
  · exact h1 t ht
  · omega
end RM
end Go.Proofs.YtloooajippcdlaaDoor
