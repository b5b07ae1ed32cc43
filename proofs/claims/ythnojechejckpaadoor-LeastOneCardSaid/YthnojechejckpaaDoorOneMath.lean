/- An automaton made out of another one, numbered otherwise and with copies beside it: it may be, and the start does the same. No program in sight. -/
import Derived.Test.YthnojechejckpaaDoorTurnMath
import Derived.Test.YthnojechejckpaaDoorDn
namespace Go.Proofs.YthnojechejckpaaDoor

theorem LM.Rho.uniq {n : Nat} {cs : List Nat} {p : Nat → Nat} (hP : LM.Perm0 n p) {y t t' : Nat} (h : LM.Rho n cs p y t) (h' : LM.Rho n cs p y t') : t = t' := by
  rcases h with ⟨h1, h2⟩ | ⟨k, h1, h2⟩ <;> rcases h' with ⟨h3, h4⟩ | ⟨k', h3, h4⟩
  · exact hP.inj t t' h1 h3 (by omega)
  · have := hP.lt t h1; omega
  · have := hP.lt t' h3; omega
  · obtain rfl : k = k' := by omega
    rw [h1] at h3; simpa using h3

/-- row and label of y do for the state t -/
structure Stands (d : Dn) (cs : List Nat) (p : Nat → Nat) (y t : Nat) (row : List Nat) (lb : Int) : Prop where
  rho : LM.Rho d.next.length cs p y t
  lt : t < d.next.length
  len : row.length = 256
  to : ∀ c, c < 256 → LM.Rho d.next.length cs p (row.getD c 0) (d.nx t c)
  lab : lb = d.lb t

def turnD (N : Nat) (R : Nat → List Nat) (L : Nat → Int) : Dn := ⟨(List.range N).map fun y => (R y).map fun (n : Nat) => (n : Int), (List.range N).map L⟩

theorem turnD_len (N : Nat) (R : Nat → List Nat) (L : Nat → Int) : (turnD N R L).next.length = N ∧ (turnD N R L).label.length = N := by simp [turnD]
theorem turnD_row {N : Nat} {R : Nat → List Nat} {L : Nat → Int} {y : Nat} (hy : y < N) : (turnD N R L).next.getD y [] = (R y).map fun (n : Nat) => (n : Int) := by
  simp [turnD, List.getD_eq_getElem?_getD, hy]
theorem turnD_lb {N : Nat} {R : Nat → List Nat} {L : Nat → Int} {y : Nat} (hy : y < N) : (turnD N R L).label.getD y 0 = L y := by
  simp [turnD, List.getD_eq_getElem?_getD, hy]
theorem turnD_entry {N : Nat} {R : Nat → List Nat} {L : Nat → Int} {y c : Nat} (hy : y < N) : ((turnD N R L).next.getD y []).getD c 0 = ((R y).getD c 0 : Nat) := by
  rw [turnD_row hy]
  simp only [List.getD_eq_getElem?_getD, List.getElem?_map]
  cases (R y)[c]? <;> rfl
theorem turnD_nx {N : Nat} {R : Nat → List Nat} {L : Nat → Int} {y c : Nat} (hy : y < N) : (turnD N R L).nx y c = (R y).getD c 0 := by
  unfold Dn.nx; rw [turnD_entry hy]; simp

section
variable {d : Dn} (hm : May d) {cs : List Nat} {p : Nat → Nat} (hP : LM.Perm0 d.next.length p) {N : Nat} (hN : N = d.next.length + cs.length) {R : Nat → List Nat} {L : Nat → Int}
  (h : ∀ y, y < N → ∃ t, Stands d cs p y t (R y) (L y))
include hm hP hN h

theorem turnD_may (h6 : N ≤ 600) : May (turnD N R L) := by
  have hl := turnD_len N R L
  refine ⟨by have := hm.pos; omega, by omega, by omega, fun i hi => ?_, fun i hi => ?_, fun i c hi hc => ?_⟩
  · rw [hl.1] at hi
    obtain ⟨t, ht⟩ := h i hi
    rw [turnD_row hi, List.length_map, ht.len]
  · rw [hl.1] at hi
    obtain ⟨t, ht⟩ := h i hi
    rw [turnD_lb hi, ht.lab]
    exact hm.label t ht.lt
  · rw [hl.1] at hi
    obtain ⟨t, ht⟩ := h i hi
    rw [turnD_entry hi, hl.1]
    have := (ht.to c hc).lt hP
    omega

theorem turnD_xeq : LM.xeq (turnD N R L).aut d.aut 0 0 := by
  have hpos := hm.pos
  intro w hw
  refine LM.turned_xeq (A := d.aut) (X := (turnD N R L).aut) hm.ok (cs := cs) (p := p) (fun y t hr ht => ?_) (fun y t c hr ht hc => ?_) w 0 0 (.inl ⟨hpos, hP.zero.symm⟩) hpos hw
  · have hy : y < N := by rw [hN]; exact LM.Rho.lt hP hr
    obtain ⟨t', ht'⟩ := h y hy
    obtain rfl := LM.Rho.uniq hP hr ht'.rho
    show (turnD N R L).label.getD y 0 = d.lb t
    rw [turnD_lb hy, ht'.lab]
  · have hy : y < N := by rw [hN]; exact LM.Rho.lt hP hr
    obtain ⟨t', ht'⟩ := h y hy
    obtain rfl := LM.Rho.uniq hP hr ht'.rho
    show LM.Rho d.next.length cs p ((turnD N R L).nx y c) (d.nx t c)
    rw [turnD_nx hy]
    exact ht'.to c hc
end
end Go.Proofs.YthnojechejckpaaDoor
