/- The map of the numbers of the states found: no program in sight. -/
import Derived.Test.YthnojechejckpaaDoorLeastMath
namespace Go.Proofs.YthnojechejckpaaDoor.LM

/-- F tells of each state below n the place of its class in reps -/
structure FReps (n : Nat) (P : Nat → Nat) (reps : List Nat) (F : Int → Option Nat) : Prop where
  look : ∀ s, s < n → F (P s : Int) = if idx P reps s < reps.length then some (idx P reps s) else none

theorem FReps.nil (n : Nat) (P : Nat → Nat) : FReps n P [] (fun _ => none) := ⟨fun s _ => by simp⟩
theorem FReps.old {n : Nat} {P : Nat → Nat} {reps : List Nat} {F : Int → Option Nat} {s y : Nat} (h : FReps n P reps F) (hs : s < n) (hF : F (P s : Int) = some y) : y = idx P reps s ∧ addRep P reps s = reps := by
  have h1 := h.look s hs
  rw [hF] at h1
  split at h1
  · rename_i h2
    refine ⟨by simpa using h1, if_pos h2⟩
  · cases h1
theorem FReps.new {n : Nat} {P : Nat → Nat} {reps : List Nat} {F : Int → Option Nat} {s : Nat} (h : FReps n P reps F) (hs : s < n) (hF : F (P s : Int) = none) :
    idx P reps s = reps.length ∧ addRep P reps s = reps ++ [s] ∧ FReps n P (reps ++ [s]) (fun x => if x = (P s : Int) then some reps.length else F x) := by
  have h1 := h.look s hs
  rw [hF] at h1
  have h2 : ¬ idx P reps s < reps.length := by
    intro h3; rw [if_pos h3] at h1; cases h1
  have h3 := idx_le P reps s
  have hne := idx_none h2
  refine ⟨by omega, if_neg h2, ⟨fun t ht => ?_⟩⟩
  have hadd : ∀ t, idx P (reps ++ [s]) t = if idx P reps t < reps.length then idx P reps t else if P s = P t then reps.length else reps.length + 1 := by
    intro t
    unfold idx
    rw [List.findIdx_append]
    split
    · rfl
    · rw [List.findIdx_cons]
      by_cases e : P s = P t
      · simp [e]
      · have e' : (P s == P t) = false := by simpa using e
        rw [e', if_neg e]
        simp [List.findIdx_nil, Nat.add_comm]
  rw [hadd t]
  by_cases e : P s = P t
  · have h5 : idx P reps t = idx P reps s := by unfold idx; rw [e]
    rw [h5, if_neg h2, if_pos e, if_pos (by omega), if_pos (by simp)]
  · rw [if_neg (show ¬ ((P t : Int) = (P s : Int)) by omega), h.look t ht]
    by_cases h6 : idx P reps t < reps.length
    · rw [if_pos h6, if_pos h6, if_pos (by simp; omega)]
    · rw [if_neg h6, if_neg h6, if_neg e, if_neg (by simp)]
end Go.Proofs.YthnojechejckpaaDoor.LM
