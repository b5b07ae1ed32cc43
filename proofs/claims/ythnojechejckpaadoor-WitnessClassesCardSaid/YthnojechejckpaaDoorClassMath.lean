/- Classes, and least automata begun at states: no program in sight. -/
import Derived.Test.YthnojechejckpaaDoorLeastD
import Derived.Test.YthnojechejckpaaDoorBegunMath
namespace Go.Proofs.YthnojechejckpaaDoor

theorem num_step (P : Nat → Nat) (i : Nat) : LM.num P i ≤ LM.cnt P i ∧ LM.cnt P (i + 1) = if LM.num P i = LM.cnt P i then LM.cnt P i + 1 else LM.cnt P i := by
  have h1 := LM.leader_le P i
  by_cases e : LM.leader P i = i
  · have h2 : LM.num P i = LM.cnt P i := by unfold LM.num; rw [e]
    refine ⟨by omega, ?_⟩
    rw [if_pos h2]; simp only [LM.cnt]; rw [if_pos e]
  · have h2 := LM.cnt_lt_of_leader P (LM.leader_leader P i) (show LM.leader P i < i by omega)
    have h3 : LM.num P i < LM.cnt P i := h2
    refine ⟨by omega, ?_⟩
    rw [if_neg (by omega)]; simp only [LM.cnt]; rw [if_neg e, Nat.add_zero]

theorem leastD_xeq0 {d : Dn} (hm : May d) {P : Nat → Nat} (hT : LM.Tells d.aut P) : LM.xeq (leastD d P).aut d.aut 0 0 := by
  rw [leastD_aut]
  exact (leastD_is hm P).xeq0 hm.ok hT (leastD_is hm P).first
theorem leastD_congr {d e : Dn} (hd : May d) (he : May e) {P Q : Nat → Nat} (hP : LM.Tells d.aut P) (hQ : LM.Tells e.aut Q) : leastD d P = leastD e Q ↔ LM.xeq d.aut e.aut 0 0 := by
  constructor
  · intro h
    have h1 := leastD_xeq0 hd hP
    have h2 := leastD_xeq0 he hQ
    rw [h] at h1
    exact h1.symm.trans h2
  · intro h
    unfold leastD
    rw [LM.least_eq hd.ok he.ok hP hQ h]

theorem begun_least_iff {d : Dn} (hm : May d) {i k : Nat} (hi : i < d.next.length) (hk : k < d.next.length) {P Pi Pk : Nat → Nat} (hP : LM.Tells d.aut P) (h1 : LM.Tells (begunD d i).aut Pi) (h2 : LM.Tells (begunD d k).aut Pk) :
    leastD (begunD d i) Pi = leastD (begunD d k) Pk ↔ LM.num P i = LM.num P k := by
  have e1 := begun_xeq hm hi hi
  have e2 := begun_xeq hm hk hk
  rw [sw_self] at e1 e2
  rw [leastD_congr (begun_may hm hi) (begun_may hm hk) h1 h2, LM.num_eq_iff, hP i k hi hk]
  exact ⟨fun h => (e1.symm.trans h).trans e2, fun h => (e1.trans h).trans e2.symm⟩
end Go.Proofs.YthnojechejckpaaDoor
