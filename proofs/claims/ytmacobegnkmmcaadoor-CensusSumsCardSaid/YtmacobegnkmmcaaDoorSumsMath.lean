/- The words of all labels together are all words; the least automaton counts alike. No program in sight. -/
import Derived.Test.YtmacobegnkmmcaaDoorCounted
namespace Go.Proofs.YtmacobegnkmmcaaDoor

def addUp (f : Int → Nat) : List Int → Nat
  | [] => 0
  | l :: ls => f l + addUp f ls

theorem addUp_snoc (f : Int → Nat) (l : Int) : ∀ ls, addUp f (ls ++ [l]) = addUp f ls + f l
  | [] => by simp [addUp]
  | m :: ls => by simp only [List.cons_append, addUp, addUp_snoc f l ls]; omega

theorem addUp_congr {f g : Int → Nat} : ∀ {ls : List Int}, (∀ l ∈ ls, f l = g l) → addUp f ls = addUp g ls
  | [], _ => rfl
  | l :: ls, h => by simp only [addUp]; rw [h l (by simp), addUp_congr fun m hm => h m (List.mem_cons_of_mem _ hm)]

theorem addUp_sum (f : Int → Nat → Nat) (m : Nat) : ∀ ls, addUp (fun l => CM.sumTo (f l) m) ls = CM.sumTo (fun c => addUp (fun l => f l c) ls) m
  | [] => by simp only [addUp]; rw [CM.sumTo_const]; omega
  | l :: ls => by
    have hsum : ∀ (f g : Nat → Nat) m, CM.sumTo f m + CM.sumTo g m = CM.sumTo (fun i => f i + g i) m := by
      intro f g m
      induction m with
      | zero => rfl
      | succ m ih => simp only [CM.sumTo]; omega
    simp only [addUp]
    rw [addUp_sum f m ls, hsum]

theorem addUp_none (x : Int) : ∀ ls : List Int, x ∉ ls → addUp (fun l => if x = l then 1 else 0) ls = 0
  | [], _ => rfl
  | l :: ls, h => by
    simp only [List.mem_cons, not_or] at h
    simp only [addUp]
    rw [if_neg h.1, addUp_none x ls h.2]
theorem addUp_one (x : Int) : ∀ ls : List Int, ls.Nodup → x ∈ ls → addUp (fun l => if x = l then 1 else 0) ls = 1
  | [], _, h => by simp at h
  | l :: ls, hn, h => by
    rw [List.nodup_cons] at hn
    simp only [addUp]
    by_cases e : x = l
    · subst e; rw [if_pos rfl, addUp_none x ls hn.1]
    · rw [if_neg e, addUp_one x ls hn.2 (by simpa [e] using h)]

/-- the words of all labels are all words -/
theorem ways_all {d : Dn} (hm : May d) {ls : List Int} (hn : ls.Nodup) (hall : ∀ s, s < d.next.length → d.lb s ∈ ls) : ∀ n s, s < d.next.length → addUp (fun l => d.ways l n s) ls = 256 ^ n
  | 0, s, hs => by
    rw [addUp_congr (g := fun l => if d.lb s = l then 1 else 0) (fun l _ => ways_zero d l s), addUp_one _ _ hn (hall s hs), Nat.pow_zero]
  | n + 1, s, hs => by
    rw [addUp_congr (g := fun l => CM.sumTo (fun c => d.ways l n (d.nx s c)) 256) (fun l _ => ways_succ d l n s), addUp_sum,
      CM.sumTo_congr (g := fun _ => 256 ^ n) (fun c hc => ways_all hm hn hall n _ (hm.nx_lt hs hc)), CM.sumTo_const, Nat.pow_succ, Nat.mul_comm]

theorem ways_xeq {A B : LM.Aut} {label : Int} : ∀ n s t, LM.xeq A B s t → CM.ways A.nx (fun u => A.lb u == label) n s = CM.ways B.nx (fun u => B.lb u == label) n t
  | 0, s, t, h => by simp only [CM.ways, h.lb]
  | n + 1, s, t, h => by
    simp only [CM.ways]
    exact CM.sumTo_congr fun c hc => ways_xeq n _ _ (h.step hc)
end Go.Proofs.YtmacobegnkmmcaaDoor
