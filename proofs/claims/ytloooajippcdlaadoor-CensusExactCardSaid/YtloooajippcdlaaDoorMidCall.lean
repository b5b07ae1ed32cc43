/- A region whose head only reads, then calls once, and then only moves values: the head walked once, the call once with whatever it tells, the rest once. (The library's laws for regions that draw their order want one fixed value of each call, or walk the orders one by one.) -/
import Derived.Test.YtloooajippcdlaaDoorQTail
namespace Go.Proofs.YtloooajippcdlaaDoor
open Go.RowKit

section
variable {P : Program} {ops : Array Oper} {md : Region.Mode} {C : World → Prop} {n : Nat}

/-- each operation behind number n waits for one at or behind n -/
def hangB (md : Region.Mode) (ops : Array Oper) (n : Nat) : Bool :=
  (List.range ops.size).all fun t => decide (t ≤ n) || (List.range ops.size).any fun s => decide (n ≤ s) && decide (s < t) && Region.waitsFor md ops t s

theorem hang_waits {n : Nat} {listed : Array Bool} (hs : Region.sinkB md ops n = true) (hc : hangB md ops n = true) (hn : n < ops.size) (inv : HeadInv md ops n listed) :
    ∀ (d i : Nat), n - i = d → i < n → listed.getD i true = false → ∀ t, n ≤ t → t ∉ Region.ready md ops listed := by
  intro d
  induction d using Nat.strongRecOn with
  | _ d ih =>
    intro i hd hi hun t ht hr
    obtain ⟨_, ot, hot, hall⟩ := mem_ready.1 hr
    have htlt : t < ops.size := (Array.getElem?_eq_some_iff.1 hot).1
    by_cases htn : t = n
    · subst htn
      have h1 := List.all_eq_true.1 hs i (List.mem_range.2 hi)
      obtain ⟨j, hj, hj2⟩ := List.any_eq_true.1 h1
      simp only [Bool.and_eq_true, decide_eq_true_eq] at hj2
      obtain ⟨oj, hoj, e, he, hb, hon⟩ := Region.waitsFor_spec hj2.2
      have hjle : j ≤ t := by have := List.mem_range.1 hj; omega
      by_cases hjt : j = t
      · subst hjt
        have : oj = ot := Option.some.inj (hoj.symm.trans hot)
        subst this
        have h2 := hall e he hb
        rw [hon, getD_both hun] at h2
        cases h2
      · cases hl : listed.getD j false with
        | true =>
          have h2 := inv.closed j oj hoj hl e he hb
          rw [hon, getD_both hun] at h2
          cases h2
        | false =>
          have hjlt : j < t := by omega
          refine ih (t - j) (by omega) j rfl hjlt ?_ t (Nat.le_refl _) hr
          exact getD_in (by rw [inv.size]; omega) hl
    · have h1 := List.all_eq_true.1 hc t (List.mem_range.2 htlt)
      simp only [Bool.or_eq_true, decide_eq_true_eq] at h1
      rcases h1 with h1 | h1
      · omega
      · obtain ⟨s, hs1, hs2⟩ := List.any_eq_true.1 h1
        simp only [Bool.and_eq_true, decide_eq_true_eq] at hs2
        obtain ⟨oj, hoj, e, he, hb, hon⟩ := Region.waitsFor_spec hs2.2
        have : oj = ot := Option.some.inj (hoj.symm.trans hot)
        subst this
        have h2 := hall e he hb
        rw [hon, getD_both (inv.tail s hs2.1.1 (by have := List.mem_range.1 hs1; omega))] at h2
        cases h2

theorem headM_first {i : Nat} {oi : Oper} {v : Value} {L : Array Bool → Act → Prop} (hi : ops[i]? = some oi) (hsel : ∀ (j : Nat) (o : Oper) cs b, ops[j]? = some o → o.op ≠ .select cs b)
    (hs : Region.sinkB md ops n = true) (hc : hangB md ops n = true) (hn : n < ops.size) (hin : i < n) (hdone : ∀ listed a, L listed a → ∀ j ∈ Region.ready md ops listed, n ≤ j) (f : Nat) :
    ∀ (listed : Array Bool) (a : Act), HeadInv md ops n listed →
      (∀ j oj, ops[j]? = some oj → j ≠ i → listed.getD j true = false → (∀ e ∈ oj.after, Region.binds md e = true → e.on ≠ i) → oi.apart ops oj = true) →
      i ∈ Region.ready md ops listed → YieldsIn P ops C oi v a → headQ P md ops C n L f (listed.setIfInBounds i true) (a.put oi.dst v) → headQ P md ops C n L (f + 1) listed a := by
  induction f with
  | zero =>
    intro listed a inv _ hr hy H
    have hun := (mem_ready.1 hr).1
    have low : ∀ j ∈ Region.ready md ops listed, j < n := fun j hj => (Nat.lt_or_ge j n).elim id fun h => absurd hj (hang_waits hs hc hn inv _ i rfl hin hun j h)
    refine ⟨List.ne_nil_of_mem hr, fun j hj => ⟨low j hj, ?_⟩⟩
    by_cases e : j = i
    · subst e; exact hy.qOp hi H
    · exact absurd (hdone _ _ H j (ready_mono hj e)) (Nat.not_le_of_lt (low j hj))
  | succ f ih =>
    intro listed a inv hfree hr hy H
    have hun := (mem_ready.1 hr).1
    have low : ∀ j ∈ Region.ready md ops listed, j < n := fun j hj => (Nat.lt_or_ge j n).elim id fun h => absurd hj (hang_waits hs hc hn inv _ i rfl hin hun j h)
    refine ⟨List.ne_nil_of_mem hr, fun j hj => ⟨low j hj, ?_⟩⟩
    by_cases e : j = i
    · subst e; exact hy.qOp hi H
    · obtain ⟨hjun, oj, hoj, hall⟩ := mem_ready.1 hj
      have hnot : ∀ x ∈ oj.after, Region.binds md x = true → x.on ≠ i := fun x hx hb hxi => by
        have h1 := hall x hx hb
        rw [hxi, getD_both hun] at h1
        cases h1
      have h1 := qOp_put hoj (hfree j oj hoj e hjun hnot) (fun cs b => hsel i oi cs b hi) (fun cs b => hsel j oj cs b hoj) hy (H.2 j (ready_mono hj e)).2
      refine qOp_mono (fun a' h2 => ih (listed.setIfInBounds j true) a' (inv.set hj (low j hj)) (fun k ok hk hki hku hno => hfree k ok hk hki ?_ hno) (ready_mono hr (Ne.symm e)) h2.1 ?_) h1
      · by_cases hjk : j = k
        · subst hjk; exact hjun
        · rw [getD_set_ne true hjk] at hku; exact hku
      · rw [Array.setIfInBounds_comm _ _ e]; exact h2.2

/-- the head's order, then number n alone, then the rest's order -/
def midB (md : Region.Mode) (ops : Array Oper) (n g : Nat) : Nat → Nat → Array Bool → Bool
  | 0, _, listed => decide (Region.ready md ops listed = [n]) && Region.lexFrom md ops g (n + 1) (listed.setIfInBounds n true)
  | f + 1, k, listed => (Region.ready md ops listed).contains k && Region.free md ops listed k && midB md ops n g f (k + 1) (listed.setIfInBounds k true)

theorem headM_lex {g : Nat} {Lq : Act → Prop} (hsel : Region.noSelect ops = true) (hs : Region.sinkB md ops n = true) (hc : hangB md ops n = true) (hn : n < ops.size) (l : List Oper) :
    ∀ (k : Nat) (listed : Array Bool) (a : Act), (∀ j, j < l.length → l[j]? = ops[k + j]?) → k + l.length = n → HeadInv md ops n listed → midB md ops n g l.length k listed = true → wpQuiet P ops C Lq l a →
      headQ P md ops C n (fun listed' a' => (Region.ready md ops listed' = [n] ∧ Region.lexFrom md ops g (n + 1) (listed'.setIfInBounds n true) = true) ∧ Lq a') l.length listed a := by
  induction l with
  | nil =>
    intro k listed a _ hk _ hB h
    simp only [List.length_nil, midB, Bool.and_eq_true, decide_eq_true_eq] at hB
    exact ⟨hB, h⟩
  | cons o l ih =>
    intro k listed a hl hk inv hB h
    have h0 : ops[k]? = some o := by simpa using (hl 0 (by simp)).symm
    simp only [List.length_cons, midB, Bool.and_eq_true] at hB
    have hkn : k < n := by simp only [List.length_cons] at hk; omega
    have hr : k ∈ Region.ready md ops listed := by simpa using hB.1.1
    have hq : qOp P ops C k (wpQuiet P ops C Lq l) a := by unfold qOp; simp only [h0]; exact h
    obtain ⟨v, hy, hK⟩ := yieldsIn_of_qOp h0 hq
    refine headM_first h0 (Region.noSelect_spec hsel) hs hc hn hkn (fun listed' a' hL j hj => by rw [hL.1.1] at hj; simp at hj; omega) l.length listed a inv (Region.free_spec h0 hB.1.2) hr hy ?_
    exact ih (k + 1) _ _ (fun j hj => by have := hl (j + 1) (by simp; omega); simpa [Nat.add_assoc, Nat.add_comm 1 j] using this) (by simp only [List.length_cons] at hk; omega) (inv.set hr hkn) hB.2 hK

def midAllB (md : Region.Mode) (ops : Array Oper) (n : Nat) : Bool :=
  Region.noSelect ops && decide (n < ops.size) && Region.sinkB md ops n && hangB md ops n && midB md ops n (ops.size - n - 1) n 0 (Array.replicate ops.size false)

theorem wp_region_mid {id : Nat} {Q : Exit → Act → World → Prop} {a : Act} {w : World} {l : List Oper} (n : Nat) (o : Oper) (rest : List Oper) (hd : l.drop n = o :: rest) (hgd : o.guard = none) (hm : P.follows .mixedOrders = true) (hB : midAllB .any l.toArray n = true)
    (h : wpQuiet P l.toArray (fun w' => w' = w.drew) (fun a' => ∀ K : Act → World → Prop, (∀ v w2 a2, a2 = a'.put o.dst v → wpQuiet P l.toArray (fun w3 => w3 = w2) (fun a3 => Q .normal a3 w2) rest a2 → K a2 w2) → o.wp P a' w.drew K Q) (l.take n) a) : (Code.region id l.toArray true).wp P Q a w := by
  simp only [midAllB, Bool.and_eq_true, decide_eq_true_eq] at hB
  obtain ⟨⟨⟨⟨hsel, hn⟩, hs⟩, hc⟩, hlex⟩ := hB
  have hn' : n < l.length := by simpa using hn
  have htl : (l.take n).length = n := by rw [List.length_take]; omega
  have hrl : rest.length = l.toArray.size - n - 1 := by
    have h1 := congrArg List.length hd
    simp at h1 ⊢
    omega
  have hon : l.toArray[n]? = some o := by
    have h1 : (l.drop n)[0]? = some o := by rw [hd]; rfl
    rw [List.getElem?_drop, Nat.add_zero] at h1
    simpa using h1
  have hre : ∀ j, rest[j]? = l.toArray[n + 1 + j]? := fun j => by
    have h1 : (l.drop n)[j + 1]? = rest[j]? := by rw [hd]; rfl
    rw [← h1, List.getElem?_drop]
    simp [Nat.add_comm, Nat.add_left_comm]
  have inv0 : HeadInv .any l.toArray n (Array.replicate l.toArray.size false) :=
    ⟨by simp, fun j oj _ hl => (by rw [getD_replicate_false] at hl; cases hl), fun t _ ht => getD_in (by simpa using ht) (getD_replicate_false _ _)⟩
  have H := headM_lex (md := .any) (C := fun w' => w' = w.drew) (g := l.toArray.size - n - 1) hsel hs hc hn (l.take n) 0 _ a (fun j hj => by rw [htl] at hj; simp [hj]) (by rw [Nat.zero_add]; exact htl) inv0 (by rw [htl]; exact hlex) h
  have H2 := any_of_headQ (C := fun w' => w' = w.drew) (g := l.toArray.size - n - 1 + 1) (Q := Q) (L := fun listed' a' => (Region.ready .any l.toArray listed' = [n] ∧ Region.lexFrom .any l.toArray (l.toArray.size - n - 1) (n + 1) (listed'.setIfInBounds n true) = true) ∧ ∀ K : Act → World → Prop, (∀ v w2 a2, a2 = a'.put o.dst v → wpQuiet P l.toArray (fun w3 => w3 = w2) (fun a3 => Q .normal a3 w2) rest a2 → K a2 w2) → o.wp P a' w.drew K Q) (fun listed a' w' hw hL => by
    subst hw
    obtain ⟨⟨hr, hlx⟩, hL⟩ := hL
    refine ⟨fun h0 => by rw [hr] at h0; simp at h0, fun i hi => ?_⟩
    rw [hr, List.mem_singleton] at hi
    subst hi
    unfold wpOp
    rw [hon]
    have hwt : Region.wanted o (yielded l.toArray a'.tmps) = true := by unfold Region.wanted; rw [hgd]
    simp only [hwt, if_true]
    refine .inl (hL _ fun v w2 a2 e2 hq => ?_)
    subst e2
    have q := wpAnyQ_lex (C := fun w3 => w3 = w2) (md := .any) hsel rest (i + 1) (listed.setIfInBounds i true) (a'.put o.dst v) hre (by rw [hrl]; exact hlx) hq
    rw [hrl] at q
    exact wpAny_of_quiet (C := fun w3 => w3 = w2) (Q := fun a3 => Q .normal a3 w2) (Q' := Q) (fun a3 w3 e h3 => by subst e; exact h3) _ _ _ _ rfl q) _ _ _ _ rfl H
  rw [htl, show n + (l.toArray.size - n - 1 + 1) = l.toArray.size by omega] at H2
  exact wp_region_any hm H2
end
end Go.Proofs.YtloooajippcdlaaDoor
