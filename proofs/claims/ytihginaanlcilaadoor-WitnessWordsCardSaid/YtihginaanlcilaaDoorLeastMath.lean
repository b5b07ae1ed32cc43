/- Plain mathematics of states that cannot be told apart, and of the least automaton: no program in sight. -/
namespace Go.Proofs.YtihginaanlcilaaDoor.LM

structure Aut where
  n : Nat
  nx : Nat → Nat → Nat
  lb : Nat → Int

def Aut.ok (A : Aut) : Prop := 0 < A.n ∧ ∀ s c, s < A.n → c < 256 → A.nx s c < A.n

def Bytes (w : List Nat) : Prop := ∀ c ∈ w, c < 256

def Aut.run (A : Aut) (s : Nat) (w : List Nat) : Nat := w.foldl A.nx s

theorem Aut.run_nil (A : Aut) (s : Nat) : A.run s [] = s := rfl
theorem Aut.run_cons (A : Aut) (s c : Nat) (w : List Nat) : A.run s (c :: w) = A.run (A.nx s c) w := rfl
theorem Aut.run_append (A : Aut) (s : Nat) (u w : List Nat) : A.run s (u ++ w) = A.run (A.run s u) w := by simp [Aut.run]

theorem Aut.run_lt {A : Aut} (h : A.ok) : ∀ (w : List Nat) (s : Nat), s < A.n → Bytes w → A.run s w < A.n
  | [], _, hs, _ => hs
  | c :: w, s, hs, hw => Aut.run_lt h w (A.nx s c) (h.2 s c hs (hw c (by simp))) (fun d hd => hw d (List.mem_cons_of_mem _ hd))

/-- a state of one automaton and one of another have the same labels behind all words -/
def xeq (A B : Aut) (s t : Nat) : Prop := ∀ w, Bytes w → A.lb (A.run s w) = B.lb (B.run t w)

theorem xeq.refl (A : Aut) (s : Nat) : xeq A A s s := fun _ _ => rfl
theorem xeq.symm {A B : Aut} {s t : Nat} (h : xeq A B s t) : xeq B A t s := fun w hw => (h w hw).symm
theorem xeq.trans {A B C : Aut} {s t u : Nat} (h : xeq A B s t) (h' : xeq B C t u) : xeq A C s u := fun w hw => (h w hw).trans (h' w hw)
theorem xeq.lb {A B : Aut} {s t : Nat} (h : xeq A B s t) : A.lb s = B.lb t := h [] (by intro c hc; cases hc)
theorem xeq.step {A B : Aut} {s t : Nat} (h : xeq A B s t) {c : Nat} (hc : c < 256) : xeq A B (A.nx s c) (B.nx t c) := fun w hw =>
  h (c :: w) (fun d hd => by cases hd with | head => exact hc | tail _ hd => exact hw d hd)
theorem xeq.run {A B : Aut} : ∀ (w : List Nat) {s t : Nat}, xeq A B s t → Bytes w → xeq A B (A.run s w) (B.run t w)
  | [], _, _, h, _ => h
  | c :: w, _, _, h, hw => xeq.run w (h.step (hw c (by simp))) (fun d hd => hw d (List.mem_cons_of_mem _ hd))

/-- P tells just the states apart that some word tells apart -/
def Tells (A : Aut) (P : Nat → Nat) : Prop := ∀ s t, s < A.n → t < A.n → (P s = P t ↔ xeq A A s t)

theorem tells_of_stable {A : Aut} (hA : A.ok) {P : Nat → Nat} (hl : ∀ s t, s < A.n → t < A.n → P s = P t → A.lb s = A.lb t)
    (hs : ∀ s t c, s < A.n → t < A.n → c < 256 → P s = P t → P (A.nx s c) = P (A.nx t c)) (hc : ∀ s t, s < A.n → t < A.n → xeq A A s t → P s = P t) : Tells A P := by
  intro s t h1 h2
  refine ⟨fun h w hw => ?_, hc s t h1 h2⟩
  induction w generalizing s t with
  | nil => exact hl s t h1 h2 h
  | cons c w ih =>
    have hcc := hw c (by simp)
    exact ih _ _ (hA.2 s c h1 hcc) (hA.2 t c h2 hcc) (hs s t c h1 h2 hcc h) (fun d hd => hw d (List.mem_cons_of_mem _ hd))

/- ---- numbers in the order in which the values come first ---- -/

/-- the first index with the same value -/
def leader (P : Nat → Nat) (s : Nat) : Nat := ((List.range s).find? (fun t => P t == P s)).getD s

theorem leader_le (P : Nat → Nat) (s : Nat) : leader P s ≤ s := by
  unfold leader
  cases h : (List.range s).find? (fun t => P t == P s) with
  | none => simp
  | some t => have := List.mem_of_find?_eq_some h; simp at this; simp; omega

theorem leader_val (P : Nat → Nat) (s : Nat) : P (leader P s) = P s := by
  unfold leader
  cases h : (List.range s).find? (fun t => P t == P s) with
  | none => simp
  | some t => have := List.find?_some h; simpa using this

theorem leader_least (P : Nat → Nat) (s t : Nat) (h : P t = P s) : leader P s ≤ t := by
  rcases Nat.lt_or_ge t s with hts | hts
  · unfold leader
    cases hf : (List.range s).find? (fun t => P t == P s) with
    | none => have := List.find?_eq_none.1 hf t (by simpa using hts); simp [h] at this
    | some u =>
      simp only [Option.getD_some]
      rcases Nat.lt_or_ge t u with h1 | h1
      · exfalso
        rw [List.find?_range_eq_some] at hf
        have := hf.2.2 t h1
        simp [h] at this
      · exact h1
  · exact Nat.le_trans (leader_le P s) hts

theorem leader_eq_of (P : Nat → Nat) {s t : Nat} (h : P s = P t) : leader P s = leader P t :=
  Nat.le_antisymm (leader_least P s _ ((leader_val P t).trans h.symm)) (leader_least P t _ ((leader_val P s).trans h))

theorem leader_eq_iff (P : Nat → Nat) {s t : Nat} : leader P s = leader P t ↔ P s = P t :=
  ⟨fun h => (leader_val P s).symm.trans ((congrArg P h).trans (leader_val P t)), leader_eq_of P⟩

theorem leader_leader (P : Nat → Nat) (s : Nat) : leader P (leader P s) = leader P s := leader_eq_of P (leader_val P s)

/-- so many values are new among the first m -/
def cnt (P : Nat → Nat) : Nat → Nat
  | 0 => 0
  | m + 1 => cnt P m + if leader P m = m then 1 else 0

theorem cnt_mono (P : Nat → Nat) {a b : Nat} (h : a ≤ b) : cnt P a ≤ cnt P b := by
  induction b with
  | zero => obtain rfl : a = 0 := by omega
            exact Nat.le_refl _
  | succ b ih =>
    by_cases e : a = b + 1
    · subst e; exact Nat.le_refl _
    · have := ih (by omega); simp only [cnt]; omega

theorem cnt_le (P : Nat → Nat) : ∀ m, cnt P m ≤ m
  | 0 => Nat.le_refl _
  | m + 1 => by have := cnt_le P m; simp only [cnt]; split <;> omega

def num (P : Nat → Nat) (s : Nat) : Nat := cnt P (leader P s)

theorem cnt_lt_of_leader (P : Nat → Nat) {s m : Nat} (h : leader P s = s) (hs : s < m) : cnt P s < cnt P m := by
  have h1 := cnt_mono P (a := s + 1) (b := m) hs
  simp only [cnt, if_pos h] at h1
  omega

theorem num_lt (P : Nat → Nat) {s m : Nat} (h : s < m) : num P s < cnt P m :=
  cnt_lt_of_leader P (leader_leader P s) (Nat.lt_of_le_of_lt (leader_le P s) h)

theorem num_eq_iff (P : Nat → Nat) {s t : Nat} : num P s = num P t ↔ P s = P t := by
  refine ⟨fun h => ?_, fun h => by unfold num; rw [leader_eq_of P h]⟩
  unfold num at h
  rcases Nat.lt_trichotomy (leader P s) (leader P t) with h1 | h1 | h1
  · have := cnt_lt_of_leader P (leader_leader P s) h1; omega
  · exact (leader_eq_iff P).1 h1
  · have := cnt_lt_of_leader P (leader_leader P t) h1; omega

/-- two ways to tell the same states apart give the same numbers -/
theorem leader_congr {P Q : Nat → Nat} {m : Nat} (h : ∀ s t, s < m → t < m → (P s = P t ↔ Q s = Q t)) {s : Nat} (hs : s < m) : leader P s = leader Q s := by
  have h1 := leader_le P s
  have h2 := leader_le Q s
  refine Nat.le_antisymm (leader_least P s _ ?_) (leader_least Q s _ ?_)
  · exact (h _ _ (by omega) hs).2 (leader_val Q s)
  · exact (h _ _ (by omega) hs).1 (leader_val P s)

theorem cnt_congr {P Q : Nat → Nat} {m : Nat} (h : ∀ s t, s < m → t < m → (P s = P t ↔ Q s = Q t)) : ∀ k, k ≤ m → cnt P k = cnt Q k
  | 0, _ => rfl
  | k + 1, hk => by simp only [cnt]; rw [cnt_congr h k (by omega), leader_congr h (by omega)]

theorem num_congr {P Q : Nat → Nat} {m : Nat} (h : ∀ s t, s < m → t < m → (P s = P t ↔ Q s = Q t)) {s : Nat} (hs : s < m) : num P s = num Q s := by
  unfold num
  rw [leader_congr h hs, cnt_congr h _ (by have := leader_le Q s; omega)]

/- ---- the least automaton: states in the order in which they are found ---- -/

/-- where a state of the same class stands in the list; its length: nowhere -/
def idx (P : Nat → Nat) (reps : List Nat) (t : Nat) : Nat := reps.findIdx (fun r => P r == P t)

def addRep (P : Nat → Nat) (reps : List Nat) (t : Nat) : List Nat := if idx P reps t < reps.length then reps else reps ++ [t]

/-- a row's first m entries: the states found by then, the numbers -/
def scan (A : Aut) (P : Nat → Nat) (reps : List Nat) (s : Nat) : Nat → List Nat × List Nat
  | 0 => (reps, [])
  | m + 1 =>
    let r := scan A P reps s m
    (addRep P r.1 (A.nx s m), r.2 ++ [idx P r.1 (A.nx s m)])

/-- so many bytes there are (a name: the elaborator is not to count) -/
@[irreducible] def rowLen : Nat := 256
theorem rowLen_eq : rowLen = 256 := by unfold rowLen; rfl

/-- the first i states are done -/
def found (A : Aut) (P : Nat → Nat) : Nat → List Nat × List (List Nat)
  | 0 => ([0], [])
  | i + 1 =>
    let r := found A P i
    match r.1[i]? with
    | none => r
    | some s => let q := scan A P r.1 s rowLen; (q.1, r.2 ++ [q.2])

theorem idx_le (P : Nat → Nat) (reps : List Nat) (t : Nat) : idx P reps t ≤ reps.length := List.findIdx_le_length

theorem idx_lt {P : Nat → Nat} {reps : List Nat} {t : Nat} (h : idx P reps t < reps.length) : P (reps[idx P reps t]'h) = P t := by
  have := List.findIdx_getElem (p := fun r => P r == P t) (xs := reps) (w := h)
  exact beq_iff_eq.1 this

theorem idx_none {P : Nat → Nat} {reps : List Nat} {t : Nat} (h : ¬ idx P reps t < reps.length) : ∀ r ∈ reps, P r ≠ P t := by
  intro r hr e
  exact h (List.findIdx_lt_length_of_exists ⟨r, hr, by simp [e]⟩)

theorem addRep_prefix (P : Nat → Nat) (reps : List Nat) (t : Nat) : reps <+: addRep P reps t := by
  unfold addRep; split
  · exact List.prefix_refl _
  · exact List.prefix_append _ _

theorem scan_prefix (A : Aut) (P : Nat → Nat) (reps : List Nat) (s : Nat) : ∀ m, reps <+: (scan A P reps s m).1
  | 0 => List.prefix_refl _
  | m + 1 => (scan_prefix A P reps s m).trans (addRep_prefix _ _ _)

theorem scan_length (A : Aut) (P : Nat → Nat) (reps : List Nat) (s : Nat) : ∀ m, (scan A P reps s m).2.length = m
  | 0 => rfl
  | m + 1 => by simp [scan, scan_length A P reps s m]

theorem found_prefix (A : Aut) (P : Nat → Nat) (i : Nat) : (found A P i).1 <+: (found A P (i + 1)).1 := by
  rw [found]
  cases h : (found A P i).1[i]? with
  | none => exact List.prefix_refl _
  | some s => exact scan_prefix A P (found A P i).1 s rowLen

theorem idx_prefix {P : Nat → Nat} {l l' : List Nat} (h : l <+: l') {t : Nat} (ht : idx P l t < l.length) : idx P l' t = idx P l t := by
  obtain ⟨u, rfl⟩ := h
  unfold idx at *
  rw [List.findIdx_append, if_pos ht]

theorem idx_addRep (P : Nat → Nat) (reps : List Nat) (t : Nat) : idx P (addRep P reps t) t = idx P reps t ∧ idx P reps t < (addRep P reps t).length := by
  unfold addRep
  split
  · rename_i h; exact ⟨rfl, h⟩
  · rename_i h
    have h1 : idx P reps t = reps.length := Nat.le_antisymm (idx_le _ _ _) (by omega)
    refine ⟨?_, by simp only [List.length_append, List.length_cons, List.length_nil]; omega⟩
    have h2 : List.findIdx (fun r => P r == P t) [t] = 0 := by simp [List.findIdx_cons]
    show List.findIdx (fun r => P r == P t) (reps ++ [t]) = _
    rw [List.findIdx_append, h2, h1]
    have h3 : ¬ List.findIdx (fun r => P r == P t) reps < reps.length := h
    rw [if_neg h3]
    exact Nat.zero_add _

/-- all that a list of states found must be: states, no two of one class -/
structure Reps (A : Aut) (P : Nat → Nat) (l : List Nat) : Prop where
  lt : ∀ r ∈ l, r < A.n
  apart : ∀ i j (hi : i < l.length) (hj : j < l.length), P l[i] = P l[j] → i = j

theorem Reps.add {A : Aut} {P : Nat → Nat} {l : List Nat} (h : Reps A P l) {t : Nat} (ht : t < A.n) : Reps A P (addRep P l t) := by
  unfold addRep
  split
  · exact h
  · rename_i hn
    have hno := idx_none hn
    refine ⟨fun r hr => ?_, fun i j hi hj e => ?_⟩
    · rcases List.mem_append.1 hr with hr | hr
      · exact h.lt r hr
      · simp at hr; omega
    · simp only [List.length_append, List.length_cons, List.length_nil] at hi hj
      simp only [List.getElem_append] at e
      split at e <;> split at e
      · exact h.apart _ _ _ _ e
      · simp at e; exact absurd e (hno _ (List.getElem_mem _))
      · simp at e; exact absurd e.symm (hno _ (List.getElem_mem _))
      · omega

theorem Reps.scan {A : Aut} (hA : A.ok) {P : Nat → Nat} {l : List Nat} (h : Reps A P l) {s : Nat} (hs : s < A.n) : ∀ m, m ≤ 256 → Reps A P (scan A P l s m).1
  | 0, _ => h
  | m + 1, hm => (Reps.scan hA h hs m (by omega)).add (hA.2 s m hs (by omega))

theorem Reps.found {A : Aut} (hA : A.ok) (P : Nat → Nat) : ∀ i, Reps A P (found A P i).1
  | 0 => by
    show Reps A P [0]
    exact ⟨fun r hr => by obtain rfl := List.mem_singleton.1 hr; exact hA.1, fun i j hi hj _ => by simp only [List.length_cons, List.length_nil] at hi hj; omega⟩
  | i + 1 => by
    have ih := Reps.found hA P i
    rw [LM.found]
    cases hs : (LM.found A P i).1[i]? with
    | none => exact ih
    | some s => exact ih.scan hA (ih.lt s (List.mem_of_getElem? hs)) rowLen (by rw [rowLen_eq]; exact Nat.le_refl _)

/-- a list of different numbers below n is not longer than n -/
theorem length_le_of_inj : ∀ (n : Nat) (l : List Nat), (∀ x ∈ l, x < n) → l.Nodup → l.length ≤ n
  | 0, l, h, _ => by
    cases l with
    | nil => simp
    | cons x l => have := h x (by simp); omega
  | n + 1, l, h, hd => by
    have h1 := length_le_of_inj n (l.filter (fun x => x != n)) (fun x hx => by
      have := List.mem_filter.1 hx
      have h2 := h x this.1
      have h3 : x ≠ n := by simpa using this.2
      omega) (hd.filter _)
    have h2 : (l.filter (fun x => !(x != n))).length ≤ 1 := by
      have hnd : (l.filter (fun x => !(x != n))).Nodup := hd.filter _
      have hall : ∀ x ∈ l.filter (fun x => !(x != n)), x = n := fun x hx => by have := (List.mem_filter.1 hx).2; simpa using this
      generalize l.filter (fun x => !(x != n)) = k at *
      match k, hnd, hall with
      | [], _, _ => simp
      | [x], _, _ => simp
      | x :: y :: k, hnd, hall =>
        have e1 := hall x (by simp)
        have e2 := hall y (by simp)
        subst e1; subst e2
        simp at hnd
    have h3 := List.length_eq_countP_add_countP (l := l) (fun x => x != n)
    rw [List.countP_eq_length_filter, List.countP_eq_length_filter] at h3
    have h4 : (List.filter (fun a => decide ¬(a != n) = true) l) = l.filter (fun x => !(x != n)) := by
      congr 1; funext a; cases a != n <;> rfl
    rw [h4] at h3
    omega

theorem Reps.length_le {A : Aut} {P : Nat → Nat} {l : List Nat} (h : Reps A P l) : l.length ≤ A.n := by
  refine length_le_of_inj A.n l h.lt ?_
  rw [List.nodup_iff_pairwise_ne, List.pairwise_iff_getElem]
  intro i j hi hj hij e
  have := h.apart i j hi hj (by rw [e])
  omega

/-- as long as i states are found, i rows are made; all states are in time found -/
theorem found_rows (A : Aut) (P : Nat → Nat) : ∀ i, i ≤ (found A P i).1.length → (found A P i).2.length = i
  | 0, _ => rfl
  | i + 1, h => by
    simp only [found] at h ⊢
    cases hr : (found A P i).1[i]? with
    | none => rw [hr] at h; have := List.getElem?_eq_none_iff.1 hr; simp at h; omega
    | some s =>
      have := (List.getElem?_eq_some_iff.1 hr).1
      have ih := found_rows A P i (by omega)
      simp [ih]

/-- how many states are found in the end -/
theorem found_stop {A : Aut} (hA : A.ok) (P : Nat → Nat) : ∃ m, m ≤ A.n ∧ 0 < m ∧ (found A P m).1.length = m := by
  have key : ∀ k, k ≤ A.n + 1 → (∃ m, m ≤ k ∧ 0 < m ∧ (found A P m).1.length = m) ∨ k < (found A P k).1.length := by
    intro k
    induction k with
    | zero => intro _; right; simp [found]
    | succ k ih =>
      intro hk
      rcases ih (by omega) with ⟨m, h1, h2, h3⟩ | h
      · exact .inl ⟨m, by omega, h2, h3⟩
      · have hp := (found_prefix A P k).length_le
        rcases Nat.lt_or_ge (k + 1) (found A P (k + 1)).1.length with h1 | h1
        · exact .inr h1
        · exact .inl ⟨k + 1, by omega, by omega, by omega⟩
  rcases key (A.n + 1) (Nat.le_refl _) with ⟨m, h1, h2, h3⟩ | h
  · exact ⟨m, by have := (Reps.found hA P m).length_le; omega, h2, h3⟩
  · have := (Reps.found hA P (A.n + 1)).length_le; omega

/-- once all states found are done nothing turns -/
theorem found_stays (A : Aut) (P : Nat → Nat) {m : Nat} (h : (found A P m).1.length ≤ m) : ∀ k, found A P (m + k) = found A P m
  | 0 => rfl
  | k + 1 => by
    rw [← Nat.add_assoc]
    simp only [found]
    rw [found_stays A P h k, List.getElem?_eq_none (by omega)]

/-- what is told: the rows and the labels -/
def least (A : Aut) (P : Nat → Nat) : List (List Nat) × List Int := let r := found A P A.n; (r.2, r.1.map A.lb)

theorem found_all {A : Aut} (hA : A.ok) (P : Nat → Nat) : (found A P A.n).1.length ≤ A.n ∧ (found A P A.n).2.length = (found A P A.n).1.length ∧ 0 < (found A P A.n).1.length := by
  obtain ⟨m, hm, h0, hl⟩ := found_stop hA P
  have hs := found_stays A P (m := m) (by omega) (A.n - m)
  rw [show m + (A.n - m) = A.n from by omega] at hs
  have hr := found_rows A P m (by omega)
  rw [hs]
  exact ⟨by omega, by omega, by omega⟩


/- ---- two automata whose starts have the same labels behind all words have one least automaton ---- -/

/-- two lists of states, place by place the same behind all words -/
inductive Al (A B : Aut) : List Nat → List Nat → Prop
  | nil : Al A B [] []
  | cons {r r' : Nat} {l l' : List Nat} : xeq A B r r' → r < A.n → r' < B.n → Al A B l l' → Al A B (r :: l) (r' :: l')

theorem Al.length {A B : Aut} {l l' : List Nat} (h : Al A B l l') : l.length = l'.length := by
  induction h with
  | nil => rfl
  | cons _ _ _ _ ih => simp [ih]

theorem Al.get {A B : Aut} {l l' : List Nat} (h : Al A B l l') : ∀ (i : Nat) (s : Nat), l[i]? = some s → ∃ s', l'[i]? = some s' ∧ xeq A B s s' ∧ s < A.n ∧ s' < B.n := by
  induction h with
  | nil => intro i s hs; simp at hs
  | cons h1 h2 h3 _ ih =>
    intro i s hs
    cases i with
    | zero => simp at hs; subst hs; exact ⟨_, rfl, h1, h2, h3⟩
    | succ i => simp at hs; simpa using ih i s hs

theorem Al.snoc {A B : Aut} {l l' : List Nat} (h : Al A B l l') {t t' : Nat} (ht : xeq A B t t') (h1 : t < A.n) (h2 : t' < B.n) : Al A B (l ++ [t]) (l' ++ [t']) := by
  induction h with
  | nil => exact .cons ht h1 h2 .nil
  | cons a b c _ ih => exact .cons a b c ih

theorem Al.map_lb {A B : Aut} {l l' : List Nat} (h : Al A B l l') : l.map A.lb = l'.map B.lb := by
  induction h with
  | nil => rfl
  | cons a _ _ _ ih => simp [ih, a.lb]

theorem same_class {A B : Aut} {P Q : Nat → Nat} (hP : Tells A P) (hQ : Tells B Q) {r r' t t' : Nat} (h : xeq A B r r') (h' : xeq A B t t')
    (h1 : r < A.n) (h2 : r' < B.n) (h3 : t < A.n) (h4 : t' < B.n) : (P r == P t) = (Q r' == Q t') := by
  rw [Bool.eq_iff_iff, beq_iff_eq, beq_iff_eq, hP r t h1 h3, hQ r' t' h2 h4]
  exact ⟨fun e => (h.symm.trans e).trans h', fun e => (h.trans e).trans h'.symm⟩

theorem Al.idx {A B : Aut} {P Q : Nat → Nat} (hP : Tells A P) (hQ : Tells B Q) {l l' : List Nat} (h : Al A B l l') {t t' : Nat} (ht : xeq A B t t') (h1 : t < A.n) (h2 : t' < B.n) :
    idx P l t = idx Q l' t' := by
  induction h with
  | nil => rfl
  | cons a b c _ ih =>
    unfold LM.idx at *
    rw [List.findIdx_cons, List.findIdx_cons, ih, same_class hP hQ a ht b c h1 h2]

theorem Al.addRep {A B : Aut} {P Q : Nat → Nat} (hP : Tells A P) (hQ : Tells B Q) {l l' : List Nat} (h : Al A B l l') {t t' : Nat} (ht : xeq A B t t') (h1 : t < A.n) (h2 : t' < B.n) :
    Al A B (addRep P l t) (addRep Q l' t') := by
  unfold LM.addRep
  rw [h.idx hP hQ ht h1 h2, h.length]
  split
  · exact h
  · exact h.snoc ht h1 h2

theorem Al.scan {A B : Aut} (hA : A.ok) (hB : B.ok) {P Q : Nat → Nat} (hP : Tells A P) (hQ : Tells B Q) {l l' : List Nat} (h : Al A B l l') {s s' : Nat} (hs : xeq A B s s')
    (h1 : s < A.n) (h2 : s' < B.n) : ∀ m, m ≤ 256 → Al A B (scan A P l s m).1 (scan B Q l' s' m).1 ∧ (scan A P l s m).2 = (scan B Q l' s' m).2
  | 0, _ => ⟨h, rfl⟩
  | m + 1, hm => by
    have ih := Al.scan hA hB hP hQ h hs h1 h2 m (by omega)
    have hx := hs.step (c := m) (by omega)
    have l1 := hA.2 s m h1 (by omega)
    have l2 := hB.2 s' m h2 (by omega)
    exact ⟨ih.1.addRep hP hQ hx l1 l2, by simp only [LM.scan]; rw [ih.2, ih.1.idx hP hQ hx l1 l2]⟩

theorem Al.found {A B : Aut} (hA : A.ok) (hB : B.ok) {P Q : Nat → Nat} (hP : Tells A P) (hQ : Tells B Q) (h0 : xeq A B 0 0) :
    ∀ i, Al A B (found A P i).1 (found B Q i).1 ∧ (found A P i).2 = (found B Q i).2
  | 0 => ⟨.cons h0 hA.1 hB.1 .nil, rfl⟩
  | i + 1 => by
    have ih := Al.found hA hB hP hQ h0 i
    rw [LM.found, LM.found]
    cases hs : (LM.found A P i).1[i]? with
    | none =>
      have hn : (LM.found B Q i).1[i]? = none := by
        rw [List.getElem?_eq_none_iff] at hs ⊢; rw [← ih.1.length]; exact hs
      rw [hn]; exact ih
    | some s =>
      obtain ⟨s', hs', hx, l1, l2⟩ := ih.1.get i s hs
      rw [hs']
      have := ih.1.scan hA hB hP hQ hx l1 l2 rowLen (by rw [rowLen_eq]; exact Nat.le_refl _)
      exact ⟨this.1, by show _ ++ [_] = _ ++ [_]; rw [ih.2, this.2]⟩

theorem found_ge {A : Aut} (hA : A.ok) (P : Nat → Nat) {k : Nat} (h : A.n ≤ k) : found A P k = found A P A.n := by
  have := found_stays A P (found_all hA P).1 (k - A.n)
  rwa [show A.n + (k - A.n) = k from by omega] at this

theorem least_eq {A B : Aut} (hA : A.ok) (hB : B.ok) {P Q : Nat → Nat} (hP : Tells A P) (hQ : Tells B Q) (h0 : xeq A B 0 0) : least A P = least B Q := by
  have h := Al.found hA hB hP hQ h0 (A.n + B.n)
  rw [found_ge hA P (by omega), found_ge hB Q (by omega)] at h
  unfold least
  simp only [h.2, h.1.map_lb]

/- ---- what the least automaton is ---- -/

/-- the automaton of rows and labels -/
def ofRows (rows : List (List Nat)) (labels : List Int) : Aut := { n := rows.length, nx := fun s c => (rows.getD s []).getD c 0, lb := fun s => labels.getD s 0 }

theorem scan_entry {A : Aut} {P : Nat → Nat} {l : List Nat} {s : Nat} : ∀ m c, c < m →
    (scan A P l s m).2[c]? = some (idx P (scan A P l s m).1 (A.nx s c)) ∧ idx P (scan A P l s m).1 (A.nx s c) < (scan A P l s m).1.length
  | 0, _, h => by omega
  | m + 1, c, h => by
    simp only [scan]
    have hl := scan_length A P l s m
    have ha := idx_addRep P (scan A P l s m).1 (A.nx s m)
    by_cases e : c = m
    · subst e
      rw [List.getElem?_append_right (by omega), ha.1, hl]
      exact ⟨by simp, ha.2⟩
    · have ih := scan_entry (A := A) (P := P) (l := l) (s := s) m c (by omega)
      have hp := addRep_prefix P (scan A P l s m).1 (A.nx s m)
      rw [List.getElem?_append_left (by omega), idx_prefix hp ih.2]
      exact ⟨ih.1, Nat.lt_of_lt_of_le ih.2 hp.length_le⟩

theorem found_entry {A : Aut} {P : Nat → Nat} : ∀ i j s, j < i → (found A P i).1[j]? = some s → i ≤ (found A P i).1.length → ∃ row : List Nat, (found A P i).2[j]? = some row ∧ row.length = rowLen ∧
      ∀ c, c < rowLen → row[c]? = some (idx P (found A P i).1 (A.nx s c)) ∧ idx P (found A P i).1 (A.nx s c) < (found A P i).1.length
  | 0, _, _, h, _, _ => by omega
  | i + 1, j, s, h, hs, hle => by
    have hp0 := found_prefix A P i
    rw [found] at hs hle hp0 ⊢
    cases hr : (found A P i).1[i]? with
    | none => rw [hr] at hle; have := List.getElem?_eq_none_iff.1 hr; simp at hle; omega
    | some r =>
      rw [hr] at hs hle hp0
      simp only at hs hle hp0 ⊢
      have hi := (List.getElem?_eq_some_iff.1 hr).1
      have hrows := found_rows A P i (by omega)
      by_cases e : j = i
      · subst e
        have : s = r := by
          have h1 := hp0.getElem (i := j) hi
          rw [List.getElem?_eq_getElem (by have := hp0.length_le; omega)] at hs
          rw [List.getElem?_eq_getElem hi] at hr
          simp only [Option.some.injEq] at hs hr
          exact hs.symm.trans (h1.symm.trans hr)
        subst this
        generalize rowLen = R at *
        have e1 : ((found A P j).2 ++ [(scan A P (found A P j).1 s R).2])[j]? = some (scan A P (found A P j).1 s R).2 := by
          rw [List.getElem?_append_right (by omega), hrows, Nat.sub_self]; rfl
        exact ⟨(scan A P (found A P j).1 s R).2, e1, scan_length A P _ s R, fun c hc => scan_entry R c hc⟩
      · have hj : j < i := by omega
        have hs' : (found A P i).1[j]? = some s := by
          have h1 := hp0.getElem (i := j) (by omega)
          rw [List.getElem?_eq_getElem (by have := hp0.length_le; omega)] at hs
          rw [List.getElem?_eq_getElem (by omega), ← hs, h1]
        obtain ⟨row, h1, h2, h3⟩ := found_entry (A := A) (P := P) i j s hj hs' (by omega)
        refine ⟨row, by rw [List.getElem?_append_left (by omega)]; exact h1, h2, fun c hc => ?_⟩
        obtain ⟨h4, h5⟩ := h3 c hc
        rw [idx_prefix hp0 h5]
        exact ⟨h4, Nat.lt_of_lt_of_le h5 hp0.length_le⟩

/-- THE LEAST AUTOMATON: its states stand for the states found, in their order -/
structure IsLeast (A : Aut) (P : Nat → Nat) (reps : List Nat) (rows : List (List Nat)) (labels : List Int) : Prop where
  len : rows.length = reps.length
  pos : 0 < reps.length
  le : reps.length ≤ A.n
  first : reps[0]? = some 0
  good : Reps A P reps
  row : ∀ (j s : Nat), reps[j]? = some s → ∃ row : List Nat, rows[j]? = some row ∧ row.length = 256 ∧ ∀ c, c < 256 → ∃ k u : Nat, row[c]? = some k ∧ reps[k]? = some u ∧ P u = P (A.nx s c)
  labels : labels = reps.map A.lb

theorem found_first (A : Aut) (P : Nat → Nat) : ∀ i, (found A P i).1[0]? = some 0
  | 0 => rfl
  | i + 1 => by
    have ih := found_first A P i
    have hp := found_prefix A P i
    have h0 := (List.getElem?_eq_some_iff.1 ih).1
    have := hp.getElem (i := 0) h0
    rw [List.getElem?_eq_getElem h0] at ih
    rw [List.getElem?_eq_getElem (by have := hp.length_le; omega), ← this]
    exact ih

theorem isLeast {A : Aut} (hA : A.ok) (P : Nat → Nat) : IsLeast A P (found A P A.n).1 (least A P).1 (least A P).2 := by
  obtain ⟨m, hm, h0, hl⟩ := found_stop hA P
  have hs := found_stays A P (m := m) (by omega) (A.n - m)
  rw [show m + (A.n - m) = A.n from by omega] at hs
  have ha := found_all hA P
  refine ⟨ha.2.1, ha.2.2, ha.1, found_first A P _, Reps.found hA P _, fun j s hj => ?_, rfl⟩
  unfold least
  simp only
  rw [hs] at hj ⊢
  have hjm := (List.getElem?_eq_some_iff.1 hj).1
  obtain ⟨row, h1, h2, h3⟩ := found_entry (A := A) (P := P) m j s (by omega) hj (by omega)
  rw [rowLen_eq] at h2 h3
  refine ⟨row, h1, h2, fun c hc => ?_⟩
  obtain ⟨h4, h5⟩ := h3 c hc
  exact ⟨_, _, h4, List.getElem?_eq_getElem h5, idx_lt h5⟩

theorem IsLeast.ofRows_n {A : Aut} {P : Nat → Nat} {reps : List Nat} {rows : List (List Nat)} {labels : List Int} (h : IsLeast A P reps rows labels) : (ofRows rows labels).n = reps.length := h.len

theorem IsLeast.step {A : Aut} {P : Nat → Nat} {reps : List Nat} {rows : List (List Nat)} {labels : List Int} (h : IsLeast A P reps rows labels) {j s c : Nat} (hj : reps[j]? = some s) (hc : c < 256) :
    ∃ u, reps[(ofRows rows labels).nx j c]? = some u ∧ P u = P (A.nx s c) := by
  obtain ⟨row, h1, h2, h3⟩ := h.row j s hj
  obtain ⟨k, u, h4, h5, h6⟩ := h3 c hc
  refine ⟨u, ?_, h6⟩
  have : (ofRows rows labels).nx j c = k := by simp [ofRows, h1, h4]
  rw [this]; exact h5

theorem IsLeast.lb {A : Aut} {P : Nat → Nat} {reps : List Nat} {rows : List (List Nat)} {labels : List Int} (h : IsLeast A P reps rows labels) {j s : Nat} (hj : reps[j]? = some s) :
    (ofRows rows labels).lb j = A.lb s := by simp [ofRows, h.labels, hj]

theorem IsLeast.ok {A : Aut} {P : Nat → Nat} {reps : List Nat} {rows : List (List Nat)} {labels : List Int} (h : IsLeast A P reps rows labels) : (ofRows rows labels).ok := by
  refine ⟨by rw [h.ofRows_n]; exact h.pos, fun s c hs hc => ?_⟩
  rw [h.ofRows_n] at hs ⊢
  obtain ⟨u, hu, _⟩ := h.step (j := s) (s := reps[s]) (List.getElem?_eq_getElem hs) hc
  exact (List.getElem?_eq_some_iff.1 hu).1

theorem IsLeast.xeq {A : Aut} (hA : A.ok) {P : Nat → Nat} (hP : Tells A P) {reps : List Nat} {rows : List (List Nat)} {labels : List Int} (h : IsLeast A P reps rows labels) :
    ∀ (w : List Nat) (j s t : Nat), reps[j]? = some s → t < A.n → P s = P t → Bytes w → (ofRows rows labels).lb ((ofRows rows labels).run j w) = A.lb (A.run t w)
  | [], j, s, t, hj, ht, hst, _ => by
    have hs := h.good.lt s (List.mem_of_getElem? hj)
    rw [Aut.run_nil, Aut.run_nil, h.lb hj]
    exact ((hP s t hs ht).1 hst).lb
  | c :: w, j, s, t, hj, ht, hst, hw => by
    have hs := h.good.lt s (List.mem_of_getElem? hj)
    have hc := hw c (by simp)
    obtain ⟨u, hu, hpu⟩ := h.step hj hc
    rw [Aut.run_cons, Aut.run_cons]
    refine IsLeast.xeq hA hP h w _ u (A.nx t c) hu (hA.2 t c ht hc) ?_ (fun d hd => hw d (List.mem_cons_of_mem _ hd))
    rw [hpu]
    exact (hP _ _ (hA.2 s c hs hc) (hA.2 t c ht hc)).2 (((hP s t hs ht).1 hst).step hc)

theorem IsLeast.xeq0 {A : Aut} (hA : A.ok) {P : Nat → Nat} (hP : Tells A P) {reps : List Nat} {rows : List (List Nat)} {labels : List Int} (h : IsLeast A P reps rows labels) {j s : Nat} (hj : reps[j]? = some s) :
    LM.xeq (ofRows rows labels) A j s := fun w hw => h.xeq hA hP w j s s hj (h.good.lt s (List.mem_of_getElem? hj)) rfl hw

/-- no two states of the least automaton are the same behind all words -/
theorem IsLeast.apart {A : Aut} (hA : A.ok) {P : Nat → Nat} (hP : Tells A P) {reps : List Nat} {rows : List (List Nat)} {labels : List Int} (h : IsLeast A P reps rows labels) {i j : Nat}
    (hi : i < reps.length) (hj : j < reps.length) (hx : LM.xeq (ofRows rows labels) (ofRows rows labels) i j) : i = j := by
  have h1 := h.xeq0 hA hP (List.getElem?_eq_getElem hi)
  have h2 := h.xeq0 hA hP (List.getElem?_eq_getElem hj)
  have h3 : LM.xeq A A reps[i] reps[j] := (h1.symm.trans hx).trans h2
  exact h.good.apart i j hi hj ((hP _ _ (h.good.lt _ (List.getElem_mem _)) (h.good.lt _ (List.getElem_mem _))).2 h3)

/- ---- splitting till nothing splits: blocks, and splitters that wait ---- -/

structure Hop (A : Aut) (P : Nat → Nat) (W : Nat → Nat → Prop) : Prop where
  lab : ∀ s t, s < A.n → t < A.n → P s = P t → A.lb s = A.lb t
  coarse : ∀ s t, s < A.n → t < A.n → xeq A A s t → P s = P t
  inv : ∀ s t a, s < A.n → t < A.n → a < 256 → P s = P t → P (A.nx s a) ≠ P (A.nx t a) → W (P (A.nx s a)) a ∨ W (P (A.nx t a)) a

theorem Hop.start {A : Aut} {P : Nat → Nat} {W : Nat → Nat → Prop} (hA : A.ok) (hl : ∀ s t, s < A.n → t < A.n → (P s = P t ↔ A.lb s = A.lb t))
    (hw : ∀ s a, s < A.n → a < 256 → W (P s) a) : Hop A P W :=
  ⟨fun s t h1 h2 h => (hl s t h1 h2).1 h, fun s t h1 h2 h => (hl s t h1 h2).2 h.lb, fun s _ a h1 _ ha _ _ => .inl (hw _ a (hA.2 s a h1 ha) ha)⟩

theorem Hop.step {A : Aut} (hA : A.ok) {P P' : Nat → Nat} {W W' : Nat → Nat → Prop} (h : Hop A P W) {B a0 K : Nat} (ha0 : a0 < 256) {hit : Nat → Bool}
    (hhit : ∀ s, s < A.n → (hit s = true ↔ P (A.nx s a0) = B))
    (r1 : ∀ s t, s < A.n → t < A.n → (P' s = P' t ↔ P s = P t ∧ hit s = hit t)) (r3 : ∀ s, s < A.n → P' s = P s ∨ K ≤ P' s)
    (w1 : ∀ b a, W b a → ¬ (b = B ∧ a = a0) → W' b a) (w2 : ∀ s a, s < A.n → a < 256 → K ≤ P' s → W' (P' s) a) : Hop A P' W' := by
  refine ⟨fun s t h1 h2 e => h.lab s t h1 h2 ((r1 s t h1 h2).1 e).1, fun s t h1 h2 e => (r1 s t h1 h2).2 ⟨h.coarse s t h1 h2 e, ?_⟩, fun s t a h1 h2 ha e hne => ?_⟩
  · rw [Bool.eq_iff_iff, hhit s h1, hhit t h2]
    have := h.coarse _ _ (hA.2 s a0 h1 ha0) (hA.2 t a0 h2 ha0) (e.step ha0)
    rw [this]
  · obtain ⟨e1, e2⟩ := (r1 s t h1 h2).1 e
    have l1 := hA.2 s a h1 ha
    have l2 := hA.2 t a h2 ha
    have key : ∀ x y, x < A.n → y < A.n → P x = P y → P' x ≠ P' y → W' (P' x) a ∨ W' (P' y) a := by
      intro x y hx hy e3 e4
      rcases r3 x hx with h3 | h3
      · rcases r3 y hy with h4 | h4
        · exact absurd (h3.trans (e3.trans h4.symm)) e4
        · exact .inr (w2 y a hy ha h4)
      · exact .inl (w2 x a hx ha h3)
    have keep : ∀ x, x < A.n → W (P x) a → ¬ (P x = B ∧ a = a0) → W' (P' x) a := by
      intro x hx hW hn
      rcases r3 x hx with h3 | h3
      · rw [h3]; exact w1 _ _ hW hn
      · exact w2 x a hx ha h3
    by_cases e3 : P (A.nx s a) = P (A.nx t a)
    · exact key _ _ l1 l2 e3 hne
    · rcases h.inv s t a h1 h2 ha e1 e3 with hW | hW
      · by_cases e4 : P (A.nx s a) = B ∧ a = a0
        · obtain ⟨e5, rfl⟩ := e4
          have hs := (hhit s h1).2 e5
          rw [e2] at hs
          exact absurd (e5.trans ((hhit t h2).1 hs).symm) e3
        · exact .inl (keep _ l1 hW e4)
      · by_cases e4 : P (A.nx t a) = B ∧ a = a0
        · obtain ⟨e5, rfl⟩ := e4
          have hs := (hhit t h2).2 e5
          rw [← e2] at hs
          exact absurd (((hhit s h1).1 hs).trans e5.symm) e3
        · exact .inr (keep _ l2 hW e4)

theorem Hop.done {A : Aut} (hA : A.ok) {P : Nat → Nat} {W : Nat → Nat → Prop} (h : Hop A P W) (hw : ∀ b a, ¬ W b a) : Tells A P := by
  refine tells_of_stable hA h.lab (fun s t c h1 h2 hc e => ?_) h.coarse
  rcases Classical.em (P (A.nx s c) = P (A.nx t c)) with h3 | h3
  · exact h3
  · rcases h.inv s t c h1 h2 hc e h3 with h4 | h4
    · exact absurd h4 (hw _ _)
    · exact absurd h4 (hw _ _)

/- ---- the other way: classes by their least states, split by the classes that they lead to ---- -/

/-- the first k below i that is like i, or i -/
def firstLike (R : Nat → Nat → Bool) (i : Nat) : Nat := ((List.range i).find? (fun k => R k i)).getD i

theorem firstLike_le (R : Nat → Nat → Bool) (i : Nat) : firstLike R i ≤ i := by
  unfold firstLike
  cases h : (List.range i).find? (fun k => R k i) with
  | none => simp
  | some t => have := List.mem_of_find?_eq_some h; simp at this; simp; omega

theorem firstLike_like {R : Nat → Nat → Bool} (hr : ∀ i, R i i = true) (i : Nat) : R (firstLike R i) i = true := by
  unfold firstLike
  cases h : (List.range i).find? (fun k => R k i) with
  | none => simpa using hr i
  | some t => have := List.find?_some h; simpa using this

theorem firstLike_least {R : Nat → Nat → Bool} {i k : Nat} (h : R k i = true) (hk : k ≤ i) : firstLike R i ≤ k := by
  rcases Nat.lt_or_ge k i with hki | hki
  · unfold firstLike
    cases hf : (List.range i).find? (fun k => R k i) with
    | none => have := List.find?_eq_none.1 hf k (by simpa using hki); simp [h] at this
    | some u =>
      simp only [Option.getD_some]
      rcases Nat.lt_or_ge k u with h1 | h1
      · exfalso
        rw [List.find?_range_eq_some] at hf
        have := hf.2.2 k h1
        simp [h] at this
      · exact h1
  · have := firstLike_le R i; omega

structure EqvR (R : Nat → Nat → Bool) : Prop where
  refl : ∀ i, R i i = true
  symm : ∀ i j, R i j = true → R j i = true
  trans : ∀ i j k, R i j = true → R j k = true → R i k = true

theorem firstLike_eq_iff {R : Nat → Nat → Bool} (h : EqvR R) {i j : Nat} : firstLike R i = firstLike R j ↔ R i j = true := by
  constructor
  · intro e
    have h1 := firstLike_like h.refl i
    have h2 := firstLike_like h.refl j
    rw [e] at h1
    exact h.trans _ _ _ (h.symm _ _ h1) h2
  · intro e
    have key : ∀ a b, R a b = true → firstLike R a ≤ firstLike R b := by
      intro a b hab
      have h2 := firstLike_like h.refl b
      have h3 : R (firstLike R b) a = true := h.trans _ _ _ h2 (h.symm _ _ hab)
      rcases Nat.lt_or_ge a (firstLike R b) with hl | hl
      · exact Nat.le_trans (firstLike_le R a) (by omega)
      · exact firstLike_least h3 hl
    exact Nat.le_antisymm (key i j e) (key j i (h.symm _ _ e))

theorem firstLike_idem {R : Nat → Nat → Bool} (h : EqvR R) (i : Nat) : firstLike R (firstLike R i) = firstLike R i :=
  (firstLike_eq_iff h).2 (firstLike_like h.refl i)

/-- how many are their own first -/
def firsts (C : Nat → Nat) : Nat → Nat
  | 0 => 0
  | m + 1 => firsts C m + if C m = m then 1 else 0

theorem firsts_le (C : Nat → Nat) : ∀ m, firsts C m ≤ m
  | 0 => Nat.le_refl _
  | m + 1 => by have := firsts_le C m; simp only [firsts]; split <;> omega

theorem firsts_mono {C D : Nat → Nat} (h : ∀ i, C i = i → D i = i) : ∀ m, firsts C m ≤ firsts D m
  | 0 => Nat.le_refl _
  | m + 1 => by
    have := firsts_mono h m
    simp only [firsts]
    by_cases e : C m = m
    · rw [if_pos e, if_pos (h m e)]; omega
    · rw [if_neg e]; omega

theorem firsts_lt {C D : Nat → Nat} (h : ∀ i, C i = i → D i = i) {j : Nat} (h1 : C j ≠ j) (h2 : D j = j) : ∀ m, j < m → firsts C m < firsts D m
  | 0, hj => by omega
  | m + 1, hj => by
    simp only [firsts]
    by_cases e : j = m
    · subst e
      have := firsts_mono h j
      rw [if_neg h1, if_pos h2]; omega
    · have := firsts_lt h h1 h2 m (by omega)
      by_cases e : C m = m
      · rw [if_pos e, if_pos (h m e)]; omega
      · rw [if_neg e]; omega

/-- two states have one class, and lead to the same classes -/
def alikeB (A : Aut) (C : Nat → Nat) (i k : Nat) : Bool := (List.range 256).all fun c => C (A.nx i c) == C (A.nx k c)
def nextR (A : Aut) (C : Nat → Nat) (i k : Nat) : Bool := C i == C k && alikeB A C i k

theorem alikeB_iff {A : Aut} {C : Nat → Nat} {i k : Nat} : alikeB A C i k = true ↔ ∀ c, c < 256 → C (A.nx i c) = C (A.nx k c) := by
  simp only [alikeB, List.all_eq_true, List.mem_range, beq_iff_eq]

theorem nextR_iff {A : Aut} {C : Nat → Nat} {i k : Nat} : nextR A C i k = true ↔ C i = C k ∧ ∀ c, c < 256 → C (A.nx i c) = C (A.nx k c) := by
  rw [nextR, Bool.and_eq_true, beq_iff_eq, alikeB_iff]

theorem nextR_eqv (A : Aut) (C : Nat → Nat) : EqvR (nextR A C) :=
  ⟨fun i => nextR_iff.2 ⟨rfl, fun _ _ => rfl⟩, fun i j h => by rw [nextR_iff] at *; exact ⟨h.1.symm, fun c hc => (h.2 c hc).symm⟩,
    fun i j k h h' => by rw [nextR_iff] at *; exact ⟨h.1.trans h'.1, fun c hc => (h.2 c hc).trans (h'.2 c hc)⟩⟩

def nextC (A : Aut) (C : Nat → Nat) (i : Nat) : Nat := firstLike (nextR A C) i

/-- classes told by their least states -/
structure Split (A : Aut) (C : Nat → Nat) : Prop where
  le : ∀ i, C i ≤ i
  idem : ∀ i, C (C i) = C i
  lab : ∀ s t, s < A.n → t < A.n → C s = C t → A.lb s = A.lb t
  coarse : ∀ s t, s < A.n → t < A.n → xeq A A s t → C s = C t

theorem Split.next {A : Aut} (hA : A.ok) {C : Nat → Nat} (h : Split A C) : Split A (nextC A C) := by
  refine ⟨fun i => firstLike_le _ i, fun i => firstLike_idem (nextR_eqv A C) i, fun s t h1 h2 e => ?_, fun s t h1 h2 e => ?_⟩
  · have := nextR_iff.1 ((firstLike_eq_iff (nextR_eqv A C)).1 e)
    exact h.lab s t h1 h2 this.1
  · refine (firstLike_eq_iff (nextR_eqv A C)).2 (nextR_iff.2 ⟨h.coarse s t h1 h2 e, fun c hc => ?_⟩)
    exact h.coarse _ _ (hA.2 s c h1 hc) (hA.2 t c h2 hc) (e.step hc)

theorem Split.grows {A : Aut} {C : Nat → Nat} (h : Split A C) {i : Nat} (hi : i < A.n) (hne : nextC A C i ≠ C i) : firsts C A.n < firsts (nextC A C) A.n := by
  have hE := nextR_eqv A C
  have hk : ∀ j, C j = j → nextC A C j = j := by
    intro j e
    have h1 := firstLike_like hE.refl j
    have h2 := (nextR_iff.1 h1).1
    have h3 := h.le (firstLike (nextR A C) j)
    have h4 := firstLike_le (nextR A C) j
    show firstLike (nextR A C) j = j
    omega
  have hj : nextC A C (nextC A C i) = nextC A C i := firstLike_idem hE i
  refine firsts_lt hk (j := nextC A C i) (fun e => ?_) hj A.n (Nat.lt_of_le_of_lt (firstLike_le _ i) hi)
  have := (nextR_iff.1 (firstLike_like hE.refl i)).1
  exact hne (e.symm.trans this)

theorem Split.done {A : Aut} (hA : A.ok) {C : Nat → Nat} (h : Split A C) (hn : ∀ i, i < A.n → nextC A C i = C i) : Tells A C := by
  refine tells_of_stable hA h.lab (fun s t c h1 h2 hc e => ?_) h.coarse
  have e' : nextC A C s = nextC A C t := by rw [hn s h1, hn t h2, e]
  exact (nextR_iff.1 ((firstLike_eq_iff (nextR_eqv A C)).1 e')).2 c hc

theorem Split.start (A : Aut) : Split A (fun i => firstLike (fun k i => A.lb k == A.lb i) i) := by
  have hE : EqvR (fun k i => A.lb k == A.lb i) := ⟨by simp, by simp; intro i j h; exact h.symm, by simp; intro i j k h h'; exact h.trans h'⟩
  refine ⟨fun i => firstLike_le _ i, fun i => firstLike_idem hE i, fun s t _ _ e => ?_, fun s t _ _ e => ?_⟩
  · simpa using (firstLike_eq_iff hE).1 e
  · exact (firstLike_eq_iff hE).2 (by simpa using e.lb)


theorem num_step (P : Nat → Nat) (i : Nat) : num P i ≤ cnt P i ∧ cnt P (i + 1) = if num P i = cnt P i then cnt P i + 1 else cnt P i := by
  have h1 := leader_le P i
  by_cases e : leader P i = i
  · have h2 : num P i = cnt P i := by unfold num; rw [e]
    refine ⟨by omega, ?_⟩
    rw [if_pos h2]; simp only [cnt]; rw [if_pos e]
  · have h2 := cnt_lt_of_leader P (leader_leader P i) (show leader P i < i by omega)
    have h3 : num P i < cnt P i := h2
    refine ⟨by omega, ?_⟩
    rw [if_neg (by omega)]; simp only [cnt]; rw [if_neg e, Nat.add_zero]
end Go.Proofs.YtihginaanlcilaaDoor.LM
