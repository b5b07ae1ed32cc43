/- Plain mathematics of tables by byte classes: which states live, how those that are kept are numbered, all modes' rows, the classes of bytes. No program in sight. -/
import Derived.Test.YtloooajippcdlaaDoorDn
import Derived.Test.YtloooajippcdlaaDoorLeastMath
namespace Go.Proofs.YtloooajippcdlaaDoor.RM
open LM (Bytes Aut)

/-- some text leads to a label of 0 or more -/
def Live (A : Aut) (s : Nat) : Prop := ∃ w, Bytes w ∧ 0 ≤ A.lb (A.run s w)
open Classical in
noncomputable def liveB (A : Aut) (s : Nat) : Bool := decide (Live A s)
theorem liveB_iff {A : Aut} {s : Nat} : liveB A s = true ↔ Live A s := by unfold liveB; simp
theorem live_label {A : Aut} {s : Nat} (h : 0 ≤ A.lb s) : Live A s := by
  refine ⟨[], ?_, h⟩
  intro c hc
  cases hc
theorem live_step {A : Aut} {s c : Nat} (hc : c < 256) (h : Live A (A.nx s c)) : Live A s := by
  obtain ⟨w, h1, h2⟩ := h
  refine ⟨c :: w, ?_, h2⟩
  intro x hx
  rcases List.mem_cons.1 hx with rfl | hx
  · exact hc
  · exact h1 x hx
theorem live_closed {A : Aut} (hA : A.ok) {l : Nat → Bool} (h0 : ∀ s, s < A.n → 0 ≤ A.lb s → l s = true) (h1 : ∀ s c, s < A.n → c < 256 → l (A.nx s c) = true → l s = true) :
    ∀ (w : List Nat) (s : Nat), s < A.n → Bytes w → 0 ≤ A.lb (A.run s w) → l s = true
  | [], s, hs, _, h => h0 s hs h
  | c :: w, s, hs, hb, h => by
    have hc : c < 256 := hb c (List.mem_cons_self ..)
    exact h1 s c hs hc (live_closed hA h0 h1 w (A.nx s c) (hA.2 s c hs hc) (fun x hx => hb x (List.mem_cons_of_mem _ hx)) h)
theorem live_eq {A : Aut} (hA : A.ok) {l : Nat → Bool} (h0 : ∀ s, s < A.n → 0 ≤ A.lb s → l s = true) (h1 : ∀ s c, s < A.n → c < 256 → l (A.nx s c) = true → l s = true) (h2 : ∀ s, s < A.n → l s = true → Live A s) {s : Nat} (hs : s < A.n) : l s = liveB A s := by
  rw [Bool.eq_iff_iff, liveB_iff]
  exact ⟨h2 s hs, fun ⟨w, h3, h4⟩ => live_closed hA h0 h1 w s hs h3 h4⟩

/-- which states are kept: those that live, and the start -/
noncomputable def keep (A : Aut) (s : Nat) : Bool := liveB A s || s == 0
/-- so many of the first m are -/
noncomputable def kcnt (A : Aut) : Nat → Nat
  | 0 => 0
  | m + 1 => kcnt A m + if keep A m = true then 1 else 0
noncomputable def kept (A : Aut) : Nat → List Nat
  | 0 => []
  | m + 1 => kept A m ++ if keep A m = true then [m] else []
theorem kept_len (A : Aut) : ∀ m, (kept A m).length = kcnt A m
  | 0 => rfl
  | m + 1 => by simp only [kept, kcnt, List.length_append, kept_len A m]; split <;> rfl
theorem kcnt_le (A : Aut) : ∀ m, kcnt A m ≤ m
  | 0 => Nat.le_refl _
  | m + 1 => by have := kcnt_le A m; simp only [kcnt]; split <;> omega
theorem kcnt_mono (A : Aut) {a b : Nat} (h : a ≤ b) : kcnt A a ≤ kcnt A b := by
  induction b with
  | zero => obtain rfl : a = 0 := by omega
            exact Nat.le_refl _
  | succ b ih =>
    by_cases e : a = b + 1
    · subst e; exact Nat.le_refl _
    · have := ih (by omega); simp only [kcnt]; omega
theorem kcnt_lt {A : Aut} {s m : Nat} (hs : s < m) (hk : keep A s = true) : kcnt A s < kcnt A m := by
  have h1 := kcnt_mono A (a := s + 1) (b := m) hs
  simp only [kcnt, if_pos hk] at h1
  omega
theorem keep_zero (A : Aut) : keep A 0 = true := by simp [keep]
theorem keep_live {A : Aut} {s : Nat} (h : liveB A s = true) : keep A s = true := by simp [keep, h]
theorem kcnt_pos {A : Aut} {m : Nat} (h : 0 < m) : 0 < kcnt A m := kcnt_lt (s := 0) h (keep_zero A)
theorem kept_get {A : Aut} : ∀ {m s : Nat}, s < m → keep A s = true → (kept A m)[kcnt A s]? = some s
  | 0, _, h, _ => absurd h (Nat.not_lt_zero _)
  | m + 1, s, h, hk => by
    by_cases e : s = m
    · subst e
      simp only [kept, if_pos hk]
      rw [List.getElem?_append_right (by rw [kept_len]; exact Nat.le_refl _), kept_len, Nat.sub_self]; rfl
    · have h1 : s < m := by omega
      have h2 := kcnt_lt h1 hk
      simp only [kept]
      rw [List.getElem?_append_left (by rw [kept_len]; exact h2)]
      exact kept_get h1 hk
theorem kept_of {A : Aut} : ∀ {m j s : Nat}, (kept A m)[j]? = some s → s < m ∧ keep A s = true ∧ kcnt A s = j
  | 0, j, s, h => by simp [kept] at h
  | m + 1, j, s, h => by
    simp only [kept] at h
    by_cases hj : j < kcnt A m
    · rw [List.getElem?_append_left (by rw [kept_len]; exact hj)] at h
      obtain ⟨h1, h2, h3⟩ := kept_of h
      exact ⟨by omega, h2, h3⟩
    · rw [List.getElem?_append_right (by rw [kept_len]; omega), kept_len] at h
      split at h
      · rename_i hk
        have hl := (List.getElem?_eq_some_iff.1 h).1
        simp at hl
        have e : j - kcnt A m = 0 := by omega
        rw [e] at h
        simp at h
        subst h
        exact ⟨by omega, hk, by omega⟩
      · simp at h

/-- the entry that stands for a state, in a table where its automaton's states begin at n -/
noncomputable def entry (A : Aut) (n s : Nat) : Int := if liveB A s = true then ((n + kcnt A s : Nat) : Int) else -1
noncomputable def rowOf (A : Aut) (n s : Nat) : List Int := (List.range LM.rowLen).map fun c => entry A n (A.nx s c)
theorem rowOf_len (A : Aut) (n s : Nat) : (rowOf A n s).length = 256 := by simp [rowOf, LM.rowLen_eq]
theorem rowOf_get {A : Aut} {n s c : Nat} (hc : c < 256) : (rowOf A n s)[c]? = some (entry A n (A.nx s c)) := by
  unfold rowOf
  rw [List.getElem?_map, List.getElem?_range (by rw [LM.rowLen_eq]; exact hc)]; rfl
theorem rowOf_getD {A : Aut} {n s c : Nat} (hc : c < 256) : (rowOf A n s).getD c 0 = entry A n (A.nx s c) := by
  rw [List.getD_eq_getElem?_getD, rowOf_get hc]; rfl
theorem entry_moved (A : Aut) (n s : Nat) : (entry A 0 s < 0 → entry A n s = -1) ∧ (0 ≤ entry A 0 s → entry A n s = entry A 0 s + n) := by
  unfold entry
  split
  · exact ⟨fun h => by omega, fun _ => by omega⟩
  · exact ⟨fun _ => rfl, fun h => by omega⟩
theorem entry_range {A : Aut} {n s N : Nat} (hs : s < A.n) (hN : n + kcnt A A.n ≤ N) : -1 ≤ entry A n s ∧ entry A n s < N := by
  unfold entry
  split
  · rename_i h
    have := kcnt_lt hs (keep_live h)
    omega
  · omega

theorem snoc_ind {α : Type} {P : List α → Prop} (h0 : P []) (h1 : ∀ l a, P l → P (l ++ [a])) (l : List α) : P l := by
  suffices h : ∀ r : List α, P r.reverse by simpa using h l.reverse
  intro r
  induction r with
  | nil => exact h0
  | cons a r ih => rw [List.reverse_cons]; exact h1 _ a ih

/-- all modes' starts, rows and labels -/
structure All where
  starts : List Nat
  rows : List (List Int)
  labels : List Int
def All.nil : All := ⟨[], [], []⟩
noncomputable def All.add (t : All) (A : Aut) : All := ⟨t.starts ++ [t.labels.length], t.rows ++ (kept A A.n).map (rowOf A t.labels.length), t.labels ++ (kept A A.n).map A.lb⟩
noncomputable def all (l : List Aut) : All := l.foldl All.add All.nil
theorem all_snoc (l : List Aut) (A : Aut) : all (l ++ [A]) = (all l).add A := by simp [all, List.foldl_append]
theorem all_nil : all [] = All.nil := rfl
noncomputable def base (l : List Aut) : Nat := (all l).labels.length
theorem base_snoc (l : List Aut) (A : Aut) : base (l ++ [A]) = base l + kcnt A A.n := by
  unfold base; rw [all_snoc]; simp [All.add, kept_len]
theorem all_lens (l : List Aut) : (all l).rows.length = base l ∧ (all l).starts.length = l.length := by
  induction l using snoc_ind with
  | h0 => exact ⟨rfl, rfl⟩
  | h1 l A ih =>
    rw [base_snoc, all_snoc]
    refine ⟨?_, ?_⟩
    · simp only [All.add, List.length_append, List.length_map, kept_len]; rw [ih.1]
    · simp only [All.add, List.length_append]; rw [ih.2]; rfl
theorem all_append (l l' : List Aut) : (all l).rows <+: (all (l ++ l')).rows ∧ (all l).labels <+: (all (l ++ l')).labels ∧ (all l).starts <+: (all (l ++ l')).starts := by
  induction l' using snoc_ind with
  | h0 => simp
  | h1 l' A ih =>
    rw [← List.append_assoc, all_snoc]
    exact ⟨ih.1.trans (List.prefix_append _ _), ih.2.1.trans (List.prefix_append _ _), ih.2.2.trans (List.prefix_append _ _)⟩
theorem prefix_get {α : Type} {l l' : List α} (h : l <+: l') {i : Nat} {x : α} (hx : l[i]? = some x) : l'[i]? = some x := by
  obtain ⟨r, rfl⟩ := h
  rw [List.getElem?_append_left (List.getElem?_eq_some_iff.1 hx).1]; exact hx

theorem split_at {l : List Aut} {m : Nat} {A : Aut} (h : l[m]? = some A) : l = (l.take m ++ [A]) ++ l.drop (m + 1) := by
  obtain ⟨h1, h2⟩ := List.getElem?_eq_some_iff.1 h
  rw [List.append_assoc, ← h2]
  simp

/-- what stands in the table for mode m -/
theorem all_at {l : List Aut} {m : Nat} {A : Aut} (h : l[m]? = some A) :
    (all l).starts[m]? = some (base (l.take m)) ∧ base (l.take m) + kcnt A A.n ≤ base l ∧
    (∀ j s, (kept A A.n)[j]? = some s → (all l).rows[base (l.take m) + j]? = some (rowOf A (base (l.take m)) s) ∧ (all l).labels[base (l.take m) + j]? = some (A.lb s)) := by
  have hm := (List.getElem?_eq_some_iff.1 h).1
  have hl := all_lens (l.take m)
  have e := split_at h
  have hp := all_append (l.take m ++ [A]) (l.drop (m + 1))
  rw [← e, all_snoc] at hp
  refine ⟨prefix_get hp.2.2 ?_, ?_, fun j s hj => ⟨prefix_get hp.1 ?_, prefix_get hp.2.1 ?_⟩⟩
  · simp only [All.add]
    rw [List.getElem?_append_right (by rw [hl.2, List.length_take]; omega), hl.2, List.length_take, Nat.min_eq_left (by omega), Nat.sub_self]; rfl
  · have := hp.2.1.length_le
    simp only [All.add, List.length_append, List.length_map, kept_len] at this
    exact this
  · simp only [All.add]
    rw [List.getElem?_append_right (by rw [hl.1]; omega), hl.1, Nat.add_sub_cancel_left, List.getElem?_map, hj]; rfl
  · simp only [All.add]
    rw [List.getElem?_append_right (by show base _ ≤ _; omega), show (all (l.take m)).labels.length = base (l.take m) from rfl, Nat.add_sub_cancel_left, List.getElem?_map, hj]; rfl
theorem base_take_succ {l : List Aut} {m : Nat} {A : Aut} (h : l[m]? = some A) : base (l.take (m + 1)) = base (l.take m) + kcnt A A.n := by
  rw [List.take_add_one, h]; exact base_snoc _ _

/-- whose row the table's row i is -/
theorem all_of (l : List Aut) : ∀ i, i < base l → ∃ m A j s, l[m]? = some A ∧ (kept A A.n)[j]? = some s ∧ i = base (l.take m) + j := by
  induction l using snoc_ind with
  | h0 => intro i hi; exact absurd hi (Nat.not_lt_zero _)
  | h1 l A ih =>
    intro i hi
    rw [base_snoc] at hi
    by_cases h : i < base l
    · obtain ⟨m, B, j, s, h1, h2, h3⟩ := ih i h
      have hm := (List.getElem?_eq_some_iff.1 h1).1
      exact ⟨m, B, j, s, prefix_get (List.prefix_append _ _) h1, h2, by rw [List.take_append_of_le_length (by omega)]; exact h3⟩
    · refine ⟨l.length, A, i - base l, (kept A A.n)[i - base l]'(by rw [kept_len]; omega), by simp, List.getElem?_eq_getElem _, ?_⟩
      rw [List.take_append_of_le_length (Nat.le_refl _), List.take_length]; omega

/-- the entries of the whole table lie in it -/
theorem all_range {l : List Aut} (hok : ∀ A ∈ l, A.ok) {i c : Nat} {r : List Int} (hr : (all l).rows[i]? = some r) (hc : c < 256) : -1 ≤ r.getD c 0 ∧ r.getD c 0 < base l := by
  have hi := (List.getElem?_eq_some_iff.1 hr).1
  rw [(all_lens l).1] at hi
  obtain ⟨m, A, j, s, h1, h2, rfl⟩ := all_of l i hi
  obtain ⟨_, h3, h4⟩ := all_at h1
  rw [(h4 j s h2).1] at hr
  obtain rfl := Option.some.inj hr
  rw [rowOf_getD hc]
  have hA := hok A (List.mem_of_getElem? h1)
  exact entry_range (hA.2 s c (kept_of h2).1 hc) h3
theorem all_rows_len {l : List Aut} {r : List Int} (h : r ∈ (all l).rows) : r.length = 256 := by
  obtain ⟨i, hi, rfl⟩ := List.getElem_of_mem h
  rw [(all_lens l).1] at hi
  obtain ⟨m, A, j, s, h1, h2, h5⟩ := all_of l i hi
  have h4 := ((all_at h1).2.2 j s h2).1
  rw [← h5, List.getElem?_eq_getElem (by rw [(all_lens l).1]; exact hi)] at h4
  rw [Option.some.inj h4, rowOf_len]

/-- are two bytes' columns equal? -/
def same (rows : List (List Int)) (a b : Nat) : Bool := rows.all fun r => r.getD a 0 == r.getD b 0
theorem same_iff {rows : List (List Int)} {a b : Nat} : same rows a b = true ↔ ∀ r ∈ rows, r.getD a 0 = r.getD b 0 := by
  unfold same; simp [List.all_eq_true]
theorem same_eqv (rows : List (List Int)) : LM.EqvR (same rows) where
  refl _ := same_iff.2 fun _ _ => rfl
  symm _ _ h := same_iff.2 fun r hr => (same_iff.1 h r hr).symm
  trans _ _ _ h h' := same_iff.2 fun r hr => (same_iff.1 h r hr).trans (same_iff.1 h' r hr)
/-- the class of a byte is told by the first byte that is like it -/
def col (rows : List (List Int)) (b : Nat) : Nat := LM.firstLike (same rows) b
theorem col_eq {rows : List (List Int)} {a b : Nat} : col rows a = col rows b ↔ same rows a b = true := LM.firstLike_eq_iff (same_eqv rows)
def cls (rows : List (List Int)) (b : Nat) : Nat := LM.num (col rows) b
def ncls (rows : List (List Int)) : Nat := LM.cnt (col rows) LM.rowLen
theorem cls_eq {rows : List (List Int)} {a b : Nat} : cls rows a = cls rows b ↔ same rows a b = true := (LM.num_eq_iff _).trans col_eq
theorem cls_lt {rows : List (List Int)} {b : Nat} (h : b < 256) : cls rows b < ncls rows := LM.num_lt _ (by rw [LM.rowLen_eq]; exact h)

/-- the first bytes of the classes, of the first m bytes -/
def firsts (rows : List (List Int)) : Nat → List Nat
  | 0 => []
  | m + 1 => firsts rows m ++ if LM.leader (col rows) m = m then [m] else []
theorem firsts_len (rows : List (List Int)) : ∀ m, (firsts rows m).length = LM.cnt (col rows) m
  | 0 => rfl
  | m + 1 => by simp only [firsts, LM.cnt, List.length_append, firsts_len rows m]; split <;> rfl
theorem firsts_get {rows : List (List Int)} : ∀ {m a : Nat}, a < m → LM.leader (col rows) a = a → (firsts rows m)[LM.cnt (col rows) a]? = some a
  | 0, _, h, _ => absurd h (Nat.not_lt_zero _)
  | m + 1, a, h, hk => by
    by_cases e : a = m
    · subst e
      simp only [firsts, if_pos hk]
      rw [List.getElem?_append_right (by rw [firsts_len]; exact Nat.le_refl _), firsts_len, Nat.sub_self]; rfl
    · have h1 : a < m := by omega
      simp only [firsts]
      rw [List.getElem?_append_left (by rw [firsts_len]; exact LM.cnt_lt_of_leader _ hk h1)]
      exact firsts_get h1 hk
theorem firsts_of {rows : List (List Int)} : ∀ {m k a : Nat}, (firsts rows m)[k]? = some a → a < m ∧ LM.leader (col rows) a = a ∧ LM.cnt (col rows) a = k
  | 0, k, a, h => by simp [firsts] at h
  | m + 1, k, a, h => by
    simp only [firsts] at h
    by_cases hj : k < LM.cnt (col rows) m
    · rw [List.getElem?_append_left (by rw [firsts_len]; exact hj)] at h
      obtain ⟨h1, h2, h3⟩ := firsts_of h
      exact ⟨by omega, h2, h3⟩
    · rw [List.getElem?_append_right (by rw [firsts_len]; omega), firsts_len] at h
      split at h
      · rename_i hk
        have hl := (List.getElem?_eq_some_iff.1 h).1
        simp at hl
        have e : k - LM.cnt (col rows) m = 0 := by omega
        rw [e] at h
        simp at h
        subst h
        exact ⟨by omega, hk, by omega⟩
      · simp at h

/-- what the search of a class finds: byte b, the first bytes of those below it; none of the first k is like it, the k-th is (or there is no k-th) -/
theorem found_cls {rows : List (List Int)} {b k : Nat} (_ : k ≤ LM.cnt (col rows) b) (hn : ∀ j a, j < k → (firsts rows b)[j]? = some a → same rows a b = false)
    (hs : k = LM.cnt (col rows) b ∨ ∃ a, (firsts rows b)[k]? = some a ∧ same rows a b = true) :
    k = cls rows b ∧ firsts rows (b + 1) = (if k = LM.cnt (col rows) b then firsts rows b ++ [b] else firsts rows b) := by
  have hle := LM.leader_le (col rows) b
  by_cases e : LM.leader (col rows) b = b
  · have hc : cls rows b = LM.cnt (col rows) b := by unfold cls LM.num; rw [e]
    have hk' : k = LM.cnt (col rows) b := by
      rcases hs with h | ⟨a, ha, h⟩
      · exact h
      · exfalso
        obtain ⟨h1, h2, h3⟩ := firsts_of ha
        have h4 := LM.leader_least (col rows) b a (col_eq.2 h)
        omega
    refine ⟨by omega, ?_⟩
    rw [if_pos hk']
    simp only [firsts, if_pos e]
  · have hll := LM.leader_leader (col rows) b
    have hlt : LM.leader (col rows) b < b := by omega
    have hg := firsts_get (rows := rows) (m := b) hlt hll
    have hc : cls rows b = LM.cnt (col rows) (LM.leader (col rows) b) := rfl
    have hsm : same rows (LM.leader (col rows) b) b = true := col_eq.1 (LM.leader_val (col rows) b)
    have hcl := LM.cnt_lt_of_leader (col rows) hll hlt
    have h1 : k ≤ cls rows b := by
      rcases Nat.lt_or_ge (cls rows b) k with h | h
      · have := hn _ _ h (by rw [hc]; exact hg)
        rw [hsm] at this; cases this
      · exact h
    have h2 : k = cls rows b := by
      rcases hs with h | ⟨a, ha, h⟩
      · omega
      · obtain ⟨g1, g2, g3⟩ := firsts_of ha
        have h4 : LM.leader (col rows) a = LM.leader (col rows) b := LM.leader_eq_of _ (col_eq.2 h)
        rw [g2] at h4
        rw [hc, ← h4]; exact g3.symm
    refine ⟨h2, ?_⟩
    rw [if_neg (by omega)]
    simp only [firsts, if_neg e, List.append_nil]

/-- a row by classes -/
def short (rows : List (List Int)) (r : List Int) : List Int := (firsts rows LM.rowLen).map fun a => r.getD a 0
theorem short_len (rows : List (List Int)) (r : List Int) : (short rows r).length = ncls rows := by unfold short ncls; rw [List.length_map, firsts_len]
theorem short_get {rows : List (List Int)} {r : List Int} (hr : r ∈ rows) {b : Nat} (hb : b < 256) : (short rows r)[cls rows b]? = some (r.getD b 0) := by
  have hle := LM.leader_le (col rows) b
  have hlt : LM.leader (col rows) b < LM.rowLen := by rw [LM.rowLen_eq]; omega
  have hg := firsts_get (rows := rows) (m := LM.rowLen) hlt (LM.leader_leader (col rows) b)
  unfold short
  rw [List.getElem?_map, show cls rows b = LM.cnt (col rows) (LM.leader (col rows) b) from rfl, hg]
  exact congrArg some (same_iff.1 (col_eq.1 (LM.leader_val (col rows) b)) r hr)
theorem short_of {rows : List (List Int)} {r : List Int} {k : Nat} {x : Int} (h : (short rows r)[k]? = some x) : ∃ a, a < 256 ∧ x = r.getD a 0 := by
  unfold short at h
  rw [List.getElem?_map, Option.map_eq_some_iff] at h
  obtain ⟨a, h1, rfl⟩ := h
  have := (firsts_of h1).1
  rw [LM.rowLen_eq] at this
  exact ⟨a, this, rfl⟩
end Go.Proofs.YtloooajippcdlaaDoor.RM
