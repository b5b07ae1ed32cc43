/- Plain mathematics of the first word that does something: pairs gone through in the order of the words; how long such a word may be. No program in sight. -/
import Derived.Test.YtihginaanlcilaaDoorCensusMath
import Derived.Test.YtihginaanlcilaaDoorLeastMath
namespace Go.Proofs.YtihginaanlcilaaDoor.WM
open LM (Aut Bytes xeq Tells)

/-- words in their order: the shorter ahead -/
def sl (a b : List Nat) : Prop := a.length < b.length ∨ (a.length = b.length ∧ CM.lex a b = true)
def sle (a b : List Nat) : Prop := a = b ∨ sl a b

theorem lex_irrefl : ∀ l : List Nat, CM.lex l l = false
  | [] => rfl
  | x :: l => by rw [CM.lex, if_pos rfl]; exact lex_irrefl l
theorem lex_trans : ∀ (a b c : List Nat), CM.lex a b = true → CM.lex b c = true → CM.lex a c = true
  | [], _, _, h, _ => by simp [CM.lex] at h
  | _ :: _, [], _, h, _ => by simp [CM.lex] at h
  | _ :: _, _ :: _, [], _, h => by simp [CM.lex] at h
  | x :: a, y :: b, z :: c, h, k => by
    simp only [CM.lex] at *
    by_cases e1 : x = y
    · subst e1
      rw [if_pos rfl] at h
      by_cases e2 : x = z
      · subst e2; rw [if_pos rfl] at k ⊢; exact lex_trans a b c h k
      · rw [if_neg e2] at k ⊢; exact k
    · rw [if_neg e1] at h
      have h1 : x < y := by simpa using h
      by_cases e2 : y = z
      · subst e2; rw [if_neg e1]; exact h
      · rw [if_neg e2] at k
        have h2 : y < z := by simpa using k
        rw [if_neg (by omega)]; simp; omega
theorem lex_snoc : ∀ (a b : List Nat) (x y : Nat), a.length = b.length → CM.lex a b = true → CM.lex (a ++ [x]) (b ++ [y]) = true
  | [], _, _, _, _, h => by simp [CM.lex] at h
  | _ :: _, [], _, _, h, _ => by simp at h
  | u :: a, v :: b, x, y, hl, h => by
    simp only [CM.lex, List.cons_append] at *
    by_cases e : u = v
    · rw [if_pos e] at h ⊢; exact lex_snoc a b x y (by simpa using hl) h
    · rw [if_neg e] at h ⊢; exact h
theorem lex_last : ∀ (a : List Nat) (x y : Nat), x < y → CM.lex (a ++ [x]) (a ++ [y]) = true
  | [], x, y, h => by simp only [List.nil_append, CM.lex]; rw [if_neg (by omega)]; simpa using h
  | u :: a, x, y, h => by rw [List.cons_append, List.cons_append, CM.lex, if_pos rfl]; exact lex_last a x y h

theorem sl_irrefl (a : List Nat) : ¬ sl a a := fun h => by
  rcases h with h | ⟨_, h⟩
  · omega
  · rw [lex_irrefl] at h; cases h
theorem sl_trans {a b c : List Nat} (h : sl a b) (k : sl b c) : sl a c := by
  rcases h with h | ⟨h1, h2⟩ <;> rcases k with k | ⟨k1, k2⟩
  · exact .inl (by omega)
  · exact .inl (by omega)
  · exact .inl (by omega)
  · exact .inr ⟨by omega, lex_trans _ _ _ h2 k2⟩
theorem sl_asymm {a b : List Nat} (h : sl a b) (k : sl b a) : False := sl_irrefl a (sl_trans h k)
theorem sl_total (a b : List Nat) : a = b ∨ sl a b ∨ sl b a := by
  rcases Nat.lt_trichotomy a.length b.length with h | h | h
  · exact .inr (.inl (.inl h))
  · by_cases e : a = b
    · exact .inl e
    · rcases CM.lex_total a b h e with h1 | h1
      · exact .inr (.inl (.inr ⟨h, h1⟩))
      · exact .inr (.inr (.inr ⟨h.symm, h1⟩))
  · exact .inr (.inr (.inl h))
theorem sl_snoc {a b : List Nat} (h : sl a b) (x y : Nat) : sl (a ++ [x]) (b ++ [y]) := by
  rcases h with h | ⟨h1, h2⟩
  · exact .inl (by simp; omega)
  · exact .inr ⟨by simp [h1], lex_snoc a b x y h1 h2⟩
theorem sl_last (a : List Nat) {x y : Nat} (h : x < y) : sl (a ++ [x]) (a ++ [y]) := .inr ⟨by simp, lex_last a x y h⟩
theorem sl_init {y w : List Nat} {c : Nat} (h : sl (y ++ [c]) w) : sl y w := by
  have : y.length < w.length := by rcases h with h | ⟨h, _⟩ <;> simp at h <;> omega
  exact .inl this
theorem sl_nil {a : List Nat} (h : a ≠ []) : sl [] a := .inl (by cases a with | nil => exact absurd rfl h | cons _ _ => simp)
theorem sle_sl {a b c : List Nat} (h : sle a b) (k : sl b c) : sl a c := by
  rcases h with rfl | h
  · exact k
  · exact sl_trans h k
theorem sle_trans {a b c : List Nat} (h : sle a b) (k : sle b c) : sle a c := by
  rcases k with rfl | k
  · exact h
  · exact .inr (sle_sl h k)
theorem sle_snoc {a b : List Nat} (h : sle a b) (x : Nat) : sle (a ++ [x]) (b ++ [x]) := by
  rcases h with rfl | h
  · exact .inl rfl
  · exact .inr (sl_snoc h x x)

def run (nx : Nat → Nat → Nat) (s : Nat) (w : List Nat) : Nat := w.foldl nx s

/-- the search, entry i in hand, of it the first c bytes gone over; an entry: what is come to, by which word -/
structure Bfs (nx : Nat → Nat → Nat) (N start : Nat) (is : Nat → Bool) (i c : Nat) (L : List (Nat × List Nat)) : Prop where
  first : L[0]? = some (start, [])
  node : ∀ (j k : Nat) (w : List Nat), L[j]? = some (k, w) → k < N ∧ Bytes w ∧ k = run nx start w
  inj : ∀ (j j' k : Nat) (w w' : List Nat), L[j]? = some (k, w) → L[j']? = some (k, w') → j = j'
  sorted : ∀ (j j' k k' : Nat) (w w' : List Nat), L[j]? = some (k, w) → L[j']? = some (k', w') → j < j' → sl w w'
  origin : ∀ (j k : Nat) (w : List Nat), L[j]? = some (k, w) → 0 < j → ∃ (f kf : Nat) (wf : List Nat) (b : Nat), L[f]? = some (kf, wf) ∧ w = wf ++ [b] ∧ f < j ∧ (f < i ∨ (f = i ∧ b < c))
  closed : ∀ (f kf : Nat) (wf : List Nat) (b : Nat), L[f]? = some (kf, wf) → b < 256 → (f < i ∨ (f = i ∧ b < c)) → ∃ (j : Nat) (w : List Nat), L[j]? = some (nx kf b, w) ∧ sle w (wf ++ [b])
  none : ∀ (j k : Nat) (w : List Nat), j < i → L[j]? = some (k, w) → is k = false

variable {nx : Nat → Nat → Nat} {N start : Nat} {is : Nat → Bool} {i c : Nat} {L : List (Nat × List Nat)}

theorem Bfs.init (nx : Nat → Nat → Nat) (is : Nat → Bool) (h : start < N) : Bfs nx N start is 0 0 [(start, [])] := by
  have one : ∀ (j k : Nat) (w : List Nat), [(start, ([] : List Nat))][j]? = some (k, w) → j = 0 ∧ k = start ∧ w = [] := by
    intro j k w hj
    match j, hj with
    | 0, hj => simp at hj; exact ⟨rfl, hj.1.symm, hj.2⟩
  refine ⟨rfl, fun j k w hj => ?_, fun j j' k w w' h1 h2 => ?_, fun j j' k k' w w' h1 h2 h3 => ?_, fun j k w h1 h2 => ?_, fun f kf wf b _ _ h3 => by omega, fun j k w h1 _ => by omega⟩
  · obtain ⟨_, rfl, rfl⟩ := one j k w hj; exact ⟨h, fun c hc => (by cases hc), rfl⟩
  · have := one _ _ _ h1; have := one _ _ _ h2; omega
  · have := one _ _ _ h1; have := one _ _ _ h2; omega
  · have := one _ _ _ h1; omega

theorem getElem?_snoc {α : Type} {l : List α} {x y : α} {j : Nat} (h : (l ++ [x])[j]? = some y) : (j < l.length ∧ l[j]? = some y) ∨ (j = l.length ∧ y = x) := by
  rw [List.getElem?_append] at h
  split at h
  · exact .inl ⟨‹_›, h⟩
  · rename_i hl
    have hj := (List.getElem?_eq_some_iff.1 h).1
    simp at hj
    have : j = l.length := by omega
    subst this
    simp at h
    exact .inr ⟨rfl, h.symm⟩
theorem getElem?_old {α : Type} {l : List α} {x y : α} {j : Nat} (h : l[j]? = some y) : (l ++ [x])[j]? = some y := by
  rw [List.getElem?_append_left (List.getElem?_eq_some_iff.1 h).1]; exact h
theorem lt_of_get {α : Type} {l : List α} {y : α} {j : Nat} (h : l[j]? = some y) : j < l.length := (List.getElem?_eq_some_iff.1 h).1

/-- all words there are stand ahead of the next one -/
theorem Bfs.below (h : Bfs nx N start is i c L) {ki : Nat} {wi : List Nat} (hi : L[i]? = some (ki, wi)) {j k : Nat} {w : List Nat} (hj : L[j]? = some (k, w)) : sl w (wi ++ [c]) := by
  by_cases hj0 : j = 0
  · subst hj0
    rw [h.first] at hj
    simp at hj
    rw [hj.2]
    exact sl_nil (by simp)
  · obtain ⟨f, kf, wf, b, h1, rfl, _, h2⟩ := h.origin j k w hj (by omega)
    rcases h2 with h2 | ⟨rfl, h2⟩
    · exact sl_snoc (h.sorted f i kf ki wf wi h1 hi h2) b c
    · rw [hi] at h1
      simp at h1
      rw [← h1.2]
      exact sl_last wi h2

theorem Bfs.skip (h : Bfs nx N start is i c L) {ki : Nat} {wi : List Nat} (hi : L[i]? = some (ki, wi)) {j : Nat} {w : List Nat} (hj : L[j]? = some (nx ki c, w)) : Bfs nx N start is i (c + 1) L := by
  refine ⟨h.first, h.node, h.inj, h.sorted, fun j k w h1 h2 => ?_, fun f kf wf b h1 h2 h3 => ?_, h.none⟩
  · obtain ⟨f, kf, wf, b, h4, h5, h0, h6⟩ := h.origin j k w h1 h2
    exact ⟨f, kf, wf, b, h4, h5, h0, by omega⟩
  · by_cases e : f = i ∧ b = c
    · obtain ⟨rfl, rfl⟩ := e
      rw [hi] at h1
      simp at h1
      obtain ⟨rfl, rfl⟩ := h1
      exact ⟨j, w, hj, .inr (h.below hi hj)⟩
    · exact h.closed f kf wf b h1 h2 (by omega)

theorem Bfs.add (h : Bfs nx N start is i c L) {ki : Nat} {wi : List Nat} (hi : L[i]? = some (ki, wi)) (hc : c < 256) (hN : nx ki c < N) (hnew : ∀ (j : Nat) (w : List Nat), L[j]? ≠ some (nx ki c, w)) :
    Bfs nx N start is i (c + 1) (L ++ [(nx ki c, wi ++ [c])]) := by
  have hil := lt_of_get hi
  have hnode := h.node i ki wi hi
  refine ⟨getElem?_old h.first, fun j k w h1 => ?_, fun j j' k w w' h1 h2 => ?_, fun j j' k k' w w' h1 h2 h3 => ?_, fun j k w h1 h2 => ?_, fun f kf wf b h1 h2 h3 => ?_, fun j k w h1 h2 => ?_⟩
  · rcases getElem?_snoc h1 with ⟨_, h1⟩ | ⟨_, h1⟩
    · exact h.node j k w h1
    · simp at h1
      obtain ⟨rfl, rfl⟩ := h1
      refine ⟨hN, fun x hx => ?_, ?_⟩
      · rcases List.mem_append.1 hx with hx | hx
        · exact hnode.2.1 x hx
        · simp at hx; omega
      · rw [run, List.foldl_append, List.foldl_cons, List.foldl_nil]
        have := hnode.2.2
        unfold run at this
        rw [← this]
  · rcases getElem?_snoc h1 with ⟨_, h1⟩ | ⟨e1, h1⟩ <;> rcases getElem?_snoc h2 with ⟨_, h2⟩ | ⟨e2, h2⟩
    · exact h.inj j j' k w w' h1 h2
    · simp at h2; rw [h2.1] at h1; exact absurd h1 (hnew _ _)
    · simp at h1; rw [h1.1] at h2; exact absurd h2 (hnew _ _)
    · omega
  · rcases getElem?_snoc h1 with ⟨l1, h1⟩ | ⟨e1, h1⟩ <;> rcases getElem?_snoc h2 with ⟨l2, h2⟩ | ⟨e2, h2⟩
    · exact h.sorted j j' k k' w w' h1 h2 h3
    · simp at h2
      rw [h2.2]
      exact h.below hi h1
    · omega
    · omega
  · rcases getElem?_snoc h1 with ⟨_, h1⟩ | ⟨e1, h1⟩
    · obtain ⟨f, kf, wf, b, h4, h5, h0, h6⟩ := h.origin j k w h1 h2
      exact ⟨f, kf, wf, b, getElem?_old h4, h5, h0, by omega⟩
    · simp at h1
      exact ⟨i, ki, wi, c, getElem?_old hi, h1.2, by omega, by omega⟩
  · rcases getElem?_snoc h1 with ⟨_, h1⟩ | ⟨e1, h1⟩
    · by_cases e : f = i ∧ b = c
      · rw [e.1] at h1
        rw [e.2]
        rw [hi] at h1
        simp at h1
        obtain ⟨rfl, rfl⟩ := h1
        exact ⟨L.length, wi ++ [c], by simp, .inl rfl⟩
      · obtain ⟨j, w, h4, h5⟩ := h.closed f kf wf b h1 h2 (by omega)
        exact ⟨j, w, getElem?_old h4, h5⟩
    · omega
  · rcases getElem?_snoc h2 with ⟨_, h2⟩ | ⟨e2, h2⟩
    · exact h.none j k w h1 h2
    · omega

theorem Bfs.next (h : Bfs nx N start is i 256 L) {ki : Nat} {wi : List Nat} (hi : L[i]? = some (ki, wi)) (hn : is ki = false) : Bfs nx N start is (i + 1) 0 L := by
  refine ⟨h.first, h.node, h.inj, h.sorted, fun j k w h1 h2 => ?_, fun f kf wf b h1 h2 h3 => ?_, fun j k w h1 h2 => ?_⟩
  · obtain ⟨f, kf, wf, b, h4, h5, h0, h6⟩ := h.origin j k w h1 h2
    exact ⟨f, kf, wf, b, h4, h5, h0, by omega⟩
  · exact h.closed f kf wf b h1 h2 (by omega)
  · by_cases e : j = i
    · subst e; rw [hi] at h2; simp at h2; rw [← h2.1]; exact hn
    · exact h.none j k w (by omega) h2

/-- no word ahead of the one in hand does it; if all is gone over, none does -/
theorem Bfs.least (h : Bfs nx N start is i 0 L) {w0 : List Nat} (hw : (∃ ki, L[i]? = some (ki, w0)) ∨ L.length ≤ i) :
    ∀ x, Bytes x → (L.length ≤ i ∨ sl x w0) → ∃ (j k : Nat) (w : List Nat), j < i ∧ L[j]? = some (k, w) ∧ k = run nx start x ∧ sle w x := by
  intro x
  generalize hn : x.length = n
  induction n generalizing x with
  | zero =>
    intro _ hx
    obtain rfl : x = [] := List.eq_nil_of_length_eq_zero hn
    refine ⟨0, start, [], ?_, h.first, rfl, .inl rfl⟩
    rcases hx with hx | hx
    · have := lt_of_get h.first; omega
    · rcases Nat.eq_zero_or_pos i with rfl | h0
      · exfalso
        rcases hw with ⟨ki, hk⟩ | hk
        · rw [h.first] at hk; simp at hk; rw [← hk.2] at hx; exact sl_irrefl _ hx
        · have := lt_of_get h.first; omega
      · exact h0
  | succ n ih =>
    intro hb hx
    obtain ⟨y, b, rfl⟩ : ∃ y b, x = y ++ [b] := ⟨x.dropLast, x.getLast (by intro e; rw [e] at hn; simp at hn), (List.dropLast_concat_getLast _).symm⟩
    have hbb : b < 256 := hb b (by simp)
    obtain ⟨j, k, w, h1, h2, h3, h4⟩ := ih y (by simpa using hn) (fun d hd => hb d (List.mem_append_left _ hd)) (hx.imp_right sl_init)
    obtain ⟨j', w', h5, h6⟩ := h.closed j k w b h2 hbb (.inl h1)
    have h7 := sle_trans h6 (sle_snoc h4 b)
    refine ⟨j', _, w', ?_, h5, ?_, h7⟩
    · rcases hx with hx | hx
      · have := lt_of_get h5; omega
      · rcases hw with ⟨ki, hk⟩ | hk
        · rcases Nat.lt_or_ge j' i with h8 | h8
          · exact h8
          · exfalso
            rcases Nat.eq_or_lt_of_le h8 with h9 | h9
            · subst h9; rw [hk] at h5; simp at h5; rw [h5.2] at hx; exact sl_irrefl _ (sle_sl h7 hx)
            · exact sl_asymm (h.sorted i j' _ _ _ _ hk h5 h9) (sle_sl h7 hx)
        · have := lt_of_get h5; omega
    · rw [h3, run, run, List.foldl_append, List.foldl_cons, List.foldl_nil]

theorem Bfs.found (h : Bfs nx N start is i 0 L) {k : Nat} {w : List Nat} (hi : L[i]? = some (k, w)) {x : List Nat} (hx : Bytes x) (ht : is (run nx start x) = true) : ¬ sl x w := by
  intro hs
  obtain ⟨j, k', w', h1, h2, h3, _⟩ := h.least (.inl ⟨k, hi⟩) x hx (.inr hs)
  have := h.none j k' w' h1 h2
  rw [h3, ht] at this
  cases this
theorem Bfs.lost (h : Bfs nx N start is i 0 L) (hi : L.length ≤ i) {x : List Nat} (hx : Bytes x) : is (run nx start x) = false := by
  obtain ⟨j, k', w', h1, h2, h3, _⟩ := h.least (w0 := []) (.inr hi) x hx (.inl hi)
  rw [← h3]
  exact h.none j k' w' h1 h2

/-- a word is no longer than its place -/
theorem Bfs.short (h : Bfs nx N start is i c L) : ∀ (j k : Nat) (w : List Nat), L[j]? = some (k, w) → w.length ≤ j := by
  intro j
  induction j using Nat.strongRecOn with
  | _ j ih =>
    intro k w hj
    rcases Nat.eq_zero_or_pos j with rfl | h0
    · rw [h.first] at hj; simp at hj; rw [hj.2]; simp
    · obtain ⟨f, kf, wf, b, h1, rfl, h2, _⟩ := h.origin j k w hj h0
      have := ih f h2 kf wf h1
      simp; omega

theorem Bfs.length_le (h : Bfs nx N start is i c L) : L.length ≤ N := by
  have := LM.length_le_of_inj N (L.map Prod.fst) (fun x hx => by
    obtain ⟨⟨k, w⟩, hp, rfl⟩ := List.mem_map.1 hx
    obtain ⟨j, hj⟩ := List.getElem?_of_mem hp
    exact (h.node j k w hj).1) (by
      refine List.pairwise_iff_getElem.2 fun a b ha hb hab e => ?_
      rw [List.length_map] at hb
      rw [List.getElem_map, List.getElem_map] at e
      have h1 : L[a]? = some ((L[b]'hb).1, (L[a]'(by omega)).2) := by rw [List.getElem?_eq_getElem (by omega), ← e]
      have h2 : L[b]? = some ((L[b]'hb).1, (L[b]'hb).2) := by rw [List.getElem?_eq_getElem hb]
      have := h.inj a b _ _ _ h1 h2
      omega)
  simpa using this

/- ---- how long a word must be that tells two states apart ---- -/

def mo (A : Aut) : Nat → Nat → Nat
  | 0 => fun i => LM.firstLike (fun k i => A.lb k == A.lb i) i
  | k + 1 => LM.nextC A (mo A k)

theorem mo_split {A : Aut} (hA : A.ok) : ∀ k, LM.Split A (mo A k)
  | 0 => LM.Split.start A
  | k + 1 => (mo_split hA k).next hA

theorem mo_apart {A : Aut} (hA : A.ok) : ∀ k s t, s < A.n → t < A.n → mo A k s ≠ mo A k t → ∃ w, Bytes w ∧ w.length ≤ k ∧ A.lb (A.run s w) ≠ A.lb (A.run t w)
  | 0, s, t, h1, h2, hne => by
    refine ⟨[], fun c hc => (by cases hc), Nat.le_refl _, fun e => hne ?_⟩
    have hE : LM.EqvR (fun k i => A.lb k == A.lb i) := ⟨by simp, by simp; intro i j h; exact h.symm, by simp; intro i j k h h'; exact h.trans h'⟩
    exact (LM.firstLike_eq_iff hE).2 (by simpa [Aut.run] using e)
  | k + 1, s, t, h1, h2, hne => by
    by_cases e : mo A k s = mo A k t
    · have hn : ¬ ∀ c, c < 256 → mo A k (A.nx s c) = mo A k (A.nx t c) := fun h =>
        hne ((LM.firstLike_eq_iff (LM.nextR_eqv A _)).2 (LM.nextR_iff.2 ⟨e, h⟩))
      obtain ⟨c, hc⟩ := Classical.not_forall.1 hn
      obtain ⟨hc1, hc2⟩ := Classical.not_imp.1 hc
      obtain ⟨w, h3, h4, h5⟩ := mo_apart hA k _ _ (hA.2 s c h1 hc1) (hA.2 t c h2 hc1) hc2
      refine ⟨c :: w, fun d hd => ?_, by simp; omega, h5⟩
      cases hd with
      | head => exact hc1
      | tail _ hd => exact h3 d hd
    · obtain ⟨w, h3, h4, h5⟩ := mo_apart hA k s t h1 h2 e
      exact ⟨w, h3, by omega, h5⟩

theorem firsts_two {C : Nat → Nat} (h0 : C 0 = 0) {j n : Nat} (hj : 0 < j) (hjn : j < n) (h : C j = j) : 2 ≤ LM.firsts C n := by
  have h1 : ∀ n, 0 < n → 1 ≤ LM.firsts C n := by
    intro n hn
    induction n with
    | zero => omega
    | succ n ih =>
      simp only [LM.firsts]
      rcases Nat.eq_zero_or_pos n with rfl | hn
      · rw [if_pos h0]; omega
      · have := ih hn; omega
  induction n with
  | zero => omega
  | succ n ih =>
    simp only [LM.firsts]
    by_cases e : j = n
    · subst e; rw [if_pos h]; have := h1 j hj; omega
    · have := ih (by omega); omega

theorem moore {A : Aut} (hA : A.ok) {s t : Nat} (hs : s < A.n) (ht : t < A.n) (hne : ¬ xeq A A s t) : ∃ w, Bytes w ∧ w.length + 2 ≤ A.n ∧ A.lb (A.run s w) ≠ A.lb (A.run t w) := by
  have hlab : ∃ j, j < A.n ∧ A.lb j ≠ A.lb 0 := by
    rcases Classical.em (∃ j, j < A.n ∧ A.lb j ≠ A.lb 0) with h | h
    · exact h
    · exfalso
      refine hne fun w hw => ?_
      have hall : ∀ j, j < A.n → A.lb j = A.lb 0 := fun j hj => Classical.byContradiction fun e => h ⟨j, hj, e⟩
      rw [hall _ (Aut.run_lt hA w s hs hw), hall _ (Aut.run_lt hA w t ht hw)]
  obtain ⟨j, hj, hjl⟩ := hlab
  have h0 : 2 ≤ LM.firsts (mo A 0) A.n := by
    have hE : LM.EqvR (fun k i => A.lb k == A.lb i) := ⟨by simp, by simp; intro i j h; exact h.symm, by simp; intro i j k h h'; exact h.trans h'⟩
    have h1 : mo A 0 0 = 0 := Nat.le_zero.1 ((mo_split hA 0).le 0)
    refine firsts_two (j := mo A 0 j) h1 ?_ (Nat.lt_of_le_of_lt ((mo_split hA 0).le j) hj) ((mo_split hA 0).idem j)
    rcases Nat.eq_zero_or_pos (mo A 0 j) with e | e
    · exfalso
      have := (LM.firstLike_eq_iff hE (i := j) (j := 0)).1 (by show mo A 0 j = mo A 0 0; rw [e, h1])
      exact hjl (by simpa using this)
    · exact e
  have key : ∀ k, (∃ q, q < k ∧ ∀ i, i < A.n → mo A (q + 1) i = mo A q i) ∨ k + 2 ≤ LM.firsts (mo A k) A.n := by
    intro k
    induction k with
    | zero => exact .inr h0
    | succ k ih =>
      rcases ih with ⟨q, h1, h2⟩ | ih
      · exact .inl ⟨q, by omega, h2⟩
      · rcases Classical.em (∀ i, i < A.n → mo A (k + 1) i = mo A k i) with h | h
        · exact .inl ⟨k, by omega, h⟩
        · obtain ⟨i, hi⟩ := Classical.not_forall.1 h
          obtain ⟨hi1, hi2⟩ := Classical.not_imp.1 hi
          have := (mo_split hA k).grows hi1 hi2
          exact .inr (by show k + 1 + 2 ≤ LM.firsts (LM.nextC A (mo A k)) A.n; omega)
  have hpos := hA.1
  rcases key (A.n - 1) with ⟨q, h1, h2⟩ | h
  · have hT := (mo_split hA q).done hA h2
    have hd : mo A q s ≠ mo A q t := fun e => hne ((hT s t hs ht).1 e)
    obtain ⟨w, h3, h4, h5⟩ := mo_apart hA q s t hs ht hd
    exact ⟨w, h3, by omega, h5⟩
  · have := LM.firsts_le (mo A (A.n - 1)) A.n
    omega

/-- two automata side by side -/
def both (A B : Aut) : Aut := { n := A.n + B.n, nx := fun s c => if s < A.n then A.nx s c else A.n + B.nx (s - A.n) c, lb := fun s => if s < A.n then A.lb s else B.lb (s - A.n) }

theorem both_ok {A B : Aut} (hA : A.ok) (hB : B.ok) : (both A B).ok := by
  refine ⟨by have := hA.1; show 0 < A.n + B.n; omega, fun s c hs hc => ?_⟩
  have hs' : s < A.n + B.n := hs
  show (if s < A.n then A.nx s c else A.n + B.nx (s - A.n) c) < A.n + B.n
  split
  · have := hA.2 s c ‹_› hc; omega
  · have := hB.2 (s - A.n) c (by omega) hc; omega
theorem both_run1 {A : Aut} (B : Aut) (hA : A.ok) : ∀ (w : List Nat) (s : Nat), s < A.n → Bytes w → (both A B).run s w = A.run s w
  | [], _, _, _ => rfl
  | c :: w, s, hs, hw => by
    rw [Aut.run_cons, Aut.run_cons]
    have e : (both A B).nx s c = A.nx s c := by show (if s < A.n then _ else _) = _; rw [if_pos hs]
    rw [e]
    exact both_run1 B hA w _ (hA.2 s c hs (hw c (by simp))) (fun d hd => hw d (List.mem_cons_of_mem _ hd))
theorem both_run2 (A : Aut) {B : Aut} : ∀ (w : List Nat) (t : Nat), (both A B).run (A.n + t) w = A.n + B.run t w
  | [], _ => rfl
  | c :: w, t => by
    rw [Aut.run_cons, Aut.run_cons]
    have e : (both A B).nx (A.n + t) c = A.n + B.nx t c := by show (if A.n + t < A.n then _ else _) = _; rw [if_neg (by omega), Nat.add_sub_cancel_left]
    rw [e]
    exact both_run2 A w _

theorem moore2 {A B : Aut} (hA : A.ok) (hB : B.ok) {s t : Nat} (hs : s < A.n) (ht : t < B.n) (hne : ¬ xeq A B s t) : ∃ w, Bytes w ∧ w.length + 2 ≤ A.n + B.n ∧ A.lb (A.run s w) ≠ B.lb (B.run t w) := by
  have h1 : ∀ w, Bytes w → (both A B).lb ((both A B).run s w) = A.lb (A.run s w) := fun w hw => by
    rw [both_run1 B hA w s hs hw]
    show (if _ then _ else _) = _
    rw [if_pos (Aut.run_lt hA w s hs hw)]
  have h2 : ∀ w, (both A B).lb ((both A B).run (A.n + t) w) = B.lb (B.run t w) := fun w => by
    rw [both_run2]
    show (if _ then _ else _) = _
    rw [if_neg (by omega), Nat.add_sub_cancel_left]
  obtain ⟨w, h3, h4, h5⟩ := moore (both_ok hA hB) (s := s) (t := A.n + t) (by show s < A.n + B.n; omega) (by show A.n + t < A.n + B.n; omega) (fun h => hne fun w hw => by rw [← h1 w hw, ← h2 w]; exact h w hw)
  exact ⟨w, h3, h4, by rw [h1 w h3, h2 w] at h5; exact h5⟩
end Go.Proofs.YtihginaanlcilaaDoor.WM
