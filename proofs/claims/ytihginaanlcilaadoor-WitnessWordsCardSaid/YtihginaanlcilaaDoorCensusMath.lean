/- Plain mathematics of counting words of a deterministic automaton: no program in sight. -/
namespace Go.Proofs.YtihginaanlcilaaDoor.CM

def sumTo (f : Nat → Nat) : Nat → Nat
  | 0 => 0
  | n + 1 => sumTo f n + f n

theorem sumTo_congr {f g : Nat → Nat} : ∀ {n : Nat}, (∀ i, i < n → f i = g i) → sumTo f n = sumTo g n
  | 0, _ => rfl
  | n + 1, h => by
    simp only [sumTo]
    rw [sumTo_congr (n := n) (fun i hi => h i (by omega)), h n (by omega)]

theorem sumTo_mono {f : Nat → Nat} {a b : Nat} (h : a ≤ b) : sumTo f a ≤ sumTo f b := by
  induction b with
  | zero => obtain rfl : a = 0 := by omega
            exact Nat.le_refl _
  | succ b ih =>
    by_cases e : a = b + 1
    · subst e; exact Nat.le_refl _
    · have := ih (by omega); simp only [sumTo]; omega

theorem sumTo_succ_le {f : Nat → Nat} {a b : Nat} (h : a < b) : sumTo f a + f a ≤ sumTo f b := sumTo_mono (f := f) (a := a + 1) h

theorem sumTo_const (x : Nat) : ∀ n, sumTo (fun _ => x) n = n * x
  | 0 => by simp [sumTo]
  | n + 1 => by simp only [sumTo]; rw [sumTo_const x n, Nat.succ_mul]

theorem sumTo_le {f : Nat → Nat} {x : Nat} : ∀ {n}, (∀ i, i < n → f i ≤ x) → sumTo f n ≤ n * x
  | 0, _ => by simp [sumTo]
  | n + 1, h => by
    simp only [sumTo]
    have h1 := sumTo_le (n := n) (f := f) (x := x) (fun i hi => h i (by omega))
    have h2 := h n (by omega)
    rw [Nat.succ_mul]; omega

theorem sumTo_add (f : Nat → Nat) (a : Nat) : ∀ b, sumTo f (a + b) = sumTo f a + sumTo (fun i => f (a + i)) b
  | 0 => by simp [sumTo]
  | b + 1 => by
    rw [← Nat.add_assoc]; simp only [sumTo]; rw [sumTo_add f a b]; omega

/-- how many words of n bytes lead from s to a state that p takes -/
def ways (nx : Nat → Nat → Nat) (p : Nat → Bool) : Nat → Nat → Nat
  | 0, s => if p s then 1 else 0
  | n + 1, s => sumTo (fun c => ways nx p n (nx s c)) 256

theorem ways_le (nx : Nat → Nat → Nat) (p : Nat → Bool) : ∀ n s, ways nx p n s ≤ 256 ^ n
  | 0, s => by simp only [ways]; split <;> simp
  | n + 1, s => by
    simp only [ways]
    have := sumTo_le (f := fun c => ways nx p n (nx s c)) (x := 256 ^ n) (n := 256) (fun i _ => ways_le nx p n _)
    rw [Nat.pow_succ]; omega

/-- the automaton numbered otherwise has the same words -/
theorem ways_iso {nx nx' : Nat → Nat → Nat} {p p' : Nat → Bool} (π : Nat → Nat) (N : Nat) (hc : ∀ s c, s < N → c < 256 → nx s c < N)
    (hn : ∀ s c, s < N → c < 256 → nx' (π s) c = π (nx s c)) (hp : ∀ s, s < N → p' (π s) = p s) :
    ∀ n s, s < N → ways nx' p' n (π s) = ways nx p n s
  | 0, s, h => by simp only [ways, hp s h]
  | n + 1, s, h => by
    simp only [ways]
    exact sumTo_congr fun c hcc => by rw [hn s c h hcc]; exact ways_iso π N hc hn hp n _ (hc s c h hcc)

theorem ways_congr {nx nx' : Nat → Nat → Nat} {p p' : Nat → Bool} (N : Nat) (hc : ∀ s c, s < N → c < 256 → nx s c < N)
    (hn : ∀ s c, s < N → c < 256 → nx' s c = nx s c) (hp : ∀ s, s < N → p' s = p s) :
    ∀ n s, s < N → ways nx' p' n s = ways nx p n s :=
  ways_iso (fun s => s) N hc hn hp

/-- go from entry to entry as long as the whole entry lies ahead of place k -/
def pick (f : Nat → Nat) : Nat → Nat → Nat → Nat × Nat
  | 0, i, k => (i, k)
  | m + 1, i, k => if f i ≤ k then pick f m (i + 1) (k - f i) else (i, k)

theorem pick_spec (f : Nat → Nat) : ∀ m i k, let r := pick f m i k; i ≤ r.1 ∧ r.1 ≤ i + m ∧ sumTo f i + k = sumTo f r.1 + r.2 ∧ (r.1 < i + m → r.2 < f r.1)
  | 0, i, k => by simp [pick]
  | m + 1, i, k => by
    simp only [pick]
    split
    · rename_i h
      have := pick_spec f m (i + 1) (k - f i)
      simp only [sumTo] at this
      refine ⟨by omega, by omega, by omega, fun h' => this.2.2.2 (by omega)⟩
    · exact ⟨by simp, by simp, rfl, fun _ => by simp; omega⟩

theorem pick_lt {f : Nat → Nat} {m k : Nat} (h : k < sumTo f m) : (pick f m 0 k).1 < m := by
  have := pick_spec f m 0 k
  simp only [sumTo] at this
  rcases Nat.lt_or_ge (pick f m 0 k).1 m with h' | h'
  · exact h'
  · have := sumTo_mono (f := f) h'
    omega

/-- the word with place k among the words of n bytes -/
def nthB (nx : Nat → Nat → Nat) (p : Nat → Bool) : Nat → Nat → Nat → List Nat
  | 0, _, _ => []
  | n + 1, s, k =>
    let r := pick (fun c => ways nx p n (nx s c)) 256 0 k
    r.1 :: nthB nx p n (nx s r.1) r.2

def rankB (nx : Nat → Nat → Nat) (p : Nat → Bool) : List Nat → Nat → Nat
  | [], _ => 0
  | c :: w, s => sumTo (fun c => ways nx p w.length (nx s c)) c + rankB nx p w (nx s c)

def run (nx : Nat → Nat → Nat) (s : Nat) (w : List Nat) : Nat := w.foldl nx s

theorem nthB_spec (nx : Nat → Nat → Nat) (p : Nat → Bool) : ∀ n s k, k < ways nx p n s →
    (nthB nx p n s k).length = n ∧ (∀ c ∈ nthB nx p n s k, c < 256) ∧ p (run nx s (nthB nx p n s k)) = true ∧ rankB nx p (nthB nx p n s k) s = k
  | 0, s, k, h => by
    simp only [ways] at h
    split at h
    · rename_i hp
      exact ⟨rfl, by simp [nthB], hp, by simp [nthB, rankB]; omega⟩
    · omega
  | n + 1, s, k, h => by
    simp only [ways] at h
    have hl := pick_lt h
    have hs := pick_spec (fun c => ways nx p n (nx s c)) 256 0 k
    simp only [sumTo, Nat.zero_add] at hs
    have ih := nthB_spec nx p n (nx s (pick (fun c => ways nx p n (nx s c)) 256 0 k).1) (pick (fun c => ways nx p n (nx s c)) 256 0 k).2 (hs.2.2.2 hl)
    refine ⟨by simp [nthB, ih.1], ?_, ?_, ?_⟩
    · intro c hc
      simp only [nthB, List.mem_cons] at hc
      rcases hc with rfl | hc
      · exact hl
      · exact ih.2.1 c hc
    · simpa [nthB, run] using ih.2.2.1
    · simp only [nthB, rankB, ih.1, ih.2.2.2]; omega

theorem rankB_lt (nx : Nat → Nat → Nat) (p : Nat → Bool) : ∀ w s, (∀ c ∈ w, c < 256) → p (run nx s w) = true → rankB nx p w s < ways nx p w.length s
  | [], s, _, hp => by simp only [run, List.foldl] at hp; simp [rankB, ways, hp]
  | c :: w, s, hb, hp => by
    have ih := rankB_lt nx p w (nx s c) (fun d hd => hb d (List.mem_cons_of_mem _ hd)) (by simpa [run] using hp)
    have := sumTo_succ_le (f := fun c => ways nx p w.length (nx s c)) (hb c (by simp))
    simp only [rankB, ways, List.length_cons]
    omega

theorem rankB_le (nx : Nat → Nat → Nat) (p : Nat → Bool) : ∀ w s, (∀ c ∈ w, c < 256) → rankB nx p w s ≤ ways nx p w.length s
  | [], s, _ => by simp [rankB]
  | c :: w, s, hb => by
    have ih := rankB_le nx p w (nx s c) (fun d hd => hb d (List.mem_cons_of_mem _ hd))
    have := sumTo_succ_le (f := fun c => ways nx p w.length (nx s c)) (hb c (by simp))
    simp only [rankB, ways, List.length_cons]
    omega

/-- words of one length in their order -/
def lex : List Nat → List Nat → Bool
  | a :: x, b :: y => if a = b then lex x y else decide (a < b)
  | _, _ => false

theorem rank_mono (nx : Nat → Nat → Nat) (p : Nat → Bool) : ∀ w x s, w.length = x.length → (∀ c ∈ w, c < 256) → (∀ c ∈ x, c < 256) → lex w x = true →
    rankB nx p w s ≤ rankB nx p x s ∧ (p (run nx s w) = true → rankB nx p w s < rankB nx p x s)
  | [], _, _, _, _, _, h => by simp [lex] at h
  | _ :: _, [], _, h, _, _, _ => by simp at h
  | c :: w, d :: x, s, hl, hw, hx, h => by
    simp only [List.length_cons, Nat.add_right_cancel_iff] at hl
    simp only [lex] at h
    split at h
    · rename_i e; subst e
      have ih := rank_mono nx p w x (nx s c) hl (fun d hd => hw d (List.mem_cons_of_mem _ hd)) (fun d hd => hx d (List.mem_cons_of_mem _ hd)) h
      simp only [rankB, hl, run, List.foldl_cons] at *
      refine ⟨by omega, fun hp => by have := ih.2 hp; omega⟩
    · have hlt : c < d := by simpa using h
      have h1 := sumTo_succ_le (f := fun c => ways nx p x.length (nx s c)) hlt
      have h2 := rankB_le nx p w (nx s c) (fun d hd => hw d (List.mem_cons_of_mem _ hd))
      simp only [rankB, hl] at h2 ⊢
      refine ⟨by omega, fun hp => ?_⟩
      have h3 := rankB_lt nx p w (nx s c) (fun d hd => hw d (List.mem_cons_of_mem _ hd)) (by simpa [run] using hp)
      rw [hl] at h3
      omega

theorem lex_total : ∀ (w x : List Nat), w.length = x.length → w ≠ x → lex w x = true ∨ lex x w = true
  | [], [], _, h => absurd rfl h
  | [], _ :: _, h, _ => by simp at h
  | _ :: _, [], h, _ => by simp at h
  | a :: w, b :: x, hl, hne => by
    simp only [lex]
    by_cases e : a = b
    · subst e
      rw [if_pos rfl, if_pos rfl]
      exact lex_total w x (by simpa using hl) (fun e => hne (by rw [e]))
    · rw [if_neg e, if_neg (fun h => e h.symm)]
      simp only [decide_eq_true_eq]
      omega

/-- the next word of that length: the last byte that is not 255 is raised, what stands behind it is 0 (of nothing but 255: nothing but 0) -/
def succB : List Nat → List Nat × Bool
  | [] => ([], true)
  | c :: w =>
    let r := succB w
    if r.2 then (if c < 255 then ((c + 1) :: r.1, false) else (0 :: r.1, true)) else (c :: r.1, false)

theorem succB_length : ∀ w, (succB w).1.length = w.length
  | [] => rfl
  | c :: w => by
    have := succB_length w
    simp only [succB]; split <;> (try split) <;> simp [this]

theorem succB_bytes : ∀ w, (∀ c ∈ w, c < 256) → ∀ c ∈ (succB w).1, c < 256
  | [], _ => by simp [succB]
  | c :: w, h => by
    have ih := succB_bytes w (fun d hd => h d (List.mem_cons_of_mem _ hd))
    have hc := h c (by simp)
    simp only [succB]
    split
    · split
      · intro d hd
        simp only [List.mem_cons] at hd
        rcases hd with rfl | hd
        · omega
        · exact ih d hd
      · intro d hd
        simp only [List.mem_cons] at hd
        rcases hd with rfl | hd
        · omega
        · exact ih d hd
    · intro d hd
      simp only [List.mem_cons] at hd
      rcases hd with rfl | hd
      · exact hc
      · exact ih d hd

/-- of nothing but 255: no word stands behind it, and the next one is nothing but 0 -/
theorem succB_over : ∀ w, (succB w).2 = true → ∀ x, x.length = w.length → (∀ c ∈ x, c < 256) → lex w x = false ∧ (x ≠ (succB w).1 → lex (succB w).1 x = true)
  | [], _, x, hl, _ => by
    obtain rfl : x = [] := by simpa using hl
    simp [lex, succB]
  | c :: w, h, x, hl, hb => by
    cases x with
    | nil => simp at hl
    | cons d x =>
      simp only [succB] at h ⊢
      cases hw : (succB w).2 with
      | false => rw [hw] at h; simp at h
      | true =>
        rw [hw] at h
        rw [if_pos rfl] at h ⊢
        by_cases e : c < 255
        · rw [if_pos e] at h; simp at h
        · rw [if_neg e]
          have ih := succB_over w hw x (by simpa using hl) (fun d hd => hb d (List.mem_cons_of_mem _ hd))
          have hd := hb d (by simp)
          refine ⟨?_, ?_⟩
          · simp only [lex]
            split
            · exact ih.1
            · simp only [decide_eq_false_iff_not]; omega
          · intro hne
            simp only [lex]
            split
            · rename_i e0
              exact ih.2 (fun e1 => hne (by rw [← e0, e1]))
            · simp only [decide_eq_true_eq]; omega

/-- no word stands between a word and the next one -/
theorem succB_next : ∀ w x, x.length = w.length → (∀ c ∈ w, c < 256) → (∀ c ∈ x, c < 256) → lex w x = true → x ≠ (succB w).1 → lex w (succB w).1 = true ∧ lex (succB w).1 x = true
  | [], _, _, _, _, h, _ => by simp [lex] at h
  | _ :: _, [], hl, _, _, _, _ => by simp at hl
  | c :: w, d :: x, hl, hw, hx, h, hne => by
    have hl' : x.length = w.length := by simpa using hl
    have hw' : ∀ c ∈ w, c < 256 := fun d hd => hw d (List.mem_cons_of_mem _ hd)
    have hx' : ∀ c ∈ x, c < 256 := fun d hd => hx d (List.mem_cons_of_mem _ hd)
    simp only [succB] at hne ⊢
    cases hs : (succB w).2 with
    | false =>
      rw [hs] at hne
      simp only [Bool.false_eq_true, if_false] at hne ⊢
      simp only [lex] at h ⊢
      by_cases e : c = d
      · subst e
        rw [if_pos rfl] at h ⊢
        exact succB_next w x hl' hw' hx' h (fun e1 => hne (by rw [e1]))
      · rw [if_neg e] at h ⊢
        rw [if_pos trivial]
        refine ⟨?_, h⟩
        exact succB_lt w hs
    | true =>
      rw [hs] at hne
      have ho := succB_over w hs x hl' hx'
      simp only [if_true] at hne ⊢
      simp only [lex] at h
      by_cases e : c = d
      · rw [if_pos e, ho.1] at h; simp at h
      · rw [if_neg e] at h
        have hlt : c < d := by simpa using h
        have hd := hx d (by simp)
        have hc : c < 255 := by omega
        rw [if_pos hc] at hne ⊢
        simp only [lex]
        refine ⟨by rw [if_neg (by omega)]; simp, ?_⟩
        by_cases e1 : c + 1 = d
        · rw [if_pos e1]; exact ho.2 (fun e2 => hne (by rw [e1, e2]))
        · rw [if_neg e1]; simp; omega
where
  succB_lt : ∀ w, (succB w).2 = false → lex w (succB w).1 = true
    | [], h => by simp [succB] at h
    | c :: w, h => by
      simp only [succB] at h ⊢
      cases hs : (succB w).2 with
      | false =>
        simp only [Bool.false_eq_true, if_false, lex]
        rw [if_pos trivial]
        exact succB_lt w hs
      | true =>
        rw [hs] at h
        simp only [if_true] at h ⊢
        by_cases e : c < 255
        · rw [if_pos e]; simp [lex]
        · rw [if_neg e] at h; simp at h

end Go.Proofs.YtihginaanlcilaaDoor.CM
