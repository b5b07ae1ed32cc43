/- Blocks of states, split by which of their states are hit. No program in sight. -/
import Derived.Test.YthnojechejckpaaDoorLeastMath
namespace Go.Proofs.YthnojechejckpaaDoor.LM

/-- blocks as lists: block b holds just the states whose number is b -/
structure Blk (n : Nat) (P : Nat → Nat) (B : List (List Nat)) : Prop where
  lt : ∀ s, s < n → P s < B.length
  mem : ∀ (b : Nat) (l : List Nat), B[b]? = some l → ∀ s, s ∈ l ↔ s < n ∧ P s = b
  ne : ∀ (b : Nat) (l : List Nat), B[b]? = some l → l ≠ []
  nodup : ∀ (b : Nat) (l : List Nat), B[b]? = some l → l.Nodup

theorem Blk.len {n : Nat} {P : Nat → Nat} {B : List (List Nat)} (h : Blk n P B) {b : Nat} {l : List Nat} (hl : B[b]? = some l) : l.length ≤ n :=
  length_le_of_inj n l (fun s hs => ((h.mem b l hl s).1 hs).1) (h.nodup b l hl)

theorem Blk.count {n : Nat} {P : Nat → Nat} {B : List (List Nat)} (h : Blk n P B) : B.length ≤ n := by
  have := length_le_of_inj n (B.map fun l => l.headD 0) (fun x hx => by
    obtain ⟨l, hl, rfl⟩ := List.mem_map.1 hx
    obtain ⟨b, hb⟩ := List.getElem?_of_mem hl
    cases l with
    | nil => exact absurd rfl (h.ne b _ hb)
    | cons y l => exact ((h.mem b _ hb y).1 (by simp)).1) (by
      refine List.pairwise_iff_getElem.2 fun a b ha hb hab e => ?_
      rw [List.length_map] at ha hb
      rw [List.getElem_map, List.getElem_map] at e
      have h1 := List.getElem?_eq_getElem ha
      have h2 := List.getElem?_eq_getElem hb
      have key : ∀ (c : Nat) (l : List Nat), B[c]? = some l → P (l.headD 0) = c := by
        intro c l hc
        cases l with
        | nil => exact absurd rfl (h.ne c _ hc)
        | cons y l => exact ((h.mem c _ hc y).1 (by simp)).2
      have k1 := key a _ h1
      have k2 := key b _ h2
      rw [e] at k1
      omega)
  simpa using this

/-- the two parts of a block: what stays, and what moves -/
def parts (hit : Nat → Bool) (l : List Nat) : List Nat × List Nat :=
  let i := l.filter hit
  let o := l.filter fun s => !hit s
  if o.length < i.length then (i, o) else (o, i)

theorem parts_mem (hit : Nat → Bool) (l : List Nat) : ∃ v : Bool, (∀ s, s ∈ (parts hit l).1 ↔ s ∈ l ∧ hit s = v) ∧ (∀ s, s ∈ (parts hit l).2 ↔ s ∈ l ∧ hit s = !v) := by
  unfold parts
  simp only
  split
  · refine ⟨true, fun s => by simp [List.mem_filter], fun s => by simp [List.mem_filter]⟩
  · refine ⟨false, fun s => by simp [List.mem_filter], fun s => by simp [List.mem_filter]⟩
theorem parts_nodup {hit : Nat → Bool} {l : List Nat} (h : l.Nodup) : (parts hit l).1.Nodup ∧ (parts hit l).2.Nodup := by
  unfold parts
  simp only
  split
  · exact ⟨h.filter _, h.filter _⟩
  · exact ⟨h.filter _, h.filter _⟩
theorem parts_nil {hit : Nat → Bool} {l : List Nat} (h1 : l.filter hit ≠ []) (h2 : (l.filter fun s => !hit s) ≠ []) : (parts hit l).1 ≠ [] ∧ (parts hit l).2 ≠ [] := by
  unfold parts
  simp only
  split
  · exact ⟨h1, h2⟩
  · exact ⟨h2, h1⟩

def moved (P : Nat → Nat) (m : List Nat) (k : Nat) (s : Nat) : Nat := if s ∈ m then k else P s

theorem Blk.split {n : Nat} {P : Nat → Nat} {B : List (List Nat)} (h : Blk n P B) {b : Nat} {l : List Nat} (hb : B[b]? = some l) {hit : Nat → Bool} (h1 : l.filter hit ≠ []) (h2 : (l.filter fun s => !hit s) ≠ []) :
    Blk n (moved P (parts hit l).2 B.length) (B.set b (parts hit l).1 ++ [(parts hit l).2]) := by
  obtain ⟨v, p1, p2⟩ := parts_mem hit l
  have hn := parts_nodup (hit := hit) (h.nodup b l hb)
  have he := parts_nil h1 h2
  have hbl := (List.getElem?_eq_some_iff.1 hb).1
  have hm := h.mem b l hb
  have hcase : ∀ (c : Nat) (m : List Nat), (B.set b (parts hit l).1 ++ [(parts hit l).2])[c]? = some m → (c = b ∧ m = (parts hit l).1) ∨ (c ≠ b ∧ c < B.length ∧ B[c]? = some m) ∨ (c = B.length ∧ m = (parts hit l).2) := by
    intro c m hc
    rw [List.getElem?_append] at hc
    split at hc
    · rename_i hlt
      rw [List.length_set] at hlt
      rw [List.getElem?_set] at hc
      split at hc
      · rename_i e
        subst e
        try rw [if_pos hlt] at hc
        simp at hc
        exact .inl ⟨rfl, hc.symm⟩
      · rename_i e
        exact .inr (.inl ⟨fun e' => e e'.symm, hlt, hc⟩)
    · rename_i hlt
      have hj := (List.getElem?_eq_some_iff.1 hc).1
      simp at hj hlt
      have e : c = B.length := by omega
      subst e
      simp at hc
      exact .inr (.inr ⟨rfl, hc.symm⟩)
  refine ⟨fun s hs => ?_, fun c m hc s => ?_, fun c m hc => ?_, fun c m hc => ?_⟩
  · have := h.lt s hs
    simp [moved]; split <;> omega
  · rcases hcase c m hc with ⟨rfl, rfl⟩ | ⟨e, hlt, hc'⟩ | ⟨rfl, rfl⟩
    · rw [p1, hm]
      unfold moved
      constructor
      · rintro ⟨⟨h3, h4⟩, h5⟩
        rw [if_neg (by rw [p2]; intro h6; rw [h5] at h6; cases v <;> simp at h6)]
        exact ⟨h3, h4⟩
      · rintro ⟨h3, h4⟩
        split at h4
        · omega
        · rename_i h6
          have h7 := (hm s).2 ⟨h3, h4⟩
          refine ⟨⟨h3, h4⟩, ?_⟩
          rw [p2] at h6
          cases hv : hit s <;> cases v <;> simp_all
    · rw [h.mem c m hc' s]
      unfold moved
      constructor
      · rintro ⟨h3, h4⟩
        rw [if_neg (by rw [p2, hm]; omega)]
        exact ⟨h3, h4⟩
      · rintro ⟨h3, h4⟩
        split at h4
        · omega
        · exact ⟨h3, h4⟩
    · unfold moved
      constructor
      · intro h3
        rw [if_pos h3]
        exact ⟨((hm s).1 ((p2 s).1 h3).1).1, rfl⟩
      · rintro ⟨h3, h4⟩
        split at h4
        · rename_i h5; exact h5
        · have := h.lt s h3; omega
  · rcases hcase c m hc with ⟨rfl, rfl⟩ | ⟨e, hlt, hc'⟩ | ⟨rfl, rfl⟩
    · exact he.1
    · exact h.ne c m hc'
    · exact he.2
  · rcases hcase c m hc with ⟨rfl, rfl⟩ | ⟨e, hlt, hc'⟩ | ⟨rfl, rfl⟩
    · exact hn.1
    · exact h.nodup c m hc'
    · exact hn.2

/-- the blocks in T have been split; P0 and K: what was before -/
structure Prog (n : Nat) (P0 : Nat → Nat) (K : Nat) (hit : Nat → Bool) (T : List Nat) (P : Nat → Nat) (B : List (List Nat)) : Prop where
  blk : Blk n P B
  le : K ≤ B.length
  r1 : ∀ s t, s < n → t < n → (P s = P t ↔ P0 s = P0 t ∧ (P0 s ∈ T → hit s = hit t))
  r3 : ∀ s, s < n → P s = P0 s ∨ K ≤ P s
  r4 : ∀ s, s < n → P0 s ∉ T → P s = P0 s

theorem Prog.start {n : Nat} {P : Nat → Nat} {B : List (List Nat)} (h : Blk n P B) (hit : Nat → Bool) : Prog n P B.length hit [] P B :=
  ⟨h, Nat.le_refl _, fun s t _ _ => by simp, fun s _ => .inl rfl, fun s _ _ => rfl⟩

theorem Prog.block {n : Nat} {P0 : Nat → Nat} {K : Nat} {hit : Nat → Bool} {T : List Nat} {P : Nat → Nat} {B : List (List Nat)} (h : Prog n P0 K hit T P B) {b : Nat} (hb : b < K) (hT : b ∉ T) {s : Nat} (hs : s < n) : P s = b ↔ P0 s = b := by
  constructor
  · intro e
    rcases h.r3 s hs with h1 | h1
    · rw [← h1]; exact e
    · omega
  · intro e
    rw [h.r4 s hs (by rw [e]; exact hT), e]

theorem Prog.stays {n : Nat} {P0 : Nat → Nat} {K : Nat} {hit : Nat → Bool} {T : List Nat} {P : Nat → Nat} {B : List (List Nat)} (h : Prog n P0 K hit T P B) {b : Nat} (hb : b < K) (hT : b ∉ T) {l : List Nat} (hl : B[b]? = some l)
    (he : l.filter hit = [] ∨ (l.filter fun s => !hit s) = []) : Prog n P0 K hit (T ++ [b]) P B := by
  refine ⟨h.blk, h.le, fun s t hs ht => ?_, h.r3, fun s hs hn => h.r4 s hs (fun hm => hn (List.mem_append_left _ hm))⟩
  rw [h.r1 s t hs ht]
  constructor
  · rintro ⟨e, h1⟩
    refine ⟨e, fun hm => ?_⟩
    rcases List.mem_append.1 hm with hm | hm
    · exact h1 hm
    · simp at hm
      have h2 := (h.blk.mem b l hl s).2 ⟨hs, (h.block hb hT hs).2 hm⟩
      have h3 := (h.blk.mem b l hl t).2 ⟨ht, (h.block hb hT ht).2 (e ▸ hm)⟩
      rcases he with he | he
      · rw [List.filter_eq_nil_iff] at he
        have := he s h2; have := he t h3
        simp_all
      · rw [List.filter_eq_nil_iff] at he
        have := he s h2; have := he t h3
        simp_all
  · rintro ⟨e, h1⟩
    exact ⟨e, fun hm => h1 (List.mem_append_left _ hm)⟩

theorem Prog.splits {n : Nat} {P0 : Nat → Nat} {K : Nat} {hit : Nat → Bool} {T : List Nat} {P : Nat → Nat} {B : List (List Nat)} (h : Prog n P0 K hit T P B) {b : Nat} (hb : b < K) (hT : b ∉ T) {l : List Nat} (hl : B[b]? = some l)
    (h1 : l.filter hit ≠ []) (h2 : (l.filter fun s => !hit s) ≠ []) : Prog n P0 K hit (T ++ [b]) (moved P (parts hit l).2 B.length) (B.set b (parts hit l).1 ++ [(parts hit l).2]) := by
  obtain ⟨v, p1, p2⟩ := parts_mem hit l
  have hm := h.blk.mem b l hl
  have hle := h.le
  have hin : ∀ s, s ∈ (parts hit l).2 ↔ s < n ∧ P0 s = b ∧ hit s = !v := by
    intro s
    rw [p2, hm]
    constructor
    · rintro ⟨⟨h3, h4⟩, h5⟩; exact ⟨h3, (h.block hb hT h3).1 h4, h5⟩
    · rintro ⟨h3, h4, h5⟩; exact ⟨⟨h3, (h.block hb hT h3).2 h4⟩, h5⟩
  have hnot : ∀ s, s < n → P0 s ≠ b → moved P (parts hit l).2 B.length s = P s ∧ P s ≠ b ∧ P s < B.length := by
    intro s hs e
    refine ⟨by unfold moved; rw [if_neg (by rw [hin]; omega)], fun e' => e ((h.block hb hT hs).1 e'), h.blk.lt s hs⟩
  have hyes : ∀ s, s < n → P0 s = b → moved P (parts hit l).2 B.length s = if hit s = v then b else B.length := by
    intro s hs e
    unfold moved
    by_cases hv : hit s = v
    · rw [if_neg (by rw [hin]; rintro ⟨_, _, h5⟩; rw [hv] at h5; cases v <;> simp at h5), if_pos hv, (h.block hb hT hs).2 e]
    · rw [if_pos ((hin s).2 ⟨hs, e, by cases hh : hit s <;> cases v <;> simp_all⟩), if_neg hv]
  refine ⟨h.blk.split hl h1 h2, by simp; omega, fun s t hs ht => ?_, fun s hs => ?_, fun s hs hn => ?_⟩
  · by_cases e1 : P0 s = b <;> by_cases e2 : P0 t = b
    · rw [hyes s hs e1, hyes t ht e2, e1, e2]
      have hbl := (List.getElem?_eq_some_iff.1 hl).1
      constructor
      · intro e
        refine ⟨rfl, fun _ => ?_⟩
        by_cases q1 : hit s = v <;> by_cases q2 : hit t = v
        · rw [q1, q2]
        · rw [if_pos q1, if_neg q2] at e; omega
        · rw [if_neg q1, if_pos q2] at e; omega
        · cases hh : hit s <;> cases hk : hit t <;> cases v <;> simp_all
      · rintro ⟨_, e⟩
        rw [e (by simp)]
    · obtain ⟨q1, q2, q3⟩ := hnot t ht e2
      rw [hyes s hs e1, q1]
      constructor
      · intro e
        split at e <;> omega
      · rintro ⟨e, _⟩; exact absurd (e.symm.trans e1) e2
    · obtain ⟨q1, q2, q3⟩ := hnot s hs e1
      rw [hyes t ht e2, q1]
      constructor
      · intro e
        split at e <;> omega
      · rintro ⟨e, _⟩; exact absurd (e.trans e2) e1
    · obtain ⟨q1, _, _⟩ := hnot s hs e1
      obtain ⟨q4, _, _⟩ := hnot t ht e2
      rw [q1, q4, h.r1 s t hs ht]
      constructor
      · rintro ⟨e, h3⟩
        refine ⟨e, fun hm => h3 ?_⟩
        rcases List.mem_append.1 hm with hm | hm
        · exact hm
        · simp at hm; exact absurd hm e1
      · rintro ⟨e, h3⟩
        exact ⟨e, fun hm => h3 (List.mem_append_left _ hm)⟩
  · by_cases e1 : P0 s = b
    · rw [hyes s hs e1]
      split
      · exact .inl e1.symm
      · exact .inr (by omega)
    · rw [(hnot s hs e1).1]; exact h.r3 s hs
  · have e1 : P0 s ≠ b := fun e => hn (by simp [e])
    rw [(hnot s hs e1).1]
    exact h.r4 s hs (fun hm => hn (List.mem_append_left _ hm))

/-- all blocks with a state that is hit have been split -/
theorem Prog.all {n : Nat} {P0 : Nat → Nat} {K : Nat} {hit : Nat → Bool} {T : List Nat} {P : Nat → Nat} {B : List (List Nat)} (h : Prog n P0 K hit T P B) (hT : ∀ s, s < n → hit s = true → P0 s ∈ T) :
    ∀ s t, s < n → t < n → (P s = P t ↔ P0 s = P0 t ∧ hit s = hit t) := by
  intro s t hs ht
  rw [h.r1 s t hs ht]
  constructor
  · rintro ⟨e, h1⟩
    refine ⟨e, ?_⟩
    by_cases hm : P0 s ∈ T
    · exact h1 hm
    · have q1 : hit s = false := by cases hh : hit s with | false => rfl | true => exact absurd (hT s hs hh) hm
      have q2 : hit t = false := by cases hh : hit t with | false => rfl | true => exact absurd (e ▸ hT t ht hh) hm
      rw [q1, q2]
  · rintro ⟨e, h1⟩
    exact ⟨e, fun _ => h1⟩
end Go.Proofs.YthnojechejckpaaDoor.LM
