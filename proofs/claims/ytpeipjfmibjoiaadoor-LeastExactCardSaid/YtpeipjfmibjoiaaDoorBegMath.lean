/- Blocks by labels, and of each state and byte those that lead to it: no program in sight. -/
import Derived.Test.YtpeipjfmibjoiaaDoorLeastMath
namespace Go.Proofs.YtpeipjfmibjoiaaDoor.LM

/-- blocks as lists: block b holds just the states whose number is b -/
structure Blk (n : Nat) (P : Nat → Nat) (B : List (List Nat)) : Prop where
  lt : ∀ s, s < n → P s < B.length
  mem : ∀ (b : Nat) (l : List Nat), B[b]? = some l → ∀ s, s ∈ l ↔ s < n ∧ P s = b
  ne : ∀ (b : Nat) (l : List Nat), B[b]? = some l → l ≠ []
  nodup : ∀ (b : Nat) (l : List Nat), B[b]? = some l → l.Nodup

theorem Blk.len {n : Nat} {P : Nat → Nat} {B : List (List Nat)} (h : Blk n P B) {b : Nat} {l : List Nat} (hl : B[b]? = some l) : l.length ≤ n :=
  length_le_of_inj n l (fun s hs => ((h.mem b l hl s).1 hs).1) (h.nodup b l hl)

theorem Blk.count {n : Nat} {P : Nat → Nat} {B : List (List Nat)} (h : Blk n P B) : B.length ≤ n := by
  have := length_le_of_inj n (B.map fun l => l.headD 0) (fun x hx => by
    obtain ⟨l, hl, rfl⟩ := List.mem_map.1 hx
    obtain ⟨b, hb⟩ := List.getElem?_of_mem hl
    cases l with
    | nil => exact absurd rfl (h.ne b _ hb)
    | cons y l => exact ((h.mem b _ hb y).1 (by simp)).1) (by
      refine List.pairwise_iff_getElem.2 fun a b ha hb hab e => ?_
      rw [List.length_map] at ha hb
      rw [List.getElem_map, List.getElem_map] at e
      have h1 := List.getElem?_eq_getElem ha
      have h2 := List.getElem?_eq_getElem hb
      have key : ∀ (c : Nat) (l : List Nat), B[c]? = some l → P (l.headD 0) = c := by
        intro c l hc
        cases l with
        | nil => exact absurd rfl (h.ne c _ hc)
        | cons y l => exact ((h.mem c _ hc y).1 (by simp)).2
      have k1 := key a _ h1
      have k2 := key b _ h2
      rw [e] at k1
      omega)
  simpa using this

/-- the two parts of a block: what stays, and what moves -/
def parts (hit : Nat → Bool) (l : List Nat) : List Nat × List Nat :=
  let i := l.filter hit
  let o := l.filter fun s => !hit s
  if o.length < i.length then (i, o) else (o, i)

theorem parts_mem (hit : Nat → Bool) (l : List Nat) : ∃ v : Bool, (∀ s, s ∈ (parts hit l).1 ↔ s ∈ l ∧ hit s = v) ∧ (∀ s, s ∈ (parts hit l).2 ↔ s ∈ l ∧ hit s = !v) := by
  unfold parts
  simp only
  split
  · refine ⟨true, fun s => by simp [List.mem_filter], fun s => by simp [List.mem_filter]⟩
  · refine ⟨false, fun s => by simp [List.mem_filter], fun s => by simp [List.mem_filter]⟩
theorem parts_nodup {hit : Nat → Bool} {l : List Nat} (h : l.Nodup) : (parts hit l).1.Nodup ∧ (parts hit l).2.Nodup := by
  unfold parts
  simp only
  split
  · exact ⟨h.filter _, h.filter _⟩
  · exact ⟨h.filter _, h.filter _⟩
theorem parts_nil {hit : Nat → Bool} {l : List Nat} (h1 : l.filter hit ≠ []) (h2 : (l.filter fun s => !hit s) ≠ []) : (parts hit l).1 ≠ [] ∧ (parts hit l).2 ≠ [] := by
  unfold parts
  simp only
  split
  · exact ⟨h1, h2⟩
  · exact ⟨h2, h1⟩

def moved (P : Nat → Nat) (m : List Nat) (k : Nat) (s : Nat) : Nat := if s ∈ m then k else P s

theorem Blk.split {n : Nat} {P : Nat → Nat} {B : List (List Nat)} (h : Blk n P B) {b : Nat} {l : List Nat} (hb : B[b]? = some l) {hit : Nat → Bool} (h1 : l.filter hit ≠ []) (h2 : (l.filter fun s => !hit s) ≠ []) :
    Blk n (moved P (parts hit l).2 B.length) (B.set b (parts hit l).1 ++ [(parts hit l).2]) := by
  obtain ⟨v, p1, p2⟩ := parts_mem hit l
  have hn := parts_nodup (hit := hit) (h.nodup b l hb)
  have he := parts_nil h1 h2
  have hbl := (List.getElem?_eq_some_iff.1 hb).1
  have hm := h.mem b l hb
  have hcase : ∀ (c : Nat) (m : List Nat), (B.set b (parts hit l).1 ++ [(parts hit l).2])[c]? = some m → (c = b ∧ m = (parts hit l).1) ∨ (c ≠ b ∧ c < B.length ∧ B[c]? = some m) ∨ (c = B.length ∧ m = (parts hit l).2) := by
    intro c m hc
    rw [List.getElem?_append] at hc
    split at hc
    · rename_i hlt
      rw [List.length_set] at hlt
      rw [List.getElem?_set] at hc
      split at hc
      · rename_i e
        subst e
        try rw [if_pos hlt] at hc
        simp at hc
        exact .inl ⟨rfl, hc.symm⟩
      · rename_i e
        exact .inr (.inl ⟨fun e' => e e'.symm, hlt, hc⟩)
    · rename_i hlt
      have hj := (List.getElem?_eq_some_iff.1 hc).1
      simp at hj hlt
      have e : c = B.length := by omega
      subst e
      simp at hc
      exact .inr (.inr ⟨rfl, hc.symm⟩)
  refine ⟨fun s hs => ?_, fun c m hc s => ?_, fun c m hc => ?_, fun c m hc => ?_⟩
  · have := h.lt s hs
    simp [moved]; split <;> omega
  · rcases hcase c m hc with ⟨rfl, rfl⟩ | ⟨e, hlt, hc'⟩ | ⟨rfl, rfl⟩
    · rw [p1, hm]
      unfold moved
      constructor
      · rintro ⟨⟨h3, h4⟩, h5⟩
        rw [if_neg (by rw [p2]; intro h6; rw [h5] at h6; cases v <;> simp at h6)]
        exact ⟨h3, h4⟩
      · rintro ⟨h3, h4⟩
        split at h4
        · omega
        · rename_i h6
          have h7 := (hm s).2 ⟨h3, h4⟩
          refine ⟨⟨h3, h4⟩, ?_⟩
          rw [p2] at h6
          cases hv : hit s <;> cases v <;> simp_all
    · rw [h.mem c m hc' s]
      unfold moved
      constructor
      · rintro ⟨h3, h4⟩
        rw [if_neg (by rw [p2, hm]; omega)]
        exact ⟨h3, h4⟩
      · rintro ⟨h3, h4⟩
        split at h4
        · omega
        · exact ⟨h3, h4⟩
    · unfold moved
      constructor
      · intro h3
        rw [if_pos h3]
        exact ⟨((hm s).1 ((p2 s).1 h3).1).1, rfl⟩
      · rintro ⟨h3, h4⟩
        split at h4
        · rename_i h5; exact h5
        · have := h.lt s h3; omega
  · rcases hcase c m hc with ⟨rfl, rfl⟩ | ⟨e, hlt, hc'⟩ | ⟨rfl, rfl⟩
    · exact he.1
    · exact h.ne c m hc'
    · exact he.2
  · rcases hcase c m hc with ⟨rfl, rfl⟩ | ⟨e, hlt, hc'⟩ | ⟨rfl, rfl⟩
    · exact hn.1
    · exact h.nodup c m hc'
    · exact hn.2

/-- the blocks in T have been split; P0 and K: what was before -/
structure Prog (n : Nat) (P0 : Nat → Nat) (K : Nat) (hit : Nat → Bool) (T : List Nat) (P : Nat → Nat) (B : List (List Nat)) : Prop where
  blk : Blk n P B
  le : K ≤ B.length
  r1 : ∀ s t, s < n → t < n → (P s = P t ↔ P0 s = P0 t ∧ (P0 s ∈ T → hit s = hit t))
  r3 : ∀ s, s < n → P s = P0 s ∨ K ≤ P s
  r4 : ∀ s, s < n → P0 s ∉ T → P s = P0 s

theorem Prog.start {n : Nat} {P : Nat → Nat} {B : List (List Nat)} (h : Blk n P B) (hit : Nat → Bool) : Prog n P B.length hit [] P B :=
  ⟨h, Nat.le_refl _, fun s t _ _ => by simp, fun s _ => .inl rfl, fun s _ _ => rfl⟩

theorem Prog.block {n : Nat} {P0 : Nat → Nat} {K : Nat} {hit : Nat → Bool} {T : List Nat} {P : Nat → Nat} {B : List (List Nat)} (h : Prog n P0 K hit T P B) {b : Nat} (hb : b < K) (hT : b ∉ T) {s : Nat} (hs : s < n) : P s = b ↔ P0 s = b := by
  constructor
  · intro e
    rcases h.r3 s hs with h1 | h1
    · rw [← h1]; exact e
    · omega
  · intro e
    rw [h.r4 s hs (by rw [e]; exact hT), e]

theorem Prog.stays {n : Nat} {P0 : Nat → Nat} {K : Nat} {hit : Nat → Bool} {T : List Nat} {P : Nat → Nat} {B : List (List Nat)} (h : Prog n P0 K hit T P B) {b : Nat} (hb : b < K) (hT : b ∉ T) {l : List Nat} (hl : B[b]? = some l)
    (he : l.filter hit = [] ∨ (l.filter fun s => !hit s) = []) : Prog n P0 K hit (T ++ [b]) P B := by
  refine ⟨h.blk, h.le, fun s t hs ht => ?_, h.r3, fun s hs hn => h.r4 s hs (fun hm => hn (List.mem_append_left _ hm))⟩
  rw [h.r1 s t hs ht]
  constructor
  · rintro ⟨e, h1⟩
    refine ⟨e, fun hm => ?_⟩
    rcases List.mem_append.1 hm with hm | hm
    · exact h1 hm
    · simp at hm
      have h2 := (h.blk.mem b l hl s).2 ⟨hs, (h.block hb hT hs).2 hm⟩
      have h3 := (h.blk.mem b l hl t).2 ⟨ht, (h.block hb hT ht).2 (e ▸ hm)⟩
      rcases he with he | he
      · rw [List.filter_eq_nil_iff] at he
        have := he s h2; have := he t h3
        simp_all
      · rw [List.filter_eq_nil_iff] at he
        have := he s h2; have := he t h3
        simp_all
  · rintro ⟨e, h1⟩
    exact ⟨e, fun hm => h1 (List.mem_append_left _ hm)⟩

theorem Prog.splits {n : Nat} {P0 : Nat → Nat} {K : Nat} {hit : Nat → Bool} {T : List Nat} {P : Nat → Nat} {B : List (List Nat)} (h : Prog n P0 K hit T P B) {b : Nat} (hb : b < K) (hT : b ∉ T) {l : List Nat} (hl : B[b]? = some l)
    (h1 : l.filter hit ≠ []) (h2 : (l.filter fun s => !hit s) ≠ []) : Prog n P0 K hit (T ++ [b]) (moved P (parts hit l).2 B.length) (B.set b (parts hit l).1 ++ [(parts hit l).2]) := by
  obtain ⟨v, p1, p2⟩ := parts_mem hit l
  have hm := h.blk.mem b l hl
  have hle := h.le
  have hin : ∀ s, s ∈ (parts hit l).2 ↔ s < n ∧ P0 s = b ∧ hit s = !v := by
    intro s
    rw [p2, hm]
    constructor
    · rintro ⟨⟨h3, h4⟩, h5⟩; exact ⟨h3, (h.block hb hT h3).1 h4, h5⟩
    · rintro ⟨h3, h4, h5⟩; exact ⟨⟨h3, (h.block hb hT h3).2 h4⟩, h5⟩
  have hnot : ∀ s, s < n → P0 s ≠ b → moved P (parts hit l).2 B.length s = P s ∧ P s ≠ b ∧ P s < B.length := by
    intro s hs e
    refine ⟨by unfold moved; rw [if_neg (by rw [hin]; omega)], fun e' => e ((h.block hb hT hs).1 e'), h.blk.lt s hs⟩
  have hyes : ∀ s, s < n → P0 s = b → moved P (parts hit l).2 B.length s = if hit s = v then b else B.length := by
    intro s hs e
    unfold moved
    by_cases hv : hit s = v
    · rw [if_neg (by rw [hin]; rintro ⟨_, _, h5⟩; rw [hv] at h5; cases v <;> simp at h5), if_pos hv, (h.block hb hT hs).2 e]
    · rw [if_pos ((hin s).2 ⟨hs, e, by cases hh : hit s <;> cases v <;> simp_all⟩), if_neg hv]
  refine ⟨h.blk.split hl h1 h2, by simp; omega, fun s t hs ht => ?_, fun s hs => ?_, fun s hs hn => ?_⟩
  · by_cases e1 : P0 s = b <;> by_cases e2 : P0 t = b
    · rw [hyes s hs e1, hyes t ht e2, e1, e2]
      have hbl := (List.getElem?_eq_some_iff.1 hl).1
      constructor
      · intro e
        refine ⟨rfl, fun _ => ?_⟩
        by_cases q1 : hit s = v <;> by_cases q2 : hit t = v
        · rw [q1, q2]
        · rw [if_pos q1, if_neg q2] at e; omega
        · rw [if_neg q1, if_pos q2] at e; omega
        · cases hh : hit s <;> cases hk : hit t <;> cases v <;> simp_all
      · rintro ⟨_, e⟩
        rw [e (by simp)]
    · obtain ⟨q1, q2, q3⟩ := hnot t ht e2
      rw [hyes s hs e1, q1]
      constructor
      · intro e
        split at e <;> omega
      · rintro ⟨e, _⟩; exact absurd (e.symm.trans e1) e2
    · obtain ⟨q1, q2, q3⟩ := hnot s hs e1
      rw [hyes t ht e2, q1]
      constructor
      · intro e
        split at e <;> omega
      · rintro ⟨e, _⟩; exact absurd (e.trans e2) e1
    · obtain ⟨q1, _, _⟩ := hnot s hs e1
      obtain ⟨q4, _, _⟩ := hnot t ht e2
      rw [q1, q4, h.r1 s t hs ht]
      constructor
      · rintro ⟨e, h3⟩
        refine ⟨e, fun hm => h3 ?_⟩
        rcases List.mem_append.1 hm with hm | hm
        · exact hm
        · simp at hm; exact absurd hm e1
      · rintro ⟨e, h3⟩
        exact ⟨e, fun hm => h3 (List.mem_append_left _ hm)⟩
  · by_cases e1 : P0 s = b
    · rw [hyes s hs e1]
      split
      · exact .inl e1.symm
      · exact .inr (by omega)
    · rw [(hnot s hs e1).1]; exact h.r3 s hs
  · have e1 : P0 s ≠ b := fun e => hn (by simp [e])
    rw [(hnot s hs e1).1]
    exact h.r4 s hs (fun hm => hn (List.mem_append_left _ hm))

/-- all blocks with a state that is hit have been split -/
theorem Prog.all {n : Nat} {P0 : Nat → Nat} {K : Nat} {hit : Nat → Bool} {T : List Nat} {P : Nat → Nat} {B : List (List Nat)} (h : Prog n P0 K hit T P B) (hT : ∀ s, s < n → hit s = true → P0 s ∈ T) :
    ∀ s t, s < n → t < n → (P s = P t ↔ P0 s = P0 t ∧ hit s = hit t) := by
  intro s t hs ht
  rw [h.r1 s t hs ht]
  constructor
  · rintro ⟨e, h1⟩
    refine ⟨e, ?_⟩
    by_cases hm : P0 s ∈ T
    · exact h1 hm
    · have q1 : hit s = false := by cases hh : hit s with | false => rfl | true => exact absurd (hT s hs hh) hm
      have q2 : hit t = false := by cases hh : hit t with | false => rfl | true => exact absurd (e ▸ hT t ht hh) hm
      rw [q1, q2]
  · rintro ⟨e, h1⟩
    exact ⟨e, fun _ => h1⟩
end Go.Proofs.YtpeipjfmibjoiaaDoor.LM

namespace Go.Proofs.YtpeipjfmibjoiaaDoor.LM

/-- the first k states have been put into blocks by their labels -/
structure ByLab (lb : Nat → Int) (k : Nat) (P : Nat → Nat) (B : List (List Nat)) (F : Int → Option Nat) : Prop where
  blk : Blk k P B
  look : ∀ s, s < k → F (lb s) = some (P s)
  back : ∀ x b, F x = some b → b < B.length ∧ ∀ s, s < k → P s = b → lb s = x

theorem ByLab.nil (lb : Nat → Int) (P : Nat → Nat) : ByLab lb 0 P [] (fun _ => none) :=
  ⟨⟨fun s hs => absurd hs (Nat.not_lt_zero _), fun b l h => by simp at h, fun b l h => by simp at h, fun b l h => by simp at h⟩, fun s hs => absurd hs (Nat.not_lt_zero _), fun x b h => by cases h⟩

theorem ByLab.old {lb : Nat → Int} {k : Nat} {P : Nat → Nat} {B : List (List Nat)} {F : Int → Option Nat} (h : ByLab lb k P B F) {b : Nat} {l : List Nat} (hF : F (lb k) = some b) (hl : B[b]? = some l) :
    ByLab lb (k + 1) (fun s => if s = k then b else P s) (B.set b (l ++ [k])) F := by
  have hb := (List.getElem?_eq_some_iff.1 hl).1
  have hm := h.blk.mem b l hl
  refine ⟨⟨fun s hs => ?_, fun c m hc s => ?_, fun c m hc => ?_, fun c m hc => ?_⟩, fun s hs => ?_, fun x c hx => ?_⟩
  · rw [List.length_set]
    by_cases e : s = k
    · rw [if_pos e]; exact hb
    · rw [if_neg e]; exact h.blk.lt s (by omega)
  · rw [List.getElem?_set] at hc
    split at hc
    · rename_i e
      subst e
      try rw [if_pos hb] at hc
      simp at hc
      subst hc
      rw [List.mem_append, List.mem_singleton, hm]
      by_cases e : s = k
      · simp [e]
      · simp only [e, or_false, if_false]; constructor
        · rintro ⟨h1, h2⟩; exact ⟨by omega, h2⟩
        · rintro ⟨h1, h2⟩; exact ⟨by omega, h2⟩
    · rename_i e
      rw [h.blk.mem c m hc]
      by_cases e' : s = k
      · subst e'; simp; exact fun e3 => absurd e3 e
      · simp only [e', if_false]; constructor
        · rintro ⟨h1, h2⟩; exact ⟨by omega, h2⟩
        · rintro ⟨h1, h2⟩; exact ⟨by omega, h2⟩
  · rw [List.getElem?_set] at hc
    split at hc
    · try rw [if_pos hb] at hc
      simp at hc
      subst hc; simp
    · exact h.blk.ne c m hc
  · rw [List.getElem?_set] at hc
    split at hc
    · try rw [if_pos hb] at hc
      simp at hc
      subst hc
      refine List.nodup_append.2 ⟨h.blk.nodup b l hl, by simp, fun x hx y hy e => ?_⟩
      rw [List.mem_singleton] at hy
      subst hy; subst e
      have := ((hm x).1 hx).1; omega
    · exact h.blk.nodup c m hc
  · by_cases e : s = k
    · rw [if_pos e, e]; exact hF
    · rw [if_neg e]; exact h.look s (by omega)
  · have h1 := h.back x c hx
    refine ⟨by rw [List.length_set]; exact h1.1, fun s hs hP => ?_⟩
    by_cases e : s = k
    · simp only [e, if_true] at hP ⊢
      subst hP
      -- a state of block b has both labels
      obtain ⟨y, hy⟩ : ∃ y, y ∈ l := by
        cases hl' : l with
        | nil => exact absurd hl' (h.blk.ne _ _ hl)
        | cons y _ => exact ⟨y, by simp⟩
      have h2 := (hm y).1 hy
      exact ((h.back _ _ hF).2 y h2.1 h2.2).symm.trans (h1.2 y h2.1 h2.2)
    · simp only [e, if_false] at hP
      exact h1.2 s (by omega) hP

theorem ByLab.new {lb : Nat → Int} {k : Nat} {P : Nat → Nat} {B : List (List Nat)} {F : Int → Option Nat} (h : ByLab lb k P B F) (hF : F (lb k) = none) :
    ByLab lb (k + 1) (fun s => if s = k then B.length else P s) (B ++ [[k]]) (fun x => if x = lb k then some B.length else F x) := by
  have hcase : ∀ (c : Nat) (m : List Nat), (B ++ [[k]])[c]? = some m → (c < B.length ∧ B[c]? = some m) ∨ (c = B.length ∧ m = [k]) := by
    intro c m hc
    rw [List.getElem?_append] at hc
    split at hc
    · rename_i hlt; exact .inl ⟨hlt, hc⟩
    · have hj := (List.getElem?_eq_some_iff.1 hc).1
      simp at hj
      rename_i hlt
      have e : c = B.length := by omega
      subst e
      simp at hc
      exact .inr ⟨rfl, hc.symm⟩
  refine ⟨⟨fun s hs => ?_, fun c m hc s => ?_, fun c m hc => ?_, fun c m hc => ?_⟩, fun s hs => ?_, fun x c hx => ?_⟩
  · rw [List.length_append]
    by_cases e : s = k
    · simp [e]
    · rw [if_neg e]; have := h.blk.lt s (by omega); omega
  · rcases hcase c m hc with ⟨h1, h2⟩ | ⟨rfl, rfl⟩
    · rw [h.blk.mem c m h2]
      by_cases e' : s = k
      · subst e'; simp; omega
      · simp only [e', if_false]; constructor
        · rintro ⟨h1, h2⟩; exact ⟨by omega, h2⟩
        · rintro ⟨h1, h2⟩; exact ⟨by omega, h2⟩
    · rw [List.mem_singleton]
      by_cases e' : s = k
      · simp [e']
      · simp only [e', if_false, false_iff]
        rintro ⟨h1, h2⟩
        have := h.blk.lt s (by omega); omega
  · rcases hcase c m hc with ⟨h1, h2⟩ | ⟨rfl, rfl⟩
    · exact h.blk.ne c m h2
    · simp
  · rcases hcase c m hc with ⟨h1, h2⟩ | ⟨rfl, rfl⟩
    · exact h.blk.nodup c m h2
    · simp
  · by_cases e : s = k
    · simp [e]
    · rw [if_neg e]
      have h1 := h.look s (by omega)
      rw [if_neg (by intro e2; rw [e2, hF] at h1; cases h1)]
      exact h1
  · by_cases e : x = lb k
    · rw [if_pos e] at hx
      simp at hx
      subst hx
      refine ⟨by simp, fun s hs hP => ?_⟩
      by_cases e' : s = k
      · rw [e', e]
      · rw [if_neg e'] at hP
        have := h.blk.lt s (by omega); omega
    · rw [if_neg e] at hx
      have h1 := h.back x c hx
      refine ⟨by simp; omega, fun s hs hP => ?_⟩
      by_cases e' : s = k
      · rw [if_pos e'] at hP; omega
      · rw [if_neg e'] at hP
        exact h1.2 s (by omega) hP

theorem ByLab.iff {lb : Nat → Int} {k : Nat} {P : Nat → Nat} {B : List (List Nat)} {F : Int → Option Nat} (h : ByLab lb k P B F) {s t : Nat} (hs : s < k) (ht : t < k) : P s = P t ↔ lb s = lb t := by
  have h1 := h.look s hs
  have h2 := h.look t ht
  constructor
  · intro e
    exact ((h.back _ _ h1).2 t ht e.symm).symm
  · intro e
    rw [e, h2] at h1
    simpa using h1.symm

/-- those of the first n states that lead to t by a -/
def preL (A : Aut) (n t a : Nat) : List Nat := (List.range n).filter fun p => A.nx p a == t
theorem preL_zero (A : Aut) (t a : Nat) : preL A 0 t a = [] := rfl
theorem preL_succ (A : Aut) (n t a : Nat) : preL A (n + 1) t a = if A.nx n a = t then preL A n t a ++ [n] else preL A n t a := by
  unfold preL
  rw [List.range_succ, List.filter_append]
  by_cases e : A.nx n a = t
  · simp [e]
  · simp [e]
theorem mem_preL {A : Aut} {n t a p : Nat} : p ∈ preL A n t a ↔ p < n ∧ A.nx p a = t := by simp [preL, List.mem_filter]
theorem preL_len (A : Aut) (n t a : Nat) : (preL A n t a).length ≤ n := by
  have := List.length_filter_le (fun p => A.nx p a == t) (List.range n)
  simpa [preL] using this

/-- in the middle of row s: the bytes below c have been gone over -/
def preM (A : Aut) (s c t a : Nat) : List Nat := if a < c then preL A (s + 1) t a else preL A s t a
theorem preM_step (A : Aut) (s c t a : Nat) : preM A s (c + 1) t a = if a = c ∧ t = A.nx s c then preM A s c t a ++ [s] else preM A s c t a := by
  unfold preM
  by_cases e : a = c
  · subst e
    rw [if_pos (Nat.lt_succ_self a), if_neg (Nat.lt_irrefl a), preL_succ]
    by_cases e2 : A.nx s a = t
    · rw [if_pos e2, if_pos ⟨rfl, e2.symm⟩]
    · rw [if_neg e2, if_neg (fun (h : a = a ∧ t = A.nx s a) => e2 h.2.symm)]
  · rw [if_neg (fun (h : a = c ∧ t = A.nx s c) => e h.1)]
    by_cases e2 : a < c
    · rw [if_pos (Nat.lt_succ_of_lt e2), if_pos e2]
    · rw [if_neg (show ¬ a < c + 1 by omega), if_neg e2]
theorem preM_zero (A : Aut) (s t a : Nat) : preM A s 0 t a = preL A s t a := if_neg (by omega)
theorem preM_full (A : Aut) (s t a : Nat) (ha : a < 256) : preM A s 256 t a = preL A (s + 1) t a := if_pos ha
theorem preM_len (A : Aut) (s c t a : Nat) : (preM A s c t a).length ≤ s + 1 := by
  unfold preM
  split
  · exact preL_len _ _ _ _
  · have := preL_len A s t a; omega
end Go.Proofs.YtpeipjfmibjoiaaDoor.LM
