/- Blocks by labels, and of each state and byte those that lead to it: no program in sight. -/
import Derived.Test.YthnojechejckpaaDoorHopMath
namespace Go.Proofs.YthnojechejckpaaDoor.LM

/-- the first k states have been put into blocks by their labels -/
structure ByLab (lb : Nat → Int) (k : Nat) (P : Nat → Nat) (B : List (List Nat)) (F : Int → Option Nat) : Prop where
  blk : Blk k P B
  look : ∀ s, s < k → F (lb s) = some (P s)
  back : ∀ x b, F x = some b → b < B.length ∧ ∀ s, s < k → P s = b → lb s = x

theorem ByLab.nil (lb : Nat → Int) (P : Nat → Nat) : ByLab lb 0 P [] (fun _ => none) :=
  ⟨⟨fun s hs => absurd hs (Nat.not_lt_zero _), fun b l h => by simp at h, fun b l h => by simp at h, fun b l h => by simp at h⟩, fun s hs => absurd hs (Nat.not_lt_zero _), fun x b h => by cases h⟩

theorem ByLab.old {lb : Nat → Int} {k : Nat} {P : Nat → Nat} {B : List (List Nat)} {F : Int → Option Nat} (h : ByLab lb k P B F) {b : Nat} {l : List Nat} (hF : F (lb k) = some b) (hl : B[b]? = some l) :
    ByLab lb (k + 1) (fun s => if s = k then b else P s) (B.set b (l ++ [k])) F := by
  have hb := (List.getElem?_eq_some_iff.1 hl).1
  have hm := h.blk.mem b l hl
  refine ⟨⟨fun s hs => ?_, fun c m hc s => ?_, fun c m hc => ?_, fun c m hc => ?_⟩, fun s hs => ?_, fun x c hx => ?_⟩
  · rw [List.length_set]
    by_cases e : s = k
    · rw [if_pos e]; exact hb
    · rw [if_neg e]; exact h.blk.lt s (by omega)
  · rw [List.getElem?_set] at hc
    split at hc
    · rename_i e
      subst e
      try rw [if_pos hb] at hc
      simp at hc
      subst hc
      rw [List.mem_append, List.mem_singleton, hm]
      by_cases e : s = k
      · simp [e]
      · simp only [e, or_false, if_false]; constructor
        · rintro ⟨h1, h2⟩; exact ⟨by omega, h2⟩
        · rintro ⟨h1, h2⟩; exact ⟨by omega, h2⟩
    · rename_i e
      rw [h.blk.mem c m hc]
      by_cases e' : s = k
      · subst e'; simp; exact fun e3 => absurd e3 e
      · simp only [e', if_false]; constructor
        · rintro ⟨h1, h2⟩; exact ⟨by omega, h2⟩
        · rintro ⟨h1, h2⟩; exact ⟨by omega, h2⟩
  · rw [List.getElem?_set] at hc
    split at hc
    · try rw [if_pos hb] at hc
      simp at hc
      subst hc; simp
    · exact h.blk.ne c m hc
  · rw [List.getElem?_set] at hc
    split at hc
    · try rw [if_pos hb] at hc
      simp at hc
      subst hc
      refine List.nodup_append.2 ⟨h.blk.nodup b l hl, by simp, fun x hx y hy e => ?_⟩
      rw [List.mem_singleton] at hy
      subst hy; subst e
      have := ((hm x).1 hx).1; omega
    · exact h.blk.nodup c m hc
  · by_cases e : s = k
    · rw [if_pos e, e]; exact hF
    · rw [if_neg e]; exact h.look s (by omega)
  · have h1 := h.back x c hx
    refine ⟨by rw [List.length_set]; exact h1.1, fun s hs hP => ?_⟩
    by_cases e : s = k
    · simp only [e, if_true] at hP ⊢
      subst hP
      -- a state of block b has both labels
      obtain ⟨y, hy⟩ : ∃ y, y ∈ l := by
        cases hl' : l with
        | nil => exact absurd hl' (h.blk.ne _ _ hl)
        | cons y _ => exact ⟨y, by simp⟩
      have h2 := (hm y).1 hy
      exact ((h.back _ _ hF).2 y h2.1 h2.2).symm.trans (h1.2 y h2.1 h2.2)
    · simp only [e, if_false] at hP
      exact h1.2 s (by omega) hP

theorem ByLab.new {lb : Nat → Int} {k : Nat} {P : Nat → Nat} {B : List (List Nat)} {F : Int → Option Nat} (h : ByLab lb k P B F) (hF : F (lb k) = none) :
    ByLab lb (k + 1) (fun s => if s = k then B.length else P s) (B ++ [[k]]) (fun x => if x = lb k then some B.length else F x) := by
  have hcase : ∀ (c : Nat) (m : List Nat), (B ++ [[k]])[c]? = some m → (c < B.length ∧ B[c]? = some m) ∨ (c = B.length ∧ m = [k]) := by
    intro c m hc
    rw [List.getElem?_append] at hc
    split at hc
    · rename_i hlt; exact .inl ⟨hlt, hc⟩
    · have hj := (List.getElem?_eq_some_iff.1 hc).1
      simp at hj
      rename_i hlt
      have e : c = B.length := by omega
      subst e
      simp at hc
      exact .inr ⟨rfl, hc.symm⟩
  refine ⟨⟨fun s hs => ?_, fun c m hc s => ?_, fun c m hc => ?_, fun c m hc => ?_⟩, fun s hs => ?_, fun x c hx => ?_⟩
  · rw [List.length_append]
    by_cases e : s = k
    · simp [e]
    · rw [if_neg e]; have := h.blk.lt s (by omega); omega
  · rcases hcase c m hc with ⟨h1, h2⟩ | ⟨rfl, rfl⟩
    · rw [h.blk.mem c m h2]
      by_cases e' : s = k
      · subst e'; simp; omega
      · simp only [e', if_false]; constructor
        · rintro ⟨h1, h2⟩; exact ⟨by omega, h2⟩
        · rintro ⟨h1, h2⟩; exact ⟨by omega, h2⟩
    · rw [List.mem_singleton]
      by_cases e' : s = k
      · simp [e']
      · simp only [e', if_false, false_iff]
        rintro ⟨h1, h2⟩
        have := h.blk.lt s (by omega); omega
  · rcases hcase c m hc with ⟨h1, h2⟩ | ⟨rfl, rfl⟩
    · exact h.blk.ne c m h2
    · simp
  · rcases hcase c m hc with ⟨h1, h2⟩ | ⟨rfl, rfl⟩
    · exact h.blk.nodup c m h2
    · simp
  · by_cases e : s = k
    · simp [e]
    · rw [if_neg e]
      have h1 := h.look s (by omega)
      rw [if_neg (by intro e2; rw [e2, hF] at h1; cases h1)]
      exact h1
  · by_cases e : x = lb k
    · rw [if_pos e] at hx
      simp at hx
      subst hx
      refine ⟨by simp, fun s hs hP => ?_⟩
      by_cases e' : s = k
      · rw [e', e]
      · rw [if_neg e'] at hP
        have := h.blk.lt s (by omega); omega
    · rw [if_neg e] at hx
      have h1 := h.back x c hx
      refine ⟨by simp; omega, fun s hs hP => ?_⟩
      by_cases e' : s = k
      · rw [if_pos e'] at hP; omega
      · rw [if_neg e'] at hP
        exact h1.2 s (by omega) hP

theorem ByLab.iff {lb : Nat → Int} {k : Nat} {P : Nat → Nat} {B : List (List Nat)} {F : Int → Option Nat} (h : ByLab lb k P B F) {s t : Nat} (hs : s < k) (ht : t < k) : P s = P t ↔ lb s = lb t := by
  have h1 := h.look s hs
  have h2 := h.look t ht
  constructor
  · intro e
    exact ((h.back _ _ h1).2 t ht e.symm).symm
  · intro e
    rw [e, h2] at h1
    simpa using h1.symm

/-- those of the first n states that lead to t by a -/
def preL (A : Aut) (n t a : Nat) : List Nat := (List.range n).filter fun p => A.nx p a == t
theorem preL_zero (A : Aut) (t a : Nat) : preL A 0 t a = [] := rfl
theorem preL_succ (A : Aut) (n t a : Nat) : preL A (n + 1) t a = if A.nx n a = t then preL A n t a ++ [n] else preL A n t a := by
  unfold preL
  rw [List.range_succ, List.filter_append]
  by_cases e : A.nx n a = t
  · simp [e]
  · simp [e]
theorem mem_preL {A : Aut} {n t a p : Nat} : p ∈ preL A n t a ↔ p < n ∧ A.nx p a = t := by simp [preL, List.mem_filter]
theorem preL_len (A : Aut) (n t a : Nat) : (preL A n t a).length ≤ n := by
  have := List.length_filter_le (fun p => A.nx p a == t) (List.range n)
  simpa [preL] using this

/-- in the middle of row s: the bytes below c have been gone over -/
def preM (A : Aut) (s c t a : Nat) : List Nat := if a < c then preL A (s + 1) t a else preL A s t a
theorem preM_step (A : Aut) (s c t a : Nat) : preM A s (c + 1) t a = if a = c ∧ t = A.nx s c then preM A s c t a ++ [s] else preM A s c t a := by
  unfold preM
  by_cases e : a = c
  · subst e
    rw [if_pos (Nat.lt_succ_self a), if_neg (Nat.lt_irrefl a), preL_succ]
    by_cases e2 : A.nx s a = t
    · rw [if_pos e2, if_pos ⟨rfl, e2.symm⟩]
    · rw [if_neg e2, if_neg (fun (h : a = a ∧ t = A.nx s a) => e2 h.2.symm)]
  · rw [if_neg (fun (h : a = c ∧ t = A.nx s c) => e h.1)]
    by_cases e2 : a < c
    · rw [if_pos (Nat.lt_succ_of_lt e2), if_pos e2]
    · rw [if_neg (show ¬ a < c + 1 by omega), if_neg e2]
theorem preM_zero (A : Aut) (s t a : Nat) : preM A s 0 t a = preL A s t a := if_neg (by omega)
theorem preM_full (A : Aut) (s t a : Nat) (ha : a < 256) : preM A s 256 t a = preL A (s + 1) t a := if_pos ha
theorem preM_len (A : Aut) (s c t a : Nat) : (preM A s c t a).length ≤ s + 1 := by
  unfold preM
  split
  · exact preL_len _ _ _ _
  · have := preL_len A s t a; omega
end Go.Proofs.YthnojechejckpaaDoor.LM
