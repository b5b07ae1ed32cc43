/- A word, its place, and the word at the next place: no program in sight. -/
import Derived.Test.YtpkngnompkdlnaaDoorBetween
namespace Go.Proofs.YtpkngnompkdlnaaDoor
open Go.RowKit

/-- what is known of a word that has been told -/
structure IsNth (d : Dn) (label : Int) (k : Nat) (l : List Nat) : Prop where
  len : l.length ≤ 64
  bytes : ∀ c ∈ l, c < 256
  lb : d.lb (CM.run d.nx 0 l) = label
  place : CM.sumTo (fun n => d.ways label n 0) l.length + CM.rankB d.nx (fun t => d.lb t == label) l 0 = k
  lt : CM.rankB d.nx (fun t => d.lb t == label) l 0 < d.ways label l.length 0

theorem isNth {d : Dn} {label : Int} {k : Nat} (h : (d.nthLen label k).1 < 65) : IsNth d label k (d.nth label (d.nthLen label k).1 0 (d.nthLen label k).2) ∧ (d.nth label (d.nthLen label k).1 0 (d.nthLen label k).2).length = (d.nthLen label k).1 := by
  have hs := CM.pick_spec (fun n => d.ways label n 0) 65 0 k
  simp only [Nat.zero_add, CM.sumTo] at hs
  have hlt := hs.2.2.2 h
  have hn := CM.nthB_spec d.nx (fun t => d.lb t == label) (d.nthLen label k).1 0 (d.nthLen label k).2 hlt
  refine ⟨⟨?_, hn.2.1, ?_, ?_, ?_⟩, hn.1⟩
  · unfold Dn.nth; rw [hn.1]; omega
  · have := hn.2.2.1; simpa [Dn.nth] using this
  · unfold Dn.nth; rw [hn.1, hn.2.2.2]; exact hs.2.2.1.symm
  · unfold Dn.nth; rw [hn.1, hn.2.2.2]; exact hlt

theorem IsNth.total {d : Dn} {label : Int} {k : Nat} {l : List Nat} (h : IsNth d label k l) : d.total label l = k := h.place

theorem lex_irrefl : ∀ l : List Nat, CM.lex l l = false
  | [] => rfl
  | x :: l => by rw [CM.lex, if_pos rfl]; exact lex_irrefl l

theorem next_ahead {d : Dn} {label : Int} {k : Nat} {l m : List Nat} (h : IsNth d label k l) (h' : IsNth d label (k + 1) m) :
    aheadB l m = true ∧ (l.length = m.length → (decide ((CM.succB l).1 = m) || (d.lb (CM.run d.nx 0 (CM.succB l).1) != label)) = true) := by
  have hp := h.place
  have hp' := h'.place
  have hl := h.lt
  have hl' := h'.lt
  by_cases e : l.length = m.length
  · rw [e] at hp hl
    have hlex : CM.lex l m = true := by
      by_cases e2 : l = m
      · rw [e2] at hp; omega
      · rcases CM.lex_total l m e e2 with h1 | h1
        · exact h1
        · have := (CM.rank_mono d.nx (fun t => d.lb t == label) m l 0 e.symm h'.bytes h.bytes h1).2 (by simp [h'.lb])
          omega
    refine ⟨by rw [aheadB, if_pos e]; exact hlex, fun _ => ?_⟩
    by_cases e2 : (CM.succB l).1 = m
    · simp [e2]
    · by_cases e3 : d.lb (CM.run d.nx 0 (CM.succB l).1) = label
      · exfalso
        have h1 := CM.succB_next l m e.symm h.bytes h'.bytes hlex (fun e4 => e2 e4.symm)
        have h2 := (CM.rank_mono d.nx (fun t => d.lb t == label) l (CM.succB l).1 0 (CM.succB_length l).symm h.bytes (CM.succB_bytes l h.bytes) h1.1).2 (by simp [h.lb])
        have h3 := (CM.rank_mono d.nx (fun t => d.lb t == label) (CM.succB l).1 m 0 ((CM.succB_length l).trans e) (CM.succB_bytes l h.bytes) h'.bytes h1.2).2 (by simp [e3])
        omega
      · simp [e3]
  · refine ⟨?_, fun h => absurd h e⟩
    rw [aheadB, if_neg e]
    rcases Nat.lt_or_ge l.length m.length with h1 | h1
    · simp [h1]
    · exfalso
      have := CM.sumTo_succ_le (f := fun n => d.ways label n 0) (a := m.length) (b := l.length) (by omega)
      omega

def NthRes (d : Dn) (label : Int) (k : Nat) (w : World) (v : Value) (there : Bool) (w' : World) : Prop :=
  Ext w w' ∧ (there = false ∨ (there = true ∧ ∃ l, IsNth d label k l ∧ w'.ownsRow w.heap.size 5 1 v l.length (bytesV l)))

theorem nth_r {v : Value} {d : Dn} {w : World} (h : DenseV w v d) (hm : May d) {label : Int} (hl : -1 ≤ label) {k : Nat} (hk : k < 18446744073709551616) :
    Calls Tryd.prog 29 #[v, .int .i64 label, .int .u64 k] w fun e w' => ∃ u there, e = .returned (.tuple #[u, .bool there, .nilIface]) ∧ NthRes d label k w u there w' := by
  refine (nth_c h hm hl hk).mono ?_
  rintro e w' ⟨hx, ⟨_, rfl⟩ | ⟨h65, u, rfl, hown⟩⟩
  · exact ⟨_, _, rfl, hx, .inl rfl⟩
  · have hn := isNth h65
    rw [← hn.2] at hown
    exact ⟨_, _, rfl, hx, .inr ⟨rfl, _, hn.1, by rw [hn.2] at hown ⊢; exact hown⟩⟩
end Go.Proofs.YtpkngnompkdlnaaDoor
