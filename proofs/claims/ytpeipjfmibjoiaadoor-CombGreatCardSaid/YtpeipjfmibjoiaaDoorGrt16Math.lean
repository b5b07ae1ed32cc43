/- CombGreat's rows, as data; the comb of one state and one class. Plain Lean. -/
import Derived.Test.YtpeipjfmibjoiaaDoorCombMath
import Derived.Test.YtpeipjfmibjoiaaDoorTable16
namespace Go.Proofs.YtpeipjfmibjoiaaDoor

/-- an entry of CombGreat's table -/
def grtX (s k : Nat) : Int := (((s * 7 + k * (s % 13 + 1)) % 601 : Nat) : Int) - 1
@[irreducible] def grtRow (s n : Nat) : List Int := (List.range n).map (grtX s)
@[irreducible] def grtRows (n : Nat) : List (List Int) := (List.range n).map fun s => grtRow s 256
theorem grtRow_len (s n : Nat) : (grtRow s n).length = n := by simp [grtRow]
theorem grtRows_len (n : Nat) : (grtRows n).length = n := by simp [grtRows]
theorem grtRow_zero (s : Nat) : grtRow s 0 = [] := by unfold grtRow; rfl
theorem grtRows_zero : grtRows 0 = [] := by unfold grtRows; rfl
theorem grtRow_succ (s n : Nat) : grtRow s (n + 1) = grtRow s n ++ [grtX s n] := by simp [grtRow, List.range_succ]
theorem grtRows_succ (n : Nat) : grtRows (n + 1) = grtRows n ++ [grtRow n 256] := by simp [grtRows, List.range_succ]
theorem grtX_range (s k : Nat) : -1 ≤ grtX s k ∧ grtX s k < 600 := by
  unfold grtX
  have := Nat.mod_lt (s * 7 + k * (s % 13 + 1)) (show 0 < 601 by decide)
  omega
theorem grtRows_get {n s : Nat} (h : s < n) : (grtRows n).getD s [] = grtRow s 256 := by
  unfold grtRows
  rw [List.getD_eq_getElem?_getD, List.getElem?_map, List.getElem?_range h]; rfl
theorem grtRow_get {n s k : Nat} (h : k < n) : (grtRow s n).getD k 0 = grtX s k := by
  unfold grtRow
  rw [List.getD_eq_getElem?_getD, List.getElem?_map, List.getElem?_range h]; rfl
set_option maxRecDepth 10000 in
theorem grt_may : TMay (tabK (grtRows 600) 256) := tabK_may (by omega) (by omega) (by rw [grtRows_len]; omega) (by rw [grtRows_len]; omega)
  (fun i hi => by rw [grtRows_len] at hi; rw [grtRows_get hi, grtRow_len])
  (fun i k hi hk => by
    rw [grtRows_len] at hi ⊢
    have h := grtX_range i k
    rw [grtRows_get hi, grtRow_get hk]
    exact ⟨h.1, by have := h.2; omega⟩)
theorem grt_nx {s k : Nat} (hs : s < 600) (hk : k < 256) : CB.nx (tabK (grtRows 600) 256) s k = grtX s k := by
  show ((grtRows 600).getD s []).getD k 0 = _
  rw [grtRows_get hs, grtRow_get hk]

/-- one state, one class -/
def oneT : Tbl := tabK [[-1]] 1
theorem oneT_may : TMay oneT := tabK_may (by omega) (by omega) (by decide) (by decide)
  (fun i hi => by
    have hi : i < 1 := hi
    obtain rfl : i = 0 := by omega
    rfl)
  (fun i k hi hk => by
    have hi : i < 1 := hi
    obtain rfl : i = 0 := by omega
    obtain rfl : k = 0 := by omega
    decide)
theorem one_comb {C : Cmb} (h : CB.Full oneT C) : C.base = [0] ∧ C.dflt = [-1] ∧ C.check = [] ∧ C.next = [] := by
  have hb : C.base.length = 1 := h.blen
  have hd : C.dflt.length = 1 := h.dlen
  have hd0 : C.dflt.getD 0 0 = -1 := by have h1 := h.dflt 0 (Nat.one_pos); omega
  have hl : CB.liveL oneT 0 (C.dflt.getD 0 0) = [] := by rw [hd0]; rfl
  have hb0 : C.base.getD 0 0 = 0 := by
    have h1 := h.base 0 Nat.one_pos
    rcases Int.lt_or_le 0 (C.base.getD 0 0) with e | e
    · obtain ⟨k, hk, _⟩ := h.tight 0 Nat.one_pos 0 e
      rw [hl] at hk; cases hk
    · omega
  have hn : C.next = [] := by
    rcases h.last with e | e
    · exact List.length_eq_zero_iff.1 e
    · rcases Nat.eq_zero_or_pos C.next.length with e1 | e1
      · exact List.length_eq_zero_iff.1 e1
      · exfalso
        rcases h.slot (C.next.length - 1) (by omega) with ⟨e2, _⟩ | ⟨s, k, hs, hk, _⟩
        · omega
        · obtain rfl : s = 0 := by have : s < 1 := hs; omega
          rw [hl] at hk; cases hk
  have hc : C.check = [] := List.length_eq_zero_iff.1 (by rw [h.clen, hn]; rfl)
  refine ⟨?_, ?_, hc, hn⟩
  · match hC : C.base, hb with
    | [x], _ => rw [hC] at hb0; simp at hb0; rw [hb0]
  · match hC : C.dflt, hd with
    | [x], _ => rw [hC] at hd0; simp at hd0; rw [hd0]
end Go.Proofs.YtpeipjfmibjoiaaDoor
