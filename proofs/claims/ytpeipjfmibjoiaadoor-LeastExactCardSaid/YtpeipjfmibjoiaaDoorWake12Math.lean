/- The automaton of wakes in layer 12: its classes and its least automaton. -/
import Derived.Test.YtpeipjfmibjoiaaDoorOwn
import Derived.Test.YtpeipjfmibjoiaaDoorLeastS
namespace Go.Proofs.YtpeipjfmibjoiaaDoor
open Go.RowKit

def row12 (n : Int) : List Int := List.replicate 256 n
theorem row12_get (n : Int) (i : Nat) (h : i < 256) : (row12 n).getD i 0 = n := by
  rw [row12, List.getD_eq_getElem?_getD, List.getElem?_replicate, if_pos h]; rfl
theorem row12_length (n : Int) : (row12 n).length = 256 := List.length_replicate

set_option maxRecDepth 100000 in
set_option maxHeartbeats 1000000 in
theorem row12_c (n : Int) (w : World) :
    Calls Tryd.prog 102 #[.int .i64 n] w fun e w' => e = .returned (.slice (some ⟨w.heap.size, 0, none⟩) 256 256) ∧ Ext w w' ∧ w'.rowIs w.heap.size 3 256 (fun i => .int .i64 ((row12 n).getD i 0)) := by
  have hmk : (Instr.makeSlice 23 (.int .i64 256) (.int .i64 256)).run Tryd.prog w = .ok (.slice (some ⟨w.heap.size, 0, none⟩) 256 256) (w.alloc (.cells (madeCells #[.int .i64 0] 256) 3)) :=
    run_make_any (P := Tryd.prog) 23 3 (.int .i64 0) 1 8 Tryd.underlying23 int_info .i64 .i64 256 (by omega) (by omega) w
  go_enter Tryd.func102, Tryd.ntmps102
  go_wp2
  clear hmk
  go_loopw [4] (fun i wr => ∃ k : Nat, k ≤ 256 ∧ i = .int .i64 k ∧ Ext w wr ∧ wr.rowIs w.heap.size 3 256 (fun i => .int .i64 (if i < k then n else 0))) (fun i _ => 256 - (intOf i).toNat)
  case atStart =>
    refine ⟨0, Nat.zero_le _, rfl, Ext.box _ _, ?_⟩
    exact (World.rowIs_made w _ 256 3).congr (fun j _ => by simp)
  case round =>
    obtain ⟨k, hk, rfl, hx, hr⟩ := hrel
    by_cases hlt : k < 256
    · have c1 := hr.cell hlt
      have f1 := hr.frozen k
      have C1 := Lib.hid c1
      clear c1
      have c2 : ∃ v, wr.cell? ⟨w.heap.size, k, none⟩ = some v := ⟨_, C1.out⟩
      obtain ⟨v0, c3⟩ := c2
      go_wp2
      go_roundw
      case rel => exact ⟨k + 1, by omega, by go_num, hx.setCell (Nat.le_refl _) _, (hr.set k _).congr (fun j _ => by
        by_cases e : j = k
        · rw [if_pos e, if_pos (by omega)]
        · rw [if_neg e]
          by_cases h : j < k
          · rw [if_pos h, if_pos (by omega)]
          · rw [if_neg h, if_neg (by omega)])⟩
      case measure => simp [intOf]; omega
    · obtain rfl : k = 256 := by omega
      go_wp2
      go_ret
      exact ⟨rfl, hx, hr.congr (fun j hj => by rw [row12_get n j hj, if_pos hj])⟩
end Go.Proofs.YtpeipjfmibjoiaaDoor

namespace Go.Proofs.YtpeipjfmibjoiaaDoor

def wakeD : Dn := ⟨[row12 1, row12 2, row12 1], [-1, 0, 0]⟩
def wakeL : Dn := ⟨[row12 1, row12 1], [-1, 0]⟩

theorem wake_row (i : Nat) (h : i < 3) : wakeD.next.getD i [] = row12 (if i = 1 then 2 else 1) := by
  match i, h with
  | 0, _ => rfl
  | 1, _ => rfl
  | 2, _ => rfl
theorem wake_nx (s c : Nat) (hs : s < 3) (hc : c < 256) : wakeD.nx s c = if s = 1 then 2 else 1 := by
  unfold Dn.nx
  rw [wake_row s hs, row12_get _ _ hc]
  split <;> rfl
theorem wake_may : May wakeD := by
  refine ⟨by simp [wakeD], by simp [wakeD], rfl, fun i hi => ?_, fun i hi => ?_, fun i c hi hc => ?_⟩
  · rw [wake_row i hi, row12_length]
  · match i, hi with
    | 0, _ => exact ⟨by decide, by decide⟩
    | 1, _ => exact ⟨by decide, by decide⟩
    | 2, _ => exact ⟨by decide, by decide⟩
  · rw [wake_row i hi, row12_get _ _ hc]
    show _ ∧ _ < ((3 : Nat) : Int)
    split <;> omega

theorem wake_lb (s : Nat) (hs : s < 3) : wakeD.aut.lb s = if s = 0 then -1 else 0 := by
  match s, hs with
  | 0, _ => rfl
  | 1, _ => rfl
  | 2, _ => rfl
theorem wake_run : ∀ (w : List Nat) (s : Nat), 0 < s → s < 3 → LM.Bytes w → 0 < wakeD.aut.run s w ∧ wakeD.aut.run s w < 3
  | [], s, h1, h2, _ => ⟨h1, h2⟩
  | c :: w, s, h1, h2, hw => by
    rw [LM.Aut.run_cons]
    have h3 : wakeD.aut.nx s c = if s = 1 then 2 else 1 := wake_nx s c h2 (hw c (by simp))
    refine wake_run w _ ?_ ?_ (fun d hd => hw d (List.mem_cons_of_mem _ hd))
    · rw [h3]; split <;> omega
    · rw [h3]; split <;> omega

section
variable {P : Nat → Nat} (hT : LM.Tells wakeD.aut P)
include hT
theorem wake_01 : P 0 ≠ P 1 := fun e => by
  have h := ((hT 0 1 (by decide) (by decide)).1 e).lb
  rw [wake_lb 0 (by omega), wake_lb 1 (by omega)] at h
  simp at h
theorem wake_12 : P 1 = P 2 := (hT 1 2 (by decide) (by decide)).2 fun w hw => by
  have h1 := wake_run w 1 (by omega) (by omega) hw
  have h2 := wake_run w 2 (by omega) (by omega) hw
  rw [wake_lb _ h1.2, wake_lb _ h2.2, if_neg (by omega), if_neg (by omega)]
theorem wake_num (s : Nat) (hs : s < 3) : LM.num P s = if s = 0 then 0 else 1 := by
  have h := LM.num_congr (P := P) (Q := fun s => if s = 0 then 0 else 1) (m := 3) (fun s t h1 h2 => by
    have e1 := wake_01 hT
    have e2 := wake_12 hT
    match s, t, h1, h2 with
    | 0, 0, _, _ => simp
    | 0, 1, _, _ => simp [e1]
    | 0, 2, _, _ => simp [← e2, e1]
    | 1, 0, _, _ => simp [Ne.symm e1]
    | 1, 1, _, _ => simp
    | 1, 2, _, _ => simp [e2]
    | 2, 0, _, _ => simp [← e2, Ne.symm e1]
    | 2, 1, _, _ => simp [e2]
    | 2, 2, _, _ => simp) hs
  rw [h]
  match s, hs with
  | 0, _ => decide
  | 1, _ => decide
  | 2, _ => decide
theorem wake_least : dnOf (LM.least wakeD.aut P) = wakeL := by
  have hA : wakeD.aut.ok := wake_may.ok
  have hI := LM.isLeast hA P
  obtain ⟨reps, hreps⟩ : ∃ r, r = (LM.found wakeD.aut P wakeD.aut.n).1 := ⟨_, rfl⟩
  rw [← hreps] at hI
  have e1 := wake_01 hT
  have e2 := wake_12 hT
  have hP3 : ∀ s, s < 3 → s ≠ 0 → P s = P 1 := fun s h1 h2 => by
    match s, h1 with
    | 0, _ => exact absurd rfl h2
    | 1, _ => rfl
    | 2, _ => exact e2.symm
  have hnx : ∀ s c, s < 3 → c < 256 → P (wakeD.aut.nx s c) = P 1 := fun s c h1 h2 => by
    have h3 : wakeD.aut.nx s c = if s = 1 then 2 else 1 := wake_nx s c h1 h2
    rw [h3]; split
    · exact e2.symm
    · rfl
  have hlt : ∀ j (hj : j < reps.length), reps[j] < 3 := fun j hj => hI.good.lt _ (List.getElem_mem hj)
  have h00 : reps[0]'hI.pos = 0 := (List.getElem?_eq_some_iff.1 hI.first).2
  -- the places of class 1
  have hent : ∀ j s c, reps[j]? = some s → c < 256 → ∃ (row : List Nat) (k : Nat), (LM.least wakeD.aut P).1[j]? = some row ∧ row.length = 256 ∧ row[c]? = some k ∧ ∃ hk : k < reps.length, P (reps[k]'hk) = P 1 := fun j s c hj hc => by
    obtain ⟨row, h1, h2, h3⟩ := hI.row j s hj
    obtain ⟨k, u, h4, h5, h6⟩ := h3 c hc
    obtain ⟨hk, h7⟩ := List.getElem?_eq_some_iff.1 h5
    refine ⟨row, k, h1, h2, h4, hk, ?_⟩
    rw [h7, h6]
    obtain ⟨hj1, hj2⟩ := List.getElem?_eq_some_iff.1 hj
    exact hnx s c (by rw [← hj2]; exact hlt j hj1) hc
  obtain ⟨_, k, _, _, _, hk, hPk⟩ := hent 0 0 0 hI.first (by omega)
  have hk0 : k ≠ 0 := by
    rintro rfl
    rw [h00] at hPk; exact e1 hPk
  have huniq : ∀ j (hj : j < reps.length), j ≠ 0 → j = k := fun j hj h0 => by
    refine hI.good.apart j k hj hk ?_
    have hne : reps[j] ≠ 0 := fun e => by
      refine h0 (hI.good.apart j 0 hj hI.pos ?_)
      rw [e, h00]
    rw [hPk, hP3 _ (hlt j hj) hne]
  have hl2 : reps.length = 2 := by
    have h1 : 1 = k := huniq 1 (by omega) (by omega)
    rcases Nat.lt_or_ge 2 reps.length with h2 | h2
    · have h3 := huniq 2 h2 (by omega); omega
    · omega
  have hk1 : k = 1 := by omega
  subst hk1
  have hrows : ∀ j, j < 2 → (LM.least wakeD.aut P).1[j]? = some (List.replicate 256 1) := fun j hj => by
    have hjr : j < reps.length := by omega
    have hjs : reps[j]? = some reps[j] := List.getElem?_eq_getElem hjr
    obtain ⟨row, h1, h2, h3⟩ := hI.row j _ hjs
    rw [h1]
    congr 1
    refine List.ext_getElem? fun c => ?_
    by_cases hc : c < 256
    · obtain ⟨row', k', h4, _, h5, hk', h6⟩ := hent j _ c hjs hc
      rw [h1] at h4
      simp only [Option.some.injEq] at h4
      subst h4
      rw [h5, List.getElem?_replicate, if_pos hc]
      congr 1
      by_cases h0 : k' = 0
      · subst h0; rw [h00] at h6; exact absurd h6 e1
      · exact huniq k' hk' h0
    · rw [List.getElem?_eq_none (by omega), List.getElem?_eq_none (by rw [List.length_replicate]; omega)]
  have hlen : (LM.least wakeD.aut P).1.length = 2 := by rw [hI.len, hl2]
  have hR : (LM.least wakeD.aut P).1 = [List.replicate 256 1, List.replicate 256 1] := by
    refine List.ext_getElem? fun j => ?_
    match j with
    | 0 => rw [hrows 0 (by omega)]; rfl
    | 1 => rw [hrows 1 (by omega)]; rfl
    | j + 2 => rw [List.getElem?_eq_none (by omega)]; rfl
  have hL : (LM.least wakeD.aut P).2 = [-1, 0] := by
    rw [hI.labels]
    have h1 : reps = [0, reps[1]'hk] := by
      refine List.ext_getElem? fun j => ?_
      match j with
      | 0 => rw [hI.first]; rfl
      | 1 => rw [List.getElem?_eq_getElem hk]; rfl
      | j + 2 => rw [List.getElem?_eq_none (by omega)]; rfl
    have hne : reps[1]'hk ≠ 0 := fun e => by rw [e] at hPk; exact e1 hPk
    rw [h1]
    show [wakeD.aut.lb 0, wakeD.aut.lb _] = _
    rw [wake_lb 0 (by omega), wake_lb _ (hlt 1 hk), if_pos rfl, if_neg hne]
  unfold dnOf
  rw [hR, hL]
  have hr : (List.replicate 256 1).map (fun (n : Nat) => (n : Int)) = row12 1 := by
    refine List.ext_getElem? fun c => ?_
    by_cases hc : c < 256
    · have h1 := row12_get 1 c hc
      rw [List.getD_eq_getElem?_getD] at h1
      have h2 : (row12 1)[c]? = some ((row12 1)[c]'(by rw [row12_length]; exact hc)) := List.getElem?_eq_getElem _
      rw [h2] at h1
      rw [h2, List.getElem?_map, List.getElem?_replicate, if_pos hc]
      simp at h1 ⊢
      exact h1.symm
    · rw [List.getElem?_eq_none (by rw [List.length_map, List.length_replicate]; omega), List.getElem?_eq_none (by rw [row12_length]; omega)]
  show Dn.mk [(List.replicate 256 1).map (fun (n : Nat) => (n : Int)), (List.replicate 256 1).map (fun (n : Nat) => (n : Int))] _ = _
  rw [hr]; rfl
end
end Go.Proofs.YtpeipjfmibjoiaaDoor
