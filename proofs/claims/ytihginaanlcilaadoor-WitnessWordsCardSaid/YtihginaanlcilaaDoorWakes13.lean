/- bolterlaw13.row and wakes. -/
import Derived.Test.YtihginaanlcilaaDoorNever1
import Derived.Test.YtihginaanlcilaaDoorWitF
import Derived.Test.YtihginaanlcilaaDoorEqs
import Derived.Lib.SlBytesConst
import Derived.Deep.DeepCutAuto
namespace Go.Proofs.YtihginaanlcilaaDoor
open Go.RowKit

def row13 (n : Int) (b : Nat) (m : Int) : List Int := (List.range 256).map fun i => if i = b then m else n
theorem row13_get (n : Int) (b : Nat) (m : Int) {i : Nat} (h : i < 256) : (row13 n b m).getD i 0 = if i = b then m else n := by
  rw [List.getD_eq_getElem?_getD, row13, List.getElem?_map, List.getElem?_range h]; rfl
theorem row13_len (n : Int) (b : Nat) (m : Int) : (row13 n b m).length = 256 := by simp [row13]

set_option maxRecDepth 100000 in
set_option maxHeartbeats 1000000 in
theorem row13_c (n : Int) (b : Nat) (m : Int) (hb : b < 256) (w : World) :
    Calls Tryd.prog 25 #[.int .i64 n, .int .u8 (b : Int), .int .i64 m] w fun e w' => e = .returned (.slice (some ⟨w.heap.size, 0, none⟩) 256 256) ∧ Ext w w' ∧ w'.rowIs w.heap.size 3 256 (fun i => .int .i64 ((row13 n b m).getD i 0)) := by
  have hmk : (Instr.makeSlice 23 (.int .i64 256) (.int .i64 256)).run Tryd.prog w = .ok (.slice (some ⟨w.heap.size, 0, none⟩) 256 256) (w.alloc (.cells (madeCells #[.int .i64 0] 256) 3)) :=
    run_make_any (P := Tryd.prog) 23 3 (.int .i64 0) 1 8 Tryd.underlying23 int_info .i64 .i64 256 (by omega) (by omega) w
  have hcv : IntKind.i64.wrap (b : Int) = (b : Int) := IntWalk.i64_in _ (by omega)
  have hbi : (b : Int) < 256 := by omega
  go_enter Tryd.func25, Tryd.ntmps25
  go_wp2
  clear hmk
  go_loopw [8] (fun i wr => ∃ k : Nat, k ≤ 256 ∧ i = .int .i64 k ∧ Ext w wr ∧ wr.rowIs w.heap.size 3 256 (fun i => .int .i64 (if i < k then n else 0))) (fun i _ => 256 - (intOf i).toNat)
  case atStart =>
    refine ⟨0, Nat.zero_le _, rfl, Ext.box _ _, ?_⟩
    exact (World.rowIs_made w _ 256 3).congr (fun j _ => by simp)
  case round =>
    obtain ⟨k, hk, rfl, hx, hr⟩ := hrel
    by_cases hlt : k < 256
    · have f1 := hr.frozen k
      obtain ⟨v0, c3⟩ : ∃ v, wr.cell? ⟨w.heap.size, k, none⟩ = some v := ⟨_, hr.cell hlt⟩
      have HX := Lib.hid (And.intro hx hr)
      clear hx hr
      go_wp2
      go_roundw
      case rel => exact ⟨k + 1, by omega, by go_num, HX.out.1.setCell (Nat.le_refl _) _, (HX.out.2.set k _).congr (fun j _ => by
        by_cases e : j = k
        · rw [if_pos e, if_pos (by omega)]
        · rw [if_neg e]
          by_cases h : j < k
          · rw [if_pos h, if_pos (by omega)]
          · rw [if_neg h, if_neg (by omega)])⟩
      case measure => simp [intOf]; omega
    · obtain rfl : k = 256 := by omega
      have f1 := hr.frozen b
      obtain ⟨v0, c3⟩ : ∃ v, wr.cell? ⟨w.heap.size, b, none⟩ = some v := ⟨_, hr.cell hb⟩
      have HX := Lib.hid (And.intro hx hr)
      clear hx hr hlt
      go_wp2
      go_ret
      exact ⟨rfl, HX.out.1.setCell (Nat.le_refl _) _, (HX.out.2.set b _).congr fun j hj => by
        rw [row13_get _ _ _ hj]
        by_cases e : j = b
        · rw [if_pos e, if_pos e]
        · rw [if_neg e, if_neg e, if_pos hj]⟩

/-- the automaton of the word ab -/
def abD : Dn := { next := [row13 1 97 2, row13 1 97 1, row13 1 98 3, row13 1 97 1], label := [-1, -1, -1, 0] }
theorem abD_len : abD.next.length = 4 := rfl
theorem abD_row {i : Nat} (hi : i < 4) : ∃ b m, b < 256 ∧ (m = 1 ∨ m = 2 ∨ m = 3) ∧ abD.next.getD i [] = row13 1 b m := by
  match i, hi with
  | 0, _ => exact ⟨97, 2, by omega, by omega, rfl⟩
  | 1, _ => exact ⟨97, 1, by omega, by omega, rfl⟩
  | 2, _ => exact ⟨98, 3, by omega, by omega, rfl⟩
  | 3, _ => exact ⟨97, 1, by omega, by omega, rfl⟩
theorem abD_may : May abD := by
  refine ⟨by rw [abD_len]; omega, by rw [abD_len]; omega, rfl, fun i hi => ?_, fun i hi => ?_, fun i c hi hc => ?_⟩
  · obtain ⟨b, m, _, _, h⟩ := abD_row hi
    rw [h, row13_len]
  · rw [abD_len] at hi
    match i, hi with
    | 0, _ => exact ⟨Int.le_refl _, by show (-1 : Int) < 200; omega⟩
    | 1, _ => exact ⟨Int.le_refl _, by show (-1 : Int) < 200; omega⟩
    | 2, _ => exact ⟨Int.le_refl _, by show (-1 : Int) < 200; omega⟩
    | 3, _ => exact ⟨by show (-1 : Int) ≤ 0; omega, by show (0 : Int) < 200; omega⟩
  · obtain ⟨b, m, _, hm, h⟩ := abD_row hi
    rw [h, row13_get _ _ _ hc, abD_len]
    split <;> omega
theorem abD_nx0 {c : Nat} (hc : c < 256) : abD.nx 0 c = if c = 97 then 2 else 1 := by
  show ((row13 1 97 2).getD c 0).toNat = _
  rw [row13_get _ _ _ hc]; split <;> rfl
theorem abD_nx1 {c : Nat} (hc : c < 256) : abD.nx 1 c = 1 := by
  show ((row13 1 97 1).getD c 0).toNat = _
  rw [row13_get _ _ _ hc]; split <;> rfl
theorem abD_nx2 {c : Nat} (hc : c < 256) : abD.nx 2 c = if c = 98 then 3 else 1 := by
  show ((row13 1 98 3).getD c 0).toNat = _
  rw [row13_get _ _ _ hc]; split <;> rfl
theorem abD_nx3 {c : Nat} (hc : c < 256) : abD.nx 3 c = 1 := by
  show ((row13 1 97 1).getD c 0).toNat = _
  rw [row13_get _ _ _ hc]; split <;> rfl
theorem ab_run1 : ∀ z, LM.Bytes z → abD.aut.run 1 z = 1
  | [], _ => rfl
  | c :: z, h => by
    rw [LM.Aut.run_cons]
    have e : abD.aut.nx 1 c = 1 := abD_nx1 (h c (by simp))
    rw [e]; exact ab_run1 z fun x hx => h x (List.mem_cons_of_mem _ hx)
theorem ab_run3 (z : List Nat) (h : LM.Bytes z) : abD.lb (abD.aut.run 3 z) = if z = [] then 0 else -1 := by
  cases z with
  | nil => rfl
  | cons c z =>
    rw [LM.Aut.run_cons, if_neg (by simp)]
    have e : abD.aut.nx 3 c = 1 := abD_nx3 (h c (by simp))
    rw [e, ab_run1 z fun x hx => h x (List.mem_cons_of_mem _ hx)]; rfl
theorem ab_run2 (z : List Nat) (h : LM.Bytes z) : abD.lb (abD.aut.run 2 z) = if z = [98] then 0 else -1 := by
  cases z with
  | nil => rfl
  | cons c z =>
    rw [LM.Aut.run_cons]
    have e : abD.aut.nx 2 c = if c = 98 then 3 else 1 := abD_nx2 (h c (by simp))
    have hz : LM.Bytes z := fun x hx => h x (List.mem_cons_of_mem _ hx)
    rw [e]
    by_cases hc : c = 98
    · rw [if_pos hc, ab_run3 z hz, hc]
      by_cases hzz : z = []
      · rw [if_pos hzz, hzz, if_pos rfl]
      · rw [if_neg hzz, if_neg (by simpa using hzz)]
    · rw [if_neg hc, ab_run1 z hz, if_neg (by simp [hc])]; rfl
theorem ab_run0 (z : List Nat) (h : LM.Bytes z) : abD.lb (abD.aut.run 0 z) = if z = [97, 98] then 0 else -1 := by
  cases z with
  | nil => rfl
  | cons c z =>
    rw [LM.Aut.run_cons]
    have e : abD.aut.nx 0 c = if c = 97 then 2 else 1 := abD_nx0 (h c (by simp))
    have hz : LM.Bytes z := fun x hx => h x (List.mem_cons_of_mem _ hx)
    rw [e]
    by_cases hc : c = 97
    · rw [if_pos hc, ab_run2 z hz, hc]
      by_cases hzz : z = [98]
      · rw [if_pos hzz, hzz, if_pos rfl]
      · rw [if_neg hzz, if_neg (by simpa using hzz)]
    · rw [if_neg hc, ab_run1 z hz, if_neg (by simp [hc])]; rfl

theorem bytes_ab : LM.Bytes [97, 98] := by intro c hc; simp at hc; omega
theorem bytes_b : LM.Bytes [98] := by intro c hc; simp at hc; omega
theorem ab_word {u : List Nat} (h : First abD.aut oneD.aut 0 0 (fun i _ => abD.lb i == 0) u) : u = [97, 98] := by
  have h1 := h.yes
  simp only [beq_iff_eq] at h1
  have h2 := ab_run0 u h.bytes
  rw [show abD.lb (abD.aut.run 0 u) = 0 from h1] at h2
  by_cases e : u = [97, 98]
  · exact e
  · rw [if_neg e] at h2; cases h2
theorem ab_word_no : ¬ Nowhere abD.aut oneD.aut 0 0 (fun i _ => abD.lb i == 0) := fun h => by
  have h1 : (abD.lb (abD.aut.run 0 [97, 98]) == 0) = false := h [97, 98] bytes_ab
  have h2 := ab_run0 [97, 98] bytes_ab
  rw [if_pos rfl] at h2
  rw [show abD.lb (abD.aut.run 0 [97, 98]) = 0 from h2] at h1
  cases h1
theorem ab_apart {u : List Nat} (h : First abD.aut abD.aut 2 1 (fun i k => abD.lb i != abD.lb k) u) : u = [98] := by
  have h1 := h.yes
  have h2 := ab_run2 u h.bytes
  have h3 : abD.lb (abD.aut.run 1 u) = -1 := by rw [ab_run1 u h.bytes]; rfl
  by_cases e : u = [98]
  · exact e
  · rw [if_neg e] at h2
    simp only [bne_iff_ne, ne_eq] at h1
    exact absurd (h2.trans h3.symm) h1
theorem ab_apart_no : ¬ Nowhere abD.aut abD.aut 2 1 (fun i k => abD.lb i != abD.lb k) := fun h => by
  have h1 : (abD.lb (abD.aut.run 2 [98]) != abD.lb (abD.aut.run 1 [98])) = false := h [98] bytes_b
  have h2 := ab_run2 [98] bytes_b
  rw [if_pos rfl] at h2
  have h3 : abD.lb (abD.aut.run 1 [98]) = -1 := by rw [ab_run1 [98] bytes_b]; rfl
  rw [show abD.lb (abD.aut.run 2 [98]) = 0 from h2, show abD.lb (abD.aut.run 1 [98]) = -1 from h3] at h1
  cases h1
theorem ab_never : neverL abD 2 = [1] := by
  have h0 : ¬ NoRule abD 0 := fun h => h ⟨[97, 98], bytes_ab, by simp, by have := ab_run0 [97, 98] bytes_ab; rw [if_pos rfl] at this; exact this⟩
  have h1 : NoRule abD 1 := by
    rintro ⟨z, hz, _, e⟩
    have := ab_run0 z hz
    rw [show abD.lb (abD.aut.run 0 z) = ((1 : Nat) : Int) from e] at this
    split at this <;> cases this
  rw [neverL_yes h1, neverL_no h0]; rfl

/-- bytes of the call's own, as they are read -/
theorem own_u8 {w : World} {B n : Nat} {v : Value} {u : List Nat} (h : w.ownsRow B 5 1 v n (bytesV u)) (hn : n ≤ 140737488355328) : IntsK .u8 w v (u.map fun (b : Nat) => (b : Int)) := by
  have e : bytesV u = (u.map fun (b : Nat) => (b : Int)).map (Value.int .u8) := by simp [bytesV]
  rw [e] at h
  exact own_ints h hn
/-- a constant's bytes -/
theorem const_u8 {w : World} {C : Array Value} {t : TypeId} {m : Nat × Nat} {l : List Nat} (h : ∀ i, i < l.length → C[i]? = some (.int .u8 ((l.getD i 0 : Nat) : Int))) (hl : l.length ≤ 140737488355328) :
    IntsK .u8 (w.alloc (.cells C t m)) (.slice (some ⟨w.heap.size, 0, none⟩) l.length l.length) (l.map fun (b : Nat) => (b : Int)) := by
  refine ⟨by simpa using hl, some ⟨w.heap.size, 0, none⟩, l.length, by simp, ⟨by simp, fun h => by cases h⟩, fun _ => ⟨w.heap.size, 0, rfl, fun i x hx => ?_⟩⟩
  rw [List.getElem?_map, Option.map_eq_some_iff] at hx
  obtain ⟨y, hy, rfl⟩ := hx
  have hi := (List.getElem?_eq_some_iff.1 hy).1
  have := h i hi
  rw [List.getD_eq_getElem?_getD, hy] at this
  rw [Nat.mul_one, Nat.zero_add]
  unfold IntAt
  rw [World.cell?_alloc_mark]
  exact this
theorem one_int_lit {w : World} {t : TypeId} {x : Int} : Ints (w.alloc (.cells #[.int .i64 x] t)) (.slice (some ⟨w.heap.size, 0, none⟩) 1 1) [x] :=
  rowIs_ints (l := [x]) (World.rowIs_alloc w #[.int .i64 x] t (fun i => .int .i64 ([x].getD i 0)) (fun i hi => by match i, hi with | 0, _ => rfl)) rfl (by show 1 ≤ 140737488355328; omega) 1 (Nat.le_refl _)

set_option maxRecDepth 100000 in
set_option maxHeartbeats 4000000 in
theorem wakes13_c (w : World) : Calls Tryd.prog 6 #[] w fun e w' => e = .returned (.bool true) ∧ Ext w w' := by
  have kc := fun (w : World) (C : Array Value) (n c : Nat) => Lib.run_convert_bytes_const (P := Tryd.prog) w 28 5 C n c Tryd.underlying28 Tryd.underlying5
  go_enter Tryd.func6, Tryd.ntmps6
  go_wp2_with fail
  refine (row13_c 1 97 2 (by omega) _).mono ?_
  rintro e w1 ⟨rfl, hx1, hr1⟩
  go_wp2_with fail
  refine (row13_c 1 97 1 (by omega) _).mono ?_
  rintro e w2 ⟨rfl, hx2, hr2⟩
  go_wp2_with fail
  refine (row13_c 1 98 3 (by omega) _).mono ?_
  rintro e w3 ⟨rfl, hx3, hr3⟩
  go_wp2_with fail
  refine (row13_c 1 97 1 (by omega) _).mono ?_
  rintro e w4 ⟨rfl, hx4, hr4⟩
  have q1 := rowIs_ext (hx2.trans (hx3.trans hx4)) hr1
  have q2 := rowIs_ext (hx3.trans hx4) hr2
  have q3 := rowIs_ext hx4 hr3
  have hxa : Ext w w4 := hx1.trans (hx2.trans (hx3.trans hx4))
  go_upto_region 2 with fail
  obtain ⟨W4, hW4⟩ : ∃ W4, W4 = ((w4.alloc (.cells #[.slice (some ⟨w.heap.size, 0, none⟩) 256 256, .slice (some ⟨w1.heap.size, 0, none⟩) 256 256, .slice (some ⟨w2.heap.size, 0, none⟩) 256 256, .slice (some ⟨w3.heap.size, 0, none⟩) 256 256] 23)).alloc (.cells #[.int .i64 (-1), .int .i64 (-1), .int .i64 (-1), .int .i64 0] 3)).alloc
    (.cells #[.slice (some ⟨w4.heap.size, 0, none⟩) 4 4, .slice (some ⟨w4.heap.size + 1, 0, none⟩) 4 4] 25) := ⟨_, rfl⟩
  have hx5 : Ext w4 W4 := by rw [hW4]; exact ((Ext.box _ _).trans (Ext.box _ _)).trans (Ext.box _ _)
  have hd : DenseV W4 (.agg #[.slice (some ⟨w4.heap.size, 0, none⟩) 4 4, .slice (some ⟨w4.heap.size + 1, 0, none⟩) 4 4]) abD := by
    have e1 := World.rowIs_alloc w4 #[.slice (some ⟨w.heap.size, 0, none⟩) 256 256, .slice (some ⟨w1.heap.size, 0, none⟩) 256 256, .slice (some ⟨w2.heap.size, 0, none⟩) 256 256, .slice (some ⟨w3.heap.size, 0, none⟩) 256 256] 23 (fun i => (#[.slice (some ⟨w.heap.size, 0, none⟩) 256 256, .slice (some ⟨w1.heap.size, 0, none⟩) 256 256, .slice (some ⟨w2.heap.size, 0, none⟩) 256 256, .slice (some ⟨w3.heap.size, 0, none⟩) 256 256] : Array Value).getD i undef)
      (fun i hi => by match i, hi with | 0, _ => rfl | 1, _ => rfl | 2, _ => rfl | 3, _ => rfl)
    have e2 := World.rowIs_alloc (w4.alloc (.cells #[.slice (some ⟨w.heap.size, 0, none⟩) 256 256, .slice (some ⟨w1.heap.size, 0, none⟩) 256 256, .slice (some ⟨w2.heap.size, 0, none⟩) 256 256, .slice (some ⟨w3.heap.size, 0, none⟩) 256 256] 23)) #[.int .i64 (-1), .int .i64 (-1), .int .i64 (-1), .int .i64 0] 3 (fun i => .int .i64 (abD.label.getD i 0))
      (fun i hi => by match i, hi with | 0, _ => rfl | 1, _ => rfl | 2, _ => rfl | 3, _ => rfl)
    rw [World.size_alloc] at e2
    have r1 : W4.rowIs w4.heap.size 23 4 (fun i => (#[.slice (some ⟨w.heap.size, 0, none⟩) 256 256, .slice (some ⟨w1.heap.size, 0, none⟩) 256 256, .slice (some ⟨w2.heap.size, 0, none⟩) 256 256, .slice (some ⟨w3.heap.size, 0, none⟩) 256 256] : Array Value).getD i undef) := by rw [hW4]; exact rowIs_ext ((Ext.box _ _).trans (Ext.box _ _)) e1
    have r2 : W4.rowIs (w4.heap.size + 1) 3 4 (fun i => .int .i64 (abD.label.getD i 0)) := by rw [hW4]; exact rowIs_ext (Ext.box _ _) e2
    refine ⟨_, _, rfl, rowIs_rows (l := abD.next) r1 rfl (by omega) 4 (Nat.le_refl _) (fun i hi => ?_), rowIs_ints (l := abD.label) r2 rfl (by omega) 4 (Nat.le_refl _)⟩
    match i, hi with
    | 0, _ => exact rowIs_ints (rowIs_ext hx5 q1) (row13_len _ _ _) (by omega) 256 (Nat.le_refl _)
    | 1, _ => exact rowIs_ints (rowIs_ext hx5 q2) (row13_len _ _ _) (by omega) 256 (Nat.le_refl _)
    | 2, _ => exact rowIs_ints (rowIs_ext hx5 q3) (row13_len _ _ _) (by omega) 256 (Nat.le_refl _)
    | 3, _ => exact rowIs_ints (rowIs_ext hx5 hr4) (row13_len _ _ _) (by omega) 256 (Nat.le_refl _)
  have k0 : W4.cell? ⟨w4.heap.size + 1 + 1, 0, none⟩ = some (.slice (some ⟨w4.heap.size, 0, none⟩) 4 4) := by
    have := new_cell (w := (w4.alloc (.cells #[.slice (some ⟨w.heap.size, 0, none⟩) 256 256, .slice (some ⟨w1.heap.size, 0, none⟩) 256 256, .slice (some ⟨w2.heap.size, 0, none⟩) 256 256, .slice (some ⟨w3.heap.size, 0, none⟩) 256 256] 23)).alloc (.cells #[.int .i64 (-1), .int .i64 (-1), .int .i64 (-1), .int .i64 0] 3)) (c := #[.slice (some ⟨w4.heap.size, 0, none⟩) 4 4, .slice (some ⟨w4.heap.size + 1, 0, none⟩) 4 4]) (t := 25) (i := 0) rfl
    simp only [World.size_alloc] at this
    rw [hW4]; exact this
  have k1 : W4.cell? ⟨w4.heap.size + 1 + 1, 1, none⟩ = some (.slice (some ⟨w4.heap.size + 1, 0, none⟩) 4 4) := by
    have := new_cell (w := (w4.alloc (.cells #[.slice (some ⟨w.heap.size, 0, none⟩) 256 256, .slice (some ⟨w1.heap.size, 0, none⟩) 256 256, .slice (some ⟨w2.heap.size, 0, none⟩) 256 256, .slice (some ⟨w3.heap.size, 0, none⟩) 256 256] 23)).alloc (.cells #[.int .i64 (-1), .int .i64 (-1), .int .i64 (-1), .int .i64 0] 3)) (c := #[.slice (some ⟨w4.heap.size, 0, none⟩) 4 4, .slice (some ⟨w4.heap.size + 1, 0, none⟩) 4 4]) (t := 25) (i := 1) rfl
    simp only [World.size_alloc] at this
    rw [hW4]; exact this
  have HX := Lib.hid (And.intro hd (hxa.trans hx5))
  rw [← hW4]
  clear hW4
  clear hx1 hx2 hx3 hx4 hr1 hr2 hr3 hr4 q1 q2 q3 hxa hx5 hd
  go_wp2_with fail

  have hwo := wordOf_c (label := 0) HX.out.1 abD_may (by omega)
  refine hwo.mono ?_
  rintro e w5 ⟨hx5, ⟨u, v5, rfl, hF, ho5⟩ | ⟨rfl, hN⟩⟩
  rotate_left
  · exact absurd hN ab_word_no
  have hu : u = [97, 98] := ab_word hF
  subst hu
  clear hF hwo
  have k05 := hx5.cell k0
  have k15 := hx5.cell k1
  clear k0 k1
  have HX5 := Lib.hid (And.intro (HX.out.1.ext hx5) (And.intro (HX.out.2.trans hx5) (own_u8 ho5 (by show 2 ≤ 140737488355328; omega))))
  clear HX hx5 ho5
  go_wp2_with fail
  have hap := apart_c (x := 2) (y := 1) HX5.out.1 abD_may (by rw [abD_len]; omega) (by rw [abD_len]; omega)
  refine hap.mono ?_
  rintro e w6 ⟨hx6, ⟨u, v6, rfl, hF, ho6⟩ | ⟨rfl, hN⟩⟩
  rotate_left
  · exact absurd hN ab_apart_no
  have hu : u = [98] := ab_apart hF
  subst hu
  clear hF hap
  have k06 := hx6.cell k05
  have k16 := hx6.cell k15
  clear k05 k15
  have HX6 := Lib.hid (And.intro (HX5.out.1.ext hx6) (And.intro (HX5.out.2.1.trans hx6) (And.intro (HX5.out.2.2.ext hx6) (own_u8 ho6 (by show 1 ≤ 140737488355328; omega)))))
  clear HX5 hx6 ho6
  go_upto_region 5 with fail
  have hnv := never1_c (d := abD) (rules := 2) (bS := w6.heap.size) (oS := 0) (cS := 1) (w := w6.alloc (.cells #[.slice (some ⟨w4.heap.size, 0, none⟩) 4 4, .slice (some ⟨w4.heap.size + 1, 0, none⟩) 4 4] 25)) (HX6.out.1.ext (Ext.box _ _)) abD_may (by omega) (new_cell rfl) (new_cell rfl)
  refine hnv.mono ?_
  rintro e w7 ⟨v7, rfl, hi7, hx7⟩
  rw [ab_never] at hi7
  clear hnv k06 k16
  have hx67 : Ext w6 w7 := (Ext.box _ _).trans hx7
  have HX7 := Lib.hid (And.intro (HX6.out.2.1.trans hx67) (And.intro (HX6.out.2.2.1.ext hx67) (And.intro (HX6.out.2.2.2.ext hx67) hi7)))
  clear HX6 hx7 hi7 hx67
  go_wp2_with fail
  refine (eqBytes_b (r := true) (HX7.out.2.1.ext (Ext.box _ _)) (const_u8 (l := [97, 98]) (fun i hi => by match i, hi with | 0, _ => rfl | 1, _ => rfl) (by show 2 ≤ 140737488355328; omega)) rfl).mono ?_
  rintro e w8 ⟨rfl, hx8⟩
  have hx78 : Ext w7 w8 := (Ext.box _ _).trans hx8
  have HX8 := Lib.hid (And.intro (HX7.out.1.trans hx78) (And.intro (HX7.out.2.2.1.ext hx78) (HX7.out.2.2.2.ext hx78)))
  clear HX7 hx8 hx78
  go_wp2_with fail
  refine (eqBytes_b (r := true) (HX8.out.2.1.ext (Ext.box _ _)) (const_u8 (l := [98]) (fun i hi => by match i, hi with | 0, _ => rfl) (by show 1 ≤ 140737488355328; omega)) rfl).mono ?_
  rintro e w9 ⟨rfl, hx9⟩
  have hx89 : Ext w8 w9 := (Ext.box _ _).trans hx9
  have HX9 := Lib.hid (And.intro (HX8.out.1.trans hx89) (HX8.out.2.2.ext hx89))
  clear HX8 hx9 hx89
  go_wp2_with fail
  refine (eqInts_b (r := true) (HX9.out.2.ext (Ext.box _ _)) one_int_lit rfl).mono ?_
  rintro e w10 ⟨rfl, hx10⟩
  have HX10 := Lib.hid (HX9.out.1.trans ((Ext.box _ _).trans hx10))
  clear HX9 hx10
  go_wp2_with fail
  go_ret
  exact ⟨rfl, HX10.out⟩
end Go.Proofs.YtihginaanlcilaaDoor
