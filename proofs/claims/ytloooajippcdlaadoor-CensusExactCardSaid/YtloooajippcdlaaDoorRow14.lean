/- bolterlaw14.row and pairs. -/
import Derived.Test.YtloooajippcdlaaDoorOwn
namespace Go.Proofs.YtloooajippcdlaaDoor
open Go.RowKit

def row14 (n m : Int) : List Int := (List.range 256).map fun i => if i = 97 ∨ i = 98 then m else n
theorem row14_get (n m : Int) (i : Nat) (h : i < 256) : (row14 n m).getD i 0 = if i = 97 ∨ i = 98 then m else n := by
  rw [List.getD_eq_getElem?_getD, row14, List.getElem?_map, List.getElem?_range h]; rfl
theorem row14_length (n m : Int) : (row14 n m).length = 256 := by simp [row14]

set_option maxRecDepth 100000 in
set_option maxHeartbeats 1000000 in
theorem row14_c (n m : Int) (w : World) :
    Calls Tryd.prog 80 #[.int .i64 n, .int .i64 m] w fun e w' => e = .returned (.slice (some ⟨w.heap.size, 0, none⟩) 256 256) ∧ Ext w w' ∧ w'.rowIs w.heap.size 3 256 (fun i => .int .i64 ((row14 n m).getD i 0)) := by
  have hmk : (Instr.makeSlice 23 (.int .i64 256) (.int .i64 256)).run Tryd.prog w = .ok (.slice (some ⟨w.heap.size, 0, none⟩) 256 256) (w.alloc (.cells (madeCells #[.int .i64 0] 256) 3)) :=
    run_make_any (P := Tryd.prog) 23 3 (.int .i64 0) 1 8 Tryd.underlying23 int_info .i64 .i64 256 (by omega) (by omega) w
  go_enter Tryd.func80, Tryd.ntmps80
  go_wp2
  clear hmk
  go_loopw [6] (fun i wr => ∃ k : Nat, k ≤ 256 ∧ i = .int .i64 k ∧ Ext w wr ∧ wr.rowIs w.heap.size 3 256 (fun i => .int .i64 (if i < k then n else 0))) (fun i _ => 256 - (intOf i).toNat)
  case atStart =>
    refine ⟨0, Nat.zero_le _, rfl, Ext.box _ _, ?_⟩
    exact (World.rowIs_made w _ 256 3).congr (fun j _ => by simp)
  case round =>
    obtain ⟨k, hk, rfl, hx, hr⟩ := hrel
    by_cases hlt : k < 256
    · have c1 := hr.cell hlt
      have f1 := hr.frozen k
      have C1 := Lib.hid c1
      clear c1
      have c2 : ∃ v, wr.cell? ⟨w.heap.size, k, none⟩ = some v := ⟨_, C1.out⟩
      obtain ⟨v0, c3⟩ := c2
      go_wp2
      go_roundw
      case rel => exact ⟨k + 1, by omega, by go_num, hx.setCell (Nat.le_refl _) _, (hr.set k _).congr (fun j _ => by
        by_cases e : j = k
        · rw [if_pos e, if_pos (by omega)]
        · rw [if_neg e]
          by_cases h : j < k
          · rw [if_pos h, if_pos (by omega)]
          · rw [if_neg h, if_neg (by omega)])⟩
      case measure => simp [intOf]; omega
    · obtain rfl : k = 256 := by omega
      obtain ⟨v0, c97⟩ : ∃ v, wr.cell? ⟨w.heap.size, 97, none⟩ = some v := ⟨_, hr.cell (by omega)⟩
      obtain ⟨v1, c98⟩ : ∃ v, wr.cell? ⟨w.heap.size, 98, none⟩ = some v := ⟨_, hr.cell (by omega)⟩
      have f97 := hr.frozen 97
      have f98 := hr.frozen 98
      go_wp2
      go_ret
      refine ⟨rfl, (hx.setCell (Nat.le_refl _) _).setCell (Nat.le_refl _) _, ((hr.set 97 _).set 98 _).congr (fun j hj => ?_)⟩
      rw [row14_get n m j hj]
      by_cases e : j = 98
      · rw [if_pos e, if_pos (.inr e)]
      · rw [if_neg e]
        by_cases e2 : j = 97
        · rw [if_pos e2, if_pos (.inl e2)]
        · rw [if_neg e2, if_neg (show ¬ (j = 97 ∨ j = 98) by omega), if_pos hj]

def pairsD : Dn := { next := [row14 1 2, row14 1 1, row14 1 2], label := [-1, -1, 0] }

set_option maxRecDepth 100000 in
set_option maxHeartbeats 1000000 in
theorem pairs_c (w : World) : Calls Tryd.prog 45 #[] w fun e w' => (∃ v, e = .returned v ∧ DenseV w' v pairsD) ∧ Ext w w' := by
  have hb0 := fun W (hx : Ext (w.alloc (.cells #[.slice none 0 0, .slice none 0 0] 25)) W) => hx.cell (p := ⟨w.heap.size, 0, none⟩) (v := .slice none 0 0) (by simp)
  have hb1 := fun W (hx : Ext (w.alloc (.cells #[.slice none 0 0, .slice none 0 0] 25)) W) => hx.cell (p := ⟨w.heap.size, 1, none⟩) (v := .slice none 0 0) (by simp)
  have hf := fun W (hx : Ext (w.alloc (.cells #[.slice none 0 0, .slice none 0 0] 25)) W) j => (Below.frozen hx (p := ⟨w.heap.size, j, none⟩) (by simp)).trans (new_frozen w _ _ _)
  go_enter Tryd.func45, Tryd.ntmps45
  go_wp2_with fail
  refine (row14_c 1 2 _).mono ?_
  rintro e w1 ⟨rfl, hx1, hr1⟩
  go_wp2_with fail
  refine (row14_c 1 1 _).mono ?_
  rintro e w2 ⟨rfl, hx2, hr2⟩
  go_wp2_with fail
  refine (row14_c 1 2 _).mono ?_
  rintro e w3 ⟨rfl, hx3, hr3⟩
  have hX := hx1.trans (hx2.trans hx3)
  have h0 := hb0 _ hX
  have h1 := hb1 _ hX
  have f0 := hf _ hX 0
  have f1 := hf _ hX 1
  have hz := lt_of_cell h0
  clear hb0 hb1 hf
  go_wp2
  obtain ⟨W, hW⟩ : ∃ W, W = ((((w3.setCell ⟨w.heap.size, 0, none⟩ (.slice (some ⟨w3.heap.size, 0, none⟩) 3 3)).setCell ⟨w.heap.size, 1, none⟩ (.slice (some ⟨w3.heap.size + 1, 0, none⟩) 3 3)).alloc
      (.cells #[.slice (some ⟨w.heap.size + 1, 0, none⟩) 256 256, .slice (some ⟨w1.heap.size, 0, none⟩) 256 256, .slice (some ⟨w2.heap.size, 0, none⟩) 256 256] 23)).alloc
      (.cells #[.int .i64 (-1), .int .i64 (-1), .int .i64 0] 3)) := ⟨_, rfl⟩
  rw [← hW]
  have hf : Frm (fun a _ => a = w.heap.size) w3 W := by rw [hW]; exact ((((Frm.refl (fun a _ => a = w.heap.size) w3).setCell (.inl rfl) _).setCell (.inl rfl) _).alloc _).alloc _
  have hn := two_new ((w3.setCell ⟨w.heap.size, 0, none⟩ (.slice (some ⟨w3.heap.size, 0, none⟩) 3 3)).setCell ⟨w.heap.size, 1, none⟩ (.slice (some ⟨w3.heap.size + 1, 0, none⟩) 3 3))
      #[.slice (some ⟨w.heap.size + 1, 0, none⟩) 256 256, .slice (some ⟨w1.heap.size, 0, none⟩) 256 256, .slice (some ⟨w2.heap.size, 0, none⟩) 256 256] #[.int .i64 (-1), .int .i64 (-1), .int .i64 0] 23 3
      (n1 := 3) (n2 := 3) (f1 := fun i => [Value.slice (some ⟨w.heap.size + 1, 0, none⟩) 256 256, .slice (some ⟨w1.heap.size, 0, none⟩) 256 256, .slice (some ⟨w2.heap.size, 0, none⟩) 256 256].getD i .nilFunc)
      (f2 := fun i => .int .i64 ([(-1 : Int), -1, 0].getD i 0)) (by intro i hi; match i, hi with | 0, _ => rfl | 1, _ => rfl | 2, _ => rfl) (by intro i hi; match i, hi with | 0, _ => rfl | 1, _ => rfl | 2, _ => rfl) rfl rfl (s := w3.heap.size) (by simp)
  rw [← hW] at hn
  have g0 : W.cell? ⟨w.heap.size, 0, none⟩ = some (.slice (some ⟨w3.heap.size, 0, none⟩) 3 3) := by
    rw [hW]; refine ((Ext.box _ _).trans (Ext.box _ _)).cell ?_
    rw [World.cell?_setCell_other _ _ _ _ (by simp)]
    exact World.cell?_setCell_same _ _ _ h0
  have g1 : W.cell? ⟨w.heap.size, 1, none⟩ = some (.slice (some ⟨w3.heap.size + 1, 0, none⟩) 3 3) := by
    rw [hW]; refine ((Ext.box _ _).trans (Ext.box _ _)).cell ?_
    exact World.cell?_setCell_same _ _ _ (by rw [World.cell?_setCell_other _ _ _ _ (by simp)]; exact h1)
  rw [World.size_alloc] at hr1
  have s1 : w.heap.size + 1 < w1.heap.size := hr1.lt
  have s2 : w1.heap.size < w2.heap.size := hr2.lt
  have k1 := (rowIs_ext hx3 (rowIs_ext hx2 hr1)).of_block (hf.block _ (by have := hr3.lt; omega) (fun j e => by omega))
  have k2 := (rowIs_ext hx3 hr2).of_block (hf.block _ (by have := hr3.lt; omega) (fun j e => by omega))
  have k3 := hr3.of_block (hf.block _ hr3.lt (fun j e => by omega))
  have hD : DenseV W (.agg #[.slice (some ⟨w3.heap.size, 0, none⟩) 3 3, .slice (some ⟨w3.heap.size + 1, 0, none⟩) 3 3]) pairsD := by
    refine ⟨_, _, rfl, rowIs_rows hn.1 rfl (by omega) 3 (Nat.le_refl _) (fun i hi => ?_), rowIs_ints hn.2 rfl (by omega) 3 (Nat.le_refl _)⟩
    match i, hi with
    | 0, _ => exact rowIs_ints k1 (row14_length _ _) (by omega) 256 (Nat.le_refl _)
    | 1, _ => exact rowIs_ints k2 (row14_length _ _) (by omega) 256 (Nat.le_refl _)
    | 2, _ => exact rowIs_ints k3 (row14_length _ _) (by omega) 256 (Nat.le_refl _)
  have hE : Ext w W := hf.ext ((Ext.box w _).trans hX) (fun k j e => by omega)
  clear hW hf hn
  exact bodyPost_ret (v := .agg #[.slice (some ⟨w3.heap.size, 0, none⟩) 3 3, .slice (some ⟨w3.heap.size + 1, 0, none⟩) 3 3]) (by simp [results, Tryd.results45, go_sem, g0, g1]) rfl ⟨⟨_, rfl, hD⟩, hE⟩
end Go.Proofs.YtloooajippcdlaaDoor
