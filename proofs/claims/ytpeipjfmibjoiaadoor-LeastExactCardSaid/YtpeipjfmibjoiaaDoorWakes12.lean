/- bolterlaw12.wakes. -/
import Derived.Test.YtpeipjfmibjoiaaDoorWake12Math
import Derived.Test.YtpeipjfmibjoiaaDoorLeast
import Derived.Test.YtpeipjfmibjoiaaDoorEqDense
import Derived.Test.YtpeipjfmibjoiaaDoorDenseForm
import Derived.Deep.RegionHeld3
namespace Go.Proofs.YtpeipjfmibjoiaaDoor
open Go.RowKit

theorem dense_of_rows {W : World} {b1 b2 n : Nat} {f : Nat → Value} {d : Dn} (h1 : W.rowIs b1 23 n f) (h2 : W.rowIs b2 3 n (fun i => .int .i64 (d.label.getD i 0))) (hn : d.next.length = n) (hl : d.label.length = n) (hb : n ≤ 1000) (hr : ∀ i, i < n → Ints W (f i) (d.next.getD i [])) :
    DenseV W (.agg #[.slice (some ⟨b1, 0, none⟩) n n, .slice (some ⟨b2, 0, none⟩) n n]) d :=
  ⟨_, _, rfl, rowIs_rows h1 hn (by omega) n (Nat.le_refl _) hr, rowIs_ints h2 hl (by omega) n (Nat.le_refl _)⟩

theorem rowIs_drew {w : World} {b : Nat} {t : TypeId} {n : Nat} {f : Nat → Value} (h : w.rowIs b t n f) : w.drew.rowIs b t n f := h
theorem rowIs_past {w : World} {o : Obj} {b : Nat} {t : TypeId} {n : Nat} {f : Nat → Value} (h : w.rowIs b t n f) : (w.alloc o).rowIs b t n f := rowIs_ext (Ext.box _ _) h
theorem rowIs_at2 {w : World} {b : Nat} {t : TypeId} {x y : Value} (hb : b = w.heap.size) : (w.alloc (.cells #[x, y] t)).rowIs b t 2 (fun i => if i = 0 then x else y) := by
  subst hb
  exact World.rowIs_alloc w #[x, y] t _ (fun i hi => by match i, hi with | 0, _ => rfl | 1, _ => rfl)
theorem rowIs_at3 {w : World} {b : Nat} {t : TypeId} {x y z : Value} (hb : b = w.heap.size) : (w.alloc (.cells #[x, y, z] t)).rowIs b t 3 (fun i => if i = 0 then x else if i = 1 then y else z) := by
  subst hb
  exact World.rowIs_alloc w #[x, y, z] t _ (fun i hi => by match i, hi with | 0, _ => rfl | 1, _ => rfl | 2, _ => rfl)
theorem lit3_ints {W : World} {b : Nat} {t : TypeId} {x y z : Int} (h : W.rowIs b t 3 (fun i => if i = 0 then .int .i64 x else if i = 1 then .int .i64 y else .int .i64 z)) : IntsK .i64 W (.slice (some ⟨b, 0, none⟩) 3 3) [x, y, z] :=
  rowIs_ints (h.congr fun i hi => by match i, hi with | 0, _ => rfl | 1, _ => rfl | 2, _ => rfl) rfl (by omega) 3 (Nat.le_refl _)
/-- a row of ones -/
structure R1 (w : World) (b : Nat) : Prop where
  out : w.rowIs b 3 256 (fun i => .int .i64 ((row12 1).getD i 0))
theorem R1.drew {w : World} {b : Nat} (h : R1 w b) : R1 w.drew b := ⟨h.out⟩
theorem R1.past {w : World} {o : Obj} {b : Nat} (h : R1 w b) : R1 (w.alloc o) b := ⟨rowIs_past h.out⟩
structure Stp (w w' : World) : Prop where
  out : Ext w w'
theorem R1.stp {w w' : World} {b : Nat} (hx : Stp w w') (h : R1 w b) : R1 w' b := ⟨rowIs_ext hx.out h.out⟩
theorem rowIs_stp {w w' : World} (hx : Stp w w') {b : Nat} {t : TypeId} {n : Nat} {f : Nat → Value} (h : w.rowIs b t n f) : w'.rowIs b t n f := rowIs_ext hx.out h
theorem eqD_refl (a : Dn) : eqD a a = true := by simp [eqD]
theorem dense2_lit {W : World} {bh bl ba bb : Nat} (h1 : W.rowIs bh 23 2 (fun i => if i = 0 then .slice (some ⟨ba, 0, none⟩) 256 256 else .slice (some ⟨bb, 0, none⟩) 256 256)) (h2 : W.rowIs bl 3 2 (fun i => if i = 0 then .int .i64 (-1) else .int .i64 0))
    (h3 : R1 W ba) (h4 : R1 W bb) : DenseV W (.agg #[.slice (some ⟨bh, 0, none⟩) 2 2, .slice (some ⟨bl, 0, none⟩) 2 2]) wakeL := by
  refine dense_of_rows (n := 2) h1 (h2.congr fun i hi => ?_) rfl rfl (by omega) (fun i hi => ?_)
  · match i, hi with
    | 0, _ => rfl
    | 1, _ => rfl
  · match i, hi with
    | 0, _ => exact rowIs_ints h3.out (row12_length 1) (by omega) 256 (Nat.le_refl _)
    | 1, _ => exact rowIs_ints h4.out (row12_length 1) (by omega) 256 (Nat.le_refl _)

set_option maxRecDepth 100000 in
set_option maxHeartbeats 16000000 in
theorem wakes12_c (w : World) : Calls Tryd.prog 51 #[] w fun e w' => e = .returned (.bool true) ∧ Ext w w' := by
  go_enter Tryd.func51, Tryd.ntmps51
  go_wp2_with fail
  refine (row12_c 1 _).mono ?_
  rintro e w1 ⟨rfl, hx1, hr1⟩
  go_wp2_with fail
  refine (row12_c 2 _).mono ?_
  rintro e w2 ⟨rfl, hx2, hr2⟩
  go_wp2_with fail
  refine (row12_c 1 _).mono ?_
  rintro e w3 ⟨rfl, hx3, hr3⟩
  go_wp2_with fail
  have q1 := rowIs_ext (hx2.trans hx3) hr1
  have q2 := rowIs_ext hx3 hr2
  have hxa : Ext w w3 := hx1.trans (hx2.trans hx3)
  obtain ⟨W4, hW4⟩ : ∃ W4, W4 = ((w3.alloc (.cells #[.slice (some ⟨w.heap.size, 0, none⟩) 256 256, .slice (some ⟨w1.heap.size, 0, none⟩) 256 256, .slice (some ⟨w2.heap.size, 0, none⟩) 256 256] 23)).alloc (.cells #[.int .i64 (-1), .int .i64 0, .int .i64 0] 3)).alloc
    (.cells #[.slice (some ⟨w3.heap.size, 0, none⟩) 3 3, .slice (some ⟨w3.heap.size + 1, 0, none⟩) 3 3] 25) := ⟨_, rfl⟩
  have hx4 : Ext w3 W4 := by rw [hW4]; exact ((Ext.box _ _).trans (Ext.box _ _)).trans (Ext.box _ _)
  have hd : DenseV W4 (.agg #[.slice (some ⟨w3.heap.size, 0, none⟩) 3 3, .slice (some ⟨w3.heap.size + 1, 0, none⟩) 3 3]) wakeD := by
    have e1 := World.rowIs_alloc w3 #[.slice (some ⟨w.heap.size, 0, none⟩) 256 256, .slice (some ⟨w1.heap.size, 0, none⟩) 256 256, .slice (some ⟨w2.heap.size, 0, none⟩) 256 256] 23 (fun i => (#[Value.slice (some ⟨w.heap.size, 0, none⟩) 256 256, .slice (some ⟨w1.heap.size, 0, none⟩) 256 256, .slice (some ⟨w2.heap.size, 0, none⟩) 256 256] : Array Value).getD i .nilIface)
      (fun i hi => by match i, hi with | 0, _ => rfl | 1, _ => rfl | 2, _ => rfl)
    have e2 := World.rowIs_alloc (w3.alloc (.cells #[.slice (some ⟨w.heap.size, 0, none⟩) 256 256, .slice (some ⟨w1.heap.size, 0, none⟩) 256 256, .slice (some ⟨w2.heap.size, 0, none⟩) 256 256] 23)) #[.int .i64 (-1), .int .i64 0, .int .i64 0] 3 (fun i => .int .i64 (wakeD.label.getD i 0))
      (fun i hi => by match i, hi with | 0, _ => rfl | 1, _ => rfl | 2, _ => rfl)
    rw [World.size_alloc] at e2
    refine dense_of_rows (n := 3) (by rw [hW4]; exact rowIs_ext ((Ext.box _ _).trans (Ext.box _ _)) e1) (by rw [hW4]; exact rowIs_ext (Ext.box _ _) e2) rfl rfl (by omega) (fun i hi => ?_)
    match i, hi with
    | 0, _ => exact rowIs_ints (rowIs_ext hx4 q1) (row12_length 1) (by omega) 256 (Nat.le_refl _)
    | 1, _ => exact rowIs_ints (rowIs_ext hx4 q2) (row12_length 2) (by omega) 256 (Nat.le_refl _)
    | 2, _ => exact rowIs_ints (rowIs_ext hx4 hr3) (row12_length 1) (by omega) 256 (Nat.le_refl _)
  have k0 : W4.cell? ⟨w3.heap.size + 2, 0, none⟩ = some (.slice (some ⟨w3.heap.size, 0, none⟩) 3 3) := by rw [hW4]; exact cell_at (by simp) rfl
  have k1 : W4.cell? ⟨w3.heap.size + 2, 1, none⟩ = some (.slice (some ⟨w3.heap.size + 1, 0, none⟩) 3 3) := by rw [hW4]; exact cell_at (by simp) rfl
  have HX := Lib.hid (hxa.trans hx4)
  rw [← hW4]
  clear hx1 hx2 hx3 hr1 hr2 hr3 q1 q2 hxa hx4 hW4
  obtain ⟨b3, hb3⟩ : ∃ b, b = w3.heap.size := ⟨_, rfl⟩
  rw [← hb3] at hd k0 k1 ⊢
  clear hb3
  refine (classes_c hd wake_may).mono ?_
  rintro e w5 ⟨cv, rfl, P, hT, hrow, hx5⟩
  have hcv : IntsK .i64 w5 cv [0, 1, 1] := by
    have h1 : natV ((List.range wakeD.next.length).map (LM.num P)) = [0, 1, 1].map (Value.int .i64) := by
      show natV [LM.num P 0, LM.num P 1, LM.num P 2] = _
      rw [wake_num hT 0 (by omega), wake_num hT 1 (by omega), wake_num hT 2 (by omega)]; rfl
    rw [h1] at hrow
    exact own_ints hrow (by show 3 ≤ _; omega)
  have hd5 := hd.ext hx5
  have k05 := hx5.cell k0
  have k15 := hx5.cell k1
  have HX5 := Lib.hid (HX.out.trans hx5)
  clear hrow hT hx5 hd k0 k1 HX
  go_wp2_with fail
  refine (least_c hd5 wake_may).mono ?_
  rintro e w6 ⟨v, P2, rfl, hT2, hdl, hx6, _⟩
  rw [wake_least hT2] at hdl
  obtain ⟨an, cn, al, cl, rfl⟩ := hdl.form
  have hcv6 := IntsK.ext hx6 hcv
  have HX6 := Lib.hid (HX5.out.trans hx6)
  clear hT2 hcv hd5 k05 k15 HX5 hx6
  go_wp2_with fail
  obtain ⟨W7, hW7⟩ : ∃ W7, W7 = w6.alloc (.cells #[.slice an wakeL.next.length cn, .slice al wakeL.label.length cl] 25) := ⟨_, rfl⟩
  have hx7 : Ext w6 W7 := by rw [hW7]; exact Ext.box _ _
  have hd7 := hdl.ext hx7
  have hcv7 := IntsK.ext hx7 hcv6
  have m0 : W7.cell? ⟨w6.heap.size, 0, none⟩ = some (.slice an wakeL.next.length cn) := by rw [hW7]; exact cell_at rfl rfl
  have m1 : W7.cell? ⟨w6.heap.size, 1, none⟩ = some (.slice al wakeL.label.length cl) := by rw [hW7]; exact cell_at rfl rfl
  have HX7 := Lib.hid (HX6.out.trans hx7)
  have hsz7 := lt_of_cell m0
  rw [← hW7]
  clear hW7 hx7 hdl hcv6 HX6
  go_region_held3 (fun W => W.cell? ⟨w6.heap.size, 0, none⟩ = some (.slice an wakeL.next.length cn) ∧ W.cell? ⟨w6.heap.size, 1, none⟩ = some (.slice al wakeL.label.length cl))
    (first | exact ⟨m0, m1⟩ | exact ⟨n0, n1⟩ | go_keep)
    ((first
    | (go_at_call 29; go_must (refine (eqInts_b (la := [0, 1, 1]) (lb := [0, 1, 1]) (IntsK.ext (w := W7) (by repeat' (first | with_reducible exact Ext.refl _ | with_reducible refine Ext.drew ?_ | with_reducible refine Ext.alloc ?_ _)) hcv7) (lit3_ints (t := 3) (by repeat' (first | with_reducible assumption | with_reducible refine rowIs_drew ?_ | (with_reducible refine rowIs_at3 ?_; simp; done) | with_reducible refine rowIs_past ?_))) rfl).mono ?_; rintro e w8 ⟨rfl, hx8⟩; have hz8 : Ext W7 w8 := Ext.trans (by repeat' (first | with_reducible assumption | with_reducible exact Ext.refl _ | with_reducible refine Ext.drew ?_ | with_reducible refine Ext.alloc ?_ _)) hx8; have n0 := hz8.cell m0; have n1 := hz8.cell m1; have hs8 : Stp _ w8 := ⟨hx8⟩; clear hx8))
    | (go_at_call 102; refine (row12_c 1 _).mono ?_; rintro e w8 ⟨rfl, hx8, hr8⟩; (try simp only [World.size_alloc] at hr8); have hR8 : R1 w8 _ := ⟨hr8⟩; clear hr8; have hz8 : Ext W7 w8 := Ext.trans (by repeat' (first | with_reducible assumption | with_reducible exact Ext.refl _ | with_reducible refine Ext.drew ?_ | with_reducible refine Ext.alloc ?_ _)) hx8; have n0 := hz8.cell m0; have n1 := hz8.cell m1; have hs8 : Stp _ w8 := ⟨hx8⟩; clear hx8)
    | (go_at_call 34; go_must (refine (eqDense_b (a := wakeL) (b := wakeL) (hd7.ext (w := W7) (by repeat' (first | with_reducible assumption | with_reducible exact Ext.refl _ | with_reducible refine Ext.drew ?_ | with_reducible refine Ext.alloc ?_ _))) (dense2_lit (by repeat' (first | with_reducible refine rowIs_drew ?_ | (with_reducible refine rowIs_at2 ?_; simp; done) | with_reducible refine rowIs_past ?_ | with_reducible refine rowIs_stp (by assumption) ?_)) (by repeat' (first | with_reducible refine rowIs_drew ?_ | (with_reducible refine rowIs_at2 ?_; simp; done) | with_reducible refine rowIs_past ?_ | with_reducible refine rowIs_stp (by assumption) ?_)) (by repeat' (first | with_reducible assumption | with_reducible refine R1.drew ?_ | with_reducible refine R1.past ?_ | with_reducible refine R1.stp (by assumption) ?_)) (by repeat' (first | with_reducible assumption | with_reducible refine R1.drew ?_ | with_reducible refine R1.past ?_ | with_reducible refine R1.stp (by assumption) ?_))) (r := true) (eqD_refl _)).mono ?_; rintro e w8 ⟨rfl, hx8⟩; have hz8 : Ext W7 w8 := Ext.trans (by repeat' (first | with_reducible assumption | with_reducible exact Ext.refl _ | with_reducible refine Ext.drew ?_ | with_reducible refine Ext.alloc ?_ _)) hx8; have n0 := hz8.cell m0; have n1 := hz8.cell m1))))
  all_goals
    go_wp2
    go_ret
    exact ⟨rfl, HX7.out.trans (by repeat' (first | with_reducible assumption | with_reducible exact Ext.refl _ | with_reducible refine Ext.drew ?_ | with_reducible refine Ext.alloc ?_ _))⟩
end Go.Proofs.YtpeipjfmibjoiaaDoor
