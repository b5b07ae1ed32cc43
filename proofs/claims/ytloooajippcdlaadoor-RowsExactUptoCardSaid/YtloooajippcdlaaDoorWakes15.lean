/- bolterlaw15.wakes: the automaton of the word a, as a table. -/
import Derived.Test.YtloooajippcdlaaDoorEntry
import Derived.Test.YtloooajippcdlaaDoorEqDense
namespace Go.Proofs.YtloooajippcdlaaDoor
open Go.RowKit

theorem built_entry (l : List Dn) (s : Nat) {b : Nat} (hb : b < 256) : (built l).tbl.entry s b = entOf l s b := by
  have h : (built l).classes.getD b 0 = ((clsOf l b : Nat) : Int) := getD_of (built_class l hb)
  show ((built l).next.getD s []).getD ((built l).classes.getD b 0).toNat 0 = _
  rw [h]; rfl

/-- a list that was just written down -/
theorem ints_two (w : World) (t : TypeId) (a b : Int) : Ints (w.alloc (.cells #[.int .i64 a, .int .i64 b] t)) (.slice (some ⟨w.heap.size, 0, none⟩) 2 2) [a, b] :=
  rowIs_ints (l := [a, b]) (World.rowIs_alloc w #[.int .i64 a, .int .i64 b] t (fun i => .int .i64 ([a, b].getD i 0)) (fun i hi => by match i, hi with | 0, _ => rfl | 1, _ => rfl)) rfl (by show 2 ≤ 140737488355328; omega) 2 (Nat.le_refl _)
theorem ints_three (w : World) (t : TypeId) (a b c : Int) : Ints (w.alloc (.cells #[.int .i64 a, .int .i64 b, .int .i64 c] t)) (.slice (some ⟨w.heap.size, 0, none⟩) 3 3) [a, b, c] :=
  rowIs_ints (l := [a, b, c]) (World.rowIs_alloc w #[.int .i64 a, .int .i64 b, .int .i64 c] t (fun i => .int .i64 ([a, b, c].getD i 0)) (fun i hi => by match i, hi with | 0, _ => rfl | 1, _ => rfl | 2, _ => rfl)) rfl (by show 3 ≤ 140737488355328; omega) 3 (Nat.le_refl _)
theorem rows_two {w : World} (t : TypeId) {x y : Value} {a b : List Int} (hx : Ints w x a) (hy : Ints w y b) : RowsV (w.alloc (.cells #[x, y] t)) (.slice (some ⟨w.heap.size, 0, none⟩) 2 2) [a, b] :=
  rowIs_rows (l := [a, b]) (World.rowIs_alloc w #[x, y] t (fun i => (#[x, y] : Array Value).getD i undef) (fun i hi => by match i, hi with | 0, _ => rfl | 1, _ => rfl)) rfl (by show 2 ≤ 140737488355328; omega) 2 (Nat.le_refl _) (fun i hi => by
    match i, hi with
    | 0, _ => exact IntsK.ext (Ext.box _ _) hx
    | 1, _ => exact IntsK.ext (Ext.box _ _) hy)
theorem rows_three {w : World} (t : TypeId) {x y z : Value} {a b c : List Int} (hx : Ints w x a) (hy : Ints w y b) (hz : Ints w z c) : RowsV (w.alloc (.cells #[x, y, z] t)) (.slice (some ⟨w.heap.size, 0, none⟩) 3 3) [a, b, c] :=
  rowIs_rows (l := [a, b, c]) (World.rowIs_alloc w #[x, y, z] t (fun i => (#[x, y, z] : Array Value).getD i undef) (fun i hi => by match i, hi with | 0, _ => rfl | 1, _ => rfl | 2, _ => rfl)) rfl (by show 3 ≤ 140737488355328; omega) 3 (Nat.le_refl _) (fun i hi => by
    match i, hi with
    | 0, _ => exact IntsK.ext (Ext.box _ _) hx
    | 1, _ => exact IntsK.ext (Ext.box _ _) hy
    | 2, _ => exact IntsK.ext (Ext.box _ _) hz)
theorem denses_one {w : World} (t : TypeId) {x y : Value} {d : Dn} (hx : RowsV w x d.next) (hy : Ints w y d.label) : DensesV (w.alloc (.cells #[x, y] t)) (.slice (some ⟨w.heap.size, 0, none⟩) 1 1) [d] := by
  refine ⟨by simp, some ⟨w.heap.size, 0, none⟩, 1, rfl, ⟨by simp, fun h => by cases h⟩, fun _ => ⟨w.heap.size, 0, rfl, fun i z hz => ?_⟩⟩
  have hi := (List.getElem?_eq_some_iff.1 hz).1
  obtain rfl : i = 0 := by simpa using hi
  obtain rfl : d = z := by simpa using hz
  exact ⟨⟨x, by simp, RowsV.ext (Ext.box _ _) hx⟩, ⟨y, by simp, IntsK.ext (Ext.box _ _) hy⟩⟩

set_option maxRecDepth 100000 in
set_option maxHeartbeats 4000000 in
theorem wakes15_c (w : World) : Calls Tryd.prog 32 #[] w fun e w' => e = .returned (.bool true) ∧ Ext w w' := by
  go_enter Tryd.func32, Tryd.ntmps32
  go_wp2_with fail
  refine (row15_c 1 97 2 (by omega) _).mono ?_
  rintro e w1 ⟨rfl, hx1, hr1⟩
  go_wp2_with fail
  refine (row15_c 1 97 1 (by omega) _).mono ?_
  rintro e w2 ⟨rfl, hx2, hr2⟩
  go_wp2_with fail
  refine (row15_c 1 97 1 (by omega) _).mono ?_
  rintro e w3 ⟨rfl, hx3, hr3⟩
  have i1 : Ints w3 (.slice (some ⟨w.heap.size, 0, none⟩) 256 256) (row15 1 97 2) := rowIs_ints (rowIs_ext (hx2.trans hx3) hr1) (row15_len _ _ _) (by omega) 256 (Nat.le_refl _)
  have i2 : Ints w3 (.slice (some ⟨w1.heap.size, 0, none⟩) 256 256) (row15 1 97 1) := rowIs_ints (rowIs_ext hx3 hr2) (row15_len _ _ _) (by omega) 256 (Nat.le_refl _)
  have i3 : Ints w3 (.slice (some ⟨w2.heap.size, 0, none⟩) 256 256) (row15 1 97 1) := rowIs_ints hr3 (row15_len _ _ _) (by omega) 256 (Nat.le_refl _)
  have hxa : Ext w w3 := hx1.trans (hx2.trans hx3)
  have hrw := rows_three 23 i1 i2 i3
  have hlb := ints_three (w3.alloc (.cells #[.slice (some ⟨w.heap.size, 0, none⟩) 256 256, .slice (some ⟨w1.heap.size, 0, none⟩) 256 256, .slice (some ⟨w2.heap.size, 0, none⟩) 256 256] 23)) 3 (-1) (-1) 0
  rw [World.size_alloc] at hlb
  have hd := denses_one (d := wD) 25 (RowsV.ext (Ext.box _ (.cells #[.int .i64 (-1), .int .i64 (-1), .int .i64 0] 3)) hrw) hlb
  simp only [World.size_alloc] at hd
  have hbd := build_c hd wD_mayL
  unfold BuiltR at hbd
  rw [wD_count] at hbd
  have HX := Lib.hid (And.intro hxa hbd)
  clear hx1 hx2 hx3 hr1 hr2 hr3 i1 i2 i3 hxa hrw hlb hd hbd
  go_wp2_with fail
  refine HX.out.2.mono ?_
  rintro e w4 ⟨cv, sv, nv, lv, rfl, hT, hx4⟩
  have hT2 := hT.tbl
  rw [wD_count] at hT2
  have hT' := hT2
  obtain ⟨ac, cc, sa, sc, an, nc, al, lc, hv, _, _⟩ := hT'.open
  simp only [tabV, Value.agg.injEq, Array.mk.injEq, List.cons.injEq, and_true] at hv
  obtain ⟨rfl, _, rfl, rfl, rfl⟩ := hv
  obtain ⟨n1, hn1⟩ : ∃ n, n = (built [wD]).tbl.classes.length := ⟨_, rfl⟩
  obtain ⟨n2, hn2⟩ : ∃ n, n = (built [wD]).tbl.starts.length := ⟨_, rfl⟩
  obtain ⟨n3, hn3⟩ : ∃ n, n = (built [wD]).tbl.next.length := ⟨_, rfl⟩
  obtain ⟨n4, hn4⟩ : ∃ n, n = (built [wD]).tbl.label.length := ⟨_, rfl⟩
  rw [← hn1, ← hn2, ← hn3, ← hn4] at hT hT2
  rw [← hn1, ← hn2, ← hn3, ← hn4]
  unfold tabV at hT2 ⊢
  have hT2 : TblV w4 (.agg #[.slice ac n1 cc, .int .i64 2, .slice sa n2 sc, .slice an n3 nc, .slice al n4 lc]) (built [wD]).tbl := hT2
  obtain ⟨w5, hw5⟩ : ∃ w5, w5 = w4.alloc (.cells #[.slice ac n1 cc, .int .i64 2, .slice sa n2 sc, .slice an n3 nc, .slice al n4 lc] 67) := ⟨_, rfl⟩
  have hx5 : Ext w4 w5 := by rw [hw5]; exact Ext.box _ _
  have k1 : w5.cell? ⟨w4.heap.size, 1, none⟩ = some (.int .i64 2) := by rw [hw5]; simp
  have k0 : w5.cell? ⟨w4.heap.size, 0, none⟩ = some (.slice ac n1 cc) := by rw [hw5]; simp
  have k2 : w5.cell? ⟨w4.heap.size, 2, none⟩ = some (.slice sa n2 sc) := by rw [hw5]; simp
  have k3 : w5.cell? ⟨w4.heap.size, 3, none⟩ = some (.slice an n3 nc) := by rw [hw5]; simp
  have k4 : w5.cell? ⟨w4.heap.size, 4, none⟩ = some (.slice al n4 lc) := by rw [hw5]; simp
  have hen := entry_c (T := (built [wD]).tbl) (s := 0) (b := 97) (hT2.ext hx5) (built_may wD_mayL) (by show 0 < (built [wD]).next.length; rw [wD_next]; simp) (by omega)
  rw [built_entry _ _ (by omega), wD_ent] at hen
  have HY := Lib.hid (And.intro hT (And.intro hT2 (And.intro hx5 (And.intro (HX.out.1.trans ((((Ext.box _ _).trans (Ext.box _ _)).trans (Ext.box _ _)).trans hx4)) hen))))
  clear hT hT2 hx4 hx5 hen HX hn1 hn2 hn3 hn4
  go_upto_region 2 with fail
  rw [← hw5]
  clear hw5
  go_wp2_with fail
  refine HY.out.2.2.2.2.mono ?_
  rintro e w6 ⟨rfl, hx6⟩
  have HZ := Lib.hid hx6
  have q1 := hx6.cell k1
  have q3 := hx6.cell k3
  have q4 := hx6.cell k4
  have q0 := hx6.cell k0
  have q2 := hx6.cell k2
  have hN : RowsV w6 (.slice an n3 nc) [[-1, 1], [-1, -1]] := by rw [← wD_next]; exact RowsV.ext (HY.out.2.2.1.trans hx6) HY.out.1.next
  have hL : Ints w6 (.slice al n4 lc) [-1, 0] := by rw [← wD_label]; exact IntsK.ext (HY.out.2.2.1.trans hx6) HY.out.1.label
  have r1 := ints_two w6 3 (-1) 1
  have r2 := ints_two (w6.alloc (.cells #[.int .i64 (-1), .int .i64 1] 3)) 3 (-1) (-1)
  rw [World.size_alloc] at r2
  have r3 := rows_two 23 (IntsK.ext (Ext.box _ (.cells #[.int .i64 (-1), .int .i64 (-1)] 3)) r1) r2
  simp only [World.size_alloc] at r3
  have he1 := eqRows_b (r := true) (RowsV.ext (((Ext.box w6 _).trans (Ext.box _ _)).trans (Ext.box _ _)) hN) r3 (by simp)
  have HE := Lib.hid (And.intro he1 hL)
  clear k0 k1 k2 k3 k4 hx6 hN hL r1 r2 r3 he1
  go_wp2_with fail
  refine HE.out.1.mono ?_
  rintro e w7 ⟨rfl, hx7⟩
  have hx67 : Ext w6 w7 := (((Ext.box w6 _).trans (Ext.box _ _)).trans (Ext.box _ _)).trans hx7
  have s4 := hx67.cell q4
  have s0 := hx67.cell q0
  have s1 := hx67.cell q1
  have s2 := hx67.cell q2
  have s3 := hx67.cell q3
  have he2 := eqInts_b (r := true) (IntsK.ext (hx67.trans (Ext.box w7 (.cells #[.int .i64 (-1), .int .i64 0] 3))) HE.out.2) (ints_two w7 3 (-1) 0) (by simp)
  have H7 := Lib.hid (And.intro hx67 he2)
  clear hx7 hx67 q0 q1 q2 q3 q4 he2
  go_wp2_with fail
  refine H7.out.2.mono ?_
  rintro e w8 ⟨rfl, hx8⟩
  have hx78 : Ext w7 w8 := (Ext.box w7 _).trans hx8
  have t4 := hx78.cell s4
  have t0 := hx78.cell s0
  have t1 := hx78.cell s1
  have t2 := hx78.cell s2
  have t3 := hx78.cell s3
  have hx48 : Ext w4 w8 := HY.out.2.2.1.trans (HZ.out.trans (H7.out.1.trans hx78))
  have hck := rcheck_c (HY.out.2.1.ext hx48)
  rw [mayT_true.2 (built_may wD_mayL)] at hck
  have H8 := Lib.hid (And.intro hx48 hck)
  clear hx8 hx78 hx48 hck s0 s1 s2 s3 s4
  go_wp2_with fail
  refine H8.out.2.mono ?_
  rintro e w9 ⟨rfl, hx9⟩
  have H9 := Lib.hid hx9
  clear hx9 t0 t1 t2 t3 t4
  go_wp2_with fail
  go_ret
  exact ⟨rfl, HY.out.2.2.2.1.trans (H8.out.1.trans H9.out)⟩
end Go.Proofs.YtloooajippcdlaaDoor
