/- bolterref0.CopyTable and EqTable; rows.Entry where it refuses. -/
import Derived.Test.YtpeipjfmibjoiaaDoorTblCheck
import Derived.Test.YtpeipjfmibjoiaaDoorEqDense
import Derived.Test.YtpeipjfmibjoiaaDoorCopyRows
import Derived.Test.YtpeipjfmibjoiaaDoorTell
namespace Go.Proofs.YtpeipjfmibjoiaaDoor
open Go.RowKit

/-- what is known of a table that was read -/
structure TblFits (T : Tbl) : Prop where
  classes : T.classes.length * 8 ≤ 140737488355328
  starts : T.starts.length * 8 ≤ 140737488355328
  next : T.next.length * 24 ≤ 140737488355328
  rows : ∀ l ∈ T.next, l.length * 8 ≤ 140737488355328
  label : T.label.length * 8 ≤ 140737488355328

/-- what a call made reads in every world that has its blocks -/
def Far (w w' : World) (R : World → Prop) : Prop := ∀ W, (∀ g, w.heap.size ≤ g → g < w'.heap.size → W.heap[g]? = w'.heap[g]?) → R W
theorem copyI_s {va : Value} {la : List Int} {w : World} (ha : IntsK .i64 w va la) (hb8 : la.length * 8 ≤ 140737488355328) :
    Calls Tryd.prog 82 #[va] w fun e w' => ∃ a n cap, e = .returned (.slice a n cap) ∧ Far w w' (fun W => Ints W (.slice a n cap) la) ∧ Ext w w' := by
  refine (copyInts_s ha hb8).mono ?_
  rintro e w' ⟨a, n, cap, rfl, hown, hx⟩
  exact ⟨a, n, cap, rfl, fun W hW => own_ints (own_block hown fun g hg hl => hW g (hown.lt g hg).1 hl) (by omega), hx⟩
theorem copyR_s {va : Value} {la : List (List Int)} {w : World} (ha : RowsV w va la) (hb24 : la.length * 24 ≤ 140737488355328) (hb8 : ∀ l ∈ la, l.length * 8 ≤ 140737488355328) :
    Calls Tryd.prog 81 #[va] w fun e w' => ∃ a n cap, e = .returned (.slice a n cap) ∧ Far w w' (fun W => RowsV W (.slice a n cap) la) ∧ Ext w w' := by
  refine (copyRows_s ha hb24 hb8).mono ?_
  rintro e w' ⟨a, n, cap, own, hs, rfl, hr, hx⟩
  refine ⟨a, n, cap, rfl, fun W hW => ?_, hx⟩
  have hr2 : Rows2 W w.heap.size own (.slice a n cap) hs la :=
    ⟨own_block hr.top fun g hg hl => hW g (hr.top.lt g hg).1 hl, hr.topOwn, fun i hv l h1 h2 => ⟨own_block (hr.row i hv l h1 h2).1 fun g hg hl => hW g ((hr.row i hv l h1 h2).1.lt g hg).1 hl, (hr.row i hv l h1 h2).2⟩⟩
  exact hr2.read (by omega) (fun l hl => by have := hb8 l hl; omega)

def CopiedTbl (T : Tbl) (w : World) (e : Ending) (w' : World) : Prop := ∃ v, e = .returned v ∧ TblV w' v T ∧ Ext w w'

set_option maxRecDepth 100000 in
set_option maxHeartbeats 4000000 in
theorem copyTable_c {w : World} {v : Value} {T : Tbl} (h : TblV w v T) (hf : TblFits T) : Calls Tryd.prog 58 #[v] w (CopiedTbl T w) := by
  obtain ⟨cv, sv, nv, lv, rfl, h1, h2, h3, h4⟩ := h
  have H := Lib.hid (And.intro h1 (And.intro h2 (And.intro h3 (And.intro h4 hf))))
  obtain ⟨_, a1, c1, rfl, _, _⟩ := h1.open
  obtain ⟨_, a2, c2, rfl, _, _⟩ := h2.open
  obtain ⟨_, a3, c3, rfl, _, _⟩ := h3.open
  obtain ⟨_, a4, c4, rfl, _, _⟩ := h4.open
  clear h1 h2 h3 h4 hf
  obtain ⟨n1, hn1⟩ : ∃ n, n = T.classes.length := ⟨_, rfl⟩
  obtain ⟨n2, hn2⟩ : ∃ n, n = T.starts.length := ⟨_, rfl⟩
  obtain ⟨n3, hn3⟩ : ∃ n, n = T.next.length := ⟨_, rfl⟩
  obtain ⟨n4, hn4⟩ : ∃ n, n = T.label.length := ⟨_, rfl⟩
  obtain ⟨ct, hct⟩ : ∃ c, c = T.count := ⟨_, rfl⟩
  rw [← hn1, ← hn2, ← hn3, ← hn4] at H
  rw [← hn1, ← hn2, ← hn3, ← hn4, ← hct]
  have HC := Lib.hid hct
  clear hn1 hn2 hn3 hn4 hct
  go_enter Tryd.func58, Tryd.ntmps58
  go_wp2_with fail
  obtain ⟨W, hW⟩ : ∃ W, W = (w.alloc (.cells #[.slice a1 n1 c1, .int .i64 ct, .slice a2 n2 c2, .slice a3 n3 c3, .slice a4 n4 c4] 37)).alloc (.cells #[.slice none 0 0, .int .i64 0, .slice none 0 0, .slice none 0 0, .slice none 0 0] 37) := ⟨_, rfl⟩
  rw [← hW]
  have hE : Ext w W := by rw [hW]; exact (Ext.box w _).alloc _
  have k0 : W.cell? ⟨w.heap.size, 0, none⟩ = some (.slice a1 n1 c1) := by rw [hW]; simp
  have k1 : W.cell? ⟨w.heap.size, 1, none⟩ = some (.int .i64 ct) := by rw [hW]; simp
  have k2 : W.cell? ⟨w.heap.size, 2, none⟩ = some (.slice a2 n2 c2) := by rw [hW]; simp
  have k3 : W.cell? ⟨w.heap.size, 3, none⟩ = some (.slice a3 n3 c3) := by rw [hW]; simp
  have k4 : W.cell? ⟨w.heap.size, 4, none⟩ = some (.slice a4 n4 c4) := by rw [hW]; simp
  have r9 : W.rowIs (w.heap.size + 1) 37 5 (rF (.slice none 0 0) (.int .i64 0) (.slice none 0 0) (.slice none 0 0) (.slice none 0 0)) := by
    have q := World.rowIs_alloc (w.alloc (.cells #[.slice a1 n1 c1, .int .i64 ct, .slice a2 n2 c2, .slice a3 n3 c3, .slice a4 n4 c4] 37)) #[.slice none 0 0, .int .i64 0, .slice none 0 0, .slice none 0 0, .slice none 0 0] 37 (rF (.slice none 0 0) (.int .i64 0) (.slice none 0 0) (.slice none 0 0) (.slice none 0 0)) (fun i hi => by rcases rF_at hi with rfl | rfl | rfl | rfl | rfl <;> rfl)
    rw [World.size_alloc] at q
    rw [hW]; exact q
  have hz : ∀ W', Ext W W' → W'.cell? ⟨w.heap.size + 1, 0, none⟩ = some (.slice none 0 0) ∧ W'.cell? ⟨w.heap.size + 1, 1, none⟩ = some (.int .i64 0) ∧ W'.cell? ⟨w.heap.size + 1, 2, none⟩ = some (.slice none 0 0) ∧ W'.cell? ⟨w.heap.size + 1, 3, none⟩ = some (.slice none 0 0) ∧ W'.cell? ⟨w.heap.size + 1, 4, none⟩ = some (.slice none 0 0) ∧
      W'.frozen? ⟨w.heap.size + 1, 0, none⟩ = false ∧ W'.frozen? ⟨w.heap.size + 1, 1, none⟩ = false ∧ W'.frozen? ⟨w.heap.size + 1, 2, none⟩ = false ∧ W'.frozen? ⟨w.heap.size + 1, 3, none⟩ = false ∧ W'.frozen? ⟨w.heap.size + 1, 4, none⟩ = false := fun W' hx => by
    have q := rowIs_ext hx r9
    exact ⟨q.cell (i := 0) (by omega), q.cell (i := 1) (by omega), q.cell (i := 2) (by omega), q.cell (i := 3) (by omega), q.cell (i := 4) (by omega), q.frozen 0, q.frozen 1, q.frozen 2, q.frozen 3, q.frozen 4⟩
  have q0 : W.drew.cell? ⟨w.heap.size, 0, none⟩ = some (.slice a1 n1 c1) := k0
  have q1 : W.drew.cell? ⟨w.heap.size, 1, none⟩ = some (.int .i64 ct) := k1
  have q2 : W.drew.cell? ⟨w.heap.size, 2, none⟩ = some (.slice a2 n2 c2) := k2
  have q3 : W.drew.cell? ⟨w.heap.size, 3, none⟩ = some (.slice a3 n3 c3) := k3
  have q4 : W.drew.cell? ⟨w.heap.size, 4, none⟩ = some (.slice a4 n4 c4) := k4
  have HR := Lib.hid r9
  have HZ := Lib.hid hz
  clear hW r9 hz
  go_region_held3 (fun W => W.cell? ⟨w.heap.size, 0, none⟩ = some (.slice a1 n1 c1) ∧ W.cell? ⟨w.heap.size, 1, none⟩ = some (.int .i64 ct) ∧ W.cell? ⟨w.heap.size, 2, none⟩ = some (.slice a2 n2 c2) ∧ W.cell? ⟨w.heap.size, 3, none⟩ = some (.slice a3 n3 c3) ∧ W.cell? ⟨w.heap.size, 4, none⟩ = some (.slice a4 n4 c4))
    (first | (with_reducible exact ⟨l0, l1, l2, l3, l4⟩) | (with_reducible exact ⟨m0, m1, m2, m3, m4⟩) | (with_reducible exact ⟨j0, j1, j2, j3, j4⟩) | (with_reducible exact ⟨i0, i1, i2, i3, i4⟩) | (with_reducible exact ⟨k0, k1, k2, k3, k4⟩) | (with_reducible exact ⟨q0, q1, q2, q3, q4⟩) | go_keep)
    ((first | (go_at_call 82; (with_reducible refine (copyI_s (IntsK.ext hE.drew H.out.1) H.out.2.2.2.2.classes).mono ?_); rintro e w1 ⟨b1, p1, d1, rfl, y1, hx1⟩; have i0 := hx1.cell (a := W.drew) k0; have i1 := hx1.cell (a := W.drew) k1; have i2 := hx1.cell (a := W.drew) k2; have i3 := hx1.cell (a := W.drew) k3; have i4 := hx1.cell (a := W.drew) k4) | (go_at_call 82; (with_reducible refine (copyI_s (IntsK.ext (hE.drew.trans hx1) H.out.2.1) H.out.2.2.2.2.starts).mono ?_); rintro e w2 ⟨b2, p2, d2, rfl, y2, hx2⟩; have j0 := hx2.cell i0; have j1 := hx2.cell i1; have j2 := hx2.cell i2; have j3 := hx2.cell i3; have j4 := hx2.cell i4) | (go_at_call 81; (with_reducible refine (copyR_s (RowsV.ext ((hE.drew.trans hx1).trans hx2) H.out.2.2.1) H.out.2.2.2.2.next H.out.2.2.2.2.rows).mono ?_); rintro e w3 ⟨b3, p3, d3, rfl, y3, hx3⟩; have m0 := hx3.cell j0; have m1 := hx3.cell j1; have m2 := hx3.cell j2; have m3 := hx3.cell j3; have m4 := hx3.cell j4) | (go_at_call 82; (with_reducible refine (copyI_s (IntsK.ext (((hE.drew.trans hx1).trans hx2).trans hx3) H.out.2.2.2.1) H.out.2.2.2.2.label).mono ?_); rintro e w4 ⟨b4, p4, d4, rfl, y4, hx4⟩; have l0 := hx4.cell m0; have l1 := hx4.cell m1; have l2 := hx4.cell m2; have l3 := hx4.cell m3; have l4 := hx4.cell m4; obtain ⟨z0, z1, z2, z3, z4, f0, f1, f2, f3, f4⟩ := HZ.out w4 (Ext.trans (Ext.drew (Ext.refl W)) (hx1.trans (hx2.trans (hx3.trans hx4)))))))
  have s1 := hx1.size
  have s2 := hx2.size
  have s3 := hx3.size
  have s4 := hx4.size
  have sE := hE.size
  have hx24 := hx2.trans (hx3.trans hx4)
  have hx34 := hx3.trans hx4
  have hXX : Ext W w4 := Ext.trans (Ext.drew (Ext.refl W)) (hx1.trans hx24)
  have hr9 := rowIs_set5 (rowIs_ext hXX HR.out) (.slice b1 p1 d1) (.int .i64 ct) (.slice b2 p2 d2) (.slice b3 p3 d3) (.slice b4 p4 d4)
  have hle : w.heap.size ≤ w.heap.size + 1 := by omega
  have hXf : Ext w (((((w4.setCell ⟨w.heap.size + 1, 0, none⟩ (.slice b1 p1 d1)).setCell ⟨w.heap.size + 1, 1, none⟩ (.int .i64 ct)).setCell ⟨w.heap.size + 1, 2, none⟩ (.slice b2 p2 d2)).setCell ⟨w.heap.size + 1, 3, none⟩ (.slice b3 p3 d3)).setCell ⟨w.heap.size + 1, 4, none⟩ (.slice b4 p4 d4)) := (((((hE.trans hXX).setCell hle _).setCell hle _).setCell hle _).setCell hle _).setCell hle _
  have hWs : w.heap.size + 1 < W.drew.heap.size := lt_of_cell (z0 : w4.cell? _ = _) |> fun _ => by have := HR.out.lt; exact this
  have far : ∀ g, W.heap.size ≤ g → (((((w4.setCell ⟨w.heap.size + 1, 0, none⟩ (.slice b1 p1 d1)).setCell ⟨w.heap.size + 1, 1, none⟩ (.int .i64 ct)).setCell ⟨w.heap.size + 1, 2, none⟩ (.slice b2 p2 d2)).setCell ⟨w.heap.size + 1, 3, none⟩ (.slice b3 p3 d3)).setCell ⟨w.heap.size + 1, 4, none⟩ (.slice b4 p4 d4)).heap[g]? = w4.heap[g]? := fun g hg => heap_set5 (by have := HR.out.lt; omega)
  generalize World.setCell (World.setCell (World.setCell (World.setCell (World.setCell w4 _ _) _ _) _ _) _ _) _ _ = Wf at hr9 hXf far ⊢
  have s0 : W.heap.size ≤ W.drew.heap.size := Nat.le_refl _
  have t1 := y1 Wf fun g hg hl => (far g (by omega)).trans (hx24.block g hl)
  have t2 := y2 Wf fun g hg hl => (far g (by omega)).trans (hx34.block g hl)
  have t3 := y3 Wf fun g hg hl => (far g (by omega)).trans (hx4.block g hl)
  have t4 := y4 Wf fun g hg _ => far g (by omega)
  have v0 : Wf.cell? ⟨w.heap.size + 1, 0, none⟩ = some (.slice b1 p1 d1) := hr9.cell (i := 0) (by omega)
  have v1 : Wf.cell? ⟨w.heap.size + 1, 1, none⟩ = some (.int .i64 ct) := hr9.cell (i := 1) (by omega)
  have v2 : Wf.cell? ⟨w.heap.size + 1, 2, none⟩ = some (.slice b2 p2 d2) := hr9.cell (i := 2) (by omega)
  have v3 : Wf.cell? ⟨w.heap.size + 1, 3, none⟩ = some (.slice b3 p3 d3) := hr9.cell (i := 3) (by omega)
  have v4 : Wf.cell? ⟨w.heap.size + 1, 4, none⟩ = some (.slice b4 p4 d4) := hr9.cell (i := 4) (by omega)
  have HF := Lib.hid (And.intro t1 (And.intro t2 (And.intro t3 (And.intro t4 hXf))))
  clear t1 t2 t3 t4 hXf hr9 far y1 y2 y3 y4
  (try simp only [Exit.then])
  go_wp2
  exact bodyPost_ret (v := .agg #[.slice b1 p1 d1, .int .i64 ct, .slice b2 p2 d2, .slice b3 p3 d3, .slice b4 p4 d4]) (by simp [results, Tryd.results58, go_sem, v0, v1, v2, v3, v4]) rfl ⟨_, rfl, ⟨_, _, _, _, by rw [HC.out], HF.out.1, HF.out.2.1, HF.out.2.2.1, HF.out.2.2.2.1⟩, HF.out.2.2.2.2⟩

set_option maxRecDepth 100000 in
set_option maxHeartbeats 1000000 in
theorem eqTable_c {w : World} {va vb : Value} {T : Tbl} (ha : TblV w va T) (hb : TblV w vb T) : Calls Tryd.prog 56 #[va, vb] w fun e w' => e = .returned (.bool true) ∧ Ext w w' := by
  obtain ⟨cv, sv, nv, lv, rfl, h1, h2, h3, h4⟩ := ha
  obtain ⟨cv', sv', nv', lv', rfl, g1, g2, g3, g4⟩ := hb
  have H := Lib.hid (And.intro h1 (And.intro h2 (And.intro h3 (And.intro h4 (And.intro g1 (And.intro g2 (And.intro g3 g4)))))))
  obtain ⟨_, a1, c1, rfl, _, _⟩ := h1.open
  obtain ⟨_, a2, c2, rfl, _, _⟩ := h2.open
  obtain ⟨_, a3, c3, rfl, _, _⟩ := h3.open
  obtain ⟨_, a4, c4, rfl, _, _⟩ := h4.open
  obtain ⟨_, b1, d1, rfl, _, _⟩ := g1.open
  obtain ⟨_, b2, d2, rfl, _, _⟩ := g2.open
  obtain ⟨_, b3, d3, rfl, _, _⟩ := g3.open
  obtain ⟨_, b4, d4, rfl, _, _⟩ := g4.open
  clear h1 h2 h3 h4 g1 g2 g3 g4
  generalize T.classes.length = n1 at *
  generalize T.starts.length = n2 at *
  generalize T.next.length = n3 at *
  generalize T.label.length = n4 at *
  generalize T.count = ct at *
  obtain ⟨W, hW⟩ : ∃ W, W = (w.alloc (.cells #[.slice a1 n1 c1, .int .i64 ct, .slice a2 n2 c2, .slice a3 n3 c3, .slice a4 n4 c4] 37)).alloc (.cells #[.slice b1 n1 d1, .int .i64 ct, .slice b2 n2 d2, .slice b3 n3 d3, .slice b4 n4 d4] 37) := ⟨_, rfl⟩
  have hE : Ext w W := by rw [hW]; exact (Ext.box w _).alloc _
  have k1 : W.cell? ⟨w.heap.size, 1, none⟩ = some (.int .i64 ct) := by rw [hW]; simp
  have k2 : W.cell? ⟨w.heap.size, 2, none⟩ = some (.slice a2 n2 c2) := by rw [hW]; simp
  have k3 : W.cell? ⟨w.heap.size, 3, none⟩ = some (.slice a3 n3 c3) := by rw [hW]; simp
  have k4 : W.cell? ⟨w.heap.size, 4, none⟩ = some (.slice a4 n4 c4) := by rw [hW]; simp
  have l1 : W.cell? ⟨w.heap.size + 1, 1, none⟩ = some (.int .i64 ct) := by rw [hW]; simp
  have l2 : W.cell? ⟨w.heap.size + 1, 2, none⟩ = some (.slice b2 n2 d2) := by rw [hW]; simp
  have l3 : W.cell? ⟨w.heap.size + 1, 3, none⟩ = some (.slice b3 n3 d3) := by rw [hW]; simp
  have l4 : W.cell? ⟨w.heap.size + 1, 4, none⟩ = some (.slice b4 n4 d4) := by rw [hW]; simp
  have e1 := eqInts_b (r := true) (IntsK.ext hE H.out.1) (IntsK.ext hE H.out.2.2.2.2.1) (by simp)
  have HW := Lib.hid (And.intro hW (And.intro hE (And.intro e1 (And.intro k1 (And.intro k2 (And.intro k3 (And.intro k4 (And.intro l1 (And.intro l2 (And.intro l3 l4))))))))))
  clear hW hE e1 k1 k2 k3 k4 l1 l2 l3 l4
  go_enter Tryd.func56, Tryd.ntmps56
  go_wp2_with fail
  rw [← HW.out.1]
  refine HW.out.2.2.1.mono ?_
  rintro e w1 ⟨rfl, hx1⟩
  have i1 := hx1.cell HW.out.2.2.2.1
  have i2 := hx1.cell HW.out.2.2.2.2.1
  have j1 := hx1.cell HW.out.2.2.2.2.2.2.2.1
  have j2 := hx1.cell HW.out.2.2.2.2.2.2.2.2.1
  have e2 := eqInts_b (r := true) (IntsK.ext (HW.out.2.1.trans hx1) H.out.2.1) (IntsK.ext (HW.out.2.1.trans hx1) H.out.2.2.2.2.2.1) (by simp)
  have hct : (ct == ct) = true := by simp
  have H1 := Lib.hid (And.intro hx1 e2)
  clear hx1 e2
  go_wp2_with fail
  refine H1.out.2.mono ?_
  rintro e w2 ⟨rfl, hx2⟩
  have hx02 := H1.out.1.trans hx2
  have i3 := hx02.cell HW.out.2.2.2.2.2.1
  have j3 := hx02.cell HW.out.2.2.2.2.2.2.2.2.2.1
  have e3 := eqRows_b (r := true) (RowsV.ext (HW.out.2.1.trans hx02) H.out.2.2.1) (RowsV.ext (HW.out.2.1.trans hx02) H.out.2.2.2.2.2.2.1) (by simp)
  have H2 := Lib.hid (And.intro hx02 e3)
  clear hx2 hx02 e3 i1 i2 j1 j2 hct
  go_wp2_with fail
  refine H2.out.2.mono ?_
  rintro e w3 ⟨rfl, hx3⟩
  have hx03 := H2.out.1.trans hx3
  have i4 := hx03.cell HW.out.2.2.2.2.2.2.1
  have j4 := hx03.cell HW.out.2.2.2.2.2.2.2.2.2.2
  have e4 := eqInts_b (r := true) (IntsK.ext (HW.out.2.1.trans hx03) H.out.2.2.2.1) (IntsK.ext (HW.out.2.1.trans hx03) H.out.2.2.2.2.2.2.2) (by simp)
  have H3 := Lib.hid (And.intro hx03 e4)
  clear hx3 hx03 e4 i3 j3
  go_wp2_with fail
  refine H3.out.2.mono ?_
  rintro e w4 ⟨rfl, hx4⟩
  have H4 := Lib.hid (HW.out.2.1.trans (H3.out.1.trans hx4))
  clear hx4 i4 j4
  go_wp2
  go_ret
  exact ⟨rfl, H4.out⟩

set_option maxRecDepth 100000 in
set_option maxHeartbeats 1000000 in
/-- rows.Entry where it refuses -/
theorem entry_no {w : World} {v : Value} {T : Tbl} {s b : Int} {a : Nat → Addr} (h : TblV w v T) (hS : Sents w a) (hno : ¬ (TMay T ∧ 0 ≤ s ∧ s < T.next.length)) :
    Calls Tryd.prog 111 #[v, .int .i64 s, .int .u8 b] w fun e w' => e = .returned (.tuple #[.int .i64 0, .iface 265 (.pointer (some (a 15)))]) ∧ Ext w w' := by
  obtain ⟨cv, sv, nv, lv, rfl, h1, h2, h3, h4⟩ := h
  have hT : TblV w (.agg #[cv, .int .i64 T.count, sv, nv, lv]) T := ⟨cv, sv, nv, lv, rfl, h1, h2, h3, h4⟩
  obtain ⟨_, a1, c1, rfl, _, _⟩ := h1.open
  obtain ⟨_, a2, c2, rfl, _, _⟩ := h2.open
  obtain ⟨hn3, a3, c3, rfl, _, _⟩ := h3.open
  obtain ⟨_, a4, c4, rfl, _, _⟩ := h4.open
  have hck := rcheck_c (hT.ext (Ext.box w (.cells #[.slice a1 T.classes.length c1, .int .i64 T.count, .slice a2 T.starts.length c2, .slice a3 T.next.length c3, .slice a4 T.label.length c4] 37)))
  have hg := hS.cell 15 (by omega) (by omega)
  rw [show gl 15 = 0 from rfl] at hg
  clear hT h1 h2 h3 h4 hS
  generalize a 15 = x at *
  generalize T.classes.length = n1 at *
  generalize T.starts.length = n2 at *
  generalize T.next.length = n3 at *
  generalize T.label.length = n4 at *
  generalize T.count = ct at *
  obtain ⟨m, hm⟩ : ∃ m, m = mayT T := ⟨_, rfl⟩
  rw [← hm] at hck
  have hno' : m = true → ¬ (0 ≤ s ∧ s < n3) := fun e hs => hno ⟨mayT_true.1 (by rw [← hm]; exact e), hs⟩
  have HC := Lib.hid (And.intro hck hg)
  clear hck hm hno hg
  cases m
  · clear hno'
    go_enter Tryd.func111, Tryd.ntmps111
    go_wp2_with fail
    refine HC.out.1.mono ?_
    rintro e w1 ⟨rfl, hx1⟩
    have hx0 := (Ext.box w _).trans hx1
    have g0 := hx0.cell HC.out.2
    have HX := Lib.hid hx0
    clear hx0 hx1
    go_wp2_with fail
    go_quiet (fail)
    go_wp2
    go_ret2
    exact ⟨rfl, HX.out.drewN _⟩
  · have hno2 := hno' rfl
    clear hno'
    by_cases hs : s < 0
    · clear hno2
      go_enter Tryd.func111, Tryd.ntmps111
      go_wp2_with fail
      refine HC.out.1.mono ?_
      rintro e w1 ⟨rfl, hx1⟩
      have hx0 := (Ext.box w _).trans hx1
      have g0 := hx0.cell HC.out.2
      have HX := Lib.hid hx0
      clear hx0 hx1
      go_wp2_with fail
      go_quiet (fail)
      go_wp2
      go_ret2
      exact ⟨rfl, HX.out.drewN _⟩
    · have hs0 : 0 ≤ s := by omega
      have hs1 : (n3 : Int) ≤ s := by omega
      clear hno2
      go_enter Tryd.func111, Tryd.ntmps111
      go_wp2_with fail
      refine HC.out.1.mono ?_
      rintro e w1 ⟨rfl, hx1⟩
      have k3 := hx1.cell (p := ⟨w.heap.size, 3, none⟩) (v := .slice a3 n3 c3) (by simp)
      have hx0 := (Ext.box w _).trans hx1
      have g0 := hx0.cell HC.out.2
      have HX := Lib.hid hx0
      clear hx0 hx1
      go_wp2_with fail
      go_quiet (fail)
      go_wp2
      go_ret2
      exact ⟨rfl, HX.out.drewN _⟩
end Go.Proofs.YtpeipjfmibjoiaaDoor
