/- bolterref0.EqTable of two equal tables. -/
import Derived.Test.YtloooajippcdlaaDoorTblV
import Derived.Test.YtloooajippcdlaaDoorEqDense
namespace Go.Proofs.YtloooajippcdlaaDoor
open Go.RowKit

set_option maxRecDepth 100000 in
set_option maxHeartbeats 1000000 in
theorem eqTable_c {w : World} {va vb : Value} {T : Tbl} (ha : TblV w va T) (hb : TblV w vb T) : Calls Tryd.prog 29 #[va, vb] w fun e w' => e = .returned (.bool true) ∧ Ext w w' := by
  obtain ⟨cv, sv, nv, lv, rfl, h1, h2, h3, h4⟩ := ha
  obtain ⟨cv', sv', nv', lv', rfl, g1, g2, g3, g4⟩ := hb
  have H := Lib.hid (And.intro h1 (And.intro h2 (And.intro h3 (And.intro h4 (And.intro g1 (And.intro g2 (And.intro g3 g4)))))))
  obtain ⟨_, a1, c1, rfl, _, _⟩ := h1.open
  obtain ⟨_, a2, c2, rfl, _, _⟩ := h2.open
  obtain ⟨_, a3, c3, rfl, _, _⟩ := h3.open
  obtain ⟨_, a4, c4, rfl, _, _⟩ := h4.open
  obtain ⟨_, b1, d1, rfl, _, _⟩ := g1.open
  obtain ⟨_, b2, d2, rfl, _, _⟩ := g2.open
  obtain ⟨_, b3, d3, rfl, _, _⟩ := g3.open
  obtain ⟨_, b4, d4, rfl, _, _⟩ := g4.open
  clear h1 h2 h3 h4 g1 g2 g3 g4
  generalize T.classes.length = n1 at *
  generalize T.starts.length = n2 at *
  generalize T.next.length = n3 at *
  generalize T.label.length = n4 at *
  generalize T.count = ct at *
  obtain ⟨W, hW⟩ : ∃ W, W = (w.alloc (.cells #[.slice a1 n1 c1, .int .i64 ct, .slice a2 n2 c2, .slice a3 n3 c3, .slice a4 n4 c4] 67)).alloc (.cells #[.slice b1 n1 d1, .int .i64 ct, .slice b2 n2 d2, .slice b3 n3 d3, .slice b4 n4 d4] 67) := ⟨_, rfl⟩
  have hE : Ext w W := by rw [hW]; exact (Ext.box w _).alloc _
  have k1 : W.cell? ⟨w.heap.size, 1, none⟩ = some (.int .i64 ct) := by rw [hW]; simp
  have k2 : W.cell? ⟨w.heap.size, 2, none⟩ = some (.slice a2 n2 c2) := by rw [hW]; simp
  have k3 : W.cell? ⟨w.heap.size, 3, none⟩ = some (.slice a3 n3 c3) := by rw [hW]; simp
  have k4 : W.cell? ⟨w.heap.size, 4, none⟩ = some (.slice a4 n4 c4) := by rw [hW]; simp
  have l1 : W.cell? ⟨w.heap.size + 1, 1, none⟩ = some (.int .i64 ct) := by rw [hW]; simp
  have l2 : W.cell? ⟨w.heap.size + 1, 2, none⟩ = some (.slice b2 n2 d2) := by rw [hW]; simp
  have l3 : W.cell? ⟨w.heap.size + 1, 3, none⟩ = some (.slice b3 n3 d3) := by rw [hW]; simp
  have l4 : W.cell? ⟨w.heap.size + 1, 4, none⟩ = some (.slice b4 n4 d4) := by rw [hW]; simp
  have e1 := eqInts_b (r := true) (IntsK.ext hE H.out.1) (IntsK.ext hE H.out.2.2.2.2.1) (by simp)
  have HW := Lib.hid (And.intro hW (And.intro hE (And.intro e1 (And.intro k1 (And.intro k2 (And.intro k3 (And.intro k4 (And.intro l1 (And.intro l2 (And.intro l3 l4))))))))))
  clear hW hE e1 k1 k2 k3 k4 l1 l2 l3 l4
  go_enter Tryd.func29, Tryd.ntmps29
  go_wp2_with fail
  rw [← HW.out.1]
  refine HW.out.2.2.1.mono ?_
  rintro e w1 ⟨rfl, hx1⟩
  have i1 := hx1.cell HW.out.2.2.2.1
  have i2 := hx1.cell HW.out.2.2.2.2.1
  have j1 := hx1.cell HW.out.2.2.2.2.2.2.2.1
  have j2 := hx1.cell HW.out.2.2.2.2.2.2.2.2.1
  have e2 := eqInts_b (r := true) (IntsK.ext (HW.out.2.1.trans hx1) H.out.2.1) (IntsK.ext (HW.out.2.1.trans hx1) H.out.2.2.2.2.2.1) (by simp)
  have hct : (ct == ct) = true := by simp
  have H1 := Lib.hid (And.intro hx1 e2)
  clear hx1 e2
  go_wp2_with fail
  refine H1.out.2.mono ?_
  rintro e w2 ⟨rfl, hx2⟩
  have hx02 := H1.out.1.trans hx2
  have i3 := hx02.cell HW.out.2.2.2.2.2.1
  have j3 := hx02.cell HW.out.2.2.2.2.2.2.2.2.2.1
  have e3 := eqRows_b (r := true) (RowsV.ext (HW.out.2.1.trans hx02) H.out.2.2.1) (RowsV.ext (HW.out.2.1.trans hx02) H.out.2.2.2.2.2.2.1) (by simp)
  have H2 := Lib.hid (And.intro hx02 e3)
  clear hx2 hx02 e3 i1 i2 j1 j2 hct
  go_wp2_with fail
  refine H2.out.2.mono ?_
  rintro e w3 ⟨rfl, hx3⟩
  have hx03 := H2.out.1.trans hx3
  have i4 := hx03.cell HW.out.2.2.2.2.2.2.1
  have j4 := hx03.cell HW.out.2.2.2.2.2.2.2.2.2.2
  have e4 := eqInts_b (r := true) (IntsK.ext (HW.out.2.1.trans hx03) H.out.2.2.2.1) (IntsK.ext (HW.out.2.1.trans hx03) H.out.2.2.2.2.2.2.2) (by simp)
  have H3 := Lib.hid (And.intro hx03 e4)
  clear hx3 hx03 e4 i3 j3
  go_wp2_with fail
  refine H3.out.2.mono ?_
  rintro e w4 ⟨rfl, hx4⟩
  have H4 := Lib.hid (HW.out.2.1.trans (H3.out.1.trans hx4))
  clear hx4 i4 j4
  go_wp2
  go_ret
  exact ⟨rfl, H4.out⟩
end Go.Proofs.YtloooajippcdlaaDoor
