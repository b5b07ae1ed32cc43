/- Laws' arguments, read: tables; combs, and what is asked of them. -/
import Derived.Test.YtpeipjfmibjoiaaDoorCombV
import Derived.Test.YtpeipjfmibjoiaaDoorTblOps
import Derived.Test.YtpeipjfmibjoiaaDoorLayS
import Derived.Test.YtpeipjfmibjoiaaDoorLaw
namespace Go.Proofs.YtpeipjfmibjoiaaDoor
open Go.RowKit

structure CmbFits (C : Cmb) : Prop where
  base : C.base.length * 8 ≤ 140737488355328
  dflt : C.dflt.length * 8 ≤ 140737488355328
  next : C.next.length * 8 ≤ 140737488355328
  check : C.check.length * 8 ≤ 140737488355328

def CopiedCmb (C : Cmb) (w : World) (e : Ending) (w' : World) : Prop := ∃ v, e = .returned v ∧ CmbV w' v C ∧ Ext w w'

section
variable {w : World} {b : Nat}
theorem rowIs_set4 {t : TypeId} {f : Nat → Value} (h : w.rowIs b t 4 f) (a0 a1 a2 a3 : Value) :
    ((((w.setCell ⟨b, 0, none⟩ a0).setCell ⟨b, 1, none⟩ a1).setCell ⟨b, 2, none⟩ a2).setCell ⟨b, 3, none⟩ a3).rowIs b t 4 (cF a0 a1 a2 a3) :=
  ((((h.set 0 a0).set 1 a1).set 2 a2).set 3 a3).congr fun i hi => by
    match i, hi with
    | 0, _ => rfl
    | 1, _ => rfl
    | 2, _ => rfl
    | 3, _ => rfl
theorem heap_set4 {a0 a1 a2 a3 : Value} {g : Nat} (h : g ≠ b) :
    ((((w.setCell ⟨b, 0, none⟩ a0).setCell ⟨b, 1, none⟩ a1).setCell ⟨b, 2, none⟩ a2).setCell ⟨b, 3, none⟩ a3).heap[g]? = w.heap[g]? := by
  rw [Below.heap_setCell _ _ _ _ (by simpa using h), Below.heap_setCell _ _ _ _ (by simpa using h), Below.heap_setCell _ _ _ _ (by simpa using h), Below.heap_setCell _ _ _ _ (by simpa using h)]
end

set_option maxRecDepth 100000 in
set_option maxHeartbeats 4000000 in
theorem copyComb_c {w : World} {v : Value} {C : Cmb} (h : CmbV w v C) (hf : CmbFits C) : Calls Tryd.prog 61 #[v] w (CopiedCmb C w) := by
  obtain ⟨v1, v2, v3, v4, rfl, h1, h2, h3, h4⟩ := h
  have H := Lib.hid (And.intro h1 (And.intro h2 (And.intro h3 (And.intro h4 hf))))
  obtain ⟨_, a1, c1, rfl, _, _⟩ := h1.open
  obtain ⟨_, a2, c2, rfl, _, _⟩ := h2.open
  obtain ⟨_, a3, c3, rfl, _, _⟩ := h3.open
  obtain ⟨_, a4, c4, rfl, _, _⟩ := h4.open
  clear h1 h2 h3 h4 hf
  obtain ⟨n1, hn1⟩ : ∃ n, n = C.base.length := ⟨_, rfl⟩
  obtain ⟨n2, hn2⟩ : ∃ n, n = C.dflt.length := ⟨_, rfl⟩
  obtain ⟨n3, hn3⟩ : ∃ n, n = C.next.length := ⟨_, rfl⟩
  obtain ⟨n4, hn4⟩ : ∃ n, n = C.check.length := ⟨_, rfl⟩
  rw [← hn1, ← hn2, ← hn3, ← hn4] at H
  rw [← hn1, ← hn2, ← hn3, ← hn4]
  clear hn1 hn2 hn3 hn4
  go_enter Tryd.func61, Tryd.ntmps61
  go_wp2_with fail
  obtain ⟨W, hW⟩ : ∃ W, W = (w.alloc (.cells #[.slice a1 n1 c1, .slice a2 n2 c2, .slice a3 n3 c3, .slice a4 n4 c4] 40)).alloc (.cells #[.slice none 0 0, .slice none 0 0, .slice none 0 0, .slice none 0 0] 40) := ⟨_, rfl⟩
  rw [← hW]
  have hE : Ext w W := by rw [hW]; exact (Ext.box w _).alloc _
  have k1 : W.cell? ⟨w.heap.size, 0, none⟩ = some (.slice a1 n1 c1) := by rw [hW]; simp
  have k2 : W.cell? ⟨w.heap.size, 1, none⟩ = some (.slice a2 n2 c2) := by rw [hW]; simp
  have k3 : W.cell? ⟨w.heap.size, 2, none⟩ = some (.slice a3 n3 c3) := by rw [hW]; simp
  have k4 : W.cell? ⟨w.heap.size, 3, none⟩ = some (.slice a4 n4 c4) := by rw [hW]; simp
  have r9 : W.rowIs (w.heap.size + 1) 40 4 (cF (.slice none 0 0) (.slice none 0 0) (.slice none 0 0) (.slice none 0 0)) := by
    have q := World.rowIs_alloc (w.alloc (.cells #[.slice a1 n1 c1, .slice a2 n2 c2, .slice a3 n3 c3, .slice a4 n4 c4] 40)) #[.slice none 0 0, .slice none 0 0, .slice none 0 0, .slice none 0 0] 40 (cF (.slice none 0 0) (.slice none 0 0) (.slice none 0 0) (.slice none 0 0)) (fun i hi => cF_at hi)
    rw [World.size_alloc] at q
    rw [hW]; exact q
  have hz : ∀ W', Ext W W' → W'.cell? ⟨w.heap.size + 1, 0, none⟩ = some (.slice none 0 0) ∧ W'.cell? ⟨w.heap.size + 1, 1, none⟩ = some (.slice none 0 0) ∧ W'.cell? ⟨w.heap.size + 1, 2, none⟩ = some (.slice none 0 0) ∧ W'.cell? ⟨w.heap.size + 1, 3, none⟩ = some (.slice none 0 0) ∧ W'.frozen? ⟨w.heap.size + 1, 0, none⟩ = false ∧ W'.frozen? ⟨w.heap.size + 1, 1, none⟩ = false ∧ W'.frozen? ⟨w.heap.size + 1, 2, none⟩ = false ∧ W'.frozen? ⟨w.heap.size + 1, 3, none⟩ = false := fun W' hx => by
    have q := rowIs_ext hx r9
    exact ⟨q.cell (i := 0) (by omega), q.cell (i := 1) (by omega), q.cell (i := 2) (by omega), q.cell (i := 3) (by omega), q.frozen 0, q.frozen 1, q.frozen 2, q.frozen 3⟩
  have q1 : W.drew.cell? ⟨w.heap.size, 0, none⟩ = some (.slice a1 n1 c1) := k1
  have q2 : W.drew.cell? ⟨w.heap.size, 1, none⟩ = some (.slice a2 n2 c2) := k2
  have q3 : W.drew.cell? ⟨w.heap.size, 2, none⟩ = some (.slice a3 n3 c3) := k3
  have q4 : W.drew.cell? ⟨w.heap.size, 3, none⟩ = some (.slice a4 n4 c4) := k4
  have HR := Lib.hid r9
  have HZ := Lib.hid hz
  clear hW r9 hz
  go_region_held3 (fun W => W.cell? ⟨w.heap.size, 0, none⟩ = some (.slice a1 n1 c1) ∧ W.cell? ⟨w.heap.size, 1, none⟩ = some (.slice a2 n2 c2) ∧ W.cell? ⟨w.heap.size, 2, none⟩ = some (.slice a3 n3 c3) ∧ W.cell? ⟨w.heap.size, 3, none⟩ = some (.slice a4 n4 c4))
    (first | (with_reducible exact ⟨l1, l2, l3, l4⟩) | (with_reducible exact ⟨m1, m2, m3, m4⟩) | (with_reducible exact ⟨j1, j2, j3, j4⟩) | (with_reducible exact ⟨i1, i2, i3, i4⟩) | (with_reducible exact ⟨k1, k2, k3, k4⟩) | (with_reducible exact ⟨q1, q2, q3, q4⟩) | go_keep)
    ((first | (go_at_call 82; (with_reducible refine (copyI_s (IntsK.ext hE.drew H.out.1) H.out.2.2.2.2.base).mono ?_); rintro e w1 ⟨b1, p1, d1, rfl, y1, hx1⟩; have i1 := hx1.cell (a := W.drew) k1; have i2 := hx1.cell (a := W.drew) k2; have i3 := hx1.cell (a := W.drew) k3; have i4 := hx1.cell (a := W.drew) k4) | (go_at_call 82; (with_reducible refine (copyI_s (IntsK.ext (hE.drew.trans hx1) H.out.2.1) H.out.2.2.2.2.dflt).mono ?_); rintro e w2 ⟨b2, p2, d2, rfl, y2, hx2⟩; have j1 := hx2.cell i1; have j2 := hx2.cell i2; have j3 := hx2.cell i3; have j4 := hx2.cell i4) | (go_at_call 82; (with_reducible refine (copyI_s (IntsK.ext ((hE.drew.trans hx1).trans hx2) H.out.2.2.1) H.out.2.2.2.2.next).mono ?_); rintro e w3 ⟨b3, p3, d3, rfl, y3, hx3⟩; have m1 := hx3.cell j1; have m2 := hx3.cell j2; have m3 := hx3.cell j3; have m4 := hx3.cell j4) | (go_at_call 82; (with_reducible refine (copyI_s (IntsK.ext (((hE.drew.trans hx1).trans hx2).trans hx3) H.out.2.2.2.1) H.out.2.2.2.2.check).mono ?_); rintro e w4 ⟨b4, p4, d4, rfl, y4, hx4⟩; have l1 := hx4.cell m1; have l2 := hx4.cell m2; have l3 := hx4.cell m3; have l4 := hx4.cell m4; obtain ⟨z0, z1, z2, z3, f0, f1, f2, f3⟩ := HZ.out w4 (Ext.trans (Ext.drew (Ext.refl W)) (hx1.trans (hx2.trans (hx3.trans hx4)))))))
  have s1 := hx1.size
  have s2 := hx2.size
  have s3 := hx3.size
  have s4 := hx4.size
  have sE := hE.size
  have hx24 := hx2.trans (hx3.trans hx4)
  have hx34 := hx3.trans hx4
  have hXX : Ext W w4 := Ext.trans (Ext.drew (Ext.refl W)) (hx1.trans hx24)
  have hr9 := rowIs_set4 (rowIs_ext hXX HR.out) (.slice b1 p1 d1) (.slice b2 p2 d2) (.slice b3 p3 d3) (.slice b4 p4 d4)
  have hle : w.heap.size ≤ w.heap.size + 1 := by omega
  have hXf : Ext w ((((w4.setCell ⟨w.heap.size + 1, 0, none⟩ (.slice b1 p1 d1)).setCell ⟨w.heap.size + 1, 1, none⟩ (.slice b2 p2 d2)).setCell ⟨w.heap.size + 1, 2, none⟩ (.slice b3 p3 d3)).setCell ⟨w.heap.size + 1, 3, none⟩ (.slice b4 p4 d4)) := ((((hE.trans hXX).setCell hle _).setCell hle _).setCell hle _).setCell hle _
  have far : ∀ g, W.heap.size ≤ g → ((((w4.setCell ⟨w.heap.size + 1, 0, none⟩ (.slice b1 p1 d1)).setCell ⟨w.heap.size + 1, 1, none⟩ (.slice b2 p2 d2)).setCell ⟨w.heap.size + 1, 2, none⟩ (.slice b3 p3 d3)).setCell ⟨w.heap.size + 1, 3, none⟩ (.slice b4 p4 d4)).heap[g]? = w4.heap[g]? := fun g hg => heap_set4 (by have := HR.out.lt; omega)
  generalize World.setCell (World.setCell (World.setCell (World.setCell w4 _ _) _ _) _ _) _ _ = Wf at hr9 hXf far ⊢
  have s0 : W.heap.size ≤ W.drew.heap.size := Nat.le_refl _
  have t1 := y1 Wf fun g hg hl => (far g (by omega)).trans (hx24.block g hl)
  have t2 := y2 Wf fun g hg hl => (far g (by omega)).trans (hx34.block g hl)
  have t3 := y3 Wf fun g hg hl => (far g (by omega)).trans (hx4.block g hl)
  have t4 := y4 Wf fun g hg _ => far g (by omega)
  have v0 : Wf.cell? ⟨w.heap.size + 1, 0, none⟩ = some (.slice b1 p1 d1) := hr9.cell (i := 0) (by omega)
  have v1 : Wf.cell? ⟨w.heap.size + 1, 1, none⟩ = some (.slice b2 p2 d2) := hr9.cell (i := 1) (by omega)
  have v2 : Wf.cell? ⟨w.heap.size + 1, 2, none⟩ = some (.slice b3 p3 d3) := hr9.cell (i := 2) (by omega)
  have v3 : Wf.cell? ⟨w.heap.size + 1, 3, none⟩ = some (.slice b4 p4 d4) := hr9.cell (i := 3) (by omega)
  have HF := Lib.hid (And.intro t1 (And.intro t2 (And.intro t3 (And.intro t4 hXf))))
  clear t1 t2 t3 t4 hXf hr9 far y1 y2 y3 y4
  (try simp only [Exit.then])
  go_wp2
  exact bodyPost_ret (v := .agg #[.slice b1 p1 d1, .slice b2 p2 d2, .slice b3 p3 d3, .slice b4 p4 d4]) (by simp [results, Tryd.results61, go_sem, v0, v1, v2, v3]) rfl ⟨_, rfl, ⟨_, _, _, _, rfl, HF.out.1, HF.out.2.1, HF.out.2.2.1, HF.out.2.2.2.1⟩, HF.out.2.2.2.2⟩

set_option maxRecDepth 100000 in
set_option maxHeartbeats 1000000 in
theorem eqComb_c {w : World} {va vb : Value} {C : Cmb} (ha : CmbV w va C) (hb : CmbV w vb C) : Calls Tryd.prog 59 #[va, vb] w fun e w' => e = .returned (.bool true) ∧ Ext w w' := by
  obtain ⟨v1, v2, v3, v4, rfl, h1, h2, h3, h4⟩ := ha
  obtain ⟨u1, u2, u3, u4, rfl, g1, g2, g3, g4⟩ := hb
  have H := Lib.hid (And.intro h1 (And.intro h2 (And.intro h3 (And.intro h4 (And.intro g1 (And.intro g2 (And.intro g3 g4)))))))
  obtain ⟨_, a1, c1, rfl, _, _⟩ := h1.open
  obtain ⟨_, a2, c2, rfl, _, _⟩ := h2.open
  obtain ⟨_, a3, c3, rfl, _, _⟩ := h3.open
  obtain ⟨_, a4, c4, rfl, _, _⟩ := h4.open
  obtain ⟨_, b1, d1, rfl, _, _⟩ := g1.open
  obtain ⟨_, b2, d2, rfl, _, _⟩ := g2.open
  obtain ⟨_, b3, d3, rfl, _, _⟩ := g3.open
  obtain ⟨_, b4, d4, rfl, _, _⟩ := g4.open
  clear h1 h2 h3 h4 g1 g2 g3 g4
  generalize C.base.length = n1 at *
  generalize C.dflt.length = n2 at *
  generalize C.next.length = n3 at *
  generalize C.check.length = n4 at *
  obtain ⟨W, hW⟩ : ∃ W, W = (w.alloc (.cells #[.slice a1 n1 c1, .slice a2 n2 c2, .slice a3 n3 c3, .slice a4 n4 c4] 40)).alloc (.cells #[.slice b1 n1 d1, .slice b2 n2 d2, .slice b3 n3 d3, .slice b4 n4 d4] 40) := ⟨_, rfl⟩
  have hE : Ext w W := by rw [hW]; exact (Ext.box w _).alloc _
  have k1 : W.cell? ⟨w.heap.size, 0, none⟩ = some (.slice a1 n1 c1) := by rw [hW]; simp
  have l1 : W.cell? ⟨w.heap.size + 1, 0, none⟩ = some (.slice b1 n1 d1) := by rw [hW]; simp
  have k2 : W.cell? ⟨w.heap.size, 1, none⟩ = some (.slice a2 n2 c2) := by rw [hW]; simp
  have l2 : W.cell? ⟨w.heap.size + 1, 1, none⟩ = some (.slice b2 n2 d2) := by rw [hW]; simp
  have k3 : W.cell? ⟨w.heap.size, 2, none⟩ = some (.slice a3 n3 c3) := by rw [hW]; simp
  have l3 : W.cell? ⟨w.heap.size + 1, 2, none⟩ = some (.slice b3 n3 d3) := by rw [hW]; simp
  have k4 : W.cell? ⟨w.heap.size, 3, none⟩ = some (.slice a4 n4 c4) := by rw [hW]; simp
  have l4 : W.cell? ⟨w.heap.size + 1, 3, none⟩ = some (.slice b4 n4 d4) := by rw [hW]; simp
  have e1 := eqInts_b (r := true) (IntsK.ext hE H.out.1) (IntsK.ext hE H.out.2.2.2.2.1) (by simp)
  have HW := Lib.hid (And.intro hW (And.intro hE (And.intro e1 (And.intro k2 (And.intro k3 (And.intro k4 (And.intro l2 (And.intro l3 l4))))))))
  clear hW hE e1 k1 k2 k3 k4 l1 l2 l3 l4
  go_enter Tryd.func59, Tryd.ntmps59
  go_wp2_with fail
  rw [← HW.out.1]
  refine HW.out.2.2.1.mono ?_
  rintro e w1 ⟨rfl, hx1⟩
  have i2 := hx1.cell HW.out.2.2.2.1
  have j2 := hx1.cell HW.out.2.2.2.2.2.2.1
  have e2 := eqInts_b (r := true) (IntsK.ext (HW.out.2.1.trans hx1) H.out.2.1) (IntsK.ext (HW.out.2.1.trans hx1) H.out.2.2.2.2.2.1) (by simp)
  have H1 := Lib.hid (And.intro hx1 e2)
  clear hx1 e2
  go_wp2_with fail
  refine H1.out.2.mono ?_
  rintro e w2 ⟨rfl, hx2⟩
  have hx02 := H1.out.1.trans hx2
  have i3 := hx02.cell HW.out.2.2.2.2.1
  have j3 := hx02.cell HW.out.2.2.2.2.2.2.2.1
  have e3 := eqInts_b (r := true) (IntsK.ext (HW.out.2.1.trans hx02) H.out.2.2.1) (IntsK.ext (HW.out.2.1.trans hx02) H.out.2.2.2.2.2.2.1) (by simp)
  have H2 := Lib.hid (And.intro hx02 e3)
  clear hx2 hx02 e3 i2 j2
  go_wp2_with fail
  refine H2.out.2.mono ?_
  rintro e w3 ⟨rfl, hx3⟩
  have hx03 := H2.out.1.trans hx3
  have i4 := hx03.cell HW.out.2.2.2.2.2.1
  have j4 := hx03.cell HW.out.2.2.2.2.2.2.2.2
  have e4 := eqInts_b (r := true) (IntsK.ext (HW.out.2.1.trans hx03) H.out.2.2.2.1) (IntsK.ext (HW.out.2.1.trans hx03) H.out.2.2.2.2.2.2.2) (by simp)
  have H3 := Lib.hid (And.intro hx03 e4)
  clear hx3 hx03 e4 i3 j3
  go_wp2_with fail
  refine H3.out.2.mono ?_
  rintro e w4 ⟨rfl, hx4⟩
  have H4 := Lib.hid (HW.out.2.1.trans (H3.out.1.trans hx4))
  clear hx4 i4 j4
  go_wp2
  go_ret
  exact ⟨rfl, H4.out⟩
end Go.Proofs.YtpeipjfmibjoiaaDoor

namespace Go.Proofs.YtpeipjfmibjoiaaDoor
open Go.RowKit Go.ChangeShapes Go.WideShapes Go.ChangeAt

def TblAt (w : World) (b o : Nat) (T : Tbl) : Prop :=
  ∃ cv sv nv lv, w.cell? ⟨b, o, none⟩ = some cv ∧ w.cell? ⟨b, o + 1, none⟩ = some (.int .i64 T.count) ∧ w.cell? ⟨b, o + 2, none⟩ = some sv ∧ w.cell? ⟨b, o + 3, none⟩ = some nv ∧ w.cell? ⟨b, o + 4, none⟩ = some lv ∧ TblV w (.agg #[cv, .int .i64 T.count, sv, nv, lv]) T
abbrev TblsV (w : World) (v : Value) (l : List Tbl) : Prop := SliceV 5 TblAt w v l
def CmbAt (w : World) (b o : Nat) (C : Cmb) : Prop :=
  ∃ bv dv nv cv, w.cell? ⟨b, o, none⟩ = some bv ∧ w.cell? ⟨b, o + 1, none⟩ = some dv ∧ w.cell? ⟨b, o + 2, none⟩ = some nv ∧ w.cell? ⟨b, o + 3, none⟩ = some cv ∧ CmbV w (.agg #[bv, dv, nv, cv]) C
theorem len_four16 {α : Type} {l : List α} (h : l.length = 4) : ∃ a b c d, l = [a, b, c, d] := by
  match l, h with
  | [a, b, c, d], _ => exact ⟨a, b, c, d, rfl⟩
abbrev CmbsV (w : World) (v : Value) (l : List Cmb) : Prop := SliceV 4 CmbAt w v l

section
variable {H : Type} {enc : TypeId × Value → H} {W : World} {base fuel : Nat} {spare : Nat → Bool} {held : Bool} {cs : List Value} {x : DataW H × List MemPlace}
set_option maxRecDepth 100000 in
theorem read_tbl (h : DataW.trod enc Tryd.prog W base spare held fuel 37 cs = some x) (hf : Fits 37 x.1) :
    ∃ cv sv nv lv T, cs = [cv, .int .i64 T.count, sv, nv, lv] ∧ TblV W (.agg #[cv, .int .i64 T.count, sv, nv, lv]) T ∧ TblFits T := by
  have hu := Tryd.underlying37
  obtain ⟨xs, n, _, rfl, h1, h2, h3⟩ := DataW.trod_struct hu h
  obtain ⟨c0, c1, c2, c3, c4, rfl⟩ := len_five (h1.trans (by kernel_rfl))
  obtain ⟨y0, y1, y2, y3, y4, rfl⟩ := len_five (h2.trans (show _ = 5 from rfl))
  have e0 := h3 0 _ rfl
  have e1 := h3 1 _ rfl
  have e2 := h3 2 _ rfl
  have e3 := h3 3 _ rfl
  have e4 := h3 4 _ rfl
  rw [show Tryd.prog.cellsOf _ = 1 by kernel_rfl] at e0 e1 e2 e3 e4
  have f0 : Fits 23 y0.1 := Fits.field (j := 0) hu hf rfl rfl
  have f2 : Fits 23 y2.1 := Fits.field (j := 2) hu hf rfl rfl
  have f3 : Fits 22 y3.1 := Fits.field (j := 3) hu hf rfl rfl
  have f4 : Fits 23 y4.1 := Fits.field (j := 4) hu hf rfl rfl
  obtain ⟨v0, l0, g0, i0, _, j0⟩ := read_ints (bytes := 8) Tryd.underlying23 Tryd.underlying3 (by kernel_rfl) (by kernel_rfl) (by decide) e0 f0
  obtain ⟨k, g1, _, _⟩ := read_int Tryd.underlying3 e1
  obtain ⟨v2, l2, g2, i2, _, j2⟩ := read_ints (bytes := 8) Tryd.underlying23 Tryd.underlying3 (by kernel_rfl) (by kernel_rfl) (by decide) e2 f2
  obtain ⟨v3, l3, g3, i3, q3, j3⟩ := read_rows (bytes := 24) (bytes' := 8) Tryd.underlying22 Tryd.underlying23 Tryd.underlying3 (by kernel_rfl) (by kernel_rfl) (by kernel_rfl) (by kernel_rfl) (by decide) (by decide) e3 f3
  obtain ⟨v4, l4, g4, i4, _, j4⟩ := read_ints (bytes := 8) Tryd.underlying23 Tryd.underlying3 (by kernel_rfl) (by kernel_rfl) (by decide) e4 f4
  simp at g0 g1 g2 g3 g4
  subst g0; subst g1; subst g2; subst g3; subst g4
  exact ⟨_, _, _, _, ⟨l0, k, l2, l3, l4⟩, rfl, ⟨_, _, _, _, rfl, i0, i2, i3, i4⟩, ⟨by show l0.length * 8 ≤ _; omega, by show l2.length * 8 ≤ _; omega, by show l3.length * 24 ≤ _; omega, fun r hr => by have := (q3 r hr).2; omega, by show l4.length * 8 ≤ _; omega⟩⟩

set_option maxRecDepth 100000 in
theorem read_tbls (h : DataW.trod enc Tryd.prog W base spare held fuel 103 cs = some x) (hf : Fits 103 x.1) : ∃ v l, cs = [v] ∧ TblsV W v l ∧ ∀ T ∈ l, TblFits T := by
  obtain ⟨v, l, h1, h2, h3, _⟩ := read_slice (R := TblAt) (Q := TblFits) (size := 5) (bytes := 104) Tryd.underlying103 (by kernel_rfl) (by kernel_rfl) (by decide) (by decide) (fun n b o cs' y hcs hy hfy => by
    obtain ⟨cv, sv, nv, lv, T, rfl, r1, r2⟩ := read_tbl hy hfy
    obtain ⟨_, _, h5⟩ := World.cells?_some hcs
    have e0 := h5 0 (by decide)
    have e1 := h5 1 (by decide)
    have e2 := h5 2 (by decide)
    have e3 := h5 3 (by decide)
    have e4 := h5 4 (by decide)
    exact ⟨T, ⟨cv, sv, nv, lv, by simpa [Addr.add] using e0, by simpa [Addr.add] using e1, by simpa [Addr.add] using e2, by simpa [Addr.add] using e3, by simpa [Addr.add] using e4, r1⟩, r2⟩) h hf
  exact ⟨v, l, h1, h2, h3⟩


set_option maxRecDepth 100000 in
theorem read_cmb (h : DataW.trod enc Tryd.prog W base spare held fuel 40 cs = some x) (hf : Fits 40 x.1) :
    ∃ bv dv nv cv C, cs = [bv, dv, nv, cv] ∧ CmbV W (.agg #[bv, dv, nv, cv]) C ∧ CmbFits C := by
  have hu := Tryd.underlying40
  obtain ⟨xs, n, _, rfl, h1, h2, h3⟩ := DataW.trod_struct hu h
  obtain ⟨c0, c1, c2, c3, rfl⟩ := len_four16 (h1.trans (by kernel_rfl))
  obtain ⟨y0, y1, y2, y3, rfl⟩ := len_four16 (h2.trans (show _ = 4 from rfl))
  have e0 := h3 0 _ rfl
  have e1 := h3 1 _ rfl
  have e2 := h3 2 _ rfl
  have e3 := h3 3 _ rfl
  rw [show Tryd.prog.cellsOf _ = 1 by kernel_rfl] at e0 e1 e2 e3
  have f0 : Fits 23 y0.1 := Fits.field (j := 0) hu hf rfl rfl
  have f1 : Fits 23 y1.1 := Fits.field (j := 1) hu hf rfl rfl
  have f2 : Fits 23 y2.1 := Fits.field (j := 2) hu hf rfl rfl
  have f3 : Fits 23 y3.1 := Fits.field (j := 3) hu hf rfl rfl
  obtain ⟨v0, l0, g0, i0, _, j0⟩ := read_ints (bytes := 8) Tryd.underlying23 Tryd.underlying3 (by kernel_rfl) (by kernel_rfl) (by decide) e0 f0
  obtain ⟨v1, l1, g1, i1, _, j1⟩ := read_ints (bytes := 8) Tryd.underlying23 Tryd.underlying3 (by kernel_rfl) (by kernel_rfl) (by decide) e1 f1
  obtain ⟨v2, l2, g2, i2, _, j2⟩ := read_ints (bytes := 8) Tryd.underlying23 Tryd.underlying3 (by kernel_rfl) (by kernel_rfl) (by decide) e2 f2
  obtain ⟨v3, l3, g3, i3, _, j3⟩ := read_ints (bytes := 8) Tryd.underlying23 Tryd.underlying3 (by kernel_rfl) (by kernel_rfl) (by decide) e3 f3
  simp at g0 g1 g2 g3
  subst g0; subst g1; subst g2; subst g3
  exact ⟨_, _, _, _, ⟨l0, l1, l2, l3⟩, rfl, ⟨_, _, _, _, rfl, i0, i1, i2, i3⟩, ⟨by show l0.length * 8 ≤ _; omega, by show l1.length * 8 ≤ _; omega, by show l2.length * 8 ≤ _; omega, by show l3.length * 8 ≤ _; omega⟩⟩

set_option maxRecDepth 100000 in
theorem read_cmbs (h : DataW.trod enc Tryd.prog W base spare held fuel 108 cs = some x) (hf : Fits 108 x.1) : ∃ v l, cs = [v] ∧ CmbsV W v l ∧ ∀ C ∈ l, CmbFits C := by
  obtain ⟨v, l, h1, h2, h3, _⟩ := read_slice (R := CmbAt) (Q := CmbFits) (size := 4) (bytes := 96) Tryd.underlying108 (by kernel_rfl) (by kernel_rfl) (by decide) (by decide) (fun n b o cs' y hcs hy hfy => by
    obtain ⟨bv, dv, nv, cv, C, rfl, r1, r2⟩ := read_cmb hy hfy
    obtain ⟨_, _, h5⟩ := World.cells?_some hcs
    have e0 := h5 0 (by decide)
    have e1 := h5 1 (by decide)
    have e2 := h5 2 (by decide)
    have e3 := h5 3 (by decide)
    exact ⟨C, ⟨bv, dv, nv, cv, by simpa [Addr.add] using e0, by simpa [Addr.add] using e1, by simpa [Addr.add] using e2, by simpa [Addr.add] using e3, r1⟩, r2⟩) h hf
  exact ⟨v, l, h1, h2, h3⟩
end

set_option maxRecDepth 100000 in
theorem arg_tbls {H : Type} {enc : TypeId × Value → H} {W : World} {base : Nat} {v : Value} {d : DataW H} {p : List MemPlace} (hok : Value.okWide Tryd.prog W .any base 103 v)
    (h : DataW.Trod enc Tryd.prog W 0 (fun _ => true) true 103 v d p) (hfit : Fits 103 d) : ∃ l, TblsV W v l ∧ ∀ T ∈ l, TblFits T := by
  obtain ⟨a, len, cap, rfl⟩ := okWide_slice Tryd.underlying103 hok
  obtain ⟨fuel, hf⟩ := h
  obtain ⟨v', l, g1, g2, g3⟩ := read_tbls hf hfit
  simp [Value.cells] at g1
  subst g1
  exact ⟨l, g2, g3⟩

set_option maxRecDepth 100000 in
theorem arg_raw16 {H : Type} {enc : TypeId × Value → H} {W : World} {base : Nat} {v : Value} {d : DataW H} {p : List MemPlace} (hok : Value.okWide Tryd.prog W .any base 110 v)
    (h : DataW.Trod enc Tryd.prog W 0 (fun _ => true) true 110 v d p) (hfit : Fits 110 d) :
    ∃ v1 k v3 v4 l ss ks, v = .agg #[v1, .int .i64 k, v3, v4] ∧ CmbsV W v1 l ∧ (∀ C ∈ l, CmbFits C) ∧ Ints W v3 ss ∧ Ints W v4 ks := by
  have hu := Tryd.underlying110
  obtain ⟨cs, rfl, _⟩ := okWide_struct hu hok
  obtain ⟨fuel, hf⟩ := h
  obtain ⟨xs, n, _, hx, h1, h2, h3⟩ := DataW.trod_struct hu hf
  simp only [Prod.mk.injEq] at hx
  obtain ⟨rfl, rfl⟩ := hx
  obtain ⟨c0, c1, c2, c3, hcs⟩ := len_four16 (l := (Value.agg cs).cells.toList) (h1.trans (by kernel_rfl))
  obtain ⟨y0, y1, y2, y3, rfl⟩ := len_four16 (h2.trans (show _ = 4 from rfl))
  rw [hcs] at h3
  obtain rfl : cs = #[c0, c1, c2, c3] := by
    apply Array.toList_inj.1
    exact hcs
  have e0 := h3 0 _ rfl
  have e1 := h3 1 _ rfl
  have e2 := h3 2 _ rfl
  have e3 := h3 3 _ rfl
  rw [show Tryd.prog.cellsOf _ = 1 by kernel_rfl] at e0 e1 e2 e3
  have f0 : Fits 108 y0.1 := Fits.field (j := 0) hu hfit rfl rfl
  have f2 : Fits 23 y2.1 := Fits.field (j := 2) hu hfit rfl rfl
  have f3 : Fits 23 y3.1 := Fits.field (j := 3) hu hfit rfl rfl
  obtain ⟨v1, l, g1, i1, i1'⟩ := read_cmbs e0 f0
  obtain ⟨k, gk, _, _⟩ := read_int Tryd.underlying3 e1
  obtain ⟨v3, ss, g3, i3, _, _⟩ := read_ints (bytes := 8) Tryd.underlying23 Tryd.underlying3 (by kernel_rfl) (by kernel_rfl) (by decide) e2 f2
  obtain ⟨v4, ks, g4, i4, _, _⟩ := read_ints (bytes := 8) Tryd.underlying23 Tryd.underlying3 (by kernel_rfl) (by kernel_rfl) (by decide) e3 f3
  simp at g1 gk g3 g4
  subst g1; subst gk; subst g3; subst g4
  exact ⟨_, k, _, _, l, ss, ks, rfl, i1, i1', i3, i4⟩
end Go.Proofs.YtpeipjfmibjoiaaDoor
