/- What minimise, and what the document's own answer, tell of ANY automaton, in one form. -/
import Derived.Test.YtpeipjfmibjoiaaDoorCheck
import Derived.Test.YtpeipjfmibjoiaaDoorMay
import Derived.Test.YtpeipjfmibjoiaaDoorTell
import Derived.WalkMore
import Derived.Laws.ResultCell
import Derived.Test.YtpeipjfmibjoiaaDoorLea12
namespace Go.Proofs.YtpeipjfmibjoiaaDoor
open Go.RowKit

set_option maxRecDepth 100000 in
set_option maxHeartbeats 2000000 in
theorem classes_no {w : World} {v : Value} {d : Dn} {a : Nat → Addr} (h : DenseV w v d) (hm : ¬ May d) (hS : Sents w a) : Calls Tryd.prog 48 #[v] w fun e w' => e = .returned (.tuple #[.slice none 0 0, .iface 265 (.pointer (some (a 15)))]) ∧ Ext w w' := by
  obtain ⟨an, cn, al, cl, rfl, _⟩ := h.open
  obtain ⟨W, hW⟩ : ∃ W, W = w.alloc (.cells #[.slice an d.next.length cn, .slice al d.label.length cl] 25) := ⟨_, rfl⟩
  have hx : Ext w W := by rw [hW]; exact Ext.box _ _
  have q0 : W.cell? ⟨w.heap.size, 0, none⟩ = some (.slice an d.next.length cn) := by rw [hW]; simp
  have q1 : W.cell? ⟨w.heap.size, 1, none⟩ = some (.slice al d.label.length cl) := by rw [hW]; simp
  have hck := check_c (h.ext hx)
  rw [mayB_false hm] at hck
  have hg := hx.cell (hS.cell 15 (by omega) (by omega))
  rw [show gl 15 = 0 from rfl] at hg
  clear h hm hS
  generalize a 15 = x at *
  generalize d.next.length = n1 at *
  generalize d.label.length = n2 at *
  have H := Lib.hid (And.intro hck (And.intro hg (And.intro hx hW)))
  clear hck hg hx hW
  go_enter Tryd.func48, Tryd.ntmps48
  go_wp2_with fail
  rw [← H.out.2.2.2]
  refine H.out.1.mono ?_
  rintro e w1 ⟨rfl, hx1⟩
  have g0 := hx1.cell H.out.2.1
  have HX := Lib.hid (H.out.2.2.1.trans hx1)
  clear hx1 q0 q1
  go_wp2_with fail
  go_quiet (fail)
  go_wp2
  go_ret2
  exact ⟨rfl, HX.out.drewN _⟩

set_option maxRecDepth 100000 in
set_option maxHeartbeats 2000000 in
theorem least_no {w : World} {v : Value} {d : Dn} {a : Nat → Addr} (h : DenseV w v d) (hm : ¬ May d) (hS : Sents w a) : Calls Tryd.prog 47 #[v] w fun e w' => e = .returned (.tuple #[.agg #[.slice none 0 0, .slice none 0 0], .iface 265 (.pointer (some (a 15)))]) ∧ Ext w w' := by
  obtain ⟨an, cn, al, cl, rfl, _⟩ := h.open
  obtain ⟨W, hW⟩ : ∃ W, W = (w.alloc (.cells #[.slice an d.next.length cn, .slice al d.label.length cl] 25)).alloc (.cells #[.slice none 0 0, .slice none 0 0] 25) := ⟨_, rfl⟩
  have hx : Ext w W := by rw [hW]; exact (Ext.box _ _).alloc _
  have q0 : W.cell? ⟨w.heap.size, 0, none⟩ = some (.slice an d.next.length cn) := by rw [hW]; simp
  have q1 : W.cell? ⟨w.heap.size, 1, none⟩ = some (.slice al d.label.length cl) := by rw [hW]; simp
  have c0 : W.cell? ⟨w.heap.size + 1, 0, none⟩ = some (.slice none 0 0) := by rw [hW]; simp
  have c1 : W.cell? ⟨w.heap.size + 1, 1, none⟩ = some (.slice none 0 0) := by rw [hW]; simp
  have e0 : W.frozen? ⟨w.heap.size + 1, 0, none⟩ = false := by rw [hW]; simp
  have e1 : W.frozen? ⟨w.heap.size + 1, 1, none⟩ = false := by rw [hW]; simp
  have hck := classes_no (h.ext hx) hm (hS.ext hx)
  clear h hm hS
  generalize a 15 = x at *
  generalize d.next.length = n1 at *
  generalize d.label.length = n2 at *
  have H := Lib.hid (And.intro hck (And.intro hx (And.intro c0 (And.intro c1 (And.intro e0 (And.intro e1 hW))))))
  clear hck hx hW c0 c1 e0 e1
  go_enter Tryd.func47, Tryd.ntmps47
  go_wp2_with fail
  rw [← H.out.2.2.2.2.2.2]
  refine H.out.1.mono ?_
  rintro e w1 ⟨rfl, hx1⟩
  have c0 := hx1.cell H.out.2.2.1
  have c1 := hx1.cell H.out.2.2.2.1
  have e0 : w1.frozen? ⟨w.heap.size + 1, 0, none⟩ = false := (Below.frozen hx1 (p := ⟨w.heap.size + 1, 0, none⟩) (lt_of_cell H.out.2.2.1)).trans H.out.2.2.2.2.1
  have e1 : w1.frozen? ⟨w.heap.size + 1, 1, none⟩ = false := (Below.frozen hx1 (p := ⟨w.heap.size + 1, 1, none⟩) (lt_of_cell H.out.2.2.1)).trans H.out.2.2.2.2.2.1
  have hl := lt_of_cell c0
  have HX := Lib.hid (H.out.2.1.trans hx1)
  clear hx1 q0 q1
  go_wp2
  have hXf : Ext w (((w1.setCell ⟨w.heap.size + 1, 0, none⟩ (.slice none 0 0)).setCell ⟨w.heap.size + 1, 1, none⟩ (.slice none 0 0)).alloc (.cells #[.slice none 0 0] 23)) := Ext.trans ((HX.out.setCell (p := ⟨w.heap.size + 1, 0, none⟩) (Nat.le_succ _) _).setCell (p := ⟨w.heap.size + 1, 1, none⟩) (Nat.le_succ _) _) (Ext.box _ _)
  have z0 : (((w1.setCell ⟨w.heap.size + 1, 0, none⟩ (.slice none 0 0)).setCell ⟨w.heap.size + 1, 1, none⟩ (.slice none 0 0)).alloc (.cells #[.slice none 0 0] 23)).cell? ⟨w.heap.size + 1, 0, none⟩ = some (.slice none 0 0) := (Ext.box _ _).cell (by
    rw [World.cell?_setCell_other _ _ _ _ (by simp)]; exact World.cell?_setCell_same _ _ _ c0)
  have z1 : (((w1.setCell ⟨w.heap.size + 1, 0, none⟩ (.slice none 0 0)).setCell ⟨w.heap.size + 1, 1, none⟩ (.slice none 0 0)).alloc (.cells #[.slice none 0 0] 23)).cell? ⟨w.heap.size + 1, 1, none⟩ = some (.slice none 0 0) :=
    (Ext.box _ _).cell (World.cell?_setCell_same _ _ _ ((World.cell?_setCell_other _ _ _ _ (by simp)).trans c1))
  generalize World.alloc (World.setCell (World.setCell _ _ _) _ _) _ = Wf at z0 z1 hXf ⊢
  (try simp only [Exit.inBlock, Exit.then])
  refine bodyPost_ret (v := .tuple #[.agg #[.slice none 0 0, .slice none 0 0], .iface 265 (.pointer (some x))]) ?_ rfl ⟨rfl, hXf⟩
  rw [results_cell_tmp rfl]
  go_simp

set_option maxRecDepth 100000 in
set_option maxHeartbeats 2000000 in
theorem refcls_no {w : World} {v : Value} {d : Dn} (h : DenseV w v d) (hm : ¬ May d) : Calls Tryd.prog 46 #[v] w fun e w' => e = .returned (.tuple #[.slice none 0 0, faultV 15]) ∧ Ext w w' := by
  obtain ⟨an, cn, al, cl, rfl, _⟩ := h.open
  obtain ⟨W, hW⟩ : ∃ W, W = (w.alloc (.cells #[.slice an d.next.length cn, .slice al d.label.length cl] 25)).alloc (.cells #[.int .i64 0, .int .i64 0, .int .i64 0, .int .i64 0, .slice none 0 0] 69) := ⟨_, rfl⟩
  have hx : Ext w W := by rw [hW]; exact (Ext.box _ _).alloc _
  have q0 : W.cell? ⟨w.heap.size, 0, none⟩ = some (.slice an d.next.length cn) := by rw [hW]; simp
  have q1 : W.cell? ⟨w.heap.size, 1, none⟩ = some (.slice al d.label.length cl) := by rw [hW]; simp
  have hr : W.rowIs (w.heap.size + 1) 69 5 (rF (.int .i64 0) (.int .i64 0) (.int .i64 0) (.int .i64 0) (.slice none 0 0)) := by
    have q := World.rowIs_alloc (w.alloc (.cells #[.slice an d.next.length cn, .slice al d.label.length cl] 25)) #[.int .i64 0, .int .i64 0, .int .i64 0, .int .i64 0, .slice none 0 0] 69 (rF (.int .i64 0) (.int .i64 0) (.int .i64 0) (.int .i64 0) (.slice none 0 0)) (fun i hi => by rcases rF_at hi with rfl | rfl | rfl | rfl | rfl <;> rfl)
    rw [World.size_alloc] at q
    rw [hW]; exact q
  have hmay := may_c (h.ext hx)
  rw [mayB_false hm] at hmay
  clear h hm
  generalize d.next.length = n1 at *
  generalize d.label.length = n2 at *
  have H := Lib.hid (And.intro hmay (And.intro hx (And.intro hr hW)))
  clear hmay hx hr hW
  go_enter Tryd.func46, Tryd.ntmps46
  go_wp2_with fail
  rw [← H.out.2.2.2]
  refine H.out.1.mono ?_
  rintro e w1 ⟨rfl, hx1⟩
  have HX1 := Lib.hid hx1
  clear hx1 q0 q1
  go_wp2_with fail
  refine (isFault_c 15 _).mono ?_
  rintro e w2 ⟨rfl, hx2⟩
  have hx02 := HX1.out.trans hx2
  have hrf := rowIs_ext hx02 H.out.2.2.1
  have g0 := hrf.frozen 0
  have g1 := hrf.frozen 1
  have g2 := hrf.frozen 2
  have g3 := hrf.frozen 3
  have g4 := hrf.frozen 4
  have d0 : w2.cell? ⟨w.heap.size + 1, 0, none⟩ = some (.int .i64 0) := hrf.cell (i := 0) (by omega)
  have d1 : w2.cell? ⟨w.heap.size + 1, 1, none⟩ = some (.int .i64 0) := hrf.cell (i := 1) (by omega)
  have d2 : w2.cell? ⟨w.heap.size + 1, 2, none⟩ = some (.int .i64 0) := hrf.cell (i := 2) (by omega)
  have d3 : w2.cell? ⟨w.heap.size + 1, 3, none⟩ = some (.int .i64 0) := hrf.cell (i := 3) (by omega)
  have d4 : w2.cell? ⟨w.heap.size + 1, 4, none⟩ = some (.slice none 0 0) := hrf.cell (i := 4) (by omega)
  have HF := Lib.hid (And.intro hx02 hrf)
  clear hx2 hx02 hrf
  unfold faultV
  go_wp2
  have hr9 := rowIs_set5 HF.out.2 (.int .i64 15) (.int .i64 0) (.int .i64 0) (.int .i64 0) (.slice none 0 0)
  have hle : w.heap.size ≤ w.heap.size + 1 := by omega
  have hXf : Ext w (((((w2.setCell ⟨w.heap.size + 1, 0, none⟩ (.int .i64 15)).setCell ⟨w.heap.size + 1, 1, none⟩ (.int .i64 0)).setCell ⟨w.heap.size + 1, 2, none⟩ (.int .i64 0)).setCell ⟨w.heap.size + 1, 3, none⟩ (.int .i64 0)).setCell ⟨w.heap.size + 1, 4, none⟩ (.slice none 0 0)) := (((((H.out.2.1.trans HF.out.1).setCell hle _).setCell hle _).setCell hle _).setCell hle _).setCell hle _
  generalize World.setCell (World.setCell (World.setCell (World.setCell (World.setCell w2 _ _) _ _) _ _) _ _) _ _ = Wf at hr9 hXf ⊢
  have z0 : Wf.cell? ⟨w.heap.size + 1, 0, none⟩ = some (.int .i64 15) := hr9.cell (i := 0) (by omega)
  have z1 : Wf.cell? ⟨w.heap.size + 1, 1, none⟩ = some (.int .i64 0) := hr9.cell (i := 1) (by omega)
  have z2 : Wf.cell? ⟨w.heap.size + 1, 2, none⟩ = some (.int .i64 0) := hr9.cell (i := 2) (by omega)
  have z3 : Wf.cell? ⟨w.heap.size + 1, 3, none⟩ = some (.int .i64 0) := hr9.cell (i := 3) (by omega)
  have z4 : Wf.cell? ⟨w.heap.size + 1, 4, none⟩ = some (.slice none 0 0) := hr9.cell (i := 4) (by omega)
  (try simp only [Exit.inBlock, Exit.then])
  exact bodyPost_ret (v := .tuple #[.slice none 0 0, .agg #[.int .i64 15, .int .i64 0, .int .i64 0, .int .i64 0, .slice none 0 0]]) (by simp [results, Tryd.results46, z0, z1, z2, z3, z4, go_sem]) rfl ⟨rfl, hXf⟩

set_option maxRecDepth 100000 in
set_option maxHeartbeats 2000000 in
theorem refleast_no {w : World} {v : Value} {d : Dn} (h : DenseV w v d) (hm : ¬ May d) : Calls Tryd.prog 45 #[v] w fun e w' => e = .returned (.tuple #[.agg #[.slice none 0 0, .slice none 0 0], faultV 15]) ∧ Ext w w' := by
  obtain ⟨an, cn, al, cl, rfl, _⟩ := h.open
  obtain ⟨W, hW⟩ : ∃ W, W = ((w.alloc (.cells #[.slice an d.next.length cn, .slice al d.label.length cl] 25)).alloc (.cells #[.slice none 0 0, .slice none 0 0] 25)).alloc (.cells #[.int .i64 0, .int .i64 0, .int .i64 0, .int .i64 0, .slice none 0 0] 69) := ⟨_, rfl⟩
  have hx : Ext w W := by rw [hW]; exact ((Ext.box _ _).alloc _).alloc _
  have q0 : W.cell? ⟨w.heap.size, 0, none⟩ = some (.slice an d.next.length cn) := by rw [hW]; exact ((Ext.box _ _).alloc _).cell (new_cell rfl)
  have q1 : W.cell? ⟨w.heap.size, 1, none⟩ = some (.slice al d.label.length cl) := by rw [hW]; exact ((Ext.box _ _).alloc _).cell (new_cell rfl)
  have hrd : W.rowIs (w.heap.size + 1) 25 2 (fun _ => .slice none 0 0) := by
    have q := World.rowIs_alloc (w.alloc (.cells #[.slice an d.next.length cn, .slice al d.label.length cl] 25)) #[.slice none 0 0, .slice none 0 0] 25 (fun _ => .slice none 0 0) (fun i hi => by rcases (by simp at hi; omega : i = 0 ∨ i = 1) with rfl | rfl <;> rfl)
    rw [World.size_alloc] at q
    rw [hW]; exact rowIs_ext (Ext.box _ _) q
  have hr : W.rowIs (w.heap.size + 1 + 1) 69 5 (rF (.int .i64 0) (.int .i64 0) (.int .i64 0) (.int .i64 0) (.slice none 0 0)) := by
    have q := World.rowIs_alloc ((w.alloc (.cells #[.slice an d.next.length cn, .slice al d.label.length cl] 25)).alloc (.cells #[.slice none 0 0, .slice none 0 0] 25)) #[.int .i64 0, .int .i64 0, .int .i64 0, .int .i64 0, .slice none 0 0] 69 (rF (.int .i64 0) (.int .i64 0) (.int .i64 0) (.int .i64 0) (.slice none 0 0)) (fun i hi => by rcases rF_at hi with rfl | rfl | rfl | rfl | rfl <;> rfl)
    rw [World.size_alloc, World.size_alloc] at q
    rw [hW]; exact q
  have hmay := may_c (h.ext hx)
  rw [mayB_false hm] at hmay
  clear h hm
  generalize d.next.length = n1 at *
  generalize d.label.length = n2 at *
  have H := Lib.hid (And.intro hmay (And.intro hx (And.intro hr (And.intro hrd hW))))
  clear hmay hx hr hrd hW
  go_enter Tryd.func45, Tryd.ntmps45
  go_wp2_with fail
  rw [← H.out.2.2.2.2]
  refine H.out.1.mono ?_
  rintro e w1 ⟨rfl, hx1⟩
  have HX1 := Lib.hid hx1
  clear hx1 q0 q1
  go_wp2_with fail
  refine (isFault_c 15 _).mono ?_
  rintro e w2 ⟨rfl, hx2⟩
  have hx02 := HX1.out.trans hx2
  have hrf := rowIs_ext hx02 H.out.2.2.1
  have hrd := rowIs_ext hx02 H.out.2.2.2.1
  have g0 := hrf.frozen 0
  have g1 := hrf.frozen 1
  have g2 := hrf.frozen 2
  have g3 := hrf.frozen 3
  have g4 := hrf.frozen 4
  have e0 := hrd.frozen 0
  have e1 := hrd.frozen 1
  have c0 : w2.cell? ⟨w.heap.size + 1, 0, none⟩ = some (.slice none 0 0) := hrd.cell (i := 0) (by omega)
  have c1 : w2.cell? ⟨w.heap.size + 1, 1, none⟩ = some (.slice none 0 0) := hrd.cell (i := 1) (by omega)
  have d0 : w2.cell? ⟨w.heap.size + 1 + 1, 0, none⟩ = some (.int .i64 0) := hrf.cell (i := 0) (by omega)
  have d1 : w2.cell? ⟨w.heap.size + 1 + 1, 1, none⟩ = some (.int .i64 0) := hrf.cell (i := 1) (by omega)
  have d2 : w2.cell? ⟨w.heap.size + 1 + 1, 2, none⟩ = some (.int .i64 0) := hrf.cell (i := 2) (by omega)
  have d3 : w2.cell? ⟨w.heap.size + 1 + 1, 3, none⟩ = some (.int .i64 0) := hrf.cell (i := 3) (by omega)
  have d4 : w2.cell? ⟨w.heap.size + 1 + 1, 4, none⟩ = some (.slice none 0 0) := hrf.cell (i := 4) (by omega)
  have HF := Lib.hid (And.intro hx02 (And.intro hrf hrd))
  clear hx2 hx02 hrf hrd
  unfold faultV
  go_wp2
  have hr2 := (HF.out.2.2.set 0 (.slice none 0 0)).set 1 (.slice none 0 0)
  have hle1 : w.heap.size ≤ w.heap.size + 1 := by omega
  have hX2 : Ext w ((w2.setCell ⟨w.heap.size + 1, 0, none⟩ (.slice none 0 0)).setCell ⟨w.heap.size + 1, 1, none⟩ (.slice none 0 0)) := ((H.out.2.1.trans HF.out.1).setCell (p := ⟨w.heap.size + 1, 0, none⟩) hle1 _).setCell (p := ⟨w.heap.size + 1, 1, none⟩) hle1 _
  have hrF : ((w2.setCell ⟨w.heap.size + 1, 0, none⟩ (.slice none 0 0)).setCell ⟨w.heap.size + 1, 1, none⟩ (.slice none 0 0)).rowIs (w.heap.size + 1 + 1) 69 5 (rF (.int .i64 0) (.int .i64 0) (.int .i64 0) (.int .i64 0) (.slice none 0 0)) :=
    HF.out.2.1.of_block ((Below.heap_setCell _ _ _ _ (by simp only [ne_eq]; omega)).trans (Below.heap_setCell _ _ _ _ (by simp only [ne_eq]; omega)))
  generalize World.setCell (World.setCell w2 _ _) _ _ = w3 at hr2 hX2 hrF ⊢
  have hr9 := rowIs_set5 hrF (.int .i64 15) (.int .i64 0) (.int .i64 0) (.int .i64 0) (.slice none 0 0)
  have hle : w.heap.size ≤ w.heap.size + 1 + 1 := by omega
  have hXf : Ext w (((((w3.setCell ⟨w.heap.size + 1 + 1, 0, none⟩ (.int .i64 15)).setCell ⟨w.heap.size + 1 + 1, 1, none⟩ (.int .i64 0)).setCell ⟨w.heap.size + 1 + 1, 2, none⟩ (.int .i64 0)).setCell ⟨w.heap.size + 1 + 1, 3, none⟩ (.int .i64 0)).setCell ⟨w.heap.size + 1 + 1, 4, none⟩ (.slice none 0 0)) := ((((hX2.setCell hle _).setCell hle _).setCell hle _).setCell hle _).setCell hle _
  have hr3 := hr2.of_block (w' := (((((w3.setCell ⟨w.heap.size + 1 + 1, 0, none⟩ (.int .i64 15)).setCell ⟨w.heap.size + 1 + 1, 1, none⟩ (.int .i64 0)).setCell ⟨w.heap.size + 1 + 1, 2, none⟩ (.int .i64 0)).setCell ⟨w.heap.size + 1 + 1, 3, none⟩ (.int .i64 0)).setCell ⟨w.heap.size + 1 + 1, 4, none⟩ (.slice none 0 0))) (heap_set5 (by omega))
  generalize World.setCell (World.setCell (World.setCell (World.setCell (World.setCell w3 _ _) _ _) _ _) _ _) _ _ = Wf at hr9 hXf hr3 ⊢
  have z0 : Wf.cell? ⟨w.heap.size + 1 + 1, 0, none⟩ = some (.int .i64 15) := hr9.cell (i := 0) (by omega)
  have z1 : Wf.cell? ⟨w.heap.size + 1 + 1, 1, none⟩ = some (.int .i64 0) := hr9.cell (i := 1) (by omega)
  have z2 : Wf.cell? ⟨w.heap.size + 1 + 1, 2, none⟩ = some (.int .i64 0) := hr9.cell (i := 2) (by omega)
  have z3 : Wf.cell? ⟨w.heap.size + 1 + 1, 3, none⟩ = some (.int .i64 0) := hr9.cell (i := 3) (by omega)
  have z4 : Wf.cell? ⟨w.heap.size + 1 + 1, 4, none⟩ = some (.slice none 0 0) := hr9.cell (i := 4) (by omega)
  have y0 : Wf.cell? ⟨w.heap.size + 1, 0, none⟩ = some (.slice none 0 0) := hr3.cell (i := 0) (by omega)
  have y1 : Wf.cell? ⟨w.heap.size + 1, 1, none⟩ = some (.slice none 0 0) := hr3.cell (i := 1) (by omega)
  (try simp only [Exit.inBlock, Exit.then])
  exact bodyPost_ret (v := .tuple #[.agg #[.slice none 0 0, .slice none 0 0], .agg #[.int .i64 15, .int .i64 0, .int .i64 0, .int .i64 0, .slice none 0 0]]) (by simp [results, Tryd.results45, y0, y1, z0, z1, z2, z3, z4, go_sem]) rfl ⟨rfl, hXf⟩
end Go.Proofs.YtpeipjfmibjoiaaDoor

namespace Go.Proofs.YtpeipjfmibjoiaaDoor
open Go.RowKit

noncomputable def erV (a : Nat → Addr) (d : Dn) : Value := if mayB d = true then .nilIface else .iface 265 (.pointer (some (a 15)))
noncomputable def cfV (d : Dn) : Int := if mayB d = true then 0 else 15
theorem erV_yes {a : Nat → Addr} {d : Dn} (h : May d) : erV a d = .nilIface := if_pos (mayB_true.2 h)
theorem erV_no {a : Nat → Addr} {d : Dn} (h : ¬ May d) : erV a d = .iface 265 (.pointer (some (a 15))) := if_neg (by rw [mayB_false h]; simp)
theorem cfV_yes {d : Dn} (h : May d) : cfV d = 0 := if_pos (mayB_true.2 h)
theorem cfV_no {d : Dn} (h : ¬ May d) : cfV d = 15 := if_neg (by rw [mayB_false h]; simp)
theorem same12_c {W : World} {a : Nat → Addr} {d : Dn} (h : Sents W a) : Calls Tryd.prog 36 #[erV a d, faultV (cfV d)] W fun e w' => e = .returned (.bool true) ∧ Ext W w' := by
  by_cases hm : May d
  · rw [erV_yes hm, cfV_yes hm]; exact same_nil W
  · rw [erV_no hm, cfV_no hm]; exact same_arg h

/-- the least automaton of one; of one that may not be the empty one -/
def IsL (d D : Dn) : Prop := (May d ∧ ∃ P, LM.Tells d.aut P ∧ D = dnOf (LM.least d.aut P)) ∨ (¬ May d ∧ D = ⟨[], []⟩)
theorem IsL.uniq {d D D' : Dn} (h : IsL d D) (h' : IsL d D') : D = D' := by
  rcases h with ⟨hm, P, hP, rfl⟩ | ⟨hm, rfl⟩
  · rcases h' with ⟨_, Q, hQ, rfl⟩ | ⟨hn, _⟩
    · rw [LM.least_eq hm.ok hm.ok hP hQ (LM.xeq.refl _ _)]
    · exact absurd hm hn
  · rcases h' with ⟨hn, _⟩ | ⟨_, rfl⟩
    · exact absurd hn hm
    · rfl
def IsC (d : Dn) (L : List Int) : Prop := (May d ∧ ∃ P, LM.Tells d.aut P ∧ L = nI ((List.range d.next.length).map (LM.num P))) ∨ (¬ May d ∧ L = [])
theorem IsC.uniq {d : Dn} {L L' : List Int} (h : IsC d L) (h' : IsC d L') : L = L' := by
  rcases h with ⟨hm, P, hP, rfl⟩ | ⟨hm, rfl⟩
  · rcases h' with ⟨_, Q, hQ, rfl⟩ | ⟨hn, _⟩
    · congr 1
      refine List.map_congr_left fun i hi => ?_
      have hi' : i < d.aut.n := List.mem_range.1 hi
      exact LM.num_congr (m := d.aut.n) (fun s t hs ht => (hP s t hs ht).trans (hQ s t hs ht).symm) hi'
    · exact absurd hm hn
  · rcases h' with ⟨hn, _⟩ | ⟨_, rfl⟩
    · exact absurd hn hm
    · rfl

theorem zeroD (w : World) : DenseV w (.agg #[.slice none 0 0, .slice none 0 0]) ⟨[], []⟩ :=
  ⟨_, _, rfl, ⟨Nat.zero_le _, none, 0, rfl, ⟨Nat.le_refl _, fun _ => rfl⟩, fun h => absurd h (Nat.lt_irrefl _)⟩, ⟨Nat.zero_le _, none, 0, rfl, ⟨Nat.le_refl _, fun _ => rfl⟩, fun h => absurd h (Nat.lt_irrefl _)⟩⟩
theorem zeroI (w : World) : Ints w (.slice none 0 0) [] := ⟨Nat.zero_le _, none, 0, rfl, ⟨Nat.le_refl _, fun _ => rfl⟩, fun h => absurd h (Nat.lt_irrefl _)⟩
theorem fullNil (w : World) (L : Nat) : FullRows w (.slice none 0 0) 0 L := ⟨⟨_, _, rfl⟩, fun _ _ _ h => absurd h (Nat.lt_irrefl _)⟩

def LeastX (a : Nat → Addr) (d : Dn) (w : World) (e : Ending) (w' : World) : Prop :=
  ∃ an n cn al m cl D, e = .returned (.tuple #[.agg #[.slice an n cn, .slice al m cl], erV a d]) ∧ IsL d D ∧ DenseV w' (.agg #[.slice an n cn, .slice al m cl]) D ∧ n ≤ 600 ∧ m ≤ 600 ∧ FullRows w' (.slice an n cn) n 256 ∧ w'.ownsRow w.heap.size 3 1 (.slice al m cl) m (intsV D.label) ∧ Ext w w'
theorem leastX_c {w : World} {v : Value} {d : Dn} {a : Nat → Addr} (h : DenseV w v d) (hS : Sents w a) : Calls Tryd.prog 47 #[v] w (LeastX a d w) := by
  by_cases hm : May d
  · refine (leastO_c h hm).mono ?_
    rintro e w' ⟨an, cn, al, cl, n, P, rfl, hT, hin, hx, hn, hfr, hown⟩
    exact ⟨an, n, cn, al, n, cl, _, by rw [erV_yes hm], .inl ⟨hm, P, hT, rfl⟩, hin.dense, hn, hn, hfr, hown, hx⟩
  · refine (least_no h hm hS).mono ?_
    rintro e w' ⟨rfl, hx⟩
    exact ⟨none, 0, 0, none, 0, 0, ⟨[], []⟩, by rw [erV_no hm], .inr ⟨hm, rfl⟩, zeroD _, Nat.zero_le _, Nat.zero_le _, fullNil _ _, World.ownsRow_nil _ _ _ _, hx⟩

def ClassesX (a : Nat → Addr) (d : Dn) (w : World) (e : Ending) (w' : World) : Prop :=
  ∃ ac n cc L, e = .returned (.tuple #[.slice ac n cc, erV a d]) ∧ IsC d L ∧ n ≤ 600 ∧ w'.ownsRow w.heap.size 3 1 (.slice ac n cc) n (intsV L) ∧ Ext w w'
theorem classesX_c {w : World} {v : Value} {d : Dn} {a : Nat → Addr} (h : DenseV w v d) (hS : Sents w a) : Calls Tryd.prog 48 #[v] w (ClassesX a d w) := by
  by_cases hm : May d
  · refine (classes_c h hm).mono ?_
    rintro e w' ⟨cv, rfl, P, hT, hown, hx⟩
    obtain ⟨ac, cc, rfl⟩ := own_shp hown
    refine ⟨ac, _, cc, _, by rw [erV_yes hm], .inl ⟨hm, P, hT, rfl⟩, hm.most, ?_, hx⟩
    show w'.ownsRow _ _ _ _ _ (intsV (List.map (fun (n : Nat) => (n : Int)) _))
    rw [← natV_intsV]; exact hown
  · refine (classes_no h hm hS).mono ?_
    rintro e w' ⟨rfl, hx⟩
    exact ⟨none, 0, 0, [], by rw [erV_no hm], .inr ⟨hm, rfl⟩, Nat.zero_le _, World.ownsRow_nil _ _ _ _, hx⟩

def RClsX (d : Dn) (w : World) (e : Ending) (w' : World) : Prop :=
  ∃ ac n cc L, e = .returned (.tuple #[.slice ac n cc, faultV (cfV d)]) ∧ IsC d L ∧ Ints w' (.slice ac n cc) L ∧ Ext w w'
theorem refclsX_c {w : World} {v : Value} {d : Dn} (h : DenseV w v d) : Calls Tryd.prog 46 #[v] w (RClsX d w) := by
  by_cases hm : May d
  · refine (refcls_c h hm).mono ?_
    rintro e w' ⟨cv, C, rfl, hT, hown, hx⟩
    obtain ⟨ac, cc, rfl⟩ := own_shp hown
    refine ⟨ac, _, cc, _, by rw [cfV_yes hm], .inl ⟨hm, C, hT, rfl⟩, ?_, hx⟩
    have hl : Lst 0 w' (fun _ => 0) w.heap.size 3 (.slice ac d.next.length cc) (intsV (nI ((List.range d.next.length).map (LM.num C)))) := by
      refine ⟨?_, fun _ _ => rfl⟩
      have e : (intsV (nI ((List.range d.next.length).map (LM.num C)))).length = d.next.length := by simp [intsV, nI]
      rw [e]; rw [natV_intsV] at hown; exact hown
    exact hl.ints (by simp [nI]; have := hm.most; omega)
  · refine (refcls_no h hm).mono ?_
    rintro e w' ⟨rfl, hx⟩
    exact ⟨none, 0, 0, [], by rw [cfV_no hm], .inr ⟨hm, rfl⟩, zeroI _, hx⟩

def RLeaX (d : Dn) (w : World) (e : Ending) (w' : World) : Prop :=
  ∃ an n cn al m cl D, e = .returned (.tuple #[.agg #[.slice an n cn, .slice al m cl], faultV (cfV d)]) ∧ IsL d D ∧ DenseV w' (.agg #[.slice an n cn, .slice al m cl]) D ∧ Ext w w'
theorem refleastX_c {w : World} {v : Value} {d : Dn} (h : DenseV w v d) : Calls Tryd.prog 45 #[v] w (RLeaX d w) := by
  by_cases hm : May d
  · refine (refleast_c h hm).mono ?_
    rintro e w' ⟨v, C, rfl, hT, hD, hx⟩
    obtain ⟨an, cn, al, cl, rfl, _⟩ := hD.open
    exact ⟨an, _, cn, al, _, cl, _, by rw [cfV_yes hm], .inl ⟨hm, C, hT, rfl⟩, hD, hx⟩
  · refine (refleast_no h hm).mono ?_
    rintro e w' ⟨rfl, hx⟩
    exact ⟨none, 0, 0, none, 0, 0, ⟨[], []⟩, by rw [cfV_no hm], .inr ⟨hm, rfl⟩, zeroD _, hx⟩
end Go.Proofs.YtpeipjfmibjoiaaDoor
