/- fault.Tell of ErrArg; bolterkit.Same of it. -/
import Derived.Test.YtloooajippcdlaaDoorSents
import Derived.Test.YtloooajippcdlaaDoorBldS
import Derived.Test.YtloooajippcdlaaDoorGrow
import Derived.Laws.ResultCell
namespace Go.Proofs.YtloooajippcdlaaDoor
open Go.RowKit

def faultV (c : Int) : Value := .agg #[.int .i64 c, .int .i64 0, .int .i64 0, .int .i64 0, .slice none 0 0]

set_option maxRecDepth 100000 in
set_option maxHeartbeats 2000000 in
theorem tell_c {W : World} {a : Nat → Addr} (h : Sents W a) : Calls Tryd.prog 58 #[.iface 200 (.pointer (some (a 15)))] W fun e w' => e = .returned (faultV 15) ∧ Ext W w' := by
  have hcd := code_c (h.ext (Ext.box W (.cells #[.int .i64 0, .int .i64 0, .int .i64 0, .int .i64 0, .slice none 0 0] 54))) (k := 15) (by omega) (by omega)
  obtain ⟨x, hx⟩ : ∃ x, x = a 15 := ⟨_, rfl⟩
  rw [← hx] at hcd ⊢
  have H := Lib.hid (And.intro h (And.intro hx hcd))
  clear h hx hcd
  go_enter Tryd.func58, Tryd.ntmps58
  go_wp2_with fail
  refine H.out.2.2.mono ?_
  rintro e w1 ⟨rfl, rfl⟩
  go_wp2_with fail
  obtain ⟨W3, hW3⟩ : ∃ W3, W3 = ((W.alloc (.cells #[.int .i64 0, .int .i64 0, .int .i64 0, .int .i64 0, .slice none 0 0] 54)).alloc (.cells #[.int .i64 15, .int .i64 0, .int .i64 0, .int .i64 0, .slice none 0 0] 54)).alloc (.cells #[.pointer none] 143) := ⟨_, rfl⟩
  have hx3 : Ext W W3 := by rw [hW3]; exact ((Ext.box _ _).trans (Ext.box _ _)).trans (Ext.box _ _)
  have r2 : W3.rowIs W.heap.size 54 5 (rF (.int .i64 0) (.int .i64 0) (.int .i64 0) (.int .i64 0) (.slice none 0 0)) := by
    rw [hW3]
    exact rowIs_ext ((Ext.box _ _).trans (Ext.box _ _)) (World.rowIs_alloc W #[.int .i64 0, .int .i64 0, .int .i64 0, .int .i64 0, .slice none 0 0] 54 (rF (.int .i64 0) (.int .i64 0) (.int .i64 0) (.int .i64 0) (.slice none 0 0)) (fun i hi => by rcases rF_at hi with rfl | rfl | rfl | rfl | rfl <;> rfl))
  have r3 : W3.rowIs (W.heap.size + 1) 54 5 (rF (.int .i64 15) (.int .i64 0) (.int .i64 0) (.int .i64 0) (.slice none 0 0)) := by
    have q := World.rowIs_alloc (W.alloc (.cells #[.int .i64 0, .int .i64 0, .int .i64 0, .int .i64 0, .slice none 0 0] 54)) #[.int .i64 15, .int .i64 0, .int .i64 0, .int .i64 0, .slice none 0 0] 54 (rF (.int .i64 15) (.int .i64 0) (.int .i64 0) (.int .i64 0) (.slice none 0 0)) (fun i hi => by rcases rF_at hi with rfl | rfl | rfl | rfl | rfl <;> rfl)
    rw [World.size_alloc] at q
    rw [hW3]
    exact rowIs_ext (Ext.box _ _) q
  rw [← hW3]
  have H3 := Lib.hid (And.intro hx3 (And.intro r2 r3))
  clear hx3 r2 r3 hW3
  refine (as_placed x ⟨W.heap.size + 1 + 1, 0, none⟩ W3 (H.out.1.ext H3.out.1).et).mono ?_
  rintro e w4 ⟨rfl, hx4⟩
  have H4 := Lib.hid hx4
  clear hx4
  go_wp2_with fail
  refine (as_named x ⟨w4.heap.size, 0, none⟩ _ (H.out.1.ext ((H3.out.1.trans H4.out).trans (Ext.box _ _))).et).mono ?_
  rintro e w5 ⟨rfl, hx5⟩
  have H5 := Lib.hid ((H4.out.trans (Ext.box _ _)).trans hx5)
  clear hx5
  go_wp2_with fail
  refine (as_ruled x ⟨w5.heap.size, 0, none⟩ _ (H.out.1.ext ((H3.out.1.trans H5.out).trans (Ext.box _ _))).et).mono ?_
  rintro e w6 ⟨rfl, hx6⟩
  have H6 := Lib.hid ((H5.out.trans (Ext.box _ _)).trans hx6)
  clear hx6
  go_wp2_with fail
  refine (as_staged x ⟨w6.heap.size, 0, none⟩ _ (H.out.1.ext ((H3.out.1.trans H6.out).trans (Ext.box _ _))).et).mono ?_
  rintro e w7 ⟨rfl, hx7⟩
  have hx37 := (H6.out.trans (Ext.box _ _)).trans hx7
  have r2 := rowIs_ext hx37 H3.out.2.1
  have r3 := rowIs_ext hx37 H3.out.2.2
  obtain ⟨rb, hrb⟩ : ∃ rb, rb = W.heap.size := ⟨_, rfl⟩
  obtain ⟨fb, hfb⟩ : ∃ fb, fb = W.heap.size + 1 := ⟨_, rfl⟩
  rw [← hfb] at r3 ⊢
  rw [← hrb] at r2 ⊢
  have c0 : w7.cell? ⟨fb, 0, none⟩ = some (.int .i64 15) := r3.cell (i := 0) (by omega)
  have c1 : w7.cell? ⟨fb, 1, none⟩ = some (.int .i64 0) := r3.cell (i := 1) (by omega)
  have c2 : w7.cell? ⟨fb, 2, none⟩ = some (.int .i64 0) := r3.cell (i := 2) (by omega)
  have c3 : w7.cell? ⟨fb, 3, none⟩ = some (.int .i64 0) := r3.cell (i := 3) (by omega)
  have c4 : w7.cell? ⟨fb, 4, none⟩ = some (.slice none 0 0) := r3.cell (i := 4) (by omega)
  have d0 : w7.cell? ⟨rb, 0, none⟩ = some (.int .i64 0) := r2.cell (i := 0) (by omega)
  have d1 : w7.cell? ⟨rb, 1, none⟩ = some (.int .i64 0) := r2.cell (i := 1) (by omega)
  have d2 : w7.cell? ⟨rb, 2, none⟩ = some (.int .i64 0) := r2.cell (i := 2) (by omega)
  have d3 : w7.cell? ⟨rb, 3, none⟩ = some (.int .i64 0) := r2.cell (i := 3) (by omega)
  have d4 : w7.cell? ⟨rb, 4, none⟩ = some (.slice none 0 0) := r2.cell (i := 4) (by omega)
  have g0 := r2.frozen 0
  have g1 := r2.frozen 1
  have g2 := r2.frozen 2
  have g3 := r2.frozen 3
  have g4 := r2.frozen 4
  have H7 := Lib.hid (And.intro (H3.out.1.trans hx37) (And.intro r2 hrb))
  clear hx7 hx37 r2 r3 hrb hfb
  go_wp2
  have hr9 := rowIs_set5 H7.out.2.1 (.int .i64 15) (.int .i64 0) (.int .i64 0) (.int .i64 0) (.slice none 0 0)
  have hle : W.heap.size ≤ rb := by rw [H7.out.2.2]; exact Nat.le_refl _
  have hXf : Ext W (((((w7.setCell ⟨rb, 0, none⟩ (.int .i64 15)).setCell ⟨rb, 1, none⟩ (.int .i64 0)).setCell ⟨rb, 2, none⟩ (.int .i64 0)).setCell ⟨rb, 3, none⟩ (.int .i64 0)).setCell ⟨rb, 4, none⟩ (.slice none 0 0)) := ((((H7.out.1.setCell hle _).setCell hle _).setCell hle _).setCell hle _).setCell hle _
  generalize World.setCell (World.setCell (World.setCell (World.setCell (World.setCell w7 _ _) _ _) _ _) _ _) _ _ = Wf at hr9 hXf ⊢
  have z0 : Wf.cell? ⟨rb, 0, none⟩ = some (.int .i64 15) := hr9.cell (i := 0) (by omega)
  have z1 : Wf.cell? ⟨rb, 1, none⟩ = some (.int .i64 0) := hr9.cell (i := 1) (by omega)
  have z2 : Wf.cell? ⟨rb, 2, none⟩ = some (.int .i64 0) := hr9.cell (i := 2) (by omega)
  have z3 : Wf.cell? ⟨rb, 3, none⟩ = some (.int .i64 0) := hr9.cell (i := 3) (by omega)
  have z4 : Wf.cell? ⟨rb, 4, none⟩ = some (.slice none 0 0) := hr9.cell (i := 4) (by omega)
  (try simp only [Exit.inBlock, Exit.then])
  refine bodyPost_ret (v := faultV 15) (by simp [results, faultV, Tryd.results58, z0, z1, z2, z3, z4, go_sem]) rfl ⟨rfl, hXf⟩

set_option maxRecDepth 100000 in
set_option maxHeartbeats 1000000 in
theorem isFault_c (c : Int) (w : World) : Calls Tryd.prog 19 #[.int .i64 c] w fun e w' => e = .returned (faultV c) ∧ Ext w w' := by
  go_enter Tryd.func19, Tryd.ntmps19
  go_wp2
  refine bodyPost_ret (v := faultV c) (by simp [results, faultV, Tryd.results19, go_sem]) rfl ⟨rfl, Ext.box _ _⟩

set_option maxRecDepth 100000 in
set_option maxHeartbeats 1000000 in
theorem eqTexts_nil (w : World) : Calls Tryd.prog 88 #[.slice none 0 0, .slice none 0 0] w fun e w' => e = .returned (.bool true) ∧ w = w' := by
  go_enter Tryd.func88, Tryd.ntmps88
  go_wp2
  refine wp_loop_rounds 1 ?_
  rw [rounds_succ]
  go_wp2
  go_ret
  exact ⟨rfl, rfl⟩

set_option maxRecDepth 100000 in
set_option maxHeartbeats 1000000 in
theorem eqFault_c (c : Int) (w : World) : Calls Tryd.prog 57 #[faultV c, faultV c] w fun e w' => e = .returned (.bool true) ∧ Ext w w' := by
  unfold faultV
  go_enter Tryd.func57, Tryd.ntmps57
  go_wp2_with fail
  refine (eqTexts_nil _).mono ?_
  rintro e w1 ⟨rfl, rfl⟩
  go_wp2
  go_ret
  exact ⟨rfl, (Ext.box _ _).trans (Ext.box _ _)⟩

set_option maxRecDepth 100000 in
set_option maxHeartbeats 2000000 in
/-- an error that is ErrArg says CodeArg, and nothing else -/
theorem same_arg {W : World} {a : Nat → Addr} (h : Sents W a) : Calls Tryd.prog 18 #[.iface 200 (.pointer (some (a 15))), faultV 15] W fun e w' => e = .returned (.bool true) ∧ Ext W w' := by
  obtain ⟨w0, hw0⟩ : ∃ w0, w0 = W.alloc (.cells #[.int .i64 15, .int .i64 0, .int .i64 0, .int .i64 0, .slice none 0 0] 54) := ⟨_, rfl⟩
  have hx0 : Ext W w0 := by rw [hw0]; exact Ext.box _ _
  have c1 : ∀ z, Calls Tryd.prog 58 #[.iface 200 (.pointer (some (a 15)))] (growW w0 z) fun e w' => e = .returned (faultV 15) ∧ Ext (growW w0 z) w' := fun z => tell_c (h.ext (hx0.trans (grow_ext w0 z)))
  have c2 : ∀ z, Calls Tryd.prog 57 #[faultV 15, faultV 15] (growW w0 z) fun e w' => e = .returned (.bool true) ∧ Ext (growW w0 z) w' := fun z => eqFault_c 15 _
  have k0 : w0.cell? ⟨W.heap.size, 0, none⟩ = some (.int .i64 15) := by rw [hw0]; simp
  have k1 : w0.cell? ⟨W.heap.size, 1, none⟩ = some (.int .i64 0) := by rw [hw0]; simp
  have k2 : w0.cell? ⟨W.heap.size, 2, none⟩ = some (.int .i64 0) := by rw [hw0]; simp
  have k3 : w0.cell? ⟨W.heap.size, 3, none⟩ = some (.int .i64 0) := by rw [hw0]; simp
  have k4 : w0.cell? ⟨W.heap.size, 4, none⟩ = some (.slice none 0 0) := by rw [hw0]; simp
  generalize a 15 = x at *
  unfold faultV at c1 c2 ⊢
  have q0 := fun z => (grow_ext w0 z).cell k0
  have q1 := fun z => (grow_ext w0 z).cell k1
  have q2 := fun z => (grow_ext w0 z).cell k2
  have q3 := fun z => (grow_ext w0 z).cell k3
  have q4 := fun z => (grow_ext w0 z).cell k4
  have HC := Lib.hid (And.intro c1 (And.intro c2 hx0))
  have HW := Lib.hid hw0
  clear c1 c2 hx0 h k0 k1 k2 k3 k4 hw0
  go_enter Tryd.func18, Tryd.ntmps18
  go_wp2_with fail
  rw [← HW.out]
  refine wp_region_grow (by kernel_rfl) (by kernel_rfl) ?_
  repeat (go_big_quiet_step ((first | (go_at_call 58; with_reducible exact calls_grow (HC.out.1 _)) | (go_at_call 57; with_reducible exact calls_grow (HC.out.2.1 _)))))
  refine wpQuiet_nil ?_
  rintro _ ⟨z, rfl⟩
  have HX := Lib.hid (HC.out.2.2.trans (grow_ext w0 z))
  clear q0 q1 q2 q3 q4
  go_wp2
  go_ret
  exact ⟨rfl, HX.out⟩

set_option maxRecDepth 100000 in
set_option maxHeartbeats 1000000 in
theorem same_nil (W : World) : Calls Tryd.prog 18 #[.nilIface, faultV 0] W fun e w' => e = .returned (.bool true) ∧ Ext W w' := by
  unfold faultV
  go_enter Tryd.func18, Tryd.ntmps18
  go_wp2
  go_ret
  exact ⟨rfl, Ext.box _ _⟩
end Go.Proofs.YtloooajippcdlaaDoor
