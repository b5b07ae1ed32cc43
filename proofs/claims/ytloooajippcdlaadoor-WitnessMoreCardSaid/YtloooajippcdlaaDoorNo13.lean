/- witness.Word, Apart, Differ where they refuse. -/
import Derived.Test.YtloooajippcdlaaDoorCheck
import Derived.Test.YtloooajippcdlaaDoorTell
import Derived.WalkMore
namespace Go.Proofs.YtloooajippcdlaaDoor
open Go.RowKit

def noW (a : Nat → Addr) : Value := .tuple #[.slice none 0 0, .bool false, .iface 200 (.pointer (some (a 15)))]

set_option maxRecDepth 100000 in
set_option maxHeartbeats 2000000 in
theorem word_no {w : World} {v : Value} {d : Dn} {label : Int} {a : Nat → Addr} (h : DenseV w v d) (hno : ¬ (May d ∧ -1 ≤ label)) (hS : Sents w a) : Calls Tryd.prog 34 #[v, .int .i64 label] w fun e w' => e = .returned (noW a) ∧ Ext w w' := by
  obtain ⟨an, cn, al, cl, rfl, _⟩ := h.open
  obtain ⟨W, hW⟩ : ∃ W, W = (w.alloc (.cells #[.slice an d.next.length cn, .slice al d.label.length cl] 25)).alloc (.cells #[.int .i64 label] 3) := ⟨_, rfl⟩
  have hx : Ext w W := by rw [hW]; exact (Ext.box _ _).alloc _
  have q2 : W.cell? ⟨w.heap.size + 1, 0, none⟩ = some (.int .i64 label) := by rw [hW]; simp
  have hck := check_c (h.ext hx)
  obtain ⟨m, hm⟩ : ∃ m, m = mayB d := ⟨_, rfl⟩
  rw [← hm] at hck
  have hl : m = true → label < -1 := fun e => by
    rcases Int.lt_or_le label (-1) with h1 | h1
    · exact h1
    · exact absurd ⟨mayB_true.1 (hm.symm.trans e), h1⟩ hno
  have hg := hx.cell (hS.cell 15 (by omega) (by omega))
  rw [show gl 15 = 0 from rfl] at hg
  unfold noW
  clear h hno hS hm
  generalize a 15 = x at *
  generalize d.next.length = n1 at *
  generalize d.label.length = n2 at *
  have H := Lib.hid (And.intro hck (And.intro hg (And.intro hx hW)))
  clear hck hg hx hW
  cases m
  · clear hl
    go_enter Tryd.func34, Tryd.ntmps34
    go_wp2_with fail
    rw [← H.out.2.2.2]
    refine H.out.1.mono ?_
    rintro e w1 ⟨rfl, hx1⟩
    have g0 := hx1.cell H.out.2.1
    have g1 := hx1.cell q2
    have HX := Lib.hid (H.out.2.2.1.trans hx1)
    clear hx1 q2
    go_wp2_with fail
    go_quiet (fail)
    go_wp2
    go_ret3
    exact ⟨rfl, HX.out.drewN _⟩
  · have hl' := hl rfl
    clear hl
    go_enter Tryd.func34, Tryd.ntmps34
    go_wp2_with fail
    rw [← H.out.2.2.2]
    refine H.out.1.mono ?_
    rintro e w1 ⟨rfl, hx1⟩
    have g0 := hx1.cell H.out.2.1
    have g1 := hx1.cell q2
    have HX := Lib.hid (H.out.2.2.1.trans hx1)
    clear hx1 q2
    go_wp2_with fail
    go_quiet (fail)
    go_wp2
    go_ret3
    exact ⟨rfl, HX.out.drewN _⟩

set_option maxRecDepth 100000 in
set_option maxHeartbeats 4000000 in
theorem apart_no {w : World} {v : Value} {d : Dn} {x y : Int} {a : Nat → Addr} (h : DenseV w v d) (hno : ¬ (May d ∧ 0 ≤ x ∧ x < d.next.length ∧ 0 ≤ y ∧ y < d.next.length)) (hS : Sents w a) : Calls Tryd.prog 35 #[v, .int .i64 x, .int .i64 y] w fun e w' => e = .returned (noW a) ∧ Ext w w' := by
  obtain ⟨an, cn, al, cl, rfl, _⟩ := h.open
  obtain ⟨W, hW⟩ : ∃ W, W = w.alloc (.cells #[.slice an d.next.length cn, .slice al d.label.length cl] 25) := ⟨_, rfl⟩
  have hx : Ext w W := by rw [hW]; exact Ext.box _ _
  have q0 : W.cell? ⟨w.heap.size, 0, none⟩ = some (.slice an d.next.length cn) := by rw [hW]; simp
  have hck := check_c (h.ext hx)
  obtain ⟨m, hm⟩ : ∃ m, m = mayB d := ⟨_, rfl⟩
  rw [← hm] at hck
  have hl : m = true → ¬ (0 ≤ x ∧ x < d.next.length ∧ 0 ≤ y ∧ y < d.next.length) := fun e hh => hno ⟨mayB_true.1 (hm.symm.trans e), hh⟩
  have hg := hx.cell (hS.cell 15 (by omega) (by omega))
  rw [show gl 15 = 0 from rfl] at hg
  unfold noW
  clear h hno hS hm
  generalize a 15 = z at *
  generalize d.next.length = n1 at *
  generalize d.label.length = n2 at *
  have H := Lib.hid (And.intro hck (And.intro hg (And.intro hx hW)))
  clear hck hg hx hW
  cases m
  · clear hl
    go_enter Tryd.func35, Tryd.ntmps35
    go_wp2_with fail
    rw [← H.out.2.2.2]
    refine H.out.1.mono ?_
    rintro e w1 ⟨rfl, hx1⟩
    have g0 := hx1.cell H.out.2.1
    have g1 := hx1.cell q0
    have HX := Lib.hid (H.out.2.2.1.trans hx1)
    clear hx1 q0
    go_wp2_with fail
    go_quiet (fail)
    go_wp2
    go_ret3
    exact ⟨rfl, HX.out.drewN _⟩
  · have hl' := hl rfl
    clear hl
    by_cases k1 : x < 0
    · clear hl'
      go_enter Tryd.func35, Tryd.ntmps35
      go_wp2_with fail
      rw [← H.out.2.2.2]
      refine H.out.1.mono ?_
      rintro e w1 ⟨rfl, hx1⟩
      have g0 := hx1.cell H.out.2.1
      have g1 := hx1.cell q0
      have HX := Lib.hid (H.out.2.2.1.trans hx1)
      clear hx1 q0
      go_wp2_with fail
      go_quiet (fail)
      go_wp2
      go_ret3
      exact ⟨rfl, HX.out.drewN _⟩
    have k1' : 0 ≤ x := by omega
    by_cases k2 : (n1 : Int) ≤ x
    · clear hl'
      go_enter Tryd.func35, Tryd.ntmps35
      go_wp2_with fail
      rw [← H.out.2.2.2]
      refine H.out.1.mono ?_
      rintro e w1 ⟨rfl, hx1⟩
      have g0 := hx1.cell H.out.2.1
      have g1 := hx1.cell q0
      have HX := Lib.hid (H.out.2.2.1.trans hx1)
      clear hx1 q0
      go_wp2_with fail
      go_quiet (fail)
      go_wp2
      go_ret3
      exact ⟨rfl, HX.out.drewN _⟩
    have k2' : x < n1 := by omega
    by_cases k3 : y < 0
    · clear hl'
      go_enter Tryd.func35, Tryd.ntmps35
      go_wp2_with fail
      rw [← H.out.2.2.2]
      refine H.out.1.mono ?_
      rintro e w1 ⟨rfl, hx1⟩
      have g0 := hx1.cell H.out.2.1
      have g1 := hx1.cell q0
      have HX := Lib.hid (H.out.2.2.1.trans hx1)
      clear hx1 q0
      go_wp2_with fail
      go_quiet (fail)
      go_wp2
      go_ret3
      exact ⟨rfl, HX.out.drewN _⟩
    have k3' : 0 ≤ y := by omega
    have k4 : (n1 : Int) ≤ y := by omega
    clear hl'
    go_enter Tryd.func35, Tryd.ntmps35
    go_wp2_with fail
    rw [← H.out.2.2.2]
    refine H.out.1.mono ?_
    rintro e w1 ⟨rfl, hx1⟩
    have g0 := hx1.cell H.out.2.1
    have g1 := hx1.cell q0
    have HX := Lib.hid (H.out.2.2.1.trans hx1)
    clear hx1 q0
    go_wp2_with fail
    go_quiet (fail)
    go_wp2
    go_ret3
    exact ⟨rfl, HX.out.drewN _⟩

set_option maxRecDepth 100000 in
set_option maxHeartbeats 2000000 in
theorem differ_no {w : World} {va vb : Value} {d f : Dn} {a : Nat → Addr} (h : DenseV w va d) (h' : DenseV w vb f) (hno : ¬ (May d ∧ May f)) (hS : Sents w a) : Calls Tryd.prog 22 #[va, vb] w fun e w' => e = .returned (noW a) ∧ Ext w w' := by
  obtain ⟨an, cn, al, cl, rfl, _⟩ := h.open
  obtain ⟨bn, dn, bl, dl, rfl, _⟩ := h'.open
  obtain ⟨W, hW⟩ : ∃ W, W = (w.alloc (.cells #[.slice an d.next.length cn, .slice al d.label.length cl] 25)).alloc (.cells #[.slice bn f.next.length dn, .slice bl f.label.length dl] 25) := ⟨_, rfl⟩
  have hx : Ext w W := by rw [hW]; exact (Ext.box _ _).alloc _
  have q0 : W.cell? ⟨w.heap.size + 1, 0, none⟩ = some (.slice bn f.next.length dn) := by rw [hW]; simp
  have q1 : W.cell? ⟨w.heap.size + 1, 1, none⟩ = some (.slice bl f.label.length dl) := by rw [hW]; simp
  have hck := check_c (h.ext hx)
  have hck2 := fun w1 hx1 => check_c (w := w1) (h'.ext (hx.trans hx1))
  obtain ⟨m, hm⟩ : ∃ m, m = mayB d := ⟨_, rfl⟩
  rw [← hm] at hck
  have hl : m = true → mayB f = false := fun e => mayB_false fun hf => hno ⟨mayB_true.1 (hm.symm.trans e), hf⟩
  have hg := hx.cell (hS.cell 15 (by omega) (by omega))
  rw [show gl 15 = 0 from rfl] at hg
  unfold noW
  clear h h' hno hS hm
  generalize a 15 = x at *
  generalize d.next.length = n1 at *
  generalize d.label.length = n2 at *
  generalize f.next.length = n3 at *
  generalize f.label.length = n4 at *
  have H := Lib.hid (And.intro hck (And.intro hg (And.intro hx (And.intro hck2 hW))))
  clear hck hg hx hW hck2
  cases m
  · clear hl
    go_enter Tryd.func22, Tryd.ntmps22
    go_wp2_with fail
    rw [← H.out.2.2.2.2]
    refine H.out.1.mono ?_
    rintro e w1 ⟨rfl, hx1⟩
    have g0 := hx1.cell H.out.2.1
    have HX := Lib.hid (H.out.2.2.1.trans hx1)
    clear hx1 q0 q1
    go_wp2_with fail
    go_quiet (fail)
    go_wp2
    go_ret3
    exact ⟨rfl, HX.out.drewN _⟩
  · have hl' := hl rfl
    clear hl
    go_enter Tryd.func22, Tryd.ntmps22
    go_wp2_with fail
    rw [← H.out.2.2.2.2]
    refine H.out.1.mono ?_
    rintro e w1 ⟨rfl, hx1⟩
    have g0 := hx1.cell q0
    have g1 := hx1.cell q1
    have hc2 := H.out.2.2.2.1 w1 hx1
    rw [hl'] at hc2
    have HX := Lib.hid (And.intro hc2 hx1)
    clear hx1 hc2 q0 q1 hl'
    go_wp2_with fail
    refine HX.out.1.mono ?_
    rintro e w2 ⟨rfl, hx2⟩
    have g2 := (HX.out.2.trans hx2).cell H.out.2.1
    have HX2 := Lib.hid (H.out.2.2.1.trans (HX.out.2.trans hx2))
    clear hx2 g0 g1
    go_wp2_with fail
    go_quiet (fail)
    go_wp2
    go_ret3
    exact ⟨rfl, HX2.out.drewN _⟩
end Go.Proofs.YtloooajippcdlaaDoor
