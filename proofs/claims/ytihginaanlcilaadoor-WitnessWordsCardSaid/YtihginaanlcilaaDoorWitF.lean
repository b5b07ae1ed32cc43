/- witness.one, Word, Apart, Differ, of automata that may be. -/
import Derived.Test.YtihginaanlcilaaDoorSearch
import Derived.Test.YtihginaanlcilaaDoorCheck
import Derived.Deep.QuietTactic
import Derived.BigQuiet
import Derived.Shelf.Abstract
namespace Go.Proofs.YtihginaanlcilaaDoor
open Go.RowKit

def zeroRow : List Int := (List.range 256).map fun _ => 0
theorem zeroRow_len : zeroRow.length = 256 := by simp [zeroRow]
theorem zeroRow_get (i : Nat) : zeroRow.getD i 0 = 0 := by
  rw [List.getD_eq_getElem?_getD, zeroRow, List.getElem?_map]
  cases (List.range 256)[i]? <;> rfl
def oneD : Dn := ⟨[zeroRow], [-1]⟩
theorem oneD_len : oneD.next.length = 1 := rfl
theorem oneD_may : May oneD := by
  refine ⟨Nat.le_refl 1, by rw [oneD_len]; omega, rfl, fun i hi => ?_, fun i hi => ?_, fun i c hi hc => ?_⟩
  · obtain rfl : i = 0 := by rw [oneD_len] at hi; omega
    exact zeroRow_len
  · obtain rfl : i = 0 := by rw [oneD_len] at hi; omega
    show -1 ≤ (-1 : Int) ∧ (-1 : Int) < 200
    omega
  · obtain rfl : i = 0 := by rw [oneD_len] at hi; omega
    show 0 ≤ zeroRow.getD c 0 ∧ zeroRow.getD c 0 < 1
    rw [zeroRow_get]; omega

def OneR (w : World) (e : Ending) (w' : World) : Prop := ∃ vn cn vl cl, e = .returned (.agg #[.slice vn 1 cn, .slice vl 1 cl]) ∧ DenseV w' (.agg #[.slice vn 1 cn, .slice vl 1 cl]) oneD ∧ Ext w w'

theorem one_dense {W : World} {b0 b1 b2 : Nat} {n1 n2 : Nat} (r1 : W.rowIs b0 3 256 (fun _ => .int .i64 0)) (r2 : W.rowIs b1 23 n1 (fun _ => .slice (some ⟨b0, 0, none⟩) 256 256)) (r3 : W.rowIs b2 3 n2 (fun _ => .int .i64 (-1))) (h1 : n1 = 1 := by rfl) (h2 : n2 = 1 := by rfl) :
    DenseV W (.agg #[.slice (some ⟨b1, 0, none⟩) 1 1, .slice (some ⟨b2, 0, none⟩) 1 1]) oneD := by
  subst h1; subst h2
  refine ⟨_, _, rfl, rowIs_rows (l := oneD.next) r2 rfl (by omega) 1 (Nat.le_refl _) fun i hi => ?_, rowIs_ints (l := oneD.label) (r3.congr fun i hi => ?_) rfl (by omega) 1 (Nat.le_refl _)⟩
  · obtain rfl : i = 0 := by omega
    exact rowIs_ints (l := zeroRow) (r1.congr fun j hj => by rw [zeroRow_get]) zeroRow_len (by omega) 256 (Nat.le_refl _)
  · obtain rfl : i = 0 := by omega
    rfl

set_option maxRecDepth 100000 in
set_option maxHeartbeats 1000000 in
theorem one_c (w : World) : Calls Tryd.prog 37 #[] w (OneR w) := by
  have hmk : ∀ w, (Instr.makeSlice 23 (.int .i64 256) (.int .i64 256)).run Tryd.prog w = .ok (.slice (some ⟨w.heap.size, 0, none⟩) 256 256) (w.alloc (.cells (madeCells #[.int .i64 0] 256) 3)) := fun w =>
    run_make_any (P := Tryd.prog) 23 3 (.int .i64 0) 1 8 Tryd.underlying23 int_info .i64 .i64 256 (by omega) (by omega) w
  go_enter Tryd.func37, Tryd.ntmps37
  go_wp2_with fail
  have r1 := World.rowIs_made (w.alloc (.cells #[.slice (some ⟨w.heap.size + 1 + 1, 0, none⟩) 1 1, .slice (some ⟨w.heap.size + 1 + 1 + 1, 0, none⟩) 1 1] 25)) (.int .i64 0) 256 3
  have r2 := World.rowIs_alloc ((w.alloc (.cells #[.slice (some ⟨w.heap.size + 1 + 1, 0, none⟩) 1 1, .slice (some ⟨w.heap.size + 1 + 1 + 1, 0, none⟩) 1 1] 25)).alloc (.cells (madeCells #[.int .i64 0] 256) 3)) #[.slice (some ⟨w.heap.size + 1, 0, none⟩) 256 256] 23 (fun _ => .slice (some ⟨w.heap.size + 1, 0, none⟩) 256 256) (fun i hi => by match i, hi with | 0, _ => rfl)
  have r3 := World.rowIs_alloc (((w.alloc (.cells #[.slice (some ⟨w.heap.size + 1 + 1, 0, none⟩) 1 1, .slice (some ⟨w.heap.size + 1 + 1 + 1, 0, none⟩) 1 1] 25)).alloc (.cells (madeCells #[.int .i64 0] 256) 3)).alloc (.cells #[.slice (some ⟨w.heap.size + 1, 0, none⟩) 256 256] 23)) #[.int .i64 (-1)] 3 (fun _ => .int .i64 (-1)) (fun i hi => by match i, hi with | 0, _ => rfl)
  simp only [World.size_alloc] at r1 r2 r3
  have r1 := (r1.alloc (.cells #[.slice (some ⟨w.heap.size + 1, 0, none⟩) 256 256] 23)).alloc (.cells #[.int .i64 (-1)] 3)
  have r2 := r2.alloc (.cells #[.int .i64 (-1)] 3)
  have k0 : ((((w.alloc (.cells #[.slice (some ⟨w.heap.size + 1 + 1, 0, none⟩) 1 1, .slice (some ⟨w.heap.size + 1 + 1 + 1, 0, none⟩) 1 1] 25)).alloc (.cells (madeCells #[.int .i64 0] 256) 3)).alloc (.cells #[.slice (some ⟨w.heap.size + 1, 0, none⟩) 256 256] 23)).alloc (.cells #[.int .i64 (-1)] 3)).cell? ⟨w.heap.size, 0, none⟩ = some (.slice (some ⟨w.heap.size + 1 + 1, 0, none⟩) 1 1) := (((Ext.box _ _).alloc _).alloc _).cell (new_cell rfl)
  have k1 : ((((w.alloc (.cells #[.slice (some ⟨w.heap.size + 1 + 1, 0, none⟩) 1 1, .slice (some ⟨w.heap.size + 1 + 1 + 1, 0, none⟩) 1 1] 25)).alloc (.cells (madeCells #[.int .i64 0] 256) 3)).alloc (.cells #[.slice (some ⟨w.heap.size + 1, 0, none⟩) 256 256] 23)).alloc (.cells #[.int .i64 (-1)] 3)).cell? ⟨w.heap.size, 1, none⟩ = some (.slice (some ⟨w.heap.size + 1 + 1 + 1, 0, none⟩) 1 1) := (((Ext.box _ _).alloc _).alloc _).cell (new_cell rfl)
  have hx : Ext w ((((w.alloc (.cells #[.slice (some ⟨w.heap.size + 1 + 1, 0, none⟩) 1 1, .slice (some ⟨w.heap.size + 1 + 1 + 1, 0, none⟩) 1 1] 25)).alloc (.cells (madeCells #[.int .i64 0] 256) 3)).alloc (.cells #[.slice (some ⟨w.heap.size + 1, 0, none⟩) 256 256] 23)).alloc (.cells #[.int .i64 (-1)] 3)) := (((Ext.box _ _).alloc _).alloc _).alloc _
  generalize World.alloc _ (.cells #[.int .i64 (-1)] 3) = W at r1 r2 r3 k0 k1 hx ⊢
  exact bodyPost_ret (v := .agg #[.slice (some ⟨w.heap.size + 1 + 1, 0, none⟩) 1 1, .slice (some ⟨w.heap.size + 1 + 1 + 1, 0, none⟩) 1 1]) (by simp [results, Tryd.results37, go_sem, k0, k1]) rfl ⟨_, _, _, _, rfl, one_dense r1 r2 r3, hx⟩

set_option maxRecDepth 100000 in
set_option maxHeartbeats 1000000 in
theorem wordIs_c {w : World} {bD bL : Nat} {vn vl : Value} {d : Dn} {label : Int} (h : DenseV w (.agg #[vn, vl]) d) (hm : May d) (h1 : w.cell? ⟨bD, 1, none⟩ = some vl) (h2 : w.cell? ⟨bL, 0, none⟩ = some (.int .i64 label)) {i k : Nat} (hi : i < d.next.length) :
    Calls Tryd.prog 38 #[.agg #[.int .i64 (i : Int), .int .i64 (k : Int)], .pointer (some ⟨bD, 0, none⟩), .pointer (some ⟨bL, 0, none⟩)] w fun e w' => e = .returned (.bool (d.lb i == label)) ∧ Ext w w' := by
  obtain ⟨bn, on, cn, bl, ol, cl, hv, hc⟩ := h.cells hm
  simp only [Value.agg.injEq, Array.mk.injEq, List.cons.injEq, and_true] at hv
  obtain ⟨rfl, rfl⟩ := hv
  have hl := hc.label i hi
  obtain ⟨N, hN⟩ : ∃ N, N = d.next.length := ⟨_, rfl⟩
  obtain ⟨x, hx⟩ : ∃ x, x = d.lb i := ⟨_, rfl⟩
  rw [← hN] at h1 hi
  rw [← hx] at hl ⊢
  have hj : (i : Int) < N := by omega
  have l1 := lt_of_cell h1
  have l2 := lt_of_cell h2
  have l3 := lt_of_cell hl
  have HX := Lib.hid (Ext.box w (.cells #[.int .i64 (i : Int), .int .i64 (k : Int)] 78))
  clear h hm hc hN hx
  go_enter Tryd.func38, Tryd.ntmps38
  go_wp2_with fail
  go_quiet (fail)
  go_wp2
  go_ret
  exact ⟨rfl, HX.out.trans (Ext.drewN (Ext.refl _) _)⟩

set_option maxRecDepth 100000 in
set_option maxHeartbeats 1000000 in
theorem differIs_c {w : World} {b1 b2 : Nat} {vn vl un ul : Value} {d e : Dn} (h : DenseV w (.agg #[vn, vl]) d) (h' : DenseV w (.agg #[un, ul]) e) (hm : May d) (hm' : May e) (h1 : w.cell? ⟨b1, 1, none⟩ = some vl) (h2 : w.cell? ⟨b2, 1, none⟩ = some ul) {i k : Nat} (hi : i < d.next.length) (hk : k < e.next.length) :
    Calls Tryd.prog 45 #[.agg #[.int .i64 (i : Int), .int .i64 (k : Int)], .pointer (some ⟨b1, 0, none⟩), .pointer (some ⟨b2, 0, none⟩)] w fun r w' => r = .returned (.bool (d.lb i != e.lb k)) ∧ Ext w w' := by
  obtain ⟨bn, on, cn, bl, ol, cl, hv, hc⟩ := h.cells hm
  obtain ⟨bm, om, cm, bk, ok, ck, hv', hc'⟩ := h'.cells hm'
  simp only [Value.agg.injEq, Array.mk.injEq, List.cons.injEq, and_true] at hv hv'
  obtain ⟨rfl, rfl⟩ := hv
  obtain ⟨rfl, rfl⟩ := hv'
  have hl := hc.label i hi
  have hl' := hc'.label k hk
  obtain ⟨N, hN⟩ : ∃ N, N = d.next.length := ⟨_, rfl⟩
  obtain ⟨M, hM⟩ : ∃ N, N = e.next.length := ⟨_, rfl⟩
  obtain ⟨x, hx⟩ : ∃ x, x = d.lb i := ⟨_, rfl⟩
  obtain ⟨y, hy⟩ : ∃ x, x = e.lb k := ⟨_, rfl⟩
  rw [← hN] at h1 hi
  rw [← hM] at h2 hk
  rw [← hx] at hl ⊢
  rw [← hy] at hl' ⊢
  have hj : (i : Int) < N := by omega
  have hj' : (k : Int) < M := by omega
  have l1 := lt_of_cell h1
  have l2 := lt_of_cell h2
  have l3 := lt_of_cell hl
  have l4 := lt_of_cell hl'
  have HX := Lib.hid (Ext.box w (.cells #[.int .i64 (i : Int), .int .i64 (k : Int)] 78))
  clear h h' hm hm' hc hc' hN hM hx hy
  go_enter Tryd.func45, Tryd.ntmps45
  go_wp2_with fail
  go_quiet (fail)
  go_wp2
  go_ret
  exact ⟨rfl, HX.out.trans (Ext.drewN (Ext.refl _) _)⟩

set_option maxRecDepth 100000 in
set_option maxHeartbeats 1000000 in
theorem apartIs_c {w : World} {b1 : Nat} {vn vl : Value} {d : Dn} (h : DenseV w (.agg #[vn, vl]) d) (hm : May d) (h1 : w.cell? ⟨b1, 1, none⟩ = some vl) {i k : Nat} (hi : i < d.next.length) (hk : k < d.next.length) :
    Calls Tryd.prog 41 #[.agg #[.int .i64 (i : Int), .int .i64 (k : Int)], .pointer (some ⟨b1, 0, none⟩)] w fun r w' => r = .returned (.bool (d.lb i != d.lb k)) ∧ Ext w w' := by
  obtain ⟨bn, on, cn, bl, ol, cl, hv, hc⟩ := h.cells hm
  simp only [Value.agg.injEq, Array.mk.injEq, List.cons.injEq, and_true] at hv
  obtain ⟨rfl, rfl⟩ := hv
  have hl := hc.label i hi
  have hl' := hc.label k hk
  obtain ⟨N, hN⟩ : ∃ N, N = d.next.length := ⟨_, rfl⟩
  obtain ⟨x, hx⟩ : ∃ x, x = d.lb i := ⟨_, rfl⟩
  obtain ⟨y, hy⟩ : ∃ x, x = d.lb k := ⟨_, rfl⟩
  rw [← hN] at h1 hi hk
  rw [← hx] at hl ⊢
  rw [← hy] at hl' ⊢
  have hj : (i : Int) < N := by omega
  have hj' : (k : Int) < N := by omega
  have l1 := lt_of_cell h1
  have l3 := lt_of_cell hl
  have l4 := lt_of_cell hl'
  have HX := Lib.hid (Ext.box w (.cells #[.int .i64 (i : Int), .int .i64 (k : Int)] 78))
  clear h hm hc hN hx hy
  go_enter Tryd.func41, Tryd.ntmps41
  go_wp2_with fail
  go_quiet (fail)
  go_wp2
  go_ret
  exact ⟨rfl, HX.out.trans (Ext.drewN (Ext.refl _) _)⟩

def WitR (w : World) (A B : LM.Aut) (x y : Nat) (P : Nat → Nat → Bool) (e : Ending) (w' : World) : Prop :=
  Ext w w' ∧ ((∃ u v, e = .returned (.tuple #[v, .bool true, .nilIface]) ∧ First A B x y P u ∧ w'.ownsRow w.heap.size 5 1 v u.length (bytesV u)) ∨ (e = .returned (.tuple #[.slice none 0 0, .bool false, .nilIface]) ∧ Nowhere A B x y P))

/-- what is told, in one form -/
def Res (w w' : World) (A B : LM.Aut) (x y : Nat) (P : Nat → Nat → Bool) (v : Value) (b : Bool) : Prop :=
  (b = true ∧ ∃ u, First A B x y P u ∧ w'.ownsRow w.heap.size 5 1 v u.length (bytesV u)) ∨ (b = false ∧ v = .slice none 0 0 ∧ Nowhere A B x y P)
theorem SearchR.form {w w' : World} {A B : LM.Aut} {x y : Nat} {P : Nat → Nat → Bool} {e : Ending} (h : SearchR w A B x y P e w') : ∃ v b, e = .returned (.tuple #[v, .bool b]) ∧ Ext w w' ∧ Res w w' A B x y P v b := by
  obtain ⟨hx, ⟨u, v, he, hF, hown⟩ | ⟨he, hF⟩⟩ := h
  · exact ⟨v, true, he, hx, .inl ⟨rfl, u, hF, hown⟩⟩
  · exact ⟨_, false, he, hx, .inr ⟨rfl, rfl, hF⟩⟩

theorem boxes2 {w : World} {u0 u1 v0 v1 : Value} {t t' : TypeId} : ((w.alloc (.cells #[u0, u1] t)).alloc (.cells #[v0, v1] t')).cell? ⟨w.heap.size, 0, none⟩ = some u0 ∧ ((w.alloc (.cells #[u0, u1] t)).alloc (.cells #[v0, v1] t')).cell? ⟨w.heap.size, 1, none⟩ = some u1 ∧
    ((w.alloc (.cells #[u0, u1] t)).alloc (.cells #[v0, v1] t')).cell? ⟨w.heap.size + 1, 0, none⟩ = some v0 ∧ ((w.alloc (.cells #[u0, u1] t)).alloc (.cells #[v0, v1] t')).cell? ⟨w.heap.size + 1, 1, none⟩ = some v1 := by
  refine ⟨(Ext.box _ _).cell (new_cell rfl), (Ext.box _ _).cell (new_cell rfl), ?_, ?_⟩
  · have := new_cell (w := w.alloc (.cells #[u0, u1] t)) (c := #[v0, v1]) (t := t') (i := 0) rfl
    rw [World.size_alloc] at this; exact this
  · have := new_cell (w := w.alloc (.cells #[u0, u1] t)) (c := #[v0, v1]) (t := t') (i := 1) rfl
    rw [World.size_alloc] at this; exact this

set_option maxRecDepth 100000 in
set_option maxHeartbeats 1000000 in
theorem differ_c {w : World} {va vb : Value} {a b : Dn} (ha : DenseV w va a) (hb : DenseV w vb b) (hma : May a) (hmb : May b) :
    Calls Tryd.prog 22 #[va, vb] w (WitR w a.aut b.aut 0 0 (fun i k => a.lb i != b.lb k)) := by
  have hmA := mayB_true.2 hma
  have hmB := mayB_true.2 hmb
  obtain ⟨bn, on, cn, bl, ol, cl, rfl, _⟩ := ha.cells hma
  obtain ⟨bm, om, cm, bk, ok, ck, rfl, _⟩ := hb.cells hmb
  have hmf : ∀ (fn : Fn) (first cap : Array Value) (w : World), (Instr.makeFunc fn first cap).run Tryd.prog w = .ok (.func fn first cap) w := fun _ _ _ _ => rfl
  have H := Lib.hid (And.intro ha (And.intro hb (And.intro hma hmb)))
  have HLA := Lib.hid (And.intro hma.pos hmb.pos)
  obtain ⟨NA, hNA⟩ : ∃ N, N = a.next.length := ⟨_, rfl⟩
  obtain ⟨NB, hNB⟩ : ∃ N, N = b.next.length := ⟨_, rfl⟩
  rw [← hNA, ← hNB] at H ⊢
  have HN := Lib.hid (And.intro hNA hNB)
  clear ha hb hma hmb hNA hNB
  obtain ⟨W, hW⟩ : ∃ W, W = (w.alloc (.cells #[.slice (some ⟨bn, on, none⟩) NA cn, .slice (some ⟨bl, ol, none⟩) NA cl] 25)).alloc (.cells #[.slice (some ⟨bm, om, none⟩) NB cm, .slice (some ⟨bk, ok, none⟩) NB ck] 25) := ⟨_, rfl⟩
  have hbx : ∀ W', Ext W W' → W'.cell? ⟨w.heap.size, 0, none⟩ = some (.slice (some ⟨bn, on, none⟩) NA cn) ∧ W'.cell? ⟨w.heap.size, 1, none⟩ = some (.slice (some ⟨bl, ol, none⟩) NA cl) ∧ W'.cell? ⟨w.heap.size + 1, 0, none⟩ = some (.slice (some ⟨bm, om, none⟩) NB cm) ∧ W'.cell? ⟨w.heap.size + 1, 1, none⟩ = some (.slice (some ⟨bk, ok, none⟩) NB ck) := fun W' hx => by
    subst hW
    exact ⟨hx.cell boxes2.1, hx.cell boxes2.2.1, hx.cell boxes2.2.2.1, hx.cell boxes2.2.2.2⟩
  have hwW : Ext w W := by rw [hW]; exact (Ext.box _ _).alloc _
  have HX := Lib.hid (And.intro hbx hwW)
  have HW := Lib.hid hW
  clear hbx hwW hW
  go_enter Tryd.func22, Tryd.ntmps22
  go_wp2_with fail
  rw [← HW.out]
  have hc1 := check_c (H.out.1.ext HX.out.2)
  have hc2 := fun W' (hx : Ext W W') => check_c (H.out.2.1.ext (HX.out.2.trans hx))
  rw [hmA] at hc1
  rw [hmB] at hc2
  have HC := Lib.hid (And.intro hc1 hc2)
  clear hc1 hc2 hmA hmB
  refine HC.out.1.mono ?_
  rintro e w1 ⟨rfl, hx1⟩
  obtain ⟨k0, k1, k2, k3⟩ := HX.out.1 w1 hx1
  have HX1 := Lib.hid hx1
  clear hx1
  go_wp2_with fail
  refine (HC.out.2 w1 HX1.out).mono ?_
  rintro e w2 ⟨rfl, hx2⟩
  obtain ⟨k0, k1, k2, k3⟩ := HX.out.1 w2 (HX1.out.trans hx2)
  have hx2' := HX1.out.trans hx2
  have hx2w := HX.out.2.trans hx2'
  have hsc := search_c (w := w2) (H.out.1.ext hx2w) (H.out.2.1.ext hx2w) H.out.2.2.1 H.out.2.2.2 (x := 0) (y := 0) HLA.out.1 HLA.out.2 (fid := 45) (caps := #[.pointer (some ⟨w.heap.size, 0, none⟩), .pointer (some ⟨w.heap.size + 1, 0, none⟩)]) (P := fun i k => a.lb i != b.lb k)
    (enters_of Tryd.func45 (by kernel_rfl) rfl) (fun W' i k hx hi hk => by
      obtain ⟨_, q1, _, q3⟩ := HX.out.1 W' (hx2'.trans hx)
      exact differIs_c (H.out.1.ext (hx2w.trans hx)) (H.out.2.1.ext (hx2w.trans hx)) H.out.2.2.1 H.out.2.2.2 q1 q3 hi hk)
  have HS := Lib.hid (And.intro hsc hx2w)
  clear hsc hx2' hx2w hx2
  go_wp2_with fail
  refine HS.out.1.mono ?_
  rintro e w3 ⟨hx3, ⟨u, v, rfl, hF, hown⟩ | ⟨rfl, hF⟩⟩
  · have HF := Lib.hid (And.intro hF (And.intro hown hx3))
    clear hF hown hx3
    go_wp2_with fail
    go_ret3
    exact ⟨HS.out.2.trans HF.out.2.2, .inl ⟨u, v, rfl, HF.out.1, own_base HF.out.2.1 HS.out.2.size⟩⟩
  · have HF := Lib.hid (And.intro hF hx3)
    clear hF hx3
    go_wp2_with fail
    go_ret3
    exact ⟨HS.out.2.trans HF.out.2, .inr ⟨rfl, HF.out.1⟩⟩

set_option maxRecDepth 100000 in
set_option maxHeartbeats 1000000 in
theorem apart_c {w : World} {va : Value} {a : Dn} (ha : DenseV w va a) (hma : May a) {x y : Nat} (hx : x < a.next.length) (hy : y < a.next.length) :
    Calls Tryd.prog 16 #[va, .int .i64 (x : Int), .int .i64 (y : Int)] w (WitR w a.aut a.aut x y (fun i k => a.lb i != a.lb k)) := by
  have hmA := mayB_true.2 hma
  obtain ⟨bn, on, cn, bl, ol, cl, rfl, _⟩ := ha.cells hma
  have hmf : ∀ (fn : Fn) (first cap : Array Value) (w : World), (Instr.makeFunc fn first cap).run Tryd.prog w = .ok (.func fn first cap) w := fun _ _ _ _ => rfl
  have H := Lib.hid (And.intro ha (And.intro hma (And.intro hx hy)))
  obtain ⟨NA, hNA⟩ : ∃ N, N = a.next.length := ⟨_, rfl⟩
  rw [← hNA] at hx hy ⊢
  rw [← hNA] at H
  have HN := Lib.hid hNA
  clear ha hma hNA
  have hj1 : (x : Int) < NA := by omega
  have hj2 : (y : Int) < NA := by omega
  obtain ⟨W, hW⟩ : ∃ W, W = w.alloc (.cells #[.slice (some ⟨bn, on, none⟩) NA cn, .slice (some ⟨bl, ol, none⟩) NA cl] 25) := ⟨_, rfl⟩
  have hbx : ∀ W', Ext W W' → W'.cell? ⟨w.heap.size, 0, none⟩ = some (.slice (some ⟨bn, on, none⟩) NA cn) ∧ W'.cell? ⟨w.heap.size, 1, none⟩ = some (.slice (some ⟨bl, ol, none⟩) NA cl) := fun W' hx => by
    subst hW
    exact ⟨hx.cell (new_cell rfl), hx.cell (new_cell rfl)⟩
  have hwW : Ext w W := by rw [hW]; exact Ext.box _ _
  have HX := Lib.hid (And.intro hbx hwW)
  have HW := Lib.hid hW
  clear hbx hwW hW
  go_enter Tryd.func16, Tryd.ntmps16
  go_wp2_with fail
  rw [← HW.out]
  have hc1 := check_c (H.out.1.ext HX.out.2)
  rw [hmA] at hc1
  have HC := Lib.hid hc1
  clear hc1 hmA
  refine HC.out.mono ?_
  rintro e w2 ⟨rfl, hx2⟩
  obtain ⟨k0, k1⟩ := HX.out.1 w2 hx2
  have hx2w := HX.out.2.trans hx2
  have hsc := search_c (w := w2) (H.out.1.ext hx2w) (H.out.1.ext hx2w) H.out.2.1 H.out.2.1 (x := x) (y := y) (by rw [← HN.out]; exact hx) (by rw [← HN.out]; exact hy) (fid := 41) (caps := #[.pointer (some ⟨w.heap.size, 0, none⟩)]) (P := fun i k => a.lb i != a.lb k)
    (enters_of Tryd.func41 (by kernel_rfl) rfl) (fun W' i k hx hi hk => by
      obtain ⟨_, q1⟩ := HX.out.1 W' (hx2.trans hx)
      exact apartIs_c (H.out.1.ext (hx2w.trans hx)) H.out.2.1 q1 hi hk)
  have HS := Lib.hid (And.intro hsc hx2w)
  clear hsc hx2w hx2
  go_wp2_with fail
  refine HS.out.1.mono ?_
  rintro e w3 ⟨hx3, ⟨u, v, rfl, hF, hown⟩ | ⟨rfl, hF⟩⟩
  · have HF := Lib.hid (And.intro hF (And.intro hown hx3))
    clear hF hown hx3
    go_wp2_with fail
    go_ret3
    exact ⟨HS.out.2.trans HF.out.2.2, .inl ⟨u, v, rfl, HF.out.1, own_base HF.out.2.1 HS.out.2.size⟩⟩
  · have HF := Lib.hid (And.intro hF hx3)
    clear hF hx3
    go_wp2_with fail
    go_ret3
    exact ⟨HS.out.2.trans HF.out.2, .inr ⟨rfl, HF.out.1⟩⟩

set_option maxRecDepth 100000 in
set_option maxHeartbeats 1000000 in
theorem wordOf_c {w : World} {va : Value} {a : Dn} {label : Int} (ha : DenseV w va a) (hma : May a) (hl : -1 ≤ label) :
    Calls Tryd.prog 13 #[va, .int .i64 label] w (WitR w a.aut oneD.aut 0 0 (fun i _ => a.lb i == label)) := by
  have hmA := mayB_true.2 hma
  obtain ⟨bn, on, cn, bl, ol, cl, rfl, _⟩ := ha.cells hma
  have hmf : ∀ (fn : Fn) (first cap : Array Value) (w : World), (Instr.makeFunc fn first cap).run Tryd.prog w = .ok (.func fn first cap) w := fun _ _ _ _ => rfl
  have H := Lib.hid (And.intro ha hma)
  obtain ⟨NA, hNA⟩ : ∃ N, N = a.next.length := ⟨_, rfl⟩
  rw [← hNA] at H ⊢
  have HN := Lib.hid hNA
  clear ha hma hNA
  have hj1 : ¬ label < -1 := by omega
  obtain ⟨W, hW⟩ : ∃ W, W = (w.alloc (.cells #[.slice (some ⟨bn, on, none⟩) NA cn, .slice (some ⟨bl, ol, none⟩) NA cl] 25)).alloc (.cells #[.int .i64 label] 3) := ⟨_, rfl⟩
  have hbx : ∀ W', Ext W W' → W'.cell? ⟨w.heap.size, 0, none⟩ = some (.slice (some ⟨bn, on, none⟩) NA cn) ∧ W'.cell? ⟨w.heap.size, 1, none⟩ = some (.slice (some ⟨bl, ol, none⟩) NA cl) ∧ W'.cell? ⟨w.heap.size + 1, 0, none⟩ = some (.int .i64 label) := fun W' hx => by
    subst hW
    refine ⟨hx.cell ((Ext.box _ _).cell (new_cell rfl)), hx.cell ((Ext.box _ _).cell (new_cell rfl)), hx.cell ?_⟩
    have := new_cell (w := w.alloc (.cells #[.slice (some ⟨bn, on, none⟩) NA cn, .slice (some ⟨bl, ol, none⟩) NA cl] 25)) (c := #[.int .i64 label]) (t := 3) (i := 0) rfl
    rw [World.size_alloc] at this; exact this
  have hwW : Ext w W := by rw [hW]; exact (Ext.box _ _).alloc _
  have HX := Lib.hid (And.intro hbx hwW)
  have HW := Lib.hid hW
  clear hbx hwW hW
  go_enter Tryd.func13, Tryd.ntmps13
  go_wp2_with fail
  rw [← HW.out]
  have hc1 := check_c (H.out.1.ext HX.out.2)
  rw [hmA] at hc1
  have HC := Lib.hid hc1
  clear hc1 hmA
  refine HC.out.mono ?_
  rintro e w2 ⟨rfl, hx2⟩
  obtain ⟨k0, k1, k2⟩ := HX.out.1 w2 hx2
  have hx2w := HX.out.2.trans hx2
  have hsc : ∀ w4 vn cn' vl cl', Ext w2 w4 → DenseV w4 (.agg #[.slice vn 1 cn', .slice vl 1 cl']) oneD → Calls Tryd.prog 36 #[.agg #[.slice (some ⟨bn, on, none⟩) NA cn, .slice (some ⟨bl, ol, none⟩) NA cl], .agg #[.slice vn 1 cn', .slice vl 1 cl'], .agg #[.int .i64 0, .int .i64 0], .func (.func 38) #[] #[.pointer (some ⟨w.heap.size, 0, none⟩), .pointer (some ⟨w.heap.size + 1, 0, none⟩)]] w4 (SearchR w4 a.aut oneD.aut 0 0 (fun i _ => a.lb i == label)) := fun w4 vn cn' vl cl' hx4 hone =>
    search_c (w := w4) (H.out.1.ext (hx2w.trans hx4)) hone H.out.2 oneD_may (x := 0) (y := 0) H.out.2.pos (by rw [oneD_len]; omega) (fid := 38) (caps := #[.pointer (some ⟨w.heap.size, 0, none⟩), .pointer (some ⟨w.heap.size + 1, 0, none⟩)]) (P := fun i _ => a.lb i == label)
      (enters_of Tryd.func38 (by kernel_rfl) rfl) (fun W' i k hx hi _ => by
        obtain ⟨_, q1, q2⟩ := HX.out.1 W' (hx2.trans (hx4.trans hx))
        exact wordIs_c (H.out.1.ext (hx2w.trans (hx4.trans hx))) H.out.2 q1 q2 hi)
  have HS := Lib.hid (And.intro hsc hx2w)
  clear hsc hx2w hx2
  go_wp2_with fail
  go_region_held3 (fun W => W.cell? ⟨w.heap.size, 0, none⟩ = some (.slice (some ⟨bn, on, none⟩) NA cn) ∧ W.cell? ⟨w.heap.size, 1, none⟩ = some (.slice (some ⟨bl, ol, none⟩) NA cl))
    (first | exact ⟨k0, k1⟩ | exact ⟨j0, j1⟩ | exact ⟨i0, i1⟩)
    ((first | (go_at_call 37; refine (one_c _).mono ?_; rintro e w4 ⟨vn, cn', vl, cl', rfl, hone, hx4⟩; have j0 := hx4.cell (a := w2.drew) k0; have j1 := hx4.cell (a := w2.drew) k1) | (go_at_call 36; refine (HS.out.1 w4 vn cn' vl cl' ((Ext.drew (Ext.refl w2)).trans hx4) hone).mono ?_; intro e w3 hsr; obtain ⟨v3, b3, rfl, hx3, hres⟩ := SearchR.form hsr; have i0 := hx3.cell j0; have i1 := hx3.cell j1)))
  all_goals
    have hx23 : Ext w2 w4 := (Ext.drew (Ext.refl w2)).trans hx4
    have HF := Lib.hid (And.intro hres (And.intro hx23 hx3))
    clear hres hx23 hx3 hx4 hone i0 i1 j0 j1 k0 k1 k2
    go_wp2_with fail
    go_ret3
    refine ⟨HS.out.2.trans (HF.out.2.1.trans HF.out.2.2), ?_⟩
    rcases HF.out.1 with ⟨e1, u, h1, h2⟩ | ⟨e1, e2, h1⟩
    · subst e1
      exact .inl ⟨u, v3, rfl, h1, own_base h2 (HS.out.2.trans HF.out.2.1).size⟩
    · subst e1; subst e2
      exact .inr ⟨rfl, h1⟩
end Go.Proofs.YtihginaanlcilaaDoor
