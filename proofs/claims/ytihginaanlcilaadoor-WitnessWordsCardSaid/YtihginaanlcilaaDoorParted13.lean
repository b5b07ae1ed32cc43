/- bolterref13.parted: is a pair the wanted one? -/
import Derived.Test.YtihginaanlcilaaDoorSpreadS
namespace Go.Proofs.YtihginaanlcilaaDoor
open Go.RowKit

theorem new_cell2 {w : World} {o : Obj} {c : Array Value} {t : TypeId} {i : Nat} {x : Value} (h : c[i]? = some x) : ((w.alloc o).alloc (.cells c t)).cell? ⟨w.heap.size + 1, i, none⟩ = some x := by
  have := new_cell (w := w.alloc o) (c := c) (t := t) (i := i) h
  rwa [World.size_alloc] at this
theorem new_cell3 {w : World} {o o' : Obj} {c : Array Value} {t : TypeId} {i : Nat} {x : Value} (h : c[i]? = some x) : (((w.alloc o).alloc o').alloc (.cells c t)).cell? ⟨w.heap.size + 1 + 1, i, none⟩ = some x := by
  have := new_cell2 (w := w.alloc o) (o := o') (c := c) (t := t) (i := i) h
  rwa [World.size_alloc] at this

set_option maxRecDepth 100000 in
set_option maxHeartbeats 2000000 in
theorem parted_nil {w : World} {va vb : Value} {a b : Dn} {i k : Nat} {f y : Int} (ha : DenseV w va a) (hb : DenseV w vb b) (hma : May a) (hmb : May b) (hi : i < a.next.length) (hk : k < b.next.length) :
    Calls Tryd.prog 46 #[va, vb, .agg #[.int .i64 (i : Int), .int .i64 (k : Int), .int .i64 f, .int .i64 y], .slice none 0 0] w fun e w' => e = .returned (.bool (a.lb i != b.lb k)) ∧ Ext w w' := by
  obtain ⟨bn, on, cn, bl, ol, cl, rfl, hca⟩ := ha.cells hma
  obtain ⟨bm, om, cm, bk, ok, ck, rfl, hcb⟩ := hb.cells hmb
  have l1 := hca.label i hi
  have l2 := hcb.label k hk
  obtain ⟨NA, hNA⟩ : ∃ N, N = a.next.length := ⟨_, rfl⟩
  obtain ⟨NB, hNB⟩ : ∃ N, N = b.next.length := ⟨_, rfl⟩
  rw [← hNA] at hi ⊢
  rw [← hNB] at hk ⊢
  have hj1 : (i : Int) < NA := by omega
  have hj2 : (k : Int) < NB := by omega
  obtain ⟨x, hx⟩ : ∃ x, x = a.lb i := ⟨_, rfl⟩
  obtain ⟨z, hz⟩ : ∃ x, x = b.lb k := ⟨_, rfl⟩
  rw [← hx] at l1 ⊢
  rw [← hz] at l2 ⊢
  obtain ⟨W, hW⟩ : ∃ W, W = ((w.alloc (.cells #[.slice (some ⟨bn, on, none⟩) NA cn, .slice (some ⟨bl, ol, none⟩) NA cl] 25)).alloc (.cells #[.slice (some ⟨bm, om, none⟩) NB cm, .slice (some ⟨bk, ok, none⟩) NB ck] 25)).alloc (.cells #[.int .i64 (i : Int), .int .i64 (k : Int), .int .i64 f, .int .i64 y] 70) := ⟨_, rfl⟩
  have hxW : Ext w W := by rw [hW]; exact ((Ext.box _ _).alloc _).alloc _
  have c1 := hxW.cell l1
  have c2 := hxW.cell l2
  have q1 : W.cell? ⟨w.heap.size, 1, none⟩ = some (.slice (some ⟨bl, ol, none⟩) NA cl) := by rw [hW]; exact ((Ext.box _ _).alloc _).cell (new_cell rfl)
  have q2 : W.cell? ⟨w.heap.size + 1, 1, none⟩ = some (.slice (some ⟨bk, ok, none⟩) NB ck) := by rw [hW]; exact (Ext.box _ _).cell (new_cell2 rfl)
  have q3 : W.cell? ⟨w.heap.size + 1 + 1, 0, none⟩ = some (.int .i64 (i : Int)) := by rw [hW]; exact new_cell3 rfl
  have q4 : W.cell? ⟨w.heap.size + 1 + 1, 1, none⟩ = some (.int .i64 (k : Int)) := by rw [hW]; exact new_cell3 rfl
  have H := Lib.hid (And.intro hxW hW)
  clear ha hb hca hcb hma hmb hNA hNB hx hz hxW hW l1 l2
  go_enter Tryd.func46, Tryd.ntmps46
  go_wp2_with fail
  rw [← H.out.2]
  go_quiet (fail)
  go_wp2
  go_ret
  exact ⟨rfl, H.out.1.drewN _⟩

set_option maxRecDepth 100000 in
set_option maxHeartbeats 2000000 in
theorem parted_one {w : World} {va vb : Value} {a : Dn} {i k g c : Nat} {f y z : Int} (ha : DenseV w va a) (hb : ∃ a1 n1 c1 a2 n2 c2, vb = .agg #[.slice a1 n1 c1, .slice a2 n2 c2]) (hma : May a) (hi : i < a.next.length) (hg : w.cell? ⟨g, 0, none⟩ = some (.int .i64 z)) :
    Calls Tryd.prog 46 #[va, vb, .agg #[.int .i64 (i : Int), .int .i64 (k : Int), .int .i64 f, .int .i64 y], .slice (some ⟨g, 0, none⟩) 1 c] w fun e w' => e = .returned (.bool (a.lb i == z)) ∧ Ext w w' := by
  obtain ⟨bn, on, cn, bl, ol, cl, rfl, hca⟩ := ha.cells hma
  obtain ⟨a1, n1, c1, a2, n2, c2, rfl⟩ := hb
  have l1 := hca.label i hi
  obtain ⟨NA, hNA⟩ : ∃ N, N = a.next.length := ⟨_, rfl⟩
  rw [← hNA] at hi ⊢
  have hj1 : (i : Int) < NA := by omega
  obtain ⟨x, hx⟩ : ∃ x, x = a.lb i := ⟨_, rfl⟩
  rw [← hx] at l1 ⊢
  obtain ⟨W, hW⟩ : ∃ W, W = ((w.alloc (.cells #[.slice (some ⟨bn, on, none⟩) NA cn, .slice (some ⟨bl, ol, none⟩) NA cl] 25)).alloc (.cells #[.slice a1 n1 c1, .slice a2 n2 c2] 25)).alloc (.cells #[.int .i64 (i : Int), .int .i64 (k : Int), .int .i64 f, .int .i64 y] 70) := ⟨_, rfl⟩
  have hxW : Ext w W := by rw [hW]; exact ((Ext.box _ _).alloc _).alloc _
  have c1 := hxW.cell l1
  have c2 := hxW.cell hg
  have q1 : W.cell? ⟨w.heap.size, 1, none⟩ = some (.slice (some ⟨bl, ol, none⟩) NA cl) := by rw [hW]; exact ((Ext.box _ _).alloc _).cell (new_cell rfl)
  have q3 : W.cell? ⟨w.heap.size + 1 + 1, 0, none⟩ = some (.int .i64 (i : Int)) := by rw [hW]; exact new_cell3 rfl
  have H := Lib.hid (And.intro hxW hW)
  clear ha hca hma hNA hx hxW hW l1 hg
  go_enter Tryd.func46, Tryd.ntmps46
  go_wp2_with fail
  rw [← H.out.2]
  go_quiet (fail)
  go_wp2
  go_ret
  exact ⟨rfl, H.out.1.drewN _⟩
end Go.Proofs.YtihginaanlcilaaDoor
