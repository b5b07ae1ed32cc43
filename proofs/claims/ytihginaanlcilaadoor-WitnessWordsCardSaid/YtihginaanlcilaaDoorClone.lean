/- slices.Clone of bytes and of numbers. -/
import Derived.Test.YtihginaanlcilaaDoorOwn
import Derived.Test.YtihginaanlcilaaDoorTags
import Derived.Maps.AppendAt
namespace Go.Proofs.YtihginaanlcilaaDoor
open Go.RowKit

/-- a copy in memory of its own -/
def ClonedR (t : TypeId) (k : IntKind) (la : List Int) (w : World) (e : Ending) (w' : World) : Prop := ∃ v, e = .returned v ∧ w'.ownsRow w.heap.size t 1 v la.length (la.map (Value.int k)) ∧ Ext w w'

set_option maxRecDepth 100000 in
set_option maxHeartbeats 1000000 in
theorem cloneB_c {va : Value} {la : List Int} {w : World} (ha : IntsK .u8 w va la) (hbig : la.length * 1 ≤ 140737488355328) :
    Calls Tryd.prog 33 #[va] w (ClonedR 5 .u8 la w) := by
  obtain ⟨h1, a, ca, rfl, hca, ha2⟩ := ha.open
  obtain ⟨i0, hi, hz0, hz1, hz2⟩ := info_parts byte_info
  have keq := fun (w : World) (a : Option Addr) (n c : Nat) => Lib.run_eql_slice_nil (P := Tryd.prog) w 28 5 a n c 0 0 Tryd.underlying28
  cases a with
  | none =>
    have hn : la = [] := by
      cases la with
      | nil => rfl
      | cons x l => obtain ⟨b, o, h, _⟩ := ha2 (by simp); cases h
    subst hn
    obtain rfl := hca.2 rfl
    go_enter Tryd.func33, Tryd.ntmps33
    go_wp2_with fail
    go_ret
    exact ⟨_, rfl, World.ownsRow_nil _ _ _ _, Ext.refl _⟩
  | some ad =>
    obtain ⟨L, hL⟩ : ∃ L, L = la.length := ⟨_, rfl⟩
    have h3 : 0 + L ≤ maxLen := by unfold maxLen; omega
    have h5 : ∀ w1, Ext w w1 → ∀ j u, (la.map (Value.int .u8))[j]? = some u → w1.cell? (ad.add j) = some u := fun w1 hx j u hj => by
      have hjl := (List.getElem?_eq_some_iff.1 hj).1
      rw [List.length_map] at hjl
      obtain ⟨b, o, h, h2⟩ := ha2 (by omega)
      obtain rfl : ad = ⟨b, o, none⟩ := by simpa using h
      exact hx.cell (news_ints (k := .u8) h2 j u hj)
    have hx1 : Ext w (w.alloc (.cells #[] 5)) := Ext.box _ _
    have h6 := h5 _ hx1
    have hown : (w.alloc (.cells #[] 5)).ownsRow w.heap.size 5 1 (.slice (some ⟨w.heap.size, 0, none⟩) 0 0) 0 [] := ⟨rfl, .inr ⟨w.heap.size, 0, #[], rfl, Nat.le_refl _, heap_alloc_new _ _, Nat.le_refl _, by unfold maxLen; omega, rfl, rfl⟩⟩
    have hbase : w.heap.size ≤ (w.alloc (.cells #[] 5)).heap.size := by simp
    have hlen : (la.map (Value.int .u8)).length = L * 1 := by simp [hL]
    have hone := one_ints .u8 la
    rw [← hL] at hbig ⊢
    clear h5 ha2 ha
    go_enter Tryd.func33, Tryd.ntmps33
    go_wp2_with (at_builtin; refine wpList_append_own_at _ rfl _ _ 28 rfl w.heap.size 5 i0 (.int .u8 0) 1 1 Tryd.underlying28 hi hz0 hz1 hz2 rfl (by decide) _ _ _ rfl hown ad L ca (la.map (Value.int .u8)) rfl hlen h6 hone h3 (by omega) hbase ?_; intro v' W hown2 hg _ hat)
    go_ret
    rw [Nat.zero_add, List.nil_append, hL] at hown2
    exact ⟨_, rfl, hown2, Below.grown hx1 hg hbase (fun k hk => by cases hk; exact Nat.le_refl _)⟩

set_option maxRecDepth 100000 in
set_option maxHeartbeats 1000000 in
theorem cloneI_c {va : Value} {la : List Int} {w : World} (ha : IntsK .i64 w va la) (hbig : la.length * 8 ≤ 140737488355328) :
    Calls Tryd.prog 47 #[va] w (ClonedR 3 .i64 la w) := by
  obtain ⟨h1, a, ca, rfl, hca, ha2⟩ := ha.open
  obtain ⟨i0, hi, hz0, hz1, hz2⟩ := info_parts int_info
  have keq := fun (w : World) (a : Option Addr) (n c : Nat) => Lib.run_eql_slice_nil (P := Tryd.prog) w 23 3 a n c 0 0 Tryd.underlying23
  cases a with
  | none =>
    have hn : la = [] := by
      cases la with
      | nil => rfl
      | cons x l => obtain ⟨b, o, h, _⟩ := ha2 (by simp); cases h
    subst hn
    obtain rfl := hca.2 rfl
    go_enter Tryd.func47, Tryd.ntmps47
    go_wp2_with fail
    go_ret
    exact ⟨_, rfl, World.ownsRow_nil _ _ _ _, Ext.refl _⟩
  | some ad =>
    obtain ⟨L, hL⟩ : ∃ L, L = la.length := ⟨_, rfl⟩
    have h3 : 0 + L ≤ maxLen := by unfold maxLen; omega
    have h5 : ∀ w1, Ext w w1 → ∀ j u, (la.map (Value.int .i64))[j]? = some u → w1.cell? (ad.add j) = some u := fun w1 hx j u hj => by
      have hjl := (List.getElem?_eq_some_iff.1 hj).1
      rw [List.length_map] at hjl
      obtain ⟨b, o, h, h2⟩ := ha2 (by omega)
      obtain rfl : ad = ⟨b, o, none⟩ := by simpa using h
      exact hx.cell (news_ints (k := .i64) h2 j u hj)
    have hx1 : Ext w (w.alloc (.cells #[] 3)) := Ext.box _ _
    have h6 := h5 _ hx1
    have hown : (w.alloc (.cells #[] 3)).ownsRow w.heap.size 3 1 (.slice (some ⟨w.heap.size, 0, none⟩) 0 0) 0 [] := ⟨rfl, .inr ⟨w.heap.size, 0, #[], rfl, Nat.le_refl _, heap_alloc_new _ _, Nat.le_refl _, by unfold maxLen; omega, rfl, rfl⟩⟩
    have hbase : w.heap.size ≤ (w.alloc (.cells #[] 3)).heap.size := by simp
    have hlen : (la.map (Value.int .i64)).length = L * 1 := by simp [hL]
    have hone := one_ints .i64 la
    rw [← hL] at hbig ⊢
    clear h5 ha2 ha
    go_enter Tryd.func47, Tryd.ntmps47
    go_wp2_with (at_builtin; refine wpList_append_own_at _ rfl _ _ 23 rfl w.heap.size 3 i0 (.int .i64 0) 1 8 Tryd.underlying23 hi hz0 hz1 hz2 rfl (by decide) _ _ _ rfl hown ad L ca (la.map (Value.int .i64)) rfl hlen h6 hone h3 (by omega) hbase ?_; intro v' W hown2 hg _ hat)
    go_ret
    rw [Nat.zero_add, List.nil_append, hL] at hown2
    exact ⟨_, rfl, hown2, Below.grown hx1 hg hbase (fun k hk => by cases hk; exact Nat.le_refl _)⟩
end Go.Proofs.YtihginaanlcilaaDoor
