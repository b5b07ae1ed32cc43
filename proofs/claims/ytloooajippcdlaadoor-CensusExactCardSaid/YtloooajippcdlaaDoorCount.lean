/- census.Count. -/
import Derived.Test.YtloooajippcdlaaDoorCheck
import Derived.Test.YtloooajippcdlaaDoorCounted
namespace Go.Proofs.YtloooajippcdlaaDoor
open Go.RowKit

/-- the table, as a reader needs it -/
def TabV (w : World) (T N k : Nat) (F : Nat → Nat → Nat) : Prop :=
  ∀ n, n < k → ∃ B, w.cell? ⟨T, n, none⟩ = some (.slice (some ⟨B, 0, none⟩) N N) ∧ ∀ s, s < N → SumAt w B s (F n s)

theorem TabI.tab {w wr : World} {bn on cn bl ol cl T N k top : Nat} {F : Nat → Nat → Nat} (h : TabI w wr bn on cn bl ol cl T N k top F) : TabV wr T N k F :=
  fun n hn => by obtain ⟨B, _, _, h1, h2⟩ := h.rows n hn; exact ⟨B, h1, h2⟩
theorem TabV.ext {w w' : World} (hx : Ext w w') {T N k : Nat} {F : Nat → Nat → Nat} (h : TabV w T N k F) : TabV w' T N k F :=
  fun n hn => by obtain ⟨B, h1, h2⟩ := h n hn; exact ⟨B, hx.cell h1, fun s hs => ⟨hx.cell (h2 s hs).1, hx.cell (h2 s hs).2⟩⟩

theorem counted_v {v : Value} {d : Dn} {w : World} (h : DenseV w v d) (hm : May d) (label : Int) (most : Nat) (hmost : most ≤ 64) :
    Calls Tryd.prog 79 #[v, .int .i64 label, .int .i64 most] w fun e w' => ∃ T, e = .returned (.pointer (some ⟨T, 0, none⟩)) ∧ TabV w' T d.next.length (most + 1) (d.ways label) ∧ Ext w w' := by
  refine (counted_c h hm label most hmost).mono ?_
  rintro e w' ⟨rfl, bn, on, cn, bl, ol, cl, ht⟩
  exact ⟨_, rfl, ht.tab, ht.ext⟩

set_option maxRecDepth 100000 in
set_option maxHeartbeats 1000000 in
theorem count_c {v : Value} {d : Dn} {w : World} (h : DenseV w v d) (hm : May d) {label : Int} (hl : -1 ≤ label) {n : Nat} (hn : n ≤ 64) :
    Calls Tryd.prog 44 #[v, .int .i64 label, .int .i64 n] w fun e w' =>
      e = .returned (.tuple #[.int .u64 (sn (d.ways label n 0)), .bool (!so (d.ways label n 0)), .nilIface]) ∧ Ext w w' := by
  have hmb := mayB_true.2 hm
  have HM := Lib.hid hm
  obtain ⟨vn, vl, rfl, h1, h2⟩ := id h
  have hb0 := fun W (hx : Ext (w.alloc (.cells #[vn, vl] 25)) W) => hx.cell (p := ⟨w.heap.size, 0, none⟩) (v := vn) (by simp)
  have hb1 := fun W (hx : Ext (w.alloc (.cells #[vn, vl] 25)) W) => hx.cell (p := ⟨w.heap.size, 1, none⟩) (v := vl) (by simp)
  have hd := fun W (hx : Ext (w.alloc (.cells #[vn, vl] 25)) W) => h.ext ((Ext.box w _).trans hx)
  clear h h1 h2 hm
  have hl' : ¬ label < -1 := by omega
  have hn' : ¬ (64 : Int) < n := by omega
  have hn2 : n ≤ 64 := hn
  go_enter Tryd.func44, Tryd.ntmps44
  go_wp2_with fail
  refine (check_c (hd _ (Ext.refl _))).mono ?_
  rintro e w1 ⟨rfl, hx1⟩
  have hb0' := hb0 _ hx1
  have hb1' := hb1 _ hx1
  go_wp2_with fail
  refine (counted_v (hd _ hx1) HM.out label n hn).mono ?_
  rintro e w2 ⟨T, rfl, ht, hx2⟩
  obtain ⟨B, ht1, ht2⟩ := ht n (by omega)
  have hs := ht2 0 HM.out.pos
  clear ht ht2
  unfold SumAt at hs
  rw [Nat.zero_mul] at hs
  have hs0 := hs.1
  have hs1 := hs.2
  have hpos : 0 < d.next.length := HM.out.pos
  clear hs hb0 hb1 hd hb0' hb1'
  go_wp2
  go_region
  all_goals go_wp2
  go_ret3
  exact ⟨rfl, ((Ext.box w _).trans (hx1.trans hx2)).trans (Ext.box _ _).drew⟩
end Go.Proofs.YtloooajippcdlaaDoor
