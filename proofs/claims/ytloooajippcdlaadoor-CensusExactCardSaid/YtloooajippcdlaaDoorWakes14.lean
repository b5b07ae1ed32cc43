/- bolterlaw14.wakes. -/
import Derived.Test.YtloooajippcdlaaDoorPairsMath
import Derived.Test.YtloooajippcdlaaDoorBetweenA
import Derived.Test.YtloooajippcdlaaDoorCount
import Derived.Test.YtloooajippcdlaaDoorNth
import Derived.Test.YtloooajippcdlaaDoorRank
import Derived.Test.YtloooajippcdlaaDoorRow14
import Derived.Lib.SlBytesConst
namespace Go.Proofs.YtloooajippcdlaaDoor
open Go.RowKit

/-- a row of bytes that bears a mark -/
theorem marked_bytes {w : World} {C : Array Value} {t : TypeId} {m : Nat × Nat} {l : List Nat} {W : World} (hW : W = w.alloc (.cells C t m)) (h : ∀ i, i < l.length → C[i]? = some (.int .u8 ((l.getD i 0 : Nat) : Int))) (hl : l.length ≤ 140737488355328) :
    BytesW W (.slice (some ⟨w.heap.size, 0, none⟩) l.length l.length) l := by
  subst hW
  refine ⟨by simpa using hl, some ⟨w.heap.size, 0, none⟩, l.length, by simp, ⟨by simp, fun h => by cases h⟩, fun _ => ⟨w.heap.size, 0, rfl, fun i x hx => ?_⟩⟩
  rw [List.getElem?_map, Option.map_eq_some_iff] at hx
  obtain ⟨y, hy, rfl⟩ := hx
  have hi := (List.getElem?_eq_some_iff.1 hy).1
  have := h i hi
  rw [List.getD_eq_getElem?_getD, hy] at this
  rw [Nat.mul_one, Nat.zero_add]
  unfold IntAt
  rw [World.cell?_alloc_mark]
  exact this

set_option maxRecDepth 100000 in
set_option maxHeartbeats 2000000 in
theorem wakes14_c (w : World) : Calls Tryd.prog 13 #[] w fun e w' => e = .returned (.bool true) ∧ Ext w w' := by
  have kc := fun (w : World) (C : Array Value) (n c : Nat) => Lib.run_convert_bytes_const (P := Tryd.prog) w 28 5 C n c Tryd.underlying28 Tryd.underlying5
  have hcount : pairsD.ways 0 3 0 = 8 := by rw [pairs_ways 3 0 (by omega)]; decide
  have hs8 : sn 8 = 8 := by decide
  have ho8 : so 8 = false := by decide
  go_enter Tryd.func13, Tryd.ntmps13
  go_wp2_with fail
  refine (pairs_c _).mono ?_
  rintro e w1 ⟨⟨v1, rfl, hd1⟩, hx1⟩
  go_wp2_with fail
  refine (count_c (n := 3) hd1 pairs_may (by omega) (by omega)).mono ?_
  rintro e w2 ⟨rfl, hx2⟩
  rw [hcount, hs8, ho8]
  go_wp2_with fail
  refine (pairs_c _).mono ?_
  rintro e w3 ⟨⟨v3, rfl, hd3⟩, hx3⟩
  go_wp2_with fail
  refine (nth_c (k := 5) hd3 pairs_may (by omega) (by omega)).mono ?_
  rintro e w4 ⟨hx4, ⟨h65, _⟩ | ⟨_, vw, rfl, hown⟩⟩
  · rw [pairs_5.1] at h65; simp at h65
  rw [pairs_5.1] at hown
  simp only at hown
  rw [pairs_5.2] at hown
  go_wp2_with fail
  refine (pairs_c _).mono ?_
  rintro e w5 ⟨⟨v5, rfl, hd5⟩, hx5⟩
  go_wp2_with fail
  have hxm := Ext.box w5 (.cells #[.int .u8 98, .int .u8 97] 5 (2, 3))
  have hbw : BytesW (w5.alloc (.cells #[.int .u8 98, .int .u8 97] 5 (2, 3))) (.slice (some ⟨w5.heap.size, 0, none⟩) 2 2) [98, 97] :=
    marked_bytes (l := [98, 97]) rfl (fun i hi => by match i, hi with | 0, _ => rfl | 1, _ => rfl) (by simp)
  refine (rank_c (l := [98, 97]) (hd5.ext hxm) pairs_may (by omega) hbw (by simp) (by simp)).mono ?_
  rintro e w6 ⟨hx6, ⟨_, _, rfl⟩ | ⟨hno, _⟩⟩
  case inr => exact absurd ⟨by rw [pairs_rank]; omega, pairs_run⟩ hno
  rw [pairs_rank]
  have hxx := hx5.trans (hxm.trans hx6)
  have hown6 := own_ext hxx hown
  have hX : BytesW w6 vw [98, 98] := own_bytes hown6 (by omega)
  have hX2 := IntsK.ext (Ext.box w6 (.cells #[.int .u8 98, .int .u8 98] 5 (2, 3))) hX
  have hb2 : BytesW (w6.alloc (.cells #[.int .u8 98, .int .u8 98] 5 (2, 3))) (.slice (some ⟨w6.heap.size, 0, none⟩) 2 2) [98, 98] :=
    marked_bytes (l := [98, 98]) rfl (fun i hi => by match i, hi with | 0, _ => rfl | 1, _ => rfl) (by simp)
  have hxe : Ext w (w6.alloc (.cells #[.int .u8 98, .int .u8 98] 5 (2, 3))) := (hx1.trans (hx2.trans (hx3.trans (hx4.trans hxx)))).trans (Ext.box _ _)
  clear hown hown6 hX hbw hd1 hd3 hd5
  go_wp2_with fail
  refine (eqBytes_b hX2 hb2 (r := true) (by simp)).mono ?_
  rintro e w7 ⟨rfl, hx7⟩
  go_wp2
  go_ret
  exact ⟨rfl, hxe.trans hx7⟩
end Go.Proofs.YtloooajippcdlaaDoor
