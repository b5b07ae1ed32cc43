/- The law CensusGreat: the call returns true, and what was there is as it was. -/
import Derived.Test.YtpkngnompkdlnaaDoorGreatMath
import Derived.Test.YtpkngnompkdlnaaDoorWakes14
import Derived.Test.YtpkngnompkdlnaaDoorBackMath
namespace Go.Proofs.YtpkngnompkdlnaaDoor
open Go.RowKit

set_option maxRecDepth 100000 in
set_option maxHeartbeats 1000000 in
theorem censusGreat_c (w : World) : Calls Tryd.prog 5 #[] w fun e w' => e = .returned (.bool true) ∧ Ext w w' := by
  have hmk : (Instr.makeSlice 23 (.int .i64 256) (.int .i64 256)).run Tryd.prog w = .ok (.slice (some ⟨w.heap.size, 0, none⟩) 256 256) (w.alloc (.cells (madeCells #[.int .i64 0] 256) 3)) :=
    run_make_any (P := Tryd.prog) 23 3 (.int .i64 0) 1 8 Tryd.underlying23 int_info .i64 .i64 256 (by omega) (by omega) w
  go_enter Tryd.func5, Tryd.ntmps5
  go_wp2_with fail
  obtain ⟨W, hW⟩ : ∃ W, W = ((((w.alloc (.cells (madeCells #[.int .i64 0] 256) 3)).alloc (.cells #[.slice (some ⟨w.heap.size, 0, none⟩) 256 256] 23)).alloc (.cells #[.int .i64 0] 3)).alloc
      (.cells #[.slice (some ⟨w.heap.size + 1, 0, none⟩) 1 1, .slice (some ⟨w.heap.size + 1 + 1, 0, none⟩) 1 1] 25)) := ⟨_, rfl⟩
  rw [← hW]
  have hE : Ext w W := by rw [hW]; exact (((Ext.box w _).alloc _).alloc _).alloc _
  have hD : DenseV W (.agg #[.slice (some ⟨w.heap.size + 1, 0, none⟩) 1 1, .slice (some ⟨w.heap.size + 1 + 1, 0, none⟩) 1 1]) allD := by
    have r0 : W.rowIs w.heap.size 3 256 (fun _ => .int .i64 0) := by
      rw [hW]; exact (((World.rowIs_made w _ 256 3).alloc _).alloc _).alloc _
    have r1 : W.rowIs (w.heap.size + 1) 23 1 (fun _ => .slice (some ⟨w.heap.size, 0, none⟩) 256 256) := by
      rw [hW]
      have := World.rowIs_alloc (w.alloc (.cells (madeCells #[.int .i64 0] 256) 3)) #[.slice (some ⟨w.heap.size, 0, none⟩) 256 256] 23 (fun _ => .slice (some ⟨w.heap.size, 0, none⟩) 256 256) (by intro i hi; match i, hi with | 0, _ => rfl)
      rw [World.size_alloc] at this
      exact (this.alloc _).alloc _
    have r2 : W.rowIs (w.heap.size + 1 + 1) 3 1 (fun _ => .int .i64 0) := by
      rw [hW]
      have := World.rowIs_alloc ((w.alloc (.cells (madeCells #[.int .i64 0] 256) 3)).alloc (.cells #[.slice (some ⟨w.heap.size, 0, none⟩) 256 256] 23)) #[.int .i64 0] 3 (fun _ => .int .i64 0) (by intro i hi; match i, hi with | 0, _ => rfl)
      rw [World.size_alloc, World.size_alloc] at this
      exact this.alloc _
    refine ⟨_, _, rfl, rowIs_rows r1 rfl (by omega) 1 (Nat.le_refl _) (fun i hi => ?_), rowIs_ints (l := [0]) (r2.congr (fun i hi => by match i, hi with | 0, _ => rfl)) rfl (by decide) 1 (Nat.le_refl _)⟩
    match i, hi with
    | 0, _ => exact rowIs_ints (l := List.replicate 256 0) (r0.congr (fun i hi => by rw [all_entry])) List.length_replicate (by omega) 256 (Nat.le_refl _)
  have r3 : W.rowIs (w.heap.size + 1 + 1 + 1) 25 2 (fun i => if i = 0 then .slice (some ⟨w.heap.size + 1, 0, none⟩) 1 1 else .slice (some ⟨w.heap.size + 1 + 1, 0, none⟩) 1 1) := by
    rw [hW]
    have := World.rowIs_alloc (((w.alloc (.cells (madeCells #[.int .i64 0] 256) 3)).alloc (.cells #[.slice (some ⟨w.heap.size, 0, none⟩) 256 256] 23)).alloc (.cells #[.int .i64 0] 3))
      #[.slice (some ⟨w.heap.size + 1, 0, none⟩) 1 1, .slice (some ⟨w.heap.size + 1 + 1, 0, none⟩) 1 1] 25 (fun i => if i = 0 then .slice (some ⟨w.heap.size + 1, 0, none⟩) 1 1 else .slice (some ⟨w.heap.size + 1 + 1, 0, none⟩) 1 1)
      (by intro i hi; match i, hi with | 0, _ => rfl | 1, _ => rfl)
    rw [World.size_alloc, World.size_alloc, World.size_alloc] at this
    exact this
  have hb : ∀ W', Ext W W' → W'.cell? ⟨w.heap.size + 1 + 1 + 1, 0, none⟩ = some (.slice (some ⟨w.heap.size + 1, 0, none⟩) 1 1) ∧ W'.cell? ⟨w.heap.size + 1 + 1 + 1, 1, none⟩ = some (.slice (some ⟨w.heap.size + 1 + 1, 0, none⟩) 1 1) := by
    intro W' hx
    exact ⟨(rowIs_ext hx r3).cell (i := 0) (by decide), (rowIs_ext hx r3).cell (i := 1) (by decide)⟩
  have HB := Lib.hid hb
  have HD := Lib.hid hD
  clear hb hD hW hmk r3
  have e7 : allD.ways 0 7 0 = 72057594037927936 := (all_ways _).trans (by decide)
  have e8 : allD.ways 0 8 0 = 18446744073709551616 := (all_ways _).trans (by decide)
  have s7 : sn 72057594037927936 = 72057594037927936 ∧ so 72057594037927936 = false := by decide
  have s8 : sn 18446744073709551616 = 18446744073709551615 ∧ so 18446744073709551616 = true := by decide
  have sm : sn 18446744073709551360 = 18446744073709551360 ∧ so 18446744073709551360 = false := by decide
  have S := Lib.hid (And.intro e7 (And.intro e8 (And.intro s7 (And.intro s8 sm))))
  clear e7 e8 s7 s8 sm
  refine (count_c (n := 7) HD.out all_may (by omega) (by omega)).mono ?_
  rintro e w1 ⟨rfl, hx1⟩
  rw [S.out.1, S.out.2.2.1.1, S.out.2.2.1.2]
  obtain ⟨b0, b1⟩ := HB.out _ hx1
  go_wp2_with fail
  refine (count_c (n := 8) (HD.out.ext hx1) all_may (by omega) (by omega)).mono ?_
  rintro e w2 ⟨rfl, hx2⟩
  rw [S.out.2.1, S.out.2.2.2.1.1, S.out.2.2.2.1.2]
  clear b0 b1
  have hx2 := hx1.trans hx2
  go_wp2_with fail
  refine (pairs_c _).mono ?_
  rintro e w3 ⟨⟨v3, rfl, hd3⟩, hx3⟩
  go_wp2_with fail
  refine (count_c (n := 8) hd3 pairs_may (by omega) (by omega)).mono ?_
  rintro e w4 ⟨rfl, hx4⟩
  rw [pairs_minus, S.out.2.2.2.2.1, S.out.2.2.2.2.2]
  have hx4 := hx2.trans (hx3.trans hx4)
  obtain ⟨b0, b1⟩ := HB.out _ hx4
  clear hx1 hx2 hx3 hd3
  go_wp2_with fail
  refine (nth_c (k := 18446744073709551615) (HD.out.ext hx4) all_may (by omega) (by omega)).mono ?_
  rintro e w5 ⟨hx5, ⟨h65, _⟩ | ⟨_, u, rfl, hown⟩⟩
  · rw [all_last.1] at h65; simp at h65
  rw [all_last.1] at hown
  simp only at hown
  rw [all_last.2] at hown
  have hx5 := hx4.trans hx5
  have hbu : BytesW w5 u [254, 254, 254, 254, 254, 254, 254, 254] := own_bytes hown (by omega)
  have HU := Lib.hid hbu
  obtain ⟨b0, b1⟩ := HB.out _ hx5
  clear hown hbu hx4
  go_wp2_with fail
  refine (rank_c (l := [254, 254, 254, 254, 254, 254, 254, 254]) (HD.out.ext hx5) all_may (by omega) HU.out (by simp) (by simp)).mono ?_
  rintro e w6 ⟨hx6, ⟨_, _, rfl⟩ | ⟨hno, _⟩⟩
  case inr => exact absurd ⟨by rw [all_total_last]; omega, all_lb _⟩ hno
  rw [all_total_last]
  have HU6 := Lib.hid (IntsK.ext hx6 HU.out)
  have hx6 := hx5.trans hx6
  obtain ⟨b0, b1⟩ := HB.out _ hx6
  clear hx5
  have hbf : BytesW (w6.alloc (.cells #[.int .u8 255, .int .u8 255, .int .u8 255, .int .u8 255, .int .u8 255, .int .u8 255, .int .u8 255, .int .u8 255] 5)) (.slice (some ⟨w6.heap.size, 0, none⟩) 8 8) [255, 255, 255, 255, 255, 255, 255, 255] :=
    marked_bytes (l := [255, 255, 255, 255, 255, 255, 255, 255]) rfl (fun i hi => by match i, hi with | 0, _ => rfl | 1, _ => rfl | 2, _ => rfl | 3, _ => rfl | 4, _ => rfl | 5, _ => rfl | 6, _ => rfl | 7, _ => rfl) (by simp)
  have HF := Lib.hid hbf
  clear hbf
  go_wp2_with fail
  refine (rank_c (l := [255, 255, 255, 255, 255, 255, 255, 255]) (HD.out.ext (hx6.trans (Ext.box _ _))) all_may (by omega) HF.out (by simp) (by simp)).mono ?_
  rintro e w7 ⟨hx7, ⟨hlt, _, _⟩ | ⟨_, rfl⟩⟩
  · exact absurd hlt all_total_far
  have hx67 := (Ext.box w6 (.cells #[.int .u8 255, .int .u8 255, .int .u8 255, .int .u8 255, .int .u8 255, .int .u8 255, .int .u8 255, .int .u8 255] 5)).trans hx7
  have HU7 := Lib.hid (IntsK.ext hx67 HU6.out)
  have hx7 := hx6.trans hx67
  clear hx6 hx67 b0 b1
  go_wp2_with fail
  have hbx : BytesW (w7.alloc (.cells #[.int .u8 254, .int .u8 254, .int .u8 254, .int .u8 254, .int .u8 254, .int .u8 254, .int .u8 254, .int .u8 254] 5)) (.slice (some ⟨w7.heap.size, 0, none⟩) 8 8) [254, 254, 254, 254, 254, 254, 254, 254] :=
    marked_bytes (l := [254, 254, 254, 254, 254, 254, 254, 254]) rfl (fun i hi => by match i, hi with | 0, _ => rfl | 1, _ => rfl | 2, _ => rfl | 3, _ => rfl | 4, _ => rfl | 5, _ => rfl | 6, _ => rfl | 7, _ => rfl) (by simp)
  refine (eqBytes_b (IntsK.ext (Ext.box _ _) HU7.out) hbx (r := true) (by simp)).mono ?_
  rintro e w8 ⟨rfl, hx8⟩
  have hx8 := hx7.trans ((Ext.box _ _).trans hx8)
  clear hbx hx7
  go_wp2_with fail
  refine (pairs_c _).mono ?_
  rintro e w9 ⟨⟨v9, rfl, hd9⟩, hx9⟩
  go_wp2_with fail
  refine (nth_c (label := 1) (k := 0) hd9 pairs_may (by omega) (by omega)).mono ?_
  rintro e w10 ⟨hx10, ⟨_, rfl⟩ | ⟨h65, _⟩⟩
  case inr => rw [pairs_one_len] at h65; omega
  have hx10 := hx8.trans (hx9.trans hx10)
  clear hx8 hx9 hd9
  go_wp2_with fail
  refine (pairs_c _).mono ?_
  rintro e w11 ⟨⟨v11, rfl, hd11⟩, hx11⟩
  go_wp2_with fail
  refine (nth_c (label := 0) (k := 9223372036854775808) hd11 pairs_may (by omega) (by omega)).mono ?_
  rintro e w12 ⟨hx12, ⟨h65, _⟩ | ⟨_, x, rfl, hown⟩⟩
  · rw [pairs_half] at h65; omega
  rw [pairs_half] at hown
  obtain ⟨g, cap, rfl, _, _⟩ := own_slice hown (by omega)
  have hx12 := hx10.trans (hx11.trans hx12)
  clear hown hx10 hx11 hd11
  go_wp2_with fail
  refine (wakes14_c _).mono ?_
  rintro e w13 ⟨rfl, hx13⟩
  go_wp2
  go_ret
  exact ⟨rfl, hE.trans (hx12.trans hx13)⟩
end Go.Proofs.YtpkngnompkdlnaaDoor
