/- The law CensusBack: for every automaton, label and places the call returns true, and what was there is as it was. -/
import Derived.Test.YtpkngnompkdlnaaDoorBackMath
import Derived.Test.YtpkngnompkdlnaaDoorWakes14
import Derived.Test.YtpkngnompkdlnaaDoorMay
import Derived.Deep.RegionHeld3
namespace Go.Proofs.YtpkngnompkdlnaaDoor
open Go.RowKit

abbrev U64s (w : World) (v : Value) (l : List Int) : Prop := IntsK .u64 w v l

set_option maxRecDepth 100000 in
set_option maxHeartbeats 1000000 in
theorem back_skip {vn vl vk : Value} {d : Dn} {label : Int} {w : World} (h : DenseV w (.agg #[vn, vl]) d) (hno : ¬ (d.next.length ≤ 40 ∧ May d ∧ -1 ≤ label)) :
    Calls Tryd.prog 3 #[.agg #[vn, vl, .int .i64 label, vk]] w fun e w' => e = .returned (.bool true) ∧ Ext w w' := by
  obtain ⟨an, cn, al, cl, hv, ho⟩ := h.open
  simp only [Value.agg.injEq, Array.mk.injEq, List.cons.injEq, and_true] at hv
  obtain ⟨rfl, rfl⟩ := hv
  have hn := ho.n
  obtain ⟨n, hnn⟩ : ∃ n, n = d.next.length := ⟨_, rfl⟩
  have HN := Lib.hid hnn
  rw [← hnn] at hn hno h ⊢
  have H := Lib.hid h
  clear hnn ho
  by_cases h40 : 40 < n
  · have h40' : (40 : Int) < n := by omega
    go_enter Tryd.func3, Tryd.ntmps3
    go_wp2_with fail
    refine (wakes14_c _).mono ?_
    rintro e w1 ⟨rfl, hx1⟩
    go_wp2
    go_ret
    exact ⟨rfl, (Ext.box _ _).trans hx1⟩
  · have h40' : ¬ (40 : Int) < n := by omega
    by_cases hm : May d
    · have hmb := mayB_true.2 hm
      have hl : label < -1 := by
        rcases Int.lt_or_le label (-1) with h1 | h1
        · exact h1
        · exact absurd ⟨by omega, hm, h1⟩ hno
      clear hm hno h
      go_enter Tryd.func3, Tryd.ntmps3
      go_wp2_with fail
      refine (may_c (H.out.ext (Ext.box _ _))).mono ?_
      rintro e w1 ⟨rfl, hx1⟩
      have k2 := hx1.cell (p := ⟨w.heap.size, 2, none⟩) (v := .int .i64 label) (by simp)
      go_wp2_with fail
      refine (wakes14_c _).mono ?_
      rintro e w2 ⟨rfl, hx2⟩
      go_wp2
      go_ret
      exact ⟨rfl, ((Ext.box _ _).trans hx1).trans hx2⟩
    · have hmb := mayB_false hm
      clear hno h hm
      go_enter Tryd.func3, Tryd.ntmps3
      go_wp2_with fail
      refine (may_c (H.out.ext (Ext.box _ _))).mono ?_
      rintro e w1 ⟨rfl, hx1⟩
      go_wp2_with fail
      refine (wakes14_c _).mono ?_
      rintro e w2 ⟨rfl, hx2⟩
      go_wp2
      go_ret
      exact ⟨rfl, ((Ext.box _ _).trans hx1).trans hx2⟩

set_option maxRecDepth 100000 in
set_option maxHeartbeats 1000000 in
theorem back_go {vn vl vk : Value} {d : Dn} {label : Int} {ks : List Int} {w : World} (h : DenseV w (.agg #[vn, vl]) d) (hk : U64s w vk ks) (hks : ∀ i, 0 ≤ ks.getD i 0 ∧ ks.getD i 0 < 18446744073709551616)
    (h40 : d.next.length ≤ 40) (hm : May d) (hl : -1 ≤ label) :
    Calls Tryd.prog 3 #[.agg #[vn, vl, .int .i64 label, vk]] w fun e w' => e = .returned (.bool true) ∧ Ext w w' := by
  obtain ⟨an, cn, al, cl, hv, _⟩ := h.open
  simp only [Value.agg.injEq, Array.mk.injEq, List.cons.injEq, and_true] at hv
  obtain ⟨rfl, rfl⟩ := hv
  obtain ⟨hkl, ak, ck, rfl, _, hk2⟩ := hk.open
  obtain ⟨n, hnn⟩ : ∃ n, n = d.next.length := ⟨_, rfl⟩
  obtain ⟨L, hLL⟩ : ∃ L, L = ks.length := ⟨_, rfl⟩
  obtain ⟨ln, hln⟩ : ∃ ln, ln = d.label.length := ⟨_, rfl⟩
  have HN := Lib.hid hnn
  rw [← hnn] at h40
  rw [← hnn, ← hln] at h ⊢
  rw [← hLL] at hkl hk2 ⊢
  have H := Lib.hid h
  have HM := Lib.hid hm
  have hmb := mayB_true.2 hm
  have HK := Lib.hid hk2
  have HS := Lib.hid hks
  obtain ⟨O, hO⟩ : ∃ O, O = (Obj.cells #[.slice an n cn, .slice al ln cl, .int .i64 label, .slice ak L ck] 28) := ⟨_, rfl⟩
  have hb : ∀ W, Ext (w.alloc O) W → W.cell? ⟨w.heap.size, 0, none⟩ = some (.slice an n cn) ∧ W.cell? ⟨w.heap.size, 1, none⟩ = some (.slice al ln cl) ∧ W.cell? ⟨w.heap.size, 2, none⟩ = some (.int .i64 label) ∧ W.cell? ⟨w.heap.size, 3, none⟩ = some (.slice ak L ck) := by
    intro W hx
    subst hO
    exact ⟨hx.cell (by simp), hx.cell (by simp), hx.cell (by simp), hx.cell (by simp)⟩
  have HB := Lib.hid hb
  have h40' : ¬ (40 : Int) < n := by omega
  have hl' : ¬ label < -1 := by omega
  have HO := Lib.hid hO
  clear hb h hk hks hm hnn hLL hln hk2
  go_enter Tryd.func3, Tryd.ntmps3
  clear hO
  go_wp2_with fail
  rw [← HO.out]
  refine (may_c (H.out.ext (Ext.box _ _))).mono ?_
  rintro e w1 ⟨rfl, hx1⟩
  obtain ⟨k0, k1, k2, k3⟩ := HB.out _ hx1
  go_wp2
  clear k0 k1 k2 k3
  go_loopw [3] (fun iv wr => ∃ i : Nat, iv = .int .i64 i ∧ i ≤ 4 ∧ Ext (w.alloc O) wr) (fun iv _ => 4 - (intOf iv).toNat)
  case atStart => exact ⟨0, rfl, by omega, hx1⟩
  case round =>
    clear hx1
    obtain ⟨i, rfl, hi4, hx⟩ := hrel
    obtain ⟨k0, k1, k2, k3⟩ := HB.out _ hx
    by_cases hi : i < L ∧ i < 4
    · obtain ⟨hiL, hi5⟩ := hi
      obtain ⟨kb, ko, rfl, hkc⟩ := HK.out (by omega)
      obtain ⟨x, hxx⟩ : ∃ x, x = (ks.getD i 0).toNat := ⟨_, rfl⟩
      have hx64 : x < 18446744073709551616 := by have := HS.out i; omega
      have hkx : w.cell? ⟨kb, ko + i, none⟩ = some (.int .u64 (x : Int)) := by rw [hkc i hiL]; have := HS.out i; rw [show (x : Int) = ks.getD i 0 from by omega]
      have k4 := (Ext.trans (Ext.box w O) hx).cell hkx
      clear hxx hkc
      have hj1 : (i : Int) < L := by omega
      go_wp2
      go_region_held3 (fun W => W.cell? ⟨w.heap.size, 0, none⟩ = some (.slice an n cn) ∧ W.cell? ⟨w.heap.size, 1, none⟩ = some (.slice al ln cl) ∧ W.cell? ⟨w.heap.size, 2, none⟩ = some (.int .i64 label) ∧ W.cell? ⟨w.heap.size, 3, none⟩ = some (.slice (some ⟨kb, ko, none⟩) L ck) ∧ W.cell? ⟨kb, ko + i, none⟩ = some (.int .u64 x))
        (first | exact ⟨k0, k1, k2, k3, k4⟩ | (refine ⟨?_, ?_, ?_, ?_, ?_⟩ <;> assumption))
        ((go_at_call 29; refine (nth_r (H.out.ext ((Ext.box w O).trans hx.drew)) HM.out hl hx64).mono ?_; rintro e w2 ⟨u, there, rfl, hres⟩; have hx2 := hx.drew.trans hres.1; obtain ⟨j0, j1, j2, j3⟩ := HB.out _ hx2; have j4 := (Ext.trans (Ext.box w O) hx2).cell hkx))
      clear k0 k1 k2 k3 k4
      have hr := hres.2
      clear hres
      rcases hr with rfl | ⟨rfl, l, hl1, hown⟩
      · go_wp2
        go_roundw
        case rel => exact ⟨i + 1, by go_num, by omega, hx2⟩
        case measure => simp [intOf]; omega
      · have HL1 := Lib.hid hl1
        have hown2 := own_base hown (Nat.zero_le _)
        have hll := hl1.len
        clear hown hl1
        go_wp2_with fail
        refine (rank_c (H.out.ext ((Ext.box w O).trans hx2)) HM.out hl (own_bytes hown2 (by omega)) HL1.out.len HL1.out.bytes).mono ?_
        rintro e w3 ⟨hx3, ⟨hr1, hr2, rfl⟩ | ⟨hno, _⟩⟩
        case inr => exact absurd ⟨by rw [HL1.out.total]; exact hx64, HL1.out.lb⟩ hno
        rw [HL1.out.total]
        clear hr1 hr2 j0 j1 j2 j3 j4
        have hx23 := hx2.trans hx3
        obtain ⟨ua, ucap, huv, hdrop⟩ := own_read hown2
        obtain ⟨Ln, hLn⟩ : ∃ Ln, Ln = l.length := ⟨_, rfl⟩
        rw [← hLn] at huv hown2 hll
        have HLn := Lib.hid hLn
        clear hdrop hLn
        subst huv
        have hown3 := own_ext hx3 hown2
        have hbw : BytesW w3 (.slice ua Ln ucap) l := own_bytes hown3 (by omega)
        have HW3 := Lib.hid hbw
        have HO3 := Lib.hid hown3
        clear hown2 hown3 hbw hx2 hx3
        obtain ⟨k0, k1, k2, k3⟩ := HB.out _ hx23
        have k4 := (Ext.trans (Ext.box w O) hx23).cell hkx
        have g0 := fun z => (grow_ext w3 z).cell k0
        have g1 := fun z => (grow_ext w3 z).cell k1
        have g2 := fun z => (grow_ext w3 z).cell k2
        have g3 := fun z => (grow_ext w3 z).cell k3
        have g4 := fun z => (grow_ext w3 z).cell k4
        have hlen64 : decide ((64 : Int) < (Ln : Int)) = false := by simp; omega
        have hlb := HL1.out.lb
        have HLB := Lib.hid hlb
        clear hlb
        go_wp2
        refine wp_region_grow (by kernel_rfl) (by kernel_rfl) ?_
        repeat (go_big_quiet_step ((go_at_call 31; exact calls_grow (label14_c (H.out.ext ((Ext.box w O).trans (hx23.trans (grow_ext w3 _)))) HM.out (IntsK.ext (grow_ext w3 _) HW3.out) HL1.out.bytes))))
        refine wpQuiet_nil ?_
        rintro _ ⟨z, rfl⟩
        rw [HLB.out]
        obtain ⟨W4, hW4⟩ : ∃ W4, W4 = growW w3 z := ⟨_, rfl⟩
        have hx4 : Ext w3 W4 := by rw [hW4]; exact grow_ext w3 z
        rw [← hW4]
        clear hW4 g0 g1 g2 g3 g4 k0 k1 k2 k3 k4 hlen64
        have hx24 := hx23.trans hx4
        obtain ⟨k0, k1, k2, k3⟩ := HB.out _ hx24
        have k4 := (Ext.trans (Ext.box w O) hx24).cell hkx
        by_cases hmx : x = 18446744073709551615
        · have hmx' : ((x : Int) == 18446744073709551615) = true := by simp; omega
          have HMX := Lib.hid hmx
          clear hmx
          go_wp2
          go_roundw
          case rel => exact ⟨i + 1, by go_num, by omega, hx24⟩
          case measure => simp [intOf]; omega
        · have hmx' : ((x : Int) == 18446744073709551615) = false := by simp; omega
          have hx65 : x + 1 < 18446744073709551616 := by omega
          have hw1 : IntKind.u64.wrap ((x : Int) + 1) = ((x + 1 : Nat) : Int) := (IntWalk.u64_in _ (by omega)).trans (by omega)
          go_wp2
          go_region_held3 (fun W => W.cell? ⟨w.heap.size, 0, none⟩ = some (.slice an n cn) ∧ W.cell? ⟨w.heap.size, 1, none⟩ = some (.slice al ln cl) ∧ W.cell? ⟨w.heap.size, 2, none⟩ = some (.int .i64 label) ∧ W.cell? ⟨w.heap.size, 3, none⟩ = some (.slice (some ⟨kb, ko, none⟩) L ck) ∧ W.cell? ⟨kb, ko + i, none⟩ = some (.int .u64 x))
            (first | exact ⟨k0, k1, k2, k3, k4⟩ | (refine ⟨?_, ?_, ?_, ?_, ?_⟩ <;> assumption))
            ((go_at_call 29; refine (nth_r (H.out.ext ((Ext.box w O).trans hx24.drew)) HM.out hl hx65).mono ?_; rintro e w5 ⟨u', more, rfl, hres⟩; have hx5 := hx24.drew.trans hres.1; obtain ⟨j0, j1, j2, j3⟩ := HB.out _ hx5; have j4 := (Ext.trans (Ext.box w O) hx5).cell hkx))
          clear k0 k1 k2 k3 k4
          have hr := hres.2
          have hx45 := hres.1
          clear hres
          rcases hr with rfl | ⟨rfl, m, hm1, hown5⟩
          · go_wp2
            go_roundw
            case rel => exact ⟨i + 1, by go_num, by omega, hx5⟩
            case measure => simp [intOf]; omega
          · have hnx := next_ahead HL1.out hm1
            have HNX := Lib.hid hnx
            have hml := hm1.len
            have hown5' := own_base hown5 (Nat.zero_le _)
            obtain ⟨ma, mcap, hmv, hdrop⟩ := own_read hown5'
            obtain ⟨Mn, hMn⟩ : ∃ Mn, Mn = m.length := ⟨_, rfl⟩
            have HMn := Lib.hid hMn
            rw [← hMn] at hmv hown5' hml
            clear hdrop hMn hnx hown5
            subst hmv
            have hb5 : BytesW w5 (.slice ma Mn mcap) m := own_bytes hown5' (by omega)
            have hl5 := IntsK.ext hx45 (IntsK.ext (w' := W4.drew) hx4.drew HW3.out)
            have HB5 := Lib.hid (And.intro hl5 hb5)
            clear hown5' hb5 hl5 hm1
            go_wp2_with fail
            refine (ahead14_c HB5.out.1 HB5.out.2).mono ?_
            rintro e w6 ⟨rfl, hx6⟩
            rw [HNX.out.1]
            have hx56 := hx5.trans hx6
            obtain ⟨k0, k1, k2, k3⟩ := HB.out _ hx56
            by_cases hlm : Mn = Ln
            · subst hlm
              have hlm' : ((Mn : Int) == (Mn : Int)) = true := by simp
              go_wp2_with fail
              refine (between_c (label := label) (H.out.ext ((Ext.box w O).trans hx56)) HM.out (IntsK.ext hx6 HB5.out.1) (IntsK.ext hx6 HB5.out.2) HL1.out.len HL1.out.bytes).mono ?_
              rintro e w7 ⟨rfl, hx7⟩
              rw [HNX.out.2 (by rw [← HLn.out, ← HMn.out])]
              go_wp2
              go_roundw
              case rel => exact ⟨i + 1, by go_num, by omega, hx56.trans hx7⟩
              case measure => simp [intOf]; omega
            · have hlm' : ((Mn : Int) == (Ln : Int)) = false := by simp; omega
              go_wp2
              go_roundw
              case rel => exact ⟨i + 1, by go_num, by omega, hx56⟩
              case measure => simp [intOf]; omega
    · by_cases hiL : i < L
      · obtain rfl : i = 4 := by omega
        go_wp2_with fail
        refine (wakes14_c _).mono ?_
        rintro e w2 ⟨rfl, hx2⟩
        go_wp2
        go_ret
        exact ⟨rfl, (Ext.box w O).trans (hx.trans hx2)⟩
      · have hiL' : ¬ (i : Int) < L := by omega
        go_wp2_with fail
        refine (wakes14_c _).mono ?_
        rintro e w2 ⟨rfl, hx2⟩
        go_wp2
        go_ret
        exact ⟨rfl, (Ext.box w O).trans (hx.trans hx2)⟩
end Go.Proofs.YtpkngnompkdlnaaDoor
