/- bolterlaw14.one: of one label, every answer, every refusal. -/
import Derived.Test.YtloooajippcdlaaDoorCenX
import Derived.Test.YtloooajippcdlaaDoorLendB
import Derived.Test.YtloooajippcdlaaDoorOverB
import Derived.Test.YtloooajippcdlaaDoorTexts
import Derived.Test.YtloooajippcdlaaDoorTell
import Derived.Test.YtloooajippcdlaaDoorMay
import Derived.Deep.CutBlock
import Derived.Test.YtloooajippcdlaaDoorMidCall
namespace Go.Proofs.YtloooajippcdlaaDoor
open Go.RowKit

theorem over_ext14 {w0 w w' : World} {u : Value} (h : Ext w0 w) (hg : w.grownBy w' u.ownBlock) (hu : ∀ g, u.ownBlock = some g → w0.heap.size ≤ g) : Ext w0 w' :=
  Below.grown h hg h.size (fun g ee => hu g ee)
theorem bytes_of14 {l : List Nat} : ∀ u ∈ bytesV l, ∃ x, u = .int .u8 x := by
  intro u hu
  obtain ⟨x, _, rfl⟩ := List.mem_map.1 hu
  exact ⟨_, rfl⟩

set_option maxRecDepth 100000 in
set_option maxHeartbeats 16000000 in
theorem one14_c {w : World} {vn vl xn xl v1 v2 v3 v4 : Value} {d : Dn} {ls ns ks : List Int} {wds : List (List Int)} {label : Int} {a : Nat → Addr} (h : DenseV w (.agg #[vn, vl]) d) (hx : DenseV w (.agg #[xn, xl]) d) (hl : Ints w v1 ls) (hN : Ints w v2 ns) (hK : IntsK .u64 w v3 ks) (hk64 : ∀ k ∈ ks, 0 ≤ k ∧ k < 18446744073709551616)
    (hT : TextsV w v4 wds) (hby : ∀ t ∈ wds, t.length ≤ 140737488351232 ∧ ∀ z ∈ t, 0 ≤ z ∧ z ≤ 255) (hS : Sents w a) :
    Calls Tryd.prog 15 #[.agg #[vn, vl, v1, v2, v3, v4], .agg #[xn, xl], .int .i64 label] w fun e w' => e = .returned (.bool true) ∧ Ext w w' := by
  obtain ⟨an, cn, al, cl, hv, _⟩ := h.open
  simp only [Value.agg.injEq, Array.mk.injEq, List.cons.injEq, and_true] at hv
  obtain ⟨rfl, rfl⟩ := hv
  obtain ⟨bn, en, bl, el, hv, _⟩ := hx.open
  simp only [Value.agg.injEq, Array.mk.injEq, List.cons.injEq, and_true] at hv
  obtain ⟨rfl, rfl⟩ := hv
  obtain ⟨_, la, lc, rfl, _, _⟩ := hl.open
  obtain ⟨hn1, na, nc, rfl, _, hno⟩ := hN.open
  obtain ⟨hk1, ka, kc, rfl, _, hko⟩ := hK.open
  obtain ⟨ht1, ta, tc, rfl, hto⟩ := hT.open
  obtain ⟨LN, hLN⟩ : ∃ n, n = ls.length := ⟨_, rfl⟩
  obtain ⟨NN, hNN⟩ : ∃ n, n = ns.length := ⟨_, rfl⟩
  obtain ⟨KN, hKN⟩ : ∃ n, n = ks.length := ⟨_, rfl⟩
  obtain ⟨TN, hTN⟩ : ∃ n, n = wds.length := ⟨_, rfl⟩
  rw [← hLN, ← hNN, ← hKN, ← hTN]
  rw [← hNN] at hn1 hno
  rw [← hKN] at hk1 hko
  rw [← hTN] at ht1 hto
  obtain ⟨m1, hm1⟩ : ∃ n, n = d.next.length := ⟨_, rfl⟩
  obtain ⟨m2, hm2⟩ : ∃ n, n = d.label.length := ⟨_, rfl⟩
  rw [← hm1, ← hm2] at h hx ⊢
  obtain ⟨W, hW⟩ : ∃ W, W = (w.alloc (.cells #[.slice an m1 cn, .slice al m2 cl, .slice la LN lc, .slice na NN nc, .slice ka KN kc, .slice ta TN tc] 39)).alloc (.cells #[.slice bn m1 en, .slice bl m2 el] 25) := ⟨_, rfl⟩
  have hxW : Ext w W := by rw [hW]; exact (Ext.box _ _).alloc _
  obtain ⟨pb, hpb⟩ : ∃ b, b = w.heap.size := ⟨_, rfl⟩
  obtain ⟨db, hdb⟩ : ∃ b, b = w.heap.size + 1 := ⟨_, rfl⟩
  have hb : ∀ W', Ext W W' → (W'.cell? ⟨pb, 0, none⟩ = some (.slice an m1 cn) ∧ W'.cell? ⟨pb, 1, none⟩ = some (.slice al m2 cl) ∧ W'.cell? ⟨pb, 3, none⟩ = some (.slice na NN nc) ∧ W'.cell? ⟨pb, 4, none⟩ = some (.slice ka KN kc) ∧ W'.cell? ⟨pb, 5, none⟩ = some (.slice ta TN tc)) ∧ W'.cell? ⟨db, 0, none⟩ = some (.slice bn m1 en) ∧ W'.cell? ⟨db, 1, none⟩ = some (.slice bl m2 el) := fun W' hx' => by
    refine ⟨⟨hx'.cell ?_, hx'.cell ?_, hx'.cell ?_, hx'.cell ?_, hx'.cell ?_⟩, hx'.cell ?_, hx'.cell ?_⟩ <;> (rw [hW]; first | rw [hpb] | rw [hdb]) <;> simp
  obtain ⟨ok, hok⟩ : ∃ b : Bool, (b = true ↔ May d ∧ -1 ≤ label) := by
    by_cases hh : May d ∧ -1 ≤ label
    · exact ⟨true, by simp [hh]⟩
    · exact ⟨false, by simp [hh]⟩
  have H := Lib.hid (And.intro (h.ext hxW) (And.intro (hx.ext hxW) (And.intro hno (And.intro hko (And.intro hk64 (And.intro hto (And.intro hby (And.intro (hS.ext hxW) (And.intro hxW (And.intro hb (And.intro hok (And.intro hKN hTN))))))))))))
  have HW := Lib.hid (And.intro hW (And.intro hdb hpb))
  clear h hx hno hko hk64 hto hby hS hxW hb hok hW hdb hpb hKN hTN hm1 hm2 hLN hNN hl hN hK hT
  go_enter Tryd.func15, Tryd.ntmps15
  go_upto_region 1 with fail
  rw [← HW.out.1, ← HW.out.2.1, ← HW.out.2.2]
  obtain ⟨⟨p0, p1, p2, p3, p4⟩, z0, z1⟩ := H.out.2.2.2.2.2.2.2.2.2.1 W (Ext.refl _)
  go_cut [7] (fun bv wx => Ext W wx ∧ bv = .bool ok)
  case first =>
    clear p2 p3 p4 z0 z1
    go_wp2_with fail
    refine (may_c H.out.1).mono ?_
    rintro e w1 ⟨rfl, hx1⟩
    have HX := Lib.hid hx1
    clear hx1 p0 p1
    obtain ⟨m, hm⟩ : ∃ m, m = mayB d := ⟨_, rfl⟩
    rw [← hm]
    have hok := H.out.2.2.2.2.2.2.2.2.2.2.1
    have hmy : m = true ↔ May d := by rw [hm]; exact mayB_true
    cases m
    · obtain rfl : ok = false := by
        cases ok
        · rfl
        · have := hmy.2 (hok.1 rfl).1; simp at this
      clear hok hmy hm
      go_wp2_with fail
      go_meet
      exact ⟨HX.out, rfl⟩
    · by_cases hl : -1 ≤ label
      · obtain rfl : ok = true := hok.2 ⟨hmy.1 rfl, hl⟩
        clear hok hmy hm
        go_wp2_with fail
        go_meet
        exact ⟨HX.out, rfl⟩
      · obtain rfl : ok = false := by
          cases ok
          · rfl
          · exact absurd (hok.1 rfl).2 hl
        clear hok hmy hm
        go_wp2_with fail
        go_meet
        exact ⟨HX.out, by simp [hl]⟩
  case rest =>
  rename World => w1
  obtain ⟨hx1, rfl⟩ := hcut
  have HX1 := Lib.hid hx1
  clear p0 p1 p2 p3 p4 z0 z1 hx1
  go_upto_region 2 with fail
  go_wp2_with fail
  refine (isFault_c 15 _).mono ?_
  rintro e w2 ⟨rfl, hx2⟩
  unfold faultV
  have HX2 := Lib.hid (HX1.out.trans hx2)
  clear hx2
  obtain ⟨w3, hw3⟩ : ∃ w3, w3 = w2.alloc (.cells #[.int .i64 15, .int .i64 0, .int .i64 0, .int .i64 0, .slice none 0 0] 54) := ⟨_, rfl⟩
  obtain ⟨fb, hfb⟩ : ∃ b, b = w2.heap.size := ⟨_, rfl⟩
  have hx3 : Ext w2 w3 := by rw [hw3]; exact Ext.box _ _
  have hf3 : ∀ W', Ext w3 W' → W'.cell? ⟨fb, 0, none⟩ = some (.int .i64 15) ∧ W'.cell? ⟨fb, 1, none⟩ = some (.int .i64 0) ∧ W'.cell? ⟨fb, 2, none⟩ = some (.int .i64 0) ∧ W'.cell? ⟨fb, 3, none⟩ = some (.int .i64 0) ∧ W'.cell? ⟨fb, 4, none⟩ = some (.slice none 0 0) := fun W' hx' => by
    refine ⟨hx'.cell ?_, hx'.cell ?_, hx'.cell ?_, hx'.cell ?_, hx'.cell ?_⟩ <;> (rw [hw3, hfb]; simp)
  have H3 := Lib.hid (And.intro (HX2.out.trans hx3) (And.intro (fun W' hx' => H.out.2.2.2.2.2.2.2.2.2.1 W' ((HX2.out.trans hx3).trans hx')) hf3))
  have HW3 := Lib.hid (And.intro hw3 hfb)
  clear hx3 hf3 hw3 hfb
  go_upto_block 0 with fail
  rw [← HW3.out.1, ← HW3.out.2]
  go_cut [] (fun wx => Ext w3 wx)
  case first =>
    as_aux_lemma =>
    go_wp2_with fail
    go_loopw [9] (fun iv wr => Ext w3 wr ∧ ∃ i : Nat, i ≤ NN ∧ iv = .int .i64 i) (fun iv _ => NN - (intOf iv).toNat)
    case atStart => exact ⟨Ext.refl _, 0, Nat.zero_le _, rfl⟩
    case round =>
      rename World => w4
      obtain ⟨hx4, i, hi, rfl⟩ := hrel
      obtain ⟨⟨p0, p1, p2, p3, p4⟩, z0, z1⟩ := H3.out.2.1 _ hx4
      by_cases hgo : i < NN ∧ i < 3
      · obtain ⟨g1, g2⟩ := hgo
        have hj1 : (i : Int) < NN := by omega
        have hj2 : (i : Int) < 3 := by omega
        obtain ⟨nb, no, rfl, hnc⟩ := H.out.2.2.1 (by omega)
        have hc := hnc i g1
        obtain ⟨n, hn⟩ : ∃ x, x = ns.getD i 0 := ⟨_, rfl⟩
        rw [← hn] at hc
        obtain ⟨c, b, er, hcal, hcs⟩ := countX d label n a
        have hxW3 := H3.out.1
        have hxw := fun z => H.out.2.2.2.2.2.2.2.2.1.trans (hxW3.trans (hx4.trans (grow_ext w4 z)))
        have hcall := fun z => hcal (growW w4 z) _ (H.out.2.1.ext (hxW3.trans (hx4.trans (grow_ext w4 z)))) (H.out.2.2.2.2.2.2.2.1.ext (hxW3.trans (hx4.trans (grow_ext w4 z))))
        have y0 := fun z => (grow_ext w4 z).cell z0
        have y1 := fun z => (grow_ext w4 z).cell z1
        have y2 := fun z => (grow_ext w4 z).cell p2
        have y3 := fun z => (hxw z).cell hc
        have HC := Lib.hid (And.intro hcall (And.intro hcs (And.intro hx4 hc)))
        clear hcall hcs hx4 hc hnc hn hcal hxw hxW3 p0 p1 p3 p4
        go_upto_region 6 with fail
        refine wp_region_grow (by kernel_rfl) (by kernel_rfl) ?_
        repeat (go_big_quiet_step ((go_at_call 44; with_reducible exact calls_grow (HC.out.1 _))))
        refine wpQuiet_nil ?_
        rintro _ ⟨z, rfl⟩
        obtain ⟨w5, hw5⟩ : ∃ W, W = growW w4 z := ⟨_, rfl⟩
        rw [← hw5]
        have hx35 : Ext w3 w5 := by rw [hw5]; exact HC.out.2.2.1.trans (grow_ext w4 z)
        have HX5 := Lib.hid hx35
        clear y0 y1 y2 y3 z0 z1 p2 hw5
        obtain ⟨⟨p0, p1, p2, p3, p4⟩, z0, z1⟩ := H3.out.2.1 _ hx35
        obtain ⟨f0, f1, f2, f3, f4⟩ := H3.out.2.2 _ hx35
        have c0 := (H.out.2.2.2.2.2.2.2.2.1.trans (H3.out.1.trans hx35)).cell HC.out.2.2.2
        have hsm := fun W (hx' : Ext w5 W) => same_arg (W := W) (H.out.2.2.2.2.2.2.2.1.ext (H3.out.1.trans (HX5.out.trans hx')))
        unfold faultV at hsm
        have HSM := Lib.hid hsm
        clear hsm hx35 p3 p4 z0 z1
        rcases HC.out.2.1 with ⟨hok2, ⟨hn0, hn64⟩, rfl, href⟩ | ⟨hno, rfl, rfl, rfl⟩
        · obtain rfl : ok = true := H.out.2.2.2.2.2.2.2.2.2.2.1.2 hok2
          have hg1 : ¬ n < 0 := by omega
          have hg2 : ¬ 64 < n := by omega
          have hbb : (b != b) = false := by simp
          clear f0 f1 f2 f3 f4 hok2
          have hrf := fun z => href (growW w5 z) _ (H.out.1.ext (H3.out.1.trans (HX5.out.trans (grow_ext w5 z))))
          have HRF := Lib.hid hrf
          clear hrf href
          go_upto_region 10 with fail
          have y0 := fun z => (grow_ext w5 z).cell p0
          have y1 := fun z => (grow_ext w5 z).cell p1
          have y2 := fun z => (grow_ext w5 z).cell p2
          have y3 := fun z => (grow_ext w5 z).cell c0
          refine wp_region_grow (by kernel_rfl) (by kernel_rfl) ?_
          repeat (go_big_quiet_step ((go_at_call 50; with_reducible exact calls_grow (HRF.out _))))
          refine wpQuiet_nil ?_
          rintro _ ⟨z, rfl⟩
          obtain ⟨w6, hw6⟩ : ∃ W, W = growW w5 z := ⟨_, rfl⟩
          rw [← hw6]
          have hx36 : Ext w3 w6 := by rw [hw6]; exact HX5.out.trans (grow_ext w5 z)
          have HX6 := Lib.hid hx36
          clear y0 y1 y2 y3 p0 p1 p2 c0 hw6 hx36
          go_wp2_with fail
          go_roundw
          case rel => exact ⟨HX6.out, i + 1, by omega, by go_num⟩
          case measure => simp [intOf]; omega
        · have hcase : ok = false ∨ ok = true ∧ (n < 0 ∨ ¬ n < 0 ∧ 64 < n) := by
            cases ok
            · exact .inl rfl
            · have h1 := H.out.2.2.2.2.2.2.2.2.2.2.1.1 rfl
              refine .inr ⟨rfl, ?_⟩
              rcases Int.lt_or_le n 0 with h2 | h2
              · exact .inl h2
              rcases Int.lt_or_le 64 n with h3 | h3
              · exact .inr ⟨by omega, h3⟩
              · exact absurd ⟨h1, h2, h3⟩ hno
          clear hno p0 p1
          rcases hcase with rfl | ⟨rfl, hq1 | ⟨hq1, hq2⟩⟩
          all_goals
            go_wp2_with fail
            refine (HSM.out _ (Ext.refl _)).mono ?_
            rintro e w6 ⟨rfl, hx6⟩
            have HX6 := Lib.hid (HX5.out.trans hx6)
            clear hx6 p2 c0 f0 f1 f2 f3 f4
            go_wp2_with fail
            go_roundw
            case rel => exact ⟨HX6.out, i + 1, by omega, by go_num⟩
            case measure => simp [intOf]; omega
      · have hguard : (¬ (i : Int) < NN) ∨ ((i : Int) < NN ∧ ¬ (i : Int) < 3) := by omega
        have HX4 := Lib.hid hx4
        clear hx4 hgo
        rcases hguard with hj1 | ⟨hj1, hj2⟩
        all_goals
          go_wp2_with fail
          go_meet
          exact HX4.out
  case rest =>
  rename World => w4
  have H4 := Lib.hid hcut
  clear hcut
  go_upto_block 2 with fail
  go_cut [] (fun wx => Ext w3 wx)
  case first =>
    as_aux_lemma =>
    go_wp2_with fail
    go_loopw [15] (fun iv wr => Ext w3 wr ∧ ∃ i : Nat, i ≤ KN ∧ iv = .int .i64 i) (fun iv _ => KN - (intOf iv).toNat)
    case atStart => exact ⟨H4.out, 0, Nat.zero_le _, rfl⟩
    case round =>
      rename World => w5
      obtain ⟨hx5, i, hi, rfl⟩ := hrel
      obtain ⟨⟨p0, p1, p2, p3, p4⟩, z0, z1⟩ := H3.out.2.1 _ hx5
      by_cases hgo : i < KN ∧ i < 3
      · obtain ⟨g1, g2⟩ := hgo
        have hj1 : (i : Int) < KN := by omega
        have hj2 : (i : Int) < 3 := by omega
        obtain ⟨kb, ko, rfl, hkc⟩ := H.out.2.2.2.1 (by omega)
        have hc := hkc i g1
        have hxw5 := H.out.2.2.2.2.2.2.2.2.1.trans (H3.out.1.trans hx5)
        obtain ⟨k, hk, hk64⟩ : ∃ k : Nat, ks.getD i 0 = k ∧ k < 18446744073709551616 := by
          have hm := H.out.2.2.2.2.1 (ks.getD i 0) (by rw [List.getD_eq_getElem?_getD, List.getElem?_eq_getElem (by rw [← H.out.2.2.2.2.2.2.2.2.2.2.2.1]; exact g1)]; exact List.getElem_mem _)
          exact ⟨(ks.getD i 0).toNat, by omega, by omega⟩
        rw [hk] at hc
        have c0 := hxw5.cell hc
        cases ok
        · have hno : ¬ (May d ∧ -1 ≤ label) := fun h => by have := H.out.2.2.2.2.2.2.2.2.2.2.1.2 h; simp at this
          have hcall := fun z => nth_no (w := growW w5 z) (k := (k : Int)) (H.out.2.1.ext (H3.out.1.trans (hx5.trans (grow_ext w5 z)))) hno (H.out.2.2.2.2.2.2.2.1.ext (H3.out.1.trans (hx5.trans (grow_ext w5 z))))
          unfold noN14 at hcall
          have y0 := fun z => (grow_ext w5 z).cell z0
          have y1 := fun z => (grow_ext w5 z).cell z1
          have y2 := fun z => (grow_ext w5 z).cell p3
          have y3 := fun z => (grow_ext w5 z).cell c0
          have HC := Lib.hid (And.intro hcall hx5)
          clear hcall hx5 hxw5 hc hkc hk hno p0 p1 p2 p4 z0 z1 c0
          go_upto_region 16 with fail
          refine wp_region_grow (by kernel_rfl) (by kernel_rfl) ?_
          repeat (go_big_quiet_step ((go_at_call 46; with_reducible exact calls_grow (HC.out.1 _))))
          refine wpQuiet_nil ?_
          rintro _ ⟨z, rfl⟩
          obtain ⟨w6, hw6⟩ : ∃ W, W = growW w5 z := ⟨_, rfl⟩
          rw [← hw6]
          have hx36 : Ext w3 w6 := by rw [hw6]; exact HC.out.2.trans (grow_ext w5 z)
          have HX6 := Lib.hid hx36
          clear y0 y1 y2 y3 p3 hw6
          obtain ⟨f0, f1, f2, f3, f4⟩ := H3.out.2.2 _ hx36
          have hsm := fun W (hx' : Ext w6 W) => same_arg (W := W) (H.out.2.2.2.2.2.2.2.1.ext (H3.out.1.trans (HX6.out.trans hx')))
          unfold faultV at hsm
          have HSM := Lib.hid hsm
          clear hsm hx36
          go_wp2_with fail
          refine (HSM.out _ (Ext.refl _)).mono ?_
          rintro e w7 ⟨rfl, hx7⟩
          have HX7 := Lib.hid (HX6.out.trans hx7)
          clear hx7 f0 f1 f2 f3 f4
          go_wp2_with fail
          go_roundw
          case rel => exact ⟨HX7.out, i + 1, by omega, by go_num⟩
          case measure => simp [intOf]; omega
        · have hok2 := H.out.2.2.2.2.2.2.2.2.2.2.1.1 rfl
          have hw := nth_form (w := w5.drew) (H.out.2.1.ext (H3.out.1.trans hx5.drew)) hok2.1 hok2.2 hk64
          have hrw := fun W (hx : Ext w3 W) => refNth_form (label := label) (w := W) (H.out.1.ext (H3.out.1.trans hx)) hok2.1 hk64
          generalize nthB d label k = b at hw hrw
          generalize nthU d label k = U at hw hrw
          have HW5 := Lib.hid (And.intro hw (And.intro hx5 (And.intro hrw hc)))
          clear hw hrw hx5 hxw5 hc hkc hk hok2
          have y0 : w5.drew.cell? ⟨db, 0, none⟩ = _ := z0
          have y1 : w5.drew.cell? ⟨db, 1, none⟩ = _ := z1
          have y2 : w5.drew.cell? ⟨pb, 4, none⟩ = _ := p3
          have y3 : w5.drew.cell? ⟨kb, ko + i, none⟩ = _ := c0
          go_upto_region 16 with fail
          refine wp_region_mid 7 _ _ rfl rfl (by kernel_rfl) (by kernel_rfl) ?_
          simp only [List.take_succ_cons, List.take_zero]
          repeat (go_big_quiet_step (fail))
          refine wpQuiet_nil ?_
          intro K9 hK9
          unfold Oper.wp
          go_simp
          go_at_call 46
          refine HW5.out.1.mono ?_
          rintro e w6 ⟨sa, n9, sc, rfl, hx6, hn9, hn64, hown⟩
          have HN9 := Lib.hid (And.intro hn9 (And.intro hn64 (And.intro hown hx6)))
          clear hn9 hn64 hown hx6
          go_simp
          refine hK9 (.tuple #[.slice sa n9 sc, .bool b, .nilIface]) w6 _ (by kernel_rfl) ?_
          clear hK9 y0 y1 y2 y3
          repeat (go_big_quiet_step (fail))
          refine wpQuiet_nil ?_
          have hx6 := HN9.out.2.2.2
          have hn9 := HN9.out.1
          have hn64 := HN9.out.2.1
          have hown := HN9.out.2.2.1
          have hx56 : Ext w5 w6 := (Ext.drew (Ext.refl w5)).trans hx6
          have hx36 := HW5.out.2.1.trans hx56
          clear p0 p1 p2 p3 p4 z0 z1 c0
          obtain ⟨⟨p0, p1, p2, p3, p4⟩, z0, z1⟩ := H3.out.2.1 _ hx36
          have c0 := (H.out.2.2.2.2.2.2.2.2.1.trans (H3.out.1.trans hx36)).cell HW5.out.2.2.2
          have hrw := HW5.out.2.2.1 _ hx36.drew
          have HRW := Lib.hid (And.intro hrw (And.intro hown (And.intro hx36 (And.intro hx56.size (And.intro hn9 hn64)))))
          have y0 : w6.drew.cell? ⟨pb, 0, none⟩ = _ := p0
          have y1 : w6.drew.cell? ⟨pb, 1, none⟩ = _ := p1
          have y2 : w6.drew.cell? ⟨pb, 4, none⟩ = _ := p3
          have y3 : w6.drew.cell? ⟨kb, ko + i, none⟩ = _ := c0
          clear hrw hown hx36 hx56 hn9 hn64 hx6 p2 p4 z0 z1
          go_upto_region 20 with fail
          refine wp_region_mid 8 _ _ rfl rfl (by kernel_rfl) (by kernel_rfl) ?_
          simp only [List.take_succ_cons, List.take_zero]
          repeat (go_big_quiet_step (fail))
          refine wpQuiet_nil ?_
          intro K9 hK9
          unfold Oper.wp
          go_simp
          go_at_call 51
          refine HRW.out.1.mono ?_
          rintro e w7 ⟨ra, rn, rc, rfl, hx7, hbw⟩
          have HB9 := Lib.hid (And.intro hx7 hbw)
          clear hx7 hbw
          go_simp
          refine hK9 (.tuple #[.slice ra rn rc, .bool b]) w7 _ (by kernel_rfl) ?_
          clear hK9 y0 y1 y2 y3
          repeat (go_big_quiet_step (fail))
          refine wpQuiet_nil ?_
          have hx7 := HB9.out.1
          have hbw := HB9.out.2
          have hx67 : Ext w6 w7 := (Ext.drew (Ext.refl w6)).trans hx7
          have hbb : (b != b) = false := by simp
          have heq := eqBytes_b (IntsK.ext hx67 (own_bytesW HRW.out.2.1 (Nat.le_trans HRW.out.2.2.2.2.2 (by omega)))) hbw (r := true) (by simp)
          have H6 := Lib.hid (And.intro heq (And.intro (own_ext hx67 HRW.out.2.1) (And.intro (HRW.out.2.2.1.trans hx67) hx67.size)))
          clear heq hx67 hbw hx7 p0 p1 p3 c0
          go_wp2_with fail
          refine H6.out.1.mono ?_
          rintro e w8 ⟨rfl, hx8⟩
          have hov := over_c (own_ext hx8 H6.out.2.1) bytes_of14 (Nat.le_trans HRW.out.2.2.2.1 (Nat.le_trans H6.out.2.2.2 hx8.size)) (Nat.le_trans HRW.out.2.2.2.2.2 (by omega))
          have H7 := Lib.hid (And.intro hov (H6.out.2.2.1.trans hx8))
          clear hov hx8
          go_wp2_with fail
          refine H7.out.1.mono ?_
          rintro e w9 ⟨rfl, hg9⟩
          have hx9 := over_ext14 H7.out.2 hg9 (fun g e => Nat.le_trans HW5.out.2.1.size (HRW.out.2.1.lt g e).1)
          have H8 := Lib.hid hx9
          clear hx9 hg9
          go_wp2_with fail
          go_roundw
          case rel => exact ⟨H8.out, i + 1, by omega, by go_num⟩
          case measure => simp [intOf]; omega
      · have hguard : (¬ (i : Int) < KN) ∨ ((i : Int) < KN ∧ ¬ (i : Int) < 3) := by omega
        have HX5 := Lib.hid hx5
        clear hx5 hgo
        rcases hguard with hj1 | ⟨hj1, hj2⟩
        all_goals
          go_wp2_with fail
          go_meet
          exact HX5.out
  case rest =>
  rename World => w5
  have H5 := Lib.hid hcut
  clear hcut
  as_aux_lemma =>
  go_wp2_with fail
  go_loopw [21] (fun iv wr => Ext w3 wr ∧ ∃ i : Nat, i ≤ TN ∧ iv = .int .i64 i) (fun iv _ => TN - (intOf iv).toNat)
  case atStart => exact ⟨H5.out, 0, Nat.zero_le _, rfl⟩
  case round =>
    rename World => w6
    obtain ⟨hx6, i, hi, rfl⟩ := hrel
    obtain ⟨⟨p0, p1, p2, p3, p4⟩, z0, z1⟩ := H3.out.2.1 _ hx6
    by_cases hgo : i < TN ∧ i < 3
    · obtain ⟨g1, g2⟩ := hgo
      have hj1 : (i : Int) < TN := by omega
      have hj2 : (i : Int) < 3 := by omega
      obtain ⟨tb, tq, rfl, htc⟩ := H.out.2.2.2.2.2.1 (by omega)
      obtain ⟨r, hr, hbw⟩ := htc i g1
      obtain ⟨t, ht⟩ : ∃ t, t = wds.getD i [] := ⟨_, rfl⟩
      rw [← ht] at hbw
      have hmem : t ∈ wds := by
        rw [ht, List.getD_eq_getElem?_getD, List.getElem?_eq_getElem (by rw [← H.out.2.2.2.2.2.2.2.2.2.2.2.2]; exact g1)]; exact List.getElem_mem _
      obtain ⟨htl, htz⟩ := H.out.2.2.2.2.2.2.1 t hmem
      obtain ⟨e1, hb256⟩ := bytes_nat htz
      obtain ⟨l, hl⟩ : ∃ l, l = t.map Int.toNat := ⟨_, rfl⟩
      rw [← hl] at e1 hb256
      have hll : l.length ≤ 140737488351232 := by rw [hl, List.length_map]; exact htl
      have hbl : BytesW w r l := by rw [e1] at hbw; exact hbw
      obtain ⟨_, ra, rc, rfl, _, _⟩ := hbl.open'
      obtain ⟨Ln, hLn⟩ : ∃ n, n = l.length := ⟨_, rfl⟩
      have hxw6 := H.out.2.2.2.2.2.2.2.2.1.trans (H3.out.1.trans hx6)
      obtain ⟨c, b, er, hcal, hcs⟩ := rankX d label l a hb256
      have hlend := lend_c (IntsK.ext hxw6 hbl) hll
      unfold LentR at hlend
      have c0 := hxw6.cell hr
      rw [← hLn] at hlend hcs c0 hbl hll hr
      have HC := Lib.hid (And.intro hlend (And.intro hcal (And.intro hcs (And.intro hbl (And.intro hll (And.intro hx6 (And.intro hLn hr)))))))
      clear hlend hcal hcs hbl hll hx6 hxw6 hLn hl e1 hb256 htz htl hmem hbw ht htc hr p0 p1 p2 p3 z0 z1
      go_wp2_with fail
      refine HC.out.1.mono ?_
      rintro e w7 ⟨g, gc, rfl, hx7, hown⟩
      have hx37 := HC.out.2.2.2.2.2.1.trans hx7
      obtain ⟨_, z0, z1⟩ := H3.out.2.1 _ hx37
      have hown' : w7.ownsRow w6.heap.size 5 1 (.slice (some ⟨g, 0, none⟩) (l.length + 7) gc) (l.length + 7) (lent l 7) := by rw [← HC.out.2.2.2.2.2.2.1]; exact hown
      have hrk := HC.out.2.1 w7 _ _ (H.out.2.1.ext (H3.out.1.trans hx37)) (lent_bytes hown' (by have := HC.out.2.2.2.2.1; have := HC.out.2.2.2.2.2.2.1; omega)) (H.out.2.2.2.2.2.2.2.1.ext (H3.out.1.trans hx37))
      rw [← HC.out.2.2.2.2.2.2.1] at hrk
      have H7 := Lib.hid (And.intro hrk (And.intro hx37 (And.intro hown' hx7)))
      clear hrk hx37 hown hown' hx7 p4 c0
      go_wp2_with fail
      refine H7.out.1.mono ?_
      rintro e w8 ⟨rfl, hx8⟩
      have hx38 := H7.out.2.1.trans hx8
      obtain ⟨⟨_, _, _, _, p4⟩, _⟩ := H3.out.2.1 _ hx38
      have c0 := (H.out.2.2.2.2.2.2.2.2.1.trans (H3.out.1.trans hx38)).cell HC.out.2.2.2.2.2.2.2
      have hbk := back_c (w := w8) (v := .slice ra Ln rc) (own_ext hx8 H7.out.2.2.1) (IntsK.ext (H.out.2.2.2.2.2.2.2.2.1.trans (H3.out.1.trans hx38)) HC.out.2.2.2.1) (by rw [← HC.out.2.2.2.2.2.2.1]; exact HC.out.2.2.2.2.1)
      rw [← HC.out.2.2.2.2.2.2.1] at hbk
      have H8 := Lib.hid (And.intro hbk hx38)
      clear hbk hx38 hx8 z0 z1
      go_wp2_with fail
      refine H8.out.1.mono ?_
      rintro e w9 ⟨rfl, wm, hxm, hg9⟩
      have hx39 : Ext w3 w9 := over_ext14 (u := .slice (some ⟨g, 0, none⟩) Ln gc) (H8.out.2.trans hxm) hg9 (fun g' e => by
        have h1 := (H7.out.2.2.1.lt g' (by simpa [Value.ownBlock] using e)).1
        have h2 := HC.out.2.2.2.2.2.1.size
        omega)
      clear hxm hg9 p4 c0
      obtain ⟨⟨p0, p1, _, _, p4⟩, _⟩ := H3.out.2.1 _ hx39
      obtain ⟨f0, f1, f2, f3, f4⟩ := H3.out.2.2 _ hx39
      have c0 := (H.out.2.2.2.2.2.2.2.2.1.trans (H3.out.1.trans hx39)).cell HC.out.2.2.2.2.2.2.2
      have HX9 := Lib.hid hx39
      have hsm := fun W (hx' : Ext w9 W) => same_arg (W := W) (H.out.2.2.2.2.2.2.2.1.ext (H3.out.1.trans (HX9.out.trans hx')))
      unfold faultV at hsm
      have HSM := Lib.hid hsm
      clear hsm hx39
      rcases HC.out.2.2.1 with ⟨hok2, hl64, rfl, href⟩ | ⟨hno, rfl, rfl, rfl⟩
      · obtain rfl : ok = true := H.out.2.2.2.2.2.2.2.2.2.2.1.2 hok2
        have hg1 : ¬ (64 : Int) < Ln := by omega
        have hbb : (b != b) = false := by simp
        clear f0 f1 f2 f3 f4 hok2
        have hrf := fun z => href (growW w9 z) _ (.slice ra Ln rc) (H.out.1.ext (H3.out.1.trans (HX9.out.trans (grow_ext w9 z)))) (IntsK.ext (H.out.2.2.2.2.2.2.2.2.1.trans (H3.out.1.trans (HX9.out.trans (grow_ext w9 z)))) HC.out.2.2.2.1)
        have HRF := Lib.hid hrf
        clear hrf href
        go_upto_region 34 with fail
        have y0 := fun z => (grow_ext w9 z).cell p0
        have y1 := fun z => (grow_ext w9 z).cell p1
        have y2 := fun z => (grow_ext w9 z).cell p4
        have y3 := fun z => (grow_ext w9 z).cell c0
        refine wp_region_grow (by kernel_rfl) (by kernel_rfl) ?_
        repeat (go_big_quiet_step ((go_at_call 54; with_reducible exact calls_grow (HRF.out _))))
        refine wpQuiet_nil ?_
        rintro _ ⟨z, rfl⟩
        obtain ⟨w10, hw10⟩ : ∃ W, W = growW w9 z := ⟨_, rfl⟩
        rw [← hw10]
        have hx310 : Ext w3 w10 := by rw [hw10]; exact HX9.out.trans (grow_ext w9 z)
        have HX10 := Lib.hid hx310
        clear y0 y1 y2 y3 p0 p1 p4 c0 hw10 hx310
        go_wp2_with fail
        go_roundw
        case rel => exact ⟨HX10.out, i + 1, by omega, by go_num⟩
        case measure => simp [intOf]; omega
      · have hcase : ok = false ∨ ok = true ∧ (64 : Int) < Ln := by
          cases ok
          · exact .inl rfl
          · have h1 := H.out.2.2.2.2.2.2.2.2.2.2.1.1 rfl
            refine .inr ⟨rfl, ?_⟩
            rcases Nat.lt_or_ge 64 Ln with h3 | h3
            · omega
            · exact absurd ⟨h1, h3⟩ hno
        clear hno p0 p1
        rcases hcase with rfl | ⟨rfl, hq1⟩
        all_goals
          go_wp2_with fail
          refine (HSM.out _ (Ext.refl _)).mono ?_
          rintro e w10 ⟨rfl, hx10⟩
          have HX10 := Lib.hid (HX9.out.trans hx10)
          clear hx10 p4 c0 f0 f1 f2 f3 f4
          go_wp2_with fail
          go_roundw
          case rel => exact ⟨HX10.out, i + 1, by omega, by go_num⟩
          case measure => simp [intOf]; omega
    · have hguard : (¬ (i : Int) < TN) ∨ ((i : Int) < TN ∧ ¬ (i : Int) < 3) := by omega
      have HX6 := Lib.hid hx6
      clear hx6 hgo
      rcases hguard with hj1 | ⟨hj1, hj2⟩
      all_goals
        go_wp2_with fail
        go_ret
        exact ⟨rfl, H.out.2.2.2.2.2.2.2.2.1.trans (H3.out.1.trans HX6.out)⟩
end Go.Proofs.YtloooajippcdlaaDoor
