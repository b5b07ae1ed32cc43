/- bolterlaw14.CensusExact. -/
import Derived.Test.YtloooajippcdlaaDoorCenOne
import Derived.Test.YtloooajippcdlaaDoorWakes14
import Derived.Test.YtloooajippcdlaaDoorEqDense
import Derived.Test.YtloooajippcdlaaDoorCopyRows
namespace Go.Proofs.YtloooajippcdlaaDoor
open Go.RowKit

theorem copied_dense14 {w : World} {B : Nat} {own : Nat → Nat} {vn vl : Value} {hs : List Value} {d : Dn} (h : OwnDense w B own vn vl hs d.next d.label) (hr : Reach d) : DenseV w (.agg #[vn, vl]) d :=
  ⟨vn, vl, rfl, h.tab.read (by have := hr.next; omega) (fun l hl => by have := hr.rows l hl; omega), own_ints h.label (by have := hr.label; omega)⟩
theorem eqD_same14 (d : Dn) : eqD d d = true := by rw [eqD_and]; simp

set_option maxRecDepth 100000 in
set_option maxHeartbeats 16000000 in
theorem exact14_c {w : World} {vn vl v1 v2 v3 v4 : Value} {d : Dn} {ls ns ks : List Int} {wds : List (List Int)} {a : Nat → Addr} (h : DenseV w (.agg #[vn, vl]) d) (hf : Reach d) (hl : Ints w v1 ls) (hN : Ints w v2 ns) (hK : IntsK .u64 w v3 ks) (hk64 : ∀ k ∈ ks, 0 ≤ k ∧ k < 18446744073709551616)
    (hT : TextsV w v4 wds) (hby : ∀ t ∈ wds, t.length ≤ 140737488351232 ∧ ∀ z ∈ t, 0 ≤ z ∧ z ≤ 255) (hS : Sents w a) :
    Calls Tryd.prog 4 #[.agg #[vn, vl, v1, v2, v3, v4]] w fun e w' => e = .returned (.bool true) ∧ Ext w w' := by
  have hone := fun W xn xl label (hx : Ext w W) (hd : DenseV W (.agg #[xn, xl]) d) => one14_c (w := W) (label := label) (h.ext hx) hd (IntsK.ext hx hl) (IntsK.ext hx hN) (IntsK.ext hx hK) hk64 (by
    obtain ⟨t1, t2⟩ := hT
    exact ⟨t1, by
      obtain ⟨a', c', hv, hc, h3⟩ := t2
      refine ⟨a', c', hv, hc, fun h0 => ?_⟩
      obtain ⟨b, o, h4, h5⟩ := h3 h0
      refine ⟨b, o, h4, fun i x hi => ?_⟩
      obtain ⟨r, hr, hb⟩ := h5 i x hi
      exact ⟨r, hx.cell hr, IntsK.ext hx hb⟩⟩) hby (hS.ext hx)
  obtain ⟨an, cn, al, cl, hv, _⟩ := h.open
  simp only [Value.agg.injEq, Array.mk.injEq, List.cons.injEq, and_true] at hv
  obtain ⟨rfl, rfl⟩ := hv
  obtain ⟨hl1, la, lc, rfl, _, hlo⟩ := hl.open
  obtain ⟨_, na, nc, rfl, _, _⟩ := hN.open
  obtain ⟨_, ka, kc, rfl, _, _⟩ := hK.open
  obtain ⟨_, ta, tc, rfl, _⟩ := hT.open
  obtain ⟨LN, hLN⟩ : ∃ n, n = ls.length := ⟨_, rfl⟩
  obtain ⟨NN, hNN⟩ : ∃ n, n = ns.length := ⟨_, rfl⟩
  obtain ⟨KN, hKN⟩ : ∃ n, n = ks.length := ⟨_, rfl⟩
  obtain ⟨TN, hTN⟩ : ∃ n, n = wds.length := ⟨_, rfl⟩
  obtain ⟨n1, hn1⟩ : ∃ n, n = d.next.length := ⟨_, rfl⟩
  obtain ⟨n2, hn2⟩ : ∃ n, n = d.label.length := ⟨_, rfl⟩
  simp only [← hLN, ← hNN, ← hKN, ← hTN, ← hn1, ← hn2] at hone ⊢
  rw [← hLN] at hl1 hlo
  rw [← hn1, ← hn2] at h
  obtain ⟨W, hW⟩ : ∃ W, W = w.alloc (.cells #[.slice an n1 cn, .slice al n2 cl, .slice la LN lc, .slice na NN nc, .slice ka KN kc, .slice ta TN tc] 39) := ⟨_, rfl⟩
  have hx : Ext w W := by rw [hW]; exact Ext.box _ _
  have hb : ∀ W', Ext W W' → W'.cell? ⟨w.heap.size, 0, none⟩ = some (.slice an n1 cn) ∧ W'.cell? ⟨w.heap.size, 1, none⟩ = some (.slice al n2 cl) ∧ W'.cell? ⟨w.heap.size, 2, none⟩ = some (.slice la LN lc) ∧ W'.cell? ⟨w.heap.size, 3, none⟩ = some (.slice na NN nc) ∧ W'.cell? ⟨w.heap.size, 4, none⟩ = some (.slice ka KN kc) ∧ W'.cell? ⟨w.heap.size, 5, none⟩ = some (.slice ta TN tc) := fun W' hx' => by
    refine ⟨hx'.cell ?_, hx'.cell ?_, hx'.cell ?_, hx'.cell ?_, hx'.cell ?_, hx'.cell ?_⟩ <;> (rw [hW]; simp)
  have hcp := copyDense_c (h.ext hx) hf
  unfold CopiedDense at hcp
  have H := Lib.hid (And.intro h (And.intro hf (And.intro hlo (And.intro hone (And.intro hn1 (And.intro hn2 (And.intro hx (And.intro hb hW))))))))
  have HCP := Lib.hid hcp
  clear h hf hlo hone hn1 hn2 hx hb hW hcp hl hN hK hT hS hby hk64 hLN hNN hKN hTN
  go_enter Tryd.func4, Tryd.ntmps4
  by_cases hw : 8 < n1 ∧ n1 ≤ 600
  · have hj0 : (8 : Int) < n1 := by omega
    have hj1 : (n1 : Int) ≤ 600 := by omega
    clear hw
    go_wp2_with fail
    refine (wakes14_c _).mono ?_
    rintro e w1 ⟨rfl, hx1⟩
    have HX := Lib.hid ((Ext.box w _).trans hx1)
    clear hx1
    go_wp2
    go_ret
    exact ⟨rfl, HX.out⟩
  have hguard : (¬ (8 : Int) < n1) ∨ ((8 : Int) < n1 ∧ ¬ (n1 : Int) ≤ 600) := by omega
  clear hw
  rcases hguard with hj0 | ⟨hj0, hj1⟩
  all_goals
    go_wp2_with fail
    rw [← H.out.2.2.2.2.2.2.2.2]
    refine HCP.out.mono ?_
    rintro e w1 ⟨xn, xl, own, hs, rfl, hO, hx1⟩
    have hR := copied_dense14 hO H.out.2.1
    obtain ⟨rn, sn, rl, sl, hxv, _⟩ := hR.open
    simp only [Value.agg.injEq, Array.mk.injEq, List.cons.injEq, and_true] at hxv
    obtain ⟨rfl, rfl⟩ := hxv
    rw [← H.out.2.2.2.2.1, ← H.out.2.2.2.2.2.1] at hR ⊢
    obtain ⟨w2, hw2⟩ : ∃ w2, w2 = w1.alloc (.cells #[.slice rn n1 sn, .slice rl n2 sl] 25) := ⟨_, rfl⟩
    have hx2 : Ext w1 w2 := by rw [hw2]; exact Ext.box _ _
    have hz : ∀ W', Ext w2 W' → W'.cell? ⟨w1.heap.size, 0, none⟩ = some (.slice rn n1 sn) ∧ W'.cell? ⟨w1.heap.size, 1, none⟩ = some (.slice rl n2 sl) := fun W' hx' => by
      refine ⟨hx'.cell ?_, hx'.cell ?_⟩ <;> (rw [hw2]; simp)
    have hxw2 := H.out.2.2.2.2.2.2.1.trans (hx1.trans hx2)
    have hbx : ∀ W', Ext w2 W' → (W'.cell? ⟨w.heap.size, 0, none⟩ = some (.slice an n1 cn) ∧ W'.cell? ⟨w.heap.size, 1, none⟩ = some (.slice al n2 cl) ∧ W'.cell? ⟨w.heap.size, 2, none⟩ = some (.slice la LN lc) ∧ W'.cell? ⟨w.heap.size, 3, none⟩ = some (.slice na NN nc) ∧ W'.cell? ⟨w.heap.size, 4, none⟩ = some (.slice ka KN kc) ∧ W'.cell? ⟨w.heap.size, 5, none⟩ = some (.slice ta TN tc)) ∧ W'.cell? ⟨w1.heap.size, 0, none⟩ = some (.slice rn n1 sn) ∧ W'.cell? ⟨w1.heap.size, 1, none⟩ = some (.slice rl n2 sl) := fun W' hx' => ⟨H.out.2.2.2.2.2.2.2.1 _ (hx1.trans (hx2.trans hx')), hz _ hx'⟩
    have HB := Lib.hid (And.intro hw2 hxw2)
    obtain ⟨db, hdb⟩ : ∃ b, b = w1.heap.size := ⟨_, rfl⟩
    obtain ⟨pb, hpb⟩ : ∃ b, b = w.heap.size := ⟨_, rfl⟩
    rw [← hdb, ← hpb] at hbx
    have H2 := Lib.hid (And.intro hbx (hR.ext hx2))
    have HD := Lib.hid (And.intro hdb hpb)
    clear hx1 hx2 hxw2 hz hR hO hw2 hbx hdb hpb
    go_upto_region 4 with fail
    rw [← HB.out.1, ← HD.out.1, ← HD.out.2]
    go_wp2_with fail
    go_loopw [4] (fun iv wr => Ext w2 wr ∧ ∃ i : Nat, i ≤ LN ∧ iv = .int .i64 i) (fun iv _ => LN - (intOf iv).toNat)
    case atStart => exact ⟨Ext.refl _, 0, Nat.zero_le _, rfl⟩
    case round =>
      rename World => w4
      obtain ⟨hx4, i, hi, rfl⟩ := hrel
      obtain ⟨⟨p0, p1, p2, p3, p4, p5⟩, z0, z1⟩ := H2.out.1 _ hx4
      by_cases hgo : i < LN ∧ i < 3
      · obtain ⟨g1, g2⟩ := hgo
        have hj5 : (i : Int) < LN := by omega
        have hj6 : (i : Int) < 3 := by omega
        obtain ⟨lb, lo, rfl, hlc⟩ := H.out.2.2.1 (by omega)
        have hxw4 := HB.out.2.trans hx4
        have hc := hlc i g1
        obtain ⟨lab, hlab⟩ : ∃ x, x = ls.getD i 0 := ⟨_, rfl⟩
        rw [← hlab] at hc
        have hcall := fun z => H.out.2.2.2.1 (growW w4 z) _ _ lab (hxw4.trans (grow_ext w4 z)) (H2.out.2.ext (hx4.trans (grow_ext w4 z)))
        have y0 := fun z => (grow_ext w4 z).cell p0
        have y1 := fun z => (grow_ext w4 z).cell p1
        have y2 := fun z => (grow_ext w4 z).cell p2
        have y3 := fun z => (grow_ext w4 z).cell p3
        have y4 := fun z => (grow_ext w4 z).cell p4
        have y5 := fun z => (grow_ext w4 z).cell p5
        have y6 := fun z => (grow_ext w4 z).cell z0
        have y7 := fun z => (grow_ext w4 z).cell z1
        have y8 := fun z => (hxw4.trans (grow_ext w4 z)).cell hc
        have HC := Lib.hid (And.intro hcall hx4)
        clear hcall hx4 hxw4 hc hlc hlab p0 p1 p3 p4 p5 z0 z1
        go_upto_region 7 with fail
        refine wp_region_grow (by kernel_rfl) (by kernel_rfl) ?_
        repeat (go_big_quiet_step ((go_at_call 15; with_reducible exact calls_grow (HC.out.1 _))))
        refine wpQuiet_nil ?_
        rintro _ ⟨z, rfl⟩
        obtain ⟨w5, hw5⟩ : ∃ W, W = growW w4 z := ⟨_, rfl⟩
        rw [← hw5]
        have hx25 : Ext w2 w5 := by rw [hw5]; exact HC.out.2.trans (grow_ext w4 z)
        have HX5 := Lib.hid hx25
        clear y0 y1 y2 y3 y4 y5 y6 y7 y8 p2 hw5 hx25
        go_wp2_with fail
        go_roundw
        case rel => exact ⟨HX5.out, i + 1, by omega, by go_num⟩
        case measure => simp [intOf]; omega
      · have hguard : (¬ (i : Int) < LN) ∨ ((i : Int) < LN ∧ ¬ (i : Int) < 3) := by omega
        have hxw4 := HB.out.2.trans hx4
        have heq := fun W hx => eqDense_b (w := W) (H2.out.2.ext (hx4.trans hx)) (H.out.1.ext (hxw4.trans hx)) (r := true) (eqD_same14 d)
        have H5 := Lib.hid (And.intro heq hxw4)
        clear heq hx4 hxw4 hgo
        rcases hguard with hj5 | ⟨hj5, hj6⟩
        all_goals
          go_wp2_with fail
          refine (H5.out.1 _ (Ext.refl _)).mono ?_
          rintro e w6 ⟨rfl, hx6⟩
          have H6 := Lib.hid (H5.out.2.trans hx6)
          clear hx6 p0 p1 p2 p3 p4 p5 z0 z1
          go_wp2_with fail
          refine (wakes14_c _).mono ?_
          rintro e w7 ⟨rfl, hx7⟩
          have HX := Lib.hid (H6.out.trans hx7)
          clear hx7
          go_wp2
          go_ret
          exact ⟨rfl, HX.out⟩
end Go.Proofs.YtloooajippcdlaaDoor
