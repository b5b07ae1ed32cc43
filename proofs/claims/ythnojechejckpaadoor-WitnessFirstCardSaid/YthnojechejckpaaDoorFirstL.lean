/- bolterlaw13.WitnessFirst. -/
import Derived.Test.YthnojechejckpaaDoorTried
import Derived.Test.YthnojechejckpaaDoorTexts
namespace Go.Proofs.YthnojechejckpaaDoor
open Go.RowKit

set_option maxRecDepth 100000 in
set_option maxHeartbeats 1000000 in
theorem first_skip (hwk : Wakes13) {an al bn bl tv : Value} {a b : Dn} {w : World} (ha : DenseV w (.agg #[an, al]) a) (hb : DenseV w (.agg #[bn, bl]) b) (hno : ¬ ((a.next.length ≤ 200 ∧ b.next.length ≤ 200) ∧ May a ∧ May b)) :
    Calls Tryd.prog 4 #[.agg #[an, al, bn, bl, tv]] w fun e w' => e = .returned (.bool true) ∧ Ext w w' := by
  obtain ⟨an', cn, al', cl, hv, ho⟩ := ha.open
  obtain ⟨bn', dn, bl', dl, hv2, ho2⟩ := hb.open
  simp only [Value.agg.injEq, Array.mk.injEq, List.cons.injEq, and_true] at hv hv2
  obtain ⟨rfl, rfl⟩ := hv
  obtain ⟨rfl, rfl⟩ := hv2
  have hn := ho.n
  have hn2 := ho2.n
  obtain ⟨n, hnn⟩ : ∃ n, n = a.next.length := ⟨_, rfl⟩
  obtain ⟨m, hmm⟩ : ∃ m, m = b.next.length := ⟨_, rfl⟩
  rw [← hnn] at hn hno ha ⊢
  rw [← hmm] at hn2 hno hb ⊢
  have H := Lib.hid (And.intro ha hb)
  have hbx := @box5 w (.slice an' n cn) (.slice al' a.label.length cl) (.slice bn' m dn) (.slice bl' b.label.length dl) tv 40
  have HB := Lib.hid hbx
  clear hnn hmm ho ho2 ha hb hbx
  have hend : ∀ W, Ext (w.alloc (.cells #[.slice an' n cn, .slice al' a.label.length cl, .slice bn' m dn, .slice bl' b.label.length dl, tv] 40)) W → Calls Tryd.prog 19 #[] W fun e w' => e = .returned (.bool true) ∧ Ext w w' :=
    fun W hx => (hwk W).mono fun e w' h => ⟨h.1, ((Ext.box _ _).trans hx).trans h.2⟩
  have HE := Lib.hid hend
  clear hend
  by_cases h1 : 200 < n
  · have h1' : (200 : Int) < n := by omega
    go_enter Tryd.func4, Tryd.ntmps4
    go_wp2_with fail
    refine (HE.out _ (Ext.refl _)).mono ?_
    rintro e w1 ⟨rfl, hx1⟩
    go_wp2
    go_ret
    exact ⟨rfl, hx1⟩
  · have h1' : ¬ (200 : Int) < n := by omega
    by_cases h2 : 200 < m
    · have h2' : (200 : Int) < m := by omega
      go_enter Tryd.func4, Tryd.ntmps4
      go_wp2_with fail
      refine (HE.out _ (Ext.refl _)).mono ?_
      rintro e w1 ⟨rfl, hx1⟩
      go_wp2
      go_ret
      exact ⟨rfl, hx1⟩
    · have h2' : ¬ (200 : Int) < m := by omega
      by_cases hma : May a
      · have hmb : ¬ May b := fun hmb => hno ⟨⟨by omega, by omega⟩, hma, hmb⟩
        have e1 := mayB_true.2 hma
        have e2 := mayB_false hmb
        clear hno hma hmb
        go_enter Tryd.func4, Tryd.ntmps4
        go_wp2_with fail
        refine (may_c (H.out.1.ext (Ext.box _ _))).mono ?_
        rintro e w1 ⟨rfl, hx1⟩
        rw [e1]
        obtain ⟨k0, k1, k2, k3, k4⟩ := HB.out _ hx1
        go_wp2_with fail
        refine (may_c (H.out.2.ext ((Ext.box _ _).trans hx1))).mono ?_
        rintro e w2 ⟨rfl, hx2⟩
        rw [e2]
        go_wp2_with fail
        refine (HE.out _ (hx1.trans hx2)).mono ?_
        rintro e w3 ⟨rfl, hx3⟩
        go_wp2
        go_ret
        exact ⟨rfl, hx3⟩
      · have e1 := mayB_false hma
        clear hno hma
        go_enter Tryd.func4, Tryd.ntmps4
        go_wp2_with fail
        refine (may_c (H.out.1.ext (Ext.box _ _))).mono ?_
        rintro e w1 ⟨rfl, hx1⟩
        rw [e1]
        go_wp2_with fail
        refine (HE.out _ hx1).mono ?_
        rintro e w3 ⟨rfl, hx3⟩
        go_wp2
        go_ret
        exact ⟨rfl, hx3⟩

/-- a text's beginning -/
theorem bytes_take {w : World} {a : Option Addr} {k j c : Nat} {t : List Nat} (h : BytesW w (.slice a k c) t) (hk : k = t.length) (hj : j ≤ k) : BytesW w (.slice a j c) (t.take j) := by
  obtain ⟨h1, a', c', h2, ⟨h3, h3'⟩, h4⟩ := h
  rw [List.length_map] at h1 h2 h3 h4
  simp only [Value.slice.injEq] at h2
  obtain ⟨rfl, _, rfl⟩ := h2
  have hl : (t.take j).length = j := by rw [List.length_take]; omega
  refine ⟨by rw [List.length_map, hl]; omega, a, c, by rw [List.length_map, hl], ⟨by rw [List.length_map, hl]; omega, h3'⟩, fun h0 => ?_⟩
  rw [List.length_map, hl] at h0
  obtain ⟨b, o, h5, h6⟩ := h4 (by omega)
  refine ⟨b, o, h5, fun i x hx => h6 i x ?_⟩
  rw [List.getElem?_map, Option.map_eq_some_iff] at hx ⊢
  obtain ⟨y, hy, e⟩ := hx
  refine ⟨y, ?_, e⟩
  rw [List.getElem?_take] at hy
  split at hy
  · exact hy
  · cases hy

set_option maxRecDepth 100000 in
set_option maxHeartbeats 8000000 in
theorem first_go (hwk : Wakes13) {an al bn bl tv : Value} {a b : Dn} {ts : List (List Int)} {w : World} (ha : DenseV w (.agg #[an, al]) a) (hb : DenseV w (.agg #[bn, bl]) b) (h200 : a.next.length ≤ 200 ∧ b.next.length ≤ 200) (hma : May a) (hmb : May b)
    (ht : TextsV w tv ts) (hts : ∀ t ∈ ts, ∀ z ∈ t, 0 ≤ z ∧ z ≤ 255) :
    Calls Tryd.prog 4 #[.agg #[an, al, bn, bl, tv]] w fun e w' => e = .returned (.bool true) ∧ Ext w w' := by
  obtain ⟨an', cn, al', cl, hv, ho⟩ := ha.open
  obtain ⟨bn', dn, bl', dl, hv2, ho2⟩ := hb.open
  simp only [Value.agg.injEq, Array.mk.injEq, List.cons.injEq, and_true] at hv hv2
  obtain ⟨rfl, rfl⟩ := hv
  obtain ⟨rfl, rfl⟩ := hv2
  have e1 := mayB_true.2 hma
  have e2 := mayB_true.2 hmb
  have hp1 := hma.pos
  have hp2 := hmb.pos
  have HM := Lib.hid (And.intro hma hmb)
  obtain ⟨_, at_, ct, rfl, ht2⟩ := ht.open
  obtain ⟨T, hT⟩ : ∃ T, T = ts.length := ⟨_, rfl⟩
  rw [← hT] at ht2 ⊢
  have HT := Lib.hid (And.intro hT (And.intro ht2 hts))
  obtain ⟨n, hnn⟩ : ∃ n, n = a.next.length := ⟨_, rfl⟩
  obtain ⟨m, hmm⟩ : ∃ m, m = b.next.length := ⟨_, rfl⟩
  rw [← hnn] at ha h200 hp1 ⊢
  rw [← hmm] at hb h200 hp2 ⊢
  have HN := Lib.hid (And.intro hnn hmm)
  obtain ⟨h1, h2⟩ := h200
  have H := Lib.hid (And.intro ha hb)
  obtain ⟨O, hO⟩ : ∃ O, O = (Obj.cells #[.slice an' n cn, .slice al' a.label.length cl, .slice bn' m dn, .slice bl' b.label.length dl, .slice at_ T ct] 40) := ⟨_, rfl⟩
  have hbx := @box5 w (.slice an' n cn) (.slice al' a.label.length cl) (.slice bn' m dn) (.slice bl' b.label.length dl) (.slice at_ T ct) 40
  rw [← hO] at hbx
  have HB := Lib.hid hbx
  have HO := Lib.hid hO
  have h1' : ¬ (200 : Int) < n := by omega
  have h2' : ¬ (200 : Int) < m := by omega
  clear ho ho2 ha hb hbx hO hT hnn hmm ht ht2 hts hma hmb
  go_enter Tryd.func4, Tryd.ntmps4
  go_wp2_with fail
  rw [← HO.out]
  refine (may_c (H.out.1.ext (Ext.box _ _))).mono ?_
  rintro e w1 ⟨rfl, hx1⟩
  rw [e1]
  obtain ⟨k0, k1, k2, k3, k4⟩ := HB.out _ hx1
  go_wp2_with fail
  refine (may_c (H.out.2.ext ((Ext.box _ _).trans hx1))).mono ?_
  rintro e w2 ⟨rfl, hx2⟩
  rw [e2]
  have hx2' := hx1.trans hx2
  clear hx1 hx2 k0 k1 k2 k3 k4
  obtain ⟨k0, k1, k2, k3, k4⟩ := HB.out _ hx2'
  go_wp2_with fail
  have hw := wordOf_c (label := 0) (H.out.1.ext ((Ext.box _ O).trans hx2')) HM.out.1 (by omega)
  refine hw.mono ?_
  clear hw
  intro e w3 hr
  obtain ⟨vw, bw, uw, rfl, hx3, hTw, hlw⟩ := told_word HM.out.1 hr
  have hx3' := hx2'.trans hx3
  rw [← HN.out.1] at hlw
  have HW := Lib.hid (And.intro hTw hlw)
  clear hr hx2' hx3 k0 k1 k2 k3 k4 hTw hlw
  obtain ⟨k0, k1, k2, k3, k4⟩ := HB.out _ hx3'
  go_wp2_with fail
  have hw := differ_c (H.out.1.ext ((Ext.box _ O).trans hx3')) (H.out.2.ext ((Ext.box _ O).trans hx3')) HM.out.1 HM.out.2
  refine hw.mono ?_
  clear hw
  intro e w4 hr
  obtain ⟨vv, bv, uv, rfl, hx4, hTv, hlv⟩ := told_two HM.out.1 HM.out.2 HM.out.1.pos HM.out.2.pos hr
  have hx4' := hx3'.trans hx4
  rw [← HN.out.1, ← HN.out.2] at hlv
  have HV := Lib.hid (And.intro hTv (And.intro hlv (HW.out.1.ext hx4)))
  clear hr hx3' hx4 k0 k1 k2 k3 k4 hTv hlv
  obtain ⟨k0, k1, k2, k3, k4⟩ := HB.out _ hx4'
  obtain ⟨l, hl1, hl2⟩ : ∃ l, l < n ∧ n ≤ l + 1 := ⟨n - 1, by omega, by omega⟩
  have hl' : IntKind.i64.wrap ((n : Int) - 1) = (l : Int) := by rw [show (n : Int) - 1 = (l : Int) by omega]; exact IntWalk.i64_in _ (by omega)
  go_wp2_with fail
  have hw := apart_c (x := 0) (y := l) (H.out.1.ext ((Ext.box _ O).trans hx4')) HM.out.1 HM.out.1.pos (by rw [← HN.out.1]; exact hl1)
  refine hw.mono ?_
  clear hw
  intro e w5 hr
  obtain ⟨vu, bu, uu, rfl, hx5, hTu, hlu⟩ := told_one HM.out.1 HM.out.1.pos (by rw [← HN.out.1]; exact hl1) hr
  have hx5' := hx4'.trans hx5
  rw [← HN.out.1] at hlu
  have hTw := HV.out.2.2.ext hx5
  have hTv := HV.out.1.ext hx5
  have hlw := HW.out.2
  have hlv := HV.out.2.1
  obtain ⟨_, aw, cw, hvw, _, _⟩ := hTw.row.open'
  obtain ⟨_, av, cv, hvv, _, _⟩ := hTv.row.open'
  obtain ⟨_, au, cu, hvu, _, _⟩ := hTu.row.open'
  subst hvw; subst hvv; subst hvu
  obtain ⟨lw, hlw'⟩ : ∃ k, k = uw.length := ⟨_, rfl⟩
  obtain ⟨lv, hlv'⟩ : ∃ k, k = uv.length := ⟨_, rfl⟩
  obtain ⟨lu, hlu'⟩ : ∃ k, k = uu.length := ⟨_, rfl⟩
  rw [← hlw'] at hTw hlw ⊢
  rw [← hlv'] at hTv hlv ⊢
  rw [← hlu'] at hTu hlu ⊢
  have HL := Lib.hid (And.intro hlw' (And.intro hlv' hlu'))
  have HTo := Lib.hid (And.intro hTw (And.intro hTv hTu))
  clear hr hx4' hx5 k0 k1 k2 k3 k4 hTw hTv hTu hlw' hlv' hlu' HV HW
  obtain ⟨k0, k1, k2, k3, k4⟩ := HB.out _ hx5'
  obtain ⟨q, hq⟩ : ∃ q, n + m = q := ⟨_, rfl⟩
  obtain ⟨q2, hq2⟩ : ∃ q2, q2 + 2 = q := ⟨q - 2, by omega⟩
  have hS1 : IntKind.i64.wrap ((n : Int) + m) = (q : Int) := by rw [show (n : Int) + m = (q : Int) by omega]; exact IntWalk.i64_in _ (by omega)
  have hS2 : IntKind.i64.wrap ((q : Int) - 2) = (q2 : Int) := by rw [show (q : Int) - 2 = (q2 : Int) by omega]; exact IntWalk.i64_in _ (by omega)
  have hg1 : ¬ (n : Int) ≤ lw := by omega
  have hg2 : ¬ (q2 : Int) < lv := by omega
  have hg3 : ¬ (n : Int) < lu := by omega
  have hg1n : ¬ n ≤ lw := by omega
  have hg2n : ¬ q2 < lv := by omega
  have hg3n : ¬ n < lu := by omega
  clear hq hq2 hlw hlv hlu
  go_upto_region 9 with fail
  go_cut [154] from 118 to 153 (fun c wx => c = .bool false ∧ Ext w5 wx)
  case first =>
    have hda := H.out.1.ext ((Ext.box w O).trans hx5')
    have hdb := H.out.2.ext ((Ext.box w O).trans hx5')
    obtain ⟨x1, hx1⟩ : ∃ x, x = a.lb (CM.run a.nx 0 uw) := ⟨_, rfl⟩
    obtain ⟨y1, hy1⟩ : ∃ x, x = a.lb (CM.run a.nx 0 uv) := ⟨_, rfl⟩
    obtain ⟨y2, hy2⟩ : ∃ x, x = b.lb (CM.run b.nx 0 uv) := ⟨_, rfl⟩
    obtain ⟨z1, hz1⟩ : ∃ x, x = a.lb (CM.run a.nx 0 uu) := ⟨_, rfl⟩
    obtain ⟨z2, hz2⟩ : ∃ x, x = a.lb (CM.run a.nx l uu) := ⟨_, rfl⟩
    have hb1 : bw = false ∨ (bw = true ∧ ((x1 : Int) != (0 : Int)) = false) := by
      cases hb : bw
      · exact .inl rfl
      · exact .inr ⟨rfl, by have := HTo.out.1.yes hb; rw [hx1, this]; rfl⟩
    have hb2 : bv = false ∨ (bv = true ∧ ((y1 : Int) == (y2 : Int)) = false) := by
      cases hb : bv
      · exact .inl rfl
      · exact .inr ⟨rfl, by have := HTo.out.2.1.yes hb; rw [hy1, hy2]; exact beq_false_of_ne this⟩
    have hb3 : bu = false ∨ (bu = true ∧ ((z1 : Int) == (z2 : Int)) = false) := by
      cases hb : bu
      · exact .inl rfl
      · exact .inr ⟨rfl, by have := HTo.out.2.2.yes hb; rw [hz1, hz2]; exact beq_false_of_ne this⟩
    have c1 : ∀ z, Calls Tryd.prog 23 #[.agg #[.slice an' n cn, .slice al' a.label.length cl], .int .i64 0, .slice aw lw cw] (growW w5 z) fun e w' => e = .returned (.int .i64 x1) ∧ Ext (growW w5 z) w' := fun z => by
      have h := label13_c (s0 := 0) (hda.ext (grow_ext w5 z)) HM.out.1 (IntsK.ext (grow_ext w5 z) HTo.out.1.row) HTo.out.1.bytes HM.out.1.pos
      rw [← hx1] at h; exact h
    have c2 : ∀ z, Calls Tryd.prog 23 #[.agg #[.slice an' n cn, .slice al' a.label.length cl], .int .i64 0, .slice av lv cv] (growW w5 z) fun e w' => e = .returned (.int .i64 y1) ∧ Ext (growW w5 z) w' := fun z => by
      have h := label13_c (s0 := 0) (hda.ext (grow_ext w5 z)) HM.out.1 (IntsK.ext (grow_ext w5 z) HTo.out.2.1.row) HTo.out.2.1.bytes HM.out.1.pos
      rw [← hy1] at h; exact h
    have c3 : ∀ z, Calls Tryd.prog 23 #[.agg #[.slice bn' m dn, .slice bl' b.label.length dl], .int .i64 0, .slice av lv cv] (growW w5 z) fun e w' => e = .returned (.int .i64 y2) ∧ Ext (growW w5 z) w' := fun z => by
      have h := label13_c (s0 := 0) (hdb.ext (grow_ext w5 z)) HM.out.2 (IntsK.ext (grow_ext w5 z) HTo.out.2.1.row) HTo.out.2.1.bytes HM.out.2.pos
      rw [← hy2] at h; exact h
    have c4 : ∀ z, Calls Tryd.prog 23 #[.agg #[.slice an' n cn, .slice al' a.label.length cl], .int .i64 0, .slice au lu cu] (growW w5 z) fun e w' => e = .returned (.int .i64 z1) ∧ Ext (growW w5 z) w' := fun z => by
      have h := label13_c (s0 := 0) (hda.ext (grow_ext w5 z)) HM.out.1 (IntsK.ext (grow_ext w5 z) HTo.out.2.2.row) HTo.out.2.2.bytes HM.out.1.pos
      rw [← hz1] at h; exact h
    have c5 : ∀ z, Calls Tryd.prog 23 #[.agg #[.slice an' n cn, .slice al' a.label.length cl], .int .i64 (l : Int), .slice au lu cu] (growW w5 z) fun e w' => e = .returned (.int .i64 z2) ∧ Ext (growW w5 z) w' := fun z => by
      have h := label13_c (s0 := l) (hda.ext (grow_ext w5 z)) HM.out.1 (IntsK.ext (grow_ext w5 z) HTo.out.2.2.row) HTo.out.2.2.bytes (by rw [← HN.out.1]; exact hl1)
      rw [← hz2] at h; exact h
    have HC := Lib.hid (And.intro c1 (And.intro c2 (And.intro c3 (And.intro c4 c5))))
    have k0' := fun z => (grow_ext w5 z).cell k0
    have k1' := fun z => (grow_ext w5 z).cell k1
    have k2' := fun z => (grow_ext w5 z).cell k2
    have k3' := fun z => (grow_ext w5 z).cell k3
    clear c1 c2 c3 c4 c5 hda hdb hx1 hy1 hy2 hz1 hz2 HTo
    rcases hb1 with rfl | ⟨rfl, t1⟩ <;> rcases hb2 with rfl | ⟨rfl, t2⟩ <;> rcases hb3 with rfl | ⟨rfl, t3⟩
    all_goals
      refine wp_region_grow (by kernel_rfl) (by kernel_rfl) ?_
      repeat (go_big_quiet_step ((go_at_call 23; first | (with_reducible exact calls_grow (HC.out.1 _)) | (with_reducible exact calls_grow (HC.out.2.1 _)) | (with_reducible exact calls_grow (HC.out.2.2.1 _)) | (with_reducible exact calls_grow (HC.out.2.2.2.1 _)) | (with_reducible exact calls_grow (HC.out.2.2.2.2 _)))))
      refine wpQuiet_nil ?_
      rintro _ ⟨z, rfl⟩
      have HX := Lib.hid (grow_ext w5 z)
      clear k0' k1' k2' k3'
      go_wp2
      go_meet
      exact ⟨rfl, HX.out⟩
  case rest =>
    obtain ⟨rfl, hxc⟩ := hcut
    have HL2 := Lib.hid (And.intro hl1 hl2)
    have HX5 := Lib.hid hx5'
    obtain ⟨wl, hwl⟩ : ∃ wl, wl = wc := ⟨_, rfl⟩
    rw [← hwl] at hxc ⊢
    clear hwl hg1 hg2 hg3 hg1n hg2n hg3n hS1 hS2 hl' h1' h2' k0 k1 k2 k3 k4 hx5' hl1 hl2 e1 e2
    have HXC := Lib.hid hxc
    go_wp2
    go_loopw [13] (fun iv wr => Ext w5 wr ∧ ∃ i : Nat, i ≤ T ∧ i ≤ 40 ∧ iv = .int .i64 i) (fun iv _ => 40 - (intOf iv).toNat)
    case atStart => exact ⟨HXC.out, 0, Nat.zero_le _, Nat.zero_le _, rfl⟩
    case round =>
      obtain ⟨hx, i, hiT, hi40, rfl⟩ := hrel
      obtain ⟨k0, k1, k2, k3, k4⟩ := HB.out _ (HX5.out.trans hx)
      by_cases hlt : i < T
      · by_cases hlt40 : i < 40
        · obtain ⟨bt, ot, hat, htc⟩ := HT.out.2.1 (by omega)
          subst hat
          obtain ⟨r, hr, hrt⟩ := htc i hlt
          have hwr : Ext w wr := (Ext.box w O).trans (HX5.out.trans hx)
          have cr := hwr.cell hr
          have htm : ts.getD i [] ∈ ts := by
            rw [List.getD_eq_getElem?_getD, List.getElem?_eq_getElem (by rw [← HT.out.1]; exact hlt)]
            exact List.getElem_mem _
          obtain ⟨hl1, hl2⟩ := bytes_nat (HT.out.2.2 _ htm)
          obtain ⟨t, ht⟩ : ∃ t, t = (ts.getD i []).map Int.toNat := ⟨_, rfl⟩
          rw [← ht] at hl1 hl2
          rw [hl1] at hrt
          have hrb : BytesW wr r t := IntsK.ext hwr hrt
          obtain ⟨_, ar, cp, rfl, hcp, _⟩ := hrb.open'
          obtain ⟨k, hk⟩ : ∃ k, k = t.length := ⟨_, rfl⟩
          rw [← hk] at hcp cr hrb
          have HR := Lib.hid (And.intro hrb (And.intro hk (And.intro hl2 hx)))
          have hj1 : (i : Int) < T := by omega
          have hj2 : (i : Int) < 40 := by omega
          clear hl1 hl2 ht hrt hwr hr htc htm hrb hk hx hxc
          by_cases h60 : 60 < k
          · have h60' : (60 : Int) < k := by omega
            go_wp2
            go_roundw
            case rel => exact ⟨HR.out.2.2.2, i + 1, by omega, by omega, by go_num⟩
            case measure => simp [intOf]; omega
          · have h60' : ¬ (60 : Int) < k := by omega
            go_wp2
            clear k0 k1 k2 k3 k4 cr
            go_loopw [15] (fun jv wx => Ext wr wx ∧ ∃ j : Nat, j ≤ k + 1 ∧ jv = .int .i64 j) (fun jv _ => 62 - (intOf jv).toNat)
            case atStart => exact ⟨Ext.refl _, 0, Nat.zero_le _, rfl⟩
            case round =>
              obtain ⟨hx, j, hj, rfl⟩ := hrel
              obtain ⟨k0, k1, k2, k3, k4⟩ := HB.out _ (HX5.out.trans (HR.out.2.2.2.trans hx))
              by_cases hjk : j ≤ k
              · have hj3 : (j : Int) ≤ k := by omega
                go_upto_region 20 with fail
                go_cut [237] from 183 to 236 (fun c wx => c = .bool false ∧ Ext wr wx)
                case first =>
                  have hw0 : Ext w wr := (Ext.box w O).trans (HX5.out.trans (HR.out.2.2.2.trans hx))
                  have hw5 : Ext w5 wr := HR.out.2.2.2.trans hx
                  have hda := H.out.1.ext hw0
                  have hdb := H.out.2.ext hw0
                  obtain ⟨X, hX⟩ : ∃ X, X = t.take j := ⟨_, rfl⟩
                  have hXb : BytesW wr (.slice ar j cp) X := by rw [hX]; exact bytes_take (IntsK.ext hx HR.out.1) HR.out.2.1 hjk
                  have hX6 : ∀ c ∈ X, c < 256 := fun c hc => HR.out.2.2.1 c (by rw [hX] at hc; exact List.mem_of_mem_take hc)
                  obtain ⟨p0, hp0⟩ : ∃ x, x = a.lb (CM.run a.nx 0 X) := ⟨_, rfl⟩
                  obtain ⟨q0, hq0⟩ : ∃ x, x = b.lb (CM.run b.nx 0 X) := ⟨_, rfl⟩
                  obtain ⟨r0, hr0⟩ : ∃ x, x = a.lb (CM.run a.nx l X) := ⟨_, rfl⟩
                  obtain ⟨s1, hs1⟩ : ∃ s, s = slB X uw := ⟨_, rfl⟩
                  obtain ⟨s2, hs2⟩ : ∃ s, s = slB X uv := ⟨_, rfl⟩
                  obtain ⟨s3, hs3⟩ : ∃ s, s = slB X uu := ⟨_, rfl⟩
                  have hb1 : ((p0 : Int) == (0 : Int)) = false ∨ (((p0 : Int) == (0 : Int)) = true ∧ bw = true ∧ s1 = false) := by
                    cases e : ((p0 : Int) == (0 : Int))
                    · exact .inl rfl
                    · refine .inr ⟨rfl, ?_⟩
                      rw [hs1]
                      exact HTo.out.1.no X hX6 (by rw [← hp0]; exact eq_of_beq e)
                  have hb2 : ((p0 : Int) != (q0 : Int)) = false ∨ (((p0 : Int) != (q0 : Int)) = true ∧ bv = true ∧ s2 = false) := by
                    cases e : ((p0 : Int) != (q0 : Int))
                    · exact .inl rfl
                    · refine .inr ⟨rfl, ?_⟩
                      rw [hs2]
                      exact HTo.out.2.1.no X hX6 (by rw [← hp0, ← hq0]; exact bne_iff_ne.1 e)
                  have hb3 : ((p0 : Int) != (r0 : Int)) = false ∨ (((p0 : Int) != (r0 : Int)) = true ∧ bu = true ∧ s3 = false) := by
                    cases e : ((p0 : Int) != (r0 : Int))
                    · exact .inl rfl
                    · refine .inr ⟨rfl, ?_⟩
                      rw [hs3]
                      exact HTo.out.2.2.no X hX6 (by rw [← hp0, ← hr0]; exact bne_iff_ne.1 e)
                  have c1 : ∀ z, Calls Tryd.prog 23 #[.agg #[.slice an' n cn, .slice al' a.label.length cl], .int .i64 0, .slice ar j cp] (growW wr z) fun e w' => e = .returned (.int .i64 p0) ∧ Ext (growW wr z) w' := fun z => by
                    have h := label13_c (s0 := 0) (hda.ext (grow_ext wr z)) HM.out.1 (IntsK.ext (grow_ext wr z) hXb) hX6 HM.out.1.pos
                    rw [← hp0] at h; exact h
                  have c2 : ∀ z, Calls Tryd.prog 23 #[.agg #[.slice bn' m dn, .slice bl' b.label.length dl], .int .i64 0, .slice ar j cp] (growW wr z) fun e w' => e = .returned (.int .i64 q0) ∧ Ext (growW wr z) w' := fun z => by
                    have h := label13_c (s0 := 0) (hdb.ext (grow_ext wr z)) HM.out.2 (IntsK.ext (grow_ext wr z) hXb) hX6 HM.out.2.pos
                    rw [← hq0] at h; exact h
                  have c3 : ∀ z, Calls Tryd.prog 23 #[.agg #[.slice an' n cn, .slice al' a.label.length cl], .int .i64 (l : Int), .slice ar j cp] (growW wr z) fun e w' => e = .returned (.int .i64 r0) ∧ Ext (growW wr z) w' := fun z => by
                    have h := label13_c (s0 := l) (hda.ext (grow_ext wr z)) HM.out.1 (IntsK.ext (grow_ext wr z) hXb) hX6 (by rw [← HN.out.1]; exact HL2.out.1)
                    rw [← hr0] at h; exact h
                  have d1 : ∀ z, Calls Tryd.prog 24 #[.slice ar j cp, .slice aw lw cw] (growW wr z) fun e w' => e = .returned (.bool s1) ∧ Ext (growW wr z) w' := fun z => by
                    rw [hs1]; exact less13_c (IntsK.ext (grow_ext wr z) hXb) (IntsK.ext (hw5.trans (grow_ext wr z)) HTo.out.1.row)
                  have d2 : ∀ z, Calls Tryd.prog 24 #[.slice ar j cp, .slice av lv cv] (growW wr z) fun e w' => e = .returned (.bool s2) ∧ Ext (growW wr z) w' := fun z => by
                    rw [hs2]; exact less13_c (IntsK.ext (grow_ext wr z) hXb) (IntsK.ext (hw5.trans (grow_ext wr z)) HTo.out.2.1.row)
                  have d3 : ∀ z, Calls Tryd.prog 24 #[.slice ar j cp, .slice au lu cu] (growW wr z) fun e w' => e = .returned (.bool s3) ∧ Ext (growW wr z) w' := fun z => by
                    rw [hs3]; exact less13_c (IntsK.ext (grow_ext wr z) hXb) (IntsK.ext (hw5.trans (grow_ext wr z)) HTo.out.2.2.row)
                  have HC := Lib.hid (And.intro c1 (And.intro c2 c3))
                  have HD := Lib.hid (And.intro d1 (And.intro d2 d3))
                  have k0' := fun z => (grow_ext wr z).cell k0
                  have k1' := fun z => (grow_ext wr z).cell k1
                  have k2' := fun z => (grow_ext wr z).cell k2
                  have k3' := fun z => (grow_ext wr z).cell k3
                  clear c1 c2 c3 d1 d2 d3 hda hdb hp0 hq0 hr0 hs1 hs2 hs3 hX hXb hX6 hw0 hw5 HTo HR
                  rcases hb1 with t1 | ⟨t1, rfl, rfl⟩ <;> rcases hb2 with t2 | ⟨t2, rfl, rfl⟩ <;> rcases hb3 with t3 | ⟨t3, rfl, rfl⟩
                  all_goals
                    refine wp_region_grow (by kernel_rfl) (by kernel_rfl) ?_
                    repeat (go_big_quiet_step ((first | (go_at_call 23; first | (with_reducible exact calls_grow (HC.out.1 _)) | (with_reducible exact calls_grow (HC.out.2.1 _)) | (with_reducible exact calls_grow (HC.out.2.2 _))) | (go_at_call 24; first | (with_reducible exact calls_grow (HD.out.1 _)) | (with_reducible exact calls_grow (HD.out.2.1 _)) | (with_reducible exact calls_grow (HD.out.2.2 _))))))
                    refine wpQuiet_nil ?_
                    rintro _ ⟨z, rfl⟩
                    have HX := Lib.hid (grow_ext wr z)
                    clear k0' k1' k2' k3'
                    go_wp2
                    go_meet
                    exact ⟨rfl, HX.out⟩
                case rest =>
                  obtain ⟨rfl, hxc2⟩ := hcut
                  go_wp2
                  go_roundw
                  case rel => exact ⟨hx.trans hxc2, j + 1, by omega, by go_num⟩
                  case measure => simp [intOf]; omega
              · have hj3 : ¬ (j : Int) ≤ k := by omega
                have HX := Lib.hid (HR.out.2.2.2.trans hx)
                clear hx hj hjk HR k0 k1 k2 k3 k4
                go_wp2
                go_roundw
                case rel =>
                  exact ⟨HX.out, i + 1, by omega, by omega, by go_num⟩
                case measure => simp [intOf]; omega
        · obtain rfl : i = 40 := by omega
          have HX := Lib.hid hx
          have hj1 : (40 : Int) < T := by omega
          clear hx
          go_wp2_with fail
          refine (hwk _).mono ?_
          rintro e w6 ⟨rfl, hx6⟩
          go_wp2
          go_ret
          exact ⟨rfl, (Ext.box w O).trans (HX5.out.trans (HX.out.trans hx6))⟩
      · obtain rfl : T = i := by omega
        have HX := Lib.hid hx
        clear hx hlt
        go_wp2_with fail
        refine (hwk _).mono ?_
        rintro e w6 ⟨rfl, hx6⟩
        go_wp2
        go_ret
        exact ⟨rfl, (Ext.box w O).trans (HX5.out.trans (HX.out.trans hx6))⟩
end Go.Proofs.YthnojechejckpaaDoor
