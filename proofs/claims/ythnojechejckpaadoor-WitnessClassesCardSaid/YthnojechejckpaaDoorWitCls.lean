/- bolterlaw13.WitnessClasses. -/
import Derived.Test.YthnojechejckpaaDoorFirstS
import Derived.Test.YthnojechejckpaaDoorClassMath
import Derived.Test.YthnojechejckpaaDoorEqDense
import Derived.Test.YthnojechejckpaaDoorClasses
import Derived.Test.YthnojechejckpaaDoorLeast
namespace Go.Proofs.YthnojechejckpaaDoor
open Go.RowKit

/-- what is told is there just if the two states are not equal -/
theorem Told.there {w : World} {v : Value} {t : Bool} {u : List Nat} {a b : Dn} {x y : Nat} (h : Told w v t u (fun z => a.lb (CM.run a.nx x z) ≠ b.lb (CM.run b.nx y z))) : t = true ↔ ¬ LM.xeq a.aut b.aut x y := by
  constructor
  · intro ht he
    exact h.yes ht (he u h.bytes)
  · intro hne
    cases t with
    | true => rfl
    | false =>
      refine absurd (fun z hz => ?_) hne
      by_cases e : a.aut.lb (a.aut.run x z) = b.aut.lb (b.aut.run y z)
      · exact e
      · have := (h.no z hz e).1
        cases this

set_option maxRecDepth 100000 in
set_option maxHeartbeats 1000000 in
theorem clsW_skip (hwk : Wakes13) {an al bn bl tv : Value} {a b : Dn} {w : World} (ha : DenseV w (.agg #[an, al]) a) (hb : DenseV w (.agg #[bn, bl]) b) (hno : ¬ ((a.next.length ≤ 20 ∧ b.next.length ≤ 20) ∧ May a ∧ May b)) :
    Calls Tryd.prog 6 #[.agg #[an, al, bn, bl, tv]] w fun e w' => e = .returned (.bool true) ∧ Ext w w' := by
  obtain ⟨an', cn, al', cl, hv, ho⟩ := ha.open
  obtain ⟨bn', dn, bl', dl, hv2, ho2⟩ := hb.open
  simp only [Value.agg.injEq, Array.mk.injEq, List.cons.injEq, and_true] at hv hv2
  obtain ⟨rfl, rfl⟩ := hv
  obtain ⟨rfl, rfl⟩ := hv2
  have hn := ho.n
  have hn2 := ho2.n
  obtain ⟨n, hnn⟩ : ∃ n, n = a.next.length := ⟨_, rfl⟩
  obtain ⟨m, hmm⟩ : ∃ m, m = b.next.length := ⟨_, rfl⟩
  rw [← hnn] at hn hno ha ⊢
  rw [← hmm] at hn2 hno hb ⊢
  have H := Lib.hid (And.intro ha hb)
  have hbx := @box5 w (.slice an' n cn) (.slice al' a.label.length cl) (.slice bn' m dn) (.slice bl' b.label.length dl) tv 40
  have HB := Lib.hid hbx
  clear hnn hmm ho ho2 ha hb hbx
  have hend : ∀ W, Ext (w.alloc (.cells #[.slice an' n cn, .slice al' a.label.length cl, .slice bn' m dn, .slice bl' b.label.length dl, tv] 40)) W → Calls Tryd.prog 19 #[] W fun e w' => e = .returned (.bool true) ∧ Ext w w' :=
    fun W hx => (hwk W).mono fun e w' h => ⟨h.1, ((Ext.box _ _).trans hx).trans h.2⟩
  have HE := Lib.hid hend
  clear hend
  by_cases h1 : 20 < n
  · have h1' : (20 : Int) < n := by omega
    go_enter Tryd.func6, Tryd.ntmps6
    go_wp2_with fail
    refine (HE.out _ (Ext.refl _)).mono ?_
    rintro e w1 ⟨rfl, hx1⟩
    go_wp2
    go_ret
    exact ⟨rfl, hx1⟩
  · have h1' : ¬ (20 : Int) < n := by omega
    by_cases h2 : 20 < m
    · have h2' : (20 : Int) < m := by omega
      go_enter Tryd.func6, Tryd.ntmps6
      go_wp2_with fail
      refine (HE.out _ (Ext.refl _)).mono ?_
      rintro e w1 ⟨rfl, hx1⟩
      go_wp2
      go_ret
      exact ⟨rfl, hx1⟩
    · have h2' : ¬ (20 : Int) < m := by omega
      by_cases hma : May a
      · have hmb : ¬ May b := fun hmb => hno ⟨⟨by omega, by omega⟩, hma, hmb⟩
        have e1 := mayB_true.2 hma
        have e2 := mayB_false hmb
        clear hno hma hmb
        go_enter Tryd.func6, Tryd.ntmps6
        go_wp2_with fail
        refine (may_c (H.out.1.ext (Ext.box _ _))).mono ?_
        rintro e w1 ⟨rfl, hx1⟩
        rw [e1]
        obtain ⟨k0, k1, k2, k3, k4⟩ := HB.out _ hx1
        go_wp2_with fail
        refine (may_c (H.out.2.ext ((Ext.box _ _).trans hx1))).mono ?_
        rintro e w2 ⟨rfl, hx2⟩
        rw [e2]
        go_wp2_with fail
        refine (HE.out _ (hx1.trans hx2)).mono ?_
        rintro e w3 ⟨rfl, hx3⟩
        go_wp2
        go_ret
        exact ⟨rfl, hx3⟩
      · have e1 := mayB_false hma
        clear hno hma
        go_enter Tryd.func6, Tryd.ntmps6
        go_wp2_with fail
        refine (may_c (H.out.1.ext (Ext.box _ _))).mono ?_
        rintro e w1 ⟨rfl, hx1⟩
        rw [e1]
        go_wp2_with fail
        refine (HE.out _ hx1).mono ?_
        rintro e w3 ⟨rfl, hx3⟩
        go_wp2
        go_ret
        exact ⟨rfl, hx3⟩

set_option maxRecDepth 100000 in
set_option maxHeartbeats 8000000 in
theorem clsW_go (hwk : Wakes13) {an al bn bl tv : Value} {a b : Dn} {w : World} (ha : DenseV w (.agg #[an, al]) a) (hb : DenseV w (.agg #[bn, bl]) b) (h20 : a.next.length ≤ 20 ∧ b.next.length ≤ 20) (hma : May a) (hmb : May b) :
    Calls Tryd.prog 6 #[.agg #[an, al, bn, bl, tv]] w fun e w' => e = .returned (.bool true) ∧ Ext w w' := by
  obtain ⟨an', cn, al', cl, hv, ho⟩ := ha.open
  obtain ⟨bn', dn, bl', dl, hv2, ho2⟩ := hb.open
  simp only [Value.agg.injEq, Array.mk.injEq, List.cons.injEq, and_true] at hv hv2
  obtain ⟨rfl, rfl⟩ := hv
  obtain ⟨rfl, rfl⟩ := hv2
  have e1 := mayB_true.2 hma
  have e2 := mayB_true.2 hmb
  have hp1 := hma.pos
  have HM := Lib.hid (And.intro hma hmb)
  obtain ⟨n, hnn⟩ : ∃ n, n = a.next.length := ⟨_, rfl⟩
  obtain ⟨m, hmm⟩ : ∃ m, m = b.next.length := ⟨_, rfl⟩
  rw [← hnn] at ha h20 hp1 ⊢
  rw [← hmm] at hb h20 ⊢
  have HN := Lib.hid (And.intro hnn hmm)
  obtain ⟨h1, h2⟩ := h20
  have H := Lib.hid (And.intro ha hb)
  obtain ⟨O, hO⟩ : ∃ O, O = (Obj.cells #[.slice an' n cn, .slice al' a.label.length cl, .slice bn' m dn, .slice bl' b.label.length dl, tv] 40) := ⟨_, rfl⟩
  have hbx := @box5 w (.slice an' n cn) (.slice al' a.label.length cl) (.slice bn' m dn) (.slice bl' b.label.length dl) tv 40
  rw [← hO] at hbx
  have HB := Lib.hid hbx
  have HO := Lib.hid hO
  have h1' : ¬ (20 : Int) < n := by omega
  have h2' : ¬ (20 : Int) < m := by omega
  clear ho ho2 ha hb hbx hO hnn hmm hma hmb
  go_enter Tryd.func6, Tryd.ntmps6
  go_wp2_with fail
  rw [← HO.out]
  refine (may_c (H.out.1.ext (Ext.box _ _))).mono ?_
  rintro e w1 ⟨rfl, hx1⟩
  rw [e1]
  obtain ⟨k0, k1, k2, k3, k4⟩ := HB.out _ hx1
  go_wp2_with fail
  refine (may_c (H.out.2.ext ((Ext.box _ _).trans hx1))).mono ?_
  rintro e w2 ⟨rfl, hx2⟩
  rw [e2]
  have hx2' := hx1.trans hx2
  clear hx1 hx2 k0 k1 k2 k3 k4 e1 e2
  obtain ⟨k0, k1, k2, k3, k4⟩ := HB.out _ hx2'
  go_wp2_with fail
  refine (classes_c (H.out.1.ext ((Ext.box _ O).trans hx2')) HM.out.1).mono ?_
  rintro e w3 ⟨cv, rfl, P, hT, hrow, hx3⟩
  rw [← HN.out.1] at hrow
  obtain ⟨gc, cc, hcv, _, _⟩ := own_slc hrow hp1
  subst hcv
  have hcc : ∀ W, Ext w3 W → ∀ s, s < n → W.cell? ⟨gc, s, none⟩ = some (.int .i64 (LM.num P s : Nat)) := fun W hW s hs => hW.cell (by
    rw [hrow.cellAt s (by omega), natV_get (by simp; exact hs)]
    simp [List.getD_eq_getElem?_getD, List.getElem?_range hs])
  have HC := Lib.hid (And.intro hcc (And.intro hT (hx2'.trans hx3)))
  clear hcc hT hrow hx2' hx3 k0 k1 k2 k3 k4
  obtain ⟨k0, k1, k2, k3, k4⟩ := HB.out _ HC.out.2.2
  go_wp2_with fail
  refine (least_c (H.out.1.ext ((Ext.box _ O).trans HC.out.2.2)) HM.out.1).mono ?_
  rintro e w4 ⟨va, Q, rfl, hQ, hda, hx4, _⟩
  have hda : DenseV w4 va (leastD a Q) := hda
  obtain ⟨a2, c2, b2, e2, rfl⟩ := hda.form
  obtain ⟨n2, hn2⟩ : ∃ n, n = (leastD a Q).next.length := ⟨_, rfl⟩
  obtain ⟨m2, hm2⟩ : ∃ n, n = (leastD a Q).label.length := ⟨_, rfl⟩
  rw [← hn2, ← hm2] at hda ⊢
  have hx4' := HC.out.2.2.trans hx4
  have hxb : Ext w4 (w4.alloc (.cells #[.slice a2 n2 c2, .slice b2 m2 e2] 25)) := Ext.box _ _
  have HA := Lib.hid (And.intro hQ (And.intro hda (And.intro hx4' (And.intro hx4 hxb))))
  clear hQ hda hx4 hx4' hxb hn2 hm2 k0 k1 k2 k3 k4
  obtain ⟨k0, k1, k2, k3, k4⟩ := HB.out _ (HA.out.2.2.1.trans HA.out.2.2.2.2)
  go_wp2_with fail
  refine (least_c (H.out.2.ext ((Ext.box _ O).trans (HA.out.2.2.1.trans HA.out.2.2.2.2))) HM.out.2).mono ?_
  rintro e w5 ⟨vb, R, rfl, hR, hdb, hx5, _⟩
  have hdb : DenseV w5 vb (leastD b R) := hdb
  obtain ⟨a3, c3, b3, e3, rfl⟩ := hdb.form
  obtain ⟨n3, hn3⟩ : ∃ n, n = (leastD b R).next.length := ⟨_, rfl⟩
  obtain ⟨m3, hm3⟩ : ∃ n, n = (leastD b R).label.length := ⟨_, rfl⟩
  rw [← hn3, ← hm3] at hdb ⊢
  have hx45 : Ext w4 w5 := HA.out.2.2.2.2.trans hx5
  have hxb : Ext w5 (w5.alloc (.cells #[.slice a3 n3 c3, .slice b3 m3 e3] 25)) := Ext.box _ _
  have q0 := hx5.cell (p := ⟨w4.heap.size, 0, none⟩) (v := .slice a2 n2 c2) (by simp)
  have q1 := hx5.cell (p := ⟨w4.heap.size, 1, none⟩) (v := .slice b2 m2 e2) (by simp)
  have p0 : (w5.alloc (.cells #[.slice a3 n3 c3, .slice b3 m3 e3] 25)).cell? ⟨w5.heap.size, 0, none⟩ = some (.slice a3 n3 c3) := by simp
  have p1 : (w5.alloc (.cells #[.slice a3 n3 c3, .slice b3 m3 e3] 25)).cell? ⟨w5.heap.size, 1, none⟩ = some (.slice b3 m3 e3) := by simp
  have HD := Lib.hid (And.intro hR (And.intro hdb (And.intro hx45 (And.intro hxb (And.intro (hxb.cell q0) (And.intro (hxb.cell q1) (And.intro p0 p1)))))))
  clear hR hdb hx45 hx5 hxb q0 q1 p0 p1 hn3 hm3 k0 k1 k2 k3 k4
  obtain ⟨k0, k1, k2, k3, k4⟩ := HB.out _ (HA.out.2.2.1.trans (HD.out.2.2.1.trans HD.out.2.2.2.1))
  go_wp2_with fail
  have hw := differ_c (H.out.1.ext ((Ext.box _ O).trans (HA.out.2.2.1.trans (HD.out.2.2.1.trans HD.out.2.2.2.1)))) (H.out.2.ext ((Ext.box _ O).trans (HA.out.2.2.1.trans (HD.out.2.2.1.trans HD.out.2.2.2.1)))) HM.out.1 HM.out.2
  refine hw.mono ?_
  clear hw
  intro e w6 hr
  obtain ⟨vv, t1, uv, rfl, hx6, hTv, _⟩ := told_two HM.out.1 HM.out.2 HM.out.1.pos HM.out.2.pos hr
  have ht1 : t1 = !(eqD (leastD a Q) (leastD b R)) := by
    rw [Bool.eq_iff_iff, hTv.there, Bool.not_eq_true', Bool.eq_false_iff, ne_eq, eqD_iff, leastD_congr HM.out.1 HM.out.2 HA.out.1 HD.out.1]
  have hw6 : Ext w4 w6 := HD.out.2.2.1.trans (HD.out.2.2.2.1.trans hx6)
  have q0 := hx6.cell HD.out.2.2.2.2.1
  have q1 := hx6.cell HD.out.2.2.2.2.2.1
  have p0 := hx6.cell HD.out.2.2.2.2.2.2.1
  have p1 := hx6.cell HD.out.2.2.2.2.2.2.2
  obtain ⟨r1, hr1⟩ : ∃ r, r = eqD (leastD a Q) (leastD b R) := ⟨_, rfl⟩
  have heq := eqDense_b (HA.out.2.1.ext hw6) (HD.out.2.1.ext (HD.out.2.2.2.1.trans hx6)) hr1.symm
  rw [← hr1] at ht1
  subst ht1
  have HE := Lib.hid (And.intro heq (And.intro hw6 (And.intro q0 q1)))
  clear heq hw6 hx6 hTv hr hr1 k0 k1 k2 k3 k4
  obtain ⟨k0, k1, k2, k3, k4⟩ := HB.out _ (HA.out.2.2.1.trans HE.out.2.1)
  have hj7 : ((!r1) == r1) = false := by cases r1 <;> rfl
  go_wp2_with fail
  refine HE.out.1.mono ?_
  rintro e w7 ⟨rfl, hx7⟩
  have hw7 : Ext w4 w7 := HE.out.2.1.trans hx7
  have q0 := hx7.cell HE.out.2.2.1
  have q1 := hx7.cell HE.out.2.2.2
  have HF := Lib.hid (And.intro hw7 (And.intro q0 q1))
  clear hw7 hx7 p0 p1 k0 k1 k2 k3 k4
  obtain ⟨k0, k1, k2, k3, k4⟩ := HB.out _ (HA.out.2.2.1.trans HF.out.1)
  have hjn : ((n : Int) != n) = false := by simp
  go_wp2_with fail
  have hml := leastD_may HM.out.1 Q
  have hw := differ_c (H.out.1.ext ((Ext.box _ O).trans (HA.out.2.2.1.trans HF.out.1))) (HA.out.2.1.ext HF.out.1) HM.out.1 hml
  refine hw.mono ?_
  clear hw
  intro e w8 hr
  obtain ⟨vv, t2, uv, rfl, hx8, hTv, _⟩ := told_two HM.out.1 hml HM.out.1.pos hml.pos hr
  have ht2 : t2 = false := by
    rw [Bool.eq_false_iff, ne_eq, hTv.there, Classical.not_not]
    exact (leastD_xeq0 HM.out.1 HA.out.1).symm
  subst ht2
  have hw8 : Ext w4 w8 := HF.out.1.trans hx8
  have q0 := hx8.cell HF.out.2.1
  have q1 := hx8.cell HF.out.2.2
  have HG := Lib.hid (And.intro hw8 (And.intro q0 (And.intro q1 hml)))
  clear hw8 hx8 hTv hr hml q0 q1 k0 k1 k2 k3 k4 hj7 hjn h1' h2'
  go_wp2
  go_loopw [12] (fun iv wr => Ext w8 wr ∧ ∃ i : Nat, i ≤ n ∧ iv = .int .i64 i) (fun iv _ => n - (intOf iv).toNat)
  case atStart => exact ⟨Ext.refl _, 0, Nat.zero_le _, rfl⟩
  case round =>
    obtain ⟨hx, i, hi, rfl⟩ := hrel
    by_cases hlt : i < n
    · have HX := Lib.hid hx
      have hji : (i : Int) < n := by omega
      clear hx
      go_wp2
      go_loopw [13] (fun kv wi => Ext w8 wi ∧ ∃ k : Nat, k ≤ i + 1 ∧ kv = .int .i64 k) (fun kv _ => i + 1 - (intOf kv).toNat)
      case atStart => exact ⟨HX.out, 0, Nat.zero_le _, rfl⟩
      case round =>
        obtain ⟨hx, k, hk, rfl⟩ := hrel
        by_cases hltk : k ≤ i
        · have hkn : k < n := by omega
          have hjk : (k : Int) ≤ i := by omega
          have hjk2 : (k : Int) < n := by omega
          have hw4 : Ext (w.alloc O) wr := HA.out.2.2.1.trans (HG.out.1.trans hx)
          obtain ⟨k0, k1, k2, k3, k4⟩ := HB.out _ hw4
          have HX2 := Lib.hid (And.intro hx hw4)
          clear hx hw4
          go_wp2_with fail
          have hw := apart_c (x := i) (y := k) (H.out.1.ext ((Ext.box _ O).trans HX2.out.2)) HM.out.1 (by rw [← HN.out.1]; exact hlt) (by rw [← HN.out.1]; exact hkn)
          refine hw.mono ?_
          clear hw
          intro e w9 hr
          obtain ⟨vu, t3, uu, rfl, hx9, hTu, _⟩ := told_one HM.out.1 (by rw [← HN.out.1]; exact hlt) (by rw [← HN.out.1]; exact hkn) hr
          have hw9 : Ext w8 w9 := HX2.out.1.trans hx9
          have hw39 : Ext w3 w9 := HA.out.2.2.2.1.trans (HG.out.1.trans hw9)
          have ci := HC.out.1 _ hw39 i hlt
          have ck := HC.out.1 _ hw39 k hkn
          obtain ⟨xi, hxi⟩ : ∃ x, x = LM.num P i := ⟨_, rfl⟩
          obtain ⟨xk, hxk⟩ : ∃ x, x = LM.num P k := ⟨_, rfl⟩
          have ht3 : t3 = ((xi : Int) != (xk : Int)) := by
            rw [Bool.eq_iff_iff, hTu.there, bne_iff_ne, ne_eq, Int.ofNat_inj, hxi, hxk, LM.num_eq_iff, HC.out.2.1 i k (by show i < a.next.length; rw [← HN.out.1]; exact hlt) (by show k < a.next.length; rw [← HN.out.1]; exact hkn)]
          rw [← hxi] at ci
          rw [← hxk] at ck
          subst ht3
          have hjj : (((xi : Int) != (xk : Int)) != ((xi : Int) != (xk : Int))) = false := by simp
          have HX9 := Lib.hid hw9
          clear hw9 hw39 hx9 hTu hr hxi hxk k0 k1 k2 k3 k4
          go_wp2_with fail
          go_quiet (fail)
          go_wp2
          go_roundw
          case rel => exact ⟨HX9.out.trans (Ext.drewN (Ext.refl _) _), k + 1, by omega, by go_num⟩
          case measure => simp [intOf]; omega
        · have hjk : ¬ (k : Int) ≤ i := by omega
          have HX2 := Lib.hid hx
          clear hx hk hltk
          go_wp2
          go_roundw
          case rel => exact ⟨HX2.out, i + 1, by omega, by go_num⟩
          case measure => simp [intOf]; omega
    · obtain rfl : n = i := by omega
      have q0 := hx.cell HG.out.2.1
      have q1 := hx.cell HG.out.2.2.1
      have HX := Lib.hid hx
      clear hx hlt
      go_wp2_with fail
      have hc := check_c (HA.out.2.1.ext (HG.out.1.trans HX.out))
      rw [mayB_true.2 HG.out.2.2.2] at hc
      refine hc.mono ?_
      clear hc
      rintro e w9 ⟨rfl, hx9⟩
      go_wp2_with fail
      refine (hwk _).mono ?_
      rintro e w10 ⟨rfl, hx10⟩
      go_wp2
      go_ret
      exact ⟨rfl, (Ext.box w O).trans (HA.out.2.2.1.trans (HG.out.1.trans (HX.out.trans (hx9.trans hx10))))⟩
end Go.Proofs.YthnojechejckpaaDoor
