/- bolterlaw12.LeastLabels. -/
import Derived.Test.YtmacobegnkmmcaaDoorLeastD
import Derived.Test.YtmacobegnkmmcaaDoorClassMath
import Derived.Test.YtmacobegnkmmcaaDoorRun12
import Derived.Test.YtmacobegnkmmcaaDoorEqDense
import Derived.Test.YtmacobegnkmmcaaDoorMay
import Derived.Test.YtmacobegnkmmcaaDoorLeast
import Derived.Test.YtmacobegnkmmcaaDoorDenseForm
namespace Go.Proofs.YtmacobegnkmmcaaDoor
open Go.RowKit

/-- texts, as numbers -/
abbrev TextsV (w : World) (v : Value) (l : List (List Int)) : Prop := SliceV 1 (SliceAt 1 (IntAt .u8)) w v l

theorem TextsV.open {w : World} {v : Value} {l : List (List Int)} (h : TextsV w v l) :
    l.length ≤ 140737488355328 ∧ ∃ a cap, v = .slice a l.length cap ∧ (0 < l.length → ∃ b o, a = some ⟨b, o, none⟩ ∧ ∀ i, i < l.length → ∃ r, w.cell? ⟨b, o + i, none⟩ = some r ∧ IntsK .u8 w r (l.getD i [])) := by
  obtain ⟨h1, a, cap, h2, hc, h3⟩ := h
  refine ⟨h1, a, cap, h2, fun h => ?_⟩
  obtain ⟨b, o, h4, h5⟩ := h3 h
  refine ⟨b, o, h4, fun i hi => ?_⟩
  have := h5 i _ (List.getElem?_eq_getElem hi)
  rw [Nat.mul_one] at this
  rw [List.getD_eq_getElem?_getD, List.getElem?_eq_getElem hi]
  exact this

theorem bytes_nat {t : List Int} (h : ∀ z ∈ t, 0 ≤ z ∧ z ≤ 255) : t = (t.map Int.toNat).map (fun (b : Nat) => (b : Int)) ∧ ∀ c ∈ t.map Int.toNat, c < 256 := by
  constructor
  · rw [List.map_map]
    conv => lhs; rw [← List.map_id t]
    refine List.map_congr_left fun z hz => ?_
    have := h z hz
    simp; omega
  · intro c hc
    obtain ⟨z, hz, rfl⟩ := List.mem_map.1 hc
    have := h z hz
    omega

set_option maxRecDepth 100000 in
set_option maxHeartbeats 1000000 in
theorem labels_skip (hwk : Wakes12) {vn vl vt : Value} {d : Dn} {w : World} (h : DenseV w (.agg #[vn, vl]) d) (hno : ¬ (d.next.length ≤ 200 ∧ May d)) (ht : ∃ a n c, vt = .slice a n c) :
    Calls Tryd.prog 7 #[.agg #[vn, vl, vt]] w fun e w' => e = .returned (.bool true) ∧ Ext w w' := by
  obtain ⟨at_, nt, ct, rfl⟩ := ht
  obtain ⟨an, cn, al, cl, hv, ho⟩ := h.open
  simp only [Value.agg.injEq, Array.mk.injEq, List.cons.injEq, and_true] at hv
  obtain ⟨rfl, rfl⟩ := hv
  have hn := ho.n
  obtain ⟨n, hnn⟩ : ∃ n, n = d.next.length := ⟨_, rfl⟩
  rw [← hnn] at hn hno h ⊢
  have H := Lib.hid h
  clear hnn ho
  by_cases h40 : 200 < n
  · have h40' : (200 : Int) < n := by omega
    go_enter Tryd.func7, Tryd.ntmps7
    go_wp2_with fail
    refine (hwk _).mono ?_
    rintro e w1 ⟨rfl, hx1⟩
    go_wp2
    go_ret
    exact ⟨rfl, (Ext.box _ _).trans hx1⟩
  · have h40' : ¬ (200 : Int) < n := by omega
    have hm : ¬ May d := fun hm => hno ⟨by omega, hm⟩
    have hmb := mayB_false hm
    clear hno h hm
    go_enter Tryd.func7, Tryd.ntmps7
    go_wp2_with fail
    refine (may_c (H.out.ext (Ext.box _ _))).mono ?_
    rintro e w1 ⟨rfl, hx1⟩
    rw [hmb]
    go_wp2_with fail
    refine (hwk _).mono ?_
    rintro e w2 ⟨rfl, hx2⟩
    go_wp2
    go_ret
    exact ⟨rfl, ((Ext.box _ _).trans hx1).trans hx2⟩

set_option maxRecDepth 100000 in
set_option maxHeartbeats 4000000 in
theorem labels_go (hwk : Wakes12) {vn vl vt : Value} {d : Dn} {ts : List (List Int)} {w : World} (h : DenseV w (.agg #[vn, vl]) d) (h200 : d.next.length ≤ 200) (hm : May d) (ht : TextsV w vt ts) (hts : ∀ t ∈ ts, ∀ z ∈ t, 0 ≤ z ∧ z ≤ 255) :
    Calls Tryd.prog 7 #[.agg #[vn, vl, vt]] w fun e w' => e = .returned (.bool true) ∧ Ext w w' := by
  have HM := Lib.hid hm
  have hmb := mayB_true.2 hm
  have H := Lib.hid h
  obtain ⟨an, cn, al, cl, hv⟩ := h.form
  simp only [Value.agg.injEq, Array.mk.injEq, List.cons.injEq, and_true] at hv
  obtain ⟨rfl, rfl⟩ := hv
  obtain ⟨n, hnn⟩ : ∃ n, n = d.next.length := ⟨_, rfl⟩
  obtain ⟨ht1, at_, ct, rfl, ht2⟩ := ht.open
  obtain ⟨T, hT⟩ : ∃ T, T = ts.length := ⟨_, rfl⟩
  rw [← hnn] at h200 H ⊢
  rw [← hT] at ht1 ht2 ⊢
  have HT := Lib.hid (And.intro hT (And.intro ht2 hts))
  have HN := Lib.hid hnn
  have h200' : ¬ (200 : Int) < n := by omega
  obtain ⟨O, hO⟩ : ∃ O, O = (Obj.cells #[.slice an n cn, .slice al d.label.length cl, .slice at_ T ct] 54) := ⟨_, rfl⟩
  have hb : ∀ W, Ext (w.alloc O) W → W.cell? ⟨w.heap.size, 0, none⟩ = some (.slice an n cn) ∧ W.cell? ⟨w.heap.size, 1, none⟩ = some (.slice al d.label.length cl) ∧ W.cell? ⟨w.heap.size, 2, none⟩ = some (.slice at_ T ct) := by
    intro W hx
    subst hO
    exact ⟨hx.cell (by simp), hx.cell (by simp), hx.cell (by simp)⟩
  have HB := Lib.hid hb
  have HO := Lib.hid hO
  clear h hm hnn hO hb ht2 hts hT ht
  go_enter Tryd.func7, Tryd.ntmps7
  go_wp2_with fail
  rw [← HO.out]
  refine (may_c (H.out.ext (Ext.box _ _))).mono ?_
  rintro e w1 ⟨rfl, hx1⟩
  rw [hmb]
  obtain ⟨k0, k1, k2⟩ := HB.out _ hx1
  go_wp2_with fail
  refine (least_c (H.out.ext ((Ext.box w O).trans hx1)) HM.out).mono ?_
  rintro e w2 ⟨v2, P, rfl, hTP, hdl, hx2, _⟩
  have hdl : DenseV w2 v2 (leastD d P) := hdl
  have hml := leastD_may HM.out P
  obtain ⟨a2, c2, b2, e2, rfl⟩ := hdl.form
  obtain ⟨n2, hn2⟩ : ∃ n, n = (leastD d P).next.length := ⟨_, rfl⟩
  obtain ⟨m2, hm2⟩ : ∃ n, n = (leastD d P).label.length := ⟨_, rfl⟩
  have hle := leastD_le HM.out P
  rw [← HN.out, ← hn2] at hle
  rw [← hn2, ← hm2] at hdl ⊢
  have HL := Lib.hid (And.intro hml (And.intro hTP (And.intro hdl (hx1.trans hx2))))
  clear hml hTP hdl hx1 hx2 k0 k1 k2 hn2 hm2
  have hxb : Ext w2 (w2.alloc (.cells #[.slice a2 n2 c2, .slice b2 m2 e2] 25)) := Ext.box _ _
  go_wp2_with fail
  refine (least_c (HL.out.2.2.1.ext hxb) HL.out.1).mono ?_
  rintro e w3 ⟨v3, Q, rfl, hTQ, hdm, hx3, _⟩
  have hdm : DenseV w3 v3 (leastD (leastD d P) Q) := hdm
  rw [(leastD_congr HL.out.1 HM.out hTQ HL.out.2.1).2 (leastD_xeq0 HM.out HL.out.2.1)] at hdm
  obtain ⟨a3, c3, b3, e3, rfl⟩ := hdm.form
  obtain ⟨n3, hn3⟩ : ∃ n, n = (leastD d P).next.length := ⟨_, rfl⟩
  obtain ⟨m3, hm3⟩ : ∃ n, n = (leastD d P).label.length := ⟨_, rfl⟩
  rw [← hn3, ← hm3] at hdm ⊢
  have q0 := hx3.cell (p := ⟨w2.heap.size, 0, none⟩) (v := .slice a2 n2 c2) (by simp)
  have q1 := hx3.cell (p := ⟨w2.heap.size, 1, none⟩) (v := .slice b2 m2 e2) (by simp)
  have hw3 : Ext w2 w3 := hxb.trans hx3
  obtain ⟨k0, k1, k2⟩ := HB.out _ (HL.out.2.2.2.trans hw3)
  have hxb3 : Ext w3 (w3.alloc (.cells #[.slice a3 n3 c3, .slice b3 m3 e3] 25)) := Ext.box _ _
  have hlq := lt_of_cell q0
  have hlk := lt_of_cell k0
  have heq := eqDense_b ((HL.out.2.2.1.ext hw3).ext hxb3) (hdm.ext hxb3) (r := true) (by rw [eqD_iff])
  have HE := Lib.hid (And.intro heq (And.intro hw3 (And.intro hxb3 (And.intro q0 q1))))
  have hj0 : ¬ (n : Int) < n2 := by omega
  clear heq hw3 hxb hx3 hdm hn3 hm3
  go_wp2_with fail
  refine HE.out.1.mono ?_
  rintro e w4 ⟨rfl, hx4⟩
  have hw4 : Ext w2 w4 := HE.out.2.1.trans (HE.out.2.2.1.trans hx4)
  have q0 := (HE.out.2.2.1.trans hx4).cell HE.out.2.2.2.1
  have q1 := (HE.out.2.2.1.trans hx4).cell HE.out.2.2.2.2
  obtain ⟨k0, k1, k2⟩ := HB.out _ (HL.out.2.2.2.trans hw4)
  have HW4 := Lib.hid (And.intro hw4 (And.intro q0 q1))
  clear hw4 hx4 hxb3 hlq hlk
  go_wp2
  clear k0 k1 k2 q0 q1
  go_loopw [7] (fun iv wr => Ext w4 wr ∧ ∃ i : Nat, i ≤ T ∧ i ≤ 18 ∧ iv = .int .i64 i) (fun iv _ => 18 - (intOf iv).toNat)
  case atStart => exact ⟨Ext.refl _, 0, Nat.zero_le _, Nat.zero_le _, rfl⟩
  case round =>
    obtain ⟨hx, i, hiT, hi18, rfl⟩ := hrel
    obtain ⟨k0, k1, k2⟩ := HB.out _ (HL.out.2.2.2.trans (HW4.out.1.trans hx))
    by_cases hlt : i < T
    · by_cases hlt18 : i < 18
      · obtain ⟨bt, ot, hat, htc⟩ := HT.out.2.1 (by omega)
        subst hat
        obtain ⟨r, hr, hrt⟩ := htc i hlt
        have hwr : Ext w wr := (Ext.box w O).trans (HL.out.2.2.2.trans (HW4.out.1.trans hx))
        have cr := hwr.cell hr
        have htm : ts.getD i [] ∈ ts := by
          rw [List.getD_eq_getElem?_getD, List.getElem?_eq_getElem (by rw [← HT.out.1]; exact hlt)]
          exact List.getElem_mem _
        obtain ⟨hl1, hl2⟩ := bytes_nat (HT.out.2.2 _ htm)
        obtain ⟨l, hl⟩ : ∃ l, l = (ts.getD i []).map Int.toNat := ⟨_, rfl⟩
        rw [← hl] at hl1 hl2
        rw [hl1] at hrt
        have hrb : BytesW wr r l := IntsK.ext hwr hrt
        obtain ⟨ar, cp, hrv⟩ : ∃ a c, r = .slice a l.length c := by
          obtain ⟨_, a, c, h2, _⟩ := hrb
          exact ⟨a, c, by simpa using h2⟩
        subst hrv
        have q0 := hx.cell HW4.out.2.1
        have q1 := hx.cell HW4.out.2.2
        have hdl := HL.out.2.2.1.ext (HW4.out.1.trans hx)
        have hdd := H.out.ext hwr
        have hlb : (leastD d P).lb (CM.run (leastD d P).nx 0 l) = d.lb (CM.run d.nx 0 l) := leastD_xeq0 HM.out HL.out.2.1 l hl2
        obtain ⟨x, hx'⟩ : ∃ x, x = d.lb (CM.run d.nx 0 l) := ⟨_, rfl⟩
        have hx2 : -1 ≤ x := by
          rw [hx']
          exact (HM.out.label _ (run_nat_lt HM.out l hl2)).1
        have hne1 : ((x : Int) != (x : Int)) = false := by simp
        have hne2 : ((x : Int) == (-2 : Int)) = false := by simp; omega
        have cr' := fun z => (grow_ext wr z).cell cr
        have k0' := fun z => (grow_ext wr z).cell k0
        have k1' := fun z => (grow_ext wr z).cell k1
        have k2' := fun z => (grow_ext wr z).cell k2
        have q0' := fun z => (grow_ext wr z).cell q0
        have q1' := fun z => (grow_ext wr z).cell q1
        have c1 : ∀ z, Calls Tryd.prog 25 #[.agg #[.slice a2 n2 c2, .slice b2 m2 e2], .slice ar l.length cp] (growW wr z) fun e w' => e = .returned (.int .i64 x) ∧ Ext (growW wr z) w' := fun z => by
          have h := label12_c (hdl.ext (grow_ext wr z)) HL.out.1 (IntsK.ext (grow_ext wr z) hrb) hl2
          rw [hlb, ← hx'] at h; exact h
        have c2' : ∀ z, Calls Tryd.prog 25 #[.agg #[.slice an n cn, .slice al d.label.length cl], .slice ar l.length cp] (growW wr z) fun e w' => e = .returned (.int .i64 x) ∧ Ext (growW wr z) w' := fun z => by
          have h := label12_c (hdd.ext (grow_ext wr z)) HM.out (IntsK.ext (grow_ext wr z) hrb) hl2
          rw [← hx'] at h; exact h
        have HC := Lib.hid (And.intro c1 (And.intro c2' hx))
        have hj1 : (i : Int) < T := by omega
        have hj2 : (i : Int) < 18 := by omega
        clear hl1 hl2 hl hrt hrb hdl hdd hlb hx' c1 c2' hwr hr htc hx htm
        go_wp2
        refine wp_region_grow (by kernel_rfl) (by kernel_rfl) ?_
        repeat (go_big_quiet_step ((go_at_call 25; first | (with_reducible exact calls_grow (HC.out.1 _)) | (with_reducible exact calls_grow (HC.out.2.1 _)))))
        refine wpQuiet_nil ?_
        rintro _ ⟨z, rfl⟩
        have HX3 := Lib.hid (HC.out.2.2.trans (grow_ext wr z))
        clear cr' k0' k1' k2' q0' q1' cr k0 k1 k2 q0 q1
        go_wp2
        go_roundw
        case rel => exact ⟨HX3.out, i + 1, by omega, by omega, by go_num⟩
        case measure => simp [intOf]; omega
      · obtain rfl : i = 18 := by omega
        have HX := Lib.hid hx
        have hj1 : (18 : Int) < T := by omega
        clear hx
        go_wp2_with fail
        refine (hwk _).mono ?_
        rintro e w5 ⟨rfl, hx5⟩
        go_wp2
        go_ret
        exact ⟨rfl, (Ext.box w O).trans (HL.out.2.2.2.trans (HW4.out.1.trans (HX.out.trans hx5)))⟩
    · obtain rfl : T = i := by omega
      have HX := Lib.hid hx
      clear hx hlt
      go_wp2_with fail
      refine (hwk _).mono ?_
      rintro e w5 ⟨rfl, hx5⟩
      go_wp2
      go_ret
      exact ⟨rfl, (Ext.box w O).trans (HL.out.2.2.2.trans (HW4.out.1.trans (HX.out.trans hx5)))⟩
end Go.Proofs.YtmacobegnkmmcaaDoor
