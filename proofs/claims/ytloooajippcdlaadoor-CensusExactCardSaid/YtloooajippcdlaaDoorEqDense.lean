/- bolterref0.EqRows and EqDense: are two automata the same? -/
import Derived.Test.YtloooajippcdlaaDoorEqs
import Derived.Test.YtloooajippcdlaaDoorGrow
namespace Go.Proofs.YtloooajippcdlaaDoor
open Go.RowKit

theorem rows_eq_of_getD {la lb : List (List Int)} (hl : la.length = lb.length) (h : ∀ j, j < la.length → la.getD j [] = lb.getD j []) : la = lb := by
  refine List.ext_getElem hl fun i h1 h2 => ?_
  have := h i h1
  rw [List.getD_eq_getElem?_getD, List.getD_eq_getElem?_getD, List.getElem?_eq_getElem h1, List.getElem?_eq_getElem h2] at this
  exact this

set_option maxHeartbeats 1000000 in
theorem eqRows_c {va vb : Value} {la lb : List (List Int)} {w : World} (ha : RowsV w va la) (hb : RowsV w vb lb) :
    Calls Tryd.prog 55 #[va, vb] w fun e w' => e = .returned (.bool (decide (la = lb))) ∧ Ext w w' := by
  obtain ⟨h1, a, ca, rfl, _, ha2⟩ := ha.open
  obtain ⟨h2, b, cb, rfl, _, hb2⟩ := hb.open
  obtain ⟨n, hn⟩ : ∃ n, n = la.length := ⟨_, rfl⟩
  obtain ⟨m, hm⟩ : ∃ m, m = lb.length := ⟨_, rfl⟩
  rw [← hn] at h1 ha2 ⊢
  rw [← hm] at h2 hb2 ⊢
  have HN := Lib.hid hn
  have HM := Lib.hid hm
  clear hn hm ha hb
  by_cases hnm : n = m
  · subst hnm
    have hne : ((n : Int) != (n : Int)) = false := by simp
    go_enter Tryd.func55, Tryd.ntmps55
    go_wp2
    go_loopw [5] (fun i wr => ∃ k : Nat, k ≤ n ∧ i = .int .i64 k ∧ (∀ j, j < k → la.getD j [] = lb.getD j []) ∧ Ext w wr) (fun i _ => n - (intOf i).toNat)
    case atStart => exact ⟨0, Nat.zero_le _, rfl, fun j hj => by omega, Ext.refl _⟩
    case round =>
      obtain ⟨k, hk, rfl, hj, hx⟩ := hrel
      have HJ := Lib.hid hj
      clear hj
      by_cases hlt : k < n
      · obtain ⟨ba, oa, rfl, hca⟩ := ha2 (by omega)
        obtain ⟨bb, ob, rfl, hcb⟩ := hb2 (by omega)
        obtain ⟨ra, e1, hra⟩ := hca k hlt
        obtain ⟨rb, e2, hrb⟩ := hcb k hlt
        have c1 := hx.cell e1
        have c2 := hx.cell e2
        have HR := Lib.hid (And.intro (IntsK.ext hx hra) (IntsK.ext hx hrb))
        have c1' := fun z => (grow_ext wr z).cell c1
        have c2' := fun z => (grow_ext wr z).cell c2
        have hj1 : (k : Int) < n := by omega
        clear hca hcb ha2 hb2 e1 e2 hra hrb
        obtain ⟨r, hr⟩ : ∃ r, decide (la.getD k [] = lb.getD k []) = r := ⟨_, rfl⟩
        have HE := Lib.hid hr
        clear hr
        go_wp2
        cases r
        all_goals
          refine wp_region_grow (by kernel_rfl) (by kernel_rfl) ?_
          repeat (go_big_quiet_step ((go_at_call 20; exact calls_grow (eqInts_b (IntsK.ext (grow_ext wr _) HR.out.1) (IntsK.ext (grow_ext wr _) HR.out.2) HE.out))))
          refine wpQuiet_nil ?_
          rintro _ ⟨z, rfl⟩
          have hx2 := hx.trans (grow_ext wr z)
          clear c1' c2'
          go_wp2
        · go_ret
          exact ⟨ret_bool (decide_eq_false (fun e => of_decide_eq_false HE.out (by rw [e]))).symm, hx2⟩
        · go_roundw
          case rel => exact ⟨k + 1, by omega, by go_num, fun j hj' => by
              by_cases e : j = k
              · subst e; exact of_decide_eq_true HE.out
              · exact HJ.out j (by omega), hx2⟩
          case measure => simp [intOf]; omega
      · obtain rfl : n = k := by omega
        go_wp2
        go_ret
        exact ⟨ret_bool (decide_eq_true (rows_eq_of_getD (by rw [← HN.out, ← HM.out]) (fun j hj => HJ.out j (by rw [HN.out]; exact hj)))).symm, hx⟩
  · have hne : ((n : Int) != (m : Int)) = true := by rw [bne_iff_ne]; omega
    go_enter Tryd.func55, Tryd.ntmps55
    go_wp2
    go_ret
    exact ⟨ret_bool (decide_eq_false (fun e => hnm (by rw [HN.out, HM.out, e]))).symm, Ext.refl _⟩

theorem Dn.ext {a b : Dn} (h1 : a.next = b.next) (h2 : a.label = b.label) : a = b := by cases a; cases b; simp_all
noncomputable def eqD (a b : Dn) : Bool := @decide (a = b) (Classical.propDecidable _)
theorem eqD_iff {a b : Dn} : eqD a b = true ↔ a = b := by simp [eqD]
theorem eqD_and (a b : Dn) : eqD a b = (decide (a.next = b.next) && decide (a.label = b.label)) := by
  rw [Bool.eq_iff_iff, eqD_iff, Bool.and_eq_true, decide_eq_true_eq, decide_eq_true_eq]
  exact ⟨fun h => by rw [h]; exact ⟨rfl, rfl⟩, fun h => Dn.ext h.1 h.2⟩

theorem eqRows_b {va vb : Value} {la lb : List (List Int)} {w : World} (ha : RowsV w va la) (hb : RowsV w vb lb) {r : Bool} (hr : decide (la = lb) = r) :
    Calls Tryd.prog 55 #[va, vb] w fun e w' => e = .returned (.bool r) ∧ Ext w w' := by subst hr; exact eqRows_c ha hb

set_option maxRecDepth 100000 in
set_option maxHeartbeats 1000000 in
theorem eqDense_c {va vb : Value} {a b : Dn} {w : World} (ha : DenseV w va a) (hb : DenseV w vb b) :
    Calls Tryd.prog 16 #[va, vb] w fun e w' => e = .returned (.bool (eqD a b)) ∧ Ext w w' := by
  rw [eqD_and]
  obtain ⟨an, al, rfl, ha1, ha2⟩ := ha
  obtain ⟨bn, bl, rfl, hb1, hb2⟩ := hb
  obtain ⟨r1, hr1⟩ : ∃ r, decide (a.next = b.next) = r := ⟨_, rfl⟩
  obtain ⟨r2, hr2⟩ : ∃ r, decide (a.label = b.label) = r := ⟨_, rfl⟩
  rw [hr1, hr2]
  have HA := Lib.hid (And.intro ha1 (And.intro ha2 (And.intro hb1 hb2)))
  have HR := Lib.hid (And.intro hr1 hr2)
  clear ha1 ha2 hb1 hb2 hr1 hr2
  have hx0 := (Ext.box w (.cells #[an, al] 25)).alloc (.cells #[bn, bl] 25)
  have k0 := fun W (hx : Ext ((w.alloc (.cells #[an, al] 25)).alloc (.cells #[bn, bl] 25)) W) => hx.cell (p := ⟨w.heap.size, 1, none⟩) (v := al) (by simp)
  have k1 := fun W (hx : Ext ((w.alloc (.cells #[an, al] 25)).alloc (.cells #[bn, bl] 25)) W) => hx.cell (p := ⟨w.heap.size + 1, 1, none⟩) (v := bl) (by simp)
  have HK := Lib.hid (And.intro k0 k1)
  clear k0 k1
  cases r1
  · go_enter Tryd.func16, Tryd.ntmps16
    go_wp2_with fail
    refine (eqRows_b (RowsV.ext hx0 HA.out.1) (RowsV.ext hx0 HA.out.2.2.1) HR.out.1).mono ?_
    rintro e w1 ⟨rfl, hx1⟩
    go_wp2
    go_ret
    exact ⟨rfl, hx0.trans hx1⟩
  · go_enter Tryd.func16, Tryd.ntmps16
    go_wp2_with fail
    refine (eqRows_b (RowsV.ext hx0 HA.out.1) (RowsV.ext hx0 HA.out.2.2.1) HR.out.1).mono ?_
    rintro e w1 ⟨rfl, hx1⟩
    have j0 := HK.out.1 _ hx1
    have j1 := HK.out.2 _ hx1
    go_wp2_with fail
    refine (eqInts_b (IntsK.ext (hx0.trans hx1) HA.out.2.1) (IntsK.ext (hx0.trans hx1) HA.out.2.2.2) HR.out.2).mono ?_
    rintro e w2 ⟨rfl, hx2⟩
    go_wp2
    go_ret
    exact ⟨rfl, hx0.trans (hx1.trans hx2)⟩

theorem eqDense_b {va vb : Value} {a b : Dn} {w : World} (ha : DenseV w va a) (hb : DenseV w vb b) {r : Bool} (hr : eqD a b = r) :
    Calls Tryd.prog 16 #[va, vb] w fun e w' => e = .returned (.bool r) ∧ Ext w w' := by subst hr; exact eqDense_c ha hb
end Go.Proofs.YtloooajippcdlaaDoor
