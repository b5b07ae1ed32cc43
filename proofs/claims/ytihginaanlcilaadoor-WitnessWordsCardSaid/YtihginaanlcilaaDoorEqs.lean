/- bolterref0.EqInts and Eq: are two slices the same? -/
import Derived.Test.YtihginaanlcilaaDoorRows
import Derived.Test.YtihginaanlcilaaDoorMem
namespace Go.Proofs.YtihginaanlcilaaDoor
open Go.RowKit

theorem list_eq_of_getD {la lb : List Int} (hl : la.length = lb.length) (h : ∀ j, j < la.length → la.getD j 0 = lb.getD j 0) : la = lb := by
  refine List.ext_getElem hl fun i h1 h2 => ?_
  have := h i h1
  rw [List.getD_eq_getElem?_getD, List.getD_eq_getElem?_getD, List.getElem?_eq_getElem h1, List.getElem?_eq_getElem h2] at this
  exact this

set_option maxHeartbeats 1000000 in
theorem eqInts_c {va vb : Value} {la lb : List Int} {w : World} (ha : IntsK .i64 w va la) (hb : IntsK .i64 w vb lb) :
    Calls Tryd.prog 20 #[va, vb] w fun e w' => e = .returned (.bool (decide (la = lb))) ∧ Ext w w' := by
  obtain ⟨h1, a, ca, rfl, _, ha2⟩ := ha.open
  obtain ⟨h2, b, cb, rfl, _, hb2⟩ := hb.open
  obtain ⟨n, hn⟩ : ∃ n, n = la.length := ⟨_, rfl⟩
  obtain ⟨m, hm⟩ : ∃ m, m = lb.length := ⟨_, rfl⟩
  rw [← hn] at h1 ha2 ⊢
  rw [← hm] at h2 hb2 ⊢
  have HN := Lib.hid hn
  have HM := Lib.hid hm
  clear hn hm ha hb
  by_cases hnm : n = m
  · subst hnm
    have hne : ((n : Int) != (n : Int)) = false := by simp
    go_enter Tryd.func20, Tryd.ntmps20
    go_wp2
    go_loopw [5] (fun i wr => ∃ k : Nat, k ≤ n ∧ i = .int .i64 k ∧ (∀ j, j < k → la.getD j 0 = lb.getD j 0) ∧ Ext w wr) (fun i _ => n - (intOf i).toNat)
    case atStart => exact ⟨0, Nat.zero_le _, rfl, fun j hj => by omega, Ext.refl _⟩
    case round =>
      obtain ⟨k, hk, rfl, hj, hx⟩ := hrel
      have HJ := Lib.hid hj
      clear hj
      by_cases hlt : k < n
      · obtain ⟨ba, oa, rfl, hca⟩ := ha2 (by omega)
        obtain ⟨bb, ob, rfl, hcb⟩ := hb2 (by omega)
        have c1 := hx.cell (hca k hlt)
        have c2 := hx.cell (hcb k hlt)
        obtain ⟨x, hx0⟩ : ∃ x, x = la.getD k 0 := ⟨_, rfl⟩
        obtain ⟨y, hy0⟩ : ∃ y, y = lb.getD k 0 := ⟨_, rfl⟩
        rw [← hx0] at c1
        rw [← hy0] at c2
        have HX := Lib.hid hx0
        have HY := Lib.hid hy0
        clear hca hcb ha2 hb2 hx0 hy0
        by_cases he : x = y
        · have hee : (x != y) = false := by simp [he]
          have HE := Lib.hid he
          clear he
          go_wp2
          go_quiet (fail)
          go_wp2
          go_roundw
          case rel => exact ⟨k + 1, by omega, by go_num, fun j hj' => by
              by_cases e : j = k
              · subst e; rw [← HX.out, ← HY.out, HE.out]
              · exact HJ.out j (by omega), hx.drewN _⟩
          case measure => simp [intOf]; omega
        · have hee : (x != y) = true := by simp [he]
          have HE := Lib.hid he
          clear he
          go_wp2
          go_quiet (fail)
          go_wp2
          go_ret
          refine ⟨ret_bool (decide_eq_false fun e => ?_).symm, hx.drewN _⟩
          exact HE.out (by rw [HX.out, HY.out, e])
      · obtain rfl : n = k := by omega
        go_wp2
        go_ret
        exact ⟨ret_bool (decide_eq_true (list_eq_of_getD (by rw [← HN.out, ← HM.out]) (by rw [← HN.out]; exact HJ.out))).symm, hx⟩
  · have hne : ((n : Int) != (m : Int)) = true := by rw [bne_iff_ne]; omega
    go_enter Tryd.func20, Tryd.ntmps20
    go_wp2
    go_ret
    exact ⟨ret_bool (decide_eq_false fun e => hnm (by rw [HN.out, HM.out, e])).symm, Ext.refl _⟩

theorem eqInts_b {va vb : Value} {la lb : List Int} {w : World} (ha : IntsK .i64 w va la) (hb : IntsK .i64 w vb lb) {r : Bool} (hr : decide (la = lb) = r) :
    Calls Tryd.prog 20 #[va, vb] w fun e w' => e = .returned (.bool r) ∧ Ext w w' := by subst hr; exact eqInts_c ha hb

set_option maxHeartbeats 1000000 in
theorem eqBytes_c {va vb : Value} {la lb : List Int} {w : World} (ha : IntsK .u8 w va la) (hb : IntsK .u8 w vb lb) :
    Calls Tryd.prog 10 #[va, vb] w fun e w' => e = .returned (.bool (decide (la = lb))) ∧ Ext w w' := by
  obtain ⟨h1, a, ca, rfl, _, ha2⟩ := ha.open
  obtain ⟨h2, b, cb, rfl, _, hb2⟩ := hb.open
  obtain ⟨n, hn⟩ : ∃ n, n = la.length := ⟨_, rfl⟩
  obtain ⟨m, hm⟩ : ∃ m, m = lb.length := ⟨_, rfl⟩
  rw [← hn] at h1 ha2 ⊢
  rw [← hm] at h2 hb2 ⊢
  have HN := Lib.hid hn
  have HM := Lib.hid hm
  clear hn hm ha hb
  by_cases hnm : n = m
  · subst hnm
    have hne : ((n : Int) != (n : Int)) = false := by simp
    go_enter Tryd.func10, Tryd.ntmps10
    go_wp2
    go_loopw [5] (fun i wr => ∃ k : Nat, k ≤ n ∧ i = .int .i64 k ∧ (∀ j, j < k → la.getD j 0 = lb.getD j 0) ∧ Ext w wr) (fun i _ => n - (intOf i).toNat)
    case atStart => exact ⟨0, Nat.zero_le _, rfl, fun j hj => by omega, Ext.refl _⟩
    case round =>
      obtain ⟨k, hk, rfl, hj, hx⟩ := hrel
      have HJ := Lib.hid hj
      clear hj
      by_cases hlt : k < n
      · obtain ⟨ba, oa, rfl, hca⟩ := ha2 (by omega)
        obtain ⟨bb, ob, rfl, hcb⟩ := hb2 (by omega)
        have c1 := hx.cell (hca k hlt)
        have c2 := hx.cell (hcb k hlt)
        obtain ⟨x, hx0⟩ : ∃ x, x = la.getD k 0 := ⟨_, rfl⟩
        obtain ⟨y, hy0⟩ : ∃ y, y = lb.getD k 0 := ⟨_, rfl⟩
        rw [← hx0] at c1
        rw [← hy0] at c2
        have HX := Lib.hid hx0
        have HY := Lib.hid hy0
        clear hca hcb ha2 hb2 hx0 hy0
        by_cases he : x = y
        · have hee : (x != y) = false := by simp [he]
          have HE := Lib.hid he
          clear he
          go_wp2
          go_quiet (fail)
          go_wp2
          go_roundw
          case rel => exact ⟨k + 1, by omega, by go_num, fun j hj' => by
              by_cases e : j = k
              · subst e; rw [← HX.out, ← HY.out, HE.out]
              · exact HJ.out j (by omega), hx.drewN _⟩
          case measure => simp [intOf]; omega
        · have hee : (x != y) = true := by simp [he]
          have HE := Lib.hid he
          clear he
          go_wp2
          go_quiet (fail)
          go_wp2
          go_ret
          refine ⟨ret_bool (decide_eq_false fun e => ?_).symm, hx.drewN _⟩
          exact HE.out (by rw [HX.out, HY.out, e])
      · obtain rfl : n = k := by omega
        go_wp2
        go_ret
        exact ⟨ret_bool (decide_eq_true (list_eq_of_getD (by rw [← HN.out, ← HM.out]) (by rw [← HN.out]; exact HJ.out))).symm, hx⟩
  · have hne : ((n : Int) != (m : Int)) = true := by rw [bne_iff_ne]; omega
    go_enter Tryd.func10, Tryd.ntmps10
    go_wp2
    go_ret
    exact ⟨ret_bool (decide_eq_false fun e => hnm (by rw [HN.out, HM.out, e])).symm, Ext.refl _⟩

theorem eqBytes_b {va vb : Value} {la lb : List Int} {w : World} (ha : IntsK .u8 w va la) (hb : IntsK .u8 w vb lb) {r : Bool} (hr : decide (la = lb) = r) :
    Calls Tryd.prog 10 #[va, vb] w fun e w' => e = .returned (.bool r) ∧ Ext w w' := by subst hr; exact eqBytes_c ha hb

end Go.Proofs.YtihginaanlcilaaDoor
