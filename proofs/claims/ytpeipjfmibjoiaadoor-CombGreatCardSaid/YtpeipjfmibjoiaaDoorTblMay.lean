/- bolterref15.May: it tells of any table whether it may be. -/
import Derived.Test.YtpeipjfmibjoiaaDoorTbl
namespace Go.Proofs.YtpeipjfmibjoiaaDoor
open Go.RowKit

/-- what is asked ahead of the loops -/
def TblHead (T : Tbl) : Prop := 1 ≤ T.starts.length ∧ T.starts.length ≤ 16 ∧ 1 ≤ T.next.length ∧ T.next.length ≤ 600 ∧ T.label.length = T.next.length
theorem TMay.head {T : Tbl} (h : TMay T) : TblHead T := ⟨h.some, h.many, h.pos, h.most, h.labels⟩

set_option maxRecDepth 100000 in
set_option maxHeartbeats 1000000 in
theorem tmay_no {w : World} {v : Value} {T : Tbl} (h : TblV w v T) (hno : ¬ (clsB T.classes T.count = true ∧ TblHead T)) : Calls Tryd.prog 20 #[v] w fun e w' => e = .returned (.bool false) ∧ Ext w w' := by
  obtain ⟨ac, cc, sa, sc, an, nc, al, lc, rfl, hcl, ho⟩ := h.open
  have hm := mcls_c (ct := T.count) (IntsK.ext (Ext.box w (.cells #[.slice ac T.classes.length cc, .int .i64 T.count, .slice sa T.starts.length sc, .slice an T.next.length nc, .slice al T.label.length lc] 37)) hcl)
  have g1 := ho.ls
  have g2 := ho.ln
  have g3 := ho.ll
  unfold TblHead at hno
  generalize T.count = ct at *
  generalize T.starts.length = S at *
  generalize T.next.length = n at *
  generalize T.label.length = m at *
  generalize T.classes.length = C at *
  obtain ⟨b, hb⟩ : ∃ b, b = clsB T.classes ct := ⟨_, rfl⟩
  rw [← hb] at hm hno
  have HM := Lib.hid hm
  clear hm h ho hb hcl
  cases b
  · clear hno
    go_enter Tryd.func20, Tryd.ntmps20
    go_wp2_with fail
    refine HM.out.mono ?_
    rintro e w1 ⟨rfl, rfl⟩
    go_wp2
    go_ret
    exact ⟨rfl, Ext.box _ _⟩
  · by_cases e1 : S < 1
    · have e1' : (S : Int) < 1 := by omega
      clear hno
      go_enter Tryd.func20, Tryd.ntmps20
      go_wp2_with fail
      refine HM.out.mono ?_
      rintro e w1 ⟨rfl, rfl⟩
      go_wp2
      go_ret
      exact ⟨rfl, Ext.box _ _⟩
    · have e1' : ¬ (S : Int) < 1 := by omega
      by_cases e2 : 16 < S
      · have e2' : (16 : Int) < S := by omega
        clear hno
        go_enter Tryd.func20, Tryd.ntmps20
        go_wp2_with fail
        refine HM.out.mono ?_
        rintro e w1 ⟨rfl, rfl⟩
        go_wp2
        go_ret
        exact ⟨rfl, Ext.box _ _⟩
      · have e2' : ¬ (16 : Int) < S := by omega
        by_cases e3 : n < 1
        · have e3' : (n : Int) < 1 := by omega
          clear hno
          go_enter Tryd.func20, Tryd.ntmps20
          go_wp2_with fail
          refine HM.out.mono ?_
          rintro e w1 ⟨rfl, rfl⟩
          go_wp2
          go_ret
          exact ⟨rfl, Ext.box _ _⟩
        · have e3' : ¬ (n : Int) < 1 := by omega
          by_cases e4 : 600 < n
          · have e4' : (600 : Int) < n := by omega
            clear hno
            go_enter Tryd.func20, Tryd.ntmps20
            go_wp2_with fail
            refine HM.out.mono ?_
            rintro e w1 ⟨rfl, rfl⟩
            go_wp2
            go_ret
            exact ⟨rfl, Ext.box _ _⟩
          · have e4' : ¬ (600 : Int) < n := by omega
            have e5 : m ≠ n := fun e => hno ⟨rfl, by omega, by omega, by omega, by omega, e⟩
            have e5' : ((m : Int) != (n : Int)) = true := by rw [bne_iff_ne]; omega
            clear hno e5
            go_enter Tryd.func20, Tryd.ntmps20
            go_wp2_with fail
            refine HM.out.mono ?_
            rintro e w1 ⟨rfl, rfl⟩
            go_wp2
            go_ret
            exact ⟨rfl, Ext.box _ _⟩

set_option maxRecDepth 100000 in
set_option maxHeartbeats 2000000 in
theorem tmay_go {w : World} {v : Value} {T : Tbl} (h : TblV w v T) (hc : ClsOk T.classes T.count) (hh : TblHead T) : Calls Tryd.prog 20 #[v] w fun e w' => e = .returned (.bool (mayT T)) ∧ Ext w w' := by
  obtain ⟨ac, cc, sa, sc, an, nc, al, lc, rfl, hcl, ho⟩ := h.open
  have hm := mcls_c (ct := T.count) (IntsK.ext (Ext.box w (.cells #[.slice ac T.classes.length cc, .int .i64 T.count, .slice sa T.starts.length sc, .slice an T.next.length nc, .slice al T.label.length lc] 37)) hcl)
  rw [clsB_true.2 hc] at hm
  obtain ⟨h1, h2, h3, h4, h5⟩ := hh
  obtain ⟨bs, os, rfl, hs⟩ := ho.start (by omega)
  obtain ⟨bn, on, rfl, hn⟩ := ho.next (by omega)
  obtain ⟨bl, ol, rfl, hl⟩ := ho.label (by omega)
  rw [h5] at hl hm ⊢
  obtain ⟨S, hS⟩ : ∃ S, S = T.starts.length := ⟨_, rfl⟩
  obtain ⟨n, hnn⟩ : ∃ n, n = T.next.length := ⟨_, rfl⟩
  obtain ⟨ct, hct⟩ : ∃ c, c = T.count := ⟨_, rfl⟩
  rw [← hS] at h1 h2 hs hm ⊢
  rw [← hnn] at h3 h4 hn hl hm ⊢
  rw [← hct] at hm ⊢
  generalize T.classes.length = C at *
  have HD := Lib.hid (And.intro hS (And.intro hnn (And.intro hct (And.intro hc (And.intro h5 (And.intro hs (And.intro hn hl)))))))
  have HM := Lib.hid hm
  clear hm h ho hcl hS hnn hct hc h5 hs hn hl
  have e1' : ¬ (S : Int) < 1 := by omega
  have e2' : ¬ (16 : Int) < S := by omega
  have e3' : ¬ (n : Int) < 1 := by omega
  have e4' : ¬ (600 : Int) < n := by omega
  have e5' : ((n : Int) != (n : Int)) = false := by simp
  go_enter Tryd.func20, Tryd.ntmps20
  go_wp2_with fail
  refine HM.out.mono ?_
  rintro e w1 ⟨rfl, rfl⟩
  go_wp2
  obtain ⟨wb, hwb⟩ : ∃ wb, wb = w.alloc (.cells #[.slice ac C cc, .int .i64 ct, .slice (some ⟨bs, os, none⟩) S sc, .slice (some ⟨bn, on, none⟩) n nc, .slice (some ⟨bl, ol, none⟩) n lc] 37) := ⟨_, rfl⟩
  have hxb : Ext w wb := by rw [hwb]; exact Ext.box _ _
  have q1 : wb.cell? ⟨w.heap.size, 1, none⟩ = some (.int .i64 ct) := by rw [hwb]; simp
  have q2 : wb.cell? ⟨w.heap.size, 2, none⟩ = some (.slice (some ⟨bs, os, none⟩) S sc) := by rw [hwb]; simp
  have q3 : wb.cell? ⟨w.heap.size, 3, none⟩ = some (.slice (some ⟨bn, on, none⟩) n nc) := by rw [hwb]; simp
  have q4 : wb.cell? ⟨w.heap.size, 4, none⟩ = some (.slice (some ⟨bl, ol, none⟩) n lc) := by rw [hwb]; simp
  rw [← hwb]
  have HQ := Lib.hid (And.intro hxb (And.intro q1 (And.intro q2 (And.intro q3 q4))))
  clear hxb q1 q2 q3 q4 hwb e1' e2' e3' e4' e5'
  go_loopw [4] (fun iv wr => wr = wb ∧ ∃ i : Nat, i ≤ S ∧ iv = .int .i64 i ∧ ∀ j, j < i → 0 ≤ T.starts.getD j 0 ∧ T.starts.getD j 0 < n) (fun iv _ => S - (intOf iv).toNat)
  case atStart => exact ⟨rfl, 0, Nat.zero_le _, rfl, fun j hj => by omega⟩
  case round =>
    obtain ⟨rfl, i, hi, rfl, hst⟩ := hrel
    have k2 := HQ.out.2.2.1
    by_cases hlt : i < S
    · have c1 := HQ.out.1.cell (HD.out.2.2.2.2.2.1 i hlt)
      obtain ⟨x, hx⟩ : ∃ x, x = T.starts.getD i 0 := ⟨_, rfl⟩
      rw [← hx] at c1
      have HJ := Lib.hid (And.intro hst hx)
      clear hst hx
      have hj1 : (i : Int) < S := by omega
      by_cases b1 : x < 0
      · go_wp2
        go_ret
        exact ⟨ret_bool (mayT_false fun hm => by have := (hm.start i (by rw [← HD.out.1]; exact hlt)).1; rw [← HJ.out.2] at this; omega).symm, HQ.out.1⟩
      · by_cases b2 : (n : Int) ≤ x
        · have b1' : 0 ≤ x := by omega
          go_wp2
          go_ret
          exact ⟨ret_bool (mayT_false fun hm => by have := (hm.start i (by rw [← HD.out.1]; exact hlt)).2; rw [← HJ.out.2, ← HD.out.2.1] at this; omega).symm, HQ.out.1⟩
        · have b1' : 0 ≤ x := by omega
          have b2' : x < n := by omega
          go_wp2
          go_roundw
          case rel => exact ⟨trivial, i + 1, by omega, by go_num, fun j hj => by
            by_cases e : j = i
            · subst e; rw [← HJ.out.2]; exact ⟨b1', b2'⟩
            · exact HJ.out.1 j (by omega)⟩
          case measure => simp [intOf]; omega
    · obtain rfl : S = i := by omega
      have HST := Lib.hid hst
      clear hst hlt hi
      go_wp2
      clear k2
      obtain ⟨wb, rfl⟩ : ∃ z : World, z = wr := ⟨_, rfl⟩
      go_loopw [5] (fun iv wr2 => Ext wb wr2 ∧ ∃ i : Nat, i ≤ n ∧ iv = .int .i64 i ∧ (∀ j, j < i → ((T.next.getD j []).length : Int) = ct) ∧ (∀ j, j < i → -1 ≤ T.label.getD j 0 ∧ T.label.getD j 0 < 200) ∧ ∀ j k, j < i → k < (T.next.getD j []).length → -1 ≤ (T.next.getD j []).getD k 0 ∧ (T.next.getD j []).getD k 0 < n) (fun iv _ => n - (intOf iv).toNat)
      case atStart => exact ⟨Ext.refl _, 0, Nat.zero_le _, rfl, fun j hj => by omega, fun j hj => by omega, fun j k hj => by omega⟩
      case round =>
        rename World => wr2
        obtain ⟨hx2, i, hi, rfl, hg1, hg2, hg3⟩ := hrel
        by_cases hlt : i < n
        · obtain ⟨r, hr, hrow⟩ := HD.out.2.2.2.2.2.2.1 i hlt
          obtain ⟨hm, ar, cr, rfl, _, hro⟩ := hrow.open
          have hxw := HQ.out.1.trans hx2
          have c1 := hxw.cell hr
          have c2 := hxw.cell (HD.out.2.2.2.2.2.2.2 i hlt)
          have k1 := hx2.cell HQ.out.2.1
          have k3 := hx2.cell HQ.out.2.2.2.1
          have k4 := hx2.cell HQ.out.2.2.2.2
          obtain ⟨x, hx⟩ : ∃ x, x = T.label.getD i 0 := ⟨_, rfl⟩
          obtain ⟨row, hrw⟩ : ∃ row, row = T.next.getD i [] := ⟨_, rfl⟩
          rw [← hx] at c2
          rw [← hrw] at hm hro c1 hr
          obtain ⟨R, hR⟩ : ∃ R, R = row.length := ⟨_, rfl⟩
          rw [← hR] at hm hro c1 hr
          have HJ := Lib.hid (And.intro hx2 (And.intro hg1 (And.intro hg2 (And.intro hg3 (And.intro hx (And.intro hrw (And.intro hR (And.intro hxw (And.intro hro hr)))))))))
          clear hx2 hg1 hg2 hg3 hx hrw hR hxw hro hr hrow
          have hj1 : (i : Int) < n := by omega
          by_cases b1 : (R : Int) = ct
          · have b1' : ((R : Int) != ct) = false := by simpa using b1
            have HB := Lib.hid b1
            clear b1
            by_cases b2 : x < -1
            · have b2' : decide (x < -1) = true := by simpa using b2
              go_wp2_with fail
              go_quiet (fail)
              go_wp2
              go_ret
              exact ⟨ret_bool (mayT_false fun hm => by have := (hm.label i (by rw [← HD.out.2.1]; exact hlt)).1; rw [← HJ.out.2.2.2.2.1] at this; omega).symm, HJ.out.2.2.2.2.2.2.2.1.drewN _⟩
            · by_cases b3 : 200 ≤ x
              · have b2' : decide (x < -1) = false := by simpa using b2
                have b3' : decide (200 ≤ x) = true := by simpa using b3
                go_wp2_with fail
                go_quiet (fail)
                go_wp2
                go_ret
                exact ⟨ret_bool (mayT_false fun hm => by have := (hm.label i (by rw [← HD.out.2.1]; exact hlt)).2; rw [← HJ.out.2.2.2.2.1] at this; omega).symm, HJ.out.2.2.2.2.2.2.2.1.drewN _⟩
              · have b2' : decide (x < -1) = false := by simpa using b2
                have b3' : decide (200 ≤ x) = false := by simpa using b3
                have b2'' : -1 ≤ x := by omega
                have b3'' : x < 200 := by omega
                go_wp2_with fail
                go_quiet (fail)
                go_wp2
                obtain ⟨W2, hW2⟩ : ∃ W2, W2 = wr2.drewN nq := ⟨_, rfl⟩
                have hxi := HJ.out.1.drewN nq
                rw [← hW2] at hxi ⊢
                have HX2 := Lib.hid hxi
                clear hxi hW2 k1 k3 k4 c1 c2 b2' b3'
                go_loopw [6] (fun qv wi => Ext wb wi ∧ ∃ q : Nat, q ≤ R ∧ qv = .int .i64 q ∧ ∀ j, j < q → -1 ≤ row.getD j 0 ∧ row.getD j 0 < n) (fun qv _ => R - (intOf qv).toNat)
                case atStart => exact ⟨HX2.out, 0, Nat.zero_le _, rfl, fun j hj => by omega⟩
                case round =>
                  rename World => wi
                  obtain ⟨hxi, q, hq, rfl, hrows⟩ := hrel
                  have k3 := hxi.cell HQ.out.2.2.2.1
                  have hxw3 := HQ.out.1.trans hxi
                  have c1 := hxw3.cell HJ.out.2.2.2.2.2.2.2.2.2
                  by_cases hql : q < R
                  · obtain ⟨br, ro, rfl, hcell⟩ := HJ.out.2.2.2.2.2.2.2.2.1 (by omega)
                    have c3 := hxw3.cell (hcell q hql)
                    obtain ⟨y, hy⟩ : ∃ y, y = row.getD q 0 := ⟨_, rfl⟩
                    rw [← hy] at c3
                    have HY := Lib.hid (And.intro hy (And.intro hrows (And.intro hxi hxw3)))
                    clear hy hrows hcell hxi hxw3
                    have hj2 : (q : Int) < R := by omega
                    by_cases b4 : y < -1
                    · go_wp2
                      go_ret
                      exact ⟨ret_bool (mayT_false fun hm => by have := (hm.dest i q (by rw [← HD.out.2.1]; exact hlt) (by rw [← HJ.out.2.2.2.2.2.1, ← HJ.out.2.2.2.2.2.2.1]; exact hql)).1; rw [← HJ.out.2.2.2.2.2.1, ← HY.out.1] at this; omega).symm, HY.out.2.2.2⟩
                    · by_cases b5 : (n : Int) ≤ y
                      · have b4' : -1 ≤ y := by omega
                        go_wp2
                        go_ret
                        exact ⟨ret_bool (mayT_false fun hm => by have := (hm.dest i q (by rw [← HD.out.2.1]; exact hlt) (by rw [← HJ.out.2.2.2.2.2.1, ← HJ.out.2.2.2.2.2.2.1]; exact hql)).2; rw [← HJ.out.2.2.2.2.2.1, ← HY.out.1, ← HD.out.2.1] at this; omega).symm, HY.out.2.2.2⟩
                      · have b4' : -1 ≤ y := by omega
                        have b5' : y < n := by omega
                        go_wp2
                        go_roundw
                        case rel => exact ⟨HY.out.2.2.1, q + 1, by omega, by go_num, fun j hj => by
                          by_cases e : j = q
                          · subst e; rw [← HY.out.1]; exact ⟨b4', b5'⟩
                          · exact HY.out.2.1 j (by omega)⟩
                        case measure => simp [intOf]; omega
                  · obtain rfl : R = q := by omega
                    have HY := Lib.hid (And.intro hrows hxi)
                    clear hrows hxi hxw3 hql hq
                    go_wp2
                    go_roundw
                    case rel => exact ⟨HY.out.2, i + 1, by omega, by go_num, fun j hj => by
                        by_cases e : j = i
                        · subst e; rw [← HJ.out.2.2.2.2.2.1, ← HJ.out.2.2.2.2.2.2.1]; exact HB.out
                        · exact HJ.out.2.1 j (by omega), fun j hj => by
                        by_cases e : j = i
                        · subst e; rw [← HJ.out.2.2.2.2.1]; exact ⟨b2'', b3''⟩
                        · exact HJ.out.2.2.1 j (by omega), fun j k hj hk => by
                        by_cases e : j = i
                        · subst e; rw [← HJ.out.2.2.2.2.2.1] at hk ⊢; exact HY.out.1 k (by rw [HJ.out.2.2.2.2.2.2.1]; exact hk)
                        · exact HJ.out.2.2.2.1 j k (by omega) hk⟩
                    case measure => simp [intOf]; omega
          · have b1' : ((R : Int) != ct) = true := by simpa using b1
            have HB := Lib.hid b1
            clear b1
            go_wp2_with fail
            go_quiet (fail)
            go_wp2
            go_ret
            exact ⟨ret_bool (mayT_false fun hm => by have := hm.row i (by rw [← HD.out.2.1]; exact hlt); rw [← HJ.out.2.2.2.2.2.1, ← HD.out.2.2.1, ← HJ.out.2.2.2.2.2.2.1] at this; exact HB.out this).symm, HJ.out.2.2.2.2.2.2.2.1.drewN _⟩
        · obtain rfl : n = i := by omega
          have HJ := Lib.hid (And.intro hx2 (And.intro hg1 (And.intro hg2 hg3)))
          clear hx2 hg1 hg2 hg3 hlt hi
          go_wp2
          go_ret
          exact ⟨ret_bool (mayT_true.2 ⟨HD.out.2.2.2.1, by rw [← HD.out.1]; exact h1, by rw [← HD.out.1]; exact h2, by rw [← HD.out.2.1]; exact h3, by rw [← HD.out.2.1]; exact h4, HD.out.2.2.2.2.1, fun j hj => by rw [← HD.out.2.1]; exact HST.out j (by rw [HD.out.1]; exact hj), fun j hj => by rw [← HD.out.2.2.1]; exact HJ.out.2.1 j (by rw [HD.out.2.1]; exact hj), fun j hj => HJ.out.2.2.1 j (by rw [HD.out.2.1]; exact hj), fun j k hj hk => by rw [← HD.out.2.1]; exact HJ.out.2.2.2 j k (by rw [HD.out.2.1]; exact hj) hk⟩).symm, HQ.out.1.trans HJ.out.1⟩

theorem tmay_c {w : World} {v : Value} {T : Tbl} (h : TblV w v T) : Calls Tryd.prog 20 #[v] w fun e w' => e = .returned (.bool (mayT T)) ∧ Ext w w' := by
  by_cases hc : clsB T.classes T.count = true ∧ TblHead T
  · exact tmay_go h (clsB_true.1 hc.1) hc.2
  · rw [mayT_false fun hm => hc ⟨clsB_true.2 hm.cls, hm.head⟩]
    exact tmay_no h hc
end Go.Proofs.YtpeipjfmibjoiaaDoor
