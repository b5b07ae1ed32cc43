/- rows.Check: it tells of any table whether it may be. -/
import Derived.Test.YtloooajippcdlaaDoorTblV
namespace Go.Proofs.YtloooajippcdlaaDoor
open Go.RowKit

set_option maxRecDepth 100000 in
set_option maxHeartbeats 1000000 in
theorem rcheck_no {w : World} {v : Value} {T : Tbl} (h : TblV w v T) (hno : ¬ (T.classes.length = 256 ∧ TblHead T)) : Calls Tryd.prog 71 #[v] w fun e w' => e = .returned (.bool false) ∧ Ext w w' := by
  obtain ⟨ac, cc, sa, sc, an, nc, al, lc, rfl, hcl, ho⟩ := h.open
  have g1 := ho.ls
  have g2 := ho.ln
  have g3 := ho.ll
  have g4 := ho.lc
  unfold TblHead at hno
  generalize T.count = ct at *
  generalize T.starts.length = S at *
  generalize T.next.length = n at *
  generalize T.label.length = m at *
  generalize T.classes.length = C at *
  clear h ho hcl
  by_cases e0 : C = 256
  · have e0' : ((C : Int) != 256) = false := by simp; omega
    by_cases e1 : S < 1
    · have e1' : (S : Int) < 1 := by omega
      clear hno e0
      go_enter Tryd.func71, Tryd.ntmps71
      go_wp2
      go_ret
      exact ⟨rfl, Ext.box _ _⟩
    · have e1' : ¬ (S : Int) < 1 := by omega
      by_cases e2 : 16 < S
      · have e2' : (16 : Int) < S := by omega
        clear hno e0
        go_enter Tryd.func71, Tryd.ntmps71
        go_wp2
        go_ret
        exact ⟨rfl, Ext.box _ _⟩
      · have e2' : ¬ (16 : Int) < S := by omega
        by_cases e3 : n < 1
        · have e3' : (n : Int) < 1 := by omega
          clear hno e0
          go_enter Tryd.func71, Tryd.ntmps71
          go_wp2
          go_ret
          exact ⟨rfl, Ext.box _ _⟩
        · have e3' : ¬ (n : Int) < 1 := by omega
          by_cases e4 : 600 < n
          · have e4' : (600 : Int) < n := by omega
            clear hno e0
            go_enter Tryd.func71, Tryd.ntmps71
            go_wp2
            go_ret
            exact ⟨rfl, Ext.box _ _⟩
          · have e4' : ¬ (600 : Int) < n := by omega
            have e5 : m ≠ n := fun e => hno ⟨e0, by omega, by omega, by omega, by omega, e⟩
            have e5' : ((m : Int) != (n : Int)) = true := by rw [bne_iff_ne]; omega
            clear hno e5 e0
            go_enter Tryd.func71, Tryd.ntmps71
            go_wp2
            go_ret
            exact ⟨rfl, Ext.box _ _⟩
  · have e0' : ((C : Int) != 256) = true := by simp; omega
    clear hno e0
    go_enter Tryd.func71, Tryd.ntmps71
    go_wp2
    go_ret
    exact ⟨rfl, Ext.box _ _⟩

set_option maxRecDepth 100000 in
set_option maxHeartbeats 2000000 in
theorem rcheck_go {w : World} {v : Value} {T : Tbl} (h : TblV w v T) (hc : T.classes.length = 256) (hh : TblHead T) : Calls Tryd.prog 71 #[v] w fun e w' => e = .returned (.bool (mayT T)) ∧ Ext w w' := by
  obtain ⟨ac, cc, sa, sc, an, nc, al, lc, rfl, hcl, ho⟩ := h.open
  obtain ⟨_, _, _, hca, _, hco⟩ := hcl.open
  simp only [Value.slice.injEq] at hca
  obtain ⟨rfl, _, rfl⟩ := hca
  obtain ⟨h1, h2, h3, h4, h5⟩ := hh
  obtain ⟨bc, oc, rfl, hcc⟩ := hco (by omega)
  obtain ⟨bs, os, rfl, hs⟩ := ho.start (by omega)
  obtain ⟨bn, on, rfl, hn⟩ := ho.next (by omega)
  obtain ⟨bl, ol, rfl, hl⟩ := ho.label (by omega)
  rw [h5] at hl ⊢
  rw [hc] at hcc ⊢
  obtain ⟨S, hS⟩ : ∃ S, S = T.starts.length := ⟨_, rfl⟩
  obtain ⟨n, hnn⟩ : ∃ n, n = T.next.length := ⟨_, rfl⟩
  obtain ⟨ct, hct⟩ : ∃ c, c = T.count := ⟨_, rfl⟩
  rw [← hS] at h1 h2 hs ⊢
  rw [← hnn] at h3 h4 hn hl ⊢
  rw [← hct] at ⊢
  have HD := Lib.hid (And.intro hS (And.intro hnn (And.intro hct (And.intro hc (And.intro h5 (And.intro hs (And.intro hn (And.intro hl hcc))))))))
  clear h ho hcl hS hnn hct hc h5 hs hn hl hcc hco
  have e0' : ((256 : Int) != 256) = false := by simp
  have e1' : ¬ (S : Int) < 1 := by omega
  have e2' : ¬ (16 : Int) < S := by omega
  have e3' : ¬ (n : Int) < 1 := by omega
  have e4' : ¬ (600 : Int) < n := by omega
  have e5' : ((n : Int) != (n : Int)) = false := by simp
  go_enter Tryd.func71, Tryd.ntmps71
  go_wp2
  obtain ⟨wb, hwb⟩ : ∃ wb, wb = w.alloc (.cells #[.slice (some ⟨bc, oc, none⟩) 256 cc, .int .i64 ct, .slice (some ⟨bs, os, none⟩) S sc, .slice (some ⟨bn, on, none⟩) n nc, .slice (some ⟨bl, ol, none⟩) n lc] 67) := ⟨_, rfl⟩
  have hxb : Ext w wb := by rw [hwb]; exact Ext.box _ _
  have q1 : wb.cell? ⟨w.heap.size, 1, none⟩ = some (.int .i64 ct) := by rw [hwb]; simp
  have q2 : wb.cell? ⟨w.heap.size, 2, none⟩ = some (.slice (some ⟨bs, os, none⟩) S sc) := by rw [hwb]; simp
  have q3 : wb.cell? ⟨w.heap.size, 3, none⟩ = some (.slice (some ⟨bn, on, none⟩) n nc) := by rw [hwb]; simp
  have q4 : wb.cell? ⟨w.heap.size, 4, none⟩ = some (.slice (some ⟨bl, ol, none⟩) n lc) := by rw [hwb]; simp
  rw [← hwb]
  have HQ := Lib.hid (And.intro hxb (And.intro q1 (And.intro q2 (And.intro q3 q4))))
  clear hxb q1 q2 q3 q4 hwb e0' e1' e2' e3' e4' e5'
  go_loop [4, 50] (fun tv iv => ∃ i : Nat, i ≤ 256 ∧ iv = .int .i64 i ∧ tv = .int .i64 (topc T.classes i : Nat) ∧ ∀ j, j < i → 0 ≤ T.classes.getD j 0 ∧ T.classes.getD j 0 ≤ (topc T.classes j : Nat)) (fun _ iv => 256 - (intOf iv).toNat)
  case atStart => exact ⟨0, Nat.zero_le _, rfl, rfl, fun j hj => by omega⟩
  case round =>
    obtain ⟨i, hi, rfl, rfl, hst⟩ := hrel
    have htop := topc_le T.classes i
    obtain ⟨t, ht⟩ : ∃ t, t = topc T.classes i := ⟨_, rfl⟩
    rw [← ht] at htop ⊢
    by_cases hlt : i < 256
    · have c1 := HQ.out.1.cell (HD.out.2.2.2.2.2.2.2.2 i hlt)
      obtain ⟨x, hx⟩ : ∃ x, x = T.classes.getD i 0 := ⟨_, rfl⟩
      rw [← hx] at c1
      have hj1 : (i : Int) < 256 := by omega
      have HJ := Lib.hid (And.intro hst (And.intro ht hx))
      clear hst ht hx
      by_cases b1 : x < 0
      · go_wp2
        go_ret
        exact ⟨ret_bool (mayT_false fun hm => by have := (hm.cls.step i hlt).1; rw [← HJ.out.2.2] at this; omega).symm, HQ.out.1⟩
      · by_cases b2 : (t : Int) < x
        · have b1' : 0 ≤ x := by omega
          go_wp2
          go_ret
          exact ⟨ret_bool (mayT_false fun hm => by have := (hm.cls.step i hlt).2; rw [← HJ.out.2.2, ← HJ.out.2.1] at this; omega).symm, HQ.out.1⟩
        · have b1' : 0 ≤ x := by omega
          have b2' : x ≤ t := by omega
          have hst : ∀ j, j < i + 1 → 0 ≤ T.classes.getD j 0 ∧ T.classes.getD j 0 ≤ (topc T.classes j : Nat) := fun j hj => by
            by_cases e : j = i
            · subst e; rw [← HJ.out.2.2, ← HJ.out.2.1]; exact ⟨b1', b2'⟩
            · exact HJ.out.1 j (by omega)
          have HST := Lib.hid hst
          clear hst
          by_cases b3 : x = t
          · have HT := Lib.hid (topc_yes (l := T.classes) (i := i) (by rw [← HJ.out.2.2, ← HJ.out.2.1]; exact b3))
            subst b3
            go_wp2
            go_round
            case rel => exact ⟨i + 1, by omega, by go_num, by rw [HT.out, ← HJ.out.2.1]; exact congrArg (Value.int .i64) (by omega), HST.out⟩
            case measure => simp [intOf]; omega
          · have HT := Lib.hid (topc_no (l := T.classes) (i := i) (by rw [← HJ.out.2.2, ← HJ.out.2.1]; exact b3))
            have b3' : x + 1 ≤ t := by omega
            clear b3
            go_wp2
            go_round
            case rel => exact ⟨i + 1, by omega, by go_num, by rw [HT.out, ← HJ.out.2.1], HST.out⟩
            case measure => simp [intOf]; omega
    · obtain rfl : i = 256 := by omega
      have HJ := Lib.hid (And.intro hst ht)
      have k1 := HQ.out.2.1
      have k2 := HQ.out.2.2.1
      clear hst ht hlt hi
      by_cases bc : (t : Int) = ct
      · have bc' : ((t : Int) != ct) = false := by simpa using bc
        have HC := Lib.hid bc
        clear bc
        go_wp2
        clear bc' k1
        go_loop [73] (fun iv => ∃ i : Nat, i ≤ S ∧ iv = .int .i64 i ∧ ∀ j, j < i → 0 ≤ T.starts.getD j 0 ∧ T.starts.getD j 0 < n) (fun iv => S - (intOf iv).toNat)
        case atStart => exact ⟨0, Nat.zero_le _, rfl, fun j hj => by omega⟩
        case round =>
          obtain ⟨i, hi, rfl, hst⟩ := hrel
          by_cases hlt : i < S
          · have c1 := HQ.out.1.cell (HD.out.2.2.2.2.2.1 i hlt)
            obtain ⟨x, hx⟩ : ∃ x, x = T.starts.getD i 0 := ⟨_, rfl⟩
            rw [← hx] at c1
            have HS := Lib.hid (And.intro hst hx)
            clear hst hx
            have hj1 : (i : Int) < S := by omega
            by_cases b1 : x < 0
            · go_wp2
              go_ret
              exact ⟨ret_bool (mayT_false fun hm => by have := (hm.start i (by rw [← HD.out.1]; exact hlt)).1; rw [← HS.out.2] at this; omega).symm, HQ.out.1⟩
            · by_cases b2 : (n : Int) ≤ x
              · have b1' : 0 ≤ x := by omega
                go_wp2
                go_ret
                exact ⟨ret_bool (mayT_false fun hm => by have := (hm.start i (by rw [← HD.out.1]; exact hlt)).2; rw [← HS.out.2, ← HD.out.2.1] at this; omega).symm, HQ.out.1⟩
              · have b1' : 0 ≤ x := by omega
                have b2' : x < n := by omega
                go_wp2
                go_round
                case rel => exact ⟨i + 1, by omega, by go_num, fun j hj => by
                  by_cases e : j = i
                  · subst e; rw [← HS.out.2]; exact ⟨b1', b2'⟩
                  · exact HS.out.1 j (by omega)⟩
                case measure => simp [intOf]; omega
          · obtain rfl : S = i := by omega
            have HST := Lib.hid hst
            have k3 := HQ.out.2.2.2.1
            clear hst hlt hi k2
            go_wp2
            clear k3
            go_loop [88] (fun iv => ∃ i : Nat, i ≤ n ∧ iv = .int .i64 i ∧ (∀ j, j < i → ((T.next.getD j []).length : Int) = t) ∧ (∀ j, j < i → -1 ≤ T.label.getD j 0 ∧ T.label.getD j 0 < 200) ∧ ∀ j k, j < i → k < (T.next.getD j []).length → -1 ≤ (T.next.getD j []).getD k 0 ∧ (T.next.getD j []).getD k 0 < n) (fun iv => n - (intOf iv).toNat)
            case atStart => exact ⟨0, Nat.zero_le _, rfl, fun j hj => by omega, fun j hj => by omega, fun j k hj => by omega⟩
            case round =>
              obtain ⟨i, hi, rfl, hg1, hg2, hg3⟩ := hrel
              by_cases hlt : i < n
              · obtain ⟨r, hr, hrow⟩ := HD.out.2.2.2.2.2.2.1 i hlt
                obtain ⟨hm, ar, cr, rfl, _, hro⟩ := hrow.open
                have c1 := HQ.out.1.cell hr
                have c2 := HQ.out.1.cell (HD.out.2.2.2.2.2.2.2.1 i hlt)
                have k4 := HQ.out.2.2.2.2
                obtain ⟨x, hx⟩ : ∃ x, x = T.label.getD i 0 := ⟨_, rfl⟩
                obtain ⟨row, hrw⟩ : ∃ row, row = T.next.getD i [] := ⟨_, rfl⟩
                rw [← hx] at c2
                rw [← hrw] at hm hro c1
                obtain ⟨R, hR⟩ : ∃ R, R = row.length := ⟨_, rfl⟩
                rw [← hR] at hm hro c1
                have HL := Lib.hid (And.intro hg1 (And.intro hg2 (And.intro hg3 (And.intro hx (And.intro hrw (And.intro hR hro))))))
                clear hg1 hg2 hg3 hx hrw hR hro hr hrow
                have hj1 : (i : Int) < n := by omega
                by_cases b1 : R = t
                · subst b1
                  have b1' : ((R : Int) != (R : Int)) = false := by simp
                  by_cases b2 : x < -1
                  · go_wp2
                    go_ret
                    exact ⟨ret_bool (mayT_false fun hm => by have := (hm.label i (by rw [← HD.out.2.1]; exact hlt)).1; rw [← HL.out.2.2.2.1] at this; omega).symm, HQ.out.1⟩
                  · have b2' : -1 ≤ x := by omega
                    by_cases b3 : 200 ≤ x
                    · go_wp2
                      go_ret
                      exact ⟨ret_bool (mayT_false fun hm => by have := (hm.label i (by rw [← HD.out.2.1]; exact hlt)).2; rw [← HL.out.2.2.2.1] at this; omega).symm, HQ.out.1⟩
                    · have b3' : x < 200 := by omega
                      go_wp2
                      clear c1 c2 k4
                      go_loop [115] (fun qv => ∃ q : Nat, q ≤ R ∧ qv = .int .i64 q ∧ ∀ j, j < q → -1 ≤ row.getD j 0 ∧ row.getD j 0 < n) (fun qv => R - (intOf qv).toNat)
                      case atStart => exact ⟨0, Nat.zero_le _, rfl, fun j hj => by omega⟩
                      case round =>
                        obtain ⟨q, hq, rfl, hrows⟩ := hrel
                        by_cases hql : q < R
                        · obtain ⟨br, ro, rfl, hcell⟩ := HL.out.2.2.2.2.2.2 (by omega)
                          have c3 := HQ.out.1.cell (hcell q hql)
                          obtain ⟨y, hy⟩ : ∃ y, y = row.getD q 0 := ⟨_, rfl⟩
                          rw [← hy] at c3
                          have HY := Lib.hid (And.intro hy hrows)
                          clear hy hrows hcell
                          have hj2 : (q : Int) < R := by omega
                          by_cases b4 : y < -1
                          · go_wp2
                            go_ret
                            exact ⟨ret_bool (mayT_false fun hm => by have := (hm.dest i q (by rw [← HD.out.2.1]; exact hlt) (by rw [← HL.out.2.2.2.2.1, ← HL.out.2.2.2.2.2.1]; exact hql)).1; rw [← HL.out.2.2.2.2.1, ← HY.out.1] at this; omega).symm, HQ.out.1⟩
                          · have b4' : -1 ≤ y := by omega
                            by_cases b5 : (n : Int) ≤ y
                            · go_wp2
                              go_ret
                              exact ⟨ret_bool (mayT_false fun hm => by have := (hm.dest i q (by rw [← HD.out.2.1]; exact hlt) (by rw [← HL.out.2.2.2.2.1, ← HL.out.2.2.2.2.2.1]; exact hql)).2; rw [← HL.out.2.2.2.2.1, ← HY.out.1, ← HD.out.2.1] at this; omega).symm, HQ.out.1⟩
                            · have b5' : y < n := by omega
                              go_wp2
                              go_round
                              case rel => exact ⟨q + 1, by omega, by go_num, fun j hj => by
                                by_cases e : j = q
                                · subst e; rw [← HY.out.1]; exact ⟨b4', b5'⟩
                                · exact HY.out.2 j (by omega)⟩
                              case measure => simp [intOf]; omega
                        · obtain rfl : R = q := by omega
                          have HY := Lib.hid hrows
                          clear hrows hql hq
                          go_wp2
                          go_round
                          case rel => exact ⟨i + 1, by omega, by go_num, fun j hj => by
                              by_cases e : j = i
                              · subst e; rw [← HL.out.2.2.2.2.1, ← HL.out.2.2.2.2.2.1]
                              · exact HL.out.1 j (by omega), fun j hj => by
                              by_cases e : j = i
                              · subst e; rw [← HL.out.2.2.2.1]; exact ⟨b2', b3'⟩
                              · exact HL.out.2.1 j (by omega), fun j k hj hk => by
                              by_cases e : j = i
                              · subst e; rw [← HL.out.2.2.2.2.1] at hk ⊢; exact HY.out k (by rw [HL.out.2.2.2.2.2.1]; exact hk)
                              · exact HL.out.2.2.1 j k (by omega) hk⟩
                          case measure => simp [intOf]; omega
                · have b1' : ((R : Int) != (t : Int)) = true := by rw [bne_iff_ne]; omega
                  have HB := Lib.hid b1
                  clear b1
                  go_wp2
                  go_ret
                  exact ⟨ret_bool (mayT_false fun hm => by have := hm.row i (by rw [← HD.out.2.1]; exact hlt); rw [← HL.out.2.2.2.2.1, ← HD.out.2.2.1, ← HL.out.2.2.2.2.2.1, ← HC.out] at this; exact HB.out (by omega)).symm, HQ.out.1⟩
              · obtain rfl : n = i := by omega
                have HL := Lib.hid (And.intro hg1 (And.intro hg2 hg3))
                clear hg1 hg2 hg3 hlt hi
                go_wp2
                go_ret
                exact ⟨ret_bool (mayT_true.2 ⟨⟨HD.out.2.2.2.1, HJ.out.1, by rw [← HJ.out.2, ← HD.out.2.2.1]; exact HC.out⟩, by rw [← HD.out.1]; exact h1, by rw [← HD.out.1]; exact h2, by rw [← HD.out.2.1]; exact h3, by rw [← HD.out.2.1]; exact h4, HD.out.2.2.2.2.1, fun j hj => by rw [← HD.out.2.1]; exact HST.out j (by rw [HD.out.1]; exact hj), fun j hj => by rw [← HD.out.2.2.1, ← HC.out]; exact HL.out.1 j (by rw [HD.out.2.1]; exact hj), fun j hj => HL.out.2.1 j (by rw [HD.out.2.1]; exact hj), fun j k hj hk => by rw [← HD.out.2.1]; exact HL.out.2.2 j k (by rw [HD.out.2.1]; exact hj) hk⟩).symm, HQ.out.1⟩
      · have bc' : ((t : Int) != ct) = true := by simpa using bc
        have HC := Lib.hid bc
        clear bc
        go_wp2
        go_ret
        exact ⟨ret_bool (mayT_false fun hm => HC.out (by rw [HJ.out.2, HD.out.2.2.1]; exact hm.cls.all)).symm, HQ.out.1⟩

theorem rcheck_c {w : World} {v : Value} {T : Tbl} (h : TblV w v T) : Calls Tryd.prog 71 #[v] w fun e w' => e = .returned (.bool (mayT T)) ∧ Ext w w' := by
  by_cases hc : T.classes.length = 256 ∧ TblHead T
  · exact rcheck_go h hc.1 hc.2
  · rw [mayT_false fun hm => hc ⟨hm.cls.len, hm.head⟩]
    exact rcheck_no h hc
end Go.Proofs.YtloooajippcdlaaDoor
