/- bolterlaw15.RowsClasses: two bytes have one class just if all states lead to the same by both. -/
import Derived.Test.YtngbaaiocoobdaaDoorBuiltO
import Derived.Test.YtngbaaiocoobdaaDoorLMay15
namespace Go.Proofs.YtngbaaiocoobdaaDoor
open Go.RowKit

set_option maxRecDepth 100000 in
set_option maxHeartbeats 2000000 in
theorem clsLaw_c {w : World} {v : Value} {l : List Dn} (h : DensesV w v l) : Calls Tryd.prog 4 #[v] w fun e w' => e = .returned (.bool true) ∧ Ext w w' := by
  have hmay := lmay_c h
  by_cases hl : LMay l
  · rw [lmayB_true.2 hl] at hmay
    have H := Lib.hid (And.intro h (And.intro hmay hl))
    clear h hmay hl
    go_enter Tryd.func4, Tryd.ntmps4
    go_wp2_with fail
    refine H.out.2.1.mono ?_
    rintro e w1 ⟨rfl, hx1⟩
    have hbd := build_c (H.out.1.ext hx1) H.out.2.2.mayL
    have HX := Lib.hid (And.intro hx1 hbd)
    clear hx1 hbd
    go_wp2_with fail
    refine HX.out.2.mono ?_
    rintro e w4 hR
    obtain ⟨bc, oc, cc, bs, os, sc, bn, on, nc, bl, ol, lc, K, n, rfl, hn, hn1, hn6, hK, hB, hT, hx4⟩ := hR.open H.out.2.2.mayL
    clear hR
    generalize l.length = L at *
    have hmy := tmay_c (hT.ext (Ext.box w4 (.cells #[.slice (some ⟨bc, oc, none⟩) 256 cc, .int .i64 (K : Int), .slice (some ⟨bs, os, none⟩) L sc, .slice (some ⟨bn, on, none⟩) n nc, .slice (some ⟨bl, ol, none⟩) n lc] 39)))
    rw [mayT_true.2 (built_may H.out.2.2.mayL)] at hmy
    have HT := Lib.hid (And.intro hn (And.intro hB (And.intro hmy (HX.out.1.trans hx4))))
    clear hn hB hmy hT hx4
    go_wp2_with fail
    refine HT.out.2.2.1.mono ?_
    rintro e w5 ⟨rfl, hx5⟩
    have hx45 := (Ext.box w4 _).trans hx5
    have q0 := hx5.cell (p := ⟨w4.heap.size, 0, none⟩) (v := .slice (some ⟨bc, oc, none⟩) 256 cc) (by simp)
    have q3 := hx5.cell (p := ⟨w4.heap.size, 3, none⟩) (v := .slice (some ⟨bn, on, none⟩) n nc) (by simp)
    have HQ := Lib.hid (And.intro q0 (And.intro q3 (And.intro (HT.out.2.1.ext hx45) (HT.out.2.2.2.trans hx45))))
    clear q0 q3 hx5 hx45
    go_wp2
    go_loopw [5] (fun av wr => Ext w5 wr ∧ ∃ a : Nat, a ≤ 256 ∧ av = .int .i64 a) (fun av _ => 256 - (intOf av).toNat)
    case atStart => exact ⟨Ext.refl _, 0, Nat.zero_le _, rfl⟩
    case round =>
      rename World => w6
      obtain ⟨hxa, a, ha, rfl⟩ := hrel
      have HA := Lib.hid hxa
      clear hxa
      by_cases hlta : a < 256
      · go_wp2
        go_loopw [6] (fun bv wr => Ext w5 wr ∧ ∃ b : Nat, b ≤ a ∧ bv = .int .i64 b) (fun bv _ => a - (intOf bv).toNat)
        case atStart => exact ⟨HA.out, 0, Nat.zero_le _, rfl⟩
        case round =>
          rename World => w7
          obtain ⟨hxb, b, hb, rfl⟩ := hrel
          have HBB := Lib.hid hxb
          clear hxb
          by_cases hltb : b < a
          · go_wp2
            go_loopw [7, 8] (fun sv iv wr => Ext w5 wr ∧ ∃ (s : Nat) (same : Bool), s ≤ n ∧ iv = .int .i64 s ∧ sv = .bool same ∧ (same = true → ∀ j, j < s → entOf l j a = entOf l j b) ∧ (same = false → ∃ j, j < n ∧ entOf l j a ≠ entOf l j b)) (fun _ iv _ => n - (intOf iv).toNat)
            case atStart => exact ⟨HBB.out, 0, true, Nat.zero_le _, rfl, rfl, fun _ j hj => by omega, fun e => by cases e⟩
            case round =>
              rename World => w8
              obtain ⟨hxc, s, same, hs, rfl, rfl, hyes, hno⟩ := hrel
              have k0 := hxc.cell HQ.out.1
              have k3 := hxc.cell HQ.out.2.1
              have hBB := HQ.out.2.2.1.ext hxc
              have hbt : b < 256 := by omega
              have ca := hBB.cls a hlta
              have cb := hBB.cls b hbt
              have la := hBB.low a hlta
              have lb := hBB.low b hbt
              obtain ⟨ka, hka⟩ : ∃ k, k = clsOf l a := ⟨_, rfl⟩
              obtain ⟨kb, hkb⟩ : ∃ k, k = clsOf l b := ⟨_, rfl⟩
              rw [← hka] at ca la
              rw [← hkb] at cb lb
              have hj1 : (a : Int) < 256 := by omega
              have hj2 : (b : Int) < 256 := by omega
              by_cases hlt : s < n ∧ same = true
              · obtain ⟨hlt, rfl⟩ := hlt
                obtain ⟨br, ro, cr, r0, r1⟩ := hBB.row s hlt
                have ea := r1 a hlta
                have eb := r1 b hbt
                rw [← hka] at ea
                rw [← hkb] at eb
                obtain ⟨x, hx⟩ : ∃ x, x = entOf l s a := ⟨_, rfl⟩
                obtain ⟨y, hy⟩ : ∃ y, y = entOf l s b := ⟨_, rfl⟩
                rw [← hx] at ea
                rw [← hy] at eb
                have hj3 : (s : Int) < n := by omega
                have hj4 : (ka : Int) < K := by omega
                have hj5 : (kb : Int) < K := by omega
                have HC := Lib.hid (And.intro hxc (And.intro (hyes rfl) (And.intro hx hy)))
                clear hxc hyes hno hBB hka hkb r1 hx hy
                by_cases hxy : x = y
                · have hxy' : (x == y) = true := by simpa using hxy
                  have HE := Lib.hid hxy
                  clear hxy
                  go_wp2_with fail
                  go_quiet (fail)
                  go_wp2
                  go_roundw
                  case rel => exact ⟨HC.out.1.drewN _, s + 1, true, by omega, by go_num, rfl, fun _ j hj => by
                    by_cases e : j = s
                    · subst e; rw [← HC.out.2.2.1, ← HC.out.2.2.2]; exact HE.out
                    · exact HC.out.2.1 j (by omega), (fun e => by cases e)⟩
                  case measure => simp [intOf]; omega
                · have hxy' : (x == y) = false := by simpa using hxy
                  have HE := Lib.hid hxy
                  clear hxy
                  go_wp2_with fail
                  go_quiet (fail)
                  go_wp2
                  go_roundw
                  case rel => exact ⟨HC.out.1.drewN _, s + 1, false, by omega, by go_num, rfl, (fun e => by cases e), fun _ => ⟨s, hlt, by rw [← HC.out.2.2.1, ← HC.out.2.2.2]; exact HE.out⟩⟩
                  case measure => simp [intOf]; omega
              · have hsame : same = ((ka : Int) == (kb : Int)) := by
                  rw [Bool.eq_iff_iff, beq_iff_eq, hka, hkb]
                  have hcs := classes_same l hlta hbt
                  rw [← HT.out.1] at hcs
                  cases same with
                  | true =>
                    have e := hcs.1 fun j hj => hyes rfl j (by have : ¬ s < n := fun h => hlt ⟨h, rfl⟩; omega)
                    exact ⟨fun _ => by rw [e], fun _ => rfl⟩
                  | false =>
                    obtain ⟨j, hj, hne⟩ := hno rfl
                    exact ⟨fun e => (by cases e), fun e => absurd (hcs.2 (by omega) j hj) hne⟩
                have hkk := hsame.symm
                have HC := Lib.hid hxc
                clear hxc hyes hno hBB hka hkb hsame
                by_cases h1 : s < n
                · cases same
                  · have hj3 : (s : Int) < n := by omega
                    clear hlt
                    go_wp2_with fail
                    go_quiet (fail)
                    go_wp2
                    go_roundw
                    case rel => first | exact ⟨HC.out.drewN _, b + 1, by omega, by go_num⟩ | ((repeat apply Exists.intro); exact ⟨⟨HC.out.drewN _, b + 1, by omega, by go_num⟩, rfl⟩)
                    case measure => simp [intOf]; omega
                  · exact absurd ⟨h1, rfl⟩ hlt
                · obtain rfl : n = s := by omega
                  clear hlt h1 hs
                  cases same
                  · go_wp2_with fail
                    go_quiet (fail)
                    go_wp2
                    go_roundw
                    case rel => first | exact ⟨HC.out.drewN _, b + 1, by omega, by go_num⟩ | ((repeat apply Exists.intro); exact ⟨⟨HC.out.drewN _, b + 1, by omega, by go_num⟩, rfl⟩)
                    case measure => simp [intOf]; omega
                  · go_wp2_with fail
                    go_quiet (fail)
                    go_wp2
                    go_roundw
                    case rel => first | exact ⟨HC.out.drewN _, b + 1, by omega, by go_num⟩ | ((repeat apply Exists.intro); exact ⟨⟨HC.out.drewN _, b + 1, by omega, by go_num⟩, rfl⟩)
                    case measure => simp [intOf]; omega
          · obtain rfl : a = b := by omega
            go_wp2
            go_roundw
            case rel => exact ⟨HBB.out, a + 1, by omega, by go_num⟩
            case measure => simp [intOf]; omega
      · go_wp2_with fail
        refine (wakes15_c _).mono ?_
        rintro e w9 ⟨rfl, hx9⟩
        have HX9 := Lib.hid (HQ.out.2.2.2.trans (HA.out.trans hx9))
        clear hx9
        go_wp2
        go_ret
        exact ⟨rfl, HX9.out⟩
  · rw [lmayB_false hl] at hmay
    have H := Lib.hid hmay
    clear h hmay hl
    go_enter Tryd.func4, Tryd.ntmps4
    go_wp2_with fail
    refine H.out.mono ?_
    rintro e w1 ⟨rfl, hx1⟩
    go_wp2_with fail
    refine (wakes15_c w1).mono ?_
    rintro e w2 ⟨rfl, hx2⟩
    have HX := Lib.hid (hx1.trans hx2)
    clear hx1 hx2
    go_wp2
    go_ret
    exact ⟨rfl, HX.out⟩
end Go.Proofs.YtngbaaiocoobdaaDoor
