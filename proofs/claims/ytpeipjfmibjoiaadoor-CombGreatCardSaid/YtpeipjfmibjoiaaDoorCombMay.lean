/- bolterref16.May and bolterref16.Entry. -/
import Derived.Test.YtpeipjfmibjoiaaDoorCombV
namespace Go.Proofs.YtpeipjfmibjoiaaDoor
open Go.RowKit

set_option maxRecDepth 100000 in
set_option maxHeartbeats 2000000 in
theorem cmay_c {w : World} {v : Value} {C : Cmb} {k : Int} (h : CmbV w v C) : Calls Tryd.prog 28 #[v, .int .i64 k] w fun e w' => e = .returned (.bool (CB.mayC C k)) ∧ Ext w w' := by
  obtain ⟨ab, cb, ad, cd, an, cn, ac, cc, rfl, ho⟩ := h.open
  obtain ⟨n, hn⟩ : ∃ n, n = C.base.length := ⟨_, rfl⟩
  obtain ⟨dl, hdl⟩ : ∃ n, n = C.dflt.length := ⟨_, rfl⟩
  obtain ⟨m, hm⟩ : ∃ n, n = C.next.length := ⟨_, rfl⟩
  obtain ⟨cl, hcl⟩ : ∃ n, n = C.check.length := ⟨_, rfl⟩
  have g1 := ho.lb
  have g2 := ho.ld
  have g3 := ho.ln
  have g4 := ho.lc
  rw [← hn, ← hdl, ← hm, ← hcl]
  rw [← hn] at g1
  rw [← hdl] at g2
  rw [← hm] at g3
  rw [← hcl] at g4
  have hxb : Ext w (w.alloc (.cells #[.slice ab n cb, .slice ad dl cd, .slice an m cn, .slice ac cl cc] 40)) := Ext.box _ _
  have H := Lib.hid (And.intro ho (And.intro hn (And.intro hdl (And.intro hm (And.intro hcl (And.intro hxb trivial))))))
  clear h ho hn hdl hm hcl hxb
  go_enter Tryd.func28, Tryd.ntmps28
  by_cases e0 : k < 1
  · skip
    go_wp2
    go_ret
    exact ⟨ret_bool (CB.mayC_false fun hm => by have := hm.c1; omega).symm, H.out.2.2.2.2.2.1⟩
  by_cases e1 : 256 < k
  · skip
    go_wp2
    go_ret
    exact ⟨ret_bool (CB.mayC_false fun hm => by have := hm.c2; omega).symm, H.out.2.2.2.2.2.1⟩
  by_cases e2 : n < 1
  · have e2' : (n : Int) < 1 := by omega
    go_wp2
    go_ret
    exact ⟨ret_bool (CB.mayC_false fun hm => by have := hm.pos; rw [← H.out.2.1] at this; omega).symm, H.out.2.2.2.2.2.1⟩
  have e2' : ¬ (n : Int) < 1 := by omega
  by_cases e3 : 600 < n
  · have e3' : (600 : Int) < n := by omega
    go_wp2
    go_ret
    exact ⟨ret_bool (CB.mayC_false fun hm => by have := hm.most; rw [← H.out.2.1] at this; omega).symm, H.out.2.2.2.2.2.1⟩
  have e3' : ¬ (600 : Int) < n := by omega
  by_cases e5 : dl = n
  rotate_left
  · have e5' : ((dl : Int) != (n : Int)) = true := by rw [bne_iff_ne]; omega
    go_wp2
    go_ret
    exact ⟨ret_bool (CB.mayC_false fun hm => by have := hm.dlen; rw [← H.out.2.1, ← H.out.2.2.1] at this; exact e5 this).symm, H.out.2.2.2.2.2.1⟩
  by_cases e6 : cl = m
  rotate_left
  · have e5' : ((dl : Int) != (n : Int)) = false := by rw [e5]; simp
    have e6' : ((cl : Int) != (m : Int)) = true := by rw [bne_iff_ne]; omega
    have H5 := Lib.hid e5
    clear e5
    go_wp2
    go_ret
    exact ⟨ret_bool (CB.mayC_false fun hm => by have := hm.clen; rw [← H.out.2.2.2.1, ← H.out.2.2.2.2.1] at this; exact e6 this).symm, H.out.2.2.2.2.2.1⟩
  subst e5
  subst e6
  have e5' : ((dl : Int) != (dl : Int)) = false := by simp
  have e6' : ((cl : Int) != (cl : Int)) = false := by simp
  by_cases e4 : 262144 < cl
  · have e4' : (262144 : Int) < cl := by omega
    go_wp2
    go_ret
    exact ⟨ret_bool (CB.mayC_false fun hm => by have := hm.slots; rw [← H.out.2.2.2.1] at this; omega).symm, H.out.2.2.2.2.2.1⟩
  have e4' : ¬ (262144 : Int) < cl := by omega
  obtain ⟨bb, ob, rfl, cB⟩ := H.out.1.base (by have := H.out.2.1; omega)
  obtain ⟨bd, od, rfl, cD⟩ := H.out.1.dflt (by have := H.out.2.2.1; omega)
  have HB := Lib.hid (And.intro cB cD)
  clear cB cD
  go_wp2
  clear e5' e6'
  obtain ⟨w1, hwb⟩ : ∃ wb, wb = w.alloc (.cells #[.slice (some ⟨bb, ob, none⟩) dl cb, .slice (some ⟨bd, od, none⟩) dl cd, .slice an cl cn, .slice ac cl cc] 40) := ⟨_, rfl⟩
  have hxb : Ext w w1 := by rw [hwb]; exact Ext.box _ _
  have r0 : w1.cell? ⟨w.heap.size, 0, none⟩ = some (.slice (some ⟨bb, ob, none⟩) dl cb) := by rw [hwb]; simp
  have r1 : w1.cell? ⟨w.heap.size, 1, none⟩ = some (.slice (some ⟨bd, od, none⟩) dl cd) := by rw [hwb]; simp
  have r2 : w1.cell? ⟨w.heap.size, 2, none⟩ = some (.slice an cl cn) := by rw [hwb]; simp
  have r3 : w1.cell? ⟨w.heap.size, 3, none⟩ = some (.slice ac cl cc) := by rw [hwb]; simp
  rw [← hwb]
  have HX := Lib.hid (And.intro (Ext.refl w1) hxb)
  clear hwb hxb
  go_loop [7] (fun iv => ∃ i : Nat, i ≤ dl ∧ iv = .int .i64 i ∧ ∀ j, j < i → 0 ≤ C.base.getD j 0 ∧ C.base.getD j 0 ≤ 262144 ∧ -1 ≤ C.dflt.getD j 0 ∧ C.dflt.getD j 0 < j) (fun iv => dl - (intOf iv).toNat)
  case atStart => exact ⟨0, Nat.zero_le _, rfl, fun j hj => by omega⟩
  case round =>
    obtain ⟨i, hi, rfl, hst⟩ := hrel
    by_cases hlt : i < dl
    · have c1 := HX.out.2.cell (HB.out.1 i (by rw [← H.out.2.1]; exact hlt))
      have c2 := HX.out.2.cell (HB.out.2 i (by rw [← H.out.2.2.1]; exact hlt))
      obtain ⟨x, hx⟩ : ∃ x, x = C.base.getD i 0 := ⟨_, rfl⟩
      obtain ⟨y, hy⟩ : ∃ y, y = C.dflt.getD i 0 := ⟨_, rfl⟩
      rw [← hx] at c1
      rw [← hy] at c2
      have HJ := Lib.hid (And.intro hst (And.intro hx hy))
      clear hst hx hy
      have hj1 : (i : Int) < dl := by omega
      by_cases b1 : x < 0
      · go_wp2
        go_ret
        exact ⟨ret_bool (CB.mayC_false fun hm => by have := (hm.base i (by rw [← H.out.2.1]; exact hlt)).1; rw [← HJ.out.2.1] at this; omega).symm, HX.out.2⟩
      · have b1' : 0 ≤ x := by omega
        by_cases b2 : 262144 < x
        · go_wp2
          go_ret
          exact ⟨ret_bool (CB.mayC_false fun hm => by have := (hm.base i (by rw [← H.out.2.1]; exact hlt)).2.1; rw [← HJ.out.2.1] at this; omega).symm, HX.out.2⟩
        · have b2' : x ≤ 262144 := by omega
          by_cases b3 : y < -1
          · go_wp2
            go_ret
            exact ⟨ret_bool (CB.mayC_false fun hm => by have := (hm.base i (by rw [← H.out.2.1]; exact hlt)).2.2.1; rw [← HJ.out.2.2] at this; omega).symm, HX.out.2⟩
          · have b3' : -1 ≤ y := by omega
            by_cases b4 : (i : Int) ≤ y
            · go_wp2
              go_ret
              exact ⟨ret_bool (CB.mayC_false fun hm => by have := (hm.base i (by rw [← H.out.2.1]; exact hlt)).2.2.2; rw [← HJ.out.2.2] at this; omega).symm, HX.out.2⟩
            · have b4' : y < i := by omega
              go_wp2
              go_round
              case rel => exact ⟨i + 1, by omega, by go_num, fun j hj => by
                by_cases e : j = i
                · subst e; rw [← HJ.out.2.1, ← HJ.out.2.2]; exact ⟨b1', b2', b3', b4'⟩
                · exact HJ.out.1 j (by omega)⟩
              case measure => simp [intOf]; omega
    · obtain rfl : dl = i := by omega
      have HJ := Lib.hid hst
      clear hst hlt hi
      go_wp2
      go_loop [8] (fun iv => ∃ i : Nat, i ≤ cl ∧ iv = .int .i64 i ∧ ∀ j, j < i → (-1 ≤ C.check.getD j 0 ∧ C.check.getD j 0 < dl ∧ -1 ≤ C.next.getD j 0 ∧ C.next.getD j 0 < dl) ∧ (C.check.getD j 0 = -1 → C.next.getD j 0 = -1) ∧
        (0 ≤ C.check.getD j 0 → C.base.getD (C.check.getD j 0).toNat 0 ≤ j ∧ (j : Int) < C.base.getD (C.check.getD j 0).toNat 0 + k)) (fun iv => cl - (intOf iv).toNat)
      case atStart => exact ⟨0, Nat.zero_le _, rfl, fun j hj => by omega⟩
      case round =>
        obtain ⟨i, hi, rfl, hst⟩ := hrel
        by_cases hlt : i < cl
        · obtain ⟨bn, on, rfl, cN⟩ := H.out.1.next (by have := H.out.2.2.2.1; omega)
          obtain ⟨bc, oc, rfl, cC⟩ := H.out.1.check (by have := H.out.2.2.2.2.1; omega)
          have c1 := HX.out.2.cell (cC i (by rw [← H.out.2.2.2.2.1]; exact hlt))
          have c2 := HX.out.2.cell (cN i (by rw [← H.out.2.2.2.1]; exact hlt))
          obtain ⟨x, hx⟩ : ∃ x, x = C.check.getD i 0 := ⟨_, rfl⟩
          obtain ⟨y, hy⟩ : ∃ y, y = C.next.getD i 0 := ⟨_, rfl⟩
          rw [← hx] at c1
          rw [← hy] at c2
          have hj1 : (i : Int) < cl := by omega
          have HI := Lib.hid (And.intro hst (And.intro hx hy))
          have hlm : i < C.next.length := by rw [← H.out.2.2.2.1]; exact hlt
          have HLM := Lib.hid hlm
          clear hst hx hy cN cC hlm
          by_cases b1 : x < -1
          · go_wp2
            go_ret
            exact ⟨ret_bool (CB.mayC_false fun hm => by have := (hm.slot i HLM.out).1; rw [← HI.out.2.1] at this; omega).symm, HX.out.2⟩
          have b1' : -1 ≤ x := by omega
          by_cases b2 : (dl : Int) ≤ x
          · go_wp2
            go_ret
            exact ⟨ret_bool (CB.mayC_false fun hm => by have := (hm.slot i HLM.out).2.1; rw [← HI.out.2.1, ← H.out.2.1] at this; omega).symm, HX.out.2⟩
          have b2' : x < dl := by omega
          by_cases b3 : y < -1
          · go_wp2
            go_ret
            exact ⟨ret_bool (CB.mayC_false fun hm => by have := (hm.slot i HLM.out).2.2.1; rw [← HI.out.2.2] at this; omega).symm, HX.out.2⟩
          have b3' : -1 ≤ y := by omega
          by_cases b4 : (dl : Int) ≤ y
          · go_wp2
            go_ret
            exact ⟨ret_bool (CB.mayC_false fun hm => by have := (hm.slot i HLM.out).2.2.2; rw [← HI.out.2.2, ← H.out.2.1] at this; omega).symm, HX.out.2⟩
          have b4' : y < dl := by omega
          have hall : -1 ≤ C.check.getD i 0 ∧ C.check.getD i 0 < dl ∧ -1 ≤ C.next.getD i 0 ∧ C.next.getD i 0 < dl := by rw [← HI.out.2.1, ← HI.out.2.2]; exact ⟨b1', b2', b3', b4'⟩
          have HA := Lib.hid hall
          clear hall
          by_cases b5 : x = -1
          · subst b5
            have b5' : (-1 : Int) < 0 := by decide
            have b5'' : ¬ (0 : Int) ≤ -1 := by decide
            by_cases b6 : y = -1
            · subst b6
              have b6' : ((-1 : Int) != -1) = false := by decide
              go_wp2
              go_round
              case rel => exact ⟨i + 1, by omega, by go_num, fun j hj => by
                by_cases e : j = i
                · subst e; exact ⟨HA.out, fun _ => HI.out.2.2.symm, fun h0 => by rw [← HI.out.2.1] at h0; omega⟩
                · exact HI.out.1 j (by omega)⟩
              case measure => simp [intOf]; omega
            · have b6' : (y != -1) = true := by rw [bne_iff_ne]; exact b6
              have HB6 := Lib.hid b6
              clear b6
              go_wp2
              go_ret
              exact ⟨ret_bool (CB.mayC_false fun hm => by have := hm.free i HLM.out HI.out.2.1.symm; rw [← HI.out.2.2] at this; exact HB6.out this).symm, HX.out.2⟩
          · have b5' : ¬ x < 0 := by omega
            obtain ⟨s, rfl⟩ : ∃ s : Nat, x = s := ⟨x.toNat, by omega⟩
            have hs : s < dl := by omega
            have c3 := HX.out.2.cell (HB.out.1 s (by rw [← H.out.2.1]; exact hs))
            have hz := HJ.out s hs
            obtain ⟨z, hzz⟩ : ∃ z, z = C.base.getD s 0 := ⟨_, rfl⟩
            rw [← hzz] at c3 hz
            have hz0 := hz.1
            have hz1 := hz.2.1
            have HZ := Lib.hid hzz
            have b6' : (0 : Int) ≤ (s : Int) := by omega
            clear hz hzz b5
            by_cases b7 : (i : Int) < z
            · go_wp2
              go_ret
              exact ⟨ret_bool (CB.mayC_false fun hm => by have := (hm.near i HLM.out (by rw [← HI.out.2.1]; omega)).1; rw [← HI.out.2.1, Int.toNat_natCast, ← HZ.out] at this; omega).symm, HX.out.2⟩
            · have b7' : z ≤ (i : Int) := by omega
              by_cases b8 : z + k ≤ (i : Int)
              · go_wp2
                go_ret
                exact ⟨ret_bool (CB.mayC_false fun hm => by have := (hm.near i HLM.out (by rw [← HI.out.2.1]; omega)).2; rw [← HI.out.2.1, Int.toNat_natCast, ← HZ.out] at this; omega).symm, HX.out.2⟩
              · have b8' : (i : Int) < z + k := by omega
                go_wp2
                go_round
                case rel => exact ⟨i + 1, by omega, by go_num, fun j hj => by
                  by_cases e : j = i
                  · subst e; exact ⟨HA.out, fun h0 => by rw [← HI.out.2.1] at h0; omega, fun h0 => by rw [← HI.out.2.1, Int.toNat_natCast, ← HZ.out]; exact ⟨b7', b8'⟩⟩
                  · exact HI.out.1 j (by omega)⟩
                case measure => simp [intOf]; omega
        · obtain rfl : cl = i := by omega
          have HI := Lib.hid hst
          clear hst hlt hi
          have hmay : 0 ≤ C.check.getD (cl - 1) 0 ∨ cl = 0 → CB.CMay C k := fun hl => by
            refine ⟨by omega, by omega, by rw [← H.out.2.1]; omega, by rw [← H.out.2.1]; omega, by rw [← H.out.2.2.2.1]; omega, by rw [← H.out.2.1, ← H.out.2.2.1], by rw [← H.out.2.2.2.1, ← H.out.2.2.2.2.1], ?_, ?_, ?_, ?_, ?_⟩
            · intro j hj; rw [← H.out.2.1] at hj; exact HJ.out j hj
            · intro j hj; rw [← H.out.2.2.2.1] at hj; rw [← H.out.2.1]; exact (HI.out j hj).1
            · intro j hj h0; rw [← H.out.2.2.2.1] at hj; exact (HI.out j hj).2.1 h0
            · intro j hj h0; rw [← H.out.2.2.2.1] at hj; exact (HI.out j hj).2.2 h0
            · rw [← H.out.2.2.2.1]; exact hl.symm
          have HM := Lib.hid hmay
          clear hmay
          by_cases f0 : cl = 0
          · have f0' : ((cl : Int) == 0) = true := by simp; omega
            have HF := Lib.hid f0
            clear f0
            go_wp2
            go_ret
            exact ⟨ret_bool (CB.mayC_true.2 (HM.out (.inr HF.out))).symm, HX.out.2⟩
          · have f0' : ((cl : Int) == 0) = false := by simp; omega
            obtain ⟨bc, oc, rfl, cC⟩ := H.out.1.check (by have := H.out.2.2.2.2.1; omega)
            obtain ⟨q, hq⟩ : ∃ q, q = cl - 1 := ⟨_, rfl⟩
            have c1 := HX.out.2.cell (cC q (by rw [← H.out.2.2.2.2.1]; omega))
            obtain ⟨x, hx⟩ : ∃ x, x = C.check.getD q 0 := ⟨_, rfl⟩
            rw [← hx] at c1
            have hw : IntKind.i64.wrap ((cl : Int) - 1) = (q : Int) := (IntWalk.i64_in _ (by omega)).trans (by omega)
            have hw' : (cl : Int) - 1 = (q : Int) := by omega
            have hql : (q : Int) < cl := by omega
            have HQ := Lib.hid (And.intro hq hx)
            clear hq hx f0 hw cC
            by_cases hx0 : 0 ≤ x
            · go_wp2
              go_ret
              exact ⟨ret_bool (CB.mayC_true.2 (HM.out (.inl (by rw [← HQ.out.1, ← HQ.out.2]; exact hx0)))).symm, HX.out.2⟩
            · go_wp2
              go_ret
              exact ⟨ret_bool (CB.mayC_false fun hm => by
                have := hm.last
                rw [← H.out.2.2.2.1, ← HQ.out.1, ← HQ.out.2] at this
                omega).symm, HX.out.2⟩
end Go.Proofs.YtpeipjfmibjoiaaDoor
