/- Combs in memory; comb.Check tells of any comb whether it may be. -/
import Derived.Test.YtpeipjfmibjoiaaDoorCombMath
import Derived.Deep.QuietTactic
import Derived.BigQuiet
namespace Go.Proofs.YtpeipjfmibjoiaaDoor
open Go.RowKit

def CmbV (w : World) (v : Value) (C : Cmb) : Prop :=
  ∃ bv dv nv cv, v = .agg #[bv, dv, nv, cv] ∧ Ints w bv C.base ∧ Ints w dv C.dflt ∧ Ints w nv C.next ∧ Ints w cv C.check
theorem CmbV.ext {w w' : World} {v : Value} {C : Cmb} (h : CmbV w v C) (hx : Ext w w') : CmbV w' v C := by
  obtain ⟨cv, sv, nv, lv, h1, h2, h3, h4, h5⟩ := h
  exact ⟨cv, sv, nv, lv, h1, IntsK.ext hx h2, IntsK.ext hx h3, IntsK.ext hx h4, IntsK.ext hx h5⟩

/-- the places of a slice of ints -/
def At (w : World) (a : Option Addr) (l : List Int) : Prop := 0 < l.length → ∃ b o, a = some ⟨b, o, none⟩ ∧ ∀ i, i < l.length → w.cell? ⟨b, o + i, none⟩ = some (.int .i64 (l.getD i 0))
structure CmbO (w : World) (ab ad an ac : Option Addr) (C : Cmb) : Prop where
  lb : C.base.length ≤ 140737488355328
  ld : C.dflt.length ≤ 140737488355328
  ln : C.next.length ≤ 140737488355328
  lc : C.check.length ≤ 140737488355328
  base : At w ab C.base
  dflt : At w ad C.dflt
  next : At w an C.next
  check : At w ac C.check
theorem CmbV.open {w : World} {v : Value} {C : Cmb} (h : CmbV w v C) : ∃ ab cb ad cd an cn ac cc, v = .agg #[.slice ab C.base.length cb, .slice ad C.dflt.length cd, .slice an C.next.length cn, .slice ac C.check.length cc] ∧ CmbO w ab ad an ac C := by
  obtain ⟨cv, sv, nv, lv, rfl, h2, h3, h4, h5⟩ := h
  obtain ⟨e1, ac, cc, rfl, _, g1⟩ := IntsK.open h2
  obtain ⟨e2, sa, sc, rfl, _, g2⟩ := IntsK.open h3
  obtain ⟨e3, an, nc, rfl, _, g3⟩ := IntsK.open h4
  obtain ⟨e4, al, lc, rfl, _, g4⟩ := IntsK.open h5
  exact ⟨_, _, _, _, _, _, _, _, rfl, ⟨e1, e2, e3, e4, g1, g2, g3, g4⟩⟩

set_option maxRecDepth 100000 in
set_option maxHeartbeats 2000000 in
theorem ccheck_c {w : World} {v : Value} {C : Cmb} {k : Int} (h : CmbV w v C) : Calls Tryd.prog 24 #[v, .int .i64 k] w fun e w' => e = .returned (.bool (CB.mayC C k)) ∧ Ext w w' := by
  obtain ⟨ab, cb, ad, cd, an, cn, ac, cc, rfl, ho⟩ := h.open
  obtain ⟨n, hn⟩ : ∃ n, n = C.base.length := ⟨_, rfl⟩
  obtain ⟨dl, hdl⟩ : ∃ n, n = C.dflt.length := ⟨_, rfl⟩
  obtain ⟨m, hm⟩ : ∃ n, n = C.next.length := ⟨_, rfl⟩
  obtain ⟨cl, hcl⟩ : ∃ n, n = C.check.length := ⟨_, rfl⟩
  have g1 := ho.lb
  have g2 := ho.ld
  have g3 := ho.ln
  have g4 := ho.lc
  rw [← hn, ← hdl, ← hm, ← hcl]
  rw [← hn] at g1
  rw [← hdl] at g2
  rw [← hm] at g3
  rw [← hcl] at g4
  obtain ⟨wb, hwb⟩ : ∃ wb, wb = w.alloc (.cells #[.slice ab n cb, .slice ad dl cd, .slice an m cn, .slice ac cl cc] 40) := ⟨_, rfl⟩
  have hxb : Ext w wb := by rw [hwb]; exact Ext.box _ _
  have q0 : wb.cell? ⟨w.heap.size, 0, none⟩ = some (.slice ab n cb) := by rw [hwb]; simp
  have q1 : wb.cell? ⟨w.heap.size, 1, none⟩ = some (.slice ad dl cd) := by rw [hwb]; simp
  have q2 : wb.cell? ⟨w.heap.size, 2, none⟩ = some (.slice an m cn) := by rw [hwb]; simp
  have q3 : wb.cell? ⟨w.heap.size, 3, none⟩ = some (.slice ac cl cc) := by rw [hwb]; simp
  have H := Lib.hid (And.intro ho (And.intro hn (And.intro hdl (And.intro hm (And.intro hcl (And.intro hxb hwb))))))
  clear h ho hn hdl hm hcl hwb hxb
  go_enter Tryd.func24, Tryd.ntmps24
  go_wp2_with fail
  rw [← H.out.2.2.2.2.2.2]
  go_quiet (fail)
  obtain ⟨w1, hw1⟩ : ∃ z, z = wb.drewN nq := ⟨_, rfl⟩
  rw [← hw1]
  have hx1 : Ext wb w1 := by rw [hw1]; exact (Ext.refl _).drewN _
  have r0 := hx1.cell q0
  have r1 := hx1.cell q1
  have r2 := hx1.cell q2
  have r3 := hx1.cell q3
  have HX := Lib.hid (And.intro hx1 (H.out.2.2.2.2.2.1.trans hx1))
  clear hx1 hw1 q0 q1 q2 q3
  by_cases e0 : k < 1
  · go_wp2
    go_ret
    exact ⟨ret_bool (CB.mayC_false fun hm => by have := hm.c1; omega).symm, HX.out.2⟩
  by_cases e1 : 256 < k
  · go_wp2
    go_ret
    exact ⟨ret_bool (CB.mayC_false fun hm => by have := hm.c2; omega).symm, HX.out.2⟩
  by_cases e2 : n < 1
  · have e2' : (n : Int) < 1 := by omega
    go_wp2
    go_ret
    exact ⟨ret_bool (CB.mayC_false fun hm => by have := hm.pos; rw [← H.out.2.1] at this; omega).symm, HX.out.2⟩
  have e2' : ¬ (n : Int) < 1 := by omega
  by_cases e3 : 600 < n
  · have e3' : (600 : Int) < n := by omega
    go_wp2
    go_ret
    exact ⟨ret_bool (CB.mayC_false fun hm => by have := hm.most; rw [← H.out.2.1] at this; omega).symm, HX.out.2⟩
  have e3' : ¬ (600 : Int) < n := by omega
  by_cases e4 : 262144 < m
  · have e4' : (262144 : Int) < m := by omega
    go_wp2
    go_ret
    exact ⟨ret_bool (CB.mayC_false fun hm => by have := hm.slots; rw [← H.out.2.2.2.1] at this; omega).symm, HX.out.2⟩
  have e4' : ¬ (262144 : Int) < m := by omega
  by_cases e5 : dl = n
  rotate_left
  · have e5' : ((dl : Int) != (n : Int)) = true := by rw [bne_iff_ne]; omega
    go_wp2
    go_ret
    exact ⟨ret_bool (CB.mayC_false fun hm => by have := hm.dlen; rw [← H.out.2.1, ← H.out.2.2.1] at this; exact e5 this).symm, HX.out.2⟩
  by_cases e6 : cl = m
  rotate_left
  · have e5' : ((dl : Int) != (n : Int)) = false := by rw [e5]; simp
    have e6' : ((cl : Int) != (m : Int)) = true := by rw [bne_iff_ne]; omega
    have H5 := Lib.hid e5
    clear e5
    go_wp2
    go_ret
    exact ⟨ret_bool (CB.mayC_false fun hm => by have := hm.clen; rw [← H.out.2.2.2.1, ← H.out.2.2.2.2.1] at this; exact e6 this).symm, HX.out.2⟩
  subst e5
  subst e6
  have e5' : ((dl : Int) != (dl : Int)) = false := by simp
  have e6' : ((cl : Int) != (cl : Int)) = false := by simp
  obtain ⟨bb, ob, rfl, cB⟩ := H.out.1.base (by have := H.out.2.1; omega)
  obtain ⟨bd, od, rfl, cD⟩ := H.out.1.dflt (by have := H.out.2.2.1; omega)
  have HB := Lib.hid (And.intro cB cD)
  clear cB cD
  have r0' := Lib.hid r0
  have r1' := Lib.hid r1
  go_wp2
  clear e5' e6'
  go_loop [49] (fun iv => ∃ i : Nat, i ≤ dl ∧ iv = .int .i64 i ∧ ∀ j, j < i → 0 ≤ C.base.getD j 0 ∧ C.base.getD j 0 ≤ 262144 ∧ -1 ≤ C.dflt.getD j 0 ∧ C.dflt.getD j 0 < j) (fun iv => dl - (intOf iv).toNat)
  case atStart => exact ⟨0, Nat.zero_le _, rfl, fun j hj => by omega⟩
  case round =>
    obtain ⟨i, hi, rfl, hst⟩ := hrel
    by_cases hlt : i < dl
    · have c1 := HX.out.2.cell (HB.out.1 i (by rw [← H.out.2.1]; exact hlt))
      have c2 := HX.out.2.cell (HB.out.2 i (by rw [← H.out.2.2.1]; exact hlt))
      obtain ⟨x, hx⟩ : ∃ x, x = C.base.getD i 0 := ⟨_, rfl⟩
      obtain ⟨y, hy⟩ : ∃ y, y = C.dflt.getD i 0 := ⟨_, rfl⟩
      rw [← hx] at c1
      rw [← hy] at c2
      have HJ := Lib.hid (And.intro hst (And.intro hx hy))
      clear hst hx hy
      have hj1 : (i : Int) < dl := by omega
      by_cases b1 : x < 0
      · go_wp2
        go_ret
        exact ⟨ret_bool (CB.mayC_false fun hm => by have := (hm.base i (by rw [← H.out.2.1]; exact hlt)).1; rw [← HJ.out.2.1] at this; omega).symm, HX.out.2⟩
      · have b1' : 0 ≤ x := by omega
        by_cases b2 : 262144 < x
        · go_wp2
          go_ret
          exact ⟨ret_bool (CB.mayC_false fun hm => by have := (hm.base i (by rw [← H.out.2.1]; exact hlt)).2.1; rw [← HJ.out.2.1] at this; omega).symm, HX.out.2⟩
        · have b2' : x ≤ 262144 := by omega
          by_cases b3 : y < -1
          · go_wp2
            go_ret
            exact ⟨ret_bool (CB.mayC_false fun hm => by have := (hm.base i (by rw [← H.out.2.1]; exact hlt)).2.2.1; rw [← HJ.out.2.2] at this; omega).symm, HX.out.2⟩
          · have b3' : -1 ≤ y := by omega
            by_cases b4 : (i : Int) ≤ y
            · go_wp2
              go_ret
              exact ⟨ret_bool (CB.mayC_false fun hm => by have := (hm.base i (by rw [← H.out.2.1]; exact hlt)).2.2.2; rw [← HJ.out.2.2] at this; omega).symm, HX.out.2⟩
            · have b4' : y < i := by omega
              go_wp2
              go_round
              case rel => exact ⟨i + 1, by omega, by go_num, fun j hj => by
                by_cases e : j = i
                · subst e; rw [← HJ.out.2.1, ← HJ.out.2.2]; exact ⟨b1', b2', b3', b4'⟩
                · exact HJ.out.1 j (by omega)⟩
              case measure => simp [intOf]; omega
    · obtain rfl : dl = i := by omega
      have HJ := Lib.hid hst
      clear hst hlt hi
      go_wp2
      go_loop [87] (fun iv => ∃ i : Nat, i ≤ cl ∧ iv = .int .i64 i ∧ ∀ j, j < i → (-1 ≤ C.check.getD j 0 ∧ C.check.getD j 0 < dl ∧ -1 ≤ C.next.getD j 0 ∧ C.next.getD j 0 < dl) ∧ (C.check.getD j 0 = -1 → C.next.getD j 0 = -1 ∧ j ≠ cl - 1) ∧
        (0 ≤ C.check.getD j 0 → C.base.getD (C.check.getD j 0).toNat 0 ≤ j ∧ (j : Int) < C.base.getD (C.check.getD j 0).toNat 0 + k)) (fun iv => cl - (intOf iv).toNat)
      case atStart => exact ⟨0, Nat.zero_le _, rfl, fun j hj => by omega⟩
      case round =>
        obtain ⟨i, hi, rfl, hst⟩ := hrel
        by_cases hlt : i < cl
        · obtain ⟨bn, on, rfl, cN⟩ := H.out.1.next (by have := H.out.2.2.2.1; omega)
          obtain ⟨bc, oc, rfl, cC⟩ := H.out.1.check (by have := H.out.2.2.2.2.1; omega)
          have c1 := HX.out.2.cell (cC i (by rw [← H.out.2.2.2.2.1]; exact hlt))
          have c2 := HX.out.2.cell (cN i (by rw [← H.out.2.2.2.1]; exact hlt))
          obtain ⟨x, hx⟩ : ∃ x, x = C.check.getD i 0 := ⟨_, rfl⟩
          obtain ⟨y, hy⟩ : ∃ y, y = C.next.getD i 0 := ⟨_, rfl⟩
          rw [← hx] at c1
          rw [← hy] at c2
          have hj1 : (i : Int) < cl := by omega
          have HI := Lib.hid (And.intro hst (And.intro hx hy))
          have hlm : i < C.next.length := by rw [← H.out.2.2.2.1]; exact hlt
          have HLM := Lib.hid hlm
          clear hst hx hy cN cC hlm
          by_cases b1 : x < -1
          · go_wp2
            go_ret
            exact ⟨ret_bool (CB.mayC_false fun hm => by have := (hm.slot i HLM.out).1; rw [← HI.out.2.1] at this; omega).symm, HX.out.2⟩
          have b1' : -1 ≤ x := by omega
          by_cases b2 : (dl : Int) ≤ x
          · go_wp2
            go_ret
            exact ⟨ret_bool (CB.mayC_false fun hm => by have := (hm.slot i HLM.out).2.1; rw [← HI.out.2.1, ← H.out.2.1] at this; omega).symm, HX.out.2⟩
          have b2' : x < dl := by omega
          by_cases b3 : y < -1
          · go_wp2
            go_ret
            exact ⟨ret_bool (CB.mayC_false fun hm => by have := (hm.slot i HLM.out).2.2.1; rw [← HI.out.2.2] at this; omega).symm, HX.out.2⟩
          have b3' : -1 ≤ y := by omega
          by_cases b4 : (dl : Int) ≤ y
          · go_wp2
            go_ret
            exact ⟨ret_bool (CB.mayC_false fun hm => by have := (hm.slot i HLM.out).2.2.2; rw [← HI.out.2.2, ← H.out.2.1] at this; omega).symm, HX.out.2⟩
          have b4' : y < dl := by omega
          have hall : -1 ≤ C.check.getD i 0 ∧ C.check.getD i 0 < dl ∧ -1 ≤ C.next.getD i 0 ∧ C.next.getD i 0 < dl := by rw [← HI.out.2.1, ← HI.out.2.2]; exact ⟨b1', b2', b3', b4'⟩
          have HA := Lib.hid hall
          clear hall
          by_cases b5 : x = -1
          · subst b5
            have b5' : ((-1 : Int) == -1) = true := by decide
            by_cases b6 : y = -1
            · subst b6
              have b6' : ((-1 : Int) != -1) = false := by decide
              by_cases b7 : i = cl - 1
              · have b7' : ((i : Int) == (cl : Int) - 1) = true := by simp; omega
                have HB7 := Lib.hid b7
                clear b7
                go_wp2
                go_ret
                exact ⟨ret_bool (CB.mayC_false fun hm => by
                  have := hm.last
                  rw [← H.out.2.2.2.1, ← HB7.out, ← HI.out.2.1] at this; omega).symm, HX.out.2⟩
              · have b7' : ((i : Int) == (cl : Int) - 1) = false := by simp; omega
                have HB7 := Lib.hid b7
                clear b7
                go_wp2
                go_round
                case rel => exact ⟨i + 1, by omega, by go_num, fun j hj => by
                  by_cases e : j = i
                  · subst e; exact ⟨HA.out, fun _ => ⟨HI.out.2.2.symm, HB7.out⟩, fun h0 => by rw [← HI.out.2.1] at h0; omega⟩
                  · exact HI.out.1 j (by omega)⟩
                case measure => simp [intOf]; omega
            · have b6' : (y != -1) = true := by rw [bne_iff_ne]; exact b6
              have HB6 := Lib.hid b6
              clear b6
              go_wp2
              go_ret
              exact ⟨ret_bool (CB.mayC_false fun hm => by have := hm.free i HLM.out HI.out.2.1.symm; rw [← HI.out.2.2] at this; exact HB6.out this).symm, HX.out.2⟩
          · have b5' : (x == -1) = false := by simp; omega
            obtain ⟨s, rfl⟩ : ∃ s : Nat, x = s := ⟨x.toNat, by omega⟩
            have hs : s < dl := by omega
            have c3 := HX.out.2.cell (HB.out.1 s (by rw [← H.out.2.1]; exact hs))
            have hz := HJ.out s hs
            obtain ⟨z, hzz⟩ : ∃ z, z = C.base.getD s 0 := ⟨_, rfl⟩
            rw [← hzz] at c3 hz
            have hz0 := hz.1
            have hz1 := hz.2.1
            have HZ := Lib.hid hzz
            have b6' : (0 : Int) ≤ (s : Int) := by omega
            clear hz hzz b5
            by_cases b7 : (i : Int) < z
            · go_wp2
              go_ret
              exact ⟨ret_bool (CB.mayC_false fun hm => by have := (hm.near i HLM.out (by rw [← HI.out.2.1]; omega)).1; rw [← HI.out.2.1, Int.toNat_natCast, ← HZ.out] at this; omega).symm, HX.out.2⟩
            · have b7' : z ≤ (i : Int) := by omega
              by_cases b8 : z + k ≤ (i : Int)
              · go_wp2
                go_ret
                exact ⟨ret_bool (CB.mayC_false fun hm => by have := (hm.near i HLM.out (by rw [← HI.out.2.1]; omega)).2; rw [← HI.out.2.1, Int.toNat_natCast, ← HZ.out] at this; omega).symm, HX.out.2⟩
              · have b8' : (i : Int) < z + k := by omega
                go_wp2
                go_round
                case rel => exact ⟨i + 1, by omega, by go_num, fun j hj => by
                  by_cases e : j = i
                  · subst e; exact ⟨HA.out, fun h0 => by rw [← HI.out.2.1] at h0; omega, fun h0 => by rw [← HI.out.2.1, Int.toNat_natCast, ← HZ.out]; exact ⟨b7', b8'⟩⟩
                  · exact HI.out.1 j (by omega)⟩
                case measure => simp [intOf]; omega
        · obtain rfl : cl = i := by omega
          have HI := Lib.hid hst
          clear hst hlt hi
          go_wp2
          go_ret
          refine ⟨ret_bool (CB.mayC_true.2 ⟨by omega, by omega, by rw [← H.out.2.1]; omega, by rw [← H.out.2.1]; omega, by rw [← H.out.2.2.2.1]; omega, by rw [← H.out.2.1, ← H.out.2.2.1], by rw [← H.out.2.2.2.1, ← H.out.2.2.2.2.1], ?_, ?_, ?_, ?_, ?_⟩).symm, HX.out.2⟩
          · intro j hj; rw [← H.out.2.1] at hj; exact HJ.out j hj
          · intro j hj; rw [← H.out.2.2.2.1] at hj; rw [← H.out.2.1]; exact (HI.out j hj).1
          · intro j hj h0; rw [← H.out.2.2.2.1] at hj; exact ((HI.out j hj).2.1 h0).1
          · intro j hj h0; rw [← H.out.2.2.2.1] at hj; exact (HI.out j hj).2.2 h0
          · rw [← H.out.2.2.2.1]
            rcases Nat.eq_zero_or_pos cl with e | e
            · exact .inl e
            · have h1 := HI.out (cl - 1) (by omega)
              right
              by_cases e2 : C.check.getD (cl - 1) 0 = -1
              · exact absurd rfl (h1.2.1 e2).2
              · have := h1.1.1; omega
end Go.Proofs.YtpeipjfmibjoiaaDoor
