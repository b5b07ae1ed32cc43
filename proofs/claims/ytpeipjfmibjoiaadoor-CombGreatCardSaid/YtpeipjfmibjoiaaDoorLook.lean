/- comb.Look: an entry, and how many probes it took. By mklook.py. -/
import Derived.Test.YtpeipjfmibjoiaaDoorCombV
import Derived.WalkMore
import Derived.ScopeJumps
namespace Go.Proofs.YtpeipjfmibjoiaaDoor
open Go.RowKit

/-- the frame at the label -/
def LookF (w : World) (bb ob N cb bd od cd : Nat) (an : Option Addr) (M cn : Nat) (ac : Option Addr) (cc k s' p : Nat) (a : Act) : Prop :=
  ∃ u9 u10 u11 u12 u13 u14 u15 u16 u17 u18 u19 u20 u21 u22 u23 u24 u25 u26 u27 u28 u29 u30 u31 u32 u33 u34 u35 u36 u37 u38 u39 u40 u41 u42 u43 u44 u45 u46 u47 u48 u49 u50 u51 u52 u53 u54 u55 u56 u57 u58 u59 u60 u61 u62 u63 u64 u65 u66 u67 u68 u69 : Value, a = { tmps := #[.agg #[.slice (some ⟨bb, ob, none⟩) N cb, .slice (some ⟨bd, od, none⟩) N cd, .slice an M cn, .slice ac M cc], .int .i64 (s' : Int), .int .i64 (k : Int), .pointer (some ⟨w.heap.size, 0, none⟩), undef, undef, .int .i64 0, .int .i64 (p : Int), .nilIface, u9, u10, u11, u12, u13, u14, u15, u16, u17, u18, u19, u20, u21, u22, u23, u24, u25, u26, u27, u28, u29, u30, u31, u32, u33, u34, u35, u36, u37, u38, u39, u40, u41, u42, u43, u44, u45, u46, u47, u48, u49, u50, u51, u52, u53, u54, u55, u56, u57, u58, u59, u60, u61, u62, u63, u64, u65, u66, u67, u68, u69], defers := [] }

theorem look_p {C : Cmb} {k s s' p : Nat} (h : CB.look C k s = ((CB.look C k s').1, p + (CB.look C k s').2)) (h1 : (CB.look C k s').2 = 1) : CB.look C k s = ((CB.look C k s').1, p + 1) := by rw [h, h1]

set_option maxRecDepth 100000 in
set_option maxHeartbeats 4000000 in
theorem look_c {w : World} {v : Value} {C : Cmb} {k s : Nat} (h : CmbV w v C) (hm : CB.CMay C 256) (hs : s < C.base.length) (hk : k ≤ 255) :
    Calls Tryd.prog 25 #[v, .int .i64 (s : Int), .int .i64 (k : Int)] w fun e w' => e = .returned (.tuple #[.int .i64 (CB.look C k s).1, .int .i64 ((CB.look C k s).2 : Int), .nilIface]) ∧ Ext w w' := by
  obtain ⟨ab, cb, ad, cd, an, cn, ac, cc, hv, ho⟩ := h.open
  obtain ⟨bb, ob, rfl, cB⟩ := ho.base hm.pos
  obtain ⟨bd, od, rfl, cD⟩ := ho.dflt (by rw [hm.dlen]; exact hm.pos)
  obtain ⟨N, hN⟩ : ∃ n, n = C.base.length := ⟨_, rfl⟩
  obtain ⟨M, hM⟩ : ∃ n, n = C.next.length := ⟨_, rfl⟩
  rw [hm.dlen, hm.clen, ← hN, ← hM] at hv
  subst hv
  have hN6 : N ≤ 600 := by rw [hN]; exact hm.most
  have hM18 : M ≤ 262144 := by rw [hM]; exact hm.slots
  rw [← hN] at hs
  obtain ⟨W, hW⟩ : ∃ W, W = w.alloc (.cells #[.slice (some ⟨bb, ob, none⟩) N cb, .slice (some ⟨bd, od, none⟩) N cd, .slice an M cn, .slice ac M cc] 40) := ⟨_, rfl⟩
  have hxW : Ext w W := by rw [hW]; exact Ext.box _ _
  have q0 : W.cell? ⟨w.heap.size, 0, none⟩ = some (.slice (some ⟨bb, ob, none⟩) N cb) := by rw [hW]; simp
  have q1 : W.cell? ⟨w.heap.size, 1, none⟩ = some (.slice (some ⟨bd, od, none⟩) N cd) := by rw [hW]; simp
  have q2 : W.cell? ⟨w.heap.size, 2, none⟩ = some (.slice an M cn) := by rw [hW]; simp
  have q3 : W.cell? ⟨w.heap.size, 3, none⟩ = some (.slice ac M cc) := by rw [hW]; simp
  have hck := ccheck_c (k := 256) (h.ext hxW)
  rw [CB.mayC_true.2 hm] at hck
  have H := Lib.hid (And.intro hxW (And.intro hck (And.intro hm (And.intro ho (And.intro cB (And.intro cD (And.intro hN (And.intro hM hW))))))))
  clear hxW hck hm ho cB cD hN hM hW h
  go_enter Tryd.func25, Tryd.ntmps25
  go_wp2_with fail
  rw [← H.out.2.2.2.2.2.2.2.2]
  refine wp_scope_jumps 0 (fun a' w' => Ext W w' ∧ ∃ s' p : Nat, LookF w bb ob N cb bd od cd an M cn ac cc k s' p a' ∧ s' < N ∧ p + s' ≤ 600 ∧ CB.look C k s = ((CB.look C k s').1, p + (CB.look C k s').2)) (fun a' _ => (intOf (a'.tmps.getD 1 undef)).toNat) rfl ?_ ?_
  · go_wp2_with fail
    refine H.out.2.1.mono ?_
    rintro e w1 ⟨rfl, hx1⟩
    have hst : s < N := hs
    have heq0 : CB.look C k s = ((CB.look C k s).1, 0 + (CB.look C k s).2) := by simp
    have HXX := Lib.hid (H.out.1.trans hx1)
    have hW1 := hx1
    have r0 := hx1.cell q0
    have e1 : ¬ (s : Int) < 0 := by omega
    have e2 : ¬ (N : Int) ≤ s := by omega
    have e3 : ¬ (k : Int) < 0 := by omega
    have e4 : ¬ (255 : Int) < k := by omega
    go_wp2_with fail
    go_step3
    clear r0 e1 e2 e3 e4
    have c0 := (hx1).cell q0
    have c1 := (hx1).cell q1
    have c2 := (hx1).cell q2
    have c3 := (hx1).cell q3
    have hb := H.out.2.2.1.base s (by rw [← H.out.2.2.2.2.2.2.1]; exact hst)
    have b1 := (H.out.1.trans hx1).cell (H.out.2.2.2.2.1 s (by rw [← H.out.2.2.2.2.2.2.1]; exact hst))
    have d1 := (H.out.1.trans hx1).cell (H.out.2.2.2.2.2.1 s (by rw [H.out.2.2.1.dlen, ← H.out.2.2.2.2.2.2.1]; exact hst))
    obtain ⟨z, hz⟩ : ∃ z : Nat, C.base.getD s 0 = z := ⟨(C.base.getD s 0).toNat, by omega⟩
    obtain ⟨y, hy⟩ : ∃ y, y = C.dflt.getD s 0 := ⟨_, rfl⟩
    rw [hz] at b1
    rw [← hy] at d1
    have hz1 : (z : Int) ≤ 262144 := by rw [← hz]; exact hb.2.1
    have hy1 : -1 ≤ y := by rw [hy]; exact hb.2.2.1
    have hy2 : y < s := by rw [hy]; exact hb.2.2.2
    obtain ⟨t, ht⟩ : ∃ t, t = z + k := ⟨_, rfl⟩
    have htt : (z : Int) + (k : Int) = (t : Int) := by omega
    have hsN : (s : Int) < N := by omega
    have hhit : CB.hit C k s ↔ (t < M ∧ C.check.getD t 0 = s) := by
      unfold CB.hit
      rw [hz, H.out.2.2.1.clen, ← H.out.2.2.2.2.2.2.2.1, htt]
      simp
    have hdf : ∀ i, i < C.base.length → C.dflt.getD i 0 < i := fun i hi => (H.out.2.2.1.base i hi).2.2.2
    have hlk : CB.hit C k s → CB.look C k s = (C.next.getD t 0, 1) := fun hh => by
      rw [CB.look_hit hh, hz, htt]; simp
    have HQ := Lib.hid (And.intro hhit (And.intro hlk (And.intro hy (And.intro hdf heq0))))
    clear hb hz ht hy hhit hlk hdf heq0
    by_cases htm : t < M
    · have htm' : (t : Int) < M := by omega
      obtain ⟨bn, on, e1, cN⟩ := H.out.2.2.2.1.next (by rw [← H.out.2.2.2.2.2.2.2.1]; omega)
      obtain ⟨bc, oc, e2, cC⟩ := H.out.2.2.2.1.check (by rw [H.out.2.2.1.clen, ← H.out.2.2.2.2.2.2.2.1]; omega)
      have n1 := (H.out.1.trans hx1).cell (cN t (by rw [← H.out.2.2.2.2.2.2.2.1]; exact htm))
      have k1 := (H.out.1.trans hx1).cell (cC t (by rw [H.out.2.2.1.clen, ← H.out.2.2.2.2.2.2.2.1]; exact htm))
      subst e1; subst e2
      obtain ⟨x, hx9⟩ : ∃ x, x = C.check.getD t 0 := ⟨_, rfl⟩
      obtain ⟨r, hr⟩ : ∃ r, r = C.next.getD t 0 := ⟨_, rfl⟩
      rw [← hx9] at k1
      rw [← hr] at n1
      have HX9 := Lib.hid (And.intro hx9 hr)
      clear hx9 hr cN cC
      by_cases hxs : x = s
      · have hxs' : (x == (s : Int)) = true := by simpa using hxs
        have hh : CB.look C k s = (C.next.getD t 0, 1) := HQ.out.2.1 (HQ.out.1.2 ⟨htm, by rw [← HX9.out.1]; exact hxs⟩)
        have HH := Lib.hid hh
        clear hxs hh
        go_wp2
        simp only [Exit.jump]
        go_ret3
        exact ⟨by rw [HQ.out.2.2.2.2, HH.out, ← HX9.out.2]; rfl, HXX.out⟩
      · have hxs' : (x == (s : Int)) = false := by simpa using hxs
        have hno : ¬ CB.hit C k s := fun hh => hxs (by rw [HX9.out.1]; exact (HQ.out.1.1 hh).2)
        have HNO := Lib.hid hno
        clear hxs hno
        by_cases hy0 : 0 ≤ y
        · go_wp2
          go_step3
          obtain ⟨s2, rfl⟩ : ∃ s2 : Nat, y = s2 := ⟨y.toNat, by omega⟩
          have hon := CB.look_on HQ.out.2.2.2.1 (by rw [← H.out.2.2.2.2.2.2.1]; exact hst) HNO.out (by rw [← HQ.out.2.2.1]; omega)
          rw [← HQ.out.2.2.1, Int.toNat_natCast] at hon
          have heq : CB.look C k s = ((CB.look C k s2).1, 0 + 1 + (CB.look C k s2).2) := by rw [HQ.out.2.2.2.2, hon]; simp only [Prod.mk.injEq, true_and]; omega
          refine ⟨rfl, hx1, s2, 0 + 1, ⟨_, _, _, _, _, _, _, _, _, _, _, _, _, _, _, _, _, _, _, _, _, _, _, _, _, _, _, _, _, _, _, _, _, _, _, _, _, _, _, _, _, _, _, _, _, _, _, _, _, _, _, _, _, _, _, _, _, _, _, _, _, rfl⟩, by omega, by omega, heq⟩
        · have hon := CB.look_none HNO.out (by rw [← HQ.out.2.2.1]; omega)
          have HON := Lib.hid hon
          clear hon
          go_wp2
          simp only [Exit.jump]
          go_ret3
          exact ⟨by rw [HQ.out.2.2.2.2, HON.out]; rfl, HXX.out⟩
    · have htm' : ¬ (t : Int) < M := by omega
      have hno : ¬ CB.hit C k s := fun hh => htm (HQ.out.1.1 hh).1
      have HNO := Lib.hid hno
      clear hno htm
      by_cases hy0 : 0 ≤ y
      · go_wp2
        go_step3
        obtain ⟨s2, rfl⟩ : ∃ s2 : Nat, y = s2 := ⟨y.toNat, by omega⟩
        have hon := CB.look_on HQ.out.2.2.2.1 (by rw [← H.out.2.2.2.2.2.2.1]; exact hst) HNO.out (by rw [← HQ.out.2.2.1]; omega)
        rw [← HQ.out.2.2.1, Int.toNat_natCast] at hon
        have heq : CB.look C k s = ((CB.look C k s2).1, 0 + 1 + (CB.look C k s2).2) := by rw [HQ.out.2.2.2.2, hon]; simp only [Prod.mk.injEq, true_and]; omega
        refine ⟨rfl, hx1, s2, 0 + 1, ⟨_, _, _, _, _, _, _, _, _, _, _, _, _, _, _, _, _, _, _, _, _, _, _, _, _, _, _, _, _, _, _, _, _, _, _, _, _, _, _, _, _, _, _, _, _, _, _, _, _, _, _, _, _, _, _, _, _, _, _, _, _, rfl⟩, by omega, by omega, heq⟩
      · have hon := CB.look_none HNO.out (by rw [← HQ.out.2.2.1]; omega)
        have HON := Lib.hid hon
        clear hon
        go_wp2
        simp only [Exit.jump]
        go_ret3
        exact ⟨by rw [HQ.out.2.2.2.2, HON.out]; rfl, HXX.out⟩

  · rintro a' w' ⟨hx1, s', p, hF, hst, hps, heq0⟩
    obtain ⟨u9, u10, u11, u12, u13, u14, u15, u16, u17, u18, u19, u20, u21, u22, u23, u24, u25, u26, u27, u28, u29, u30, u31, u32, u33, u34, u35, u36, u37, u38, u39, u40, u41, u42, u43, u44, u45, u46, u47, u48, u49, u50, u51, u52, u53, u54, u55, u56, u57, u58, u59, u60, u61, u62, u63, u64, u65, u66, u67, u68, u69, rfl⟩ := hF
    have HXX := Lib.hid (H.out.1.trans hx1)
    have c0 := (hx1).cell q0
    have c1 := (hx1).cell q1
    have c2 := (hx1).cell q2
    have c3 := (hx1).cell q3
    have hb := H.out.2.2.1.base s' (by rw [← H.out.2.2.2.2.2.2.1]; exact hst)
    have b1 := (H.out.1.trans hx1).cell (H.out.2.2.2.2.1 s' (by rw [← H.out.2.2.2.2.2.2.1]; exact hst))
    have d1 := (H.out.1.trans hx1).cell (H.out.2.2.2.2.2.1 s' (by rw [H.out.2.2.1.dlen, ← H.out.2.2.2.2.2.2.1]; exact hst))
    obtain ⟨z, hz⟩ : ∃ z : Nat, C.base.getD s' 0 = z := ⟨(C.base.getD s' 0).toNat, by omega⟩
    obtain ⟨y, hy⟩ : ∃ y, y = C.dflt.getD s' 0 := ⟨_, rfl⟩
    rw [hz] at b1
    rw [← hy] at d1
    have hz1 : (z : Int) ≤ 262144 := by rw [← hz]; exact hb.2.1
    have hy1 : -1 ≤ y := by rw [hy]; exact hb.2.2.1
    have hy2 : y < s' := by rw [hy]; exact hb.2.2.2
    obtain ⟨t, ht⟩ : ∃ t, t = z + k := ⟨_, rfl⟩
    have htt : (z : Int) + (k : Int) = (t : Int) := by omega
    have hsN : (s' : Int) < N := by omega
    have hhit : CB.hit C k s' ↔ (t < M ∧ C.check.getD t 0 = s') := by
      unfold CB.hit
      rw [hz, H.out.2.2.1.clen, ← H.out.2.2.2.2.2.2.2.1, htt]
      simp
    have hdf : ∀ i, i < C.base.length → C.dflt.getD i 0 < i := fun i hi => (H.out.2.2.1.base i hi).2.2.2
    have hlk : CB.hit C k s' → CB.look C k s' = (C.next.getD t 0, 1) := fun hh => by
      rw [CB.look_hit hh, hz, htt]; simp
    have HQ := Lib.hid (And.intro hhit (And.intro hlk (And.intro hy (And.intro hdf heq0))))
    clear hb hz ht hy hhit hlk hdf heq0
    by_cases htm : t < M
    · have htm' : (t : Int) < M := by omega
      obtain ⟨bn, on, e1, cN⟩ := H.out.2.2.2.1.next (by rw [← H.out.2.2.2.2.2.2.2.1]; omega)
      obtain ⟨bc, oc, e2, cC⟩ := H.out.2.2.2.1.check (by rw [H.out.2.2.1.clen, ← H.out.2.2.2.2.2.2.2.1]; omega)
      have n1 := (H.out.1.trans hx1).cell (cN t (by rw [← H.out.2.2.2.2.2.2.2.1]; exact htm))
      have k1 := (H.out.1.trans hx1).cell (cC t (by rw [H.out.2.2.1.clen, ← H.out.2.2.2.2.2.2.2.1]; exact htm))
      subst e1; subst e2
      obtain ⟨x, hx9⟩ : ∃ x, x = C.check.getD t 0 := ⟨_, rfl⟩
      obtain ⟨r, hr⟩ : ∃ r, r = C.next.getD t 0 := ⟨_, rfl⟩
      rw [← hx9] at k1
      rw [← hr] at n1
      have HX9 := Lib.hid (And.intro hx9 hr)
      clear hx9 hr cN cC
      by_cases hxs : x = s'
      · have hxs' : (x == (s' : Int)) = true := by simpa using hxs
        have hh : CB.look C k s' = (C.next.getD t 0, 1) := HQ.out.2.1 (HQ.out.1.2 ⟨htm, by rw [← HX9.out.1]; exact hxs⟩)
        have HH := Lib.hid hh
        clear hxs hh
        go_wp2
        simp only [Exit.jump]
        go_ret3
        exact ⟨by rw [HQ.out.2.2.2.2, HH.out, ← HX9.out.2]; rfl, HXX.out⟩
      · have hxs' : (x == (s' : Int)) = false := by simpa using hxs
        have hno : ¬ CB.hit C k s' := fun hh => hxs (by rw [HX9.out.1]; exact (HQ.out.1.1 hh).2)
        have HNO := Lib.hid hno
        clear hxs hno
        by_cases hy0 : 0 ≤ y
        · go_wp2
          go_step3
          obtain ⟨s2, rfl⟩ : ∃ s2 : Nat, y = s2 := ⟨y.toNat, by omega⟩
          have hon := CB.look_on HQ.out.2.2.2.1 (by rw [← H.out.2.2.2.2.2.2.1]; exact hst) HNO.out (by rw [← HQ.out.2.2.1]; omega)
          rw [← HQ.out.2.2.1, Int.toNat_natCast] at hon
          have heq : CB.look C k s = ((CB.look C k s2).1, p + 1 + (CB.look C k s2).2) := by rw [HQ.out.2.2.2.2, hon]; simp only [Prod.mk.injEq, true_and]; omega
          refine ⟨rfl, ⟨hx1, s2, p + 1, ⟨_, _, _, _, _, _, _, _, _, _, _, _, _, _, _, _, _, _, _, _, _, _, _, _, _, _, _, _, _, _, _, _, _, _, _, _, _, _, _, _, _, _, _, _, _, _, _, _, _, _, _, _, _, _, _, _, _, _, _, _, _, rfl⟩, by omega, by omega, heq⟩, ?_⟩
          simp [intOf]; omega
        · have hon := CB.look_none HNO.out (by rw [← HQ.out.2.2.1]; omega)
          have HON := Lib.hid hon
          clear hon
          go_wp2
          simp only [Exit.jump]
          go_ret3
          exact ⟨by rw [HQ.out.2.2.2.2, HON.out]; rfl, HXX.out⟩
    · have htm' : ¬ (t : Int) < M := by omega
      have hno : ¬ CB.hit C k s' := fun hh => htm (HQ.out.1.1 hh).1
      have HNO := Lib.hid hno
      clear hno htm
      by_cases hy0 : 0 ≤ y
      · go_wp2
        go_step3
        obtain ⟨s2, rfl⟩ : ∃ s2 : Nat, y = s2 := ⟨y.toNat, by omega⟩
        have hon := CB.look_on HQ.out.2.2.2.1 (by rw [← H.out.2.2.2.2.2.2.1]; exact hst) HNO.out (by rw [← HQ.out.2.2.1]; omega)
        rw [← HQ.out.2.2.1, Int.toNat_natCast] at hon
        have heq : CB.look C k s = ((CB.look C k s2).1, p + 1 + (CB.look C k s2).2) := by rw [HQ.out.2.2.2.2, hon]; simp only [Prod.mk.injEq, true_and]; omega
        refine ⟨rfl, ⟨hx1, s2, p + 1, ⟨_, _, _, _, _, _, _, _, _, _, _, _, _, _, _, _, _, _, _, _, _, _, _, _, _, _, _, _, _, _, _, _, _, _, _, _, _, _, _, _, _, _, _, _, _, _, _, _, _, _, _, _, _, _, _, _, _, _, _, _, _, rfl⟩, by omega, by omega, heq⟩, ?_⟩
        simp [intOf]; omega
      · have hon := CB.look_none HNO.out (by rw [← HQ.out.2.2.1]; omega)
        have HON := Lib.hid hon
        clear hon
        go_wp2
        simp only [Exit.jump]
        go_ret3
        exact ⟨by rw [HQ.out.2.2.2.2, HON.out]; rfl, HXX.out⟩

end Go.Proofs.YtpeipjfmibjoiaaDoor
