/- bolterref16.Entry, bolterref16.live. -/
import Derived.Test.YtpeipjfmibjoiaaDoorBest
namespace Go.Proofs.YtpeipjfmibjoiaaDoor
open Go.RowKit

/-- a comb that may be, opened in memory -/
structure CIn (w : World) (bb ob bd od : Nat) (an ac : Option Addr) (n m : Nat) (C : Cmb) : Prop where
  may : ∃ c, CB.CMay C c
  nlen : C.base.length = n
  mlen : C.next.length = m
  n6 : n ≤ 600
  m18 : m ≤ 262144
  base : ∀ i, i < n → w.cell? ⟨bb, ob + i, none⟩ = some (.int .i64 (C.base.getD i 0))
  dflt : ∀ i, i < n → w.cell? ⟨bd, od + i, none⟩ = some (.int .i64 (C.dflt.getD i 0))
  next : 0 < m → ∃ b o, an = some ⟨b, o, none⟩ ∧ ∀ i, i < m → w.cell? ⟨b, o + i, none⟩ = some (.int .i64 (C.next.getD i 0))
  check : 0 < m → ∃ b o, ac = some ⟨b, o, none⟩ ∧ ∀ i, i < m → w.cell? ⟨b, o + i, none⟩ = some (.int .i64 (C.check.getD i 0))
theorem CIn.ext {w w' : World} {bb ob bd od : Nat} {an ac : Option Addr} {n m : Nat} {C : Cmb} (h : CIn w bb ob bd od an ac n m C) (hx : Ext w w') : CIn w' bb ob bd od an ac n m C :=
  ⟨h.may, h.nlen, h.mlen, h.n6, h.m18, fun i hi => hx.cell (h.base i hi), fun i hi => hx.cell (h.dflt i hi), fun h0 => by
    obtain ⟨b, o, e, hc⟩ := h.next h0
    exact ⟨b, o, e, fun i hi => hx.cell (hc i hi)⟩, fun h0 => by
    obtain ⟨b, o, e, hc⟩ := h.check h0
    exact ⟨b, o, e, fun i hi => hx.cell (hc i hi)⟩⟩
theorem CmbV.opened {w : World} {v : Value} {C : Cmb} {c : Int} (h : CmbV w v C) (hm : CB.CMay C c) : ∃ (bb ob cb bd od cd : Nat) (an : Option Addr) (cn : Nat) (ac : Option Addr) (cc n m : Nat),
    v = .agg #[.slice (some ⟨bb, ob, none⟩) n cb, .slice (some ⟨bd, od, none⟩) n cd, .slice an m cn, .slice ac m cc] ∧ CIn w bb ob bd od an ac n m C := by
  obtain ⟨ab, cb, ad, cd, an, cn, ac, cc, hv, ho⟩ := h.open
  obtain ⟨bb, ob, rfl, cB⟩ := ho.base hm.pos
  obtain ⟨bd, od, rfl, cD⟩ := ho.dflt (by rw [hm.dlen]; exact hm.pos)
  rw [hm.dlen, hm.clen] at hv
  exact ⟨bb, ob, cb, bd, od, cd, an, cn, ac, cc, C.base.length, C.next.length, hv, ⟨⟨c, hm⟩, rfl, rfl, hm.most, hm.slots, cB, fun i hi => cD i (by rw [hm.dlen]; exact hi), fun h0 => ho.next h0, fun h0 => by
    obtain ⟨b, o, e, hc⟩ := ho.check (by rw [hm.clen]; exact h0)
    exact ⟨b, o, e, fun i hi => hc i (by rw [hm.clen]; exact hi)⟩⟩⟩

section
variable {w : World} {bb ob bd od n m cb cd cn cc : Nat} {an ac : Option Addr} {C : Cmb}
set_option maxRecDepth 100000 in
set_option maxHeartbeats 4000000 in
theorem ent_c {k s : Nat} (h : CIn w bb ob bd od an ac n m C) (hs : s < n) (hk : k ≤ 255) :
    Calls Tryd.prog 30 #[.agg #[.slice (some ⟨bb, ob, none⟩) n cb, .slice (some ⟨bd, od, none⟩) n cd, .slice an m cn, .slice ac m cc], .int .i64 (s : Int), .int .i64 (k : Int)] w
      fun e w' => e = .returned (.tuple #[.int .i64 (CB.look C k s).1, .int .i64 ((CB.look C k s).2 : Int)]) ∧ Ext w w' := by
  obtain ⟨c, hm⟩ := h.may
  have hx : Ext w (w.alloc (.cells #[.slice (some ⟨bb, ob, none⟩) n cb, .slice (some ⟨bd, od, none⟩) n cd, .slice an m cn, .slice ac m cc] 40)) := Ext.box _ _
  obtain ⟨W, hW⟩ : ∃ W, W = w.alloc (.cells #[.slice (some ⟨bb, ob, none⟩) n cb, .slice (some ⟨bd, od, none⟩) n cd, .slice an m cn, .slice ac m cc] 40) := ⟨_, rfl⟩
  have q0 : W.cell? ⟨w.heap.size, 0, none⟩ = some (.slice (some ⟨bb, ob, none⟩) n cb) := by rw [hW]; simp
  have q1 : W.cell? ⟨w.heap.size, 1, none⟩ = some (.slice (some ⟨bd, od, none⟩) n cd) := by rw [hW]; simp
  have q2 : W.cell? ⟨w.heap.size, 2, none⟩ = some (.slice an m cn) := by rw [hW]; simp
  have q3 : W.cell? ⟨w.heap.size, 3, none⟩ = some (.slice ac m cc) := by rw [hW]; simp
  have hn6 := h.n6
  have hm18 := h.m18
  rw [← hW] at hx
  have H := Lib.hid (And.intro hm (And.intro (h.ext hx) (And.intro hx hW)))
  clear h hm hx hW
  go_enter Tryd.func30, Tryd.ntmps30
  go_wp2
  rw [← H.out.2.2.2]
  go_loop [1, 8] (fun sv nv => ∃ s' p : Nat, sv = .int .i64 (s' : Int) ∧ nv = .int .i64 ((p + 1 : Nat) : Int) ∧ s' < n ∧ p + s' ≤ 600 ∧ CB.look C k s = ((CB.look C k s').1, p + (CB.look C k s').2)) (fun sv _ => (intOf sv).toNat)
  case atStart => exact ⟨s, 0, rfl, rfl, hs, by omega, by simp⟩
  case round =>
    obtain ⟨s', p, rfl, rfl, hst, hps, heq⟩ := hrel
    have hb := H.out.1.base s' (by rw [H.out.2.1.nlen]; exact hst)
    have b1 := H.out.2.1.base s' hst
    have d1 := H.out.2.1.dflt s' hst
    obtain ⟨z, hz⟩ : ∃ z : Nat, C.base.getD s' 0 = z := ⟨(C.base.getD s' 0).toNat, by omega⟩
    obtain ⟨y, hy⟩ : ∃ y, y = C.dflt.getD s' 0 := ⟨_, rfl⟩
    rw [hz] at b1
    rw [← hy] at d1
    have hz1 : (z : Int) ≤ 262144 := by rw [← hz]; exact hb.2.1
    have hy1 : -1 ≤ y := by rw [hy]; exact hb.2.2.1
    have hy2 : y < s' := by rw [hy]; exact hb.2.2.2
    obtain ⟨t, ht⟩ : ∃ t, t = z + k := ⟨_, rfl⟩
    have htt : (z : Int) + (k : Int) = (t : Int) := by omega
    have hsN : (s' : Int) < n := by omega
    have hhit : CB.hit C k s' ↔ (t < m ∧ C.check.getD t 0 = s') := by
      unfold CB.hit
      rw [hz, H.out.1.clen, H.out.2.1.mlen, htt]
      simp
    have hdf : ∀ i, i < C.base.length → C.dflt.getD i 0 < i := fun i hi => (H.out.1.base i hi).2.2.2
    have hlk : CB.hit C k s' → CB.look C k s' = (C.next.getD t 0, 1) := fun hh => by
      rw [CB.look_hit hh, hz, htt]; simp
    have HQ := Lib.hid (And.intro hhit (And.intro hlk (And.intro hy (And.intro hdf heq))))
    clear hb hz ht hy hhit hlk hdf heq
    by_cases htm : t < m ∧ C.check.getD t 0 = s'
    · have htm' : (t : Int) < m := by omega
      obtain ⟨bn, on, e1, cN⟩ := H.out.2.1.next (by omega)
      obtain ⟨bc, oc, e2, cC⟩ := H.out.2.1.check (by omega)
      have n1 := cN t htm.1
      have k1 := cC t htm.1
      subst e1; subst e2
      rw [htm.2] at k1
      obtain ⟨r, hr⟩ : ∃ r, r = C.next.getD t 0 := ⟨_, rfl⟩
      rw [← hr] at n1
      have hxs' : ((s' : Int) == (s' : Int)) = true := by simp
      have HH := Lib.hid (And.intro (HQ.out.2.1 (HQ.out.1.2 htm)) hr)
      clear htm hr cN cC
      go_wp2
      go_ret2
      exact ⟨by rw [HQ.out.2.2.2.2, HH.out.1, ← HH.out.2]; first | rfl | simp, H.out.2.2.1⟩
    · have hno : ¬ CB.hit C k s' := fun hh => htm (HQ.out.1.1 hh)
      have HNO := Lib.hid hno
      clear hno
      by_cases htm2 : t < m
      · have htm' : (t : Int) < m := by omega
        obtain ⟨bc, oc, e2, cC⟩ := H.out.2.1.check (by omega)
        have k1 := cC t htm2
        subst e2
        obtain ⟨x, hx9⟩ : ∃ x, x = C.check.getD t 0 := ⟨_, rfl⟩
        rw [← hx9] at k1
        have hxs' : (x == (s' : Int)) = false := by
          simp only [beq_eq_false_iff_ne, ne_eq]
          intro e; exact htm ⟨htm2, by rw [← hx9]; exact e⟩
        clear htm htm2 hx9 cC
        by_cases hy0 : y < 0
        · have HON := Lib.hid (CB.look_none HNO.out (by rw [← HQ.out.2.2.1]; exact hy0))
          go_wp2
          go_ret2
          exact ⟨by rw [HQ.out.2.2.2.2, HON.out]; rfl, H.out.2.2.1⟩
        · obtain ⟨s2, rfl⟩ : ∃ s2 : Nat, y = s2 := ⟨y.toNat, by omega⟩
          have hon := CB.look_on HQ.out.2.2.2.1 (by rw [H.out.2.1.nlen]; exact hst) HNO.out (by rw [← HQ.out.2.2.1]; omega)
          rw [← HQ.out.2.2.1, Int.toNat_natCast] at hon
          have heq : CB.look C k s = ((CB.look C k s2).1, p + 1 + (CB.look C k s2).2) := by rw [HQ.out.2.2.2.2, hon]; simp only [Prod.mk.injEq, true_and]; omega
          have HE := Lib.hid heq
          clear heq hon
          go_wp2
          go_round
          case rel => exact ⟨s2, p + 1, rfl, by go_num, by omega, by omega, HE.out⟩
          case measure => simp [intOf]; omega
      · have htm' : ¬ (t : Int) < m := by omega
        clear htm htm2
        by_cases hy0 : y < 0
        · have HON := Lib.hid (CB.look_none HNO.out (by rw [← HQ.out.2.2.1]; exact hy0))
          go_wp2
          go_ret2
          exact ⟨by rw [HQ.out.2.2.2.2, HON.out]; rfl, H.out.2.2.1⟩
        · obtain ⟨s2, rfl⟩ : ∃ s2 : Nat, y = s2 := ⟨y.toNat, by omega⟩
          have hon := CB.look_on HQ.out.2.2.2.1 (by rw [H.out.2.1.nlen]; exact hst) HNO.out (by rw [← HQ.out.2.2.1]; omega)
          rw [← HQ.out.2.2.1, Int.toNat_natCast] at hon
          have heq : CB.look C k s = ((CB.look C k s2).1, p + 1 + (CB.look C k s2).2) := by rw [HQ.out.2.2.2.2, hon]; simp only [Prod.mk.injEq, true_and]; omega
          have HE := Lib.hid heq
          clear heq hon
          go_wp2
          go_round
          case rel => exact ⟨s2, p + 1, rfl, by go_num, by omega, by omega, HE.out⟩
          case measure => simp [intOf]; omega

set_option maxRecDepth 100000 in
set_option maxHeartbeats 4000000 in
theorem rlive_c {T : Tbl} {bn on nc K : Nat} {k s : Nat} {d : Int} (hdd : C.dflt.getD s 0 = d) (h : CIn w bb ob bd od an ac n m C) (hT : TRows w bn on n K T) (hs : s < n) (hk : k < K) :
    Calls Tryd.prog 112 #[.agg #[.slice (some ⟨bb, ob, none⟩) n cb, .slice (some ⟨bd, od, none⟩) n cd, .slice an m cn, .slice ac m cc], .slice (some ⟨bn, on, none⟩) n nc, .int .i64 (s : Int), .int .i64 (k : Int)] w
      fun e w' => e = .returned (.bool (CB.liveB T s d k)) ∧ Ext w w' := by
  obtain ⟨c, hm⟩ := h.may
  have hd := hm.base s (by rw [h.nlen]; exact hs)
  obtain ⟨W, hW⟩ : ∃ W, W = w.alloc (.cells #[.slice (some ⟨bb, ob, none⟩) n cb, .slice (some ⟨bd, od, none⟩) n cd, .slice an m cn, .slice ac m cc] 40) := ⟨_, rfl⟩
  have hx : Ext w W := by rw [hW]; exact Ext.box _ _
  have q1 : W.cell? ⟨w.heap.size, 1, none⟩ = some (.slice (some ⟨bd, od, none⟩) n cd) := by rw [hW]; simp
  have d0 := h.dflt s hs
  obtain ⟨y, hy⟩ : ∃ y, y = d := ⟨_, rfl⟩
  rw [hdd, ← hy] at d0 hd
  clear hdd
  have d1 := hx.cell d0
  have hdl := lt_of_cell d0
  obtain ⟨b1, o1, c1, r0, e0f⟩ := hT.row s hs
  have r1 := hx.cell r0
  have hrl := lt_of_cell r0
  have e0 := e0f k hk
  clear e0f
  obtain ⟨x, hxx⟩ : ∃ x, x = CB.nx T s k := ⟨_, rfl⟩
  rw [← hxx] at e0
  have e1 := hx.cell e0
  have hel := lt_of_cell e0
  have hn6 := h.n6
  have hk2 := hT.k2
  have hsn : (s : Int) < n := by omega
  have hkK : (k : Int) < K := by omega
  by_cases hy0 : y < 0
  · have HR := Lib.hid (And.intro hx (And.intro hW (show CB.liveB T s d k = decide (x ≠ -1) by unfold CB.liveB CB.other; rw [if_pos (by rw [← hy]; exact hy0), ← hxx])))
    have hbe : (x != -1) = decide (x ≠ -1) := by by_cases e : x = -1 <;> simp [e]
    have HB := Lib.hid hbe
    clear hx hW h hT hm hy hxx hbe hd d1 r1 e1 q1
    go_enter Tryd.func112, Tryd.ntmps112
    go_wp2
    go_ret
    exact ⟨ret_bool (by rw [HR.out.2.2]; exact HB.out), by rw [← HR.out.2.1]; exact HR.out.1⟩
  · obtain ⟨D, rfl⟩ : ∃ D : Nat, y = D := ⟨y.toNat, by omega⟩
    have hDs : D < s := by omega
    obtain ⟨b2, o2, c2, r2, e2f⟩ := hT.row D (by omega)
    have e2 := e2f k hk
    clear e2f
    obtain ⟨x2, hxx2⟩ : ∃ x, x = CB.nx T D k := ⟨_, rfl⟩
    rw [← hxx2] at e2
    have r3 := hx.cell r2
    have e3 := hx.cell e2
    have hDn : (D : Int) < n := by omega
    have HR := Lib.hid (And.intro hx (And.intro hW (show CB.liveB T s d k = decide (x ≠ x2) by unfold CB.liveB CB.other; rw [if_neg (by rw [← hy]; omega), ← hy, Int.toNat_natCast, ← hxx, ← hxx2])))
    have hbe : (x != x2) = decide (x ≠ x2) := by by_cases e : x = x2 <;> simp [e]
    have HB := Lib.hid hbe
    clear hx hW h hT hm hy hxx hxx2 hbe hd r2 e2
    go_enter Tryd.func112, Tryd.ntmps112
    go_upto_region 3 with fail
    rw [← HR.out.2.1]
    clear d0 r0 e0
    go_quiet (fail)
    go_wp2
    go_ret
    exact ⟨ret_bool (by rw [HR.out.2.2]; exact HB.out), (HR.out.1).drewN _⟩
end
end Go.Proofs.YtpeipjfmibjoiaaDoor
