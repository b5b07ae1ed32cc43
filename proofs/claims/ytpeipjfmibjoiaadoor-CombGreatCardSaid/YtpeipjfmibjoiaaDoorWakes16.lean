/- bolterlaw16.wakes. -/
import Derived.Test.YtpeipjfmibjoiaaDoorTable16
import Derived.Test.YtpeipjfmibjoiaaDoorPack
import Derived.Test.YtpeipjfmibjoiaaDoorPacks
import Derived.Test.YtpeipjfmibjoiaaDoorLook
namespace Go.Proofs.YtpeipjfmibjoiaaDoor
open Go.RowKit

theorem CB.CMay.wide {C : Cmb} {c c' : Int} (h : CB.CMay C c) (h1 : c ≤ c') (h2 : c' ≤ 256) : CB.CMay C c' :=
  { h with c1 := by have := h.c1; omega, c2 := h2, near := fun i hi h0 => by have := h.near i hi h0; omega }

theorem TblV.rowsL {w : World} {v : Value} {T : Tbl} (h : TblV w v T) (hm : TMay T) : ∃ (a1 : Option Addr) (n1 c1 : Nat) (a2 : Option Addr) (n2 c2 : Nat) (bn on nc : Nat) (a4 : Option Addr) (n4 c4 n K : Nat),
    v = .agg #[.slice a1 n1 c1, .int .i64 (K : Int), .slice a2 n2 c2, .slice (some ⟨bn, on, none⟩) n nc, .slice a4 n4 c4] ∧ TRows w bn on n K T ∧ 1 ≤ n := by
  obtain ⟨cv, sv, bn, on, nc, lv, n, K, rfl, hT, hn⟩ := h.rows hm
  obtain ⟨_, _, _, _, e, h1, h2, _, h4⟩ := h
  simp only [Value.agg.injEq, Array.mk.injEq, List.cons.injEq, and_true] at e
  obtain ⟨rfl, -, rfl, -, rfl⟩ := e
  obtain ⟨_, a1, c1, rfl, _, _⟩ := h1.open
  obtain ⟨_, a2, c2, rfl, _, _⟩ := h2.open
  obtain ⟨_, a4, c4, rfl, _, _⟩ := h4.open
  exact ⟨_, _, _, _, _, _, _, _, _, _, _, _, _, _, rfl, hT, hn⟩

def two16 : List (List Int) := [[1, -1, 1], [-1, 0, -1]]
theorem two16_may : TMay (tabK two16 3) := tabK_may (by omega) (by omega) (by decide) (by decide)
  (fun i hi => by
    have hi : i < 2 := hi
    rcases (by omega : i = 0 ∨ i = 1) with rfl | rfl <;> rfl)
  (fun i k hi hk => by
    have hi : i < 2 := hi
    rcases (by omega : i = 0 ∨ i = 1) with rfl | rfl <;> rcases (by omega : k = 0 ∨ k = 1 ∨ k = 2) with rfl | rfl | rfl <;> decide)

set_option maxRecDepth 100000 in
set_option maxHeartbeats 4000000 in
theorem wakes16_c (w : World) : Calls Tryd.prog 22 #[] w fun e w' => e = .returned (.bool true) ∧ Ext w w' := by
  obtain ⟨W, hW⟩ : ∃ W, W = ((w.alloc (.cells #[.int .i64 1, .int .i64 (-1), .int .i64 1] 3)).alloc (.cells #[.int .i64 (-1), .int .i64 0, .int .i64 (-1)] 3)).alloc (.cells #[.slice (some ⟨w.heap.size, 0, none⟩) 3 3, .slice (some ⟨w.heap.size + 1, 0, none⟩) 3 3] 23) := ⟨_, rfl⟩
  have hxW : Ext w W := by rw [hW]; exact ((Ext.box _ _).alloc _).alloc _
  have hrows : RowsV W (.slice (some ⟨w.heap.size + 1 + 1, 0, none⟩) 2 2) two16 := by
    have ra : W.rowIs w.heap.size 3 3 (fun i => .int .i64 (([1, -1, 1] : List Int).getD i 0)) := by
      rw [hW]
      exact ((World.rowIs_alloc w #[.int .i64 1, .int .i64 (-1), .int .i64 1] 3 _ (fun i hi => by
        have hi : i < 3 := hi
        rcases (by omega : i = 0 ∨ i = 1 ∨ i = 2) with rfl | rfl | rfl <;> rfl)).alloc _).alloc _
    have rb : W.rowIs (w.heap.size + 1) 3 3 (fun i => .int .i64 (([-1, 0, -1] : List Int).getD i 0)) := by
      have q := (World.rowIs_alloc (w.alloc (.cells #[.int .i64 1, .int .i64 (-1), .int .i64 1] 3)) #[.int .i64 (-1), .int .i64 0, .int .i64 (-1)] 3 (fun i => .int .i64 (([-1, 0, -1] : List Int).getD i 0)) (fun i hi => by
        have hi : i < 3 := hi
        rcases (by omega : i = 0 ∨ i = 1 ∨ i = 2) with rfl | rfl | rfl <;> rfl)).alloc (.cells #[.slice (some ⟨w.heap.size, 0, none⟩) 3 3, .slice (some ⟨w.heap.size + 1, 0, none⟩) 3 3] 23)
      rw [World.size_alloc] at q
      rw [hW]; exact q
    have rc : W.rowIs (w.heap.size + 1 + 1) 23 2 (fun i => if i = 0 then .slice (some ⟨w.heap.size, 0, none⟩) 3 3 else .slice (some ⟨w.heap.size + 1, 0, none⟩) 3 3) := by
      have q := World.rowIs_alloc ((w.alloc (.cells #[.int .i64 1, .int .i64 (-1), .int .i64 1] 3)).alloc (.cells #[.int .i64 (-1), .int .i64 0, .int .i64 (-1)] 3)) #[.slice (some ⟨w.heap.size, 0, none⟩) 3 3, .slice (some ⟨w.heap.size + 1, 0, none⟩) 3 3] 23 (fun i => if i = 0 then .slice (some ⟨w.heap.size, 0, none⟩) 3 3 else .slice (some ⟨w.heap.size + 1, 0, none⟩) 3 3) (fun i hi => by
        have hi : i < 2 := hi
        rcases (by omega : i = 0 ∨ i = 1) with rfl | rfl <;> rfl)
      rw [World.size_alloc, World.size_alloc] at q
      rw [hW]; exact q
    refine rowIs_rows rc rfl (by omega) 2 (Nat.le_refl _) fun i hi => ?_
    rcases (by omega : i = 0 ∨ i = 1) with rfl | rfl
    · exact rowIs_ints ra rfl (by omega) 3 (Nat.le_refl _)
    · exact rowIs_ints rb rfl (by omega) 3 (Nat.le_refl _)
  have htab := table_c hrows (by decide) (by decide) (K := 3) (by omega) (by omega) rfl
  have H := Lib.hid (And.intro hxW (And.intro htab hW))
  clear hxW htab hW hrows
  go_enter Tryd.func22, Tryd.ntmps22
  go_wp2_with fail
  rw [← H.out.2.2]
  refine H.out.2.1.mono ?_
  rintro e w1 ⟨v, rfl, hT, hx1⟩
  obtain ⟨a1, n1, c1, a2, n2, c2, bn, on, nc, a4, n4, c4, n, K, rfl, hTR, hn1⟩ := hT.rowsL two16_may
  obtain ⟨w2, hw2⟩ : ∃ w2, w2 = w1.alloc (.cells #[.slice a1 n1 c1, .int .i64 (K : Int), .slice a2 n2 c2, .slice (some ⟨bn, on, none⟩) n nc, .slice a4 n4 c4] 37) := ⟨_, rfl⟩
  have hx2 : Ext w1 w2 := by rw [hw2]; exact Ext.box _ _
  have r0 : w2.cell? ⟨w1.heap.size, 0, none⟩ = some (.slice a1 n1 c1) := by rw [hw2]; simp
  have r1 : w2.cell? ⟨w1.heap.size, 1, none⟩ = some (.int .i64 (K : Int)) := by rw [hw2]; simp
  have r2 : w2.cell? ⟨w1.heap.size, 2, none⟩ = some (.slice a2 n2 c2) := by rw [hw2]; simp
  have r3 : w2.cell? ⟨w1.heap.size, 3, none⟩ = some (.slice (some ⟨bn, on, none⟩) n nc) := by rw [hw2]; simp
  have r4 : w2.cell? ⟨w1.heap.size, 4, none⟩ = some (.slice a4 n4 c4) := by rw [hw2]; simp
  have hp := pack_c (hT.ext hx2) two16_may
  have H1 := Lib.hid (And.intro (hT.ext hx2) (And.intro (hTR.ext hx2) (And.intro hp (And.intro (H.out.1.trans (hx1.trans hx2)) hw2))))
  have HR := Lib.hid (And.intro r0 (And.intro r1 (And.intro r2 (And.intro r3 r4))))
  clear hT hTR hp hx1 hx2 hw2 r0 r1 r2 r3 r4
  go_wp2_with fail
  rw [← H1.out.2.2.2.2]
  refine H1.out.2.2.1.mono ?_
  rintro e w3 ⟨bv, dv, nv, cv, C, own, rfl, hF, hsl, hO, hx3⟩
  have hcnt := H1.out.2.1.cnt
  have hmay : CB.CMay C (K : Int) := by
    rw [← hcnt]
    exact hF.may two16_may (by omega) two16_may.count1.1 two16_may.count1.2
  have hK3 : K = 3 := by
    have : ((tabK two16 3).count : Int) = 3 := rfl
    omega
  have hcv := hO.read hF two16_may hsl
  obtain ⟨bb, ob, cb, bd, od, cd, an, cn, ac, cc, n', m, hval, hin⟩ := hcv.opened hmay
  simp only [Value.agg.injEq, Array.mk.injEq, List.cons.injEq, and_true] at hval
  obtain ⟨rfl, rfl, rfl, rfl⟩ := hval
  obtain rfl : n' = n := by rw [← hin.nlen, hF.blen, H1.out.2.1.len]
  obtain ⟨w4, hw4⟩ : ∃ w4, w4 = w3.alloc (.cells #[.slice (some ⟨bb, ob, none⟩) n' cb, .slice (some ⟨bd, od, none⟩) n' cd, .slice an m cn, .slice ac m cc] 40) := ⟨_, rfl⟩
  have hx4 : Ext w3 w4 := by rw [hw4]; exact Ext.box _ _
  have q0 : w4.cell? ⟨w3.heap.size, 0, none⟩ = some (.slice (some ⟨bb, ob, none⟩) n' cb) := by rw [hw4]; simp
  have q1 : w4.cell? ⟨w3.heap.size, 1, none⟩ = some (.slice (some ⟨bd, od, none⟩) n' cd) := by rw [hw4]; simp
  have q2 : w4.cell? ⟨w3.heap.size, 2, none⟩ = some (.slice an m cn) := by rw [hw4]; simp
  have q3 : w4.cell? ⟨w3.heap.size, 3, none⟩ = some (.slice ac m cc) := by rw [hw4]; simp
  have hx24 := hx3.trans hx4
  have hpk := packs_c (cb := cb) (cd := cd) (cn := cn) (cc := cc) (nc := nc) (tcv := .slice a1 n1 c1) (tsv := .slice a2 n2 c2) (tlv := .slice a4 n4 c4) (hcv.ext hx4) (hin.ext hx4) (H1.out.2.1.ext hx24) hF hmay
  have k0 := hx3.cell HR.out.1
  have k1 := hx3.cell HR.out.2.1
  have k2 := hx3.cell HR.out.2.2.1
  have k3 := hx3.cell HR.out.2.2.2.1
  have k4 := hx3.cell HR.out.2.2.2.2
  have hlt1 := lt_of_cell k0
  have H2 := Lib.hid (And.intro hcv (And.intro hx4 (And.intro hpk (And.intro hx24 (And.intro hw4 (And.intro hF (And.intro hmay hK3)))))))
  have HQ := Lib.hid (And.intro q0 (And.intro q1 (And.intro q2 q3)))
  clear hcv hin hO hx3 hx4 hpk hx24 hw4 hF hmay hK3 hcnt hsl q0 q1 q2 q3
  go_wp2_with fail
  rw [← H2.out.2.2.2.2.1]
  refine H2.out.2.2.1.mono ?_
  rintro e w5 ⟨rfl, hx5⟩
  have q0 := hx5.cell HQ.out.1
  have q1 := hx5.cell HQ.out.2.1
  have q2 := hx5.cell HQ.out.2.2.1
  have q3 := hx5.cell HQ.out.2.2.2
  have hck := ccheck_c (k := 3) ((H2.out.1.ext H2.out.2.1).ext hx5)
  rw [CB.mayC_true.2 (by have := H2.out.2.2.2.2.2.2.1; rw [H2.out.2.2.2.2.2.2.2] at this; exact this)] at hck
  have H3 := Lib.hid (And.intro hck hx5)
  clear hck hx5 k0 k1 k2 k3 k4 hlt1
  go_wp2_with fail
  refine H3.out.1.mono ?_
  rintro e w6 ⟨rfl, hx6⟩
  have hx46 := H3.out.2.trans hx6
  have q0 := hx46.cell HQ.out.1
  have q1 := hx46.cell HQ.out.2.1
  have q2 := hx46.cell HQ.out.2.2.1
  have q3 := hx46.cell HQ.out.2.2.2
  have hlen : C.base.length = 2 := H2.out.2.2.2.2.2.1.blen
  have hlk := look_c (k := 1) (s := 1) ((H2.out.1.ext H2.out.2.1).ext hx46) (H2.out.2.2.2.2.2.2.1.wide (c' := 256) (by rw [H2.out.2.2.2.2.2.2.2]; omega) (Int.le_refl _)) (by omega) (by omega)
  have hen := H2.out.2.2.2.2.2.1.entry (k := 1) (by show 1 < (3 : Int).toNat; decide) 1 (by decide)
  have hpr := CB.look_probes (k := 1) (C := C) (fun i hi => (H2.out.2.2.2.2.2.2.1.base i hi).2.2.2) 1 (by omega)
  rw [hen, show CB.nx (tabK two16 3) 1 1 = 0 from rfl] at hlk
  obtain ⟨pr, hprr⟩ : ∃ p, p = (CB.look C 1 1).2 := ⟨_, rfl⟩
  rw [← hprr] at hlk hpr
  have H4 := Lib.hid (And.intro hlk hx46)
  have hp1 : (1 : Int) ≤ (pr : Int) := by omega
  have hp2 : (pr : Int) ≤ 2 := by omega
  clear hlk hx46 hx6 hen hprr hlen
  go_wp2_with fail
  refine H4.out.1.mono ?_
  rintro e w7 ⟨rfl, hx7⟩
  have HX := Lib.hid (H1.out.2.2.2.1.trans (H2.out.2.2.2.1.trans (H4.out.2.trans hx7)))
  clear hx7 q0 q1 q2 q3
  go_wp2
  go_ret
  exact ⟨rfl, HX.out⟩
end Go.Proofs.YtpeipjfmibjoiaaDoor
