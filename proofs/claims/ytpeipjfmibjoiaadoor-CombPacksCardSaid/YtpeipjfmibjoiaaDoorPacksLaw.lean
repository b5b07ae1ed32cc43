/- bolterlaw16.CombPacks. By mkpacks.py. -/
import Derived.Test.YtpeipjfmibjoiaaDoorPack
import Derived.Test.YtpeipjfmibjoiaaDoorCombV
import Derived.Test.YtpeipjfmibjoiaaDoorTblOps
import Derived.Test.YtpeipjfmibjoiaaDoorArgComb
import Derived.Test.YtpeipjfmibjoiaaDoorOverI
import Derived.Test.YtpeipjfmibjoiaaDoorEntriesLaw
import Derived.Test.YtpeipjfmibjoiaaDoorTell
namespace Go.Proofs.YtpeipjfmibjoiaaDoor
open Go.RowKit

set_option maxRecDepth 100000 in
set_option maxHeartbeats 2000000 in
theorem pack_no {w : World} {v : Value} {T : Tbl} {a : Nat → Addr} (h : TblV w v T) (hS : Sents w a) (hno : ¬ TMay T) :
    Calls Tryd.prog 23 #[v] w fun e w' => e = .returned (.tuple #[.agg #[.slice none 0 0, .slice none 0 0, .slice none 0 0, .slice none 0 0], .iface 265 (.pointer (some (a 15)))]) ∧ Ext w w' := by
  obtain ⟨ac, cc, sa, sc, an, nc, al, lc, rfl, _, _⟩ := h.open
  obtain ⟨W, hW⟩ : ∃ W, W = (w.alloc (.cells #[.slice ac T.classes.length cc, .int .i64 T.count, .slice sa T.starts.length sc, .slice an T.next.length nc, .slice al T.label.length lc] 37)).alloc (.cells #[.slice none 0 0, .slice none 0 0, .slice none 0 0, .slice none 0 0] 40) := ⟨_, rfl⟩
  have hx : Ext w W := by rw [hW]; exact (Ext.box _ _).alloc _
  have hr : W.rowIs (w.heap.size + 1) 40 4 (cF (.slice none 0 0) (.slice none 0 0) (.slice none 0 0) (.slice none 0 0)) := by
    have q := World.rowIs_alloc (w.alloc (.cells #[.slice ac T.classes.length cc, .int .i64 T.count, .slice sa T.starts.length sc, .slice an T.next.length nc, .slice al T.label.length lc] 37)) #[.slice none 0 0, .slice none 0 0, .slice none 0 0, .slice none 0 0] 40 (cF (.slice none 0 0) (.slice none 0 0) (.slice none 0 0) (.slice none 0 0)) (fun i hi => cF_at hi)
    rw [World.size_alloc] at q
    rw [hW]; exact q
  have hck := rcheck_c (h.ext hx)
  rw [mayT_false hno] at hck
  have hg := hx.cell (hS.cell 15 (by omega) (by omega))
  have hglt := lt_of_cell (hS.cell 15 (by omega) (by omega))
  rw [show gl 15 = 0 from rfl] at hg hglt
  clear h hS hno
  generalize a 15 = x at *
  generalize T.classes.length = n1 at *
  generalize T.starts.length = n2 at *
  generalize T.next.length = n3 at *
  generalize T.label.length = n4 at *
  generalize T.count = ct at *
  have H := Lib.hid (And.intro hck (And.intro hx (And.intro hr (And.intro hg hW))))
  clear hck hx hr hg hW
  go_enter Tryd.func23, Tryd.ntmps23
  go_wp2_with fail
  rw [← H.out.2.2.2.2]
  refine H.out.1.mono ?_
  rintro e w1 ⟨rfl, hx1⟩
  have hr1 := rowIs_ext hx1 H.out.2.2.1
  have d0 : w1.cell? ⟨w.heap.size + 1, 0, none⟩ = some (.slice none 0 0) := hr1.cell (i := 0) (by omega)
  have d1 : w1.cell? ⟨w.heap.size + 1, 1, none⟩ = some (.slice none 0 0) := hr1.cell (i := 1) (by omega)
  have d2 : w1.cell? ⟨w.heap.size + 1, 2, none⟩ = some (.slice none 0 0) := hr1.cell (i := 2) (by omega)
  have d3 : w1.cell? ⟨w.heap.size + 1, 3, none⟩ = some (.slice none 0 0) := hr1.cell (i := 3) (by omega)
  have g0 := hr1.frozen 0
  have g1 := hr1.frozen 1
  have g2 := hr1.frozen 2
  have g3 := hr1.frozen 3
  have gv := hx1.cell H.out.2.2.2.1
  have HR := Lib.hid (And.intro hr1 (H.out.2.1.trans hx1))
  clear hr1 hx1
  have gs : ((((w1.setCell ⟨w.heap.size + 1, 0, none⟩ (.slice none 0 0)).setCell ⟨w.heap.size + 1, 1, none⟩ (.slice none 0 0)).setCell ⟨w.heap.size + 1, 2, none⟩ (.slice none 0 0)).setCell ⟨w.heap.size + 1, 3, none⟩ (.slice none 0 0)).cell? ⟨0, 0, none⟩ = some (.iface 265 (.pointer (some x))) := by
    have hne : ∀ j : Nat, (⟨0, 0, none⟩ : Addr) ≠ ⟨w.heap.size + 1, j, none⟩ := fun j e => by
      have := congrArg Addr.block e
      simp only at this
      omega
    rw [World.cell?_setCell_other _ _ _ _ (hne 3).symm, World.cell?_setCell_other _ _ _ _ (hne 2).symm, World.cell?_setCell_other _ _ _ _ (hne 1).symm, World.cell?_setCell_other _ _ _ _ (hne 0).symm]
    exact gv
  go_wp2_with fail
  go_region
  all_goals
    have hXf : Ext w ((((w1.setCell ⟨w.heap.size + 1, 0, none⟩ (.slice none 0 0)).setCell ⟨w.heap.size + 1, 1, none⟩ (.slice none 0 0)).setCell ⟨w.heap.size + 1, 2, none⟩ (.slice none 0 0)).setCell ⟨w.heap.size + 1, 3, none⟩ (.slice none 0 0)) := (((HR.out.2.setCell (by simp) _).setCell (by simp) _).setCell (by simp) _).setCell (by simp) _
    have hr9 := (((HR.out.1.set 0 (.slice none 0 0)).set 1 (.slice none 0 0)).set 2 (.slice none 0 0)).set 3 (.slice none 0 0)
    clear gs d0 d1 d2 d3 g0 g1 g2 g3 gv
    generalize World.setCell (World.setCell (World.setCell (World.setCell w1 _ _) _ _) _ _) _ _ = Wf at hXf hr9 ⊢
    have z0 : Wf.cell? ⟨w.heap.size + 1, 0, none⟩ = some (.slice none 0 0) := hr9.cell (i := 0) (by omega)
    have z1 : Wf.cell? ⟨w.heap.size + 1, 1, none⟩ = some (.slice none 0 0) := hr9.cell (i := 1) (by omega)
    have z2 : Wf.cell? ⟨w.heap.size + 1, 2, none⟩ = some (.slice none 0 0) := hr9.cell (i := 2) (by omega)
    have z3 : Wf.cell? ⟨w.heap.size + 1, 3, none⟩ = some (.slice none 0 0) := hr9.cell (i := 3) (by omega)
    go_wp2
    (try simp only [Exit.inBlock, Exit.then])
    refine bodyPost_ret (v := .tuple #[.agg #[.slice none 0 0, .slice none 0 0, .slice none 0 0, .slice none 0 0], .iface 265 (.pointer (some x))]) ?_ rfl ?_
    · rw [results_cell_tmp rfl]
      go_simp
    · exact ⟨rfl, hXf.drew⟩
end Go.Proofs.YtpeipjfmibjoiaaDoor

namespace Go.Proofs.YtpeipjfmibjoiaaDoor
open Go.RowKit

theorem Lst.over {w w' : World} {own : Nat → Nat} {j k B : Nat} {e : TypeId} {v u : Value} {xs : List Value} (h : Lst j w own B e v xs) (hg : w.grownBy w' u.ownBlock) (hu : ∀ g, u.ownBlock = some g → own g = k) (hjk : j ≠ k) : Lst j w' own B e v xs :=
  ⟨own_block h.row fun g hb hl => hg.block g hl (fun ee => by
    have h1 := h.tag g hb
    have h2 := hu g ee.symm
    omega), h.tag⟩
theorem over_ext {w0 w w' : World} {u : Value} (h : Ext w0 w) (hg : w.grownBy w' u.ownBlock) (hu : ∀ g, u.ownBlock = some g → w0.heap.size ≤ g) : Ext w0 w' :=
  Below.grown h hg h.size (fun g ee => hu g ee)
theorem over_cell {w w' : World} {u : Value} (hg : w.grownBy w' u.ownBlock) {p : Addr} {x : Value} (hx : w.cell? p = some x) (hu : ∀ g, u.ownBlock = some g → g ≠ p.block) : w'.cell? p = some x :=
  hg.cell hx (fun e => hu p.block e.symm rfl)
theorem ints_of {l : List Int} : ∀ u ∈ intsV l, ∃ x, u = .int .i64 x := by
  intro u hu
  obtain ⟨x, _, rfl⟩ := List.mem_map.1 hu
  exact ⟨x, rfl⟩
theorem nilC (w : World) : CmbV w (.agg #[.slice none 0 0, .slice none 0 0, .slice none 0 0, .slice none 0 0]) ⟨[], [], [], []⟩ :=
  have h : Ints w (.slice none 0 0) [] := ⟨Nat.zero_le _, none, 0, rfl, ⟨Nat.le_refl _, fun _ => rfl⟩, fun h => absurd h (Nat.lt_irrefl _)⟩
  ⟨_, _, _, _, rfl, h, h, h, h⟩

set_option maxRecDepth 100000 in
set_option maxHeartbeats 16000000 in
theorem packsLaw_c {w : World} {v : Value} {l : List Tbl} {a : Nat → Addr} (h : TblsV w v l) (hf : ∀ T ∈ l, TblFits T) (hS : Sents w a) :
    Calls Tryd.prog 12 #[v] w fun e w' => e = .returned (.bool true) ∧ Ext w w' := by
  obtain ⟨hl1, la, lc, rfl, _, hlo⟩ := h
  obtain ⟨L, hL⟩ : ∃ L, L = l.length := ⟨_, rfl⟩
  rw [← hL] at hl1 hlo ⊢
  have H := Lib.hid (And.intro hlo (And.intro hf (And.intro hS hL)))
  clear hlo hf hS hL
  go_enter Tryd.func12, Tryd.ntmps12
  go_wp2
  go_loopw [3] (fun iv wr => Ext w wr ∧ ∃ i : Nat, i ≤ L ∧ iv = .int .i64 i) (fun iv _ => L - (intOf iv).toNat)
  case atStart => exact ⟨Ext.refl _, 0, Nat.zero_le _, rfl⟩
  case round =>
    rename World => w1
    obtain ⟨hx1, i, hi, rfl⟩ := hrel
    by_cases hlt : i < L
    · have hj1 : (i : Int) < L := by omega
      by_cases h6 : i < 6
      · have hj2 : (i : Int) < 6 := by omega
        obtain ⟨lb, lo, rfl, hla⟩ := H.out.1 (by omega)
        obtain ⟨T, hT⟩ : ∃ T, l[i]? = some T := ⟨_, List.getElem?_eq_getElem (by rw [← H.out.2.2.2]; exact hlt)⟩
        obtain ⟨cv, sv, nv, lv, c0, c1, c2, c3, c4, hTV⟩ := hla i T hT
        have hTf := H.out.2.1 T (List.mem_of_getElem? hT)
        clear hla hT
        by_cases hm : TMay T
        · obtain ⟨a1, n1, u1', a2, n2, u2', bn, on, nc, a4, n4, u4', n, K, hv9, hTR, hn1⟩ := hTV.rowsL hm
          simp only [Value.agg.injEq, Array.mk.injEq, List.cons.injEq, and_true, Value.int.injEq, true_and] at hv9
          obtain ⟨rfl, hcK, rfl, rfl, rfl⟩ := hv9
          rw [hcK] at c1 hTV
          have hck := tmay_c (hTV.ext hx1)
          rw [mayT_true.2 hm] at hck
          have hn6 := hTR.n6
          have hk2 := hTR.k2
          obtain ⟨b, hlight⟩ := light16_c (bn := bn) (on := on) (nc := nc) (tcv := .slice a1 n1 u1') (tsv := .slice a2 n2 u2') (tlv := .slice a4 n4 u4') hn6 hk2
          have d0 := hx1.cell c0
          have d1 := hx1.cell c1
          have d2 := hx1.cell c2
          have d3 := hx1.cell c3
          have d4 := hx1.cell c4
          have HD := Lib.hid (And.intro hx1 (And.intro hTV (And.intro hTf (And.intro c0 (And.intro c1 (And.intro c2 (And.intro c3 (And.intro c4 (And.intro hm (And.intro hTR (And.intro hck (And.intro hlight hcK))))))))))))
          clear hx1 hTV hTf c0 c1 c2 c3 c4 hm hTR hck hlight hcK
          go_wp2_with fail
          refine HD.out.2.2.2.2.2.2.2.2.2.2.1.mono ?_
          rintro e w2 ⟨rfl, hx2⟩
          have hx02 := HD.out.1.trans hx2
          have d0 := hx02.cell HD.out.2.2.2.1
          have d1 := hx02.cell HD.out.2.2.2.2.1
          have d2 := hx02.cell HD.out.2.2.2.2.2.1
          have d3 := hx02.cell HD.out.2.2.2.2.2.2.1
          have d4 := hx02.cell HD.out.2.2.2.2.2.2.2.1
          have HX2 := Lib.hid hx02
          clear hx2 hx02
          go_wp2_with fail
          refine (HD.out.2.2.2.2.2.2.2.2.2.2.2.1 _).mono ?_
          rintro e w3 ⟨rfl, hx3⟩
          have hx02 := HX2.out.trans hx3
          have d0 := hx02.cell HD.out.2.2.2.1
          have d1 := hx02.cell HD.out.2.2.2.2.1
          have d2 := hx02.cell HD.out.2.2.2.2.2.1
          have d3 := hx02.cell HD.out.2.2.2.2.2.2.1
          have d4 := hx02.cell HD.out.2.2.2.2.2.2.2.1
          have HX3 := Lib.hid hx02
          clear hx3 hx02
          cases b
          · go_wp2
            go_roundw
            case rel => exact ⟨HX3.out, i + 1, by omega, by go_num⟩
            case measure => simp [intOf]; omega
          · have hn7 : ¬ (700 : Int) < n := by omega
            have hcp := copyTable_c (HD.out.2.1.ext HX3.out) HD.out.2.2.1
            unfold CopiedTbl at hcp
            have HC := Lib.hid hcp
            clear hcp
            go_wp2_with fail
            refine HC.out.mono ?_
            rintro e w4 ⟨v', rfl, hR, hx4⟩
            obtain ⟨r1, m1, s1, r2, m2, s2, br, or, rc, r4, m4, s4, n', K', rfl, hRR, _⟩ := hR.rowsL HD.out.2.2.2.2.2.2.2.2.1
            obtain rfl : n' = n := by rw [← hRR.len, HD.out.2.2.2.2.2.2.2.2.2.1.len]
            obtain rfl : K' = K := by have h1 := hRR.cnt; have h2 := HD.out.2.2.2.2.2.2.2.2.2.1.cnt; omega
            obtain ⟨w5, hw5⟩ : ∃ w5, w5 = w4.alloc (.cells #[.slice r1 m1 s1, .int .i64 (K' : Int), .slice r2 m2 s2, .slice (some ⟨br, or, none⟩) n' rc, .slice r4 m4 s4] 37) := ⟨_, rfl⟩
            have hx5 : Ext w4 w5 := by rw [hw5]; exact Ext.box _ _
            have hz : ∀ W, Ext w5 W → W.cell? ⟨w4.heap.size, 0, none⟩ = some (.slice r1 m1 s1) ∧ W.cell? ⟨w4.heap.size, 1, none⟩ = some (.int .i64 (K' : Int)) ∧ W.cell? ⟨w4.heap.size, 2, none⟩ = some (.slice r2 m2 s2) ∧ W.cell? ⟨w4.heap.size, 3, none⟩ = some (.slice (some ⟨br, or, none⟩) n' rc) ∧ W.cell? ⟨w4.heap.size, 4, none⟩ = some (.slice r4 m4 s4) := fun W hx => by
              refine ⟨hx.cell ?_, hx.cell ?_, hx.cell ?_, hx.cell ?_, hx.cell ?_⟩ <;> (rw [hw5]; simp)
            have H5 := Lib.hid (And.intro (HX3.out.trans (hx4.trans hx5)) (And.intro (hR.ext hx5) (And.intro hz hw5)))
            clear hx4 hx5 hR hRR hz hw5 d0 d1 d2 d3 d4 hn7
            go_wp2_with fail
            rw [← H5.out.2.2.2]
            obtain ⟨rb, hrb⟩ : ∃ rb, rb = w4.heap.size := ⟨_, rfl⟩
            rw [← hrb]
            have HRB := Lib.hid hrb
            clear hrb
            go_loopw [6] (fun kv wr => Ext w5 wr ∧ ∃ k : Nat, k ≤ 2 ∧ kv = .int .i64 k) (fun kv _ => 2 - (intOf kv).toNat)
            case atStart => exact ⟨Ext.refl _, 0, Nat.zero_le _, rfl⟩
            case round =>
              rename World => w6
              obtain ⟨hx6, k, hk, rfl⟩ := hrel
              by_cases hk2' : k < 2
              · have hj3 : (k : Int) < 2 := by omega
                obtain ⟨z0, z1, z2, z3, z4⟩ := H5.out.2.2.1 _ hx6
                rw [← HRB.out] at z0 z1 z2 z3 z4
                have hp := pack_c (H5.out.2.1.ext hx6) HD.out.2.2.2.2.2.2.2.2.1
                have HP := Lib.hid (And.intro hp hx6)
                clear hp hx6
                go_wp2_with fail
                refine HP.out.1.mono ?_
                rintro e w7 ⟨bv, dv, xv, yv, C, own, rfl, hF, hsl, hO, hx7⟩
                have hcnt := HD.out.2.2.2.2.2.2.2.2.2.1.cnt
                have hTM := HD.out.2.2.2.2.2.2.2.2.1
                have hmay : CB.CMay C (K' : Int) := by
                  rw [← hcnt]
                  exact hF.may hTM (by omega) hTM.count1.1 hTM.count1.2
                have hcv := hO.read hF hTM hsl
                obtain ⟨bb, ob, cb, bd, od, cd, an, cn, ac, cc, n9, mm, hval, hin⟩ := hcv.opened hmay
                simp only [Value.agg.injEq, Array.mk.injEq, List.cons.injEq, and_true] at hval
                obtain ⟨rfl, rfl, rfl, rfl⟩ := hval
                obtain rfl : n9 = n' := by rw [← hin.nlen, hF.blen, HD.out.2.2.2.2.2.2.2.2.2.1.len]
                obtain ⟨w8, hw8⟩ : ∃ w8, w8 = w7.alloc (.cells #[.slice (some ⟨bb, ob, none⟩) n9 cb, .slice (some ⟨bd, od, none⟩) n9 cd, .slice an mm cn, .slice ac mm cc] 40) := ⟨_, rfl⟩
                have hx8 : Ext w7 w8 := by rw [hw8]; exact Ext.box _ _
                have q0 : w8.cell? ⟨w7.heap.size, 0, none⟩ = some (.slice (some ⟨bb, ob, none⟩) n9 cb) := by rw [hw8]; simp
                have q1 : w8.cell? ⟨w7.heap.size, 1, none⟩ = some (.slice (some ⟨bd, od, none⟩) n9 cd) := by rw [hw8]; simp
                have q2 : w8.cell? ⟨w7.heap.size, 2, none⟩ = some (.slice an mm cn) := by rw [hw8]; simp
                have q3 : w8.cell? ⟨w7.heap.size, 3, none⟩ = some (.slice ac mm cc) := by rw [hw8]; simp
                obtain ⟨bx, hbx⟩ : ∃ b, b = w7.heap.size := ⟨_, rfl⟩
                have hx58 := HP.out.2.trans (hx7.trans hx8)
                have hxw8 := H5.out.1.trans hx58
                have hpk := fun z => packs_c (cb := cb) (cd := cd) (cn := cn) (cc := cc) (nc := nc) (tcv := .slice a1 n1 u1') (tsv := .slice a2 n2 u2') (tlv := .slice a4 n4 u4') ((hcv.ext hx8).ext (grow_ext w8 z)) ((hin.ext hx8).ext (grow_ext w8 z)) (HD.out.2.2.2.2.2.2.2.2.2.1.ext (hxw8.trans (grow_ext w8 z))) hF hmay
                have h5s := H5.out.2.1
                have H8 := Lib.hid (And.intro hO (And.intro hx8 (And.intro hx58 (And.intro hpk (And.intro hw8 (And.intro (HP.out.2.size) (And.intro hbx (And.intro hF (And.intro hsl hx7.size)))))))))
                have HQ := Lib.hid (And.intro q0 (And.intro q1 (And.intro q2 q3)))
                rw [← hbx] at q0 q1 q2 q3
                have q0' := fun z => (grow_ext w8 z).cell q0
                have q1' := fun z => (grow_ext w8 z).cell q1
                have q2' := fun z => (grow_ext w8 z).cell q2
                have q3' := fun z => (grow_ext w8 z).cell q3
                have d0' := fun z => (hxw8.trans (grow_ext w8 z)).cell HD.out.2.2.2.1
                have d1' := fun z => (hxw8.trans (grow_ext w8 z)).cell HD.out.2.2.2.2.1
                have d2' := fun z => (hxw8.trans (grow_ext w8 z)).cell HD.out.2.2.2.2.2.1
                have d3' := fun z => (hxw8.trans (grow_ext w8 z)).cell HD.out.2.2.2.2.2.2.1
                have d4' := fun z => (hxw8.trans (grow_ext w8 z)).cell HD.out.2.2.2.2.2.2.2.1
                clear hO hx7 hx8 hx58 hxw8 hpk hw8 hF hsl hcv hin hcnt hTM hmay q0 q1 q2 q3 z0 z1 z2 z3 z4 hbx h5s
                go_upto_region 14 with fail
                rw [← H8.out.2.2.2.2.1, ← H8.out.2.2.2.2.2.2.1]
                refine wp_region_grow (by kernel_rfl) (by kernel_rfl) ?_
                repeat (go_big_quiet_step ((go_at_call 60; with_reducible exact calls_grow (H8.out.2.2.2.1 _))))
                refine wpQuiet_nil ?_
                rintro _ ⟨z, rfl⟩
                obtain ⟨w9, hw9⟩ : ∃ W, W = growW w8 z := ⟨_, rfl⟩
                have hx9 : Ext w8 w9 := by rw [hw9]; exact grow_ext w8 z
                rw [← hw9]
                clear hw9 q0' q1' q2' q3' d0' d1' d2' d3' d4'
                have hx79 := H8.out.2.1.trans hx9
                have l1 := H8.out.1.base.ext hx79
                have l2 := H8.out.1.dflt.ext hx79
                have l3 := H8.out.1.next.ext hx79
                have l4 := H8.out.1.check.ext hx79
                have q0 := hx9.cell HQ.out.1
                have q1 := hx9.cell HQ.out.2.1
                have q2 := hx9.cell HQ.out.2.2.1
                have q3 := hx9.cell HQ.out.2.2.2
                rw [← H8.out.2.2.2.2.2.2.1] at q0 q1 q2 q3
                have hs67 := H8.out.2.2.2.2.2.2.2.2.2
                have hs56 := H8.out.2.2.2.2.2.1
                have hsb := H8.out.2.2.2.2.2.2.1
                have hB9 : w6.heap.size ≤ w9.heap.size := Nat.le_trans hs67 hx79.size
                have hE9 := H8.out.2.2.1.trans hx9
                have f1 : ∀ g, (Value.slice (some ⟨bb, ob, none⟩) n9 cb).ownBlock = some g → w5.heap.size ≤ g ∧ g ≠ bx := fun g e => by have := H8.out.1.base.row.lt g e; exact ⟨by omega, by omega⟩
                have f2 : ∀ g, (Value.slice (some ⟨bd, od, none⟩) n9 cd).ownBlock = some g → w5.heap.size ≤ g ∧ g ≠ bx := fun g e => by have := H8.out.1.dflt.row.lt g e; exact ⟨by omega, by omega⟩
                have f3 : ∀ g, (Value.slice an mm cn).ownBlock = some g → w5.heap.size ≤ g ∧ g ≠ bx := fun g e => by have := H8.out.1.next.row.lt g e; exact ⟨by omega, by omega⟩
                have f4 : ∀ g, (Value.slice ac mm cc).ownBlock = some g → w5.heap.size ≤ g ∧ g ≠ bx := fun g e => by have := H8.out.1.check.row.lt g e; exact ⟨by omega, by omega⟩
                have hTl := HD.out.2.2.2.2.2.2.2.2.2.1.len
                have hFF := H8.out.2.2.2.2.2.2.2.1
                have hsl := H8.out.2.2.2.2.2.2.2.2.1
                have L1 : (intsV C.base).length ≤ 1000000 := by rw [intsV_len]; have := hFF.blen; omega
                have L2 : (intsV C.dflt).length ≤ 1000000 := by rw [intsV_len]; have := hFF.dlen; omega
                have L3 : (intsV C.next).length ≤ 1000000 := by rw [intsV_len]; omega
                have L4 : (intsV C.check).length ≤ 1000000 := by rw [intsV_len]; have := hFF.clen; omega
                have HL := Lib.hid (And.intro hE9 (And.intro hB9 (And.intro l1 (And.intro l2 (And.intro l3 (And.intro l4 (And.intro f1 (And.intro f2 (And.intro f3 (And.intro f4 (And.intro L1 (And.intro L2 (And.intro L3 L4)))))))))))))
                clear hs67 hs56 hsb hB9 hE9 f1 f2 f3 f4 hTl hFF hsl L1 L2 L3 L4 l1 l2 l3 l4 hx79 hx9
                go_wp2_with fail
                refine (overInts_c HL.out.2.2.1.row ints_of HL.out.2.1 HL.out.2.2.2.2.2.2.2.2.2.2.1).mono ?_
                rintro e w10 ⟨rfl, hg⟩
                have hE := over_ext HL.out.1 hg (fun g e => (HL.out.2.2.2.2.2.2.1 g e).1)
                have hB := Nat.le_trans HL.out.2.1 hg.size
                have m2 := (HL.out.2.2.2.1).over hg (HL.out.2.2.1).tag (by decide)
                replace q1 := over_cell hg q1 (fun g e => (HL.out.2.2.2.2.2.2.1 g e).2)
                have m3 := (HL.out.2.2.2.2.1).over hg (HL.out.2.2.1).tag (by decide)
                replace q2 := over_cell hg q2 (fun g e => (HL.out.2.2.2.2.2.2.1 g e).2)
                have m4 := (HL.out.2.2.2.2.2.1).over hg (HL.out.2.2.1).tag (by decide)
                replace q3 := over_cell hg q3 (fun g e => (HL.out.2.2.2.2.2.2.1 g e).2)
                have HM1 := Lib.hid (And.intro hE (And.intro hB (And.intro m2 (And.intro m3 m4))))
                clear hg hE hB q0 m2 m3 m4
                go_wp2_with fail
                refine (overInts_c HM1.out.2.2.1.row ints_of HM1.out.2.1 HL.out.2.2.2.2.2.2.2.2.2.2.2.1).mono ?_
                rintro e w11 ⟨rfl, hg⟩
                have hE := over_ext HM1.out.1 hg (fun g e => (HL.out.2.2.2.2.2.2.2.1 g e).1)
                have hB := Nat.le_trans HM1.out.2.1 hg.size
                have m3 := (HM1.out.2.2.2.1).over hg (HM1.out.2.2.1).tag (by decide)
                replace q2 := over_cell hg q2 (fun g e => (HL.out.2.2.2.2.2.2.2.1 g e).2)
                have m4 := (HM1.out.2.2.2.2).over hg (HM1.out.2.2.1).tag (by decide)
                replace q3 := over_cell hg q3 (fun g e => (HL.out.2.2.2.2.2.2.2.1 g e).2)
                have HM2 := Lib.hid (And.intro hE (And.intro hB (And.intro m3 m4)))
                clear hg hE hB q1 m3 m4
                go_wp2_with fail
                refine (overInts_c HM2.out.2.2.1.row ints_of HM2.out.2.1 HL.out.2.2.2.2.2.2.2.2.2.2.2.2.1).mono ?_
                rintro e w12 ⟨rfl, hg⟩
                have hE := over_ext HM2.out.1 hg (fun g e => (HL.out.2.2.2.2.2.2.2.2.1 g e).1)
                have hB := Nat.le_trans HM2.out.2.1 hg.size
                have m4 := (HM2.out.2.2.2).over hg (HM2.out.2.2.1).tag (by decide)
                replace q3 := over_cell hg q3 (fun g e => (HL.out.2.2.2.2.2.2.2.2.1 g e).2)
                have HM3 := Lib.hid (And.intro hE (And.intro hB m4))
                clear hg hE hB q2 m4
                go_wp2_with fail
                refine (overInts_c HM3.out.2.2.row ints_of HM3.out.2.1 HL.out.2.2.2.2.2.2.2.2.2.2.2.2.2).mono ?_
                rintro e w13 ⟨rfl, hg⟩
                have hE := over_ext HM3.out.1 hg (fun g e => (HL.out.2.2.2.2.2.2.2.2.2.1 g e).1)
                have hB := Nat.le_trans HM3.out.2.1 hg.size
                have HM4 := Lib.hid (And.intro hE hB)
                clear hg hE hB q3 
                go_wp2
                go_roundw
                case rel => exact ⟨HM4.out.1, k + 1, by omega, by go_num⟩
                case measure => simp [intOf]; omega
              · have hj3 : ¬ (k : Int) < 2 := by omega
                have hxw6 := H5.out.1.trans hx6
                have hcl := fun z => eqTable_c ((H5.out.2.1.ext hx6).ext (grow_ext w6 z)) (HD.out.2.1.ext (hxw6.trans (grow_ext w6 z)))
                have y0 := fun z => (H5.out.2.2.1 _ (hx6.trans (grow_ext w6 z))).1
                have y1 := fun z => (H5.out.2.2.1 _ (hx6.trans (grow_ext w6 z))).2.1
                have y2 := fun z => (H5.out.2.2.1 _ (hx6.trans (grow_ext w6 z))).2.2.1
                have y3 := fun z => (H5.out.2.2.1 _ (hx6.trans (grow_ext w6 z))).2.2.2.1
                have y4 := fun z => (H5.out.2.2.1 _ (hx6.trans (grow_ext w6 z))).2.2.2.2
                rw [← HRB.out] at y0 y1 y2 y3 y4
                have x0 := fun z => (hxw6.trans (grow_ext w6 z)).cell HD.out.2.2.2.1
                have x1 := fun z => (hxw6.trans (grow_ext w6 z)).cell HD.out.2.2.2.2.1
                have x2 := fun z => (hxw6.trans (grow_ext w6 z)).cell HD.out.2.2.2.2.2.1
                have x3 := fun z => (hxw6.trans (grow_ext w6 z)).cell HD.out.2.2.2.2.2.2.1
                have x4 := fun z => (hxw6.trans (grow_ext w6 z)).cell HD.out.2.2.2.2.2.2.2.1
                have HE := Lib.hid (And.intro hcl hxw6)
                clear hcl hx6 hxw6
                go_wp2_with fail
                refine wp_region_grow (by kernel_rfl) (by kernel_rfl) ?_
                repeat (go_big_quiet_step ((go_at_call 56; with_reducible exact calls_grow (HE.out.1 _))))
                refine wpQuiet_nil ?_
                rintro _ ⟨z, rfl⟩
                have HX := Lib.hid (HE.out.2.trans (grow_ext w6 z))
                clear y0 y1 y2 y3 y4 x0 x1 x2 x3 x4
                go_wp2
                go_roundw
                case rel => first | exact ⟨HX.out, i + 1, by omega, by go_num⟩ | ((repeat apply Exists.intro); exact ⟨⟨HX.out, i + 1, by omega, by go_num⟩, rfl⟩)
                case measure => simp [intOf]; omega
        · obtain ⟨a1, u1', a2, u2', a3, u3', a4, u4', hv9, _, _⟩ := hTV.open
          simp only [Value.agg.injEq, Array.mk.injEq, List.cons.injEq, and_true, true_and] at hv9
          obtain ⟨rfl, rfl, rfl, rfl⟩ := hv9
          obtain ⟨n1, hn1⟩ : ∃ n, n = T.classes.length := ⟨_, rfl⟩
          obtain ⟨n2, hn2⟩ : ∃ n, n = T.starts.length := ⟨_, rfl⟩
          obtain ⟨n3, hn3⟩ : ∃ n, n = T.next.length := ⟨_, rfl⟩
          obtain ⟨n4, hn4⟩ : ∃ n, n = T.label.length := ⟨_, rfl⟩
          obtain ⟨ct, hct⟩ : ∃ c, c = T.count := ⟨_, rfl⟩
          rw [← hn1] at c0 hTV
          rw [← hct] at c1 hTV
          rw [← hn2] at c2 hTV
          rw [← hn3] at c3 hTV
          rw [← hn4] at c4 hTV
          have hck := tmay_c (hTV.ext hx1)
          rw [mayT_false hm] at hck
          have d0 := hx1.cell c0
          have d1 := hx1.cell c1
          have d2 := hx1.cell c2
          have d3 := hx1.cell c3
          have d4 := hx1.cell c4
          have HN := Lib.hid (And.intro hn1 (And.intro hct (And.intro hn2 (And.intro hn3 hn4))))
          have HD := Lib.hid (And.intro hx1 (And.intro hTV (And.intro hTf (And.intro c0 (And.intro c1 (And.intro c2 (And.intro c3 (And.intro c4 (And.intro hm hck)))))))))
          clear hx1 hTV hTf c0 c1 c2 c3 c4 hm hck hn1 hct hn2 hn3 hn4
          go_wp2_with fail
          refine HD.out.2.2.2.2.2.2.2.2.2.mono ?_
          rintro e w2 ⟨rfl, hx2⟩
          have hx02 := HD.out.1.trans hx2
          have d0 := hx02.cell HD.out.2.2.2.1
          have d1 := hx02.cell HD.out.2.2.2.2.1
          have d2 := hx02.cell HD.out.2.2.2.2.2.1
          have d3 := hx02.cell HD.out.2.2.2.2.2.2.1
          have d4 := hx02.cell HD.out.2.2.2.2.2.2.2.1
          have HX3 := Lib.hid hx02
          clear hx2 hx02
          by_cases h700 : 700 < n3
          · have hj3 : (700 : Int) < n3 := by omega
            go_wp2
            go_roundw
            case rel => exact ⟨HX3.out, i + 1, by omega, by go_num⟩
            case measure => simp [intOf]; omega
          · have hj3 : ¬ (700 : Int) < n3 := by omega
            have hcp := copyTable_c (HD.out.2.1.ext HX3.out) HD.out.2.2.1
            unfold CopiedTbl at hcp
            have HC := Lib.hid hcp
            clear hcp
            go_wp2_with fail
            refine HC.out.mono ?_
            rintro e w4 ⟨v', rfl, hR, hx4⟩
            have hR' := hR
            obtain ⟨r1, s1, r2, s2, r3, s3, r4, s4, hv', _, _⟩ := hR'.open
            subst hv'
            rw [← HN.out.1, ← HN.out.2.1, ← HN.out.2.2.1, ← HN.out.2.2.2.1, ← HN.out.2.2.2.2] at hR ⊢
            obtain ⟨w5, hw5⟩ : ∃ w5, w5 = w4.alloc (.cells #[.slice r1 n1 s1, .int .i64 ct, .slice r2 n2 s2, .slice r3 n3 s3, .slice r4 n4 s4] 37) := ⟨_, rfl⟩
            have hx5 : Ext w4 w5 := by rw [hw5]; exact Ext.box _ _
            have hz : ∀ W, Ext w5 W → W.cell? ⟨w4.heap.size, 0, none⟩ = some (.slice r1 n1 s1) ∧ W.cell? ⟨w4.heap.size, 1, none⟩ = some (.int .i64 ct) ∧ W.cell? ⟨w4.heap.size, 2, none⟩ = some (.slice r2 n2 s2) ∧ W.cell? ⟨w4.heap.size, 3, none⟩ = some (.slice r3 n3 s3) ∧ W.cell? ⟨w4.heap.size, 4, none⟩ = some (.slice r4 n4 s4) := fun W hx => by
              refine ⟨hx.cell ?_, hx.cell ?_, hx.cell ?_, hx.cell ?_, hx.cell ?_⟩ <;> (rw [hw5]; simp)
            have H5 := Lib.hid (And.intro (HX3.out.trans (hx4.trans hx5)) (And.intro (hR.ext hx5) (And.intro hz hw5)))
            clear hx4 hx5 hR hz hw5 d0 d1 d2 d3 d4 hj3
            go_wp2_with fail
            rw [← H5.out.2.2.2]
            obtain ⟨rb, hrb⟩ : ∃ rb, rb = w4.heap.size := ⟨_, rfl⟩
            rw [← hrb]
            have HRB := Lib.hid hrb
            clear hrb
            go_loopw [6] (fun kv wr => Ext w5 wr ∧ ∃ k : Nat, k ≤ 2 ∧ kv = .int .i64 k) (fun kv _ => 2 - (intOf kv).toNat)
            case atStart => exact ⟨Ext.refl _, 0, Nat.zero_le _, rfl⟩
            case round =>
              rename World => w6
              obtain ⟨hx6, k, hk, rfl⟩ := hrel
              by_cases hk2' : k < 2
              · have hj3 : (k : Int) < 2 := by omega
                obtain ⟨z0, z1, z2, z3, z4⟩ := H5.out.2.2.1 _ hx6
                rw [← HRB.out] at z0 z1 z2 z3 z4
                have hp := pack_no (H5.out.2.1.ext hx6) (H.out.2.2.1.ext (H5.out.1.trans hx6)) HD.out.2.2.2.2.2.2.2.2.1
                have HP := Lib.hid (And.intro hp hx6)
                clear hp hx6
                go_wp2_with fail
                refine HP.out.1.mono ?_
                rintro e w7 ⟨rfl, hx7⟩
                have HX7 := Lib.hid (HP.out.2.trans hx7)
                clear hx7 z0 z1 z2 z3 z4
                obtain ⟨w8, hw8⟩ : ∃ w8, w8 = w7.alloc (.cells #[.slice none 0 0, .slice none 0 0, .slice none 0 0, .slice none 0 0] 40) := ⟨_, rfl⟩
                have hx8 : Ext w7 w8 := by rw [hw8]; exact Ext.box _ _
                have q0 : w8.cell? ⟨w7.heap.size, 0, none⟩ = some (.slice none 0 0) := by rw [hw8]; simp
                have q1 : w8.cell? ⟨w7.heap.size, 1, none⟩ = some (.slice none 0 0) := by rw [hw8]; simp
                have q2 : w8.cell? ⟨w7.heap.size, 2, none⟩ = some (.slice none 0 0) := by rw [hw8]; simp
                have q3 : w8.cell? ⟨w7.heap.size, 3, none⟩ = some (.slice none 0 0) := by rw [hw8]; simp
                have H8 := Lib.hid (And.intro (HX7.out.trans hx8) (And.intro q0 (And.intro q1 (And.intro q2 (And.intro q3 hw8)))))
                clear hx8 q0 q1 q2 q3 hw8
                go_wp2_with fail
                rw [← H8.out.2.2.2.2.2]
                refine (isFault_c 15 _).mono ?_
                rintro e w9 ⟨rfl, hx9⟩
                have hxw9 := (H5.out.1.trans H8.out.1).trans hx9
                have hsm := same_arg (H.out.2.2.1.ext hxw9)
                have H9 := Lib.hid (And.intro hsm hx9)
                clear hsm hx9 hxw9
                unfold faultV at H9 ⊢
                go_wp2_with fail
                refine H9.out.1.mono ?_
                rintro e w10 ⟨rfl, hx10⟩
                have hx8a := H9.out.2.trans hx10
                have q0 := hx8a.cell H8.out.2.1
                have q1 := hx8a.cell H8.out.2.2.1
                have q2 := hx8a.cell H8.out.2.2.2.1
                have q3 := hx8a.cell H8.out.2.2.2.2.1
                have HX10 := Lib.hid (H8.out.1.trans hx8a)
                clear hx10 hx8a
                go_wp2_with fail
                refine (eqComb_c (nilC _) (nilC _)).mono ?_
                rintro e w11 ⟨rfl, hx11⟩
                have HX11 := Lib.hid (HX10.out.trans hx11)
                clear hx11 q0 q1 q2 q3
                go_wp2
                go_roundw
                case rel => exact ⟨HX11.out, k + 1, by omega, by go_num⟩
                case measure => simp [intOf]; omega
              · have hj3 : ¬ (k : Int) < 2 := by omega
                have hxw6 := H5.out.1.trans hx6
                have hcl := fun z => eqTable_c ((H5.out.2.1.ext hx6).ext (grow_ext w6 z)) (HD.out.2.1.ext (hxw6.trans (grow_ext w6 z)))
                have y0 := fun z => (H5.out.2.2.1 _ (hx6.trans (grow_ext w6 z))).1
                have y1 := fun z => (H5.out.2.2.1 _ (hx6.trans (grow_ext w6 z))).2.1
                have y2 := fun z => (H5.out.2.2.1 _ (hx6.trans (grow_ext w6 z))).2.2.1
                have y3 := fun z => (H5.out.2.2.1 _ (hx6.trans (grow_ext w6 z))).2.2.2.1
                have y4 := fun z => (H5.out.2.2.1 _ (hx6.trans (grow_ext w6 z))).2.2.2.2
                rw [← HRB.out] at y0 y1 y2 y3 y4
                have x0 := fun z => (hxw6.trans (grow_ext w6 z)).cell HD.out.2.2.2.1
                have x1 := fun z => (hxw6.trans (grow_ext w6 z)).cell HD.out.2.2.2.2.1
                have x2 := fun z => (hxw6.trans (grow_ext w6 z)).cell HD.out.2.2.2.2.2.1
                have x3 := fun z => (hxw6.trans (grow_ext w6 z)).cell HD.out.2.2.2.2.2.2.1
                have x4 := fun z => (hxw6.trans (grow_ext w6 z)).cell HD.out.2.2.2.2.2.2.2.1
                have HE := Lib.hid (And.intro hcl hxw6)
                clear hcl hx6 hxw6
                go_wp2_with fail
                refine wp_region_grow (by kernel_rfl) (by kernel_rfl) ?_
                repeat (go_big_quiet_step ((go_at_call 56; with_reducible exact calls_grow (HE.out.1 _))))
                refine wpQuiet_nil ?_
                rintro _ ⟨z, rfl⟩
                have HX := Lib.hid (HE.out.2.trans (grow_ext w6 z))
                clear y0 y1 y2 y3 y4 x0 x1 x2 x3 x4
                go_wp2
                go_roundw
                case rel => first | exact ⟨HX.out, i + 1, by omega, by go_num⟩ | ((repeat apply Exists.intro); exact ⟨⟨HX.out, i + 1, by omega, by go_num⟩, rfl⟩)
                case measure => simp [intOf]; omega
      · have hj2 : ¬ (i : Int) < 6 := by omega
        have HD := Lib.hid hx1
        clear hx1
        go_wp2_with fail
        refine (wakes16_c _).mono ?_
        rintro e w9 ⟨rfl, hx9⟩
        have HX9 := Lib.hid (HD.out.trans hx9)
        clear hx9
        go_wp2
        go_ret
        exact ⟨rfl, HX9.out⟩
    · obtain rfl : L = i := by omega
      have HD := Lib.hid hx1
      clear hx1 hlt hi
      go_wp2_with fail
      refine (wakes16_c _).mono ?_
      rintro e w9 ⟨rfl, hx9⟩
      have HX9 := Lib.hid (HD.out.trans hx9)
      clear hx9
      go_wp2
      go_ret
      exact ⟨rfl, HX9.out⟩
end Go.Proofs.YtpeipjfmibjoiaaDoor

