/- bolterlaw15.RowsChecks: any tables, made by hand: whether they may be, and their entries. -/
import Derived.Test.YtngbaaiocoobdaaDoorTblOps
import Derived.Test.YtngbaaiocoobdaaDoorWakes15
import Derived.Test.YtngbaaiocoobdaaDoorTexts
import Derived.Deep.DeepCutAuto
namespace Go.Proofs.YtngbaaiocoobdaaDoor
open Go.RowKit

/-- a table among others in a list -/
def TblAt (w : World) (b o : Nat) (T : Tbl) : Prop :=
  ∃ cv sv nv lv, w.cell? ⟨b, o, none⟩ = some cv ∧ w.cell? ⟨b, o + 1, none⟩ = some (.int .i64 T.count) ∧ w.cell? ⟨b, o + 2, none⟩ = some sv ∧ w.cell? ⟨b, o + 3, none⟩ = some nv ∧ w.cell? ⟨b, o + 4, none⟩ = some lv ∧ TblV w (.agg #[cv, .int .i64 T.count, sv, nv, lv]) T
abbrev TblsV (w : World) (v : Value) (l : List Tbl) : Prop := SliceV 5 TblAt w v l

set_option maxRecDepth 100000 in
set_option maxHeartbeats 4000000 in
theorem checksLaw_c {w : World} {v1 v2 v3 : Value} {l : List Tbl} {ss bs : List Int} {a : Nat → Addr} (h : TblsV w v1 l) (hf : ∀ T ∈ l, TblFits T) (hs : Ints w v2 ss) (hb : IntsK .u8 w v3 bs) (hb8 : ∀ z ∈ bs, 0 ≤ z ∧ z ≤ 255) (hS : Sents w a) :
    Calls Tryd.prog 11 #[.agg #[v1, v2, v3]] w fun e w' => e = .returned (.bool true) ∧ Ext w w' := by
  obtain ⟨hl1, la, lc, rfl, _, hlo⟩ := h
  obtain ⟨hs1, sa, sc, rfl, _, hso⟩ := hs.open
  obtain ⟨hb1, ba, bc, rfl, _, hbo⟩ := hb.open
  obtain ⟨L, hL⟩ : ∃ L, L = l.length := ⟨_, rfl⟩
  obtain ⟨S, hSS⟩ : ∃ S, S = ss.length := ⟨_, rfl⟩
  obtain ⟨B, hBB⟩ : ∃ B, B = bs.length := ⟨_, rfl⟩
  rw [← hL] at hl1 hlo ⊢
  rw [← hSS] at hs1 hso ⊢
  rw [← hBB] at hb1 hbo ⊢
  have H := Lib.hid (And.intro hlo (And.intro hf (And.intro hso (And.intro hbo (And.intro hb8 (And.intro hS (And.intro hL (And.intro hSS hBB))))))))
  clear hlo hf hso hbo hb8 hS hL hSS hBB hs hb
  go_enter Tryd.func11, Tryd.ntmps11
  go_wp2
  obtain ⟨wb, hwb⟩ : ∃ wb, wb = w.alloc (.cells #[.slice la L lc, .slice sa S sc, .slice ba B bc] 79) := ⟨_, rfl⟩
  have hxb : Ext w wb := by rw [hwb]; exact Ext.box _ _
  have q0 : wb.cell? ⟨w.heap.size, 0, none⟩ = some (.slice la L lc) := by rw [hwb]; simp
  have q1 : wb.cell? ⟨w.heap.size, 1, none⟩ = some (.slice sa S sc) := by rw [hwb]; simp
  have q2 : wb.cell? ⟨w.heap.size, 2, none⟩ = some (.slice ba B bc) := by rw [hwb]; simp
  obtain ⟨pb, hpb⟩ : ∃ pb, pb = w.heap.size := ⟨_, rfl⟩
  rw [← hwb]
  rw [← hpb] at q0 q1 q2 ⊢
  have HQ := Lib.hid (And.intro hxb (And.intro q0 (And.intro q1 q2)))
  clear hxb q0 q1 q2 hwb hpb
  go_loopw [3] (fun iv wr => Ext wb wr ∧ ∃ i : Nat, i ≤ L ∧ iv = .int .i64 i) (fun iv _ => L - (intOf iv).toNat)
  case atStart => exact ⟨Ext.refl _, 0, Nat.zero_le _, rfl⟩
  case round =>
    rename World => w1
    obtain ⟨hx1, i, hi, rfl⟩ := hrel
    have k0 := hx1.cell HQ.out.2.1
    by_cases hlt : i < L
    · have hj1 : (i : Int) < L := by omega
      by_cases h6 : i < 6
      · have hj2 : (i : Int) < 6 := by omega
        obtain ⟨lb, lo, rfl, hla⟩ := H.out.1 (by omega)
        obtain ⟨T, hT⟩ : ∃ T, l[i]? = some T := ⟨_, List.getElem?_eq_getElem (by rw [← H.out.2.2.2.2.2.2.1]; exact hlt)⟩
        obtain ⟨cv, sv, nv, lv, c0, c1, c2, c3, c4, hTV⟩ := hla i T hT
        have hTf := H.out.2.1 T (List.mem_of_getElem? hT)
        have hxw1 := HQ.out.1.trans hx1
        obtain ⟨_, _, _, _, hv, y1, y2, y3, y4⟩ := hTV
        simp only [Value.agg.injEq, Array.mk.injEq, List.cons.injEq, and_true, true_and] at hv
        obtain ⟨rfl, rfl, rfl, rfl⟩ := hv
        have hTV : TblV w (.agg #[cv, .int .i64 T.count, sv, nv, lv]) T := ⟨_, _, _, _, rfl, y1, y2, y3, y4⟩
        obtain ⟨_, t1, u1, rfl, _, _⟩ := y1.open
        obtain ⟨_, t2, u2', rfl, _, _⟩ := y2.open
        obtain ⟨hn3, t3, u3', rfl, _, _⟩ := y3.open
        obtain ⟨_, t4, u4', rfl, _, _⟩ := y4.open
        clear y1 y2 y3 y4
        obtain ⟨n1, hn1⟩ : ∃ n, n = T.classes.length := ⟨_, rfl⟩
        obtain ⟨n2, hn2⟩ : ∃ n, n = T.starts.length := ⟨_, rfl⟩
        obtain ⟨n3, hn3'⟩ : ∃ n, n = T.next.length := ⟨_, rfl⟩
        obtain ⟨n4, hn4⟩ : ∃ n, n = T.label.length := ⟨_, rfl⟩
        obtain ⟨ct, hct⟩ : ∃ c, c = T.count := ⟨_, rfl⟩
        rw [← hn1] at c0 hTV
        rw [← hct] at c1 hTV
        rw [← hn2] at c2 hTV
        rw [← hn3'] at c3 hTV hn3
        rw [← hn4] at c4 hTV
        have d0 := hxw1.cell c0
        have d1 := hxw1.cell c1
        have d2 := hxw1.cell c2
        have d3 := hxw1.cell c3
        have d4 := hxw1.cell c4
        have HD := Lib.hid (And.intro hx1 (And.intro hxw1 (And.intro hT (And.intro hTV (And.intro hTf (And.intro c0 (And.intro c1 (And.intro c2 (And.intro c3 (And.intro c4 (And.intro hn1 (And.intro hn2 (And.intro hn3' (And.intro hn4 hct))))))))))))))
        clear hx1 hxw1 hT hTV hTf c0 c1 c2 c3 c4 hn1 hn2 hn3' hn4 hct hla
        by_cases h1000 : n3 ≤ 1000
        · have hj3 : ¬ (1000 : Int) < n3 := by omega
          have hcp := copyTable_c (HD.out.2.2.2.1.ext HD.out.2.1) HD.out.2.2.2.2.1
          unfold CopiedTbl at hcp
          have HC := Lib.hid hcp
          clear hcp
          go_wp2_with fail
          refine HC.out.mono ?_
          rintro e w2 ⟨v', rfl, hR, hx2⟩
          have hR' := hR
          obtain ⟨r1, s1, r2, s2, r3, s3, r4, s4, hv', _, _⟩ := hR'.open
          subst hv'
          rw [← HD.out.2.2.2.2.2.2.2.2.2.2.1, ← HD.out.2.2.2.2.2.2.2.2.2.2.2.1, ← HD.out.2.2.2.2.2.2.2.2.2.2.2.2.1, ← HD.out.2.2.2.2.2.2.2.2.2.2.2.2.2.1, ← HD.out.2.2.2.2.2.2.2.2.2.2.2.2.2.2] at hR ⊢
          obtain ⟨w3, hw3⟩ : ∃ w3, w3 = w2.alloc (.cells #[.slice r1 n1 s1, .int .i64 ct, .slice r2 n2 s2, .slice r3 n3 s3, .slice r4 n4 s4] 39) := ⟨_, rfl⟩
          have hx3 : Ext w2 w3 := by rw [hw3]; exact Ext.box _ _
          have z0 : w3.cell? ⟨w2.heap.size, 0, none⟩ = some (.slice r1 n1 s1) := by rw [hw3]; simp
          have z1 : w3.cell? ⟨w2.heap.size, 1, none⟩ = some (.int .i64 ct) := by rw [hw3]; simp
          have z2 : w3.cell? ⟨w2.heap.size, 2, none⟩ = some (.slice r2 n2 s2) := by rw [hw3]; simp
          have z3 : w3.cell? ⟨w2.heap.size, 3, none⟩ = some (.slice r3 n3 s3) := by rw [hw3]; simp
          have z4 : w3.cell? ⟨w2.heap.size, 4, none⟩ = some (.slice r4 n4 s4) := by rw [hw3]; simp
          have hx13 := hx2.trans hx3
          have hxw3 := HD.out.2.1.trans hx13
          have k0 := hx13.cell k0
          have d0 := hx13.cell d0
          have d1 := hx13.cell d1
          have d2 := hx13.cell d2
          have d3 := hx13.cell d3
          have d4 := hx13.cell d4
          have hmy := tmay_c (HD.out.2.2.2.1.ext hxw3)
          obtain ⟨m, hm⟩ : ∃ m, m = mayT T := ⟨_, rfl⟩
          rw [← hm] at hmy
          have H3 := Lib.hid (And.intro hx13 (And.intro hxw3 (And.intro hmy (And.intro (hR.ext hx3) (And.intro z0 (And.intro z1 (And.intro z2 (And.intro z3 (And.intro z4 hm)))))))))
          clear hx2 hx3 hx13 hxw3 hmy hR hm z0 z1 z2 z3 z4
          go_upto_region 6 with fail
          rw [← hw3]
          obtain ⟨rb, hrb⟩ : ∃ rb, rb = w2.heap.size := ⟨_, rfl⟩
          rw [← hrb]
          have HRB := Lib.hid hrb
          clear hw3 hrb
          go_wp2_with fail
          refine H3.out.2.2.1.mono ?_
          rintro e w4 ⟨rfl, hx4⟩
          have z0 := hx4.cell H3.out.2.2.2.2.1
          have z1 := hx4.cell H3.out.2.2.2.2.2.1
          have z2 := hx4.cell H3.out.2.2.2.2.2.2.1
          have z3 := hx4.cell H3.out.2.2.2.2.2.2.2.1
          have z4 := hx4.cell H3.out.2.2.2.2.2.2.2.2.1
          rw [← HRB.out] at z0 z1 z2 z3 z4
          have hck := rcheck_c (H3.out.2.2.2.1.ext hx4)
          rw [← H3.out.2.2.2.2.2.2.2.2.2] at hck
          have hmm : (m != m) = false := by simp
          have H4 := Lib.hid (And.intro hx4 hck)
          clear hx4 hck k0 d0 d1 d2 d3 d4
          go_wp2_with fail
          refine H4.out.2.mono ?_
          rintro e w5 ⟨rfl, hx5⟩
          have hx35 := H4.out.1.trans hx5
          have hR5 := H3.out.2.2.2.1.ext hx35
          have z0 := hx5.cell z0
          have z1 := hx5.cell z1
          have z2 := hx5.cell z2
          have z3 := hx5.cell z3
          have z4 := hx5.cell z4
          have H5 := Lib.hid (And.intro (H3.out.1.trans hx35) (And.intro (H3.out.2.1.trans hx35) (And.intro hR5 (And.intro z0 (And.intro z1 (And.intro z2 (And.intro z3 z4)))))))
          clear hx5 hx35 hR5 z0 z1 z2 z3 z4
          go_wp2
          clear hmm
          go_loopw [6] (fun kv wr => Ext w5 wr ∧ ∃ k : Nat, k ≤ S ∧ kv = .int .i64 k) (fun kv _ => S - (intOf kv).toNat)
          case atStart => exact ⟨Ext.refl _, 0, Nat.zero_le _, rfl⟩
          case round =>
            rename World => w6
            obtain ⟨hx6, k, hk, rfl⟩ := hrel
            have hx16 := H5.out.1.trans hx6
            have hxb6 := HD.out.1.trans hx16
            have hxw6 := H5.out.2.1.trans hx6
            have k1 := hxb6.cell HQ.out.2.2.1
            have k2 := hxb6.cell HQ.out.2.2.2
            by_cases hgo : k < S ∧ k < B ∧ k < 18
            · obtain ⟨g1, g2, g3⟩ := hgo
              have hj7 : (k : Int) < S := by omega
              have hj8 : (k : Int) < B := by omega
              have hj9 : (k : Int) < 18 := by omega
              obtain ⟨sb, so, rfl, hsc⟩ := H.out.2.2.1 (by omega)
              obtain ⟨bb, bo, rfl, hbc⟩ := H.out.2.2.2.1 (by omega)
              have es := hxw6.cell (hsc k g1)
              have eb := hxw6.cell (hbc k g2)
              obtain ⟨s, hs⟩ : ∃ s, s = ss.getD k 0 := ⟨_, rfl⟩
              have hbr := H.out.2.2.2.2.1 _ (mem_getD (z := 0) (l := bs) (i := k) (by rw [← H.out.2.2.2.2.2.2.2.2]; exact g2))
              obtain ⟨β, hβ⟩ : ∃ β : Nat, (β : Int) = bs.getD k 0 := ⟨(bs.getD k 0).toNat, by omega⟩
              rw [← hs] at es
              rw [← hβ] at eb hbr
              have hb256 : β < 256 := by omega
              have HEB := Lib.hid (show w.cell? ⟨bb, bo + k, none⟩ = some (.int .u8 (β : Int)) by have h := hbc k g2; rw [← hβ] at h; exact h)
              clear hs hβ hsc hbc
              by_cases hg : TMay T ∧ 0 ≤ s ∧ s < n3
              · obtain ⟨hTM, hs0, hs1⟩ := hg
                obtain ⟨σ, rfl⟩ : ∃ σ : Nat, s = σ := ⟨s.toNat, by omega⟩
                obtain rfl : m = true := by rw [H3.out.2.2.2.2.2.2.2.2.2]; exact mayT_true.2 hTM
                have hσ : σ < T.next.length := by rw [← HD.out.2.2.2.2.2.2.2.2.2.2.2.2.1]; omega
                have hent := fun z => entry_c (H5.out.2.2.1.ext (hx6.trans (grow_ext w6 z))) hTM hσ hb256
                have hEn : T.entry σ β = (T.next.getD σ []).getD (T.classes.getD β 0).toNat 0 := rfl
                obtain ⟨x, hx⟩ : ∃ x, x = T.entry σ β := ⟨_, rfl⟩
                rw [← hx] at hent hEn
                have HEn := Lib.hid (And.intro hEn (And.intro hTM hσ))
                clear hEn hTM hx hσ
                have hs2 : ¬ (n3 : Int) ≤ σ := by omega
                have y0 := fun z => (hx6.trans (grow_ext w6 z)).cell H5.out.2.2.2.1
                have y1 := fun z => (hx6.trans (grow_ext w6 z)).cell H5.out.2.2.2.2.1
                have y2 := fun z => (hx6.trans (grow_ext w6 z)).cell H5.out.2.2.2.2.2.1
                have y3 := fun z => (hx6.trans (grow_ext w6 z)).cell H5.out.2.2.2.2.2.2.1
                have y4 := fun z => (hx6.trans (grow_ext w6 z)).cell H5.out.2.2.2.2.2.2.2
                have p2 := fun z => (hxb6.trans (grow_ext w6 z)).cell HQ.out.2.2.2
                have eb' := fun z => (grow_ext w6 z).cell eb
                have HE := Lib.hid (And.intro hent (And.intro hx6 (And.intro hxb6 (And.intro hxw6 hx16))))
                clear hent hx6 hx16 hxb6 hxw6 eb
                go_wp2_with fail
                clear k1 k2 es
                refine wp_region_grow (by kernel_rfl) (by kernel_rfl) ?_
                repeat (go_big_quiet_step ((go_at_call 44; with_reducible exact calls_grow (HE.out.1 _))))
                refine wpQuiet_nil ?_
                rintro _ ⟨z, rfl⟩
                clear y0 y1 y2 y3 y4 p2 eb'
                obtain ⟨w7, hw7⟩ : ∃ W, W = growW w6 z := ⟨_, rfl⟩
                have hx7 : Ext w6 w7 := by rw [hw7]; exact grow_ext w6 z
                rw [← hw7]
                have hx57 := HE.out.2.1.trans hx7
                have z3 := hx57.cell H5.out.2.2.2.2.2.2.1
                have H7 := Lib.hid (And.intro hx7 hx57)
                clear hx7 hw7 hx57
                obtain ⟨ac, cc', sa', sc', an, nc', al, lc', hv, hcl, ho⟩ := (HD.out.2.2.2.1).open
                simp only [Value.agg.injEq, Array.mk.injEq, List.cons.injEq, and_true, Value.slice.injEq, Value.int.injEq, true_and] at hv
                obtain ⟨⟨rfl, -, rfl⟩, -, -, ⟨rfl, -, rfl⟩, -⟩ := hv
                obtain ⟨_, _, _, hca, _, hco⟩ := hcl.open
                simp only [Value.slice.injEq] at hca
                obtain ⟨rfl, -, rfl⟩ := hca
                have hl256 := HEn.out.2.1.cls.len
                obtain ⟨bn, on, rfl, hnx⟩ := ho.next (by have := HEn.out.2.2; omega)
                obtain ⟨cb, co, rfl, hcc⟩ := hco (by omega)
                obtain ⟨r, hr, hrow⟩ := hnx σ HEn.out.2.2
                obtain ⟨_, ra, cr, rfl, _, hro⟩ := hrow.open
                have hκ := HEn.out.2.1.cls_lt HEn.out.2.2 hb256
                have hc1 := hcc β (by omega)
                have hc0 := (HEn.out.2.1.cls.step β hb256).1
                have hEn := HEn.out.1
                obtain ⟨κ, hκκ⟩ : ∃ κ, κ = (T.classes.getD β 0).toNat := ⟨_, rfl⟩
                rw [show T.classes.getD β 0 = (κ : Int) by omega] at hc1
                rw [← hκκ] at hκ hEn
                obtain ⟨rb2, ro2, rfl, hcell⟩ := hro (by omega)
                have hc3 := hcell κ hκ
                rw [← hEn] at hc3
                obtain ⟨R, hRR⟩ : ∃ R, R = (T.next.getD σ []).length := ⟨_, rfl⟩
                rw [← hRR] at hκ hr
                have hn256 : n1 = 256 := HD.out.2.2.2.2.2.2.2.2.2.2.1.trans hl256
                have hxw7 := HE.out.2.2.2.1.trans H7.out.1
                have hxb7 := HE.out.2.2.1.trans H7.out.1
                have p0 := hxb7.cell HQ.out.2.1
                have p2 := hxb7.cell HQ.out.2.2.2
                have d0 := hxw7.cell HD.out.2.2.2.2.2.1
                have d3 := hxw7.cell HD.out.2.2.2.2.2.2.2.2.1
                have e1 := hxw7.cell HEB.out
                have e2 := hxw7.cell hr
                have e3 := hxw7.cell hc1
                have e4 := hxw7.cell hc3
                have hcv : IntKind.i64.wrap (β : Int) = (β : Int) := IntWalk.i64_in _ (by omega)
                have hxx : (x != x) = false := by simp
                have hja : (σ : Int) < n3 := hs1
                have hjb : (β : Int) < n1 := by omega
                have hjc : (κ : Int) < R := by omega
                clear hr hc1 hc3 hEn hκκ hRR hn256 hcell hro hrow hnx hcc hco hcl ho hl256 hc0 hxw7 hxb7
                go_wp2_with fail
                go_quiet (fail)
                go_wp2
                go_roundw
                case rel => exact ⟨H7.out.2.drewN _, k + 1, by omega, by go_num⟩
                case measure => simp [intOf]; omega
              · have hno : ¬ (TMay T ∧ 0 ≤ s ∧ s < T.next.length) := by rw [← HD.out.2.2.2.2.2.2.2.2.2.2.2.2.1]; exact hg
                have hent := fun z => entry_no (b := (β : Int)) (H5.out.2.2.1.ext (hx6.trans (grow_ext w6 z))) (H.out.2.2.2.2.2.1.ext (hxw6.trans (grow_ext w6 z))) hno
                have hm3 : m = true → ¬ (0 ≤ s ∧ s < n3) := fun e hh => hg ⟨mayT_true.1 (by rw [← H3.out.2.2.2.2.2.2.2.2.2]; exact e), hh⟩
                have HN := Lib.hid hm3
                clear hno hg hm3
                have y0 := fun z => (hx6.trans (grow_ext w6 z)).cell H5.out.2.2.2.1
                have y1 := fun z => (hx6.trans (grow_ext w6 z)).cell H5.out.2.2.2.2.1
                have y2 := fun z => (hx6.trans (grow_ext w6 z)).cell H5.out.2.2.2.2.2.1
                have y3 := fun z => (hx6.trans (grow_ext w6 z)).cell H5.out.2.2.2.2.2.2.1
                have y4 := fun z => (hx6.trans (grow_ext w6 z)).cell H5.out.2.2.2.2.2.2.2
                have p2 := fun z => (hxb6.trans (grow_ext w6 z)).cell HQ.out.2.2.2
                have eb' := fun z => (grow_ext w6 z).cell eb
                have HE := Lib.hid (And.intro hent (And.intro hx6 (And.intro hxb6 (And.intro hxw6 hx16))))
                clear hent hx6 hx16 hxb6 hxw6 eb
                go_wp2_with fail
                clear k1 k2 es
                refine wp_region_grow (by kernel_rfl) (by kernel_rfl) ?_
                repeat (go_big_quiet_step ((go_at_call 44; with_reducible exact calls_grow (HE.out.1 _))))
                refine wpQuiet_nil ?_
                rintro _ ⟨z, rfl⟩
                clear y0 y1 y2 y3 y4 p2 eb'
                obtain ⟨w7, hw7⟩ : ∃ W, W = growW w6 z := ⟨_, rfl⟩
                have hx7 : Ext w6 w7 := by rw [hw7]; exact grow_ext w6 z
                rw [← hw7]
                have hx57 := HE.out.2.1.trans hx7
                have z3 := hx57.cell H5.out.2.2.2.2.2.2.1
                have H7 := Lib.hid (And.intro hx7 hx57)
                clear hx7 hw7 hx57
                cases m
                · go_wp2_with fail
                  refine (isFault_c 15 _).mono ?_
                  rintro e w8 ⟨rfl, hx8⟩
                  have hx78 := HE.out.2.2.2.1.trans (H7.out.1.trans hx8)
                  have hsm := same_arg (H.out.2.2.2.2.2.1.ext hx78)
                  have H8 := Lib.hid (And.intro hsm hx8)
                  clear hsm hx8 hx78
                  unfold faultV at H8 ⊢
                  go_wp2_with fail
                  refine H8.out.1.mono ?_
                  rintro e w9 ⟨rfl, hx9⟩
                  have HX := Lib.hid (H7.out.2.trans (H8.out.2.trans hx9))
                  clear hx9 z3
                  go_wp2
                  go_roundw
                  case rel => exact ⟨HX.out, k + 1, by omega, by go_num⟩
                  case measure => simp [intOf]; omega
                · by_cases hsn : s < 0
                  · go_wp2_with fail
                    refine (isFault_c 15 _).mono ?_
                    rintro e w8 ⟨rfl, hx8⟩
                    have hx78 := HE.out.2.2.2.1.trans (H7.out.1.trans hx8)
                    have hsm := same_arg (H.out.2.2.2.2.2.1.ext hx78)
                    have H8 := Lib.hid (And.intro hsm hx8)
                    clear hsm hx8 hx78
                    unfold faultV at H8 ⊢
                    go_wp2_with fail
                    refine H8.out.1.mono ?_
                    rintro e w9 ⟨rfl, hx9⟩
                    have HX := Lib.hid (H7.out.2.trans (H8.out.2.trans hx9))
                    clear hx9 z3
                    go_wp2
                    go_roundw
                    case rel => exact ⟨HX.out, k + 1, by omega, by go_num⟩
                    case measure => simp [intOf]; omega
                  · have hs2 : (n3 : Int) ≤ s := by have := HN.out rfl; omega
                    go_wp2_with fail
                    refine (isFault_c 15 _).mono ?_
                    rintro e w8 ⟨rfl, hx8⟩
                    have hx78 := HE.out.2.2.2.1.trans (H7.out.1.trans hx8)
                    have hsm := same_arg (H.out.2.2.2.2.2.1.ext hx78)
                    have H8 := Lib.hid (And.intro hsm hx8)
                    clear hsm hx8 hx78
                    unfold faultV at H8 ⊢
                    go_wp2_with fail
                    refine H8.out.1.mono ?_
                    rintro e w9 ⟨rfl, hx9⟩
                    have HX := Lib.hid (H7.out.2.trans (H8.out.2.trans hx9))
                    clear hx9 z3
                    go_wp2
                    go_roundw
                    case rel => exact ⟨HX.out, k + 1, by omega, by go_num⟩
                    case measure => simp [intOf]; omega
            · by_cases g1 : k < S
              · have hj7 : (k : Int) < S := by omega
                by_cases g2 : k < B
                · have hj8 : (k : Int) < B := by omega
                  have hj9 : ¬ (k : Int) < 18 := fun h => hgo ⟨g1, g2, by omega⟩
                  clear hgo
                  have hcl := fun z => eqTable_c (H5.out.2.2.1.ext (hx6.trans (grow_ext w6 z))) (HD.out.2.2.2.1.ext (hxw6.trans (grow_ext w6 z)))
                  have p0 := fun z => (hxb6.trans (grow_ext w6 z)).cell HQ.out.2.1
                  have y0 := fun z => (hx6.trans (grow_ext w6 z)).cell H5.out.2.2.2.1
                  have y1 := fun z => (hx6.trans (grow_ext w6 z)).cell H5.out.2.2.2.2.1
                  have y2 := fun z => (hx6.trans (grow_ext w6 z)).cell H5.out.2.2.2.2.2.1
                  have y3 := fun z => (hx6.trans (grow_ext w6 z)).cell H5.out.2.2.2.2.2.2.1
                  have y4 := fun z => (hx6.trans (grow_ext w6 z)).cell H5.out.2.2.2.2.2.2.2
                  have x0 := fun z => (hxw6.trans (grow_ext w6 z)).cell HD.out.2.2.2.2.2.1
                  have x1 := fun z => (hxw6.trans (grow_ext w6 z)).cell HD.out.2.2.2.2.2.2.1
                  have x2 := fun z => (hxw6.trans (grow_ext w6 z)).cell HD.out.2.2.2.2.2.2.2.1
                  have x3 := fun z => (hxw6.trans (grow_ext w6 z)).cell HD.out.2.2.2.2.2.2.2.2.1
                  have x4 := fun z => (hxw6.trans (grow_ext w6 z)).cell HD.out.2.2.2.2.2.2.2.2.2.1
                  have HE := Lib.hid (And.intro hcl hxb6)
                  clear hcl hx6 hx16 hxb6 hxw6
                  go_wp2_with fail
                  clear k1 k2
                  refine wp_region_grow (by kernel_rfl) (by kernel_rfl) ?_
                  repeat (go_big_quiet_step ((go_at_call 38; with_reducible exact calls_grow (HE.out.1 _))))
                  refine wpQuiet_nil ?_
                  rintro _ ⟨z, rfl⟩
                  have HX := Lib.hid (HE.out.2.trans (grow_ext w6 z))
                  clear p0 y0 y1 y2 y3 y4 x0 x1 x2 x3 x4
                  go_wp2
                  go_roundw
                  case rel => first | exact ⟨HX.out, i + 1, by omega, by go_num⟩ | ((repeat apply Exists.intro); exact ⟨⟨HX.out, i + 1, by omega, by go_num⟩, rfl⟩)
                  case measure => simp [intOf]; omega
                · have hj8 : ¬ (k : Int) < B := by omega
                  clear hgo
                  have hcl := fun z => eqTable_c (H5.out.2.2.1.ext (hx6.trans (grow_ext w6 z))) (HD.out.2.2.2.1.ext (hxw6.trans (grow_ext w6 z)))
                  have p0 := fun z => (hxb6.trans (grow_ext w6 z)).cell HQ.out.2.1
                  have y0 := fun z => (hx6.trans (grow_ext w6 z)).cell H5.out.2.2.2.1
                  have y1 := fun z => (hx6.trans (grow_ext w6 z)).cell H5.out.2.2.2.2.1
                  have y2 := fun z => (hx6.trans (grow_ext w6 z)).cell H5.out.2.2.2.2.2.1
                  have y3 := fun z => (hx6.trans (grow_ext w6 z)).cell H5.out.2.2.2.2.2.2.1
                  have y4 := fun z => (hx6.trans (grow_ext w6 z)).cell H5.out.2.2.2.2.2.2.2
                  have x0 := fun z => (hxw6.trans (grow_ext w6 z)).cell HD.out.2.2.2.2.2.1
                  have x1 := fun z => (hxw6.trans (grow_ext w6 z)).cell HD.out.2.2.2.2.2.2.1
                  have x2 := fun z => (hxw6.trans (grow_ext w6 z)).cell HD.out.2.2.2.2.2.2.2.1
                  have x3 := fun z => (hxw6.trans (grow_ext w6 z)).cell HD.out.2.2.2.2.2.2.2.2.1
                  have x4 := fun z => (hxw6.trans (grow_ext w6 z)).cell HD.out.2.2.2.2.2.2.2.2.2.1
                  have HE := Lib.hid (And.intro hcl hxb6)
                  clear hcl hx6 hx16 hxb6 hxw6
                  go_wp2_with fail
                  clear k1 k2
                  refine wp_region_grow (by kernel_rfl) (by kernel_rfl) ?_
                  repeat (go_big_quiet_step ((go_at_call 38; with_reducible exact calls_grow (HE.out.1 _))))
                  refine wpQuiet_nil ?_
                  rintro _ ⟨z, rfl⟩
                  have HX := Lib.hid (HE.out.2.trans (grow_ext w6 z))
                  clear p0 y0 y1 y2 y3 y4 x0 x1 x2 x3 x4
                  go_wp2
                  go_roundw
                  case rel => first | exact ⟨HX.out, i + 1, by omega, by go_num⟩ | ((repeat apply Exists.intro); exact ⟨⟨HX.out, i + 1, by omega, by go_num⟩, rfl⟩)
                  case measure => simp [intOf]; omega
              · obtain rfl : S = k := by omega
                clear hgo g1 hk
                have hcl := fun z => eqTable_c (H5.out.2.2.1.ext (hx6.trans (grow_ext w6 z))) (HD.out.2.2.2.1.ext (hxw6.trans (grow_ext w6 z)))
                have p0 := fun z => (hxb6.trans (grow_ext w6 z)).cell HQ.out.2.1
                have y0 := fun z => (hx6.trans (grow_ext w6 z)).cell H5.out.2.2.2.1
                have y1 := fun z => (hx6.trans (grow_ext w6 z)).cell H5.out.2.2.2.2.1
                have y2 := fun z => (hx6.trans (grow_ext w6 z)).cell H5.out.2.2.2.2.2.1
                have y3 := fun z => (hx6.trans (grow_ext w6 z)).cell H5.out.2.2.2.2.2.2.1
                have y4 := fun z => (hx6.trans (grow_ext w6 z)).cell H5.out.2.2.2.2.2.2.2
                have x0 := fun z => (hxw6.trans (grow_ext w6 z)).cell HD.out.2.2.2.2.2.1
                have x1 := fun z => (hxw6.trans (grow_ext w6 z)).cell HD.out.2.2.2.2.2.2.1
                have x2 := fun z => (hxw6.trans (grow_ext w6 z)).cell HD.out.2.2.2.2.2.2.2.1
                have x3 := fun z => (hxw6.trans (grow_ext w6 z)).cell HD.out.2.2.2.2.2.2.2.2.1
                have x4 := fun z => (hxw6.trans (grow_ext w6 z)).cell HD.out.2.2.2.2.2.2.2.2.2.1
                have HE := Lib.hid (And.intro hcl hxb6)
                clear hcl hx6 hx16 hxb6 hxw6
                go_wp2_with fail
                clear k1 k2
                refine wp_region_grow (by kernel_rfl) (by kernel_rfl) ?_
                repeat (go_big_quiet_step ((go_at_call 38; with_reducible exact calls_grow (HE.out.1 _))))
                refine wpQuiet_nil ?_
                rintro _ ⟨z, rfl⟩
                have HX := Lib.hid (HE.out.2.trans (grow_ext w6 z))
                clear p0 y0 y1 y2 y3 y4 x0 x1 x2 x3 x4
                go_wp2
                go_roundw
                case rel => first | exact ⟨HX.out, i + 1, by omega, by go_num⟩ | ((repeat apply Exists.intro); exact ⟨⟨HX.out, i + 1, by omega, by go_num⟩, rfl⟩)
                case measure => simp [intOf]; omega
        · have hj3 : (1000 : Int) < n3 := by omega
          go_wp2
          go_roundw
          case rel => exact ⟨HD.out.1, i + 1, by omega, by go_num⟩
          case measure => simp [intOf]; omega
      · have hj2 : ¬ (i : Int) < 6 := by omega
        have HD := Lib.hid (HQ.out.1.trans hx1)
        clear hx1
        go_wp2_with fail
        refine (wakes15_c _).mono ?_
        rintro e w9 ⟨rfl, hx9⟩
        have HX9 := Lib.hid (HD.out.trans hx9)
        clear hx9
        go_wp2
        go_ret
        exact ⟨rfl, HX9.out⟩
    · obtain rfl : L = i := by omega
      have HD := Lib.hid (HQ.out.1.trans hx1)
      clear hx1 hlt hi
      go_wp2_with fail
      refine (wakes15_c _).mono ?_
      rintro e w9 ⟨rfl, hx9⟩
      have HX9 := Lib.hid (HD.out.trans hx9)
      clear hx9
      go_wp2
      go_ret
      exact ⟨rfl, HX9.out⟩
end Go.Proofs.YtngbaaiocoobdaaDoor
