/- bolterlaw12.LeastOne. -/
import Derived.Test.YthnojechejckpaaDoorTurned
import Derived.Test.YthnojechejckpaaDoorOneS
import Derived.Test.YthnojechejckpaaDoorClassMath
import Derived.Test.YthnojechejckpaaDoorEqDense
import Derived.Test.YthnojechejckpaaDoorMay
import Derived.Test.YthnojechejckpaaDoorLeast
import Derived.Test.YthnojechejckpaaDoorDenseForm
import Derived.Deep.DeepCutAuto
import Derived.Deep.CutBlock
import Derived.Deep.RegionHeld3
namespace Go.Proofs.YthnojechejckpaaDoor
open Go.RowKit

/-- what the two makes and the struct leave -/
structure XNew (w3 wx : World) (N gX gL bX : Nat) : Prop where
  ext : Ext w3 wx
  xge : w3.heap.size ≤ gX
  lge : w3.heap.size ≤ gL
  bge : w3.heap.size ≤ bX
  ne : gX ≠ gL ∧ bX ≠ gX ∧ bX ≠ gL
  c0 : wx.cell? ⟨bX, 0, none⟩ = some (.slice (some ⟨gX, 0, none⟩) N N)
  c1 : wx.cell? ⟨bX, 1, none⟩ = some (.slice (some ⟨gL, 0, none⟩) N N)
  hdr : wx.rowIs gX 23 N (fun _ => .slice none 0 0)
  lab : wx.rowIs gL 3 N (fun _ => .int .i64 0)

theorem heap_three (w : World) (a b c : Obj) : (((w.alloc a).alloc b).alloc c).drew.heap[w.heap.size]? = some a ∧ (((w.alloc a).alloc b).alloc c).drew.heap[w.heap.size + 1]? = some b ∧ (((w.alloc a).alloc b).alloc c).drew.heap[w.heap.size + 1 + 1]? = some c := by
  show (((w.heap.push a).push b).push c)[w.heap.size]? = some a ∧ (((w.heap.push a).push b).push c)[w.heap.size + 1]? = some b ∧ (((w.heap.push a).push b).push c)[w.heap.size + 1 + 1]? = some c
  refine ⟨?_, ?_, ?_⟩
  · rw [Array.getElem?_push, if_neg (by simp; omega), Array.getElem?_push, if_neg (by simp), Array.getElem?_push, if_pos rfl]
  · rw [Array.getElem?_push, if_neg (by simp), Array.getElem?_push, if_pos (by simp)]
  · rw [Array.getElem?_push, if_pos (by simp)]

theorem xnew_of {w3 wx : World} {N gX gL bX : Nat} (hx : Ext w3 wx) (hX : wx.heap[gX]? = some (.cells (madeCells #[.slice none 0 0] N) 23)) (hL : wx.heap[gL]? = some (.cells (madeCells #[.int .i64 0] N) 3))
    (hB : wx.heap[bX]? = some (.cells #[.slice (some ⟨gX, 0, none⟩) N N, .slice (some ⟨gL, 0, none⟩) N N] 25)) (h1 : w3.heap.size ≤ gX) (h2 : w3.heap.size ≤ gL) (h3 : w3.heap.size ≤ bX) (hne : gX ≠ gL ∧ bX ≠ gX ∧ bX ≠ gL) : XNew w3 wx N gX gL bX where
  ext := hx
  xge := h1
  lge := h2
  bge := h3
  ne := hne
  c0 := by simp [World.cell?, hB]
  c1 := by simp [World.cell?, hB]
  hdr := ⟨_, hX, size_madeCells _ _, fun i hi => made_one _ hi⟩
  lab := ⟨_, hL, size_madeCells _ _, fun i hi => made_one _ hi⟩

set_option maxRecDepth 100000 in
set_option maxHeartbeats 1000000 in
theorem one_skip (hwk : Wakes12) {vn vl vb vc : Value} {d : Dn} {w : World} (h : DenseV w (.agg #[vn, vl]) d) (hno : ¬ (d.next.length ≤ 60 ∧ May d)) (hb : ∃ a n c, vb = .slice a n c) (hc : ∃ a n c, vc = .slice a n c) :
    Calls Tryd.prog 3 #[.agg #[vn, vl, vb, vc]] w fun e w' => e = .returned (.bool true) ∧ Ext w w' := by
  obtain ⟨ab, nb, cb, rfl⟩ := hb
  obtain ⟨ac, nc, cc, rfl⟩ := hc
  obtain ⟨an, cn, al, cl, hv, ho⟩ := h.open
  simp only [Value.agg.injEq, Array.mk.injEq, List.cons.injEq, and_true] at hv
  obtain ⟨rfl, rfl⟩ := hv
  have hn := ho.n
  obtain ⟨n, hnn⟩ : ∃ n, n = d.next.length := ⟨_, rfl⟩
  rw [← hnn] at hn hno h ⊢
  have H := Lib.hid h
  clear hnn ho
  by_cases h60 : 60 < n
  · have h60' : (60 : Int) < n := by omega
    go_enter Tryd.func3, Tryd.ntmps3
    go_wp2_with fail
    refine (hwk _).mono ?_
    rintro e w1 ⟨rfl, hx1⟩
    go_wp2
    go_ret
    exact ⟨rfl, (Ext.box _ _).trans hx1⟩
  · have h60' : ¬ (60 : Int) < n := by omega
    have hm : ¬ May d := fun hm => hno ⟨by omega, hm⟩
    have hmb := mayB_false hm
    clear hno h hm
    go_enter Tryd.func3, Tryd.ntmps3
    go_wp2_with fail
    refine (may_c (H.out.ext (Ext.box _ _))).mono ?_
    rintro e w1 ⟨rfl, hx1⟩
    rw [hmb]
    go_wp2_with fail
    refine (hwk _).mono ?_
    rintro e w2 ⟨rfl, hx2⟩
    go_wp2
    go_ret
    exact ⟨rfl, ((Ext.box _ _).trans hx1).trans hx2⟩

theorem turned_s {w : World} {br ro cr gN cN : Nat} {ca : Option Addr} {cc n salt M : Nat} {f p : Nat → Nat} {cs : List Nat} (hP : LM.Perm0 n p) (hn : n ≤ 1000) (hsalt : salt ≤ 1000) (hl : ∀ c, c < 256 → w.cell? ⟨br, ro + c, none⟩ = some (.int .i64 (f c : Nat))) (hf : ∀ c, c < 256 → f c < n)
    (hnum : ∀ t, t < n → w.cell? ⟨gN, t, none⟩ = some (.int .i64 (p t : Nat))) (hM : M = cs.length) (hm : M ≤ 10) (hcc : 0 < cs.length → ∃ g, ca = some ⟨g, 0, none⟩ ∧ ∀ k, k < cs.length → w.cell? ⟨g, k, none⟩ = some (.int .i64 (cs.getD k 0 : Nat))) :
    Calls Tryd.prog 16 #[.slice (some ⟨br, ro, none⟩) 256 cr, .slice (some ⟨gN, 0, none⟩) n cN, .slice ca M cc, .int .i64 (n : Int), .int .i64 (salt : Int)] w fun e w' =>
      ∃ (r : List Nat) (a : Option Addr) (cap : Nat), e = .returned (.slice a 256 cap) ∧ r.length = 256 ∧ (∀ c, c < 256 → LM.Rho n cs p (r.getD c 0) (f c)) ∧ w'.ownsRow w.heap.size 3 1 (.slice a 256 cap) 256 (natV r) ∧ Ext w w' := by
  subst hM
  refine (turned_c hP hn hsalt hl hf hnum hm hcc).mono ?_
  rintro e w' ⟨r, v, rfl, h1, h2, h3, h4⟩
  obtain ⟨a, cap, rfl⟩ := own_shp h3
  exact ⟨r, a, cap, rfl, h1, h2, h3, h4⟩

set_option maxRecDepth 100000 in
set_option maxHeartbeats 4000000 in
theorem one_go (hwk : Wakes12) {vn vl vb vc : Value} {d : Dn} {by_ cp : List Int} {w : World} (h : DenseV w (.agg #[vn, vl]) d) (h60 : d.next.length ≤ 60) (hm : May d) (hb : Ints w vb by_) (hc : Ints w vc cp) :
    Calls Tryd.prog 3 #[.agg #[vn, vl, vb, vc]] w fun e w' => e = .returned (.bool true) ∧ Ext w w' := by
  have HM := Lib.hid hm
  have hmb := mayB_true.2 hm
  have H := Lib.hid h
  obtain ⟨bn, on, cn, bl, ol, cl, hv, hcl⟩ := h.cells hm
  simp only [Value.agg.injEq, Array.mk.injEq, List.cons.injEq, and_true] at hv
  obtain ⟨rfl, rfl⟩ := hv
  obtain ⟨hb1, ab, cb, rfl, _, hb2⟩ := hb.open
  obtain ⟨hc1, ac, cc, rfl, _, hc2⟩ := hc.open
  obtain ⟨n, hnn⟩ : ∃ n, n = d.next.length := ⟨_, rfl⟩
  obtain ⟨T, hT⟩ : ∃ T, T = by_.length := ⟨_, rfl⟩
  obtain ⟨C, hC⟩ : ∃ C, C = cp.length := ⟨_, rfl⟩
  have hpos : 0 < n := by rw [hnn]; exact hm.pos
  rw [← hnn] at h60 H ⊢
  rw [← hT] at hb1 hb2 ⊢
  rw [← hC] at hc1 hc2 ⊢
  have HB := Lib.hid (And.intro hb2 (And.intro hc2 hcl))
  have HN := Lib.hid hnn
  have h60' : ¬ (60 : Int) < n := by omega
  obtain ⟨O, hO⟩ : ∃ O, O = (Obj.cells #[.slice (some ⟨bn, on, none⟩) n cn, .slice (some ⟨bl, ol, none⟩) n cl, .slice ab T cb, .slice ac C cc] 27) := ⟨_, rfl⟩
  have hbx : ∀ W, Ext (w.alloc O) W → W.cell? ⟨w.heap.size, 0, none⟩ = some (.slice (some ⟨bn, on, none⟩) n cn) ∧ W.cell? ⟨w.heap.size, 1, none⟩ = some (.slice (some ⟨bl, ol, none⟩) n cl) ∧ W.cell? ⟨w.heap.size, 2, none⟩ = some (.slice ab T cb) ∧ W.cell? ⟨w.heap.size, 3, none⟩ = some (.slice ac C cc) := by
    intro W hx
    subst hO
    exact ⟨hx.cell (by simp), hx.cell (by simp), hx.cell (by simp), hx.cell (by simp)⟩
  have HX := Lib.hid hbx
  have HO := Lib.hid hO
  clear h hm hnn hO hbx hb2 hc2 hT hC hcl hb hc
  go_enter Tryd.func3, Tryd.ntmps3
  go_wp2_with fail
  rw [← HO.out]
  refine (may_c (H.out.ext (Ext.box _ _))).mono ?_
  rintro e w1 ⟨rfl, hx1⟩
  rw [hmb]
  have HX1 := Lib.hid hx1
  clear hmb hx1
  have hmk := run_make_any (P := Tryd.prog) 23 3 (.int .i64 0) 1 8 Tryd.underlying23 int_info .i64 .i64 n (by omega) (by omega)
  go_wp2
  clear hmk
  go_loopw [5] (fun iv wr => ∃ i : Nat, i ≤ n ∧ iv = .int .i64 i ∧ Ext w1 wr ∧ wr.rowIs w1.heap.size 3 n (fun j => .int .i64 ((if j < i then j else 0 : Nat) : Int))) (fun iv _ => n - (intOf iv).toNat)
  case atStart => exact ⟨0, Nat.zero_le _, rfl, Ext.box _ _, ((World.rowIs_made w1 _ n 3).congr (fun j _ => by simp))⟩
  case round =>
    obtain ⟨i, hi, rfl, hx, hr⟩ := hrel
    by_cases hlt : i < n
    · have cr := hr.cell hlt
      have fr := hr.frozen i
      have hj1 : (i : Int) < n := by omega
      have HR := Lib.hid (And.intro hx hr)
      clear hx hr
      go_wp2
      go_roundw
      case rel => exact ⟨i + 1, by omega, by go_num, HR.out.1.setCell (Nat.le_refl _) _, (HR.out.2.set i _).congr (fun j _ => by
        by_cases e : j = i
        · subst e; rw [if_pos rfl, if_pos (by omega)]
        · rw [if_neg e]
          by_cases e2 : j < i
          · rw [if_pos e2, if_pos (by omega)]
          · rw [if_neg e2, if_neg (by omega)])⟩
      case measure => simp [intOf]; omega
    · obtain rfl : n = i := by omega
      obtain ⟨gN, hgN⟩ : ∃ g, g = w1.heap.size := ⟨_, rfl⟩
      have hr2 : wr.rowIs gN 3 n (fun j => .int .i64 ((j : Nat) : Int)) := by rw [hgN]; exact hr.congr fun j hj => by rw [if_pos hj]
      rw [← hgN]
      have HR := Lib.hid (And.intro hgN (And.intro hx hr2))
      clear hgN hx hr hr2 hlt
      go_upto_block 2 with fail
      go_cut [4] (fun v4 wx => v4 = .slice (some ⟨gN, 0, none⟩) n n ∧ Ext w1 wx ∧ ∃ p, LM.Perm0 n p ∧ wx.rowIs gN 3 n (fun j => .int .i64 ((p j : Nat) : Int)))
      case first =>
        go_wp2_with fail
        go_loopw [6] (fun iv wr => ∃ (i : Nat) (p : Nat → Nat), i ≤ T ∧ i ≤ 100 ∧ iv = .int .i64 i ∧ Ext w1 wr ∧ LM.Perm0 n p ∧ wr.rowIs gN 3 n (fun j => .int .i64 ((p j : Nat) : Int))) (fun iv _ => 100 - (intOf iv).toNat)
        case atStart => exact ⟨0, fun i => i, Nat.zero_le _, Nat.zero_le _, rfl, HR.out.2.1, LM.Perm0.id n, HR.out.2.2⟩
        case round =>
          obtain ⟨i, p, hiT, hi100, rfl, hx, hP, hr⟩ := hrel
          obtain ⟨k0, k1, k2, k3⟩ := HX.out _ (HX1.out.trans hx)
          have HZ := Lib.hid (And.intro hx (And.intro hP hr))
          by_cases hlt : i < T
          · have hj1 : (i : Int) < T := by omega
            by_cases hlt2 : i < 100
            · have hj2 : (i : Int) < 100 := by omega
              by_cases hn2 : 2 < n
              · have hj3 : (2 : Int) < n := by omega
                obtain ⟨bb, ob, rfl, hbc⟩ := HB.out.1 (by omega)
                have c1 := ((Ext.box w O).trans (HX1.out.trans hx)).cell (hbc i hlt)
                obtain ⟨z, hz⟩ : ∃ z, z = by_.getD i 0 := ⟨_, rfl⟩
                obtain ⟨m, hm⟩ : ∃ m, m = n - 1 := ⟨_, rfl⟩
                obtain ⟨q, hq⟩ : ∃ q, q = i % m := ⟨_, rfl⟩
                obtain ⟨a, ha⟩ : ∃ a, a = 1 + q := ⟨_, rfl⟩
                have hqm : q < m := by rw [hq]; exact Nat.mod_lt _ (by omega)
                rw [← hz] at c1
                have e1 : (n : Int) - 1 = (m : Int) := by omega
                have e2 : Int.tmod (i : Int) (m : Int) = (q : Int) := by rw [Int.tmod_eq_emod_of_nonneg (by omega)]; omega
                have e3 : (i : Int) % (m : Int) = (q : Int) := by omega
                have e4 : (1 : Int) + (q : Int) = (a : Int) := by omega
                have e5 : ((m : Int) == 0) = false := by simp; omega
                have ham : 1 ≤ a ∧ a < n := by omega
                have hm3 : 1 ≤ m ∧ m ≤ 60 := by omega
                clear hx hP hr hbc hz hm hq ha hqm
                go_wp2_with fail
                refine (within_c z m _ hm3.1 (by omega)).mono ?_
                rintro e w2 ⟨k, hk, rfl, hx2⟩
                obtain ⟨b, hb⟩ : ∃ b, b = 1 + k := ⟨_, rfl⟩
                have e6 : (1 : Int) + (k : Int) = (b : Int) := by omega
                have hbm : 1 ≤ b ∧ b < n := by omega
                have hr2 := rowIs_ext hx2 HZ.out.2.2
                have ca := hr2.cell ham.2
                have cb := hr2.cell hbm.2
                have fr := hr2.frozen
                have fa := fr a
                have fb := fr b
                obtain ⟨pa, hpa⟩ : ∃ x, x = p a := ⟨_, rfl⟩
                obtain ⟨pb, hpb⟩ : ∃ x, x = p b := ⟨_, rfl⟩
                rw [← hpa] at ca
                rw [← hpb] at cb
                have hai : (a : Int) < n := by omega
                have hbi : (b : Int) < n := by omega
                obtain ⟨u, hset⟩ : ∃ u, (w2.setCell ⟨gN, a, none⟩ (.int .i64 (pb : Int))).cell? ⟨gN, b, none⟩ = some u := by
                  by_cases e : b = a
                  · subst e; exact ⟨_, World.cell?_setCell_same _ _ _ ca⟩
                  · rw [World.cell?_setCell_other _ _ _ _ (by simp only [ne_eq, Addr.mk.injEq]; rintro ⟨_, e', _⟩; omega)]; exact ⟨_, cb⟩
                have HS := Lib.hid (And.intro hr2 (And.intro hx2 (And.intro hpa (And.intro hpb (And.intro ham hbm)))))
                clear hr2 hx2 hpa hpb hb fr c1 k0 k1 k2 k3 e1 e2 e3 e5 hk ham hbm hm3
                go_wp2_with fail
                go_region
                go_wp2_with fail
                go_roundw
                case rel =>
                  refine ⟨i + 1, LM.swapP p a b, by omega, by omega, by go_num, ?_, HZ.out.2.1.swap HS.out.2.2.2.2.1.1 HS.out.2.2.2.2.1.2 HS.out.2.2.2.2.2.1 HS.out.2.2.2.2.2.2, ?_⟩
                  · have hl : w1.heap.size ≤ gN := by rw [HR.out.1]; exact Nat.le_refl _
                    exact (((HZ.out.1.trans HS.out.2.1).setCell hl _).setCell hl _).drew
                  · refine ((HS.out.1.set a _).set b _).congr fun j _ => ?_
                    unfold LM.swapP
                    rw [HS.out.2.2.1, HS.out.2.2.2.1]
                    by_cases e1 : j = b
                    · rw [if_pos e1]
                      by_cases e2 : j = a
                      · rw [if_pos e2, ← e1, ← e2]
                      · rw [if_neg e2, if_pos e1]
                    · rw [if_neg e1]
                      by_cases e2 : j = a
                      · rw [if_pos e2, if_pos e2]
                      · rw [if_neg e2, if_neg e2, if_neg e1]
                case measure => simp [intOf]; omega
              · have hj3 : ¬ (2 : Int) < n := by omega
                clear hx hP hr
                go_wp2_with fail
                go_meet
                exact ⟨rfl, HZ.out.1, p, HZ.out.2⟩
            · have hj2 : ¬ (i : Int) < 100 := by omega
              clear hx hP hr
              go_wp2_with fail
              go_meet
              exact ⟨rfl, HZ.out.1, p, HZ.out.2⟩
          · have hj1 : ¬ (i : Int) < T := by omega
            clear hx hP hr
            go_wp2_with fail
            go_meet
            exact ⟨rfl, HZ.out.1, p, HZ.out.2⟩
      case rest =>
        obtain ⟨rfl, hx2, p, hP, hr2⟩ := hcut
        have HS := Lib.hid (And.intro hx2 (And.intro hP hr2))
        obtain ⟨w2, hw2⟩ : ∃ x, x = wc := ⟨_, rfl⟩
        have hZ0 : Ext w2 wc ∧ Ext w1 w2 := by rw [hw2]; exact ⟨Ext.refl _, hx2⟩
        have HZ0 := Lib.hid (And.intro hZ0.1 (And.intro hZ0.2 hw2))
        clear hx2 hP hr2 hZ0 hw2
        go_upto_block 4 with fail
        go_cut [4, 9] (fun v4 v9 wx => v4 = .slice (some ⟨gN, 0, none⟩) n n ∧ Ext w2 wx ∧ ∃ cs : List Nat, cs.length ≤ 10 ∧ (∀ t ∈ cs, t < n) ∧ wx.ownsRow w2.heap.size 3 1 v9 cs.length (natV cs))
        case first =>
          go_wp2_with fail
          go_loopw [9, 10] (fun cv iv wr => ∃ (i : Nat) (cs : List Nat), i ≤ C ∧ i ≤ 10 ∧ iv = .int .i64 i ∧ Ext w2 wr ∧ cs.length = i ∧ (∀ t ∈ cs, t < n) ∧ wr.ownsRow w2.heap.size 3 1 cv i (natV cs)) (fun _ iv _ => 10 - (intOf iv).toNat)
          case atStart => exact ⟨0, [], Nat.zero_le _, Nat.zero_le _, rfl, HZ0.out.1, rfl, (fun _ h => by cases h), World.ownsRow_nil _ _ _ _⟩
          case round =>
            obtain ⟨i, cs, hiC, hi10, rfl, hx, hcl, hcs, hown⟩ := hrel
            obtain ⟨k0, k1, k2, k3⟩ := HX.out _ (HX1.out.trans (HZ0.out.2.1.trans hx))
            obtain ⟨a9, c9, hov⟩ := own_shp hown
            subst hov
            have HZ := Lib.hid (And.intro hx (And.intro hcl (And.intro hcs hown)))
            by_cases hlt : i < C
            · have hj1 : (i : Int) < C := by omega
              by_cases hlt2 : i < 10
              · have hj2 : (i : Int) < 10 := by omega
                obtain ⟨bb, ob, rfl, hbc⟩ := HB.out.2.1 (by omega)
                have c1 := ((Ext.box w O).trans (HX1.out.trans (HZ0.out.2.1.trans hx))).cell (hbc i hlt)
                obtain ⟨z, hz⟩ : ∃ z, z = cp.getD i 0 := ⟨_, rfl⟩
                rw [← hz] at c1
                clear hx hcl hcs hown hbc hz
                go_wp2_with fail
                refine (within_c z n _ hpos (by omega)).mono ?_
                rintro e w3 ⟨k, hk, rfl, hx3⟩
                obtain ⟨i0, hi, hz0, hz1, hz2⟩ := info_parts int_info
                have hown' := (own_ext hx3 HZ.out.2.2.2).alloc (.cells #[.int .i64 (k : Int)] 3)
                have hcell := cell_one_new w3 (.int .i64 (k : Int)) 3
                have h1c : ∀ u ∈ [Value.int .i64 (k : Int)], u.oneCell' = true := by intro u hu; simp at hu; subst hu; rfl
                have hbase : w2.heap.size ≤ (w3.alloc (.cells #[.int .i64 (k : Int)] 3)).heap.size := by have := HZ.out.1.size; have := hx3.size; simp; omega
                have hmax : i + 1 ≤ maxLen := by unfold maxLen; omega
                have HY := Lib.hid (And.intro hx3 hk)
                clear hx3 c1 k0 k1 k2 k3 hk
                go_wp2_with (at_builtin; refine wpList_append_own_at _ rfl _ _ 23 rfl w2.heap.size 3 i0 (.int .i64 0) 1 8 Tryd.underlying23 hi hz0 hz1 hz2 rfl (by decide) _ _ _ rfl hown' ⟨w3.heap.size, 0, none⟩ 1 1 [.int .i64 (k : Int)] rfl rfl hcell h1c hmax (by omega) hbase ?_; intro v' W hown9 hg _ hat)
                go_roundw
                case rel =>
                  refine ⟨i + 1, cs ++ [k], by omega, by omega, by go_num, Below.grown ((HZ.out.1.trans HY.out.1).trans (Ext.box w3 _)) hg hbase (fun g e => (HZ.out.2.2.2.lt g e).1), by simp [HZ.out.2.1], fun t ht => ?_, by rw [natV_snoc]; exact hown9⟩
                  rcases List.mem_append.1 ht with h | h
                  · exact HZ.out.2.2.1 t h
                  · simp at h; rw [h]; exact HY.out.2
                case measure => simp [intOf]; omega
              · have hj2 : ¬ (i : Int) < 10 := by omega
                clear hx hcl hcs hown
                go_wp2_with fail
                go_meet
                exact ⟨rfl, HZ.out.1, cs, by rw [HZ.out.2.1]; omega, HZ.out.2.2.1, by rw [HZ.out.2.1]; exact HZ.out.2.2.2⟩
            · have hj1 : ¬ (i : Int) < C := by omega
              clear hx hcl hcs hown
              go_wp2_with fail
              go_meet
              exact ⟨rfl, HZ.out.1, cs, by rw [HZ.out.2.1]; omega, HZ.out.2.2.1, by rw [HZ.out.2.1]; exact HZ.out.2.2.2⟩
        case rest =>
          obtain ⟨rfl, hx3, cs, hcl, hcs, hown⟩ := hcut
          obtain ⟨M, hM⟩ : ∃ M, M = cs.length := ⟨_, rfl⟩
          rw [← hM] at hcl hown
          obtain ⟨ca, cap, rfl, hMe, _, hcc⟩ := own_read hown
          clear hMe
          have HC := Lib.hid (And.intro hM (And.intro hcs (And.intro hown (And.intro hcc hx3))))
          clear hM hcs hown hcc hx3
          obtain ⟨N, hN⟩ : ∃ N, N = n + M := ⟨_, rfl⟩
          have e1 : (n : Int) + (M : Int) = (N : Int) := by omega
          have e2 : IntKind.i64.wrap ((n : Int) + (M : Int)) = (N : Int) := by rw [e1]; exact IntWalk.i64_in _ (by omega)
          have hN7 : n ≤ N ∧ N ≤ 70 := by omega
          have HNN := Lib.hid hN
          clear hN
          have hmk := run_make_any (P := Tryd.prog) 23 3 (.int .i64 0) 1 8 Tryd.underlying23 int_info .i64 .i64 N (by omega) (by omega)
          have hmk2 := run_make_any (P := Tryd.prog) 22 23 (.slice none 0 0) 1 24 Tryd.underlying22 slice_info .i64 .i64 N (by omega) (by omega)
          obtain ⟨w3, hw3⟩ : ∃ x, x = wc := ⟨_, rfl⟩
          rw [← hw3]
          rw [← hw3] at HC
          clear hw3
          go_upto_region 20 with fail
          go_cut [4, 9, 11] (fun v4 v9 v11 wx => v4 = .slice (some ⟨gN, 0, none⟩) n n ∧ v9 = .slice ca M cap ∧ ∃ bX gX gL, v11 = .pointer (some ⟨bX, 0, none⟩) ∧ XNew w3 wx N gX gL bX)
          case first =>
            go_region
            all_goals go_wp2_with fail
            all_goals go_meet
            all_goals
              first
              | exact ⟨rfl, rfl, _, w3.heap.size, w3.heap.size + 1, rfl, xnew_of (((Ext.box _ _).alloc _).alloc _ |>.drew) (by first | exact (heap_three _ _ _ _).1 | exact (heap_three _ _ _ _).2.1 | exact (heap_three _ _ _ _).2.2) (by first | exact (heap_three _ _ _ _).1 | exact (heap_three _ _ _ _).2.1 | exact (heap_three _ _ _ _).2.2) (by first | exact (heap_three _ _ _ _).1 | exact (heap_three _ _ _ _).2.1 | exact (heap_three _ _ _ _).2.2) (by omega) (by omega) (by omega) (by omega)⟩
              | exact ⟨rfl, rfl, _, w3.heap.size, w3.heap.size + 1 + 1, rfl, xnew_of (((Ext.box _ _).alloc _).alloc _ |>.drew) (by first | exact (heap_three _ _ _ _).1 | exact (heap_three _ _ _ _).2.1 | exact (heap_three _ _ _ _).2.2) (by first | exact (heap_three _ _ _ _).1 | exact (heap_three _ _ _ _).2.1 | exact (heap_three _ _ _ _).2.2) (by first | exact (heap_three _ _ _ _).1 | exact (heap_three _ _ _ _).2.1 | exact (heap_three _ _ _ _).2.2) (by omega) (by omega) (by omega) (by omega)⟩
              | exact ⟨rfl, rfl, _, w3.heap.size + 1, w3.heap.size, rfl, xnew_of (((Ext.box _ _).alloc _).alloc _ |>.drew) (by first | exact (heap_three _ _ _ _).1 | exact (heap_three _ _ _ _).2.1 | exact (heap_three _ _ _ _).2.2) (by first | exact (heap_three _ _ _ _).1 | exact (heap_three _ _ _ _).2.1 | exact (heap_three _ _ _ _).2.2) (by first | exact (heap_three _ _ _ _).1 | exact (heap_three _ _ _ _).2.1 | exact (heap_three _ _ _ _).2.2) (by omega) (by omega) (by omega) (by omega)⟩
              | exact ⟨rfl, rfl, _, w3.heap.size + 1, w3.heap.size + 1 + 1, rfl, xnew_of (((Ext.box _ _).alloc _).alloc _ |>.drew) (by first | exact (heap_three _ _ _ _).1 | exact (heap_three _ _ _ _).2.1 | exact (heap_three _ _ _ _).2.2) (by first | exact (heap_three _ _ _ _).1 | exact (heap_three _ _ _ _).2.1 | exact (heap_three _ _ _ _).2.2) (by first | exact (heap_three _ _ _ _).1 | exact (heap_three _ _ _ _).2.1 | exact (heap_three _ _ _ _).2.2) (by omega) (by omega) (by omega) (by omega)⟩
              | exact ⟨rfl, rfl, _, w3.heap.size + 1 + 1, w3.heap.size, rfl, xnew_of (((Ext.box _ _).alloc _).alloc _ |>.drew) (by first | exact (heap_three _ _ _ _).1 | exact (heap_three _ _ _ _).2.1 | exact (heap_three _ _ _ _).2.2) (by first | exact (heap_three _ _ _ _).1 | exact (heap_three _ _ _ _).2.1 | exact (heap_three _ _ _ _).2.2) (by first | exact (heap_three _ _ _ _).1 | exact (heap_three _ _ _ _).2.1 | exact (heap_three _ _ _ _).2.2) (by omega) (by omega) (by omega) (by omega)⟩
              | exact ⟨rfl, rfl, _, w3.heap.size + 1 + 1, w3.heap.size + 1, rfl, xnew_of (((Ext.box _ _).alloc _).alloc _ |>.drew) (by first | exact (heap_three _ _ _ _).1 | exact (heap_three _ _ _ _).2.1 | exact (heap_three _ _ _ _).2.2) (by first | exact (heap_three _ _ _ _).1 | exact (heap_three _ _ _ _).2.1 | exact (heap_three _ _ _ _).2.2) (by first | exact (heap_three _ _ _ _).1 | exact (heap_three _ _ _ _).2.1 | exact (heap_three _ _ _ _).2.2) (by omega) (by omega) (by omega) (by omega)⟩
          case rest =>
            obtain ⟨rfl, rfl, bX, gX, gL, rfl, hXN⟩ := hcut
            have HXN := Lib.hid hXN
            obtain ⟨w4, hw4⟩ : ∃ x, x = wc := ⟨_, rfl⟩
            have hFS : Fill w4 wc w3.heap.size gX gL N (fun _ => .slice none 0 0) (fun _ => []) (fun _ => 0) (fun _ => False) d cs p := by rw [hw4]; exact Fill.start hXN.hdr hXN.lab
            have HFS := Lib.hid hFS
            rw [← hw4] at HXN
            clear hXN hFS hw4 hmk hmk2
            have hxa : Ext (w.alloc O) w4 := HX1.out.trans (HZ0.out.2.1.trans (HC.out.2.2.2.2.trans HXN.out.ext))
            have hw0 : w.heap.size + 1 ≤ w3.heap.size := by
              have h1 := (HX1.out.trans (HZ0.out.2.1.trans HC.out.2.2.2.2)).size
              rw [World.size_alloc] at h1; exact h1
            have hrN3 : w3.rowIs gN 3 n (fun j => .int .i64 ((p j : Nat) : Int)) := rowIs_ext HC.out.2.2.2.2 (by rw [HZ0.out.2.2]; exact HS.out.2.2)
            have hk : Konst w4 w.heap.size bX gX gL gN n N bn on cn bl ol cl d cs p ca := by
              obtain ⟨q0, q1, _, _⟩ := HX.out _ hxa
              have hXl := HXN.out.xge
              have hLl := HXN.out.lge
              have hgl := hrN3.lt
              have hwx : Ext w w4 := (Ext.box w O).trans hxa
              have hlow : ∀ {b o : Nat} {v : Value}, w.cell? ⟨b, o, none⟩ = some v → b ≠ gX ∧ b ≠ gL := fun hv => by
                have := lt_of_cell hv; omega
              have hn0 : 0 < d.next.length := by rw [← HN.out]; exact hpos
              refine ⟨q0, q1, HXN.out.c0, HXN.out.c1, fun i hi => ?_, fun i hi => hwx.cell (HB.out.2.2.label i (by rw [← HN.out]; exact hi)), fun i hi => (rowIs_ext HXN.out.ext hrN3).cell hi, fun hc => ?_, by omega, HXN.out.ne.2, by omega, ?_, ?_⟩
              · obtain ⟨br, ro, cr, h1, h2⟩ := HB.out.2.2.row i (by rw [← HN.out]; exact hi)
                exact ⟨br, ro, cr, hwx.cell h1, hlow (h2 0 (by omega)), fun c hc => hwx.cell (h2 c hc)⟩
              · obtain ⟨g, h1, _, h3⟩ := HC.out.2.2.2.1 (by rw [HC.out.1]; exact hc)
                have h4 : ∀ k, k < cs.length → w3.cell? ⟨g, k, none⟩ = some (.int .i64 (cs.getD k 0 : Nat)) := fun k hk => by
                  rw [h3 k (by rw [HC.out.1]; exact hk), natV, List.getElem?_map, List.getD_eq_getElem?_getD, List.getElem?_eq_getElem hk]; rfl
                have h5 := lt_of_cell (h4 0 hc)
                exact ⟨g, h1, by omega, fun k hk => HXN.out.ext.cell (h4 k hk)⟩
              · obtain ⟨br, ro, cr, h1, h2⟩ := HB.out.2.2.row 0 hn0
                exact hlow h1
              · exact hlow (HB.out.2.2.label 0 hn0)
            have HK := Lib.hid (And.intro hk (And.intro hxa hw0))
            clear hk hxa hrN3 hw0
            go_wp2_with fail
            go_loopw [12] (fun iv wr => ∃ (i : Nat) (hd : Nat → Value) (R : Nat → List Nat) (L : Nat → Int), i ≤ n ∧ iv = .int .i64 i ∧ Fill w4 wr w3.heap.size gX gL N hd R L (fun y => ∃ j, j < i ∧ y = p j) d cs p) (fun iv _ => n - (intOf iv).toNat)
            case atStart => exact ⟨0, _, _, _, Nat.zero_le _, rfl, HFS.out.congr (S := fun _ => False) fun y _ h => by obtain ⟨j, hj, _⟩ := h; omega⟩
            case round =>
              obtain ⟨i, hd, R, L, hi, rfl, hF⟩ := hrel
              have hk := HK.out.1.frm hF.frm
              by_cases hlt : i < n
              · have k0 := hk.p0
                have k1 := hk.x0
                have k2 := hk.num i hlt
                obtain ⟨br, ro, cr, k3, hbr, hrow⟩ := hk.row i hlt
                have hpi := HS.out.2.1.lt i hlt
                obtain ⟨y, hy⟩ : ∃ y, y = p i := ⟨_, rfl⟩
                rw [← hy] at hpi k2
                have hyN : y < N := by omega
                have k4 := hF.hdr.cell hyN
                have f4 := hF.hdr.frozen y
                have hj1 : (i : Int) < n := by omega
                have hj2 : (y : Int) < N := by omega
                have hne := HXN.out.ne
                have hT := turned_s (w := wr.drew) (br := br) (ro := ro) (cr := cr) (gN := gN) (cN := n) (ca := ca) (cc := cap) (n := n) (salt := i) (M := M) (f := d.nx i) (cs := cs) HS.out.2.1 (by omega) (by omega) hrow (fun c hc => by have := HM.out.nx_lt (s := i) (c := c) (by rw [← HN.out]; exact hlt) hc; rw [HN.out]; exact this) hk.num HC.out.1 hcl (fun hc => by obtain ⟨g, q1, _, q2⟩ := hk.cop hc; exact ⟨g, q1, q2⟩)
                have HTu := Lib.hid hT
                have HF := Lib.hid (And.intro hF (And.intro hy (And.intro hrow hk)))
                have hXs := hF.hdr.lt
                have hoff := hk.off
                clear hF hy hrow hk hT
                go_wp2_with fail
                go_region_held3 (fun W => W.cell? ⟨bX, 0, none⟩ = some (.slice (some ⟨gX, 0, none⟩) N N) ∧ W.cell? ⟨gN, i, none⟩ = some (.int .i64 (y : Int)) ∧ W.cell? ⟨w.heap.size, 0, none⟩ = some (.slice (some ⟨bn, on, none⟩) n cn) ∧ W.cell? ⟨bn, on + i, none⟩ = some (.slice (some ⟨br, ro, none⟩) 256 cr))
                  (first | exact ⟨k1, k2, k0, k3⟩ | exact ⟨j1, j2, j0, j3⟩ | exact ⟨m1 _, m2 _, m0 _, m3 _⟩)
                  ((first | (go_at_call 16; refine HTu.out.mono ?_; rintro e w5 ⟨r, av, cv, rfl, hrl, hrho, hown, hx5⟩; have j0 := hx5.cell (a := wr.drew) k0; have j1 := hx5.cell (a := wr.drew) k1; have j2 := hx5.cell (a := wr.drew) k2; have j3 := hx5.cell (a := wr.drew) k3; have j4 := hx5.cell (a := wr.drew) k4; have g4 := (Below.frozen (w := wr.drew) hx5 (p := ⟨gX, y, none⟩) hXs).trans f4; have m0 := keep_set (g := gX) (y := y) j0 hoff.1.1; have m1 := keep_set (g := gX) (y := y) j1 hoff.2.1.1; have m2 := keep_set (g := gX) (y := y) j2 hoff.2.2.1.1; have m3 := keep_set (g := gX) (y := y) j3 hoff.2.2.2.1.1)))
                have hx5' : Ext wr w5 := (Ext.drew (Ext.refl wr)).trans hx5
                have hF5 := HF.out.1.ext hx5'
                have hk5 := HF.out.2.2.2.ext hx5'
                have hfL := (hF5.lab.frozen y)
                have hcL := hF5.lab.cell hyN
                have hnL : gL ≠ gX := Ne.symm hne.1
                have q0 := keep_set (g := gX) (y := y) hk5.x1 hoff.2.1.1 (.slice av 256 cv)
                have q1 := keep_set (g := gX) (y := y) hk5.p1 hoff.1.1 (.slice av 256 cv)
                have q2 := m2 (.slice av 256 cv)
                have q3 := keep_set (g := gX) (y := y) (hk5.lab i hlt) hoff.2.2.2.2.1 (.slice av 256 cv)
                have q4 := keep_set (g := gX) (y := y) hcL hnL (.slice av 256 cv)
                have g5 : (w5.setCell ⟨gX, y, none⟩ (.slice av 256 cv)).frozen? ⟨gL, y, none⟩ = false := by rw [World.frozen?_setCell]; exact hfL
                have hsz5 := HF.out.1.lab.lt
                have HG := Lib.hid (And.intro hF5 (And.intro hrl (And.intro hrho (And.intro hown (And.intro hXs hsz5)))))
                obtain ⟨W6, hW6⟩ : ∃ W, W = w5.setCell ⟨gX, y, none⟩ (.slice av 256 cv) := ⟨_, rfl⟩
                rw [← hW6] at q0 q1 q2 q3 q4 g5 ⊢
                have HW6 := Lib.hid hW6
                clear hF5 hk5 hfL hcL hrl hrho hown hx5 hx5' m0 m1 m2 m3 j0 j1 j2 j3 j4 g4 k0 k1 k2 k3 k4 f4 hW6 HTu hXs hsz5
                obtain ⟨x, hx⟩ : ∃ x, x = d.lb i := ⟨_, rfl⟩
                rw [← hx] at q3
                have HLX := Lib.hid hx
                clear hx
                go_wp2_with fail
                go_region
                go_wp2_with fail
                go_roundw
                case rel =>
                  refine ⟨i + 1, upd hd y (.slice av 256 cv), upd R y r, upd L y x, by omega, by go_num, ?_⟩
                  have hst : Stands d cs p y i r x := by
                    refine ⟨.inl ⟨by rw [← HN.out]; exact hlt, HF.out.2.1⟩, by rw [← HN.out]; exact hlt, HG.out.2.1, fun c hc => ?_, HLX.out⟩
                    have := HG.out.2.2.1 c hc
                    rw [← HN.out]; exact this
                  have hp := (HG.out.1.push hne.1 (y := y) (t := i) (fun h => by
                    obtain ⟨j, hj, e⟩ := h
                    have := HS.out.2.1.inj j i (by omega) hlt (by rw [← e]; exact HF.out.2.1)
                    omega) hst (own_base HG.out.2.2.2.1 (by have := HG.out.2.2.2.2; have := HXN.out.ext.size; have := HF.out.1.frm.size; show w3.heap.size ≤ wr.heap.size; omega)) (fun g e => by
                      have h1 := (HG.out.2.2.2.1.lt g e).1
                      have h2 := HG.out.2.2.2.2
                      have h3 : wr.drew.heap.size = wr.heap.size := rfl
                      omega)).ext (Ext.drew (Ext.refl _))
                  rw [← HW6.out] at hp
                  refine hp.congr fun y' _ h => ?_
                  obtain ⟨j, hj, e⟩ := h
                  rcases Nat.lt_succ_iff_lt_or_eq.1 hj with h1 | h1
                  · exact .inl ⟨j, h1, e⟩
                  · subst h1; exact .inr (by rw [e]; exact HF.out.2.1.symm)
                case measure => simp [intOf]; omega
              · obtain rfl : n = i := by omega
                have HF4 := Lib.hid hF
                clear hF hlt hk
                go_wp2_with fail
                go_loopw [13] (fun iv wr => ∃ (i : Nat) (hd : Nat → Value) (R : Nat → List Nat) (L : Nat → Int), i ≤ M ∧ iv = .int .i64 i ∧ Fill w4 wr w3.heap.size gX gL N hd R L (fun y => (∃ j, j < n ∧ y = p j) ∨ (n ≤ y ∧ y < n + i)) d cs p) (fun iv _ => M - (intOf iv).toNat)
                case atStart => exact ⟨0, hd, R, L, Nat.zero_le _, rfl, HF4.out.congr fun y _ h => h.elim id fun h => by omega⟩
                case round =>
                  obtain ⟨i, hd, R, L, hi, rfl, hF⟩ := hrel
                  have hk := HK.out.1.frm hF.frm
                  by_cases hlt : i < M
                  · have k0 := hk.p0
                    have k1 := hk.x0
                    obtain ⟨g, rfl, hgo, hcop⟩ := hk.cop (by rw [← HC.out.1]; omega)
                    have k2 := hcop i (by rw [← HC.out.1]; exact hlt)
                    obtain ⟨q, hq⟩ : ∃ q, q = cs.getD i 0 := ⟨_, rfl⟩
                    have hcq : cs[i]? = some q := by
                      rw [hq, List.getD_eq_getElem?_getD, List.getElem?_eq_getElem (by rw [← HC.out.1]; exact hlt)]; rfl
                    have hqn : q < n := HC.out.2.1 q (List.mem_of_getElem? hcq)
                    rw [← hq] at k2
                    obtain ⟨br, ro, cr, k3, hbr, hrow⟩ := hk.row q hqn
                    obtain ⟨y, hy⟩ : ∃ y, y = n + i := ⟨_, rfl⟩
                    obtain ⟨s, hs⟩ : ∃ s, s = i + 1 := ⟨_, rfl⟩
                    have hyN : y < N := by rw [HNN.out]; omega
                    have k4 := hF.hdr.cell hyN
                    have f4 := hF.hdr.frozen y
                    have hj1 : (i : Int) < M := by omega
                    have hj2 : (y : Int) < N := by omega
                    have hj3 : (q : Int) < n := by omega
                    have e4 : IntKind.i64.wrap ((n : Int) + (i : Int)) = (y : Int) := by rw [show (n : Int) + (i : Int) = (y : Int) by omega]; exact IntWalk.i64_in _ (by omega)
                    have e6 : IntKind.i64.wrap ((i : Int) + 1) = (s : Int) := by rw [show (i : Int) + 1 = (s : Int) by omega]; exact IntWalk.i64_in _ (by omega)
                    have hne := HXN.out.ne
                    have hT := turned_s (w := wr.drew) (br := br) (ro := ro) (cr := cr) (gN := gN) (cN := n) (ca := some ⟨g, 0, none⟩) (cc := cap) (n := n) (salt := s) (M := M) (f := d.nx q) (cs := cs) HS.out.2.1 (by omega) (by omega) hrow (fun c hc => by have := HM.out.nx_lt (s := q) (c := c) (by rw [← HN.out]; exact hqn) hc; rw [HN.out]; exact this) hk.num HC.out.1 hcl (fun hc => ⟨g, rfl, hcop⟩)
                    have HTu := Lib.hid hT
                    have HF := Lib.hid (And.intro hF (And.intro hy (And.intro hcq (And.intro hk hs))))
                    have hXs := hF.hdr.lt
                    have hoff := hk.off
                    clear hF hy hrow hk hT hcop hcq hq hs
                    go_wp2_with fail
                    go_region_held3 (fun W => W.cell? ⟨bX, 0, none⟩ = some (.slice (some ⟨gX, 0, none⟩) N N) ∧ W.cell? ⟨g, i, none⟩ = some (.int .i64 (q : Int)) ∧ W.cell? ⟨w.heap.size, 0, none⟩ = some (.slice (some ⟨bn, on, none⟩) n cn) ∧ W.cell? ⟨bn, on + q, none⟩ = some (.slice (some ⟨br, ro, none⟩) 256 cr))
                      (first | exact ⟨k1, k2, k0, k3⟩ | exact ⟨j1, j2, j0, j3⟩ | exact ⟨m1 _, m2 _, m0 _, m3 _⟩)
                      ((first | (go_at_call 16; refine HTu.out.mono ?_; rintro e w5 ⟨r, av, cv, rfl, hrl, hrho, hown, hx5⟩; have j0 := hx5.cell (a := wr.drew) k0; have j1 := hx5.cell (a := wr.drew) k1; have j2 := hx5.cell (a := wr.drew) k2; have j3 := hx5.cell (a := wr.drew) k3; have j4 := hx5.cell (a := wr.drew) k4; have g4 := (Below.frozen (w := wr.drew) hx5 (p := ⟨gX, y, none⟩) hXs).trans f4; have m0 := keep_set (g := gX) (y := y) j0 hoff.1.1; have m1 := keep_set (g := gX) (y := y) j1 hoff.2.1.1; have m2 := keep_set (g := gX) (y := y) j2 hgo.1; have m3 := keep_set (g := gX) (y := y) j3 hoff.2.2.2.1.1)))
                    have hx5' : Ext wr w5 := (Ext.drew (Ext.refl wr)).trans hx5
                    have hF5 := HF.out.1.ext hx5'
                    have hk5 := HF.out.2.2.2.1.ext hx5'
                    have hfL := (hF5.lab.frozen y)
                    have hcL := hF5.lab.cell hyN
                    have hnL : gL ≠ gX := Ne.symm hne.1
                    have q0 := keep_set (g := gX) (y := y) hk5.x1 hoff.2.1.1 (.slice av 256 cv)
                    have q1 := keep_set (g := gX) (y := y) hk5.p1 hoff.1.1 (.slice av 256 cv)
                    have q2 := m2 (.slice av 256 cv)
                    have q3 := keep_set (g := gX) (y := y) (hk5.lab q hqn) hoff.2.2.2.2.1 (.slice av 256 cv)
                    have q4 := keep_set (g := gX) (y := y) hcL hnL (.slice av 256 cv)
                    have g5 : (w5.setCell ⟨gX, y, none⟩ (.slice av 256 cv)).frozen? ⟨gL, y, none⟩ = false := by rw [World.frozen?_setCell]; exact hfL
                    have hsz5 := HF.out.1.lab.lt
                    have HG := Lib.hid (And.intro hF5 (And.intro hrl (And.intro hrho (And.intro hown (And.intro hXs hsz5)))))
                    obtain ⟨W6, hW6⟩ : ∃ W, W = w5.setCell ⟨gX, y, none⟩ (.slice av 256 cv) := ⟨_, rfl⟩
                    rw [← hW6] at q0 q1 q2 q3 q4 g5 ⊢
                    have HW6 := Lib.hid hW6
                    clear hF5 hk5 hfL hcL hrl hrho hown hx5 hx5' m0 m1 m2 m3 j0 j1 j2 j3 j4 g4 k0 k1 k2 k3 k4 f4 hW6 HTu hXs hsz5 e6
                    obtain ⟨x, hx⟩ : ∃ x, x = d.lb q := ⟨_, rfl⟩
                    rw [← hx] at q3
                    have HLX := Lib.hid hx
                    clear hx
                    go_wp2_with fail
                    go_region
                    clear e4
                    go_wp2_with fail
                    go_roundw
                    case rel =>
                      refine ⟨i + 1, upd hd y (.slice av 256 cv), upd R y r, upd L y x, by omega, by go_num, ?_⟩
                      have hst : Stands d cs p y q r x := by
                        refine ⟨.inr ⟨i, HF.out.2.2.1, by rw [← HN.out]; exact HF.out.2.1⟩, by rw [← HN.out]; exact hqn, HG.out.2.1, fun c hc => ?_, HLX.out⟩
                        have := HG.out.2.2.1 c hc
                        rw [← HN.out]; exact this
                      have hye := HF.out.2.1
                      have hp := (HG.out.1.push hne.1 (y := y) (t := q) (fun h => by
                        rcases h with ⟨j, hj, e⟩ | h
                        · have := HS.out.2.1.lt j hj; omega
                        · omega) hst (own_base HG.out.2.2.2.1 (by have := HG.out.2.2.2.2; have := HXN.out.ext.size; have := HF.out.1.frm.size; show w3.heap.size ≤ wr.heap.size; omega)) (fun g e => by
                          have h1 := (HG.out.2.2.2.1.lt g e).1
                          have h2 := HG.out.2.2.2.2
                          have h3 : wr.drew.heap.size = wr.heap.size := rfl
                          omega)).ext (Ext.drew (Ext.refl _))
                      rw [← HW6.out] at hp
                      refine hp.congr fun y' _ h => ?_
                      rcases h with h | h
                      · exact .inl (.inl h)
                      · by_cases e : y' = y
                        · exact .inr e
                        · exact .inl (.inr (by omega))
                    case measure => simp [intOf]; omega
                  · obtain rfl : M = i := by omega
                    have hD := hF.dense (fun y hy => by
                      by_cases e : y < n
                      · obtain ⟨j, hj, e2⟩ := HS.out.2.1.surj e
                        exact .inl ⟨j, hj, e2.symm⟩
                      · exact .inr (by rw [HNN.out] at hy; omega)) (by omega)
                    have hst : ∀ y, y < N → ∃ t, Stands d cs p y t (R y) (L y) := fun y hy => hF.st y hy (by
                      by_cases e : y < n
                      · obtain ⟨j, hj, e2⟩ := HS.out.2.1.surj e
                        exact .inl ⟨j, hj, e2.symm⟩
                      · exact .inr (by rw [HNN.out] at hy; omega))
                    have hPd : LM.Perm0 d.next.length p := by rw [← HN.out]; exact HS.out.2.1
                    have hNd : N = d.next.length + cs.length := by rw [← HN.out, ← HC.out.1]; exact HNN.out
                    have hmx := turnD_may HM.out hPd hNd hst (by omega)
                    have hxx := turnD_xeq HM.out hPd hNd hst
                    have hlenx := turnD_len N R L
                    obtain ⟨xd, hxd⟩ : ∃ x, x = turnD N R L := ⟨_, rfl⟩
                    rw [← hxd] at hD hmx hxx hlenx
                    have hwr : Ext w wr := hF.frm.ext ((Ext.box w O).trans HK.out.2.1) (fun k j e => by have := HXN.out.xge; have := HXN.out.lge; have := HK.out.2.2; rcases e with rfl | rfl <;> omega)
                    have k0 := hk.p0
                    have k1 := hk.p1
                    have k2 := hk.x0
                    have k3 := hk.x1
                    have HE := Lib.hid (And.intro hD (And.intro hmx (And.intro hxx (And.intro hlenx hwr))))
                    clear hD hst hPd hNd hmx hxx hlenx hwr hxd hF hk HF4
                    go_wp2_with fail
                    refine (least_c (H.out.ext HE.out.2.2.2.2) HM.out).mono ?_
                    rintro e w5 ⟨v5, P, rfl, hTP, hdl, hx5, _⟩
                    have hdl : DenseV w5 v5 (leastD d P) := hdl
                    obtain ⟨a5, c5, b5, e5, rfl⟩ := hdl.form
                    obtain ⟨n5, hn5⟩ : ∃ n, n = (leastD d P).next.length := ⟨_, rfl⟩
                    obtain ⟨m5, hm5⟩ : ∃ n, n = (leastD d P).label.length := ⟨_, rfl⟩
                    rw [← hn5, ← hm5] at hdl ⊢
                    have x0 := hx5.cell k2
                    have x1 := hx5.cell k3
                    have hlx := lt_of_cell x0
                    have hxb : Ext w5 (w5.alloc (.cells #[.slice a5 n5 c5, .slice b5 m5 e5] 25)) := Ext.box _ _
                    have hD5 := HE.out.1.ext (hx5.trans hxb)
                    have HP := Lib.hid (And.intro hdl (And.intro hTP (And.intro hx5 (And.intro hxb hD5))))
                    clear hdl hTP hx5 hxb hD5 hn5 hm5 k0 k1 k2 k3
                    go_wp2_with fail
                    refine (least_c HP.out.2.2.2.2 HE.out.2.1).mono ?_
                    rintro e w6 ⟨v6, Q, rfl, hTQ, hdm, hx6, _⟩
                    have hdm : DenseV w6 v6 (leastD xd Q) := hdm
                    rw [(leastD_congr HE.out.2.1 HM.out hTQ HP.out.2.1).2 HE.out.2.2.1] at hdm
                    obtain ⟨a6, c6, b6, e6, rfl⟩ := hdm.form
                    obtain ⟨n6, hn6⟩ : ∃ n, n = (leastD d P).next.length := ⟨_, rfl⟩
                    obtain ⟨m6, hm6⟩ : ∃ n, n = (leastD d P).label.length := ⟨_, rfl⟩
                    rw [← hn6, ← hm6] at hdm ⊢
                    have y0 := hx6.cell (p := ⟨w5.heap.size, 0, none⟩) (v := .slice a5 n5 c5) (by simp)
                    have y1 := hx6.cell (p := ⟨w5.heap.size, 1, none⟩) (v := .slice b5 m5 e5) (by simp)
                    have hly := lt_of_cell y0
                    have hxb6 : Ext w6 (w6.alloc (.cells #[.slice a6 n6 c6, .slice b6 m6 e6] 25)) := Ext.box _ _
                    have heq := eqDense_b (HP.out.1.ext (HP.out.2.2.2.1.trans (hx6.trans hxb6))) (hdm.ext hxb6) (r := true) (by rw [eqD_iff])
                    have HQ := Lib.hid (And.intro heq (And.intro hx6 hxb6))
                    clear heq hdm hTQ hx6 hxb6 hn6 hm6 x0 x1
                    go_wp2_with fail
                    refine HQ.out.1.mono ?_
                    rintro e w7 ⟨rfl, hx7⟩
                    go_wp2_with fail
                    refine (hwk _).mono ?_
                    rintro e w8 ⟨rfl, hx8⟩
                    go_wp2
                    go_ret
                    exact ⟨rfl, HE.out.2.2.2.2.trans (HP.out.2.2.1.trans (HP.out.2.2.2.1.trans (HQ.out.2.1.trans (HQ.out.2.2.trans (hx7.trans hx8)))))⟩
end Go.Proofs.YthnojechejckpaaDoor
