/- bolterlaw15.RowsRuns: behind each text the table's state has the automaton's label. -/
import Derived.Test.YtngbaaiocoobdaaDoorRuns
import Derived.Test.YtngbaaiocoobdaaDoorLMay15
namespace Go.Proofs.YtngbaaiocoobdaaDoor
open Go.RowKit

set_option maxRecDepth 100000 in
set_option maxHeartbeats 4000000 in
theorem runsLaw_c {w : World} {v1 v2 : Value} {l : List Dn} {ts : List (List Int)} (h : DensesV w v1 l) (ht : TextsV w v2 ts) (hb : ∀ r ∈ ts, ∀ z ∈ r, 0 ≤ z ∧ z ≤ 255) :
    Calls Tryd.prog 6 #[.agg #[v1, v2]] w fun e w' => e = .returned (.bool true) ∧ Ext w w' := by
  obtain ⟨_, a, cap, rfl, _, hop⟩ := h.open
  obtain ⟨htl, ta, tc, rfl, hto⟩ := ht.open
  have hmay := lmay_c (h.ext (Ext.box w (.cells #[.slice a l.length cap, .slice ta ts.length tc] 47)))
  by_cases hl : LMay l
  · rw [lmayB_true.2 hl] at hmay
    obtain ⟨b, o, rfl, hcell⟩ := hop hl.pos
    obtain ⟨L, hL⟩ : ∃ L, L = l.length := ⟨_, rfl⟩
    obtain ⟨T, hT⟩ : ∃ T, T = ts.length := ⟨_, rfl⟩
    rw [← hL] at hmay h ⊢
    rw [← hT] at hmay htl hto ⊢
    have hmost : L ≤ 16 := by rw [hL]; exact hl.most
    have H := Lib.hid (And.intro h (And.intro hmay (And.intro hl (And.intro hL (And.intro hT (And.intro hcell (And.intro hto hb)))))))
    clear h hmay hl hL hT hop hcell hto hb ht
    go_enter Tryd.func6, Tryd.ntmps6
    go_wp2_with fail
    refine H.out.2.1.mono ?_
    rintro e w1 ⟨rfl, hx1⟩
    have a0 := hx1.cell (p := ⟨w.heap.size, 0, none⟩) (v := .slice (some ⟨b, o, none⟩) L cap) (by simp)
    have a1 := hx1.cell (p := ⟨w.heap.size, 1, none⟩) (v := .slice ta T tc) (by simp)
    have hxw1 := (Ext.box w _).trans hx1
    have hbd := build_c (H.out.1.ext hxw1) H.out.2.2.1.mayL
    have HX := Lib.hid (And.intro hxw1 (And.intro hbd (And.intro a0 a1)))
    clear hx1 hbd hxw1 a1
    go_wp2_with fail
    refine HX.out.2.1.mono ?_
    rintro e w4 hR
    obtain ⟨bc, oc, cc, bs, os, sc, bn, on, nc, bl, ol, lc, K, n, rfl, hn, hn1, hn6, hK, hB, hTT, hx4⟩ := hR.open H.out.2.2.1.mayL
    clear hR a0
    rw [← H.out.2.2.2.1] at hTT ⊢
    have hmy := tmay_c (hTT.ext (Ext.box w4 (.cells #[.slice (some ⟨bc, oc, none⟩) 256 cc, .int .i64 (K : Int), .slice (some ⟨bs, os, none⟩) L sc, .slice (some ⟨bn, on, none⟩) n nc, .slice (some ⟨bl, ol, none⟩) n lc] 39)))
    rw [mayT_true.2 (built_may H.out.2.2.1.mayL)] at hmy
    have HT := Lib.hid (And.intro hn (And.intro hB (And.intro hmy (And.intro (HX.out.1.trans hx4) (And.intro hTT hx4)))))
    clear hn hB hmy hTT hx4
    have hLL : ((L : Int) != (L : Int)) = false := by simp
    go_wp2_with fail
    refine HT.out.2.2.1.mono ?_
    rintro e w5 ⟨rfl, hx5⟩
    have hx45 := (Ext.box w4 _).trans hx5
    have q0 := hx5.cell (p := ⟨w4.heap.size, 0, none⟩) (v := .slice (some ⟨bc, oc, none⟩) 256 cc) (by simp)
    have q1 := hx5.cell (p := ⟨w4.heap.size, 1, none⟩) (v := .int .i64 (K : Int)) (by simp)
    have q2 := hx5.cell (p := ⟨w4.heap.size, 2, none⟩) (v := .slice (some ⟨bs, os, none⟩) L sc) (by simp)
    have q3 := hx5.cell (p := ⟨w4.heap.size, 3, none⟩) (v := .slice (some ⟨bn, on, none⟩) n nc) (by simp)
    have q4 := hx5.cell (p := ⟨w4.heap.size, 4, none⟩) (v := .slice (some ⟨bl, ol, none⟩) n lc) (by simp)
    have a0 := (HT.out.2.2.2.2.2.trans hx45).cell HX.out.2.2.1
    have a1 := (HT.out.2.2.2.2.2.trans hx45).cell HX.out.2.2.2
    obtain ⟨rb, hrb⟩ : ∃ rb, rb = w4.heap.size := ⟨_, rfl⟩
    obtain ⟨pb, hpb⟩ : ∃ pb, pb = w.heap.size := ⟨_, rfl⟩
    rw [← hrb] at q0 q1 q2 q3 q4 ⊢
    rw [← hpb] at a0 a1 ⊢
    have HQ := Lib.hid (And.intro a0 (And.intro a1 (And.intro q0 (And.intro q1 (And.intro q2 (And.intro q3 (And.intro q4 (And.intro hx45 (HT.out.2.2.2.1.trans hx45)))))))))
    clear q0 q1 q3 q4 hx5 hx45 hrb hpb a1
    go_wp2
    clear hLL q2 a0
    go_loopw [5] (fun mv wr => Ext w5 wr ∧ ∃ m : Nat, m ≤ L ∧ mv = .int .i64 m) (fun mv _ => L - (intOf mv).toNat)
    case atStart => exact ⟨Ext.refl _, 0, Nat.zero_le _, rfl⟩
    case round =>
      rename World => w6
      obtain ⟨hx6, m, hm, rfl⟩ := hrel
      have a0 := hx6.cell HQ.out.1
      by_cases hltm : m < L
      · obtain ⟨d, hd⟩ : ∃ d, l[m]? = some d := ⟨_, List.getElem?_eq_getElem (by rw [← H.out.2.2.2.1]; exact hltm)⟩
        have hdm := H.out.2.2.1.each d (List.mem_of_getElem? hd)
        have hxw6 := HQ.out.2.2.2.2.2.2.2.2.trans hx6
        obtain ⟨an, cn, al, cl, c0, c1, hdv⟩ := H.out.2.2.2.2.2.1 m d hd
        rw [hdm.labels] at c1 hdv
        have hrc := reach_c (hdv.ext hxw6) hdm
        unfold ReachR at hrc
        obtain ⟨N, hN⟩ : ∃ N, N = d.next.length := ⟨_, rfl⟩
        rw [← hN] at hrc c0 c1 hdv
        have d0 := hxw6.cell c0
        have d1 := hxw6.cell c1
        have hj1 : (m : Int) < L := by omega
        have HD := Lib.hid (And.intro hd (And.intro hdm (And.intro hrc (And.intro hN (And.intro hx6 (And.intro c0 (And.intro c1 hdv)))))))
        clear hd hdm hrc hN hx6 c0 c1 hdv hxw6
        go_wp2_with fail
        refine HD.out.2.2.1.mono ?_
        rintro e w7 ⟨g, rfl, hg, hx7⟩
        have HG := Lib.hid (And.intro hg hx7)
        clear hg hx7 a0 d0 d1
        go_wp2
        go_loopw [7] (fun iv wr => Ext w7 wr ∧ ∃ i : Nat, i ≤ T ∧ iv = .int .i64 i) (fun iv _ => T - (intOf iv).toNat)
        case atStart => exact ⟨Ext.refl _, 0, Nat.zero_le _, rfl⟩
        case round =>
          rename World => w8
          obtain ⟨hx8, i, hi, rfl⟩ := hrel
          have hx58 := HD.out.2.2.2.2.1.trans (HG.out.2.trans hx8)
          have a1 := hx58.cell HQ.out.2.1
          by_cases hlti : i < T
          · have hj2 : (i : Int) < T := by omega
            by_cases h6 : i < 6
            · have hj3 : (i : Int) < 6 := by omega
              obtain ⟨bt, ot, rfl, htc⟩ := H.out.2.2.2.2.2.2.1 (by omega)
              obtain ⟨rv, hr0, hr1⟩ := htc i hlti
              obtain ⟨_, ra, rc, rfl, _, _⟩ := IntsK.open hr1
              have hxw8 := HQ.out.2.2.2.2.2.2.2.2.trans hx58
              have hw4 := HQ.out.2.2.2.2.2.2.2.1.trans hx58
              have hcl := fun z => runs_c H.out.2.2.1.mayL HD.out.1 ((HD.out.2.2.2.2.2.2.2.ext hxw8).ext (grow_ext w8 z)) HT.out.1 hn6 ((HT.out.2.1.ext hw4).ext (grow_ext w8 z)) ((HT.out.2.2.2.2.1.ext hw4).ext (grow_ext w8 z)) (by have := HG.out.1; rw [HD.out.2.2.2.1] at this; exact rowIs_ext (hx8.trans (grow_ext w8 z)) this) (IntsK.ext (hxw8.trans (grow_ext w8 z)) hr1) (H.out.2.2.2.2.2.2.2 _ (mem_getD (by rw [← H.out.2.2.2.2.1]; exact hlti)))
              rw [← HD.out.2.2.2.1] at hcl
              have hst := (HT.out.2.1.ext hw4).start m d HD.out.1
              obtain ⟨B, hB⟩ : ∃ B, B = baseOf (l.take m) := ⟨_, rfl⟩
              rw [← hB] at hcl hst
              obtain ⟨R, hR⟩ : ∃ R, R = (ts.getD i []).length := ⟨_, rfl⟩
              rw [← hR] at hcl hr0
              have p0 := fun z => (hx58.trans (grow_ext w8 z)).cell HQ.out.1
              have p1 := fun z => (hx58.trans (grow_ext w8 z)).cell HQ.out.2.1
              have p2 := fun z => (hx58.trans (grow_ext w8 z)).cell HQ.out.2.2.1
              have p3 := fun z => (hx58.trans (grow_ext w8 z)).cell HQ.out.2.2.2.1
              have p4 := fun z => (hx58.trans (grow_ext w8 z)).cell HQ.out.2.2.2.2.1
              have p5 := fun z => (hx58.trans (grow_ext w8 z)).cell HQ.out.2.2.2.2.2.1
              have p6 := fun z => (hx58.trans (grow_ext w8 z)).cell HQ.out.2.2.2.2.2.2.1
              have p7 := fun z => (hxw8.trans (grow_ext w8 z)).cell HD.out.2.2.2.2.2.1
              have p8 := fun z => (hxw8.trans (grow_ext w8 z)).cell HD.out.2.2.2.2.2.2.1
              have p9 := fun z => (grow_ext w8 z).cell hst
              have p10 := fun z => (hxw8.trans (grow_ext w8 z)).cell hr0
              have HC := Lib.hid (And.intro hcl hx8)
              clear hcl hB hR hst hr0 hr1 hxw8 hw4 hx58 htc hx8
              go_wp2_with fail
              clear a1
              refine wp_region_grow (by kernel_rfl) (by kernel_rfl) ?_
              repeat (go_big_quiet_step ((go_at_call 23; with_reducible exact calls_grow (HC.out.1 _))))
              refine wpQuiet_nil ?_
              rintro _ ⟨z, rfl⟩
              have HX9 := Lib.hid (HC.out.2.trans (grow_ext w8 z))
              clear p0 p1 p2 p3 p4 p5 p6 p7 p8 p9 p10
              go_wp2
              go_roundw
              case rel => exact ⟨HX9.out, i + 1, by omega, by go_num⟩
              case measure => simp [intOf]; omega
            · have hj3 : ¬ (i : Int) < 6 := by omega
              have HC := Lib.hid (HD.out.2.2.2.2.1.trans (HG.out.2.trans hx8))
              clear hx8 hx58
              go_wp2
              go_roundw
              case rel => first | exact ⟨HC.out, m + 1, by omega, by go_num⟩ | ((repeat apply Exists.intro); exact ⟨⟨HC.out, m + 1, by omega, by go_num⟩, rfl⟩)
              case measure => simp [intOf]; omega
          · obtain rfl : T = i := by omega
            have HC := Lib.hid (HD.out.2.2.2.2.1.trans (HG.out.2.trans hx8))
            clear hx8 hx58 hlti hi
            go_wp2
            go_roundw
            case rel => first | exact ⟨HC.out, m + 1, by omega, by go_num⟩ | ((repeat apply Exists.intro); exact ⟨⟨HC.out, m + 1, by omega, by go_num⟩, rfl⟩)
            case measure => simp [intOf]; omega
      · obtain rfl : L = m := by omega
        have HM := Lib.hid hx6
        clear hx6 hltm hm
        go_wp2_with fail
        refine (wakes15_c _).mono ?_
        rintro e w9 ⟨rfl, hx9⟩
        have HX9 := Lib.hid (HQ.out.2.2.2.2.2.2.2.2.trans (HM.out.trans hx9))
        clear hx9
        go_wp2
        go_ret
        exact ⟨rfl, HX9.out⟩
  · rw [lmayB_false hl] at hmay
    generalize l.length = L at *
    generalize ts.length = T at *
    have H := Lib.hid hmay
    clear h hmay hl hop hto ht htl hb
    go_enter Tryd.func6, Tryd.ntmps6
    go_wp2_with fail
    refine H.out.mono ?_
    rintro e w1 ⟨rfl, hx1⟩
    go_wp2_with fail
    refine (wakes15_c w1).mono ?_
    rintro e w2 ⟨rfl, hx2⟩
    have HX := Lib.hid ((Ext.box w _).trans (hx1.trans hx2))
    clear hx1 hx2
    go_wp2
    go_ret
    exact ⟨rfl, HX.out⟩
end Go.Proofs.YtngbaaiocoobdaaDoor
