/- bolterlaw16.CombLooks. By mklooks.py. -/
import Derived.Test.YtpeipjfmibjoiaaDoorCombV
import Derived.Test.YtpeipjfmibjoiaaDoorSents
import Derived.WalkMore
import Derived.Test.YtpeipjfmibjoiaaDoorArgComb
import Derived.Test.YtpeipjfmibjoiaaDoorCombMay
import Derived.Test.YtpeipjfmibjoiaaDoorCombEnt
import Derived.Test.YtpeipjfmibjoiaaDoorLook
import Derived.Test.YtpeipjfmibjoiaaDoorTell
import Derived.Test.YtpeipjfmibjoiaaDoorWakes16
namespace Go.Proofs.YtpeipjfmibjoiaaDoor
open Go.RowKit

set_option maxRecDepth 100000 in
set_option maxHeartbeats 4000000 in
theorem look_no {w : World} {v : Value} {C : Cmb} {s k : Int} {a : Nat → Addr} (h : CmbV w v C) (hS : Sents w a) (hno : ¬ (CB.CMay C 256 ∧ 0 ≤ s ∧ s < C.base.length ∧ 0 ≤ k ∧ k ≤ 255)) :
    Calls Tryd.prog 25 #[v, .int .i64 s, .int .i64 k] w fun e w' => e = .returned (.tuple #[.int .i64 0, .int .i64 0, .iface 265 (.pointer (some (a 15)))]) ∧ Ext w w' := by
  obtain ⟨ab, cb, ad, cd, an, cn, ac, cc, rfl, _⟩ := h.open
  obtain ⟨W, hW⟩ : ∃ W, W = w.alloc (.cells #[.slice ab C.base.length cb, .slice ad C.dflt.length cd, .slice an C.next.length cn, .slice ac C.check.length cc] 40) := ⟨_, rfl⟩
  have hxW : Ext w W := by rw [hW]; exact Ext.box _ _
  have hck := ccheck_c (k := 256) (h.ext hxW)
  have hg := hxW.cell (hS.cell 15 (by omega) (by omega))
  rw [show gl 15 = 0 from rfl] at hg
  have q0 : W.cell? ⟨w.heap.size, 0, none⟩ = some (.slice ab C.base.length cb) := by rw [hW]; simp
  have q1 : W.cell? ⟨w.heap.size, 1, none⟩ = some (.slice ad C.dflt.length cd) := by rw [hW]; simp
  have q2 : W.cell? ⟨w.heap.size, 2, none⟩ = some (.slice an C.next.length cn) := by rw [hW]; simp
  have q3 : W.cell? ⟨w.heap.size, 3, none⟩ = some (.slice ac C.check.length cc) := by rw [hW]; simp
  obtain ⟨m, hm⟩ : ∃ m, m = CB.mayC C 256 := ⟨_, rfl⟩
  rw [← hm] at hck
  have hno' : m = true → ¬ (0 ≤ s ∧ s < C.base.length ∧ 0 ≤ k ∧ k ≤ 255) := fun e hs => hno ⟨CB.mayC_true.1 (by rw [← hm]; exact e), hs⟩
  clear h hS hm hno
  generalize a 15 = x at *
  generalize C.base.length = n1 at *
  generalize C.dflt.length = n2 at *
  generalize C.next.length = n3 at *
  generalize C.check.length = n4 at *
  have HC := Lib.hid (And.intro hck (And.intro hg (And.intro hxW hW)))
  clear hck hg hxW hW
  cases m
  · clear hno'
    go_enter Tryd.func25, Tryd.ntmps25
    go_wp2_with fail
    rw [← HC.out.2.2.2]
    go_step3
    go_wp2_with fail
    refine HC.out.1.mono ?_
    rintro e w1 ⟨rfl, hx1⟩
    have g0 := hx1.cell HC.out.2.1
    have c0 := hx1.cell q0
    have HX := Lib.hid (HC.out.2.2.1.trans hx1)
    clear hx1
    go_wp2_with fail
    go_quiet (fail)
    go_wp2
    (try rw [Exit.noGoto_ret])
    go_ret3
    exact ⟨rfl, HX.out.drewN _⟩
  · have hno2 := hno' rfl
    clear hno'
    by_cases h1 : s < 0
    · clear hno2
      go_enter Tryd.func25, Tryd.ntmps25
      go_wp2_with fail
      rw [← HC.out.2.2.2]
      go_step3
      go_wp2_with fail
      refine HC.out.1.mono ?_
      rintro e w1 ⟨rfl, hx1⟩
      have g0 := hx1.cell HC.out.2.1
      have c0 := hx1.cell q0
      have HX := Lib.hid (HC.out.2.2.1.trans hx1)
      clear hx1
      go_wp2_with fail
      go_quiet (fail)
      go_wp2
      (try rw [Exit.noGoto_ret])
      go_ret3
      exact ⟨rfl, HX.out.drewN _⟩
    have h1' : 0 ≤ s := by omega
    by_cases h2 : (n1 : Int) ≤ s
    · clear hno2
      go_enter Tryd.func25, Tryd.ntmps25
      go_wp2_with fail
      rw [← HC.out.2.2.2]
      go_step3
      go_wp2_with fail
      refine HC.out.1.mono ?_
      rintro e w1 ⟨rfl, hx1⟩
      have g0 := hx1.cell HC.out.2.1
      have c0 := hx1.cell q0
      have HX := Lib.hid (HC.out.2.2.1.trans hx1)
      clear hx1
      go_wp2_with fail
      go_quiet (fail)
      go_wp2
      (try rw [Exit.noGoto_ret])
      go_ret3
      exact ⟨rfl, HX.out.drewN _⟩
    have h2' : s < n1 := by omega
    by_cases h3 : k < 0
    · clear hno2
      go_enter Tryd.func25, Tryd.ntmps25
      go_wp2_with fail
      rw [← HC.out.2.2.2]
      go_step3
      go_wp2_with fail
      refine HC.out.1.mono ?_
      rintro e w1 ⟨rfl, hx1⟩
      have g0 := hx1.cell HC.out.2.1
      have c0 := hx1.cell q0
      have HX := Lib.hid (HC.out.2.2.1.trans hx1)
      clear hx1
      go_wp2_with fail
      go_quiet (fail)
      go_wp2
      (try rw [Exit.noGoto_ret])
      go_ret3
      exact ⟨rfl, HX.out.drewN _⟩
    have h3' : 0 ≤ k := by omega
    have h4 : 255 < k := by omega
    clear hno2
    go_enter Tryd.func25, Tryd.ntmps25
    go_wp2_with fail
    rw [← HC.out.2.2.2]
    go_step3
    go_wp2_with fail
    refine HC.out.1.mono ?_
    rintro e w1 ⟨rfl, hx1⟩
    have g0 := hx1.cell HC.out.2.1
    have c0 := hx1.cell q0
    have HX := Lib.hid (HC.out.2.2.1.trans hx1)
    clear hx1
    go_wp2_with fail
    go_quiet (fail)
    go_wp2
    (try rw [Exit.noGoto_ret])
    go_ret3
    exact ⟨rfl, HX.out.drewN _⟩
end Go.Proofs.YtpeipjfmibjoiaaDoor

namespace Go.Proofs.YtpeipjfmibjoiaaDoor
open Go.RowKit

set_option maxRecDepth 100000 in
set_option maxHeartbeats 16000000 in
theorem looksLaw_c {w : World} {v1 v3 v4 : Value} {Q : Int} {l : List Cmb} {ss ks : List Int} {a : Nat → Addr} (h : CmbsV w v1 l) (hf : ∀ C ∈ l, CmbFits C) (hs : Ints w v3 ss) (hk : Ints w v4 ks) (hS : Sents w a) :
    Calls Tryd.prog 13 #[.agg #[v1, .int .i64 Q, v3, v4]] w fun e w' => e = .returned (.bool true) ∧ Ext w w' := by
  obtain ⟨hl1, la, lc, rfl, _, hlo⟩ := h
  obtain ⟨hs1, sa, sc, rfl, _, hso⟩ := hs.open
  obtain ⟨hb1, ba, bc, rfl, _, hbo⟩ := hk.open
  obtain ⟨L, hL⟩ : ∃ L, L = l.length := ⟨_, rfl⟩
  obtain ⟨S, hSS⟩ : ∃ S, S = ss.length := ⟨_, rfl⟩
  obtain ⟨B, hBB⟩ : ∃ B, B = ks.length := ⟨_, rfl⟩
  rw [← hL] at hl1 hlo ⊢
  rw [← hSS] at hs1 hso ⊢
  rw [← hBB] at hb1 hbo ⊢
  have H := Lib.hid (And.intro hlo (And.intro hf (And.intro hso (And.intro hbo (And.intro hS (And.intro hL (And.intro hSS hBB)))))))
  clear hlo hf hso hbo hS hL hSS hBB hs hk
  go_enter Tryd.func13, Tryd.ntmps13
  go_wp2
  obtain ⟨wb, hwb⟩ : ∃ wb, wb = w.alloc (.cells #[.slice la L lc, .int .i64 Q, .slice sa S sc, .slice ba B bc] 110) := ⟨_, rfl⟩
  have hxb : Ext w wb := by rw [hwb]; exact Ext.box _ _
  have q0 : wb.cell? ⟨w.heap.size, 0, none⟩ = some (.slice la L lc) := by rw [hwb]; simp
  have q1 : wb.cell? ⟨w.heap.size, 1, none⟩ = some (.int .i64 Q) := by rw [hwb]; simp
  have q2 : wb.cell? ⟨w.heap.size, 2, none⟩ = some (.slice sa S sc) := by rw [hwb]; simp
  have q3 : wb.cell? ⟨w.heap.size, 3, none⟩ = some (.slice ba B bc) := by rw [hwb]; simp
  obtain ⟨pb, hpb⟩ : ∃ pb, pb = w.heap.size := ⟨_, rfl⟩
  rw [← hwb]
  rw [← hpb] at q0 q1 q2 q3 ⊢
  have HQ := Lib.hid (And.intro hxb (And.intro q0 (And.intro q1 (And.intro q2 q3))))
  clear hxb q0 q1 q2 q3 hwb hpb
  go_loopw [3] (fun iv wr => Ext wb wr ∧ ∃ i : Nat, i ≤ L ∧ iv = .int .i64 i) (fun iv _ => L - (intOf iv).toNat)
  case atStart => exact ⟨Ext.refl _, 0, Nat.zero_le _, rfl⟩
  case round =>
    rename World => w1
    obtain ⟨hx1, i, hi, rfl⟩ := hrel
    have k0 := hx1.cell HQ.out.2.1
    by_cases hlt : i < L
    · have hj1 : (i : Int) < L := by omega
      by_cases h6 : i < 6
      · have hj2 : (i : Int) < 6 := by omega
        obtain ⟨lb, lo, rfl, hla⟩ := H.out.1 (by omega)
        obtain ⟨C, hC⟩ : ∃ C, l[i]? = some C := ⟨_, List.getElem?_eq_getElem (by rw [← H.out.2.2.2.2.2.1]; exact hlt)⟩
        obtain ⟨e1, e2, e3, e4, c1, c2, c3, c4, hCV⟩ := hla i C hC
        have hCf := H.out.2.1 C (List.mem_of_getElem? hC)
        have hxw1 := HQ.out.1.trans hx1
        have k1 := hx1.cell HQ.out.2.2.1
        obtain ⟨_, _, _, _, hv, y1, y2, y3, y4⟩ := hCV
        simp only [Value.agg.injEq, Array.mk.injEq, List.cons.injEq, and_true] at hv
        obtain ⟨rfl, rfl, rfl, rfl⟩ := hv
        have hCV : CmbV w (.agg #[e1, e2, e3, e4]) C := ⟨_, _, _, _, rfl, y1, y2, y3, y4⟩
        obtain ⟨_, t1, u1', rfl, _, _⟩ := y1.open
        obtain ⟨_, t2, u2', rfl, _, _⟩ := y2.open
        obtain ⟨_, t3, u3', rfl, _, _⟩ := y3.open
        obtain ⟨_, t4, u4', rfl, _, _⟩ := y4.open
        clear y1 y2 y3 y4
        obtain ⟨n1, hn1⟩ : ∃ n, n = C.base.length := ⟨_, rfl⟩
        obtain ⟨n2, hn2⟩ : ∃ n, n = C.dflt.length := ⟨_, rfl⟩
        obtain ⟨n3, hn3⟩ : ∃ n, n = C.next.length := ⟨_, rfl⟩
        obtain ⟨n4, hn4⟩ : ∃ n, n = C.check.length := ⟨_, rfl⟩
        rw [← hn1] at c1 hCV
        rw [← hn2] at c2 hCV
        rw [← hn3] at c3 hCV
        rw [← hn4] at c4 hCV
        have d1 := hxw1.cell c1
        have d2 := hxw1.cell c2
        have d3 := hxw1.cell c3
        have d4 := hxw1.cell c4
        have HD := Lib.hid (And.intro hx1 (And.intro hxw1 (And.intro hCV (And.intro hCf (And.intro c1 (And.intro c2 (And.intro c3 (And.intro c4 (And.intro hn1 (And.intro hn2 (And.intro hn3 hn4)))))))))))
        have hcp := copyComb_c (hCV.ext hxw1) hCf
        unfold CopiedCmb at hcp
        have HC := Lib.hid hcp
        clear hx1 hxw1 hC hCV hCf c1 c2 c3 c4 hn1 hn2 hn3 hn4 hla hcp
        go_wp2_with fail
        refine HC.out.mono ?_
        rintro e w2 ⟨v', rfl, hR, hx2⟩
        have hR' := hR
        obtain ⟨r1, s1, r2, s2, r3, s3, r4, s4, hv', _⟩ := hR'.open
        subst hv'
        rw [← HD.out.2.2.2.2.2.2.2.2.1, ← HD.out.2.2.2.2.2.2.2.2.2.1, ← HD.out.2.2.2.2.2.2.2.2.2.2.1, ← HD.out.2.2.2.2.2.2.2.2.2.2.2] at hR ⊢
        obtain ⟨w3, hw3⟩ : ∃ w3, w3 = w2.alloc (.cells #[.slice r1 n1 s1, .slice r2 n2 s2, .slice r3 n3 s3, .slice r4 n4 s4] 40) := ⟨_, rfl⟩
        have hx3 : Ext w2 w3 := by rw [hw3]; exact Ext.box _ _
        have z1 : w3.cell? ⟨w2.heap.size, 0, none⟩ = some (.slice r1 n1 s1) := by rw [hw3]; simp
        have z2 : w3.cell? ⟨w2.heap.size, 1, none⟩ = some (.slice r2 n2 s2) := by rw [hw3]; simp
        have z3 : w3.cell? ⟨w2.heap.size, 2, none⟩ = some (.slice r3 n3 s3) := by rw [hw3]; simp
        have z4 : w3.cell? ⟨w2.heap.size, 3, none⟩ = some (.slice r4 n4 s4) := by rw [hw3]; simp
        have hx13 := hx2.trans hx3
        have hxw3 := HD.out.2.1.trans hx13
        have hxb3 := HD.out.1.trans hx13
        obtain ⟨m, hm⟩ : ∃ m, m = CB.mayC C Q := ⟨_, rfl⟩
        have hck := fun z => ccheck_c (k := Q) ((hR.ext hx3).ext (grow_ext w3 z))
        have hmy := fun z => cmay_c (k := Q) ((HD.out.2.2.1.ext hxw3).ext (grow_ext w3 z))
        rw [← hm] at hck hmy
        have H3 := Lib.hid (And.intro hxb3 (And.intro hxw3 (And.intro hck (And.intro hmy (And.intro (hR.ext hx3) (And.intro z1 (And.intro z2 (And.intro z3 z4))))))))
        clear hx2 hx3 hck hmy hR hm z1 z2 z3 z4 k0 k1 d1 d2 d3 d4
        go_upto_region 5 with fail
        rw [← hw3]
        obtain ⟨rb, hrb⟩ : ∃ rb, rb = w2.heap.size := ⟨_, rfl⟩
        rw [← hrb]
        have HRB := Lib.hid hrb
        have z1 := fun z => (grow_ext w3 z).cell H3.out.2.2.2.2.2.1
        have z2 := fun z => (grow_ext w3 z).cell H3.out.2.2.2.2.2.2.1
        have z3 := fun z => (grow_ext w3 z).cell H3.out.2.2.2.2.2.2.2.1
        have z4 := fun z => (grow_ext w3 z).cell H3.out.2.2.2.2.2.2.2.2
        rw [← hrb] at z1 z2 z3 z4
        have k0 := fun z => (hxb3.trans (grow_ext w3 z)).cell HQ.out.2.1
        have k1 := fun z => (hxb3.trans (grow_ext w3 z)).cell HQ.out.2.2.1
        have d1 := fun z => (hxw3.trans (grow_ext w3 z)).cell HD.out.2.2.2.2.1
        have d2 := fun z => (hxw3.trans (grow_ext w3 z)).cell HD.out.2.2.2.2.2.1
        have d3 := fun z => (hxw3.trans (grow_ext w3 z)).cell HD.out.2.2.2.2.2.2.1
        have d4 := fun z => (hxw3.trans (grow_ext w3 z)).cell HD.out.2.2.2.2.2.2.2.1
        have hmm : (m != m) = false := by simp
        clear hw3 hrb hx13 hxw3 hxb3
        refine wp_region_grow (by kernel_rfl) (by kernel_rfl) ?_
        repeat (go_big_quiet_step ((first | (go_at_call 24; with_reducible exact calls_grow (H3.out.2.2.1 _)) | (go_at_call 28; with_reducible exact calls_grow (H3.out.2.2.2.1 _)))))
        refine wpQuiet_nil ?_
        rintro _ ⟨z, rfl⟩
        clear z1 z2 z3 z4 k0 k1 d1 d2 d3 d4
        obtain ⟨w4, hw4⟩ : ∃ W, W = growW w3 z := ⟨_, rfl⟩
        have hx4 : Ext w3 w4 := by rw [hw4]; exact grow_ext w3 z
        rw [← hw4]
        clear hw4
        have hxb4 := H3.out.1.trans hx4
        have hxw4 := H3.out.2.1.trans hx4
        have k0 := hxb4.cell HQ.out.2.1
        have d1 := hxw4.cell HD.out.2.2.2.2.1
        have d2 := hxw4.cell HD.out.2.2.2.2.2.1
        have d3 := hxw4.cell HD.out.2.2.2.2.2.2.1
        have d4 := hxw4.cell HD.out.2.2.2.2.2.2.2.1
        obtain ⟨mm, hmm2⟩ : ∃ m, m = CB.mayC C 256 := ⟨_, rfl⟩
        have hmy := cmay_c (k := 256) (HD.out.2.2.1.ext hxw4)
        rw [← hmm2] at hmy
        have H4 := Lib.hid (And.intro hx4 (And.intro hxb4 (And.intro hxw4 (And.intro hmy hmm2))))
        clear hx4 hxb4 hxw4 hmy hmm2
        go_wp2_with fail
        refine H4.out.2.2.2.1.mono ?_
        rintro e w5 ⟨rfl, hx5⟩
        have hx35 := H4.out.1.trans hx5
        have H5 := Lib.hid (And.intro (H3.out.1.trans hx35) (And.intro (H3.out.2.1.trans hx35) (And.intro (H3.out.2.2.2.2.1.ext hx35) hx35)))
        clear hx5 hx35 k0 d1 d2 d3 d4 hmm
        have hz : ∀ W, Ext w5 W → W.cell? ⟨rb, 0, none⟩ = some (.slice r1 n1 s1) ∧ W.cell? ⟨rb, 1, none⟩ = some (.slice r2 n2 s2) ∧ W.cell? ⟨rb, 2, none⟩ = some (.slice r3 n3 s3) ∧ W.cell? ⟨rb, 3, none⟩ = some (.slice r4 n4 s4) := fun W hx => by
          rw [HRB.out]
          have hh := H5.out.2.2.2.trans hx
          exact ⟨hh.cell H3.out.2.2.2.2.2.1, hh.cell H3.out.2.2.2.2.2.2.1, hh.cell H3.out.2.2.2.2.2.2.2.1, hh.cell H3.out.2.2.2.2.2.2.2.2⟩
        have HZ := Lib.hid hz
        clear hz
        go_wp2
        go_loopw [6] (fun kv wr => Ext w5 wr ∧ ∃ k : Nat, k ≤ S ∧ kv = .int .i64 k) (fun kv _ => S - (intOf kv).toNat)
        case atStart => exact ⟨Ext.refl _, 0, Nat.zero_le _, rfl⟩
        case round =>
          rename World => w6
          obtain ⟨hx6, k, hk, rfl⟩ := hrel
          have hxb6 := H5.out.1.trans hx6
          have hxw6 := H5.out.2.1.trans hx6
          have p2 := hxb6.cell HQ.out.2.2.2.1
          have p3 := hxb6.cell HQ.out.2.2.2.2
          by_cases hgo : k < S ∧ k < B ∧ k < 24
          · obtain ⟨g1, g2, g3⟩ := hgo
            have hj7 : (k : Int) < S := by omega
            have hj8 : (k : Int) < B := by omega
            have hj9 : (k : Int) < 24 := by omega
            obtain ⟨sb, so, rfl, hsc⟩ := H.out.2.2.1 (by omega)
            obtain ⟨bb, bo, rfl, hbc⟩ := H.out.2.2.2.1 (by omega)
            have es := hxw6.cell (hsc k g1)
            obtain ⟨s, hs⟩ : ∃ s, s = ss.getD k 0 := ⟨_, rfl⟩
            obtain ⟨β, hβ⟩ : ∃ β, β = ks.getD k 0 := ⟨_, rfl⟩
            rw [← hs] at es
            have eb0 := hbc k g2
            rw [← hβ] at eb0
            have HEB := Lib.hid eb0
            clear hs hβ hsc hbc eb0
            have p2' := fun z => (hxb6.trans (grow_ext w6 z)).cell HQ.out.2.2.2.1
            have p3' := fun z => (hxb6.trans (grow_ext w6 z)).cell HQ.out.2.2.2.2
            have eb' := fun z => (hxw6.trans (grow_ext w6 z)).cell HEB.out
            have y1 := fun z => (HZ.out _ (hx6.trans (grow_ext w6 z))).1
            have y2 := fun z => (HZ.out _ (hx6.trans (grow_ext w6 z))).2.1
            have y3 := fun z => (HZ.out _ (hx6.trans (grow_ext w6 z))).2.2.1
            have y4 := fun z => (HZ.out _ (hx6.trans (grow_ext w6 z))).2.2.2
            have HE := Lib.hid (And.intro hx6 (And.intro hxb6 hxw6))
            by_cases hg : CB.CMay C 256 ∧ 0 ≤ s ∧ s < C.base.length ∧ 0 ≤ β ∧ β ≤ 255
            · obtain ⟨hCM, hs0, hs1, hb0, hb1⟩ := hg
              obtain rfl : mm = true := by rw [H4.out.2.2.2.2]; exact CB.mayC_true.2 hCM
              obtain ⟨σ, rfl⟩ : ∃ σ : Nat, s = σ := ⟨s.toNat, by omega⟩
              obtain ⟨κ, rfl⟩ : ∃ κ : Nat, β = κ := ⟨β.toNat, by omega⟩
              have hσ : σ < C.base.length := by omega
              have hlk := fun z => look_c (k := κ) (s := σ) ((H5.out.2.2.1.ext hx6).ext (grow_ext w6 z)) hCM hσ (by omega)
              obtain ⟨bb1, ob1, cb1, bd1, od1, cd1, an1, cn1, ac1, cc1, n9, m9, hv9, hin⟩ := (HD.out.2.2.1.ext hxw6).opened hCM
              have hn1' : (σ : Int) < n1 := by have := HD.out.2.2.2.2.2.2.2.2.1; omega
              have hs2 : ¬ (n1 : Int) ≤ σ := by omega
              have hs3 : ¬ (σ : Int) < 0 := by omega
              have hk1 : ¬ (κ : Int) < 0 := by omega
              have hk2 : ¬ (255 : Int) < κ := by omega
              have hn9 : C.base.length = n9 := hin.nlen
              obtain ⟨x, hx⟩ : ∃ x, x = (CB.look C κ σ).1 := ⟨_, rfl⟩
              obtain ⟨pr, hpr⟩ : ∃ x, x = (CB.look C κ σ).2 := ⟨_, rfl⟩
              rw [← hx, ← hpr] at hlk
              have HEn := Lib.hid (And.intro hlk (And.intro hin (And.intro hv9 (And.intro hx (And.intro hpr (And.intro hσ hn9))))))
              clear hlk hin hv9 hx hpr hCM hσ hn9 hs1 hx6 hxb6 hxw6
              go_wp2_with fail
              clear p2 p3 es
              refine wp_region_grow (by kernel_rfl) (by kernel_rfl) ?_
              repeat (go_big_quiet_step ((go_at_call 25; with_reducible exact calls_grow (HEn.out.1 _))))
              refine wpQuiet_nil ?_
              rintro _ ⟨z, rfl⟩
              clear y1 y2 y3 y4 p2' p3' eb'
              obtain ⟨w7, hw7⟩ : ∃ W, W = growW w6 z := ⟨_, rfl⟩
              have hx7 : Ext w6 w7 := by rw [hw7]; exact grow_ext w6 z
              rw [← hw7]
              clear hw7
              have hxb7 := HE.out.2.1.trans hx7
              have hxw7 := HE.out.2.2.trans hx7
              have p3 := hxb7.cell HQ.out.2.2.2.2
              have eb := hxw7.cell HEB.out
              have y1 := (HZ.out _ (HE.out.1.trans hx7)).1
              have hv9 := HEn.out.2.2.1
              simp only [Value.agg.injEq, Array.mk.injEq, List.cons.injEq, and_true, Value.slice.injEq] at hv9
              obtain ⟨⟨rfl, rfl, rfl⟩, ⟨rfl, rfl, rfl⟩, ⟨rfl, rfl, rfl⟩, ⟨rfl, rfl, rfl⟩⟩ := hv9
              have hen := fun z => ent_c (cb := u1') (cd := u2') (cn := u3') (cc := u4') (k := κ) (s := σ) ((HEn.out.2.1.ext hx7).ext (grow_ext w7 z)) (by have := HEn.out.2.2.2.2.2.1; have := HEn.out.2.2.2.2.2.2; omega) (by omega)
              rw [← HEn.out.2.2.2.1, ← HEn.out.2.2.2.2.1] at hen
              have k0' := fun z => (hxb7.trans (grow_ext w7 z)).cell HQ.out.2.1
              have p3' := fun z => (hxb7.trans (grow_ext w7 z)).cell HQ.out.2.2.2.2
              have eb' := fun z => (hxw7.trans (grow_ext w7 z)).cell HEB.out
              have d1' := fun z => (hxw7.trans (grow_ext w7 z)).cell HD.out.2.2.2.2.1
              have d2' := fun z => (hxw7.trans (grow_ext w7 z)).cell HD.out.2.2.2.2.2.1
              have d3' := fun z => (hxw7.trans (grow_ext w7 z)).cell HD.out.2.2.2.2.2.2.1
              have d4' := fun z => (hxw7.trans (grow_ext w7 z)).cell HD.out.2.2.2.2.2.2.2.1
              have hxx : (x != x) = false := by simp
              have hpp : ((pr : Int) != (pr : Int)) = false := by simp
              have H7 := Lib.hid (And.intro hen (HE.out.1.trans hx7))
              clear hen hx7 hxb7 hxw7
              go_wp2_with fail
              clear p3 eb y1
              refine wp_region_grow (by kernel_rfl) (by kernel_rfl) ?_
              repeat (go_big_quiet_step ((go_at_call 30; with_reducible exact calls_grow (H7.out.1 _))))
              refine wpQuiet_nil ?_
              rintro _ ⟨z9, rfl⟩
              clear k0' p3' eb' d1' d2' d3' d4'
              have HX := Lib.hid (H7.out.2.trans (grow_ext w7 z9))
              go_wp2
              go_roundw
              case rel => first | exact ⟨HX.out, k + 1, by omega, by go_num⟩ | ((repeat apply Exists.intro); exact ⟨⟨HX.out, k + 1, by omega, by go_num⟩, rfl⟩)
              case measure => simp [intOf]; omega
            · have hlk := fun z => look_no ((H5.out.2.2.1.ext hx6).ext (grow_ext w6 z)) (H.out.2.2.2.2.1.ext (hxw6.trans (grow_ext w6 z))) hg
              have hm3 : mm = true → ¬ (0 ≤ s ∧ s < n1 ∧ 0 ≤ β ∧ β ≤ 255) := fun e hh => hg ⟨CB.mayC_true.1 (by rw [← H4.out.2.2.2.2]; exact e), by rw [← HD.out.2.2.2.2.2.2.2.2.1]; exact hh⟩
              have HN := Lib.hid (And.intro hlk hm3)
              clear hlk hm3 hg hx6 hxb6 hxw6
              go_wp2_with fail
              clear p2 p3 es
              refine wp_region_grow (by kernel_rfl) (by kernel_rfl) ?_
              repeat (go_big_quiet_step ((go_at_call 25; with_reducible exact calls_grow (HN.out.1 _))))
              refine wpQuiet_nil ?_
              rintro _ ⟨z, rfl⟩
              clear y1 y2 y3 y4 p2' p3' eb'
              obtain ⟨w7, hw7⟩ : ∃ W, W = growW w6 z := ⟨_, rfl⟩
              have hx7 : Ext w6 w7 := by rw [hw7]; exact grow_ext w6 z
              rw [← hw7]
              clear hw7
              have hxb7 := HE.out.2.1.trans hx7
              have hxw7 := HE.out.2.2.trans hx7
              have p3 := hxb7.cell HQ.out.2.2.2.2
              have eb := hxw7.cell HEB.out
              have y1 := (HZ.out _ (HE.out.1.trans hx7)).1
              have H7 := Lib.hid (And.intro hxw7 (HE.out.1.trans hx7))
              clear hx7 hxb7 hxw7
              cases mm
              · have HN2 := Lib.hid HN
                go_wp2_with fail
                refine (isFault_c 15 _).mono ?_
                rintro e w8 ⟨rfl, hx8⟩
                have hsm := same_arg (H.out.2.2.2.2.1.ext (H7.out.1.trans hx8))
                have H8 := Lib.hid (And.intro hsm hx8)
                clear hsm hx8
                unfold faultV at H8 ⊢
                go_wp2_with fail
                refine H8.out.1.mono ?_
                rintro e w9 ⟨rfl, hx9⟩
                have HX := Lib.hid (H7.out.2.trans (H8.out.2.trans hx9))
                clear hx9 p3 eb y1
                go_wp2
                go_roundw
                case rel => exact ⟨HX.out, k + 1, by omega, by go_num⟩
                case measure => simp [intOf]; omega
              · have hno := HN.out.2 rfl
                by_cases f1 : s < 0
                · clear hno
                  go_wp2_with fail
                  refine (isFault_c 15 _).mono ?_
                  rintro e w8 ⟨rfl, hx8⟩
                  have hsm := same_arg (H.out.2.2.2.2.1.ext (H7.out.1.trans hx8))
                  have H8 := Lib.hid (And.intro hsm hx8)
                  clear hsm hx8
                  unfold faultV at H8 ⊢
                  go_wp2_with fail
                  refine H8.out.1.mono ?_
                  rintro e w9 ⟨rfl, hx9⟩
                  have HX := Lib.hid (H7.out.2.trans (H8.out.2.trans hx9))
                  clear hx9 p3 eb y1
                  go_wp2
                  go_roundw
                  case rel => exact ⟨HX.out, k + 1, by omega, by go_num⟩
                  case measure => simp [intOf]; omega
                have f1' : 0 ≤ s := by omega
                by_cases f2 : (n1 : Int) ≤ s
                · clear hno
                  go_wp2_with fail
                  refine (isFault_c 15 _).mono ?_
                  rintro e w8 ⟨rfl, hx8⟩
                  have hsm := same_arg (H.out.2.2.2.2.1.ext (H7.out.1.trans hx8))
                  have H8 := Lib.hid (And.intro hsm hx8)
                  clear hsm hx8
                  unfold faultV at H8 ⊢
                  go_wp2_with fail
                  refine H8.out.1.mono ?_
                  rintro e w9 ⟨rfl, hx9⟩
                  have HX := Lib.hid (H7.out.2.trans (H8.out.2.trans hx9))
                  clear hx9 p3 eb y1
                  go_wp2
                  go_roundw
                  case rel => exact ⟨HX.out, k + 1, by omega, by go_num⟩
                  case measure => simp [intOf]; omega
                have f2' : s < n1 := by omega
                by_cases f3 : β < 0
                · clear hno
                  go_wp2_with fail
                  refine (isFault_c 15 _).mono ?_
                  rintro e w8 ⟨rfl, hx8⟩
                  have hsm := same_arg (H.out.2.2.2.2.1.ext (H7.out.1.trans hx8))
                  have H8 := Lib.hid (And.intro hsm hx8)
                  clear hsm hx8
                  unfold faultV at H8 ⊢
                  go_wp2_with fail
                  refine H8.out.1.mono ?_
                  rintro e w9 ⟨rfl, hx9⟩
                  have HX := Lib.hid (H7.out.2.trans (H8.out.2.trans hx9))
                  clear hx9 p3 eb y1
                  go_wp2
                  go_roundw
                  case rel => exact ⟨HX.out, k + 1, by omega, by go_num⟩
                  case measure => simp [intOf]; omega
                have f3' : 0 ≤ β := by omega
                have f4 : 255 < β := by omega
                clear hno
                go_wp2_with fail
                refine (isFault_c 15 _).mono ?_
                rintro e w8 ⟨rfl, hx8⟩
                have hsm := same_arg (H.out.2.2.2.2.1.ext (H7.out.1.trans hx8))
                have H8 := Lib.hid (And.intro hsm hx8)
                clear hsm hx8
                unfold faultV at H8 ⊢
                go_wp2_with fail
                refine H8.out.1.mono ?_
                rintro e w9 ⟨rfl, hx9⟩
                have HX := Lib.hid (H7.out.2.trans (H8.out.2.trans hx9))
                clear hx9 p3 eb y1
                go_wp2
                go_roundw
                case rel => exact ⟨HX.out, k + 1, by omega, by go_num⟩
                case measure => simp [intOf]; omega
          · by_cases g1 : k < S
            · have hj7 : (k : Int) < S := by omega
              by_cases g2 : k < B
              · have hj8 : (k : Int) < B := by omega
                have hj9 : ¬ (k : Int) < 24 := fun h => hgo ⟨g1, g2, by omega⟩
                clear hgo
                have hcl := fun z => eqComb_c ((H5.out.2.2.1.ext hx6).ext (grow_ext w6 z)) (HD.out.2.2.1.ext (hxw6.trans (grow_ext w6 z)))
                have p0 := fun z => (hxb6.trans (grow_ext w6 z)).cell HQ.out.2.1
                have y1 := fun z => (HZ.out _ (hx6.trans (grow_ext w6 z))).1
                have y2 := fun z => (HZ.out _ (hx6.trans (grow_ext w6 z))).2.1
                have y3 := fun z => (HZ.out _ (hx6.trans (grow_ext w6 z))).2.2.1
                have y4 := fun z => (HZ.out _ (hx6.trans (grow_ext w6 z))).2.2.2
                have x1 := fun z => (hxw6.trans (grow_ext w6 z)).cell HD.out.2.2.2.2.1
                have x2 := fun z => (hxw6.trans (grow_ext w6 z)).cell HD.out.2.2.2.2.2.1
                have x3 := fun z => (hxw6.trans (grow_ext w6 z)).cell HD.out.2.2.2.2.2.2.1
                have x4 := fun z => (hxw6.trans (grow_ext w6 z)).cell HD.out.2.2.2.2.2.2.2.1
                have HE := Lib.hid (And.intro hcl hxb6)
                clear hcl hx6 hxb6 hxw6
                go_wp2_with fail
                clear p2 p3
                refine wp_region_grow (by kernel_rfl) (by kernel_rfl) ?_
                repeat (go_big_quiet_step ((go_at_call 59; with_reducible exact calls_grow (HE.out.1 _))))
                refine wpQuiet_nil ?_
                rintro _ ⟨z, rfl⟩
                have HX := Lib.hid (HE.out.2.trans (grow_ext w6 z))
                clear p0 y1 y2 y3 y4 x1 x2 x3 x4
                go_wp2
                go_roundw
                case rel => first | exact ⟨HX.out, i + 1, by omega, by go_num⟩ | ((repeat apply Exists.intro); exact ⟨⟨HX.out, i + 1, by omega, by go_num⟩, rfl⟩)
                case measure => simp [intOf]; omega
              · have hj8 : ¬ (k : Int) < B := by omega
                clear hgo
                have hcl := fun z => eqComb_c ((H5.out.2.2.1.ext hx6).ext (grow_ext w6 z)) (HD.out.2.2.1.ext (hxw6.trans (grow_ext w6 z)))
                have p0 := fun z => (hxb6.trans (grow_ext w6 z)).cell HQ.out.2.1
                have y1 := fun z => (HZ.out _ (hx6.trans (grow_ext w6 z))).1
                have y2 := fun z => (HZ.out _ (hx6.trans (grow_ext w6 z))).2.1
                have y3 := fun z => (HZ.out _ (hx6.trans (grow_ext w6 z))).2.2.1
                have y4 := fun z => (HZ.out _ (hx6.trans (grow_ext w6 z))).2.2.2
                have x1 := fun z => (hxw6.trans (grow_ext w6 z)).cell HD.out.2.2.2.2.1
                have x2 := fun z => (hxw6.trans (grow_ext w6 z)).cell HD.out.2.2.2.2.2.1
                have x3 := fun z => (hxw6.trans (grow_ext w6 z)).cell HD.out.2.2.2.2.2.2.1
                have x4 := fun z => (hxw6.trans (grow_ext w6 z)).cell HD.out.2.2.2.2.2.2.2.1
                have HE := Lib.hid (And.intro hcl hxb6)
                clear hcl hx6 hxb6 hxw6
                go_wp2_with fail
                clear p2 p3
                refine wp_region_grow (by kernel_rfl) (by kernel_rfl) ?_
                repeat (go_big_quiet_step ((go_at_call 59; with_reducible exact calls_grow (HE.out.1 _))))
                refine wpQuiet_nil ?_
                rintro _ ⟨z, rfl⟩
                have HX := Lib.hid (HE.out.2.trans (grow_ext w6 z))
                clear p0 y1 y2 y3 y4 x1 x2 x3 x4
                go_wp2
                go_roundw
                case rel => first | exact ⟨HX.out, i + 1, by omega, by go_num⟩ | ((repeat apply Exists.intro); exact ⟨⟨HX.out, i + 1, by omega, by go_num⟩, rfl⟩)
                case measure => simp [intOf]; omega
            · obtain rfl : S = k := by omega
              clear hgo g1 hk
              have hcl := fun z => eqComb_c ((H5.out.2.2.1.ext hx6).ext (grow_ext w6 z)) (HD.out.2.2.1.ext (hxw6.trans (grow_ext w6 z)))
              have p0 := fun z => (hxb6.trans (grow_ext w6 z)).cell HQ.out.2.1
              have y1 := fun z => (HZ.out _ (hx6.trans (grow_ext w6 z))).1
              have y2 := fun z => (HZ.out _ (hx6.trans (grow_ext w6 z))).2.1
              have y3 := fun z => (HZ.out _ (hx6.trans (grow_ext w6 z))).2.2.1
              have y4 := fun z => (HZ.out _ (hx6.trans (grow_ext w6 z))).2.2.2
              have x1 := fun z => (hxw6.trans (grow_ext w6 z)).cell HD.out.2.2.2.2.1
              have x2 := fun z => (hxw6.trans (grow_ext w6 z)).cell HD.out.2.2.2.2.2.1
              have x3 := fun z => (hxw6.trans (grow_ext w6 z)).cell HD.out.2.2.2.2.2.2.1
              have x4 := fun z => (hxw6.trans (grow_ext w6 z)).cell HD.out.2.2.2.2.2.2.2.1
              have HE := Lib.hid (And.intro hcl hxb6)
              clear hcl hx6 hxb6 hxw6
              go_wp2_with fail
              clear p2 p3
              refine wp_region_grow (by kernel_rfl) (by kernel_rfl) ?_
              repeat (go_big_quiet_step ((go_at_call 59; with_reducible exact calls_grow (HE.out.1 _))))
              refine wpQuiet_nil ?_
              rintro _ ⟨z, rfl⟩
              have HX := Lib.hid (HE.out.2.trans (grow_ext w6 z))
              clear p0 y1 y2 y3 y4 x1 x2 x3 x4
              go_wp2
              go_roundw
              case rel => first | exact ⟨HX.out, i + 1, by omega, by go_num⟩ | ((repeat apply Exists.intro); exact ⟨⟨HX.out, i + 1, by omega, by go_num⟩, rfl⟩)
              case measure => simp [intOf]; omega
      · have hj2 : ¬ (i : Int) < 6 := by omega
        have HD := Lib.hid (HQ.out.1.trans hx1)
        clear hx1
        go_wp2_with fail
        refine (wakes16_c _).mono ?_
        rintro e w9 ⟨rfl, hx9⟩
        have HX9 := Lib.hid (HD.out.trans hx9)
        clear hx9
        go_wp2
        go_ret
        exact ⟨rfl, HX9.out⟩
    · obtain rfl : L = i := by omega
      have HD := Lib.hid (HQ.out.1.trans hx1)
      clear hx1 hlt hi
      go_wp2_with fail
      refine (wakes16_c _).mono ?_
      rintro e w9 ⟨rfl, hx9⟩
      have HX9 := Lib.hid (HD.out.trans hx9)
      clear hx9
      go_wp2
      go_ret
      exact ⟨rfl, HX9.out⟩
end Go.Proofs.YtpeipjfmibjoiaaDoor

