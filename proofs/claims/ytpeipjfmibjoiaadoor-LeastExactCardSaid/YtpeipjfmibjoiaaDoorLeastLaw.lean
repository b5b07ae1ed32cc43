/- bolterlaw12.LeastExact. -/
import Derived.Test.YtpeipjfmibjoiaaDoorPair12
import Derived.Test.YtpeipjfmibjoiaaDoorOverI
import Derived.Test.YtpeipjfmibjoiaaDoorEqDense
import Derived.Test.YtpeipjfmibjoiaaDoorCopyRows
import Derived.Test.YtpeipjfmibjoiaaDoorWakes12
import Derived.Test.YtpeipjfmibjoiaaDoorDenses
namespace Go.Proofs.YtpeipjfmibjoiaaDoor
open Go.RowKit

theorem copied_dense {w : World} {B : Nat} {own : Nat → Nat} {vn vl : Value} {hs : List Value} {d : Dn} (h : OwnDense w B own vn vl hs d.next d.label) (hr : Reach d) : DenseV w (.agg #[vn, vl]) d :=
  ⟨vn, vl, rfl, h.tab.read (by have := hr.next; omega) (fun l hl => by have := hr.rows l hl; omega), own_ints h.label (by have := hr.label; omega)⟩
theorem eqD_same (d : Dn) : eqD d d = true := by rw [eqD_and]; simp
theorem over_ext9 {w0 w w' : World} {u : Value} (h : Ext w0 w) (hg : w.grownBy w' u.ownBlock) (hu : ∀ g, u.ownBlock = some g → w0.heap.size ≤ g) : Ext w0 w' :=
  Below.grown h hg h.size (fun g ee => hu g ee)
theorem ints_of9 {l : List Int} : ∀ u ∈ intsV l, ∃ x, u = .int .i64 x := by
  intro u hu
  obtain ⟨x, _, rfl⟩ := List.mem_map.1 hu
  exact ⟨x, rfl⟩

set_option maxRecDepth 100000 in
set_option maxHeartbeats 16000000 in
theorem leastLaw_c {w : World} {v : Value} {l : List Dn} {a : Nat → Addr} (h : DensesV w v l) (hf : ∀ d ∈ l, Reach d) (hS : Sents w a) :
    Calls Tryd.prog 10 #[v] w fun e w' => e = .returned (.bool true) ∧ Ext w w' := by
  obtain ⟨hl1, la, lc, rfl, _, hlo⟩ := h
  obtain ⟨L, hL⟩ : ∃ L, L = l.length := ⟨_, rfl⟩
  rw [← hL] at hl1 hlo ⊢
  have H := Lib.hid (And.intro hlo (And.intro hf (And.intro hS hL)))
  clear hlo hf hS hL
  go_enter Tryd.func10, Tryd.ntmps10
  go_wp2
  go_loopw [3] (fun iv wr => Ext w wr ∧ ∃ i : Nat, i ≤ L ∧ iv = .int .i64 i) (fun iv _ => L - (intOf iv).toNat)
  case atStart => exact ⟨Ext.refl _, 0, Nat.zero_le _, rfl⟩
  case round =>
    rename World => w1
    obtain ⟨hx1, i, hi, rfl⟩ := hrel
    by_cases hlt : i < L
    · have hj1 : (i : Int) < L := by omega
      by_cases h6 : i < 6
      · have hj2 : (i : Int) < 6 := by omega
        obtain ⟨lb, lo, rfl, hla⟩ := H.out.1 (by omega)
        obtain ⟨d, hd⟩ : ∃ d, l[i]? = some d := ⟨_, List.getElem?_eq_getElem (by rw [← H.out.2.2.2]; exact hlt)⟩
        obtain ⟨⟨vn, c0, hvn⟩, ⟨vl, c1, hvl⟩⟩ := hla i d hd
        have hDV : DenseV w (.agg #[vn, vl]) d := ⟨vn, vl, rfl, hvn, hvl⟩
        have hdf := H.out.2.1 d (List.mem_of_getElem? hd)
        obtain ⟨_, an, cn, rfl, _, _⟩ := (show RowsV w vn d.next from hvn).open
        obtain ⟨_, al, cl, rfl, _, _⟩ := (show Ints w vl d.label from hvl).open
        obtain ⟨n1, hn1⟩ : ∃ n, n = d.next.length := ⟨_, rfl⟩
        obtain ⟨n2, hn2⟩ : ∃ n, n = d.label.length := ⟨_, rfl⟩
        rw [← hn1] at c0 hDV
        rw [← hn2] at c1 hDV
        have d0 := hx1.cell c0
        have d1 := hx1.cell c1
        have hcp := copyDense_c (hDV.ext hx1) hdf
        unfold CopiedDense at hcp
        have HD := Lib.hid (And.intro hx1 (And.intro hDV (And.intro hdf (And.intro c0 (And.intro c1 (And.intro hcp (And.intro hn1 hn2)))))))
        clear hx1 hDV hdf c0 c1 hcp hn1 hn2 hla hd hvn hvl
        by_cases h60 : 60 < n1
        · have hj3 : (60 : Int) < n1 := by omega
          go_wp2
          go_roundw
          case rel => exact ⟨HD.out.1, i + 1, by omega, by go_num⟩
          case measure => simp [intOf]; omega
        · have hj3 : ¬ (60 : Int) < n1 := by omega
          go_wp2_with fail
          refine HD.out.2.2.2.2.2.1.mono ?_
          rintro e w2 ⟨xn, xl, own, hs, rfl, hO, hx2⟩
          have hR := copied_dense hO HD.out.2.2.1
          obtain ⟨rn, sn, rl, sl, hxv, _⟩ := hR.open
          simp only [Value.agg.injEq, Array.mk.injEq, List.cons.injEq, and_true] at hxv
          obtain ⟨rfl, rfl⟩ := hxv
          rw [← HD.out.2.2.2.2.2.2.1, ← HD.out.2.2.2.2.2.2.2] at hR ⊢
          obtain ⟨w3, hw3⟩ : ∃ w3, w3 = w2.alloc (.cells #[.slice rn n1 sn, .slice rl n2 sl] 25) := ⟨_, rfl⟩
          have hx3 : Ext w2 w3 := by rw [hw3]; exact Ext.box _ _
          have hz : ∀ W, Ext w3 W → W.cell? ⟨w2.heap.size, 0, none⟩ = some (.slice rn n1 sn) ∧ W.cell? ⟨w2.heap.size, 1, none⟩ = some (.slice rl n2 sl) := fun W hx => by
            refine ⟨hx.cell ?_, hx.cell ?_⟩ <;> (rw [hw3]; simp)
          have hx03 := HD.out.1.trans (hx2.trans hx3)
          have d0 := hx2.cell d0
          have d1 := hx2.cell d1
          have hdl := lt_of_cell d0
          obtain ⟨er, her⟩ : ∃ er, er = erV a d := ⟨_, rfl⟩
          obtain ⟨cf, hcf⟩ : ∃ cf, cf = cfV d := ⟨_, rfl⟩
          have hsame : ∀ W, Ext w3 W → Calls Tryd.prog 36 #[er, .agg #[.int .i64 cf, .int .i64 0, .int .i64 0, .int .i64 0, .slice none 0 0]] W fun e w' => e = .returned (.bool true) ∧ Ext W w' := fun W hx => by
            rw [her, hcf]; exact same12_c (H.out.2.2.1.ext (hx03.trans hx))
          have hrl := refleastX_c (HD.out.2.1.ext hx03)
          unfold RLeaX at hrl
          have H3 := Lib.hid (And.intro hx03 (And.intro (hR.ext hx3) (And.intro hz (And.intro hrl (And.intro hsame (And.intro her (And.intro hcf hw3)))))))
          clear hx2 hx3 hx03 hR hO hz hrl hw3 hj3 hsame her hcf
          go_wp2_with fail
          rw [← H3.out.2.2.2.2.2.2.2]
          refine H3.out.2.2.2.1.mono ?_
          rintro e w4 ⟨an2, m1, cn2, al2, m2, cl2, D, rfl, hIL, hDw, hx4⟩
          rw [← H3.out.2.2.2.2.2.2.1]
          unfold faultV
          have hxw4 := H3.out.1.trans hx4
          have d0 := hxw4.cell HD.out.2.2.2.1
          have d1 := hxw4.cell HD.out.2.2.2.2.1
          have hdl := lt_of_cell d0
          obtain ⟨w5, hw5⟩ : ∃ w5, w5 = (w4.alloc (.cells #[.slice an2 m1 cn2, .slice al2 m2 cl2] 25)).alloc (.cells #[.int .i64 cf, .int .i64 0, .int .i64 0, .int .i64 0, .slice none 0 0] 69) := ⟨_, rfl⟩
          have hx5 : Ext w4 w5 := by rw [hw5]; exact (Ext.box _ _).alloc _
          have hq : ∀ W, Ext w5 W → (W.cell? ⟨w4.heap.size, 0, none⟩ = some (.slice an2 m1 cn2) ∧ W.cell? ⟨w4.heap.size, 1, none⟩ = some (.slice al2 m2 cl2)) ∧ W.cell? ⟨w4.heap.size + 1, 0, none⟩ = some (.int .i64 cf) ∧ W.cell? ⟨w4.heap.size + 1, 1, none⟩ = some (.int .i64 0) ∧ W.cell? ⟨w4.heap.size + 1, 2, none⟩ = some (.int .i64 0) ∧ W.cell? ⟨w4.heap.size + 1, 3, none⟩ = some (.int .i64 0) ∧ W.cell? ⟨w4.heap.size + 1, 4, none⟩ = some (.slice none 0 0) := fun W hx => by
            refine ⟨⟨hx.cell ?_, hx.cell ?_⟩, hx.cell ?_, hx.cell ?_, hx.cell ?_, hx.cell ?_, hx.cell ?_⟩ <;> (rw [hw5]; simp)
          have hrc := refclsX_c (HD.out.2.1.ext (hxw4.trans hx5))
          unfold RClsX at hrc
          have H5 := Lib.hid (And.intro hrc (And.intro (hxw4.trans hx5) (And.intro (hx4.trans hx5) (And.intro (hDw.ext hx5) (And.intro hIL (And.intro hq hw5))))))
          clear hrc hxw4 hx5 hx4 hDw hIL hq hw5
          go_wp2_with fail
          rw [← H5.out.2.2.2.2.2.2]
          refine H5.out.1.mono ?_
          rintro e w6 ⟨ac2, m3, cc2, Lc, rfl, hIC, hDc, hx6⟩
          rw [← H3.out.2.2.2.2.2.2.1]
          unfold faultV
          obtain ⟨w7, hw7⟩ : ∃ w7, w7 = w6.alloc (.cells #[.int .i64 cf, .int .i64 0, .int .i64 0, .int .i64 0, .slice none 0 0] 69) := ⟨_, rfl⟩
          have hx7 : Ext w6 w7 := by rw [hw7]; exact Ext.box _ _
          have hg : ∀ W, Ext w7 W → W.cell? ⟨w6.heap.size, 0, none⟩ = some (.int .i64 cf) ∧ W.cell? ⟨w6.heap.size, 1, none⟩ = some (.int .i64 0) ∧ W.cell? ⟨w6.heap.size, 2, none⟩ = some (.int .i64 0) ∧ W.cell? ⟨w6.heap.size, 3, none⟩ = some (.int .i64 0) ∧ W.cell? ⟨w6.heap.size, 4, none⟩ = some (.slice none 0 0) := fun W hx => by
            refine ⟨hx.cell ?_, hx.cell ?_, hx.cell ?_, hx.cell ?_, hx.cell ?_⟩ <;> (rw [hw7]; simp)
          have hx67 := hx6.trans hx7
          have H7 := Lib.hid (And.intro (H5.out.2.1.trans hx67) (And.intro (H5.out.2.2.1.trans hx67) (And.intro hx67 (And.intro (IntsK.ext hx7 hDc) (And.intro hIC (And.intro hg hw7))))))
          clear hx6 hx7 hx67 hDc hIC hg hw7 d0 d1 hdl
          go_wp2_with fail
          rw [← H7.out.2.2.2.2.2.2]
          obtain ⟨db, hdb⟩ : ∃ b, b = w2.heap.size := ⟨_, rfl⟩
          obtain ⟨wb, hwb⟩ : ∃ b, b = w4.heap.size := ⟨_, rfl⟩
          obtain ⟨gb, hgb⟩ : ∃ b, b = w6.heap.size := ⟨_, rfl⟩
          rw [← hdb, ← hwb, ← hgb]
          have HBB := Lib.hid (And.intro hdb (And.intro hwb hgb))
          clear hdb hwb hgb
          go_loopw [9] (fun kv wr => Ext w7 wr ∧ ∃ k : Nat, k ≤ 2 ∧ kv = .int .i64 k) (fun kv _ => 2 - (intOf kv).toNat)
          case atStart => exact ⟨Ext.refl _, 0, Nat.zero_le _, rfl⟩
          case round =>
            rename World => w8
            obtain ⟨hx8, k, hk, rfl⟩ := hrel
            have hx38 := H7.out.2.1.trans hx8
            obtain ⟨z0, z1⟩ := H3.out.2.2.1 _ hx38
            rw [← HBB.out.1] at z0 z1
            by_cases hk2 : k < 2
            · have hj3 : (k : Int) < 2 := by omega
              have hle := leastX_c (H3.out.2.1.ext hx38) (H.out.2.2.1.ext (H7.out.1.trans hx8))
              unfold LeastX at hle
              have H8 := Lib.hid (And.intro hle (And.intro hx8 hx38))
              clear hle hx8 hx38
              go_wp2_with fail
              refine H8.out.1.mono ?_
              rintro e w9 ⟨xn, n9, cxn, xl, m9, cxl, D2, rfl, hIL2, hDx, hn9, hm9, hFR, hOw, hx9⟩
              rw [← H3.out.2.2.2.2.2.1]
              obtain ⟨z0, z1⟩ := H3.out.2.2.1 _ (H8.out.2.2.trans hx9)
              rw [← HBB.out.1] at z0 z1
              have hzl := lt_of_cell z0
              obtain ⟨w10, hw10⟩ : ∃ w10, w10 = w9.alloc (.cells #[.slice xn n9 cxn, .slice xl m9 cxl] 25) := ⟨_, rfl⟩
              have hx10 : Ext w9 w10 := by rw [hw10]; exact Ext.box _ _
              have hxc : ∀ W, Ext w10 W → W.cell? ⟨w9.heap.size, 0, none⟩ = some (.slice xn n9 cxn) ∧ W.cell? ⟨w9.heap.size, 1, none⟩ = some (.slice xl m9 cxl) := fun W hx => by
                refine ⟨hx.cell ?_, hx.cell ?_⟩ <;> (rw [hw10]; simp)
              have hx810 := hx9.trans hx10
              have hcl := classesX_c (H3.out.2.1.ext (H8.out.2.2.trans hx810)) (H.out.2.2.1.ext (H7.out.1.trans (H8.out.2.1.trans hx810)))
              unfold ClassesX at hcl
              have H10 := Lib.hid (And.intro hcl (And.intro (H8.out.2.1.trans hx810) (And.intro (hDx.ext hx10) (And.intro (hFR.ext hx10) (And.intro (own_ext hx10 hOw) (And.intro hIL2 (And.intro hxc (And.intro (hOw) (And.intro hx10 hw10)))))))))
              have hs8 := hx810.size
              have hs9 := hx9.size
              have hs7 := H8.out.2.1.size
              clear hcl hx10 hxc hx810 hx9 hDx hFR hOw hIL2 hw10
              go_wp2_with fail
              rw [← H10.out.2.2.2.2.2.2.2.2.2]
              refine H10.out.1.mono ?_
              rintro e w11 ⟨ac9, n11, cc9, L2, rfl, hIC2, hn11, hOc, hx11⟩
              rw [← H3.out.2.2.2.2.2.1]
              obtain ⟨xb, hxb⟩ : ∃ b, b = w9.heap.size := ⟨_, rfl⟩
              rw [← hxb]
              have hx711 := H10.out.2.1.trans hx11
              have hs10 : w10.heap.size = w9.heap.size + 1 := by rw [H10.out.2.2.2.2.2.2.2.2.2]; simp
              have H11 := Lib.hid (And.intro hIC2 (And.intro hOc (And.intro hx11 (And.intro hx711 hxb))))
              obtain ⟨⟨y0, y1⟩, f0, f1, f2, f3, f4⟩ := H5.out.2.2.2.2.2.1 _ (H7.out.2.2.1.trans hx711)
              rw [← HBB.out.2.1] at y0 y1 f0 f1 f2 f3 f4
              clear hIC2 hOc hx11 hx711 z0 z1 hzl hxb
              go_wp2_with fail
              refine (H3.out.2.2.2.2.1 _ (H7.out.2.1.trans H11.out.2.2.2.1)).mono ?_
              rintro e w12 ⟨rfl, hx12⟩
              have hx712 := H11.out.2.2.2.1.trans hx12
              obtain ⟨g0, g1, g2, g3, g4⟩ := H7.out.2.2.2.2.2.1 _ hx712
              rw [← HBB.out.2.2] at g0 g1 g2 g3 g4
              have H12 := Lib.hid (And.intro (H11.out.2.2.1.trans hx12) (And.intro hx712 hx12))
              clear hx12 hx712 y0 y1 f0 f1 f2 f3 f4
              go_wp2_with fail
              refine (H3.out.2.2.2.2.1 _ (H7.out.2.1.trans H12.out.2.1)).mono ?_
              rintro e w13 ⟨rfl, hx13⟩
              have hx713 := H12.out.2.1.trans hx13
              have hx1013 := H12.out.1.trans hx13
              obtain ⟨⟨y0, y1⟩, _⟩ := H5.out.2.2.2.2.2.1 _ (H7.out.2.2.1.trans hx713)
              rw [← HBB.out.2.1] at y0 y1
              obtain ⟨x0, x1⟩ := H10.out.2.2.2.2.2.2.1 _ hx1013
              rw [← H11.out.2.2.2.2] at x0 x1
              have hDD : eqD D2 D = true := by rw [H10.out.2.2.2.2.2.1.uniq H5.out.2.2.2.2.1]; exact eqD_same D
              have heq := eqDense_b (H10.out.2.2.1.ext hx1013) (H5.out.2.2.2.1.ext (H7.out.2.2.1.trans hx713)) hDD
              have H13 := Lib.hid (And.intro heq (And.intro hx713 (And.intro hx1013 (H12.out.2.2.trans hx13))))
              clear hx13 hx713 hx1013 hDD heq g0 g1 g2 g3 g4
              go_wp2_with fail
              refine H13.out.1.mono ?_
              rintro e w14 ⟨rfl, hx14⟩
              have hx714 := H13.out.2.1.trans hx14
              have hx1014 := H13.out.2.2.1.trans hx14
              have hx1114 := H13.out.2.2.2.trans hx14
              have hlc : Ints w14 (.slice ac9 n11 cc9) L2 := own_ints (own_ext hx1114 H11.out.2.1) (by omega)
              have hei := eqInts_b (r := true) hlc (IntsK.ext hx714 H7.out.2.2.2.1) (by rw [H11.out.1.uniq H7.out.2.2.2.2.1]; simp)
              have H14 := Lib.hid (And.intro hei (And.intro hx714 (And.intro hx1014 hx1114)))
              clear hx14 hx714 hx1014 hx1114 hlc hei y0 y1 x0 x1
              go_wp2_with fail
              refine H14.out.1.mono ?_
              rintro e w15 ⟨rfl, hx15⟩
              obtain ⟨x0, x1⟩ := H10.out.2.2.2.2.2.2.1 _ (H14.out.2.2.1.trans hx15)
              rw [← H11.out.2.2.2.2] at x0 x1
              have hor := overRows_c (H10.out.2.2.2.1.ext (H14.out.2.2.1.trans hx15)) (by omega) (by omega)
              have H15 := Lib.hid (And.intro hor (And.intro (H14.out.2.1.trans hx15) (And.intro (H14.out.2.2.1.trans hx15) (H14.out.2.2.2.trans hx15))))
              clear hor hx15
              go_wp2_with fail
              refine H15.out.1.mono ?_
              rintro e w16 ⟨rfl, hx16⟩
              have hx1016 := H15.out.2.2.1.trans hx16
              obtain ⟨x0, x1⟩ := H10.out.2.2.2.2.2.2.1 _ hx1016
              rw [← H11.out.2.2.2.2] at x0 x1
              have hx716 := H15.out.2.1.trans hx16
              have hB8 : w8.heap.size ≤ w16.heap.size := by have := hx1016.size; omega
              have hoi := overInts_c (own_ext hx1016 H10.out.2.2.2.2.1) ints_of9 hB8 (by omega)
              have hoc16 := own_ext (H15.out.2.2.2.trans hx16) H11.out.2.1
              have H16 := Lib.hid (And.intro hoi (And.intro hx716 (And.intro hoc16 hx1016)))
              clear hoi hx716 hoc16 hx1016 hx16
              go_wp2_with fail
              refine H16.out.1.mono ?_
              rintro e w17 ⟨rfl, hg17⟩
              have hlab := H10.out.2.2.2.2.2.2.2.1
              have hE17 := over_ext9 H16.out.2.1 hg17 (fun g e => by have := (hlab.lt g e).1; omega)
              have hoc17 := own_block H16.out.2.2.1 (w' := w17) fun g e hl => hg17.block g hl (fun ee => by
                have h1 := (hlab.lt g ee.symm).2
                have h2 := (H11.out.2.1.lt g e).1
                omega)
              have hB10 : w10.heap.size ≤ w17.heap.size := by have := hg17.size; have := H16.out.2.2.2.size; omega
              have hoi2 := overInts_c hoc17 ints_of9 hB10 (by omega)
              have H17 := Lib.hid (And.intro hoi2 (And.intro hE17 hoc17))
              clear hlab hE17 hoc17 hoi2 hg17 x0 x1 hB8 hB10
              go_wp2_with fail
              refine H17.out.1.mono ?_
              rintro e w18 ⟨rfl, hg18⟩
              have hE18 := over_ext9 H17.out.2.1 hg18 (fun g e => by have := (H17.out.2.2.lt g e).1; omega)
              have H18 := Lib.hid hE18
              clear hE18 hg18
              go_wp2
              go_roundw
              case rel => exact ⟨H18.out, k + 1, by omega, by go_num⟩
              case measure => simp [intOf]; omega
            · have hj3 : ¬ (k : Int) < 2 := by omega
              have hxw8 := H7.out.1.trans hx8
              have hcl := fun z => eqDense_b (r := true) ((H3.out.2.1.ext hx38).ext (grow_ext w8 z)) (HD.out.2.1.ext (hxw8.trans (grow_ext w8 z))) (eqD_same d)
              have y0 := fun z => (grow_ext w8 z).cell z0
              have y1 := fun z => (grow_ext w8 z).cell z1
              have x0 := fun z => (hxw8.trans (grow_ext w8 z)).cell HD.out.2.2.2.1
              have x1 := fun z => (hxw8.trans (grow_ext w8 z)).cell HD.out.2.2.2.2.1
              have HE := Lib.hid (And.intro hcl hxw8)
              clear hcl hx8 hxw8 hx38 z0 z1
              go_wp2_with fail
              refine wp_region_grow (by kernel_rfl) (by kernel_rfl) ?_
              repeat (go_big_quiet_step ((go_at_call 34; with_reducible exact calls_grow (HE.out.1 _))))
              refine wpQuiet_nil ?_
              rintro _ ⟨z, rfl⟩
              have HX := Lib.hid (HE.out.2.trans (grow_ext w8 z))
              clear y0 y1 x0 x1
              go_wp2
              go_roundw
              case rel => first | exact ⟨HX.out, i + 1, by omega, by go_num⟩ | ((repeat apply Exists.intro); exact ⟨⟨HX.out, i + 1, by omega, by go_num⟩, rfl⟩)
              case measure => simp [intOf]; omega
      · have hj2 : ¬ (i : Int) < 6 := by omega
        have HD := Lib.hid hx1
        clear hx1
        go_wp2_with fail
        refine (wakes12_c _).mono ?_
        rintro e w9 ⟨rfl, hx9⟩
        have HX9 := Lib.hid (HD.out.trans hx9)
        clear hx9
        go_wp2
        go_ret
        exact ⟨rfl, HX9.out⟩
    · obtain rfl : L = i := by omega
      have HD := Lib.hid hx1
      clear hx1 hlt hi
      go_wp2_with fail
      refine (wakes12_c _).mono ?_
      rintro e w9 ⟨rfl, hx9⟩
      have HX9 := Lib.hid (HD.out.trans hx9)
      clear hx9
      go_wp2
      go_ret
      exact ⟨rfl, HX9.out⟩
end Go.Proofs.YtpeipjfmibjoiaaDoor
