/- bolterlaw15.RowsExact. -/
import Derived.Test.YtloooajippcdlaaDoorBldX
import Derived.Test.YtloooajippcdlaaDoorRefBuild
import Derived.Test.YtloooajippcdlaaDoorOverR
import Derived.Test.YtloooajippcdlaaDoorOverI
import Derived.Test.YtloooajippcdlaaDoorTblEq
import Derived.Test.YtloooajippcdlaaDoorEqDs
import Derived.Test.YtloooajippcdlaaDoorArgDss
import Derived.Test.YtloooajippcdlaaDoorWakes15
namespace Go.Proofs.YtloooajippcdlaaDoor
open Go.RowKit

theorem intsV_ints (l : List Int) : ∀ u ∈ intsV l, ∃ x, u = .int .i64 x := fun u hu => by
  obtain ⟨x, _, rfl⟩ := List.mem_map.1 hu
  exact ⟨x, rfl⟩
theorem over_ext15 {w0 w w' : World} {u : Value} (h : Ext w0 w) (hg : w.grownBy w' u.ownBlock) (hu : ∀ g, u.ownBlock = some g → w0.heap.size ≤ g) : Ext w0 w' :=
  Below.grown h hg h.size (fun g ee => hu g ee)
theorem dss_open {w : World} {v : Value} {ls : List (List Dn)} (h : SliceV 1 DssAt w v ls) : ∃ a c, v = .slice a ls.length c ∧ ls.length ≤ 140737488355328 ∧ (0 < ls.length → ∃ b o, a = some ⟨b, o, none⟩ ∧ ∀ i l, ls[i]? = some l → ∃ da dc, w.cell? ⟨b, o + i, none⟩ = some (.slice da l.length dc) ∧ DensesV w (.slice da l.length dc) l) := by
  obtain ⟨h1, a, c, h2, _, h4⟩ := h
  refine ⟨a, c, h2, h1, fun h0 => ?_⟩
  obtain ⟨b, o, h5, h6⟩ := h4 h0
  refine ⟨b, o, h5, fun i l hi => ?_⟩
  obtain ⟨v, hv, hd⟩ := h6 i l hi
  rw [Nat.mul_one] at hv
  obtain ⟨_, da, dc, rfl, _⟩ := hd.open
  exact ⟨da, dc, hv, hd⟩

set_option maxRecDepth 100000 in
set_option maxHeartbeats 16000000 in
theorem exact15_c {w : World} {v : Value} {ls : List (List Dn)} {a : Nat → Addr} (h : SliceV 1 DssAt w v ls) (hf : ∀ l ∈ ls, ∀ d ∈ l, Reach d) (hS : Sents w a) :
    Calls Tryd.prog 6 #[v] w fun e w' => e = .returned (.bool true) ∧ Ext w w' := by
  obtain ⟨sa, sc, rfl, hln, hop⟩ := dss_open h
  obtain ⟨N, hN⟩ : ∃ N, N = ls.length := ⟨_, rfl⟩
  rw [← hN] at hln hop ⊢
  have H := Lib.hid (And.intro hop (And.intro hf (And.intro hS hN)))
  clear h hop hf hS hN
  go_enter Tryd.func6, Tryd.ntmps6
  go_wp2_with fail
  go_loopw [3] (fun iv wr => Ext w wr ∧ ∃ i : Nat, i ≤ N ∧ iv = .int .i64 i) (fun iv _ => N - (intOf iv).toNat)
  case atStart => exact ⟨Ext.refl _, 0, Nat.zero_le _, rfl⟩
  case round =>
    obtain ⟨hx, i, hi, rfl⟩ := hrel
    by_cases hgo : i < N ∧ i < 6
    · obtain ⟨g1, g2⟩ := hgo
      have hj1 : (i : Int) < N := by omega
      have hj2 : (i : Int) < 6 := by omega
      obtain ⟨b, o, rfl, hc⟩ := H.out.1 (by omega)
      obtain ⟨l, hl⟩ : ∃ l, ls[i]? = some l := ⟨_, List.getElem?_eq_getElem (by rw [← H.out.2.2.2]; exact g1)⟩
      obtain ⟨da, dc, hcell, hD⟩ := hc i l hl
      have hrd := H.out.2.1 l (List.mem_of_getElem? hl)
      have c0 := hx.cell hcell
      obtain ⟨n, hn⟩ : ∃ n, n = l.length := ⟨_, rfl⟩
      rw [← hn] at hcell hD c0
      have hli := lightX_c (hD.ext hx)
      obtain ⟨lt, hlt⟩ : ∃ b, b = lightX l := ⟨_, rfl⟩
      rw [← hlt] at hli
      have HL := Lib.hid (And.intro hli (And.intro hlt (And.intro hx (And.intro hcell (And.intro hD (And.intro hrd hn))))))
      clear hli hlt hx hcell hD hrd hn hc hl
      go_wp2_with fail
      refine HL.out.1.mono ?_
      rintro e w2 ⟨rfl, hx2⟩
      have HX2 := Lib.hid (HL.out.2.2.1.trans hx2)
      clear hx2 c0
      cases lt
      · go_wp2_with fail
        go_roundw
        case rel => exact ⟨HX2.out, i + 1, by omega, by go_num⟩
        case measure => simp [intOf]; omega
      · have hn40 : n ≤ 40 := by
          have h1 := HL.out.2.1
          unfold lightX at h1
          rw [← HL.out.2.2.2.2.2.2] at h1
          have h2 := h1.symm
          simp only [Bool.and_eq_true, decide_eq_true_eq] at h2
          exact h2.1
        have c0 := HX2.out.cell HL.out.2.2.2.1
        have hcp := copyDenses_c (HL.out.2.2.2.2.1.ext HX2.out) HL.out.2.2.2.2.2.1 (by rw [← HL.out.2.2.2.2.2.2]; omega)
        rw [← HL.out.2.2.2.2.2.2] at hcp
        have HCP := Lib.hid hcp
        clear hcp
        go_wp2_with fail
        refine HCP.out.mono ?_
        rintro e w3 ⟨fv, hs, rfl, hO⟩
        obtain ⟨fa, fc, hfv⟩ := own_shpD hO.row
        subst hfv
        have hx3 := HX2.out.trans hO.ext
        have c0 := hx3.cell HL.out.2.2.2.1
        have hrb := rbuild_c (HL.out.2.2.2.2.1.ext hx3)
        have HO := Lib.hid (And.intro (hO.read (by omega)) (And.intro hx3 hrb))
        clear hO hx3 hrb
        go_wp2_with fail
        refine HO.out.2.2.mono ?_
        rintro e w4 ⟨tv, code, rfl, hx4, hcs⟩
        have hcs' : ∃ T : Tab, TblV w4 tv T.tbl ∧ ((MayL l ∧ code = 0 ∧ T = built l) ∨ (¬ MayL l ∧ code = 15 ∧ T = zeroTab)) := by
          rcases hcs with ⟨h1, h2, h3⟩ | ⟨h1, h2, rfl⟩
          · exact ⟨_, h3, .inl ⟨h1, h2, rfl⟩⟩
          · exact ⟨_, zero_tbl w4, .inr ⟨h1, h2, rfl⟩⟩
        clear hcs
        obtain ⟨T, hT, hcs⟩ := hcs'
        obtain ⟨ta, tc1, tb, tc2, tn, tc3, tl, tc4, htv, _, _⟩ := hT.open
        obtain ⟨m1, hm1⟩ : ∃ n, n = T.tbl.classes.length := ⟨_, rfl⟩
        obtain ⟨m2, hm2⟩ : ∃ n, n = T.tbl.starts.length := ⟨_, rfl⟩
        obtain ⟨m3, hm3⟩ : ∃ n, n = T.tbl.next.length := ⟨_, rfl⟩
        obtain ⟨m4, hm4⟩ : ∃ n, n = T.tbl.label.length := ⟨_, rfl⟩
        obtain ⟨tct, hct⟩ : ∃ n, n = T.tbl.count := ⟨_, rfl⟩
        rw [← hm1, ← hm2, ← hm3, ← hm4, ← hct] at htv
        subst htv
        have HT := Lib.hid (And.intro hT (And.intro hcs (And.intro (HO.out.2.1.trans hx4) hx4)))
        clear hT hcs hx4 hm1 hm2 hm3 hm4 hct c0
        go_upto_block 2 with fail
        obtain ⟨wb, hwb⟩ : ∃ b, b = w4.heap.size := ⟨_, rfl⟩
        obtain ⟨W5, hW5⟩ : ∃ W, W = (w4.alloc (.cells #[.slice ta m1 tc1, .int .i64 tct, .slice tb m2 tc2, .slice tn m3 tc3, .slice tl m4 tc4] 67)).alloc (.cells #[.int .i64 code, .int .i64 0, .int .i64 0, .int .i64 0, .slice none 0 0] 54) := ⟨_, rfl⟩
        rw [← hW5, ← hwb]
        have hx5 : Ext w4 W5 := by rw [hW5]; exact (Ext.box _ _).alloc _
        have hbx : ∀ W', Ext W5 W' → (W'.cell? ⟨wb, 0, none⟩ = some (.slice ta m1 tc1) ∧ W'.cell? ⟨wb, 1, none⟩ = some (.int .i64 tct) ∧ W'.cell? ⟨wb, 2, none⟩ = some (.slice tb m2 tc2) ∧ W'.cell? ⟨wb, 3, none⟩ = some (.slice tn m3 tc3) ∧ W'.cell? ⟨wb, 4, none⟩ = some (.slice tl m4 tc4)) ∧
            (W'.cell? ⟨wb + 1, 0, none⟩ = some (.int .i64 code) ∧ W'.cell? ⟨wb + 1, 1, none⟩ = some (.int .i64 0) ∧ W'.cell? ⟨wb + 1, 2, none⟩ = some (.int .i64 0) ∧ W'.cell? ⟨wb + 1, 3, none⟩ = some (.int .i64 0) ∧ W'.cell? ⟨wb + 1, 4, none⟩ = some (.slice none 0 0)) := fun W' hx' => by
          refine ⟨⟨hx'.cell ?_, hx'.cell ?_, hx'.cell ?_, hx'.cell ?_, hx'.cell ?_⟩, hx'.cell ?_, hx'.cell ?_, hx'.cell ?_, hx'.cell ?_, hx'.cell ?_⟩ <;> (rw [hW5, hwb]; simp)
        have H5 := Lib.hid (And.intro hbx (And.intro (HT.out.1.ext hx5) (And.intro HT.out.2.1 (HT.out.2.2.1.trans hx5))))
        have HD5 := Lib.hid (HT.out.2.2.2.trans hx5)
        clear hbx hx5 hW5 hwb
        go_wp2_with fail
        go_loopw [7] (fun kv wk => Ext W5 wk ∧ ∃ k : Nat, k ≤ 2 ∧ kv = .int .i64 k) (fun kv _ => 2 - (intOf kv).toNat)
        case atStart => exact ⟨Ext.refl _, 0, Nat.zero_le _, rfl⟩
        case round =>
          rename World => wk
          obtain ⟨hxk, k, hk, rfl⟩ := hrel
          by_cases hk2 : k < 2
          · have hj3 : (k : Int) < 2 := by omega
            have hbd := buildXX_c (a := a) (HO.out.1.ext (HD5.out.trans hxk)) (H.out.2.2.1.ext (H5.out.2.2.2.trans hxk))
            unfold BldX at hbd
            have HK := Lib.hid (And.intro hbd hxk)
            clear hbd hxk
            go_wp2_with fail
            refine HK.out.1.mono ?_
            rintro e w6 ⟨ra, rs, rn, rl, n1, c1, n2, c2, n3, c3, n4, c4, er, T', own, B, rfl, hx6, hB, hT', hO', l1, l2, l3, l4, l5, hcs'⟩
            obtain rfl : T' = T := by
              rcases hcs' with ⟨h1, _, h2⟩ | ⟨h1, _, h2⟩ <;> rcases H5.out.2.2.1 with ⟨h3, _, h4⟩ | ⟨h3, _, h4⟩
              · rw [h2, h4]
              · exact absurd h1 h3
              · exact absurd h3 h1
              · rw [h2, h4]
            have hsm : ∀ W, Ext W5 W → Calls Tryd.prog 18 #[er, .agg #[.int .i64 code, .int .i64 0, .int .i64 0, .int .i64 0, .slice none 0 0]] W fun e w' => e = .returned (.bool true) ∧ Ext W w' := fun W hxW => by
              rcases hcs' with ⟨h1, rfl, _⟩ | ⟨h1, rfl, _⟩ <;> rcases H5.out.2.2.1 with ⟨h3, rfl, _⟩ | ⟨h3, rfl, _⟩
              · exact same_nil W
              · exact absurd h1 h3
              · exact absurd h3 h1
              · exact same_arg (H.out.2.2.1.ext (H5.out.2.2.2.trans hxW))
            obtain ⟨rb, hrb⟩ : ∃ b, b = w6.heap.size := ⟨_, rfl⟩
            obtain ⟨w7, hw7⟩ : ∃ W, W = w6.alloc (.cells #[.slice ra n1 c1, .int .i64 (T'.count : Int), .slice rs n2 c2, .slice rn n3 c3, .slice rl n4 c4] 67) := ⟨_, rfl⟩
            have hx7 : Ext w6 w7 := by rw [hw7]; exact Ext.box _ _
            have hrx : ∀ W', Ext w7 W' → W'.cell? ⟨rb, 0, none⟩ = some (.slice ra n1 c1) ∧ W'.cell? ⟨rb, 1, none⟩ = some (.int .i64 (T'.count : Int)) ∧ W'.cell? ⟨rb, 2, none⟩ = some (.slice rs n2 c2) ∧ W'.cell? ⟨rb, 3, none⟩ = some (.slice rn n3 c3) ∧ W'.cell? ⟨rb, 4, none⟩ = some (.slice rl n4 c4) := fun W' hx' => by
              refine ⟨hx'.cell ?_, hx'.cell ?_, hx'.cell ?_, hx'.cell ?_, hx'.cell ?_⟩ <;> (rw [hw7, hrb]; simp)
            have hx57 := HK.out.2.trans (hx6.trans hx7)
            obtain ⟨tct', htc'⟩ : ∃ z, z = (T'.count : Int) := ⟨_, rfl⟩
            rw [← htc'] at hT' hrx hw7 ⊢
            have HR := Lib.hid (And.intro hrx (And.intro hsm (And.intro hx57 (And.intro (hT'.ext hx7) (And.intro hO' (And.intro hx7 (And.intro (Nat.le_trans HK.out.2.size hB) (And.intro hw7 hrb))))))))
            clear hrx hsm hx57 hT' hO' hx7 hx6 hB hw7 hrb hcs' htc'
            obtain ⟨_, f0, f1, f2, f3, f4⟩ := H5.out.1 _ HR.out.2.2.1
            go_upto_region 11 with fail
            rw [← HR.out.2.2.2.2.2.2.2.1, ← HR.out.2.2.2.2.2.2.2.2]
            go_wp2_with fail
            refine (HR.out.2.1 _ HR.out.2.2.1).mono ?_
            rintro e w8 ⟨rfl, hx8⟩
            have hx78 := hx8
            obtain ⟨r0, r1, r2, r3, r4⟩ := HR.out.1 _ hx78
            obtain ⟨⟨q0, q1, q2, q3, q4⟩, _⟩ := H5.out.1 _ (HR.out.2.2.1.trans hx78)
            have heq := eqTable_c (HR.out.2.2.2.1.ext hx78) (H5.out.2.1.ext (HR.out.2.2.1.trans hx78))
            have H8 := Lib.hid (And.intro heq hx78)
            clear heq hx78 hx8 f0 f1 f2 f3 f4
            go_wp2_with fail
            refine H8.out.1.mono ?_
            rintro e w9 ⟨rfl, hx9⟩
            have hx79 := H8.out.2.trans hx9
            clear r0 r1 r2 r3 r4 q0 q1 q2 q3 q4
            obtain ⟨_, _, _, r3, _⟩ := HR.out.1 _ hx79
            have hov := overRows_c (HR.out.2.2.2.2.1.full.ext (HR.out.2.2.2.2.2.1.trans hx79)) l3 l5
            have H9 := Lib.hid (And.intro hov hx79)
            clear hov hx79 hx9
            go_wp2_with fail
            refine H9.out.1.mono ?_
            rintro e w10 ⟨rfl, hx10⟩
            have hx710 := H9.out.2.trans hx10
            clear r3
            obtain ⟨r0, _, r2, _, r4⟩ := HR.out.1 _ hx710
            have hx610 := HR.out.2.2.2.2.2.1.trans hx710
            have hL5 := HR.out.2.2.2.2.1.classes.ext hx610
            have hL1 := HR.out.2.2.2.2.1.starts.ext hx610
            have hL2 := HR.out.2.2.2.2.1.labels.ext hx610
            have hrlt : ∀ (v : Value) (xs : List Value) (k g : Nat), Lst k w6 own B 3 v xs → v.ownBlock = some g → g ≠ rb := fun v xs k g hL e ee => by
              have h1 := (hL.row.lt g e).2
              rw [HR.out.2.2.2.2.2.2.2.2] at ee
              omega
            have hsz := (HR.out.2.2.1.trans hx710).size
            have hB := HR.out.2.2.2.2.2.2.1
            have hoi := overInts_c (own_base hL5.row hB) (intsV_ints _) hsz (by rw [intsV_len]; omega)
            have H10 := Lib.hid (And.intro hoi (And.intro hL5 (And.intro hL1 (And.intro hL2 (And.intro hrlt (And.intro (HR.out.2.2.1.trans hx710) (And.intro r2 (And.intro r4 hB))))))))
            clear hoi hL5 hL1 hL2 hrlt hx710 hx610 hx10 hsz hB r2 r4
            go_wp2_with fail
            refine H10.out.1.mono ?_
            rintro e w11 ⟨rfl, hg11⟩
            have hE11 := over_ext15 H10.out.2.2.2.2.2.1 hg11 (fun g e => Nat.le_trans H10.out.2.2.2.2.2.2.2.2 (H10.out.2.1.row.lt g e).1)
            have hne : some rb ≠ (Value.slice ra n1 c1).ownBlock := fun ee => H10.out.2.2.2.2.1 _ _ _ rb HR.out.2.2.2.2.1.classes ee.symm rfl
            have r2 := (World.cell?_of_block (a := ⟨rb, 2, none⟩) (hg11.block rb (lt_of_cell H10.out.2.2.2.2.2.2.1) hne)).trans H10.out.2.2.2.2.2.2.1
            have r4 := (World.cell?_of_block (a := ⟨rb, 4, none⟩) (hg11.block rb (lt_of_cell H10.out.2.2.2.2.2.2.1) hne)).trans H10.out.2.2.2.2.2.2.2.1
            have hL1 : Lst 1 w11 own B 3 (.slice rs n2 c2) (intsV T'.starts) := ⟨own_block H10.out.2.2.1.row fun g hg hl => hg11.block g hl (fun ee => by have h1 := H10.out.2.1.tag g ee.symm; have h2 := H10.out.2.2.1.tag g hg; omega), H10.out.2.2.1.tag⟩
            have hL2 : Lst 2 w11 own B 3 (.slice rl n4 c4) (intsV T'.label) := ⟨own_block H10.out.2.2.2.1.row fun g hg hl => hg11.block g hl (fun ee => by have h1 := H10.out.2.1.tag g ee.symm; have h2 := H10.out.2.2.2.1.tag g hg; omega), H10.out.2.2.2.1.tag⟩
            have hoi := overInts_c (own_base hL2.row H10.out.2.2.2.2.2.2.2.2) (intsV_ints _) hE11.size (by rw [intsV_len]; omega)
            have H11 := Lib.hid (And.intro hoi (And.intro hL1 (And.intro hL2 (And.intro hE11 r2))))
            clear hoi hL1 hL2 hE11 hg11 hne r2 r0
            go_wp2_with fail
            refine H11.out.1.mono ?_
            rintro e w12 ⟨rfl, hg12⟩
            have hE12 := over_ext15 H11.out.2.2.2.1 hg12 (fun g e => Nat.le_trans H10.out.2.2.2.2.2.2.2.2 (H11.out.2.2.1.row.lt g e).1)
            have hne : some rb ≠ (Value.slice rl n4 c4).ownBlock := fun ee => H10.out.2.2.2.2.1 _ _ _ rb HR.out.2.2.2.2.1.labels ee.symm rfl
            have r2 := (World.cell?_of_block (a := ⟨rb, 2, none⟩) (hg12.block rb (lt_of_cell H11.out.2.2.2.2) hne)).trans H11.out.2.2.2.2
            have hL1 : Lst 1 w12 own B 3 (.slice rs n2 c2) (intsV T'.starts) := ⟨own_block H11.out.2.1.row fun g hg hl => hg12.block g hl (fun ee => by have h1 := H11.out.2.2.1.tag g ee.symm; have h2 := H11.out.2.1.tag g hg; omega), H11.out.2.1.tag⟩
            have hoi := overInts_c (own_base hL1.row H10.out.2.2.2.2.2.2.2.2) (intsV_ints _) hE12.size (by rw [intsV_len]; omega)
            have H12 := Lib.hid (And.intro hoi (And.intro hL1 hE12))
            clear hoi hL1 hE12 hg12 hne r4
            go_wp2_with fail
            refine H12.out.1.mono ?_
            rintro e w13 ⟨rfl, hg13⟩
            have hE13 := over_ext15 H12.out.2.2 hg13 (fun g e => Nat.le_trans H10.out.2.2.2.2.2.2.2.2 (H12.out.2.1.row.lt g e).1)
            have HX := Lib.hid hE13
            clear hE13 hg13 r2
            go_wp2
            go_roundw
            case rel => exact ⟨HX.out, k + 1, by omega, by go_num⟩
            case measure => simp [intOf]; omega
          · have hj3 : ¬ (k : Int) < 2 := by omega
            have hxw := H5.out.2.2.2.trans hxk
            have c0 := hxw.cell HL.out.2.2.2.1
            have heq := eqDenses_c (HO.out.1.ext (HD5.out.trans hxk)) (HL.out.2.2.2.2.1.ext hxw)
            have HE := Lib.hid (And.intro heq hxw)
            clear heq hxw hxk
            go_wp2_with fail
            refine HE.out.1.mono ?_
            rintro e w9 ⟨rfl, hx9⟩
            have HX := Lib.hid (HE.out.2.trans hx9)
            clear hx9 c0
            go_wp2_with fail
            go_roundw
            case rel => exact ⟨HX.out, i + 1, by omega, by go_num⟩
            case measure => simp [intOf]; omega
    · have hguard : (¬ (i : Int) < N) ∨ ((i : Int) < N ∧ ¬ (i : Int) < 6) := by omega
      have HX := Lib.hid hx
      clear hx hgo
      rcases hguard with hj1 | ⟨hj1, hj2⟩
      all_goals
        go_wp2_with fail
        refine (wakes15_c _).mono ?_
        rintro e w9 ⟨rfl, hx9⟩
        have HX9 := Lib.hid (HX.out.trans hx9)
        clear hx9
        go_wp2
        go_ret
        exact ⟨rfl, HX9.out⟩
end Go.Proofs.YtloooajippcdlaaDoor
