/- bolterlaw16.CombGreat: its rows' memory; the walk. -/
import Derived.Test.YtpeipjfmibjoiaaDoorGrt16Math
import Derived.Test.YtpeipjfmibjoiaaDoorWakes16
import Derived.Test.YtpeipjfmibjoiaaDoorCombEnt
import Derived.Test.YtpeipjfmibjoiaaDoorEqs
namespace Go.Proofs.YtpeipjfmibjoiaaDoor
open Go.RowKit

/-- rows in the making: the headers (tag 1), the rows (tag 2) -/
structure GrtS (w wr : World) (own : Nat → Nat) (nv : Value) (hs : List Value) (i : Nat) : Prop where
  ext : Ext w wr
  hdr : Lst 1 wr own w.heap.size 23 nv hs
  rows : Rws 2 wr own w.heap.size hs (grtRows i)
section
variable {w wr w' w2 w4 : World} {own own' : Nat → Nat} {nv v' rv : Value} {hs : List Value} {i : Nat}
theorem GrtS.keep (h : GrtS w wr own nv hs i) (hx : Ext w w') (hk : Keeps (· ≠ 3) wr own w' own') : GrtS w w' own' nv hs i := ⟨hx, h.hdr.keep hk (by omega), h.rows.keep hk (by omega)⟩
theorem GrtS.more (h : GrtS w wr own nv hs i) (hx : Ext wr w') : GrtS w w' own nv hs i := h.keep (h.ext.trans hx) (.ext hx)
theorem GrtS.len (h : GrtS w wr own nv hs i) : hs.length = i := by have := h.rows.len; rw [grtRows_len] at this; omega
theorem GrtS.row (h : GrtS w wr own nv hs i) (hr : Lst 3 wr own w.heap.size 3 rv (intsV (grtRow i 256))) (hx : Ext wr w2) (hown : w4.ownsRow w.heap.size 23 1 v' (hs.length + 1) (hs ++ [rv])) (hg : w2.grownBy w4 nv.ownBlock)
    (hat : v'.ownBlock = nv.ownBlock ∨ v'.ownBlock = some w2.heap.size) : ∃ own', GrtS w w4 own' v' (hs ++ [rv]) (i + 1) := by
  obtain ⟨h1, h2⟩ := h.hdr.push hx hown hg hat
  have h3 := hr.keep h2 (by omega)
  have hj := Keeps.join w4 (newTag wr own 1) 3 2
  refine ⟨joinTag (newTag wr own 1) 3 2, ⟨h.hdr.push_ext h.ext (Nat.le_refl _) hx hg, h1.keep hj (by omega), ?_⟩⟩
  rw [grtRows_succ]
  exact (h.rows.keep h2 (by omega)).join (by omega) h3
theorem GrtS.read (h : GrtS w wr own nv hs 600) : RowsV wr nv (grtRows 600) :=
  h.rows.read h.hdr (by rw [grtRows_len]; omega) (fun l hl => by
    unfold grtRows at hl
    obtain ⟨s, _, rfl⟩ := List.mem_map.1 hl
    rw [grtRow_len]; omega)
end

theorem grtX_of {s k r q p t m : Nat} (hr : r = s % 13) (hq : q = s * 7) (hp : p = k * (r + 1)) (ht : t = q + p) (hm : m = t % 601) : grtX s k = (m : Int) - 1 := by
  unfold grtX
  rw [hm, ht, hp, hq, hr]

set_option maxRecDepth 100000 in
set_option maxHeartbeats 16000000 in
theorem combGreat_c (w : World) : Calls Tryd.prog 6 #[] w fun e w' => e = .returned (.bool true) ∧ Ext w w' := by
  obtain ⟨i0, hi0, hz0, hz1, hz2⟩ := info_parts int_info
  obtain ⟨j0, hj0, hw0, hw1, hw2⟩ := info_parts slice_info
  go_enter Tryd.func6, Tryd.ntmps6
  go_wp2
  go_loopw [1, 2] (fun nv sv wr => ∃ (s : Nat) (own : Nat → Nat) (hs : List Value), s ≤ 600 ∧ sv = .int .i64 s ∧ GrtS w wr own nv hs s) (fun _ sv _ => 600 - (intOf sv).toNat)
  case atStart => exact ⟨0, fun _ => 9, [], Nat.zero_le _, rfl, ⟨Ext.refl _, .nil _ _ _ _ _, by rw [grtRows_zero]; exact .nil _ _ _ _⟩⟩
  case round =>
    obtain ⟨s, own, hs, hsl, rfl, hS⟩ := hrel
    have hhl := hS.len
    have htop := hS.hdr.row
    rw [hhl] at htop
    obtain ⟨an, cn, hnv⟩ := own_shape htop
    subst hnv
    by_cases hlt : s < 600
    · have hj1 : (s : Int) < 600 := by omega
      have HS := Lib.hid hS
      clear hS hhl htop
      go_wp2
      go_loopw [3, 4] (fun rv kv wi => ∃ (k : Nat) (own' : Nat → Nat), k ≤ 256 ∧ kv = .int .i64 k ∧ GrtS w wi own' (.slice an s cn) hs s ∧ Lst 3 wi own' w.heap.size 3 rv (intsV (grtRow s k))) (fun _ kv _ => 256 - (intOf kv).toNat)
      case atStart => exact ⟨0, own, Nat.zero_le _, rfl, HS.out, by rw [grtRow_zero]; exact .nil _ _ _ _ _⟩
      case round =>
        clear HS
        rename World => wi
        obtain ⟨k, own1, hk, rfl, hS, hrl⟩ := hrel
        have hrr := hrl.row
        have hlk : (intsV (grtRow s k)).length = k := by simp [intsV, grtRow]
        rw [hlk] at hrr
        obtain ⟨ar, cr, hrv⟩ := own_shape hrr
        subst hrv
        by_cases hltk : k < 256
        · have hj2 : (k : Int) < 256 := by omega
          obtain ⟨r, hr⟩ : ∃ r, r = s % 13 := ⟨_, rfl⟩
          have hr13 : r < 13 := by omega
          have a1 : Int.tmod (s : Int) 13 = (r : Int) := by rw [Int.tmod_eq_emod_of_nonneg (by omega)]; omega
          obtain ⟨q, hq⟩ : ∃ q, q = s * 7 := ⟨_, rfl⟩
          have a2 : (s : Int) * 7 = (q : Int) := by omega
          obtain ⟨p, hp⟩ : ∃ p, p = k * (r + 1) := ⟨_, rfl⟩
          have hp9 : p ≤ 256 * 13 := by rw [hp]; exact Nat.mul_le_mul (by omega) (by omega)
          have a3 : (k : Int) * ((r : Int) + 1) = (p : Int) := by rw [hp]; simp
          obtain ⟨t, ht⟩ : ∃ t, t = q + p := ⟨_, rfl⟩
          have a4 : (q : Int) + (p : Int) = (t : Int) := by omega
          obtain ⟨m, hm⟩ : ∃ m, m = t % 601 := ⟨_, rfl⟩
          have a5 : Int.tmod (t : Int) 601 = (m : Int) := by rw [Int.tmod_eq_emod_of_nonneg (by omega)]; omega
          have hm9 : m < 601 := by omega
          have hq9 : q ≤ 4200 := by omega
          have hx := grtX_of (k := k) hr hq hp ht hm
          have hown := own_ext (Ext.box wi (.cells #[.int .i64 ((m : Int) - 1)] 3)) hrr
          have hcell := cell_one_new wi (.int .i64 ((m : Int) - 1)) 3
          have h1c : ∀ u ∈ [Value.int .i64 ((m : Int) - 1)], u.oneCell' = true := one_int _ _
          have hbase : w.heap.size ≤ (wi.alloc (.cells #[.int .i64 ((m : Int) - 1)] 3)).heap.size := by have := hS.ext.size; simp; omega
          have hmax : k + 1 ≤ maxLen := by unfold maxLen; omega
          have HK := Lib.hid (And.intro hS (And.intro hrl (And.intro hlk hx)))
          clear hS hrl hrr hlk hx hr hq hp ht hm
          go_wp2_with (at_builtin; refine wpList_append_own_at _ rfl _ _ 23 rfl w.heap.size 3 i0 (.int .i64 0) 1 8 Tryd.underlying23 hi0 hz0 hz1 hz2 rfl (by decide) (.slice ar k cr) k _ rfl hown ⟨wi.heap.size, 0, none⟩ 1 1 [.int .i64 ((m : Int) - 1)] rfl rfl hcell h1c hmax (by omega) hbase ?_; intro v' W7 hown' hg _ hat)
          obtain ⟨hr8, hk8⟩ := HK.out.2.1.push (x := .int .i64 ((m : Int) - 1)) (Ext.box _ _) (by rw [HK.out.2.2.1]; exact hown') hg hat
          have hS8 := HK.out.1.keep (HK.out.2.1.push_ext HK.out.1.ext (Nat.le_refl _) (Ext.box _ _) hg) hk8
          have HF := Lib.hid (And.intro hS8 hr8)
          clear hown' hg hat hr8 hk8 hS8
          go_roundw
          case rel => exact ⟨k + 1, _, by omega, by go_num, HF.out.1, by rw [grtRow_succ, HK.out.2.2.2]; have h := HF.out.2; simpa [intsV] using h⟩
          case measure => simp [intOf]; omega
        · obtain rfl : k = 256 := by omega
          have hj2 : ¬ ((256 : Nat) : Int) < 256 := by omega
          have htop := hS.hdr.row
          rw [hS.len] at htop
          have hown := own_ext (Ext.box wi (.cells #[.slice ar 256 cr] 23)) htop
          have hcell := cell_one_new wi (.slice ar 256 cr) 23
          have h1c : ∀ u ∈ [Value.slice ar 256 cr], u.oneCell' = true := by intro u hu; simp at hu; subst hu; rfl
          have hbase : w.heap.size ≤ (wi.alloc (.cells #[.slice ar 256 cr] 23)).heap.size := by have := hS.ext.size; simp; omega
          have hmax : s + 1 ≤ maxLen := by unfold maxLen; omega
          have HK := Lib.hid (And.intro hS hrl)
          clear hS hrl hrr hlk htop
          go_wp2_with (at_builtin; refine wpList_append_own_at _ rfl _ _ 22 rfl w.heap.size 23 j0 (.slice none 0 0) 1 24 Tryd.underlying22 hj0 hw0 hw1 hw2 rfl (by decide) (.slice an s cn) s _ rfl hown ⟨wi.heap.size, 0, none⟩ 1 1 [.slice ar 256 cr] rfl rfl hcell h1c hmax (by omega) hbase ?_; intro v' W7 hown' hg _ hat)
          obtain ⟨own', hS'⟩ := HK.out.1.row HK.out.2 (Ext.box wi (.cells #[.slice ar 256 cr] 23)) (by rw [HK.out.1.len]; exact hown') hg hat
          have HF := Lib.hid hS'
          clear hown' hg hat hS'
          go_roundw
          case rel => exact ⟨s + 1, own', _, by omega, by go_num, HF.out⟩
          case measure => simp [intOf]; omega
    · obtain rfl : s = 600 := by omega
      have hrows := hS.read
      have hj1 : ¬ ((600 : Nat) : Int) < 600 := by omega
      have htab := table_c hrows (by rw [grtRows_len]; omega) (by rw [grtRows_len]; omega) (K := 256) (by omega) (by omega) (by rw [grtRows_get (by omega), grtRow_len])
      have H := Lib.hid (And.intro htab (And.intro hS.ext hrows))
      clear hS hhl htop hrows htab hlt hsl
      go_wp2_with fail
      refine H.out.1.mono ?_
      rintro e w1 ⟨v, rfl, hT, hx1⟩
      obtain ⟨a1, n1, c1, a2, n2, c2, bn, on, nc, a4, n4, c4, n, K, rfl, hTR, hn1⟩ := hT.rowsL grt_may
      have HT := Lib.hid (And.intro hT (And.intro hTR (And.intro (H.out.2.1.trans hx1) (RowsV.ext hx1 H.out.2.2))))
      clear hT hTR hx1
      have hmk : ∀ w : World, (Instr.makeSlice 23 (.int .i64 600) (.int .i64 600)).run Tryd.prog w = .ok (.slice (some ⟨w.heap.size, 0, none⟩) 600 600) (w.alloc (.cells (madeCells #[.int .i64 0] 600) 3)) := fun w => by
        have h := run_make_any (P := Tryd.prog) 23 3 (.int .i64 0) 1 8 Tryd.underlying23 int_info .i64 .i64 600 (by omega) (by omega) w
        rwa [Nat.mul_one] at h
      obtain ⟨w3, hw3⟩ : ∃ w3, w3 = (w1.alloc (.cells #[.slice a1 n1 c1, .int .i64 (K : Int), .slice a2 n2 c2, .slice (some ⟨bn, on, none⟩) n nc, .slice (some ⟨w1.heap.size + 1, 0, none⟩) 600 600] 37)).alloc (.cells (madeCells #[.int .i64 0] 600) 3) := ⟨_, rfl⟩
      have hx3 : Ext w1 w3 := by rw [hw3]; exact (Ext.box _ _).alloc _
      have hT3 : TblV w3 (.agg #[.slice a1 n1 c1, .int .i64 (K : Int), .slice a2 n2 c2, .slice (some ⟨bn, on, none⟩) n nc, .slice (some ⟨w1.heap.size + 1, 0, none⟩) 600 600]) (tabK (grtRows 600) 256) := by
        obtain ⟨cv, sv, nv, lv, e, h1, h2, h3, _⟩ := HT.out.1
        simp only [Value.agg.injEq, Array.mk.injEq, List.cons.injEq, and_true] at e
        obtain ⟨rfl, hK, rfl, rfl, -⟩ := e
        refine ⟨_, _, _, _, by rw [hK], IntsK.ext hx3 h1, IntsK.ext hx3 h2, RowsV.ext hx3 h3, ?_⟩
        have hr0 := World.rowIs_made (w1.alloc (.cells #[.slice a1 n1 c1, .int .i64 (K : Int), .slice a2 n2 c2, .slice (some ⟨bn, on, none⟩) n nc, .slice (some ⟨w1.heap.size + 1, 0, none⟩) 600 600] 37)) (.int .i64 0) 600 3
        rw [World.size_alloc] at hr0
        rw [← hw3] at hr0
        have hl : (tabK (grtRows 600) 256).label.length = 600 := by show (List.replicate (grtRows 600).length (0 : Int)).length = 600; rw [List.length_replicate, grtRows_len]
        exact rowIs_ints (hr0.congr (g := fun j => .int .i64 ((tabK (grtRows 600) 256).label.getD j 0)) fun j _ => by
          show Value.int .i64 0 = .int .i64 ((List.replicate (grtRows 600).length (0 : Int)).getD j 0)
          rw [zeros_get]) hl (by omega) 600 (Nat.le_refl _)
      have hp := pack_c hT3 grt_may
      have H3 := Lib.hid (And.intro hp (And.intro (And.intro (HT.out.2.2.1.trans hx3) (RowsV.ext hx3 HT.out.2.2.2)) hw3))
      clear hx3 hT3 hp hw3
      go_wp2_with fail
      rw [← H3.out.2.2]
      clear hmk
      refine H3.out.1.mono ?_
      rintro e w4 ⟨bv, dv, xv, yv, C, own, rfl, hF, hsl, hO, hx4⟩
      have hmay : CB.CMay C 256 := hF.may grt_may (by omega) (by show (1 : Int) ≤ ((256 : Nat) : Int); omega) (by show ((256 : Nat) : Int) ≤ 256; omega)
      have hcv := hO.read hF grt_may hsl
      obtain ⟨bb, ob, cb, bd, od, cd, ax, cx, ac, cc, n9, mm, hval, hin⟩ := hcv.opened hmay
      simp only [Value.agg.injEq, Array.mk.injEq, List.cons.injEq, and_true] at hval
      obtain ⟨rfl, rfl, rfl, rfl⟩ := hval
      obtain rfl : n9 = 600 := by rw [← hin.nlen, hF.blen]; exact grtRows_len 600
      obtain ⟨W5, hW5⟩ : ∃ W, W = ((w4.alloc (.cells #[.slice (some ⟨bb, ob, none⟩) 600 cb, .slice (some ⟨bd, od, none⟩) 600 cd, .slice ax mm cx, .slice ac mm cc] 40)).alloc (.cells #[.int .i64 (-1)] 3)).alloc (.cells #[.slice (some ⟨w4.heap.size + 1, 0, none⟩) 1 1] 23) := ⟨_, rfl⟩
      have hx5 : Ext w4 W5 := by rw [hW5]; exact ((Ext.box _ _).alloc _).alloc _
      have q0 : W5.cell? ⟨w4.heap.size, 0, none⟩ = some (.slice (some ⟨bb, ob, none⟩) 600 cb) := by rw [hW5]; exact ((Ext.box _ _).alloc _).cell (new_cell rfl)
      have q1 : W5.cell? ⟨w4.heap.size, 1, none⟩ = some (.slice (some ⟨bd, od, none⟩) 600 cd) := by rw [hW5]; exact ((Ext.box _ _).alloc _).cell (new_cell rfl)
      have q2 : W5.cell? ⟨w4.heap.size, 2, none⟩ = some (.slice ax mm cx) := by rw [hW5]; exact ((Ext.box _ _).alloc _).cell (new_cell rfl)
      have q3 : W5.cell? ⟨w4.heap.size, 3, none⟩ = some (.slice ac mm cc) := by rw [hW5]; exact ((Ext.box _ _).alloc _).cell (new_cell rfl)
      have hrows1 : RowsV W5 (.slice (some ⟨w4.heap.size + 1 + 1, 0, none⟩) 1 1) [[-1]] := by
        have ra : W5.rowIs (w4.heap.size + 1) 3 1 (fun i => .int .i64 (([-1] : List Int).getD i 0)) := by
          have q := (World.rowIs_alloc (w4.alloc (.cells #[.slice (some ⟨bb, ob, none⟩) 600 cb, .slice (some ⟨bd, od, none⟩) 600 cd, .slice ax mm cx, .slice ac mm cc] 40)) #[.int .i64 (-1)] 3 (fun i => .int .i64 (([-1] : List Int).getD i 0)) (fun i hi => by
            have hi : i < 1 := hi
            obtain rfl : i = 0 := by omega
            rfl)).alloc (.cells #[.slice (some ⟨w4.heap.size + 1, 0, none⟩) 1 1] 23)
          rw [World.size_alloc] at q
          rw [hW5]; exact q
        have rc : W5.rowIs (w4.heap.size + 1 + 1) 23 1 (fun _ => .slice (some ⟨w4.heap.size + 1, 0, none⟩) 1 1) := by
          have q := World.rowIs_alloc ((w4.alloc (.cells #[.slice (some ⟨bb, ob, none⟩) 600 cb, .slice (some ⟨bd, od, none⟩) 600 cd, .slice ax mm cx, .slice ac mm cc] 40)).alloc (.cells #[.int .i64 (-1)] 3)) #[.slice (some ⟨w4.heap.size + 1, 0, none⟩) 1 1] 23 (fun _ => .slice (some ⟨w4.heap.size + 1, 0, none⟩) 1 1) (fun i hi => by
            have hi : i < 1 := hi
            obtain rfl : i = 0 := by omega
            rfl)
          rw [World.size_alloc, World.size_alloc] at q
          rw [hW5]; exact q
        refine rowIs_rows rc rfl (by omega) 1 (Nat.le_refl _) fun i hi => ?_
        obtain rfl : i = 0 := by omega
        exact rowIs_ints ra rfl (by omega) 1 (Nat.le_refl _)
      have htab1 := table_c hrows1 (by decide) (by decide) (K := 1) (by omega) (by omega) rfl
      have H5 := Lib.hid (And.intro htab1 (And.intro (And.intro (H3.out.2.1.1.trans (hx4.trans hx5)) (RowsV.ext (hx4.trans hx5) H3.out.2.1.2)) (And.intro (hcv.ext hx5) (And.intro (hin.ext hx5) (And.intro hF (And.intro hmay hW5))))))
      have HQ := Lib.hid (And.intro q0 (And.intro q1 (And.intro q2 q3)))
      clear hF hsl hO hx4 hcv hin hx5 hrows1 htab1 hW5 hmay q0 q1 q2 q3
      go_wp2_with fail
      rw [← H5.out.2.2.2.2.2.2]
      refine H5.out.1.mono ?_
      rintro e w6 ⟨v6, rfl, hT6, hx6⟩
      obtain ⟨b1, m1, d1, b2, m2, d2, bn1, on1, nc1, b4, m4, d4, n1', K1, rfl, hTR1, _⟩ := hT6.rowsL oneT_may
      have hp1 := pack_c hT6 oneT_may
      have H6 := Lib.hid (And.intro hp1 hx6)
      clear hT6 hTR1 hp1 hx6
      go_wp2_with fail
      refine H6.out.1.mono ?_
      rintro e w7 ⟨bv1, dv1, xv1, yv1, C1, own1, rfl, hF1, hsl1, hO1, hx7⟩
      have hmay1 : CB.CMay C1 1 := hF1.may oneT_may (by omega) (by show (1 : Int) ≤ ((1 : Nat) : Int); omega) (by show ((1 : Nat) : Int) ≤ 256; omega)
      have hcv1 := hO1.read hF1 oneT_may hsl1
      obtain ⟨eb, ed, ec, en⟩ := one_comb hF1
      have hcv1' := hcv1
      obtain ⟨y1, y2, y3, y4, hv1, u1, u2, u3, u4⟩ := hcv1'
      simp only [Value.agg.injEq, Array.mk.injEq, List.cons.injEq, and_true] at hv1
      obtain ⟨rfl, rfl, rfl, rfl⟩ := hv1
      rw [eb] at u1
      rw [ed] at u2
      rw [en] at u3
      rw [ec] at u4
      obtain ⟨_, p1, r1, rfl, _, _⟩ := u1.open
      obtain ⟨_, p2, r2, rfl, _, _⟩ := u2.open
      obtain ⟨_, p3, r3, rfl, _, _⟩ := u3.open
      obtain ⟨_, p4, r4, rfl, _, _⟩ := u4.open
      obtain ⟨w8, hw8⟩ : ∃ w8, w8 = w7.alloc (.cells #[.slice p1 1 r1, .slice p2 1 r2, .slice p3 0 r3, .slice p4 0 r4] 40) := ⟨_, rfl⟩
      have hx8 : Ext w7 w8 := by rw [hw8]; exact Ext.box _ _
      have z0 : w8.cell? ⟨w7.heap.size, 0, none⟩ = some (.slice p1 1 r1) := by rw [hw8]; simp
      have z1 : w8.cell? ⟨w7.heap.size, 1, none⟩ = some (.slice p2 1 r2) := by rw [hw8]; simp
      have z2 : w8.cell? ⟨w7.heap.size, 2, none⟩ = some (.slice p3 0 r3) := by rw [hw8]; simp
      have z3 : w8.cell? ⟨w7.heap.size, 3, none⟩ = some (.slice p4 0 r4) := by rw [hw8]; simp
      have hx58 := (H6.out.2.trans hx7).trans hx8
      have hx57 := H6.out.2.trans hx7
      have q0 := hx57.cell HQ.out.1
      have q1 := hx57.cell HQ.out.2.1
      have q2 := hx57.cell HQ.out.2.2.1
      have q3 := hx57.cell HQ.out.2.2.2
      have hlq := lt_of_cell q0
      have hmy := cmay_c (k := 256) (H5.out.2.2.1.ext hx58)
      rw [CB.mayC_true.2 H5.out.2.2.2.2.2.1] at hmy
      have H8 := Lib.hid (And.intro hmy (And.intro hx58 (And.intro (IntsK.ext hx8 u1) (And.intro (IntsK.ext hx8 u2) hw8))))
      have HZ := Lib.hid (And.intro z0 (And.intro z1 (And.intro z2 z3)))
      clear hmay1 hcv1 hF1 hsl1 hO1 hx7 hx8 hx57 hx58 hmy u1 u2 u3 u4 hw8 eb ed ec en z0 z1 z2 z3
      simp only [List.length_cons, List.length_nil, Nat.zero_add] at *
      go_wp2_with fail
      rw [← H8.out.2.2.2.2]
      refine H8.out.1.mono ?_
      rintro e w9 ⟨rfl, hx9⟩
      have z0 := hx9.cell HZ.out.1
      have z1 := hx9.cell HZ.out.2.1
      have z2 := hx9.cell HZ.out.2.2.1
      have z3 := hx9.cell HZ.out.2.2.2
      have HX9 := Lib.hid hx9
      clear hx9 q0 q1 q2 q3 hlq
      have hi1 : Ints (w9.alloc (.cells #[.int .i64 0] 3)) (.slice (some ⟨w9.heap.size, 0, none⟩) 1 1) [0] :=
        rowIs_ints (World.rowIs_alloc w9 #[.int .i64 0] 3 (fun i => .int .i64 (([0] : List Int).getD i 0)) (fun i hi => by
          have hi : i < 1 := hi
          obtain rfl : i = 0 := by omega
          rfl)) rfl (by omega) 1 (Nat.le_refl _)
      have he1 := eqInts_b (r := true) (IntsK.ext (HX9.out.trans (Ext.box w9 (.cells #[.int .i64 0] 3))) H8.out.2.2.1) hi1 (by simp)
      have HE1 := Lib.hid he1
      clear hi1 he1
      go_wp2_with fail
      refine HE1.out.mono ?_
      rintro e w10 ⟨rfl, hx10⟩
      have hx90 := (Ext.box w9 (.cells #[.int .i64 0] 3)).trans hx10
      have z1 := hx90.cell z1
      have HX10 := Lib.hid (HX9.out.trans hx90)
      clear hx10 hx90
      have hi2 : Ints (w10.alloc (.cells #[.int .i64 (-1)] 3)) (.slice (some ⟨w10.heap.size, 0, none⟩) 1 1) [-1] :=
        rowIs_ints (World.rowIs_alloc w10 #[.int .i64 (-1)] 3 (fun i => .int .i64 (([-1] : List Int).getD i 0)) (fun i hi => by
          have hi : i < 1 := hi
          obtain rfl : i = 0 := by omega
          rfl)) rfl (by omega) 1 (Nat.le_refl _)
      have he2 := eqInts_b (r := true) (IntsK.ext (HX10.out.trans (Ext.box w10 (.cells #[.int .i64 (-1)] 3))) H8.out.2.2.2.1) hi2 (by simp)
      have HE2 := Lib.hid he2
      clear hi2 he2
      go_wp2_with fail
      refine HE2.out.mono ?_
      rintro e w11 ⟨rfl, hx11⟩
      have hx511 := H8.out.2.1.trans (HX10.out.trans ((Ext.box w10 (.cells #[.int .i64 (-1)] 3)).trans hx11))
      have H11 := Lib.hid hx511
      clear hx11 hx511 z0 z1 z2 z3
      obtain ⟨cb9, hcb9⟩ : ∃ b, b = w4.heap.size := ⟨_, rfl⟩
      rw [← hcb9] at HQ ⊢
      clear hcb9
      go_wp2
      go_loopw [10] (fun sv wr => ∃ s : Nat, s ≤ 640 ∧ sv = .int .i64 s ∧ Ext w11 wr) (fun sv _ => 640 - (intOf sv).toNat)
      case atStart => exact ⟨0, Nat.zero_le _, rfl, Ext.refl _⟩
      case round =>
        rename World => w12
        obtain ⟨s, hs, rfl, hx12⟩ := hrel
        by_cases hlt : s < 600
        · have hj1 : (s : Int) < 600 := by omega
          have HX12 := Lib.hid hx12
          clear hx12
          go_wp2
          go_loopw [11] (fun kv wr => ∃ k : Nat, k ≤ 270 ∧ kv = .int .i64 k ∧ Ext w11 wr) (fun kv _ => 270 - (intOf kv).toNat)
          case atStart => exact ⟨0, Nat.zero_le _, rfl, HX12.out⟩
          case round =>
            rename World => w13
            obtain ⟨k, hk, rfl, hx13⟩ := hrel
            by_cases hltk : k < 256
            · have hj2 : (k : Int) < 256 := by omega
              have hx5w := H11.out.trans hx13
              have q0 := hx5w.cell HQ.out.1
              have q1 := hx5w.cell HQ.out.2.1
              have q2 := hx5w.cell HQ.out.2.2.1
              have q3 := hx5w.cell HQ.out.2.2.2
              have hen := ent_c (cb := cb) (cd := cd) (cn := cx) (cc := cc) (k := k) (s := s) (H5.out.2.2.2.1.ext hx5w) hlt (by omega)
              have hlook := H5.out.2.2.2.2.1.entry (k := k) (by show k < ((256 : Nat) : Int).toNat; omega) s (by show s < (grtRows 600).length; rw [grtRows_len]; exact hlt)
              rw [grt_nx hlt hltk] at hlook
              rw [hlook] at hen
              obtain ⟨pr, hpr⟩ : ∃ p, p = (CB.look C k s).2 := ⟨_, rfl⟩
              rw [← hpr] at hen
              obtain ⟨_, an9, cn9, han, _, hrr⟩ := (RowsV.ext hx5w H5.out.2.1.2).open
              simp only [Value.slice.injEq] at han
              obtain ⟨rfl, -, rfl⟩ := han
              obtain ⟨b9, o9, rfl, hcell⟩ := hrr (by rw [grtRows_len]; omega)
              obtain ⟨rv, c1, hrow⟩ := hcell s (by rw [grtRows_len]; exact hlt)
              rw [grtRows_get hlt] at hrow
              obtain ⟨_, ar, cr, rfl, _, hro⟩ := hrow.open
              rw [grtRow_len] at c1 hro
              obtain ⟨br, ro, rfl, hel⟩ := hro (by omega)
              have c2 := hel k hltk
              rw [grtRow_get hltk] at c2
              obtain ⟨x, hx⟩ : ∃ x, x = grtX s k := ⟨_, rfl⟩
              rw [← hx] at hen c2
              have hxx : (x != x) = false := by simp
              have HK := Lib.hid (And.intro hen hx13)
              clear hen hx13 hx5w hlook hpr hrr hcell hrow hro hel hx
              go_wp2_with fail
              refine HK.out.1.mono ?_
              rintro e w14 ⟨rfl, hx14⟩
              have c1 := hx14.cell c1
              have c2 := hx14.cell c2
              have HX14 := Lib.hid (HK.out.2.trans hx14)
              clear hx14 q0 q1 q2 q3
              go_wp2
              go_roundw
              case rel => exact ⟨k + 11, by omega, by go_num, HX14.out⟩
              case measure => simp [intOf]; omega
            · have hj2 : ¬ (k : Int) < 256 := by omega
              have HX13 := Lib.hid hx13
              clear hx13
              go_wp2
              go_roundw
              case rel => exact ⟨s + 37, by omega, by go_num, HX13.out⟩
              case measure => simp [intOf]; omega
        · have hj1 : ¬ (s : Int) < 600 := by omega
          have HX12 := Lib.hid hx12
          clear hx12
          go_wp2_with fail
          refine (wakes16_c _).mono ?_
          rintro e w13 ⟨rfl, hx13⟩
          have HX13 := Lib.hid (H5.out.2.1.1.trans (H11.out.trans (HX12.out.trans hx13)))
          clear hx13
          go_wp2
          go_ret
          exact ⟨rfl, HX13.out⟩
end Go.Proofs.YtpeipjfmibjoiaaDoor
