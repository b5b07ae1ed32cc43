/- comb.Pack: rows are laid into one another. -/
import Derived.Test.YtpeipjfmibjoiaaDoorLay
import Derived.Test.YtpeipjfmibjoiaaDoorPackS
import Derived.Test.YtpeipjfmibjoiaaDoorSortD
import Derived.Test.YtpeipjfmibjoiaaDoorTblCheck
import Derived.Deep.AppendLies
import Derived.Laws.ResultCell
namespace Go.Proofs.YtpeipjfmibjoiaaDoor
open Go.RowKit

/-- a comb in memory of its own -/
structure CombO (B : Nat) (w : World) (own : Nat → Nat) (bv dv nv cv : Value) (C : Cmb) : Prop where
  base : Lst 1 w own B 3 bv (intsV C.base)
  dflt : Lst 2 w own B 3 dv (intsV C.dflt)
  next : Lst 3 w own B 3 nv (intsV C.next)
  check : Lst 4 w own B 3 cv (intsV C.check)

def PackR (T : Tbl) (w : World) (e : Ending) (w' : World) : Prop :=
  ∃ (bv dv nv cv : Value) (C : Cmb) (own : Nat → Nat), e = .returned (.tuple #[.agg #[bv, dv, nv, cv], .nilIface]) ∧ CB.Full T C ∧ C.next.length ≤ 153600 ∧ CombO w.heap.size w' own bv dv nv cv C ∧ Ext w w'

theorem CombO.read {B : Nat} {w : World} {own : Nat → Nat} {bv dv nv cv : Value} {C : Cmb} {T : Tbl} (h : CombO B w own bv dv nv cv C) (hf : CB.Full T C) (hm : TMay T) (hs : C.next.length ≤ 153600) : CmbV w (.agg #[bv, dv, nv, cv]) C := by
  have h1 := hm.most
  have h2 := hf.blen
  have h3 := hf.dlen
  have h4 := hf.clen
  exact ⟨_, _, _, _, rfl, h.base.ints (by omega), h.dflt.ints (by omega), h.next.ints (by omega), h.check.ints (by omega)⟩

theorem row_info : (Tryd.prog.info? 125).map (fun i => (i.zero, i.size, i.bytes)) = some (some (.agg #[.int .i64 0, .int .i64 0, .slice none 0 0]), 3, 40) := by kernel_rfl

theorem news_row (W : World) (x : RowE) : ∀ j u, (reV x)[j]? = some u → (W.alloc (.cells #[.int .i64 x.s, .int .i64 x.d, .slice x.a x.n x.c] 125)).cell? ((⟨W.heap.size, 0, none⟩ : Addr).add j) = some u := fun j u hj => by
  exact World.news_of_block (cs := #[.int .i64 x.s, .int .i64 x.d, .slice x.a x.n x.c]) (t := 125) (fr := (0, 0)) (heap_alloc_new _ _) j u hj

theorem own_shape {w : World} {B : Nat} {e : TypeId} {size n : Nat} {v : Value} {xs : List Value} (h : w.ownsRow B e size v n xs) : ∃ a cap, v = .slice a n cap := by
  rcases h.2 with ⟨h1, h2⟩ | ⟨g, cap, _, hv, _⟩
  · exact ⟨none, 0, by rw [h1, h2]⟩
  · exact ⟨_, cap, hv⟩

set_option maxRecDepth 100000 in
set_option maxHeartbeats 8000000 in
theorem pack_c {w : World} {v : Value} {T : Tbl} (h : TblV w v T) (hm : TMay T) : Calls Tryd.prog 23 #[v] w (PackR T w) := by
  obtain ⟨tcv, tsv, bn, on, nc, tlv, n, K, rfl, hT, hn1⟩ := h.rows hm
  obtain ⟨W, hW⟩ : ∃ W, W = (w.alloc (.cells #[tcv, .int .i64 (K : Int), tsv, .slice (some ⟨bn, on, none⟩) n nc, tlv] 37)).alloc (.cells #[.slice none 0 0, .slice none 0 0, .slice none 0 0, .slice none 0 0] 40) := ⟨_, rfl⟩
  have hxW : Ext w W := by rw [hW]; exact (Ext.box _ _).alloc _
  have hsz : w.heap.size + 2 = W.heap.size := by rw [hW]; simp
  have k0 : W.cell? ⟨w.heap.size, 0, none⟩ = some tcv := by rw [hW]; simp
  have k1 : W.cell? ⟨w.heap.size, 1, none⟩ = some (.int .i64 (K : Int)) := by rw [hW]; simp
  have k2 : W.cell? ⟨w.heap.size, 2, none⟩ = some tsv := by rw [hW]; simp
  have k3 : W.cell? ⟨w.heap.size, 3, none⟩ = some (.slice (some ⟨bn, on, none⟩) n nc) := by rw [hW]; simp
  have k4 : W.cell? ⟨w.heap.size, 4, none⟩ = some tlv := by rw [hW]; simp
  have hr0 : W.rowIs (w.heap.size + 1) 40 4 (cF (.slice none 0 0) (.slice none 0 0) (.slice none 0 0) (.slice none 0 0)) := by
    have q := World.rowIs_alloc (w.alloc (.cells #[tcv, .int .i64 (K : Int), tsv, .slice (some ⟨bn, on, none⟩) n nc, tlv] 37)) #[.slice none 0 0, .slice none 0 0, .slice none 0 0, .slice none 0 0] 40 (cF (.slice none 0 0) (.slice none 0 0) (.slice none 0 0) (.slice none 0 0)) (fun i hi => cF_at hi)
    rw [World.size_alloc] at q
    rw [hW]; exact q
  have hchk := rcheck_c (h.ext hxW)
  rw [mayT_true.2 hm] at hchk
  have hk2 := hT.k2
  have hk1 := hT.k1
  have hn6 := hT.n6
  have H := Lib.hid (And.intro hxW (And.intro hT (And.intro hr0 (And.intro hchk (And.intro hsz (And.intro hm hW))))))
  have HK := Lib.hid (And.intro k0 (And.intro k1 (And.intro k2 (And.intro k3 k4))))
  clear hxW hT hr0 hchk hsz hW h k0 k1 k2 k3 k4 hm
  go_enter Tryd.func23, Tryd.ntmps23
  have k0 := HK.out.1
  have k1 := HK.out.2.1
  have k2 := HK.out.2.2.1
  have k3 := HK.out.2.2.2.1
  have k4 := HK.out.2.2.2.2
  go_wp2_with fail
  rw [← H.out.2.2.2.2.2.2]
  refine H.out.2.2.2.1.mono ?_
  rintro e w1 ⟨rfl, hx1⟩
  have k3' := hx1.cell k3
  clear k0 k1 k2 k3 k4
  have HX := Lib.hid hx1
  clear hx1
  go_wp2
  clear k3'
  go_loopw [5, 19] (fun lv iv wr => ∃ (i : Nat) (rs : List RowE), i ≤ n ∧ iv = .int .i64 i ∧ rs.length = i ∧ RowsS T w1 wr lv rs) (fun _ iv _ => n - (intOf iv).toNat)
  case atStart => exact ⟨0, [], Nat.zero_le _, rfl, rfl, .nil T w1⟩
  case round =>
    obtain ⟨i, rs, hi, rfl, hlen, hS⟩ := hrel
    have hxr := HX.out.trans hS.ext
    have k0 := hxr.cell HK.out.1
    have k1 := hxr.cell HK.out.2.1
    have k2 := hxr.cell HK.out.2.2.1
    have k3 := hxr.cell HK.out.2.2.2.1
    have k4 := hxr.cell HK.out.2.2.2.2
    by_cases hlt : i < n
    · have hj1 : (i : Int) < n := by omega
      have hb := best_c (cv := tcv) (sv := tsv) (lv := tlv) (nc := nc) (H.out.2.1.ext (H.out.1.trans hxr)) hlt
      obtain ⟨a0, c0, hlv⟩ := own_shape hS.row
      rw [hlen] at hlv
      subst hlv
      have HS := Lib.hid (And.intro hS (And.intro hlen hb))
      clear hS hlen hb hxr
      go_wp2_with fail
      refine HS.out.2.2.mono ?_
      rintro e w3 ⟨d, ar, cr, rfl, hd1, hd2, hro, hx3⟩
      obtain ⟨x, hx⟩ : ∃ x : RowE, x = ⟨(i : Int), d, ar, (CB.liveL T i d).length, cr⟩ := ⟨_, rfl⟩
      have hrow : RowOk T w3 wr.heap.size x i := by rw [hx]; exact ⟨rfl, hd1, hd2, rfl, hro⟩
      obtain ⟨i0, hi0, hz0, hz1, hz2⟩ := info_parts row_info
      have hown := own_ext (hx3.trans (Ext.box w3 (.cells #[.int .i64 (i : Int), .int .i64 d, .slice ar (CB.liveL T i d).length cr] 125))) HS.out.1.row
      rw [HS.out.2.1] at hown
      have hcell := news_row w3 x
      rw [hx] at hcell
      have h1c : ∀ u ∈ reV ⟨(i : Int), d, ar, (CB.liveL T i d).length, cr⟩, u.oneCell' = true := by intro u hu; simp [reV] at hu; rcases hu with rfl | rfl | rfl <;> rfl
      have hbase : w1.heap.size ≤ (w3.alloc (.cells #[.int .i64 (i : Int), .int .i64 d, .slice ar (CB.liveL T i d).length cr] 125)).heap.size := by have := (HS.out.1.ext.trans hx3).size; simp; omega
      have hmax : i + 1 ≤ maxLen := by unfold maxLen; omega
      have HR := Lib.hid (And.intro hrow (And.intro hx3 hx))
      clear hrow hro hx3 hx k0 k1 k2 k3 k4
      go_wp2_with (at_builtin; refine wpList_append_own_at _ rfl _ _ 123 rfl w1.heap.size 125 i0 (.agg #[.int .i64 0, .int .i64 0, .slice none 0 0]) 3 40 Tryd.underlying123 hi0 hz0 hz1 hz2 rfl (by decide) _ _ _ rfl hown ⟨w3.heap.size, 0, none⟩ 1 1 (reV ⟨(i : Int), d, ar, (CB.liveL T i d).length, cr⟩) rfl rfl hcell h1c hmax (by omega) hbase ?_; intro v' W4 hown' hg _ hat)
      have hlen := HS.out.2.1
      have hP := HS.out.1.push HR.out.2.1 (by rw [hlen]; exact HR.out.1) (Ext.box w3 (.cells #[.int .i64 (i : Int), .int .i64 d, .slice ar (CB.liveL T i d).length cr] 125)) (by rw [hlen, HR.out.2.2]; exact hown') hg hat
      go_roundw
      case rel => exact ⟨i + 1, rs ++ [x], by omega, by go_num, by rw [List.length_append, hlen]; rfl, hP⟩
      case measure => simp [intOf]; omega
    · obtain rfl : n = i := by omega
      obtain ⟨gl, cl, hlv, -, -⟩ := own_slc hS.row (by omega)
      rw [hlen] at hlv
      subst hlv
      have hrow := hS.row
      rw [hlen] at hrow
      have he := own_elts hrow hlen.symm
      have hsort := sortStable_c (cap := cl) he hlen (by omega) hn6
      have hm := H.out.2.2.2.2.2.1
      have HS := Lib.hid (And.intro hS (And.intro hlen hsort))
      clear hS hrow he hsort hm hlen hxr k0 k1 k2 k3 k4 hi hlt
      go_wp2_with fail
      refine HS.out.2.2.mono ?_
      rintro e W0 ⟨rfl, hq⟩
      obtain ⟨rs', hsorted, hx0⟩ := HS.out.1.sorted HS.out.2.1 (H.out.2.2.2.2.2.1.count1).2 hq
      have hX0 : Ext W W0 := HX.out.trans hx0
      have HW := Lib.hid (And.intro hsorted hX0)
      clear hq hsorted hx0 hX0 HS
      go_upto_region 11 with fail
      go_cut [7] (fun v7 wx => ∃ (cb gb gd : Nat) (own : Nat → Nat), v7 = .pointer (some ⟨cb, 0, none⟩) ∧ CombS W0 wx own cb gb gd n (.slice none 0 0) (.slice none 0 0) ⟨List.replicate n 0, List.replicate n 0, [], []⟩)
      case first =>
        have hmk : ∀ w : World, (Instr.makeSlice 23 (.int .i64 (n : Int)) (.int .i64 (n : Int))).run Tryd.prog w = .ok (.slice (some ⟨w.heap.size, 0, none⟩) n n) (w.alloc (.cells (madeCells #[.int .i64 0] n) 3)) := fun w => by have h := run_make_any (P := Tryd.prog) 23 3 (.int .i64 0) 1 8 Tryd.underlying23 int_info .i64 .i64 n (by omega) (by omega) w; rwa [Nat.mul_one] at h
        go_region
        all_goals
          go_wp2_with fail
          go_meet
          have hcm : ∀ i, i < n → (madeCells #[Value.int .i64 0] n)[i]? = some ((fun _ => Value.int .i64 0) i) := fun i hi => made_one _ hi
          have hsm : (madeCells #[Value.int .i64 0] n).size = n := size_madeCells _ _
          refine ⟨_, _, _, _, rfl, CombS.made ((((Ext.box _ _).alloc _).alloc _).drew) (by first | exact new_a _ _ rfl (fun i hi => cF_at hi) | exact new_b _ _ rfl (fun i hi => cF_at hi) | exact new_c _ _ rfl (fun i hi => cF_at hi))
            (by first | exact new_a _ _ hsm hcm | exact new_b _ _ hsm hcm | exact new_c _ _ hsm hcm) (by first | exact new_a _ _ hsm hcm | exact new_b _ _ hsm hcm | exact new_c _ _ hsm hcm) (by omega) (by omega) (by omega) (by omega) (by omega) (by omega)⟩
      case rest =>
        obtain ⟨cb, gb, gd, own, rfl, hC⟩ := hcut
        have HC := Lib.hid hC
        clear hC
        go_wp2_with fail
        go_loopw [38] (fun iv wr => ∃ (i : Nat) (own : Nat → Nat) (nv cv : Value) (C : Cmb), i ≤ n ∧ iv = .int .i64 i ∧ CombS W0 wr own cb gb gd n nv cv C ∧ CB.Laid T (fun s => ∃ (j : Nat) (x : RowE), j < i ∧ rs'[j]? = some x ∧ x.s = (s : Int)) C ∧ C.next.length ≤ 256 * i) (fun iv _ => n - (intOf iv).toNat)
        case atStart =>
          refine ⟨0, own, _, _, _, Nat.zero_le _, rfl, HC.out, ?_, Nat.zero_le _⟩
          have hl := H.out.2.1.len
          exact (CB.Laid.none (by simp [hl]) (by simp [hl]) rfl rfl).congr fun s => ⟨fun h => h.elim, fun ⟨j, x, hj, _⟩ => absurd hj (Nat.not_lt_zero _)⟩
        case round =>
          clear HC
          obtain ⟨i, own, nv, cv, C, hi, rfl, hC, hLd, hm⟩ := hrel
          have hxr : Ext W wr := HW.out.2.trans hC.ext
          have k0 := hxr.cell HK.out.1
          have k1 := hxr.cell HK.out.2.1
          have k2 := hxr.cell HK.out.2.2.1
          have k3 := hxr.cell HK.out.2.2.2.1
          have k4 := hxr.cell HK.out.2.2.2.2
          by_cases hlt : i < n
          · have hj1 : (i : Int) < n := by omega
            obtain ⟨x, hx⟩ : ∃ x, rs'[i]? = some x := ⟨_, List.getElem?_eq_getElem (by rw [HW.out.1.len]; exact hlt)⟩
            have hr := HW.out.1.row i x hx
            have c0 := hC.ext.cell (HW.out.1.elts.c0 i x hx)
            have c1 := hC.ext.cell (HW.out.1.elts.c1 i x hx)
            have c2 := hC.ext.cell (HW.out.1.elts.c2 i x hx)
            obtain ⟨xs, d, xa, xn, xc⟩ := x
            obtain ⟨s, hs⟩ : ∃ s : Nat, s = xs.toNat := ⟨_, rfl⟩
            obtain ⟨h1, h2, h3, h4, h5, h6⟩ := hr
            simp only at h1 h2 h3 h4 h5 h6 c0 c1 c2
            rw [← hs] at h1 h2 h4 h5 h6
            subst h1
            subst h5
            have hlen : (CB.liveL T s d).length ≤ K := by
              have := CB.liveN_len T s d T.count.toNat
              unfold CB.liveL
              rw [H.out.2.1.cnt] at this ⊢
              simpa using this
            have hl := lay_c (d := d) (tcv := tcv) (tsv := tsv) (tlv := tlv) (nc := nc) (hC.more (Ext.box wr (.cells #[.int .i64 (s : Int), .int .i64 d, .slice xa (CB.liveL T s d).length xc] 125))) (H.out.2.1.ext (H.out.1.trans HW.out.2)) h2 h6 (by omega)
              (fun k hk => by have := (CB.liveL_mem.1 hk).1; rw [H.out.2.1.cnt] at this; simpa using this) (by omega) hLd.clen
            have HL := Lib.hid (And.intro hl (And.intro hLd (And.intro hx (And.intro hlen (And.intro h3 h4)))))
            obtain ⟨M, hM⟩ : ∃ M, M = (CB.liveL T s d).length := ⟨_, rfl⟩
            rw [← hM] at c2 HL
            have hlt0 := lt_of_cell k0
            clear hl hLd hx hlen h3 h4 h6 hC hs hM hxr
            go_wp2_with fail
            refine HL.out.1.mono ?_
            rintro e w9 ⟨own', nv', cv', C', b, rfl, hC', hfit, hb, hd, hpn, hpc⟩
            have hnew := HL.out.2.1.lay (s := s) (d := d) (by rw [H.out.2.1.len]; exact h2) (fun ⟨j, y, hj, hy, e⟩ => by
              have := HW.out.1.once j i y _ hy HL.out.2.2.1 e
              omega) ⟨HL.out.2.2.2.2.1, HL.out.2.2.2.2.2⟩ hfit hb hd hpn hpc
            have hle : C'.next.length ≤ 256 * (i + 1) := by
              have h1 := hpn.len_le (K := 256) (fun k hk => by have := (CB.liveL_mem.1 hk).1; rw [H.out.2.1.cnt] at this; simp at this; omega)
              have h2 := hfit.le
              have h3 := HL.out.2.1.clen
              omega
            have HN := Lib.hid (And.intro hC' (And.intro hnew hle))
            clear hC' hfit hb hd hpn hpc hnew hle k0 k1 k2 k3 k4 c0 c1 c2
            go_wp2
            go_roundw
            case rel =>
              refine ⟨i + 1, own', nv', cv', C', by omega, by go_num, HN.out.1, HN.out.2.1.congr fun t => ?_, HN.out.2.2⟩
              constructor
              · rintro (⟨j, y, hj, hy, e⟩ | rfl)
                · exact ⟨j, y, by omega, hy, e⟩
                · exact ⟨i, _, by omega, HL.out.2.2.1, rfl⟩
              · rintro ⟨j, y, hj, hy, e⟩
                by_cases ej : j = i
                · subst ej
                  have := Option.some.inj (HL.out.2.2.1.symm.trans hy)
                  subst this
                  right
                  simp only at e
                  omega
                · exact .inl ⟨j, y, by omega, hy, e⟩
            case measure => simp [intOf]; omega
          · obtain rfl : n = i := by omega
            have hFull : CB.Full T C := hLd.congr fun s => ⟨fun ⟨j, x, hj, hx, e⟩ => by
                have := (HW.out.1.row j x hx).lt
                rw [H.out.2.1.len]
                omega, fun hs => by
                rw [H.out.2.1.len] at hs
                obtain ⟨j, x, hx, e⟩ := HW.out.1.all s hs
                exact ⟨j, x, by have := (List.getElem?_eq_some_iff.1 hx).1; rw [HW.out.1.len] at this; exact this, hx, e⟩⟩
            obtain ⟨a2, c2, e2⟩ := own_shape hC.next.row
            obtain ⟨a3, c3, e3⟩ := own_shape hC.check.row
            obtain ⟨m2, hm2⟩ : ∃ m, m = (intsV C.next).length := ⟨_, rfl⟩
            obtain ⟨m3, hm3⟩ : ∃ m, m = (intsV C.check).length := ⟨_, rfl⟩
            rw [← hm2] at e2
            rw [← hm3] at e3
            subst e2; subst e3
            have b0 : wr.cell? ⟨cb, 0, none⟩ = some (.slice (some ⟨gb, 0, none⟩) n n) := hC.box.row.cell (i := 0) (by omega)
            have b1 : wr.cell? ⟨cb, 1, none⟩ = some (.slice (some ⟨gd, 0, none⟩) n n) := hC.box.row.cell (i := 1) (by omega)
            have b2 : wr.cell? ⟨cb, 2, none⟩ = some (.slice a2 m2 c2) := hC.box.row.cell (i := 2) (by omega)
            have b3 : wr.cell? ⟨cb, 3, none⟩ = some (.slice a3 m3 c3) := hC.box.row.cell (i := 3) (by omega)
            have hr9 := rowIs_ext hxr H.out.2.2.1
            have d0 : wr.cell? ⟨w.heap.size + 1, 0, none⟩ = some (.slice none 0 0) := hr9.cell (i := 0) (by omega)
            have d1 : wr.cell? ⟨w.heap.size + 1, 1, none⟩ = some (.slice none 0 0) := hr9.cell (i := 1) (by omega)
            have d2 : wr.cell? ⟨w.heap.size + 1, 2, none⟩ = some (.slice none 0 0) := hr9.cell (i := 2) (by omega)
            have d3 : wr.cell? ⟨w.heap.size + 1, 3, none⟩ = some (.slice none 0 0) := hr9.cell (i := 3) (by omega)
            have g0 := hr9.frozen 0
            have g1 := hr9.frozen 1
            have g2 := hr9.frozen 2
            have g3 := hr9.frozen 3
            have hl1 := hC.base.lst (xs := intsV C.base) (by unfold maxLen; omega) (by rw [intsV_len, hC.bl]) (fun i x hi => by
              have h1 := (List.getElem?_eq_some_iff.1 hi).1
              rw [intsV_len] at h1
              rw [intsV_get h1] at hi
              exact Option.some.inj hi)
            have hl2 := hC.dflt.lst (xs := intsV C.dflt) (by unfold maxLen; omega) (by rw [intsV_len, hC.dl]) (fun i x hi => by
              have h1 := (List.getElem?_eq_some_iff.1 hi).1
              rw [intsV_len] at h1
              rw [intsV_get h1] at hi
              exact Option.some.inj hi)
            have HF := Lib.hid (And.intro hFull (And.intro hm (And.intro hl1 (And.intro hl2 (And.intro hC.next (And.intro hC.check (And.intro hxr hr9)))))))
            clear hFull hm hl1 hl2 hC hxr hr9 hLd hm2 hm3 hi hlt k0 k1 k2 k3 k4
            go_wp2
            have hXf : Ext w ((((wr.setCell ⟨w.heap.size + 1, 0, none⟩ (.slice (some ⟨gb, 0, none⟩) n n)).setCell ⟨w.heap.size + 1, 1, none⟩ (.slice (some ⟨gd, 0, none⟩) n n)).setCell ⟨w.heap.size + 1, 2, none⟩ (.slice a2 m2 c2)).setCell ⟨w.heap.size + 1, 3, none⟩ (.slice a3 m3 c3)) := ((((H.out.1.trans HF.out.2.2.2.2.2.2.1).setCell (by simp) _).setCell (by simp) _).setCell (by simp) _).setCell (by simp) _
            have hr9 := (((HF.out.2.2.2.2.2.2.2.set 0 (.slice (some ⟨gb, 0, none⟩) n n)).set 1 (.slice (some ⟨gd, 0, none⟩) n n)).set 2 (.slice a2 m2 c2)).set 3 (.slice a3 m3 c3)
            have hW0 : w.heap.size + 1 < W0.heap.size := by have h1 := H.out.2.2.2.2.1; have h2 := HW.out.2.size; omega
            have far : ∀ g, W0.heap.size ≤ g → ((((wr.setCell ⟨w.heap.size + 1, 0, none⟩ (.slice (some ⟨gb, 0, none⟩) n n)).setCell ⟨w.heap.size + 1, 1, none⟩ (.slice (some ⟨gd, 0, none⟩) n n)).setCell ⟨w.heap.size + 1, 2, none⟩ (.slice a2 m2 c2)).setCell ⟨w.heap.size + 1, 3, none⟩ (.slice a3 m3 c3)).heap[g]? = wr.heap[g]? := fun g hg => by
              have hne : g ≠ w.heap.size + 1 := by omega
              rw [Below.heap_setCell _ _ _ _ hne, Below.heap_setCell _ _ _ _ hne, Below.heap_setCell _ _ _ _ hne, Below.heap_setCell _ _ _ _ hne]
            generalize World.setCell (World.setCell (World.setCell (World.setCell wr _ _) _ _) _ _) _ _ = Wf at hXf hr9 far ⊢
            have z0 : Wf.cell? ⟨w.heap.size + 1, 0, none⟩ = some (.slice (some ⟨gb, 0, none⟩) n n) := hr9.cell (i := 0) (by omega)
            have z1 : Wf.cell? ⟨w.heap.size + 1, 1, none⟩ = some (.slice (some ⟨gd, 0, none⟩) n n) := hr9.cell (i := 1) (by omega)
            have z2 : Wf.cell? ⟨w.heap.size + 1, 2, none⟩ = some (.slice a2 m2 c2) := hr9.cell (i := 2) (by omega)
            have z3 : Wf.cell? ⟨w.heap.size + 1, 3, none⟩ = some (.slice a3 m3 c3) := hr9.cell (i := 3) (by omega)
            have fw : ∀ {k : Nat} {e : TypeId} {v : Value} {xs : List Value}, Lst k wr own W0.heap.size e v xs → Lst k Wf own w.heap.size e v xs := fun hl =>
              ⟨own_base (own_block hl.row fun g hg _ => far g (hl.row.lt g hg).1) (by omega), hl.tag⟩
            (try simp only [Exit.inBlock, Exit.then])
            refine bodyPost_ret (v := .tuple #[.agg #[.slice (some ⟨gb, 0, none⟩) n n, .slice (some ⟨gd, 0, none⟩) n n, .slice a2 m2 c2, .slice a3 m3 c3], .nilIface]) ?_ rfl ?_
            · rw [results_cell_tmp rfl]
              go_simp
            · exact ⟨_, _, _, _, C, own, rfl, HF.out.1, by have := HF.out.2.1; omega, ⟨fw HF.out.2.2.1, fw HF.out.2.2.2.1, fw HF.out.2.2.2.2.1, fw HF.out.2.2.2.2.2.1⟩, hXf⟩
end Go.Proofs.YtpeipjfmibjoiaaDoor
