/- bolterref15.classed: with classes, and rows by them. -/
import Derived.Test.YtloooajippcdlaaDoorRefCol
import Derived.Test.YtloooajippcdlaaDoorBldE
import Derived.Deep.AppendLies
import Derived.Deep.RegionLaw
import Derived.Deep.CutBlock
import Derived.Deep.DeepCutAuto
namespace Go.Proofs.YtloooajippcdlaaDoor
open Go.RowKit

theorem int1_info : (Tryd.prog.info? 3).map (fun i => (i.zero, i.size, i.bytes)) = some (some (.int .i64 0), 1, 8) := by kernel_rfl
theorem row1_info : (Tryd.prog.info? 23).map (fun i => (i.zero, i.size, i.bytes)) = some (some (.slice none 0 0), 1, 24) := by kernel_rfl
theorem shpL {k B : Nat} {w : World} {own : Nat → Nat} {e : TypeId} {v : Value} {xs : List Value} (h : Lst k w own B e v xs) : ∃ a c, v = .slice a xs.length c := by
  obtain ⟨a, c, hv, _⟩ := own_read h.row
  exact ⟨a, c, hv⟩
theorem intsV_len (l : List Int) : (intsV l).length = l.length := by simp [intsV]

/-- the memory: 0 the table's box, 15 the result's; 5 classes, 9 first bytes, 6 headers of rows, 8 rows, 7 the row that is being filled -/
structure RClS (w wr : World) (own : Nat → Nat) (rb rc : Nat) (K : Int) (cv sv xv lv fv : Value) (classes fs : List Nat) (xs : List Value) (shorts : List (List Int)) : Prop where
  ext : Ext w wr
  box : Blk 0 wr own w.heap.size rb 67 5 (rF cv (.int .i64 K) sv xv lv)
  res : Blk 15 wr own w.heap.size rc 67 5 (rF (.slice none 0 0) (.int .i64 0) (.slice none 0 0) (.slice none 0 0) (.slice none 0 0))
  classes : Lst 5 wr own w.heap.size 3 cv (intsV (nI classes))
  firsts : Lst 9 wr own w.heap.size 3 fv (intsV (nI fs))
  xhdr : Lst 6 wr own w.heap.size 23 xv xs
  shorts : Rws 8 wr own w.heap.size xs shorts

section
variable {w wr w' w2 w4 : World} {own own' : Nat → Nat} {rb rc : Nat} {K : Int} {cv sv xv lv fv v' rv : Value} {classes fs : List Nat} {xs : List Value} {shorts : List (List Int)}
theorem RClS.keep (h : RClS w wr own rb rc K cv sv xv lv fv classes fs xs shorts) (hx : Ext w w') (hk : Keeps (· ≠ 7) wr own w' own') : RClS w w' own' rb rc K cv sv xv lv fv classes fs xs shorts :=
  ⟨hx, h.box.keep hk (by omega), h.res.keep hk (by omega), h.classes.keep hk (by omega), h.firsts.keep hk (by omega), h.xhdr.keep hk (by omega), h.shorts.keep hk (by omega)⟩
theorem RClS.more (h : RClS w wr own rb rc K cv sv xv lv fv classes fs xs shorts) (hx : Ext wr w') : RClS w w' own rb rc K cv sv xv lv fv classes fs xs shorts := h.keep (h.ext.trans hx) (.ext hx)
theorem RClS.first (h : RClS w wr own rb rc K cv sv xv lv fv classes fs xs shorts) {f : Nat} (hx : Ext wr w2) (hown : w4.ownsRow w.heap.size 3 1 v' ((intsV (nI fs)).length + 1) (intsV (nI fs) ++ [.int .i64 (f : Int)])) (hg : w2.grownBy w4 fv.ownBlock) (hat : v'.ownBlock = fv.ownBlock ∨ v'.ownBlock = some w2.heap.size) :
    RClS w w4 (newTag wr own 9) rb rc K cv sv xv lv v' classes (fs ++ [f]) xs shorts := by
  obtain ⟨h1, h2⟩ := h.firsts.push hx hown hg hat
  refine ⟨h.firsts.push_ext h.ext (Nat.le_refl _) hx hg, h.box.keep h2 (by omega), h.res.keep h2 (by omega), h.classes.keep h2 (by omega), ?_, h.xhdr.keep h2 (by omega), h.shorts.keep h2 (by omega)⟩
  have e : intsV (nI (fs ++ [f])) = intsV (nI fs) ++ [.int .i64 (f : Int)] := by simp [intsV, nI]
  rw [e]; exact h1
theorem RClS.cls (h : RClS w wr own rb rc K cv sv xv lv fv classes fs xs shorts) {c : Nat} (hx : Ext wr w2) (hown : w4.ownsRow w.heap.size 3 1 v' ((intsV (nI classes)).length + 1) (intsV (nI classes) ++ [.int .i64 (c : Int)])) (hg : w2.grownBy w4 cv.ownBlock) (hat : v'.ownBlock = cv.ownBlock ∨ v'.ownBlock = some w2.heap.size) :
    RClS w (w4.setCell ⟨rb, 0, none⟩ v') (newTag wr own 5) rb rc K v' sv xv lv fv (classes ++ [c]) fs xs shorts := by
  obtain ⟨h1, h2, h3, h4⟩ := h.box.grow h.classes (by omega) hx hown hg hat 0
  refine ⟨h4 w h.ext (Nat.le_refl _), h1.congr fun i hi => ?_, h.res.keep h3 (by omega), ?_, h.firsts.keep h3 (by omega), h.xhdr.keep h3 (by omega), h.shorts.keep h3 (by omega)⟩
  · rcases rF_at hi with rfl | rfl | rfl | rfl | rfl <;> rfl
  · have e : intsV (nI (classes ++ [c])) = intsV (nI classes) ++ [.int .i64 (c : Int)] := by simp [intsV, nI]
    rw [e]; exact h2
theorem RClS.count (h : RClS w wr own rb rc K cv sv xv lv fv classes fs xs shorts) (K' : Int) : RClS w (wr.setCell ⟨rb, 1, none⟩ (.int .i64 K')) own rb rc K' cv sv xv lv fv classes fs xs shorts := by
  obtain ⟨h1, h2⟩ := h.box.set 1 (.int .i64 K')
  exact ⟨h.box.set_ext h.ext (Nat.le_refl _) 1 _, h1.congr fun i hi => by rcases rF_at hi with rfl | rfl | rfl | rfl | rfl <;> rfl, h.res.keep h2 (by omega), h.classes.keep h2 (by omega), h.firsts.keep h2 (by omega), h.xhdr.keep h2 (by omega), h.shorts.keep h2 (by omega)⟩
theorem RClS.row (h : RClS w wr own rb rc K cv sv xv lv fv classes fs xs shorts) {l : List Int} (hr : Lst 7 wr own w.heap.size 3 rv (intsV l)) (hx : Ext wr w2) (hown : w4.ownsRow w.heap.size 23 1 v' (xs.length + 1) (xs ++ [rv])) (hg : w2.grownBy w4 xv.ownBlock) (hat : v'.ownBlock = xv.ownBlock ∨ v'.ownBlock = some w2.heap.size) :
    ∃ own', RClS w (w4.setCell ⟨rb, 3, none⟩ v') own' rb rc K cv sv v' lv fv classes fs (xs ++ [rv]) (shorts ++ [l]) := by
  obtain ⟨h1, h2, h3, h4⟩ := h.box.grow h.xhdr (by omega) hx hown hg hat 3
  have hj := Keeps.join (w4.setCell ⟨rb, 3, none⟩ v') (newTag wr own 6) 7 8
  have h5 : Blk 0 (w4.setCell ⟨rb, 3, none⟩ v') (newTag wr own 6) w.heap.size rb 67 5 (rF cv (.int .i64 K) sv v' lv) := h1.congr fun i hi => by rcases rF_at hi with rfl | rfl | rfl | rfl | rfl <;> rfl
  exact ⟨joinTag (newTag wr own 6) 7 8, h4 w h.ext (Nat.le_refl _), h5.keep hj (by omega), (h.res.keep h3 (by omega)).keep hj (by omega), (h.classes.keep h3 (by omega)).keep hj (by omega), (h.firsts.keep h3 (by omega)).keep hj (by omega), h2.keep hj (by omega), (h.shorts.keep h3 (by omega)).join (by omega) (hr.keep h3 (by omega))⟩
end

theorem key_elim15c {G : Nat → Nat → World → Prop} {Good : Nat → Nat → World → Prop} {Q : Prop} (h : (∀ gg cap W, Good gg cap W → G gg cap W) → Q) (h2 : ∀ gg cap W, Good gg cap W → G gg cap W) : Q := h h2

def RClsR (rows : List (List Int)) (sv lv : Value) (w : World) (e : Ending) (w' : World) : Prop :=
  ∃ ca cc xa xn xc, e = .returned (.agg #[.slice ca 256 cc, .int .i64 (RM.ncls rows : Nat), sv, .slice xa xn xc, lv]) ∧ (∀ W, (∀ g, w.heap.size ≤ g → W.heap[g]? = w'.heap[g]?) → Ints W (.slice ca 256 cc) (nI ((List.range LM.rowLen).map (RM.cls rows))) ∧ RowsV W (.slice xa xn xc) (rows.map (RM.short rows))) ∧ Ext w w'

set_option maxRecDepth 100000 in
set_option maxHeartbeats 8000000 in
theorem rcls_c {w : World} {sa na la : Option Addr} {sn sc nn nc ln lc : Nat} {rows : List (List Int)} (h : RowsV w (.slice na nn nc) rows) (hl : ∀ r ∈ rows, r.length = 256) (hR : rows.length ≤ 1000) :
    Calls Tryd.prog 63 #[.agg #[.slice none 0 0, .int .i64 0, .slice sa sn sc, .slice none 0 0, .slice la ln lc], .slice na nn nc] w (RClsR rows (.slice sa sn sc) (.slice la ln lc) w) := by
  have hrv := h
  obtain ⟨hl0, an, cn, hv, _, hop⟩ := h.open
  simp only [Value.slice.injEq] at hv
  obtain ⟨rfl, rfl, rfl⟩ := hv
  obtain ⟨R, hRR⟩ : ∃ R, R = rows.length := ⟨_, rfl⟩
  rw [← hRR] at hl0 hop hR hrv ⊢
  have H := Lib.hid (And.intro hop (And.intro hl (And.intro hRR hrv)))
  clear hop hl hRR h hrv
  go_enter Tryd.func63, Tryd.ntmps63
  go_wp2_with fail
  obtain ⟨rb, hrb⟩ : ∃ b, b = w.heap.size := ⟨_, rfl⟩
  obtain ⟨W0, hW0⟩ : ∃ W, W = (w.alloc (.cells #[.slice none 0 0, .int .i64 0, .slice sa sn sc, .slice none 0 0, .slice la ln lc] 67)).alloc (.cells #[.slice none 0 0, .int .i64 0, .slice none 0 0, .slice none 0 0, .slice none 0 0] 67) := ⟨_, rfl⟩
  rw [← hW0]
  have hs0 : RClS w W0 (newTag (w.alloc (.cells #[.slice none 0 0, .int .i64 0, .slice sa sn sc, .slice none 0 0, .slice la ln lc] 67)) (newTag w (fun _ => 0) 0) 15) rb (rb + 1) 0 (.slice none 0 0) (.slice sa sn sc) (.slice none 0 0) (.slice la ln lc) (.slice none 0 0) [] [] [] [] := by
    have b0 := Blk.made w (fun _ => 0) 0 (Nat.le_refl w.heap.size) #[.slice none 0 0, .int .i64 0, .slice sa sn sc, .slice none 0 0, .slice la ln lc] 67 (n := 5) rfl (rF (.slice none 0 0) (.int .i64 0) (.slice sa sn sc) (.slice none 0 0) (.slice la ln lc)) (fun i hi => by rcases rF_at hi with rfl | rfl | rfl | rfl | rfl <;> rfl)
    have b1 := Blk.made (w.alloc (.cells #[.slice none 0 0, .int .i64 0, .slice sa sn sc, .slice none 0 0, .slice la ln lc] 67)) (newTag w (fun _ => 0) 0) 15 (B := w.heap.size) (by simp) #[.slice none 0 0, .int .i64 0, .slice none 0 0, .slice none 0 0, .slice none 0 0] 67 (n := 5) rfl (rF (.slice none 0 0) (.int .i64 0) (.slice none 0 0) (.slice none 0 0) (.slice none 0 0)) (fun i hi => by rcases rF_at hi with rfl | rfl | rfl | rfl | rfl <;> rfl)
    rw [World.size_alloc] at b1
    rw [hW0, hrb]
    exact ⟨(Ext.box _ _).alloc _, b0.keep (S := fun _ => True) (.new (Ext.box _ _) 15) trivial, b1, .nil .., .nil .., .nil .., .nil ..⟩
  have HS0 := Lib.hid (And.intro hs0 hrb)
  (try rw [← hrb])
  clear hs0 hW0 hrb
  go_loopw [5, 6] (fun fv iv wr => ∃ (c : Nat) (own : Nat → Nat) (cv : Value), c ≤ 256 ∧ iv = .int .i64 c ∧ RClS w wr own rb (rb + 1) 0 cv (.slice sa sn sc) (.slice none 0 0) (.slice la ln lc) fv ((List.range c).map (RM.cls rows)) (RM.firsts rows c) [] []) (fun _ iv _ => 256 - (intOf iv).toNat)
  case atStart => exact ⟨0, _, _, Nat.zero_le _, rfl, HS0.out.1⟩
  case round =>
    obtain ⟨c, own, cv, hc, rfl, hS⟩ := hrel
    obtain ⟨fa, fc, hfv⟩ := shpL hS.firsts
    rw [intsV_len, nI_len] at hfv
    obtain ⟨F, hF⟩ : ∃ F, F = (RM.firsts rows c).length := ⟨_, rfl⟩
    have hFc : F ≤ c := by rw [hF, RM.firsts_len]; exact LM.cnt_le _ _
    rw [← hF] at hfv
    subst hfv
    have HS := Lib.hid (And.intro hS hF)
    clear hS hF
    by_cases hlt : c < 256
    · have hj1 : (c : Int) < 256 := by omega
      go_upto_block 2 with fail
      go_cut [7] from 12 to 47 (fun av wx => Ext wr wx ∧ ∃ z : Int, av = .int .i64 z ∧ ((z = -1 ∧ F = RM.cls rows c ∧ RM.firsts rows (c + 1) = RM.firsts rows c ++ [c]) ∨ (∃ q : Nat, z = (q : Int) ∧ q = RM.cls rows c ∧ RM.firsts rows (c + 1) = RM.firsts rows c)))
      case first =>
        go_wp2_with fail
        go_loopw [7, 8] (fun av kv wi => Ext wr wi ∧ ∃ k : Nat, k ≤ F ∧ kv = .int .i64 k ∧ ((av = .int .i64 (-1) ∧ ∀ j a, j < k → (RM.firsts rows c)[j]? = some a → RM.same rows a c = false) ∨ ∃ q a, q < F ∧ av = .int .i64 ((q : Nat) : Int) ∧ (∀ j a, j < q → (RM.firsts rows c)[j]? = some a → RM.same rows a c = false) ∧ (RM.firsts rows c)[q]? = some a ∧ RM.same rows a c = true)) (fun _ kv _ => F - (intOf kv).toNat)
        case atStart => exact ⟨Ext.refl _, 0, Nat.zero_le _, rfl, .inl ⟨rfl, fun j a hj => by omega⟩⟩
        case round =>
          rename World => wi
          obtain ⟨hx, k, hk, rfl, hcs⟩ := hrel
          rcases hcs with ⟨rfl, hn⟩ | ⟨q, a, hq, rfl, hn, ha, hsm⟩
          · by_cases hkF : k < F
            · have hj2 : (k : Int) < F := by omega
              obtain ⟨a, ha⟩ : ∃ a, (RM.firsts rows c)[k]? = some a := ⟨_, List.getElem?_eq_getElem (by rw [← HS.out.2]; exact hkF)⟩
              obtain ⟨hab, _, _⟩ := RM.firsts_of ha
              have hfs := HS.out.1.firsts.ext hx
              obtain ⟨gf, cf, hfv, _, _, _⟩ := hfs.slc (by rw [intsV_len, nI_len, ← HS.out.2]; omega)
              rw [intsV_len, nI_len, ← HS.out.2] at hfv
              simp only [Value.slice.injEq, true_and] at hfv
              obtain ⟨rfl, rfl⟩ := hfv
              have c1 := hfs.cell (i := k) (x := .int .i64 (a : Int)) (by unfold intsV nI; rw [List.getElem?_map, List.getElem?_map, ha]; rfl)
              have hcl := rcol_c (w := wi) (a := a) (b := c) (RowsV.ext (HS.out.1.ext.trans hx) H.out.2.2.2) H.out.2.1 (by omega) hlt
              obtain ⟨r, hr⟩ : ∃ r, r = RM.same rows a c := ⟨_, rfl⟩
              rw [← hr] at hcl
              have HQ := Lib.hid (And.intro hcl (And.intro hr (And.intro ha (And.intro hx hn))))
              clear hcl hr ha hx hn hfs
              go_wp2_with fail
              refine HQ.out.1.mono ?_
              rintro e w5 ⟨rfl, hx5⟩
              have HX5 := Lib.hid (HQ.out.2.2.2.1.trans hx5)
              clear hx5 c1
              cases r
              · go_wp2
                go_roundw
                case rel => exact ⟨HX5.out, k + 1, by omega, by go_num, .inl ⟨rfl, fun j a' hj ha' => by
                  by_cases e : j = k
                  · subst e
                    have := HQ.out.2.2.1
                    rw [this] at ha'
                    obtain rfl := Option.some.inj ha'
                    exact HQ.out.2.1.symm
                  · exact HQ.out.2.2.2.2 j a' (by omega) ha'⟩⟩
                case measure => simp [intOf]; omega
              · go_wp2
                go_roundw
                case rel => exact ⟨HX5.out, k + 1, by omega, by go_num, .inr ⟨k, a, hkF, rfl, HQ.out.2.2.2.2, HQ.out.2.2.1, HQ.out.2.1.symm⟩⟩
                case measure => simp [intOf]; omega
            · obtain rfl : F = k := by omega
              have hj2 : ¬ (F : Int) < F := by omega
              have hfc := RM.found_cls (rows := rows) (b := c) (k := F) (by rw [HS.out.2, RM.firsts_len]; exact Nat.le_refl _) hn (.inl (by rw [HS.out.2, RM.firsts_len]))
              rw [if_pos (by rw [HS.out.2, RM.firsts_len])] at hfc
              have HX := Lib.hid (And.intro hx hfc)
              clear hx hfc hn hkF
              go_wp2_with fail
              go_meet
              exact ⟨HX.out.1, -1, rfl, .inl ⟨rfl, HX.out.2.1, HX.out.2.2⟩⟩
          · have hfc := RM.found_cls (rows := rows) (b := c) (k := q) (by have h9 := HS.out.2; rw [RM.firsts_len] at h9; omega) hn (.inr ⟨a, ha, hsm⟩)
            rw [if_neg (by have h9 := HS.out.2; rw [RM.firsts_len] at h9; omega)] at hfc
            have HX := Lib.hid (And.intro hx hfc)
            have hj3 : ¬ (q : Int) < 0 := by omega
            clear hx hfc hn ha hsm
            by_cases hkF : k < F
            · have hj2 : (k : Int) < F := by omega
              go_wp2_with fail
              go_meet
              exact ⟨HX.out.1, (q : Int), rfl, .inr ⟨q, rfl, HX.out.2.1, HX.out.2.2⟩⟩
            · have hj2 : ¬ (k : Int) < F := by omega
              go_wp2_with fail
              go_meet
              exact ⟨HX.out.1, (q : Int), rfl, .inr ⟨q, rfl, HX.out.2.1, HX.out.2.2⟩⟩
      case rest =>
        rename World => w3
        obtain ⟨hx3, z, rfl, hcs⟩ := hcut
        have hS3 := HS.out.1.more hx3
        have HS3 := Lib.hid (And.intro hS3 hcs)
        clear hS3 hcs hx3
        go_upto_if 35 with fail
        go_cut [5, 7] from 12 to 47 (fun fv av wx => ∃ own', av = .int .i64 ((RM.cls rows c : Nat) : Int) ∧ RClS w wx own' rb (rb + 1) 0 cv (.slice sa sn sc) (.slice none 0 0) (.slice la ln lc) fv ((List.range c).map (RM.cls rows)) (RM.firsts rows (c + 1)) [] [])
        case first =>
          rcases HS3.out.2 with ⟨rfl, hF, hfs⟩ | ⟨q, rfl, hq, hfs⟩
          · obtain ⟨i0, hi0, hz0, hz1, hz2⟩ := info_parts int1_info
            have hfl : (intsV (nI (RM.firsts rows c))).length = F := by rw [intsV_len, nI_len, ← HS.out.2]
            have hown := (HS3.out.1.firsts.ext (Ext.box w3 (.cells #[.int .i64 (c : Int)] 3))).row
            rw [hfl] at hown
            have hcell := cell_one_new w3 (.int .i64 (c : Int)) 3
            have h1c := one_int .i64 (c : Int)
            have hbase : w.heap.size ≤ (w3.alloc (.cells #[.int .i64 (c : Int)] 3)).heap.size := by have := HS3.out.1.ext.size; simp; omega
            have hmax : F + 1 ≤ maxLen := by unfold maxLen; omega
            have HF := Lib.hid (And.intro hF (And.intro hfs hfl))
            clear hF hfs hfl
            go_wp2_with (at_builtin; refine wpList_append_own_at _ rfl _ _ 23 rfl w.heap.size 3 i0 (.int .i64 0) 1 8 Tryd.underlying23 hi0 hz0 hz1 hz2 rfl (by decide) _ _ _ rfl hown ⟨w3.heap.size, 0, none⟩ 1 1 [.int .i64 (c : Int)] rfl rfl hcell h1c hmax (by omega) hbase ?_; intro v' W4 hown' hg _ hat)
            have h7 := HS3.out.1.first (f := c) (Ext.box _ _) (by rw [HF.out.2.2]; exact hown') hg hat
            rw [← HF.out.2.1] at h7
            have H7 := Lib.hid h7
            clear h7 hown' hg hat hown hcell h1c hbase
            (try go_wp2_with fail)
            go_meet
            exact ⟨_, by rw [← HF.out.1], H7.out⟩
          · have hj3 : ¬ (q : Int) < 0 := by omega
            have HF := Lib.hid (And.intro hq hfs)
            clear hq hfs
            go_wp2_with fail
            go_meet
            exact ⟨_, by rw [← HF.out.1], by rw [HF.out.2]; exact HS3.out.1⟩
        case rest =>
          clear HS3
          rename World => w4
          obtain ⟨own4, rfl, hS4⟩ := hcut
          obtain ⟨k, hk⟩ : ∃ k, k = RM.cls rows c := ⟨_, rfl⟩
          rw [← hk]
          have hcl : (intsV (nI ((List.range c).map (RM.cls rows)))).length = c := by rw [intsV_len, nI_len]; simp
          have b0 : w4.cell? ⟨rb, 0, none⟩ = some cv := hS4.box.row.cell (i := 0) (by omega)
          have hown := (hS4.classes.ext (Ext.box w4 (.cells #[.int .i64 (k : Int)] 3))).row
          rw [hcl] at hown
          have hcell := cell_one_new w4 (.int .i64 (k : Int)) 3
          have h1c := one_int .i64 (k : Int)
          obtain ⟨i0, hi0, hz0, hz1, hz2⟩ := info_parts int1_info
          have hbase : w.heap.size ≤ (w4.alloc (.cells #[.int .i64 (k : Int)] 3)).heap.size := by have := hS4.ext.size; simp; omega
          have hmax : c + 1 ≤ maxLen := by unfold maxLen; omega
          have HS4 := Lib.hid (And.intro hS4 (And.intro hk hcl))
          clear hS4 hk hcl
          go_wp2_with (at_builtin; refine wpList_append_own_at _ rfl _ _ 23 rfl w.heap.size 3 i0 (.int .i64 0) 1 8 Tryd.underlying23 hi0 hz0 hz1 hz2 rfl (by decide) _ _ _ rfl hown ⟨w4.heap.size, 0, none⟩ 1 1 [.int .i64 (k : Int)] rfl rfl hcell h1c hmax (by omega) hbase ?_; intro v' W hown' hg _ hat; obtain ⟨gg, cap', hv', _, _⟩ := own_slc hown' (by omega); subst hv'; have hp := (HS4.out.1.classes.push (Ext.box _ _) (by rw [HS4.out.2.2]; exact hown') hg hat).2; have hbx := (HS4.out.1.box.keep hp (by decide)).row; have b2 : W.cell? ⟨rb, 0, none⟩ = some cv := hbx.cell (i := 0) (by omega); have f2 := hbx.frozen 0; have hS5 := HS4.out.1.cls (c := k) (Ext.box _ _) (by rw [HS4.out.2.2]; exact hown') hg hat)
          have hrc : (List.range (c + 1)).map (RM.cls rows) = (List.range c).map (RM.cls rows) ++ [k] := by rw [List.range_succ, List.map_append, HS4.out.2.1]; rfl
          rw [← hrc] at hS5
          have HS5 := Lib.hid hS5
          clear hS5 hrc hp hbx b2 f2 hown' hg hat hown hcell h1c hbase b0
          go_roundw
          case rel => exact ⟨c + 1, _, _, by omega, by go_num, HS5.out⟩
          case measure => simp [intOf]; omega
    · obtain rfl : c = 256 := by omega
      have hKF : F = RM.ncls rows := by unfold RM.ncls; rw [LM.rowLen_eq, ← RM.firsts_len]; exact HS.out.2
      have hS1 := HS.out.1.count (F : Int)
      have c1 : wr.cell? ⟨rb, 1, none⟩ = some (.int .i64 0) := HS.out.1.box.row.cell (i := 1) (by omega)
      have f1 := HS.out.1.box.row.frozen 1
      have HK := Lib.hid (And.intro hKF hS1)
      clear hKF hS1 hlt hc
      rw [show ((256 : Nat) : Int) = 256 from rfl]
      go_wp2_with fail
      clear c1 f1
      generalize World.setCell wr _ _ = W1 at HK ⊢
      go_loopw [9] (fun iv wr => ∃ (i : Nat) (own : Nat → Nat) (xv : Value) (xs : List Value), i ≤ R ∧ iv = .int .i64 i ∧ RClS w wr own rb (rb + 1) (F : Int) cv (.slice sa sn sc) xv (.slice la ln lc) (.slice fa F fc) ((List.range 256).map (RM.cls rows)) (RM.firsts rows 256) xs ((rows.take i).map (RM.short rows))) (fun iv _ => R - (intOf iv).toNat)
      case atStart => exact ⟨0, _, _, [], Nat.zero_le _, rfl, HK.out.2⟩
      case round =>
        rename World => w3
        obtain ⟨i, own3, xv, xs, hi, rfl, hS⟩ := hrel
        by_cases hlt : i < R
        · have hj1 : (i : Int) < R := by omega
          obtain ⟨bb, oo, rfl, hcr⟩ := H.out.1 (by omega)
          obtain ⟨rr, hr0, hrv⟩ := hcr i hlt
          obtain ⟨r, hr⟩ : ∃ r, rows[i]? = some r := ⟨_, List.getElem?_eq_getElem (by rw [← H.out.2.2.1]; exact hlt)⟩
          have hrg : rows.getD i [] = r := getD_of hr
          rw [hrg] at hrv
          have hrl := H.out.2.1 _ (List.mem_of_getElem? hr)
          obtain ⟨_, ar, cr, rfl, _, hrc⟩ := hrv.open
          rw [hrl] at hr0 hrc
          obtain ⟨br, ro, rfl, hcc⟩ := hrc (by omega)
          have HI := Lib.hid (And.intro hr0 (And.intro hcc (And.intro hr hS)))
          clear hr0 hcc hr hrc hrv hcr hrg hrl hS
          go_wp2_with fail
          go_loopw [10, 11] (fun rv kv wr => ∃ (k : Nat) (own : Nat → Nat), k ≤ F ∧ kv = .int .i64 k ∧ RClS w wr own rb (rb + 1) (F : Int) cv (.slice sa sn sc) xv (.slice la ln lc) (.slice fa F fc) ((List.range 256).map (RM.cls rows)) (RM.firsts rows 256) xs ((rows.take i).map (RM.short rows)) ∧ Lst 7 wr own w.heap.size 3 rv (intsV ((RM.short rows r).take k))) (fun _ kv _ => F - (intOf kv).toNat)
          case atStart => exact ⟨0, own3, Nat.zero_le _, rfl, HI.out.2.2.2, .nil ..⟩
          case round =>
            rename World => w5
            obtain ⟨k, own5, hk, rfl, hS, hL⟩ := hrel
            have hsl : (RM.short rows r).length = F := by rw [RM.short_len]; exact HK.out.1.symm
            obtain ⟨ra, rcp, hrv⟩ := shpL hL
            rw [intsV_len, List.length_take, hsl, Nat.min_eq_left hk] at hrv
            subst hrv
            by_cases hkF : k < F
            · have hj2 : (k : Int) < F := by omega
              obtain ⟨f, hf⟩ : ∃ f, (RM.firsts rows 256)[k]? = some f := ⟨_, List.getElem?_eq_getElem (by rw [← HS.out.2]; exact hkF)⟩
              obtain ⟨hf6, _, _⟩ := RM.firsts_of hf
              obtain ⟨gf, cf, hfv, _, _, _⟩ := hS.firsts.slc (by rw [intsV_len, nI_len, ← HS.out.2]; omega)
              rw [intsV_len, nI_len, ← HS.out.2] at hfv
              simp only [Value.slice.injEq, true_and] at hfv
              obtain ⟨rfl, rfl⟩ := hfv
              have c1 := hS.firsts.cell (i := k) (x := .int .i64 (f : Int)) (by unfold intsV nI; rw [List.getElem?_map, List.getElem?_map, hf]; rfl)
              have c0 := hS.ext.cell HI.out.1
              have c2 := hS.ext.cell (HI.out.2.1 f hf6)
              obtain ⟨x, hx⟩ : ∃ x, x = r.getD f 0 := ⟨_, rfl⟩
              rw [← hx] at c2
              have hsx : (RM.short rows r).take (k + 1) = (RM.short rows r).take k ++ [x] := take_get (by
                unfold RM.short
                rw [List.getElem?_map, LM.rowLen_eq, hf, hx]; rfl)
              have hj3 : (f : Int) < 256 := by omega
              obtain ⟨i0, hi0, hz0, hz1, hz2⟩ := info_parts int1_info
              have htl : (intsV ((RM.short rows r).take k)).length = k := by rw [intsV_len, List.length_take, hsl, Nat.min_eq_left hk]
              have hown := hL.row
              rw [htl] at hown
              have hbase : w.heap.size ≤ w5.heap.size := hS.ext.size
              have hmax : k + 1 ≤ maxLen := by unfold maxLen; have := HS.out.2; have := RM.firsts_len rows 256; have := LM.cnt_le (RM.col rows) 256; omega
              have hkk : k ≤ 256 := by have := HS.out.2; have := RM.firsts_len rows 256; have := LM.cnt_le (RM.col rows) 256; omega
              have HQ := Lib.hid (And.intro hS (And.intro hL (And.intro hsx htl)))
              clear hS hL hsx htl hx hf
              go_upto_region 23 with fail
              apply key_elim15c (Good := fun g7 c7 W9 => ∃ own9, RClS w W9 own9 rb (rb + 1) (F : Int) cv (.slice sa sn sc) xv (.slice la ln lc) (.slice (some ⟨gf, 0, none⟩) F fc) ((List.range 256).map (RM.cls rows)) (RM.firsts rows 256) xs ((rows.take i).map (RM.short rows)) ∧ Lst 7 W9 own9 w.heap.size 3 (.slice (some ⟨g7, 0, none⟩) (k + 1) c7) (intsV ((RM.short rows r).take (k + 1))))
              case h =>
                intro key
                go_region_law ((refine step_append_lies _ (by rfl) _ _ _ (by rfl) w.heap.size 3 i0 _ 1 8 Tryd.underlying23 hi0 hz0 hz1 hz2 rfl (by omega) (.slice ra k rcp) k (intsV ((RM.short rows r).take k)) (by rfl) ((hown.alloc (.cells #[.int .i64 x] 3)).drew) ⟨w5.heap.size, 0, none⟩ 1 1 [.int .i64 x] (by rfl) (by rfl) (World.news_of_block (cs := #[.int .i64 x]) (t := 3) (fr := (0, 0)) (heap_alloc_new w5 _)) (by simp [Value.oneCell']) (by omega) hmax (by omega) (by simp; omega) (w5.heap.size + 1) (by simp) ?_; intro gg4 cap4 w4 hown4 hgrow hat hlt4))
                all_goals
                  obtain ⟨hl9, hk9⟩ := HQ.out.2.1.push (x := .int .i64 x) (v' := .slice (some ⟨gg4, 0, none⟩) (k + 1) cap4) ((Ext.box w5 (.cells #[.int .i64 x] 3)).drew) (by rw [HQ.out.2.2.2]; exact hown4) hgrow (by rcases hat with e | e; exact .inl e.symm; exact .inr (by simp [Value.ownBlock, e]))
                  have hx9 := HQ.out.2.1.push_ext HQ.out.1.ext (Nat.le_refl _) ((Ext.box w5 (.cells #[.int .i64 x] 3)).drew) hgrow
                  exact key gg4 cap4 _ ⟨_, HQ.out.1.keep hx9 hk9, by rw [HQ.out.2.2.1, show intsV ((RM.short rows r).take k ++ [x]) = intsV ((RM.short rows r).take k) ++ [.int .i64 x] by simp [intsV]]; exact hl9⟩
              case h2 =>
                intro g7 c7 W9 hgood
                obtain ⟨own9, hS9⟩ := hgood
                have HS9 := Lib.hid hS9
                clear hS9 c0 c1 c2 hown hbase hmax
                go_wp2
                go_roundw
                case rel => exact ⟨k + 1, own9, by omega, by go_num, HS9.out.1, HS9.out.2⟩
                case measure => simp [intOf]; omega
            · obtain rfl : F = k := by omega
              rw [List.take_of_length_le (by omega)] at hL
              have c3 : w5.cell? ⟨rb, 3, none⟩ = some xv := hS.box.row.cell (i := 3) (by omega)
              have hxl : xs.length = i := by rw [hS.shorts.len, List.length_map, List.length_take, ← H.out.2.2.1]; omega
              have hown := (hS.xhdr.ext (Ext.box w5 (.cells #[.slice ra F rcp] 23))).row
              rw [hxl] at hown
              obtain ⟨j0, hj0, hw0, hw1, hw2⟩ := info_parts row1_info
              have hcell := cell_one_new w5 (.slice ra F rcp) 23
              have h1c : ∀ u ∈ [Value.slice ra F rcp], u.oneCell' = true := by intro u hu; simp at hu; subst hu; rfl
              have hbase : w.heap.size ≤ (w5.alloc (.cells #[.slice ra F rcp] 23)).heap.size := by have := hS.ext.size; simp; omega
              have hmax : i + 1 ≤ maxLen := by unfold maxLen; omega
              have HQ := Lib.hid (And.intro hS (And.intro hL hxl))
              clear hS hL hxl
              go_wp2_with (at_builtin; refine wpList_append_own_at _ rfl _ _ 22 rfl w.heap.size 23 j0 (.slice none 0 0) 1 24 Tryd.underlying22 hj0 hw0 hw1 hw2 rfl (by decide) _ _ _ rfl hown ⟨w5.heap.size, 0, none⟩ 1 1 [.slice ra F rcp] rfl rfl hcell h1c hmax (by omega) hbase ?_; intro v' W hown' hg _ hat; obtain ⟨gg, cap', hv', _, _⟩ := own_slc hown' (by omega); subst hv'; have hp := (HQ.out.1.xhdr.push (Ext.box _ _) (by rw [HQ.out.2.2]; exact hown') hg hat).2; have hbx := (HQ.out.1.box.keep hp (by decide)).row; have b2 : W.cell? ⟨rb, 3, none⟩ = some xv := hbx.cell (i := 3) (by omega); have f2 := hbx.frozen 3; obtain ⟨own6, hS6⟩ := HQ.out.1.row HQ.out.2.1 (Ext.box _ _) (by rw [HQ.out.2.2]; exact hown') hg hat)
              have hrc : (rows.take (i + 1)).map (RM.short rows) = (rows.take i).map (RM.short rows) ++ [RM.short rows r] := by rw [take_get HI.out.2.2.1, List.map_append]; rfl
              rw [← hrc] at hS6
              have HS6 := Lib.hid hS6
              clear hS6 hrc hp hbx b2 f2 hown' hg hat hown hcell h1c hbase c3
              go_roundw
              case rel => exact ⟨i + 1, _, _, _, by omega, by go_num, HS6.out⟩
              case measure => simp [intOf]; omega
        · obtain rfl : R = i := by omega
          have hall : rows.take R = rows := by rw [H.out.2.2.1]; exact List.take_length
          rw [hall] at hS
          obtain ⟨ca, cc, hcv⟩ := shpL hS.classes
          rw [intsV_len, nI_len, List.length_map, List.length_range] at hcv
          subst hcv
          obtain ⟨xa, xc, hxv⟩ := shpL hS.xhdr
          obtain ⟨xn, hxn⟩ : ∃ n, n = xs.length := ⟨_, rfl⟩
          rw [← hxn] at hxv
          subst hxv
          have c0 : w3.cell? ⟨rb, 0, none⟩ = some (.slice ca 256 cc) := hS.box.row.cell (i := 0) (by omega)
          have c1 : w3.cell? ⟨rb, 1, none⟩ = some (.int .i64 (F : Int)) := hS.box.row.cell (i := 1) (by omega)
          have c2 : w3.cell? ⟨rb, 2, none⟩ = some (.slice sa sn sc) := hS.box.row.cell (i := 2) (by omega)
          have c3 : w3.cell? ⟨rb, 3, none⟩ = some (.slice xa xn xc) := hS.box.row.cell (i := 3) (by omega)
          have c4 : w3.cell? ⟨rb, 4, none⟩ = some (.slice la ln lc) := hS.box.row.cell (i := 4) (by omega)
          have d0 : w3.cell? ⟨rb + 1, 0, none⟩ = some (.slice none 0 0) := hS.res.row.cell (i := 0) (by omega)
          have d1 : w3.cell? ⟨rb + 1, 1, none⟩ = some (.int .i64 0) := hS.res.row.cell (i := 1) (by omega)
          have d2 : w3.cell? ⟨rb + 1, 2, none⟩ = some (.slice none 0 0) := hS.res.row.cell (i := 2) (by omega)
          have d3 : w3.cell? ⟨rb + 1, 3, none⟩ = some (.slice none 0 0) := hS.res.row.cell (i := 3) (by omega)
          have d4 : w3.cell? ⟨rb + 1, 4, none⟩ = some (.slice none 0 0) := hS.res.row.cell (i := 4) (by omega)
          have g0 := hS.res.row.frozen 0
          have g1 := hS.res.row.frozen 1
          have g2 := hS.res.row.frozen 2
          have g3 := hS.res.row.frozen 3
          have g4 := hS.res.row.frozen 4
          have HX := Lib.hid (And.intro hS hxn)
          clear hS hxn hall hlt hi
          go_wp2
          obtain ⟨q0, k0⟩ := HX.out.1.res.set 0 (.slice ca 256 cc)
          obtain ⟨q1, k1⟩ := q0.set 1 (.int .i64 (F : Int))
          obtain ⟨q2, k2⟩ := q1.set 2 (.slice sa sn sc)
          obtain ⟨q3, k3⟩ := q2.set 3 (.slice xa xn xc)
          obtain ⟨q4, k4⟩ := q3.set 4 (.slice la ln lc)
          have hkk := (((k0.trans k1).trans k2).trans k3).trans k4
          have hle : w.heap.size ≤ rb + 1 := HX.out.1.res.low
          have hXf : Ext w (((((w3.setCell ⟨rb + 1, 0, none⟩ (.slice ca 256 cc)).setCell ⟨rb + 1, 1, none⟩ (.int .i64 (F : Int))).setCell ⟨rb + 1, 2, none⟩ (.slice sa sn sc)).setCell ⟨rb + 1, 3, none⟩ (.slice xa xn xc)).setCell ⟨rb + 1, 4, none⟩ (.slice la ln lc)) := ((((HX.out.1.ext.setCell hle _).setCell hle _).setCell hle _).setCell hle _).setCell hle _
          have hr9 := rowIs_set5 HX.out.1.res.row (.slice ca 256 cc) (.int .i64 (F : Int)) (.slice sa sn sc) (.slice xa xn xc) (.slice la ln lc)
          have hI := HX.out.1.classes.keep hkk (by omega)
          have hN := HX.out.1.shorts.keep hkk (by omega)
          have hH := HX.out.1.xhdr.keep hkk (by omega)
          generalize World.setCell (World.setCell (World.setCell (World.setCell (World.setCell w3 _ _) _ _) _ _) _ _) _ _ = Wf at hr9 hI hN hH hXf ⊢
          have z0 : Wf.cell? ⟨rb + 1, 0, none⟩ = some (.slice ca 256 cc) := hr9.cell (i := 0) (by omega)
          have z1 : Wf.cell? ⟨rb + 1, 1, none⟩ = some (.int .i64 (F : Int)) := hr9.cell (i := 1) (by omega)
          have z2 : Wf.cell? ⟨rb + 1, 2, none⟩ = some (.slice sa sn sc) := hr9.cell (i := 2) (by omega)
          have z3 : Wf.cell? ⟨rb + 1, 3, none⟩ = some (.slice xa xn xc) := hr9.cell (i := 3) (by omega)
          have z4 : Wf.cell? ⟨rb + 1, 4, none⟩ = some (.slice la ln lc) := hr9.cell (i := 4) (by omega)
          (try simp only [Exit.inBlock, Exit.then])
          refine bodyPost_ret (v := .agg #[.slice ca 256 cc, .int .i64 (F : Int), .slice sa sn sc, .slice xa xn xc, .slice la ln lc]) ?_ rfl ?_
          · simp [results, Tryd.results63, go_sem, z0, z1, z2, z3, z4]
          · refine ⟨ca, cc, xa, xn, xc, by rw [HK.out.1], fun W hW => ⟨by rw [LM.rowLen_eq]; exact (hI.far hW).ints (by rw [nI_len]; simp), ?_⟩, hXf⟩
            refine (hN.far hW).read (hH.far hW) (by rw [List.length_map, ← H.out.2.2.1]; omega) (fun x hx => ?_)
            obtain ⟨r, _, rfl⟩ := List.mem_map.1 hx
            rw [RM.short_len, ← HK.out.1]
            have := HS.out.2; have := RM.firsts_len rows 256; have := LM.cnt_le (RM.col rows) 256; omega
end Go.Proofs.YtloooajippcdlaaDoor
