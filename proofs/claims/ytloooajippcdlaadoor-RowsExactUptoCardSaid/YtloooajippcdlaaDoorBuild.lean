/- rows.Build: all modes' automata as one table. -/
import Derived.Test.YtloooajippcdlaaDoorFullR
import Derived.Test.YtloooajippcdlaaDoorAlive
import Derived.Deep.AppendLies
import Derived.Deep.RegionLaw
import Derived.Laws.ResultCell
namespace Go.Proofs.YtloooajippcdlaaDoor
open Go.RowKit

/-- what is told lies in memory of the call's own -/
def BuiltX (l : List Dn) (w : World) (e : Ending) (w' : World) : Prop :=
  ∃ cv sv nv lv, e = .returned (.tuple #[tabV cv sv nv lv (built l).count, .nilIface]) ∧ TableV w' cv sv nv lv (built l) ∧ Ext w w' ∧ ∃ own B, w.heap.size ≤ B ∧ OwnT w' B own cv sv nv lv (built l)
def BuiltR (l : List Dn) (w : World) (e : Ending) (w' : World) : Prop :=
  ∃ cv sv nv lv, e = .returned (.tuple #[tabV cv sv nv lv (built l).count, .nilIface]) ∧ TableV w' cv sv nv lv (built l) ∧ Ext w w'

theorem allOf_succ {l : List Dn} {i : Nat} {d : Dn} (hd : l[i]? = some d) : allOf (l.take (i + 1)) = (allOf (l.take i)).add d.aut := by
  unfold allOf auts
  rw [take_get hd, List.map_append, List.map_cons, List.map_nil, RM.all_snoc]

theorem key_elim15 {G : Nat → Nat → World → Prop} {Good : Nat → Nat → World → Prop} {Q : Prop} (h : (∀ gg cap W, Good gg cap W → G gg cap W) → Q) (h2 : ∀ gg cap W, Good gg cap W → G gg cap W) : Q := h h2
/-- the numbers of the states, as far as they are told -/
noncomputable def numF (A : LM.Aut) (n s j : Nat) : Int := if j < s then RM.entry A n j else 0
theorem numF_dead {A : LM.Aut} {n s : Nat} (h : RM.liveB A s = false) (j : Nat) : (if j = s then (-1 : Int) else numF A n s j) = numF A n (s + 1) j := by
  unfold numF
  by_cases e : j = s
  · subst e; rw [if_pos rfl, if_pos (by omega)]; unfold RM.entry; rw [if_neg (by rw [h]; simp)]
  · rw [if_neg e]
    by_cases e2 : j < s
    · rw [if_pos e2, if_pos (by omega)]
    · rw [if_neg e2, if_neg (by omega)]
theorem numF_live {A : LM.Aut} {n s k : Nat} (h : RM.liveB A s = true) (hk : k = n + RM.kcnt A s) (j : Nat) : (if j = s then (k : Int) else if j = s then (-1 : Int) else numF A n s j) = numF A n (s + 1) j := by
  unfold numF
  by_cases e : j = s
  · subst e; rw [if_pos rfl, if_pos (by omega)]; unfold RM.entry; rw [if_pos h, hk]
  · rw [if_neg e, if_neg e]
    by_cases e2 : j < s
    · rw [if_pos e2, if_pos (by omega)]
    · rw [if_neg e2, if_neg (by omega)]
theorem numF_all {A : LM.Aut} {n s j : Nat} (h : j < s) : numF A n s j = RM.entry A n j := if_pos h
theorem keep_false {A : LM.Aut} {s : Nat} (h : RM.liveB A s = false) (h0 : s ≠ 0) : RM.keep A s = false := by simp [RM.keep, h, h0]
theorem keep_start {A : LM.Aut} {s : Nat} (h0 : s = 0) : RM.keep A s = true := by subst h0; exact RM.keep_zero A
theorem kcnt_yes {A : LM.Aut} {s : Nat} (h : RM.keep A s = true) : RM.kcnt A (s + 1) = RM.kcnt A s + 1 := by simp only [RM.kcnt, if_pos h]
theorem kcnt_no {A : LM.Aut} {s : Nat} (h : RM.keep A s = false) : RM.kcnt A (s + 1) = RM.kcnt A s := by simp only [RM.kcnt]; rw [if_neg (by rw [h]; simp)]; rfl
theorem kept_yes {A : LM.Aut} {s : Nat} (h : RM.keep A s = true) : RM.kept A (s + 1) = RM.kept A s ++ [s] := by simp only [RM.kept, if_pos h]
theorem kept_no {A : LM.Aut} {s : Nat} (h : RM.keep A s = false) : RM.kept A (s + 1) = RM.kept A s := by simp only [RM.kept]; rw [if_neg (by rw [h]; simp), List.append_nil]
theorem kept_lb_yes {A : LM.Aut} {s : Nat} {L : List Int} (h : RM.keep A s = true) : L ++ (RM.kept A (s + 1)).map A.lb = L ++ (RM.kept A s).map A.lb ++ [A.lb s] := by
  rw [kept_yes h, List.map_append, List.map_cons, List.map_nil, List.append_assoc]

/-- a row, as far as it is filled -/
noncomputable def rowF (A : LM.Aut) (n s c j : Nat) : Int := if j < c then RM.entry A n (A.nx s j) else 0
theorem rowF_step (A : LM.Aut) (n s c j : Nat) : (if j = c then Value.int .i64 (RM.entry A n (A.nx s c)) else .int .i64 (rowF A n s c j)) = .int .i64 (rowF A n s (c + 1) j) := by
  unfold rowF
  by_cases e : j = c
  · subst e; rw [if_pos rfl, if_pos (by omega)]
  · rw [if_neg e]
    by_cases e2 : j < c
    · rw [if_pos e2, if_pos (by omega)]
    · rw [if_neg e2, if_neg (by omega)]
theorem rows1_info : (Tryd.prog.info? 23).map (fun i => (i.zero, i.size, i.bytes)) = some (some (.slice none 0 0), 1, 24) := by kernel_rfl
theorem one_slice (a : Option Addr) (n c : Nat) : ∀ u ∈ [Value.slice a n c], u.oneCell' = true := by intro u hu; simp at hu; subst hu; rfl

set_option maxRecDepth 100000 in
set_option maxHeartbeats 8000000 in
theorem buildX_c {w : World} {v : Value} {l : List Dn} (h : DensesV w v l) (hm : MayL l) : Calls Tryd.prog 28 #[v] w (BuiltX l w) := by
  have hmay := rowsMay_c (h.ext (Ext.box w (.cells #[.slice none 0 0, .int .i64 0, .slice none 0 0, .slice none 0 0, .slice none 0 0] 67)))
  rw [mayLB_true.2 hm] at hmay
  obtain ⟨hlen, a, cap, rfl, _, hop⟩ := h.open
  obtain ⟨L, hL⟩ : ∃ L, L = l.length := ⟨_, rfl⟩
  rw [← hL] at hlen hop hmay ⊢
  have hL16 : L ≤ 16 := by rw [hL]; exact hm.most
  have H := Lib.hid (And.intro hop (And.intro hL hm))
  have HM := Lib.hid hmay
  clear hop hL h hm hmay
  go_enter Tryd.func28, Tryd.ntmps28
  go_wp2_with fail
  refine HM.out.mono ?_
  rintro e w0 ⟨rfl, hx0⟩
  have HX0 := Lib.hid hx0
  clear hx0
  go_wp2_with fail
  obtain ⟨rb, hrb⟩ : ∃ rb, rb = w0.heap.size := ⟨_, rfl⟩
  rw [← hrb]
  have HRB := Lib.hid hrb
  have hs0 : BldS w0 (w0.alloc (.cells #[.slice none 0 0, .int .i64 0, .slice none 0 0, .slice none 0 0, .slice none 0 0] 67)) (newTag w0 (fun _ => 0) 0) rb (.slice none 0 0) (.slice none 0 0) (.slice none 0 0) [] [] [] [] :=
    ⟨Ext.box _ _, by rw [hrb]; exact Blk.made w0 (fun _ => 0) 0 (Nat.le_refl _) _ _ rfl _ (fun i hi => by rcases rF_at hi with rfl | rfl | rfl | rfl | rfl <;> rfl), .nil .., .nil .., .nil .., .nil ..⟩
  have HS0 := Lib.hid hs0
  clear hs0 hrb
  go_loopw [5, 30] (fun nv iv wr => ∃ (i : Nat) (own : Nat → Nat) (sv lv : Value) (hs : List Value), i ≤ L ∧ iv = .int .i64 i ∧ BldS w0 wr own rb sv lv nv hs (allOf (l.take i)).starts (allOf (l.take i)).labels (allOf (l.take i)).rows) (fun _ iv _ => L - (intOf iv).toNat)
  case atStart => exact ⟨0, _, _, _, _, Nat.zero_le _, rfl, HS0.out⟩
  case round =>
    clear HS0
    obtain ⟨i, own, sv, lv, hs, hi, rfl, hS⟩ := hrel
    by_cases hlt : i < L
    · obtain ⟨b, o, rfl, hcell⟩ := H.out.1 (by omega)
      obtain ⟨d, hd⟩ : ∃ d, l[i]? = some d := ⟨_, List.getElem?_eq_getElem (by rw [← H.out.2.1]; exact hlt)⟩
      have hmd := H.out.2.2.each d (List.mem_of_getElem? hd)
      obtain ⟨an, cn, al, cl, c0, c1, hdv⟩ := hcell i d hd
      have hxw : Ext w wr := (Ext.box w _).trans (HX0.out.trans hS.ext)
      have hbase := baseOf_at hd
      have hbl := Nat.le_trans (baseOf_le l) H.out.2.2.sum
      rw [hmd.labels] at c1 hdv
      obtain ⟨N, hN⟩ : ∃ N, N = d.next.length := ⟨_, rfl⟩
      rw [← hN] at c0 c1 hdv
      obtain ⟨bn, on, _, bl, ol, _, hvv, hcs⟩ := hdv.cells hmd
      simp only [Value.agg.injEq, Array.mk.injEq, List.cons.injEq, Value.slice.injEq, and_true] at hvv
      obtain ⟨⟨rfl, hv1, rfl⟩, ⟨rfl, hv2, rfl⟩⟩ := hvv
      clear hv1 hv2
      have c0 := hxw.cell c0
      have c1 := hxw.cell c1
      have hN6 : N ≤ 600 := by rw [hN]; exact hmd.most
      have hkN : RM.kcnt d.aut d.aut.n ≤ N := by rw [hN]; exact RM.kcnt_le _ _
      obtain ⟨t, ht⟩ : ∃ t, t = allOf (l.take i) := ⟨_, rfl⟩
      rw [← ht] at hS
      obtain ⟨n, hn⟩ : ∃ n, n = t.labels.length := ⟨_, rfl⟩
      have hnb : baseOf (l.take i) = n := by rw [hn, ht]; rfl
      have hn6 : n + RM.kcnt d.aut d.aut.n ≤ 600 := by omega
      have hst : t.starts.length = i := by
        rw [ht]
        have := (RM.all_lens (auts (l.take i))).2
        rw [show (allOf (l.take i)).starts.length = (auts (l.take i)).length from this, auts_len, List.length_take, ← H.out.2.1]; omega
      obtain ⟨av, cv, rfl, _⟩ := own_read hS.labels.row
      rw [show (intsV t.labels).length = n by rw [hn]; simp [intsV]] at hS
      have hj1 : (i : Int) < L := by omega
      have hal := alive_c (hdv.ext (hxw.trans (Ext.box wr (.cells #[.slice (some ⟨bn, on, none⟩) N cn, .slice (some ⟨bl, ol, none⟩) N cl] 25)))) hmd
      unfold AliveR at hal
      rw [← hN] at hal
      have hmk := run_make_any (P := Tryd.prog) 23 3 (.int .i64 0) 1 8 Tryd.underlying23 int_info .i64 .i64 N (by omega) (by omega)
      have HD := Lib.hid (And.intro hd (And.intro hmd (And.intro hcs (And.intro hN (And.intro ht (And.intro hn hst))))))
      have HS := Lib.hid (And.intro hS (And.intro hxw hal))
      clear hd hmd hdv hN ht hn hst hcs hS hxw hal hbase hbl hcell hnb
      go_wp2_with fail
      refine HS.out.2.2.mono ?_
      rintro e w3 ⟨g, rfl, hg, hlv, hx3⟩
      have hx3' := (Ext.box wr _).trans hx3
      have e0 := hx3.cell (p := ⟨wr.heap.size, 0, none⟩) (v := .slice (some ⟨bn, on, none⟩) N cn) (by simp)
      have hM0 := ModS.begin HS.out.1 hx3 hg hlv
      have hB3 := HS.out.1.more hx3'
      have e4 : (w3.alloc (.cells (madeCells #[.int .i64 0] N) 3)).cell? ⟨rb, 4, none⟩ = some (.slice av n cv) := hM0.bld.box.row.cell (i := 4) (by omega)
      have e2 : (w3.alloc (.cells (madeCells #[.int .i64 0] N) 3)).cell? ⟨rb, 2, none⟩ = some sv := hM0.bld.box.row.cell (i := 2) (by omega)
      have hslen : (intsV (nI t.starts)).length = i := by rw [show (intsV (nI t.starts)).length = t.starts.length by simp [intsV, nI]]; exact HD.out.2.2.2.2.2.2
      have hown := (hM0.bld.starts.ext (Ext.box (w3.alloc (.cells (madeCells #[.int .i64 0] N) 3)) (.cells #[.int .i64 (n : Int)] 3))).row
      rw [hslen] at hown
      have hcell := cell_one_new (w3.alloc (.cells (madeCells #[.int .i64 0] N) 3)) (.int .i64 (n : Int)) 3
      rw [World.size_alloc] at hcell
      have h1c := one_int .i64 (n : Int)
      obtain ⟨i0, hi0, hz0, hz1, hz2⟩ := info_parts int_info
      have hbase : w0.heap.size ≤ ((w3.alloc (.cells (madeCells #[.int .i64 0] N) 3)).alloc (.cells #[.int .i64 (n : Int)] 3)).heap.size := by have := hB3.ext.size; simp; omega
      have hmax : i + 1 ≤ maxLen := by unfold maxLen; omega
      have HM0 := Lib.hid (And.intro hM0 hslen)
      clear hM0 hB3 hlv hx3 hx3' hslen
      go_wp2_with (at_builtin; refine wpList_append_own_at _ rfl _ _ 23 rfl w0.heap.size 3 i0 (.int .i64 0) 1 8 Tryd.underlying23 hi0 hz0 hz1 hz2 rfl (by decide) _ _ _ rfl hown ⟨w3.heap.size + 1, 0, none⟩ 1 1 [.int .i64 (n : Int)] rfl rfl hcell h1c hmax (by omega) hbase ?_; intro v' W hown' hg _ hat; obtain ⟨gg, cap', hv', _, _⟩ := own_slc hown' (by omega); subst hv'; have hp := (HM0.out.1.bld.starts.push (Ext.box _ _) (by rw [HM0.out.2]; exact hown') hg hat).2; have hbx := (HM0.out.1.bld.box.keep hp (by decide)).row; have b2 : W.cell? ⟨rb, 2, none⟩ = some sv := hbx.cell (i := 2) (by omega); have f2 := hbx.frozen 2; have hS1 := HM0.out.1.start (n := n) (Ext.box _ _) (by rw [HD.out.2.2.2.2.2.2]; exact hown') hg hat; have d0 : (W.setCell ⟨rb, 2, none⟩ (.slice (some ⟨gg, 0, none⟩) (i + 1) cap')).cell? ⟨wr.heap.size, 0, none⟩ = some (.slice (some ⟨bn, on, none⟩) N cn) := hS1.box.row.cell (i := 0) (by omega))
      clear hmk
      obtain ⟨ab, hab⟩ : ∃ ab, ab = w3.heap.size := ⟨_, rfl⟩
      obtain ⟨db, hdb⟩ : ∃ db, db = wr.heap.size := ⟨_, rfl⟩
      rw [← hdb, ← hab]
      rw [← hdb, ← hab] at hS1
      generalize World.setCell W _ _ = W1 at hS1 ⊢
      have hx1 : Ext w W1 := (Ext.box w _).trans (HX0.out.trans hS1.bld.ext)
      obtain ⟨own1, hown1⟩ : ∃ own1, ModS w0 W1 own1 rb (.slice (some ⟨gg, 0, none⟩) (i + 1) cap') (.slice av n cv) u5 hs (t.starts ++ [n]) (t.labels ++ (RM.kept d.aut 0).map d.aut.lb) t.rows N ab g db (numF d.aut n 0) (RM.liveB d.aut) (fun j => if j = 0 then .slice (some ⟨bn, on, none⟩) N cn else .slice (some ⟨bl, ol, none⟩) N cl) :=
        ⟨_, by
          rw [show RM.kept d.aut 0 = [] from rfl, List.map_nil, List.append_nil]
          exact hS1.congr fun j _ => (if_neg (Nat.not_lt_zero _)).symm⟩
      have HS1 := Lib.hid hown1
      clear hS1 hown1 b2 f2 hp hbx d0 hown' hg hat hown hcell h1c hbase e0 e2 e4 hmax hx1 hab hdb
      go_loopw [10, 52] (fun nv2 sv2 wr2 => ∃ (s : Nat) (own' : Nat → Nat) (lv : Value), s ≤ N ∧ sv2 = .int .i64 s ∧ nv2 = .int .i64 ((n + RM.kcnt d.aut s : Nat) : Int) ∧
        ModS w0 wr2 own' rb (.slice (some ⟨gg, 0, none⟩) (i + 1) cap') lv u5 hs (t.starts ++ [n]) (t.labels ++ (RM.kept d.aut s).map d.aut.lb) t.rows N ab g db (numF d.aut n s) (RM.liveB d.aut) (fun j => if j = 0 then .slice (some ⟨bn, on, none⟩) N cn else .slice (some ⟨bl, ol, none⟩) N cl)) (fun _ sv2 _ => N - (intOf sv2).toNat)
      case atStart => exact ⟨0, own1, _, Nat.zero_le _, rfl, congrArg (fun k : Nat => Value.int .i64 (k : Int)) (Nat.add_zero n).symm, HS1.out⟩
      case round =>
        clear HS1
        rename World => wr2
        obtain ⟨s, own2, lv2, hsN, rfl, rfl, hS2⟩ := hrel
        by_cases hlt2 : s < N
        · have hj2 : (s : Int) < N := by omega
          have hkm := RM.kcnt_mono d.aut (a := s) (b := d.aut.n) (by show s ≤ d.next.length; rw [← HD.out.2.2.2.1]; omega)
          obtain ⟨k, hk⟩ : ∃ k, k = n + RM.kcnt d.aut s := ⟨_, rfl⟩
          have hk6 : k ≤ 600 := by omega
          rw [← hk]
          obtain ⟨y, hy⟩ : ∃ y, y = RM.liveB d.aut s := ⟨_, rfl⟩
          have m0 := hS2.num.row.cell hlt2
          obtain ⟨x0, hx0⟩ : ∃ x, x = numF d.aut n s s := ⟨_, rfl⟩
          rw [← hx0] at m0
          have f0 := hS2.num.row.frozen s
          have hSA := hS2.set s (-1)
          have m1 := hSA.liv.row.cell hlt2
          rw [← hy] at m1
          have HQ := Lib.hid (And.intro hS2 (And.intro hy (And.intro hk hx0)))
          clear hS2 hy hk hx0 hkm
          go_upto_region 16 with fail
          clear m0 f0
          generalize World.setCell wr2 _ _ = WA at hSA m1 ⊢
          have m2 := hSA.num.row.cell hlt2
          have f2 := hSA.num.row.frozen s
          rw [if_pos rfl] at m2
          cases y
          · by_cases hs0 : s = 0
            · have hz : ((s : Int) == 0) = true := by simp; omega
              have HK := Lib.hid (keep_start (A := d.aut) hs0)
              have hSB := hSA.congr fun j _ => numF_dead HQ.out.2.1.symm j
              clear hs0 m2 f2 hSA
              obtain ⟨WB, rfl⟩ : ∃ W : World, W = WA := ⟨_, rfl⟩
              have hl0 : (t.labels ++ (RM.kept d.aut s).map d.aut.lb).length = k := by rw [List.length_append, List.length_map, RM.kept_len, ← HD.out.2.2.2.2.2.1, HQ.out.2.2.1]
              have hl1 : (intsV (t.labels ++ (RM.kept d.aut s).map d.aut.lb)).length = k := by simp only [intsV, List.length_map]; exact hl0
              have c4 : WB.cell? ⟨rb, 4, none⟩ = some lv2 := hSB.bld.box.row.cell (i := 4) (by omega)
              have f4 : WB.frozen? ⟨rb, 4, none⟩ = false := hSB.bld.box.row.frozen 4
              have d1 : WB.cell? ⟨db, 1, none⟩ = some (.slice (some ⟨bl, ol, none⟩) N cl) := hSB.box.row.cell (i := 1) (by omega)
              obtain ⟨x, hx⟩ : ∃ x, x = d.lb s := ⟨_, rfl⟩
              have hxw : Ext w WB := (Ext.box w _).trans (HX0.out.trans hSB.bld.ext)
              have l1 : WB.cell? ⟨bl, ol + s, none⟩ = some (.int .i64 x) := by rw [hx]; exact hxw.cell (HD.out.2.2.1.label s (by rw [← HD.out.2.2.2.1]; exact hlt2))
              have hown := hSB.bld.labels.row
              rw [hl1] at hown
              have hnr : lv2.ownBlock ≠ some rb := fun e => by
                have h1 := hSB.bld.labels.tag rb e
                rw [hSB.bld.box.tag] at h1; cases h1
              obtain ⟨i0, hi0, hz0, hz1, hz2⟩ := info_parts int_info
              have hbase : w0.heap.size ≤ WB.heap.size := hSB.bld.ext.size
              have hmax : k + 1 ≤ maxLen := by unfold maxLen; omega
              have hb1 := lt_of_cell c4
              have hb2 := lt_of_cell d1
              have hb3 := lt_of_cell l1
              have HB := Lib.hid (And.intro hSB (And.intro hx hl1))
              clear hSB hx hl0 hl1 hxw
              go_upto_region 19 with fail
              apply key_elim15 (Good := fun g7 c7 W9 => ∃ own9, ModS w0 W9 own9 rb (.slice (some ⟨gg, 0, none⟩) (i + 1) cap') (.slice (some ⟨g7, 0, none⟩) (k + 1) c7) u5 hs (t.starts ++ [n]) (t.labels ++ (RM.kept d.aut (s + 1)).map d.aut.lb) t.rows N ab g db (numF d.aut n (s + 1)) (RM.liveB d.aut) (fun j => if j = 0 then .slice (some ⟨bn, on, none⟩) N cn else .slice (some ⟨bl, ol, none⟩) N cl))
              case h =>
                intro key
                go_region_law ((refine step_append_lies _ (by rfl) _ _ _ (by rfl) w0.heap.size 3 i0 _ 1 8 Tryd.underlying23 hi0 hz0 hz1 hz2 rfl (by omega) lv2 k (intsV (t.labels ++ (RM.kept d.aut s).map d.aut.lb)) (by rfl) ((hown.alloc (.cells #[.int .i64 x] 3)).drew) ⟨WB.heap.size, 0, none⟩ 1 1 [.int .i64 x] (by rfl) (by rfl) (World.news_of_block (cs := #[.int .i64 x]) (t := 3) (fr := (0, 0)) (heap_alloc_new WB _)) (by simp [Value.oneCell']) (by omega) hmax (by omega) (by simp; omega) (WB.heap.size + 1) (by simp) ?_; intro gg4 cap4 w4 hown4 hgrow hat hlt4; have hk4 := hgrow.block rb (by simp; omega) (Ne.symm hnr); have c44 : w4.cell? ⟨rb, 4, none⟩ = some lv2 := (World.cell?_of_block (a := ⟨rb, 4, none⟩) hk4).trans (((Ext.box WB (.cells #[.int .i64 x] 3)).drew).cell c4); have f44 : w4.frozen? ⟨rb, 4, none⟩ = false := (World.frozen?_of_block (a := ⟨rb, 4, none⟩) hk4).trans ((Below.frozen ((Ext.box WB (.cells #[.int .i64 x] 3)).drew) (p := ⟨rb, 4, none⟩) hb1).trans f4)))
                all_goals
                  have hS9 := HB.out.1.label (x := x) (v' := .slice (some ⟨gg4, 0, none⟩) (k + 1) cap4) ((Ext.box WB (.cells #[.int .i64 x] 3)).drew) (by rw [show (t.labels ++ (RM.kept d.aut s).map d.aut.lb).length = k by have := HB.out.2.2; simpa [intsV] using this]; exact hown4) hgrow (by rcases hat with e | e; exact .inl e.symm; exact .inr (by simp [Value.ownBlock, e]))
                  generalize World.setCell _ _ _ = W9 at hS9 ⊢
                  exact key gg4 cap4 W9 ⟨_, by rw [kept_lb_yes HK.out]; rw [HB.out.2.1] at hS9; exact hS9⟩
              case h2 =>
                intro g7 c7 W9 hgood
                obtain ⟨own9, hS9⟩ := hgood
                have HS9 := Lib.hid hS9
                clear hS9 c4 f4 d1 l1 hown hnr hbase hmax hb1 hb2 hb3
                go_wp2
                go_roundw
                case rel => exact ⟨s + 1, own9, .slice (some ⟨g7, 0, none⟩) (k + 1) c7, by omega, by go_num, by rw [kcnt_yes HK.out, ← Nat.add_assoc, ← HQ.out.2.2.1]; go_num, HS9.out⟩
                case measure => simp [intOf]; omega
            · have hz : ((s : Int) == 0) = false := by simp; omega
              have HK := Lib.hid (keep_false (A := d.aut) HQ.out.2.1.symm hs0)
              have HSB := Lib.hid (hSA.congr fun j _ => numF_dead HQ.out.2.1.symm j)
              clear hs0 m2 f2 hSA
              go_wp2
              go_roundw
              case rel => exact ⟨s + 1, own2, lv2, by omega, by go_num, by rw [kcnt_no HK.out, ← HQ.out.2.2.1], by rw [kept_no HK.out]; exact HSB.out⟩
              case measure => simp [intOf]; omega
          · have HK := Lib.hid (RM.keep_live HQ.out.2.1.symm)
            have hSB := (hSA.set s (k : Int)).congr fun j _ => numF_live HQ.out.2.1.symm HQ.out.2.2.1 j
            have HSA := Lib.hid hSA
            clear hSA
            go_upto_region 19 with fail
            clear m1 m2 f2
            generalize World.setCell WA _ _ = WB at hSB ⊢
            have hl0 : (t.labels ++ (RM.kept d.aut s).map d.aut.lb).length = k := by rw [List.length_append, List.length_map, RM.kept_len, ← HD.out.2.2.2.2.2.1, HQ.out.2.2.1]
            have hl1 : (intsV (t.labels ++ (RM.kept d.aut s).map d.aut.lb)).length = k := by simp only [intsV, List.length_map]; exact hl0
            have c4 : WB.cell? ⟨rb, 4, none⟩ = some lv2 := hSB.bld.box.row.cell (i := 4) (by omega)
            have f4 : WB.frozen? ⟨rb, 4, none⟩ = false := hSB.bld.box.row.frozen 4
            have d1 : WB.cell? ⟨db, 1, none⟩ = some (.slice (some ⟨bl, ol, none⟩) N cl) := hSB.box.row.cell (i := 1) (by omega)
            obtain ⟨x, hx⟩ : ∃ x, x = d.lb s := ⟨_, rfl⟩
            have hxw : Ext w WB := (Ext.box w _).trans (HX0.out.trans hSB.bld.ext)
            have l1 : WB.cell? ⟨bl, ol + s, none⟩ = some (.int .i64 x) := by rw [hx]; exact hxw.cell (HD.out.2.2.1.label s (by rw [← HD.out.2.2.2.1]; exact hlt2))
            have hown := hSB.bld.labels.row
            rw [hl1] at hown
            have hnr : lv2.ownBlock ≠ some rb := fun e => by
              have h1 := hSB.bld.labels.tag rb e
              rw [hSB.bld.box.tag] at h1; cases h1
            obtain ⟨i0, hi0, hz0, hz1, hz2⟩ := info_parts int_info
            have hbase : w0.heap.size ≤ WB.heap.size := hSB.bld.ext.size
            have hmax : k + 1 ≤ maxLen := by unfold maxLen; omega
            have hb1 := lt_of_cell c4
            have hb2 := lt_of_cell d1
            have hb3 := lt_of_cell l1
            have HB := Lib.hid (And.intro hSB (And.intro hx hl1))
            clear hSB hx hl0 hl1 hxw
            apply key_elim15 (Good := fun g7 c7 W9 => ∃ own9, ModS w0 W9 own9 rb (.slice (some ⟨gg, 0, none⟩) (i + 1) cap') (.slice (some ⟨g7, 0, none⟩) (k + 1) c7) u5 hs (t.starts ++ [n]) (t.labels ++ (RM.kept d.aut (s + 1)).map d.aut.lb) t.rows N ab g db (numF d.aut n (s + 1)) (RM.liveB d.aut) (fun j => if j = 0 then .slice (some ⟨bn, on, none⟩) N cn else .slice (some ⟨bl, ol, none⟩) N cl))
            case h =>
              intro key
              go_region_law ((refine step_append_lies _ (by rfl) _ _ _ (by rfl) w0.heap.size 3 i0 _ 1 8 Tryd.underlying23 hi0 hz0 hz1 hz2 rfl (by omega) lv2 k (intsV (t.labels ++ (RM.kept d.aut s).map d.aut.lb)) (by rfl) ((hown.alloc (.cells #[.int .i64 x] 3)).drew) ⟨WB.heap.size, 0, none⟩ 1 1 [.int .i64 x] (by rfl) (by rfl) (World.news_of_block (cs := #[.int .i64 x]) (t := 3) (fr := (0, 0)) (heap_alloc_new WB _)) (by simp [Value.oneCell']) (by omega) hmax (by omega) (by simp; omega) (WB.heap.size + 1) (by simp) ?_; intro gg4 cap4 w4 hown4 hgrow hat hlt4; have hk4 := hgrow.block rb (by simp; omega) (Ne.symm hnr); have c44 : w4.cell? ⟨rb, 4, none⟩ = some lv2 := (World.cell?_of_block (a := ⟨rb, 4, none⟩) hk4).trans (((Ext.box WB (.cells #[.int .i64 x] 3)).drew).cell c4); have f44 : w4.frozen? ⟨rb, 4, none⟩ = false := (World.frozen?_of_block (a := ⟨rb, 4, none⟩) hk4).trans ((Below.frozen ((Ext.box WB (.cells #[.int .i64 x] 3)).drew) (p := ⟨rb, 4, none⟩) hb1).trans f4)))
              all_goals
                have hS9 := HB.out.1.label (x := x) (v' := .slice (some ⟨gg4, 0, none⟩) (k + 1) cap4) ((Ext.box WB (.cells #[.int .i64 x] 3)).drew) (by rw [show (t.labels ++ (RM.kept d.aut s).map d.aut.lb).length = k by have := HB.out.2.2; simpa [intsV] using this]; exact hown4) hgrow (by rcases hat with e | e; exact .inl e.symm; exact .inr (by simp [Value.ownBlock, e]))
                generalize World.setCell _ _ _ = W9 at hS9 ⊢
                exact key gg4 cap4 W9 ⟨_, by rw [kept_lb_yes HK.out]; rw [HB.out.2.1] at hS9; exact hS9⟩
            case h2 =>
              intro g7 c7 W9 hgood
              obtain ⟨own9, hS9⟩ := hgood
              have HS9 := Lib.hid hS9
              clear hS9 c4 f4 d1 l1 hown hnr hbase hmax hb1 hb2 hb3
              go_wp2
              go_roundw
              case rel => exact ⟨s + 1, own9, .slice (some ⟨g7, 0, none⟩) (k + 1) c7, by omega, by go_num, by rw [kcnt_yes HK.out, ← Nat.add_assoc, ← HQ.out.2.2.1]; go_num, HS9.out⟩
              case measure => simp [intOf]; omega
        · obtain rfl : N = s := by omega
          have d0 : wr2.cell? ⟨db, 0, none⟩ = some (.slice (some ⟨bn, on, none⟩) N cn) := hS2.box.row.cell (i := 0) (by omega)
          have HS2 := Lib.hid hS2
          clear hS2 hlt2 hsN
          go_wp2
          clear d0
          go_loopw [5, 90] (fun nv3 sv3 wr3 => ∃ (s : Nat) (own3 : Nat → Nat) (hs3 : List Value), s ≤ N ∧ sv3 = .int .i64 s ∧ ModS w0 wr3 own3 rb (.slice (some ⟨gg, 0, none⟩) (i + 1) cap') lv2 nv3 hs3 (t.starts ++ [n]) (t.labels ++ (RM.kept d.aut N).map d.aut.lb) (t.rows ++ (RM.kept d.aut s).map (RM.rowOf d.aut n)) N ab g db (numF d.aut n N) (RM.liveB d.aut) (fun j => if j = 0 then .slice (some ⟨bn, on, none⟩) N cn else .slice (some ⟨bl, ol, none⟩) N cl)) (fun _ sv3 _ => N - (intOf sv3).toNat)
          case atStart => exact ⟨0, own2, hs, Nat.zero_le _, rfl, by rw [show RM.kept d.aut 0 = [] from rfl, List.map_nil, List.append_nil]; exact HS2.out⟩
          case round =>
            clear HS2
            rename World => wr3
            obtain ⟨s, own3, hs3, hsN3, rfl, hS3⟩ := hrel
            by_cases hlt3 : s < N
            · have hj3 : (s : Int) < N := by omega
              have hxw3 : Ext w wr3 := (Ext.box w _).trans (HX0.out.trans hS3.bld.ext)
              obtain ⟨br, ro, cr, r0, r1⟩ := HD.out.2.2.1.row s (by rw [← HD.out.2.2.2.1]; exact hlt3)
              have q0 := hxw3.cell r0
              obtain ⟨y, hy⟩ : ∃ y, y = RM.liveB d.aut s := ⟨_, rfl⟩
              have m1 := hS3.liv.row.cell hlt3
              rw [← hy] at m1
              have HQ := Lib.hid (And.intro hS3 (And.intro hy r1))
              clear hS3 hy r1 r0 hxw3
              cases y
              · by_cases hs0 : s = 0
                · have hz : ¬ (0 : Int) < s := by omega
                  have hz' : decide ((0 : Int) < s) = false := by simpa using hz
                  have HK := Lib.hid (keep_start (A := d.aut) hs0)
                  clear hs0
                  have hb7 := Blk.made wr3 own3 7 HQ.out.1.bld.ext.size (madeCells #[.int .i64 0] 256) 3 (size_madeCells _ _) (fun j => .int .i64 (rowF d.aut n s 0 j)) (fun j hj => by unfold rowF; rw [if_neg (Nat.not_lt_zero _)]; exact made_one _ hj)
                  have hS5 := HQ.out.1.new (Ext.box wr3 (.cells (madeCells #[.int .i64 0] 256) 3)) 7
                  have hmk : ∀ w : World, (Instr.makeSlice 23 (.int .i64 256) (.int .i64 256)).run Tryd.prog w = .ok (.slice (some ⟨w.heap.size, 0, none⟩) 256 256) (w.alloc (.cells (madeCells #[.int .i64 0] 256) 3)) := fun w => run_make_any (P := Tryd.prog) 23 3 (.int .i64 0) 1 8 Tryd.underlying23 int_info .i64 .i64 256 (by omega) (by omega) w
                  have HS5 := Lib.hid (And.intro hS5 hb7)
                  clear hS5 hb7
                  go_wp2_with fail
                  clear hmk m1 q0
                  have hS5 := HS5.out
                  obtain ⟨tb, htb⟩ : ∃ tb, tb = wr3.heap.size := ⟨_, rfl⟩
                  rw [← htb] at hS5 ⊢
                  generalize World.alloc wr3 _ = W5 at hS5 ⊢
                  obtain ⟨own5, hS5⟩ : ∃ own5, ModS w0 W5 own5 rb (.slice (some ⟨gg, 0, none⟩) (i + 1) cap') lv2 u5 hs3 (t.starts ++ [n]) (t.labels ++ (RM.kept d.aut N).map d.aut.lb) (t.rows ++ (RM.kept d.aut s).map (RM.rowOf d.aut n)) N ab g db (numF d.aut n N) (RM.liveB d.aut) (fun j => if j = 0 then .slice (some ⟨bn, on, none⟩) N cn else .slice (some ⟨bl, ol, none⟩) N cl) ∧ Blk 7 W5 own5 w0.heap.size tb 3 256 (fun j => .int .i64 (rowF d.aut n s 0 j)) := ⟨_, hS5⟩
                  have HT := Lib.hid hS5
                  clear hS5 htb HS5
                  go_loopw [107] (fun bv wr4 => ∃ (c : Nat) (own6 : Nat → Nat), c ≤ 256 ∧ bv = .int .i64 c ∧ ModS w0 wr4 own6 rb (.slice (some ⟨gg, 0, none⟩) (i + 1) cap') lv2 u5 hs3 (t.starts ++ [n]) (t.labels ++ (RM.kept d.aut N).map d.aut.lb) (t.rows ++ (RM.kept d.aut s).map (RM.rowOf d.aut n)) N ab g db (numF d.aut n N) (RM.liveB d.aut) (fun j => if j = 0 then .slice (some ⟨bn, on, none⟩) N cn else .slice (some ⟨bl, ol, none⟩) N cl) ∧ Blk 7 wr4 own6 w0.heap.size tb 3 256 (fun j => .int .i64 (rowF d.aut n s c j))) (fun bv _ => 256 - (intOf bv).toNat)
                  case atStart => exact ⟨0, own5, Nat.zero_le _, rfl, HT.out.1, HT.out.2⟩
                  case round =>
                    clear HT
                    rename World => wr4
                    obtain ⟨c, own6, hc, rfl, hS6, hb6⟩ := hrel
                    by_cases hcl : c < 256
                    · have hxw4 : Ext w wr4 := (Ext.box w _).trans (HX0.out.trans hS6.bld.ext)
                      have c1 := hxw4.cell (HQ.out.2.2 c hcl)
                      have htN := HD.out.2.1.nx_lt (s := s) (c := c) (by rw [← HD.out.2.2.2.1]; exact hlt3) hcl
                      rw [← HD.out.2.2.2.1] at htN
                      have m4 := hS6.num.row.cell htN
                      rw [numF_all htN] at m4
                      obtain ⟨x, hx⟩ : ∃ x, x = d.nx s c := ⟨_, rfl⟩
                      rw [← hx] at c1 m4 htN
                      obtain ⟨e, he⟩ : ∃ e, e = RM.entry d.aut n x := ⟨_, rfl⟩
                      rw [← he] at m4
                      have t4 := hb6.row.cell hcl
                      have f4 := hb6.row.frozen c
                      obtain ⟨z, hz⟩ : ∃ z, z = rowF d.aut n s c c := ⟨_, rfl⟩
                      rw [← hz] at t4
                      have hj4 : (c : Int) < 256 := by omega
                      have hj5 : (x : Int) < N := by omega
                      have HE := Lib.hid (And.intro hS6 (And.intro hb6 (And.intro hx he)))
                      clear hS6 hb6 hx he hz hxw4
                      go_wp2
                      go_roundw
                      case rel => exact ⟨c + 1, own6, by omega, by go_num, HE.out.1.fill HE.out.2.1 c _, ((HE.out.2.1.set c _).1).congr fun j _ => by rw [HE.out.2.2.2, HE.out.2.2.1]; exact rowF_step d.aut n s c j⟩
                      case measure => simp [intOf]; omega
                    · obtain rfl : c = 256 := by omega
                      clear hcl hc
                      have hq : hs3.length ≤ 1200 := by
                        rw [hS6.bld.rows.len, List.length_append, List.length_map, RM.kept_len]
                        have h1 := RM.kcnt_le d.aut s
                        have h2 : t.rows.length = n := by rw [HD.out.2.2.2.2.2.1, HD.out.2.2.2.2.1]; exact (RM.all_lens (auts (l.take i))).1
                        omega
                      obtain ⟨q, hqq⟩ : ∃ q, q = hs3.length := ⟨_, rfl⟩
                      rw [← hqq] at hq
                      have hown := (hS6.bld.hdr.ext (Ext.box wr4 (.cells #[.slice (some ⟨tb, 0, none⟩) 256 256] 23))).row
                      rw [← hqq] at hown
                      obtain ⟨i0, hi0, hz0, hz1, hz2⟩ := info_parts rows1_info
                      have hcell := cell_one_new wr4 (.slice (some ⟨tb, 0, none⟩) 256 256) 23
                      have h1c := one_slice (some ⟨tb, 0, none⟩) 256 256
                      have hbase : w0.heap.size ≤ (wr4.alloc (.cells #[.slice (some ⟨tb, 0, none⟩) 256 256] 23)).heap.size := by have := hS6.bld.ext.size; simp; omega
                      have hmax : q + 1 ≤ maxLen := by unfold maxLen; omega
                      have HE := Lib.hid (And.intro hS6 (And.intro hb6 hqq))
                      clear hS6 hb6 hqq
                      go_wp2_with (at_builtin; refine wpList_append_own_at _ rfl _ _ 22 rfl w0.heap.size 23 i0 (.slice none 0 0) 1 24 Tryd.underlying22 hi0 hz0 hz1 hz2 rfl (by decide) _ _ _ rfl hown ⟨wr4.heap.size, 0, none⟩ 1 1 [.slice (some ⟨tb, 0, none⟩) 256 256] rfl rfl hcell h1c hmax (by omega) hbase ?_; intro v' W7 hown' hg _ hat)
                      rw [HE.out.2.2] at hown'
                      obtain ⟨own7, hS7⟩ := HE.out.1.row (l := RM.rowOf d.aut n s) HE.out.2.1 (RM.rowOf_len _ _ _) (fun j hj => by rw [RM.rowOf_getD hj]; unfold rowF; rw [if_pos hj]) (Ext.box _ _) hown' hg hat
                      have HS7 := Lib.hid hS7
                      clear hS7 hown' hg hat hown hcell h1c hbase hmax
                      go_roundw
                      case rel => ((repeat apply Exists.intro); exact ⟨⟨s + 1, own7, hs3 ++ [.slice (some ⟨tb, 0, none⟩) 256 256], by omega, by go_num, by rw [kept_yes HK.out, List.map_append, ← List.append_assoc]; exact HS7.out⟩, rfl⟩)
                      case measure => simp [intOf]; omega
                · have hz : (0 : Int) < s := by omega
                  have hz' : decide ((0 : Int) < s) = true := by simpa using hz
                  have HK := Lib.hid (keep_false (A := d.aut) HQ.out.2.1.symm hs0)
                  clear hs0
                  go_wp2
                  go_roundw
                  case rel => exact ⟨s + 1, own3, hs3, by omega, by go_num, by rw [kept_no HK.out]; exact HQ.out.1⟩
                  case measure => simp [intOf]; omega
              · have HK := Lib.hid (RM.keep_live HQ.out.2.1.symm)
                have hb7 := Blk.made wr3 own3 7 HQ.out.1.bld.ext.size (madeCells #[.int .i64 0] 256) 3 (size_madeCells _ _) (fun j => .int .i64 (rowF d.aut n s 0 j)) (fun j hj => by unfold rowF; rw [if_neg (Nat.not_lt_zero _)]; exact made_one _ hj)
                have hS5 := HQ.out.1.new (Ext.box wr3 (.cells (madeCells #[.int .i64 0] 256) 3)) 7
                have hmk : ∀ w : World, (Instr.makeSlice 23 (.int .i64 256) (.int .i64 256)).run Tryd.prog w = .ok (.slice (some ⟨w.heap.size, 0, none⟩) 256 256) (w.alloc (.cells (madeCells #[.int .i64 0] 256) 3)) := fun w => run_make_any (P := Tryd.prog) 23 3 (.int .i64 0) 1 8 Tryd.underlying23 int_info .i64 .i64 256 (by omega) (by omega) w
                have HS5 := Lib.hid (And.intro hS5 hb7)
                clear hS5 hb7
                go_wp2_with fail
                clear hmk m1 q0
                have hS5 := HS5.out
                obtain ⟨tb, htb⟩ : ∃ tb, tb = wr3.heap.size := ⟨_, rfl⟩
                rw [← htb] at hS5 ⊢
                generalize World.alloc wr3 _ = W5 at hS5 ⊢
                obtain ⟨own5, hS5⟩ : ∃ own5, ModS w0 W5 own5 rb (.slice (some ⟨gg, 0, none⟩) (i + 1) cap') lv2 u5 hs3 (t.starts ++ [n]) (t.labels ++ (RM.kept d.aut N).map d.aut.lb) (t.rows ++ (RM.kept d.aut s).map (RM.rowOf d.aut n)) N ab g db (numF d.aut n N) (RM.liveB d.aut) (fun j => if j = 0 then .slice (some ⟨bn, on, none⟩) N cn else .slice (some ⟨bl, ol, none⟩) N cl) ∧ Blk 7 W5 own5 w0.heap.size tb 3 256 (fun j => .int .i64 (rowF d.aut n s 0 j)) := ⟨_, hS5⟩
                have HT := Lib.hid hS5
                clear hS5 htb HS5
                go_loopw [107] (fun bv wr4 => ∃ (c : Nat) (own6 : Nat → Nat), c ≤ 256 ∧ bv = .int .i64 c ∧ ModS w0 wr4 own6 rb (.slice (some ⟨gg, 0, none⟩) (i + 1) cap') lv2 u5 hs3 (t.starts ++ [n]) (t.labels ++ (RM.kept d.aut N).map d.aut.lb) (t.rows ++ (RM.kept d.aut s).map (RM.rowOf d.aut n)) N ab g db (numF d.aut n N) (RM.liveB d.aut) (fun j => if j = 0 then .slice (some ⟨bn, on, none⟩) N cn else .slice (some ⟨bl, ol, none⟩) N cl) ∧ Blk 7 wr4 own6 w0.heap.size tb 3 256 (fun j => .int .i64 (rowF d.aut n s c j))) (fun bv _ => 256 - (intOf bv).toNat)
                case atStart => exact ⟨0, own5, Nat.zero_le _, rfl, HT.out.1, HT.out.2⟩
                case round =>
                  clear HT
                  rename World => wr4
                  obtain ⟨c, own6, hc, rfl, hS6, hb6⟩ := hrel
                  by_cases hcl : c < 256
                  · have hxw4 : Ext w wr4 := (Ext.box w _).trans (HX0.out.trans hS6.bld.ext)
                    have c1 := hxw4.cell (HQ.out.2.2 c hcl)
                    have htN := HD.out.2.1.nx_lt (s := s) (c := c) (by rw [← HD.out.2.2.2.1]; exact hlt3) hcl
                    rw [← HD.out.2.2.2.1] at htN
                    have m4 := hS6.num.row.cell htN
                    rw [numF_all htN] at m4
                    obtain ⟨x, hx⟩ : ∃ x, x = d.nx s c := ⟨_, rfl⟩
                    rw [← hx] at c1 m4 htN
                    obtain ⟨e, he⟩ : ∃ e, e = RM.entry d.aut n x := ⟨_, rfl⟩
                    rw [← he] at m4
                    have t4 := hb6.row.cell hcl
                    have f4 := hb6.row.frozen c
                    obtain ⟨z, hz⟩ : ∃ z, z = rowF d.aut n s c c := ⟨_, rfl⟩
                    rw [← hz] at t4
                    have hj4 : (c : Int) < 256 := by omega
                    have hj5 : (x : Int) < N := by omega
                    have HE := Lib.hid (And.intro hS6 (And.intro hb6 (And.intro hx he)))
                    clear hS6 hb6 hx he hz hxw4
                    go_wp2
                    go_roundw
                    case rel => exact ⟨c + 1, own6, by omega, by go_num, HE.out.1.fill HE.out.2.1 c _, ((HE.out.2.1.set c _).1).congr fun j _ => by rw [HE.out.2.2.2, HE.out.2.2.1]; exact rowF_step d.aut n s c j⟩
                    case measure => simp [intOf]; omega
                  · obtain rfl : c = 256 := by omega
                    clear hcl hc
                    have hq : hs3.length ≤ 1200 := by
                      rw [hS6.bld.rows.len, List.length_append, List.length_map, RM.kept_len]
                      have h1 := RM.kcnt_le d.aut s
                      have h2 : t.rows.length = n := by rw [HD.out.2.2.2.2.2.1, HD.out.2.2.2.2.1]; exact (RM.all_lens (auts (l.take i))).1
                      omega
                    obtain ⟨q, hqq⟩ : ∃ q, q = hs3.length := ⟨_, rfl⟩
                    rw [← hqq] at hq
                    have hown := (hS6.bld.hdr.ext (Ext.box wr4 (.cells #[.slice (some ⟨tb, 0, none⟩) 256 256] 23))).row
                    rw [← hqq] at hown
                    obtain ⟨i0, hi0, hz0, hz1, hz2⟩ := info_parts rows1_info
                    have hcell := cell_one_new wr4 (.slice (some ⟨tb, 0, none⟩) 256 256) 23
                    have h1c := one_slice (some ⟨tb, 0, none⟩) 256 256
                    have hbase : w0.heap.size ≤ (wr4.alloc (.cells #[.slice (some ⟨tb, 0, none⟩) 256 256] 23)).heap.size := by have := hS6.bld.ext.size; simp; omega
                    have hmax : q + 1 ≤ maxLen := by unfold maxLen; omega
                    have HE := Lib.hid (And.intro hS6 (And.intro hb6 hqq))
                    clear hS6 hb6 hqq
                    go_wp2_with (at_builtin; refine wpList_append_own_at _ rfl _ _ 22 rfl w0.heap.size 23 i0 (.slice none 0 0) 1 24 Tryd.underlying22 hi0 hz0 hz1 hz2 rfl (by decide) _ _ _ rfl hown ⟨wr4.heap.size, 0, none⟩ 1 1 [.slice (some ⟨tb, 0, none⟩) 256 256] rfl rfl hcell h1c hmax (by omega) hbase ?_; intro v' W7 hown' hg _ hat)
                    rw [HE.out.2.2] at hown'
                    obtain ⟨own7, hS7⟩ := HE.out.1.row (l := RM.rowOf d.aut n s) HE.out.2.1 (RM.rowOf_len _ _ _) (fun j hj => by rw [RM.rowOf_getD hj]; unfold rowF; rw [if_pos hj]) (Ext.box _ _) hown' hg hat
                    have HS7 := Lib.hid hS7
                    clear hS7 hown' hg hat hown hcell h1c hbase hmax
                    go_roundw
                    case rel => ((repeat apply Exists.intro); exact ⟨⟨s + 1, own7, hs3 ++ [.slice (some ⟨tb, 0, none⟩) 256 256], by omega, by go_num, by rw [kept_yes HK.out, List.map_append, ← List.append_assoc]; exact HS7.out⟩, rfl⟩)
                    case measure => simp [intOf]; omega
            · obtain rfl : N = s := by omega
              have HS3 := Lib.hid hS3
              clear hS3 hlt3 hsN3
              go_wp2
              go_roundw
              case rel =>
                have hN2 : N = d.aut.n := HD.out.2.2.2.1
                refine ⟨i + 1, own3, (.slice (some ⟨gg, 0, none⟩) (i + 1) cap'), lv2, hs3, by omega, by go_num, ?_⟩
                rw [allOf_succ HD.out.1, ← HD.out.2.2.2.2.1]
                unfold RM.All.add
                rw [← hN2, ← HD.out.2.2.2.2.2.1]
                exact HS3.out.bld
              case measure => simp [intOf]; omega
    · obtain rfl : L = i := by omega
      have hall : l.take L = l := by rw [H.out.2.1]; exact List.take_length
      rw [hall] at hS
      have hok := built_ok H.out.2.2
      have hp := hok.pos
      have hq := hok.most
      obtain ⟨A, hA⟩ : ∃ A, A = allOf l := ⟨_, rfl⟩
      have hl1 : A.rows.length = baseOf l := by rw [hA]; exact (RM.all_lens (auts l)).1
      have hl2 : ∀ r ∈ A.rows, r.length = 256 := fun r hr => RM.all_rows_len (l := auts l) (by rw [hA] at hr; exact hr)
      rw [← hA] at hS
      obtain ⟨R, hR⟩ : ∃ R, R = A.rows.length := ⟨_, rfl⟩
      rw [← hl1, ← hR] at hp hq
      obtain ⟨m, hm⟩ : ∃ m, m = pieces R := ⟨_, rfl⟩
      have hm1 : m ≤ 100 := by rw [hm]; unfold pieces; omega
      have hm2 : R ≤ m * 8 := by rw [hm]; unfold pieces; omega
      obtain ⟨gn, cn, hnv, _, _, _⟩ := hS.hdr.slc (by rw [hS.rows.len, ← hR]; omega)
      rw [hS.rows.len, ← hR] at hnv
      subst hnv
      have HA := Lib.hid (And.intro hA (And.intro hl2 (And.intro hR hm)))
      have HS := Lib.hid hS
      clear hS hok hA hl1 hl2 hR hm hall hlt
      go_wp2
      go_loopw [17, 126] (fun cv bv wr5 => ∃ (b : Nat) (own5 : Nat → Nat) (G : Nat → Nat), b ≤ 256 ∧ bv = .int .i64 b ∧ ColS w0 wr5 own5 rb sv lv (.slice (some ⟨gn, 0, none⟩) R cn) hs A.starts A.labels A.rows m cv b G) (fun _ bv _ => 256 - (intOf bv).toNat)
      case atStart => exact ⟨0, own, _, Nat.zero_le _, rfl, ColS.begin HS.out m⟩
      case round =>
        clear HS
        rename World => wr5
        obtain ⟨b, own5, G, hb, rfl, hC⟩ := hrel
        by_cases hlt5 : b < 256
        · have hrows := hC.bld.rows.read hC.bld.hdr (by rw [← HA.out.2.2.1]; omega) (fun r hr => by rw [HA.out.2.1 r hr]; omega)
          have hcol := column_c (b := b) hrows (fun i hi => HA.out.2.1 _ (mem_getD hi)) (by rw [← HA.out.2.2.1]; omega) (by rw [← HA.out.2.2.1]; exact hq) hlt5
          unfold ColumnR at hcol
          rw [← HA.out.2.2.1, ← HA.out.2.2.2] at hcol
          have hj5 : (b : Int) < 256 := by omega
          have HC := Lib.hid (And.intro hC hcol)
          clear hC hcol hrows
          go_wp2_with fail
          refine HC.out.2.mono ?_
          rintro e w6 ⟨rfl, hr6, hx6⟩
          obtain ⟨cb, hcb⟩ : ∃ cb, cb = wr5.heap.size := ⟨_, rfl⟩
          rw [← hcb] at hr6 ⊢
          have hown := (own_ext hx6 HC.out.1.hdr.row)
          rw [show ((List.range b).map (hdrV m G)).length = b by simp] at hown
          have hown := own_ext (Ext.box w6 (.cells #[.slice (some ⟨cb, 0, none⟩) m m] 112)) hown
          obtain ⟨i0, hi0, hz0, hz1, hz2⟩ := info_parts piece1_info
          have hcell := cell_one_new w6 (.slice (some ⟨cb, 0, none⟩) m m) 112
          have h1c := one_slice (some ⟨cb, 0, none⟩) m m
          have hbase : w0.heap.size ≤ (w6.alloc (.cells #[.slice (some ⟨cb, 0, none⟩) m m] 112)).heap.size := by have h1 := HC.out.1.bld.ext.size; have h2 := hx6.size; simp; omega
          have hmax : b + 1 ≤ maxLen := by unfold maxLen; omega
          have HD := Lib.hid (And.intro hr6 (And.intro hx6 hcb))
          clear hr6 hx6 hcb
          go_wp2_with (at_builtin; refine wpList_append_own_at _ rfl _ _ 111 rfl w0.heap.size 112 i0 (.slice none 0 0) 1 24 Tryd.underlying111 hi0 hz0 hz1 hz2 rfl (by decide) _ _ _ rfl hown ⟨w6.heap.size, 0, none⟩ 1 1 [.slice (some ⟨cb, 0, none⟩) m m] rfl rfl hcell h1c hmax (by omega) hbase ?_; intro v' W7 hown' hg _ hat)
          obtain ⟨own7, hC7⟩ := HC.out.1.push (by rw [← HD.out.2.2, ← HA.out.2.2.1]; exact HD.out.1) HD.out.2.1 (Ext.box _ _) (by rw [← HD.out.2.2]; exact hown') hg hat
          have HC7 := Lib.hid hC7
          clear hC7 hown' hg hat hown hcell h1c hbase hmax
          go_roundw
          case rel => exact ⟨b + 1, own7, _, by omega, by go_num, HC7.out⟩
          case measure => simp [intOf]; omega
        · obtain rfl : b = 256 := by omega
          obtain ⟨gL, cL, hcv, _, _, _⟩ := hC.hdr.slc (by simp)
          rw [show ((List.range 256).map (hdrV m G)).length = 256 by simp] at hcv
          subst hcv
          have hgr := grouped_c (rows := A.rows) (cap := cL) hC.cols hm1 (fun a b _ _ => cols_alike (by rw [← HA.out.2.2.1]; exact hm2))
          unfold GroupedR at hgr
          obtain ⟨K, hK⟩ : ∃ K, K = RM.ncls A.rows := ⟨_, rfl⟩
          rw [← hK] at hgr
          have hK256 : K ≤ 256 := by rw [hK]; unfold RM.ncls; rw [LM.rowLen_eq]; exact LM.cnt_le _ _
          have HC := Lib.hid (And.intro hC (And.intro hgr hK))
          clear hC hgr hK hlt5 hb
          go_wp2_with fail
          refine HC.out.2.1.mono ?_
          rintro e w6 ⟨cv, rfl, hown6, hx6⟩
          obtain ⟨gC, cC, hcv, _, _⟩ := own_slc hown6 (by simp [intsV, nI, LM.rowLen_eq])
          rw [show (intsV (nI ((List.range LM.rowLen).map (RM.cls A.rows)))).length = 256 by simp [intsV, nI, LM.rowLen_eq]] at hcv
          subst hcv
          have hb6 := HC.out.1.bld.box.row
          have c0 := hx6.cell (hb6.cell (i := 0) (by omega))
          have c1 := hx6.cell (hb6.cell (i := 1) (by omega))
          have f0 := (Below.frozen hx6 (p := ⟨rb, 0, none⟩) hb6.lt).trans (hb6.frozen 0)
          have f1 := (Below.frozen hx6 (p := ⟨rb, 1, none⟩) hb6.lt).trans (hb6.frozen 1)
          simp only [rF] at c0 c1
          have hS7 := ShS.begin HC.out.1.bld hx6 hown6 K
          obtain ⟨CL, hCL⟩ : ∃ CL, CL = nI ((List.range LM.rowLen).map (RM.cls A.rows)) := ⟨_, rfl⟩
          rw [← hCL] at hS7
          have HS7 := Lib.hid (And.intro hS7 hCL)
          have HCL := Lib.hid hCL
          clear hS7 hown6 hx6 hb6 hCL
          go_wp2
          clear c0 c1 f0 f1
          go_loopw [145] (fun rv wr7 => ∃ (s : Nat) (own7 : Nat → Nat) (xv : Value) (xs : List Value), s ≤ R ∧ rv = .int .i64 s ∧ ShS w0 wr7 own7 rb (.slice (some ⟨gC, 0, none⟩) 256 cC) K sv lv (.slice (some ⟨gn, 0, none⟩) R cn) xv hs xs A.starts A.labels CL A.rows ((A.rows.take s).map (RM.short A.rows)) ∧ ∀ u ∈ xs, ∃ b, u = .slice (some ⟨b, 0, none⟩) K K) (fun rv _ => R - (intOf rv).toNat)
          case atStart => exact ⟨0, _, _, [], Nat.zero_le _, rfl, HS7.out.1, fun u hu => by cases hu⟩
          case round =>
            rename World => wr7
            obtain ⟨s, own7, xv, xs, hs7, rfl, hS, hfull⟩ := hrel
            have HFU := Lib.hid hfull
            clear hfull
            by_cases hlt7 : s < R
            · have hrg : s < A.rows.length := by rw [← HA.out.2.2.1]; exact hlt7
              obtain ⟨r, hr⟩ : ∃ r, A.rows[s]? = some r := ⟨_, List.getElem?_eq_getElem hrg⟩
              obtain ⟨hh, hhh⟩ : ∃ hh, hs[s]? = some hh := ⟨_, List.getElem?_eq_getElem (by rw [hS.rows.len]; exact hrg)⟩
              have hr256 := HA.out.2.1 r (List.mem_of_getElem? hr)
              have hrow := hS.rows.row s hh r hhh hr
              obtain ⟨gr, cr, hhv, _, _, _⟩ := hrow.slc (by simp [intsV, hr256])
              rw [show (intsV r).length = 256 by simp [intsV, hr256]] at hhv
              subst hhv
              have q0 := hS.hdr.cell hhh
              have hxs : xs.length = s := by rw [hS.shorts.len, List.length_map, List.length_take]; omega
              have c3 : wr7.cell? ⟨rb, 3, none⟩ = some xv := hS.box.row.cell (i := 3) (by omega)
              have c1 : wr7.cell? ⟨rb, 1, none⟩ = some (.int .i64 (K : Int)) := hS.box.row.cell (i := 1) (by omega)
              have f3 : wr7.frozen? ⟨rb, 3, none⟩ = false := hS.box.row.frozen 3
              have hj7 : (s : Int) < R := by omega
              have hmk : ∀ w : World, (Instr.makeSlice 23 (.int .i64 (K : Int)) (.int .i64 (K : Int))).run Tryd.prog w = .ok (.slice (some ⟨w.heap.size, 0, none⟩) K K) (w.alloc (.cells (madeCells #[.int .i64 0] K) 3)) := fun w => by have h := run_make_any (P := Tryd.prog) 23 3 (.int .i64 0) 1 8 Tryd.underlying23 int_info .i64 .i64 K (by omega) (by omega) w; rwa [Nat.mul_one] at h
              have hown := (hS.xhdr.ext (Ext.box wr7 (.cells (madeCells #[.int .i64 0] K) 3))).row
              rw [hxs] at hown
              have hnr : xv.ownBlock ≠ some rb := fun e => by
                have h1 := hS.xhdr.tag rb e
                rw [hS.box.tag] at h1; cases h1
              obtain ⟨i0, hi0, hz0, hz1, hz2⟩ := info_parts rows1_info
              have hbase : w0.heap.size ≤ wr7.heap.size := hS.ext.size
              have hmax : s + 1 ≤ maxLen := by unfold maxLen; omega
              have hb1 := lt_of_cell c3
              have hb2 := lt_of_cell q0
              have HQ := Lib.hid (And.intro hS (And.intro hr (And.intro hhh (And.intro hrow (And.intro hxs hr256)))))
              clear hS hr hhh hrow hxs hr256 hrg
              go_upto_region 45 with fail
              obtain ⟨nb, hnb⟩ : ∃ nb, nb = wr7.heap.size := ⟨_, rfl⟩
              have HNB := Lib.hid hnb
              clear hnb
              apply key_elim15 (Good := fun g7 c7 W9 => ∃ own9, ShR w0 W9 own9 rb (.slice (some ⟨gC, 0, none⟩) 256 cC) K sv lv (.slice (some ⟨gn, 0, none⟩) R cn) (.slice (some ⟨g7, 0, none⟩) (s + 1) c7) hs xs A.starts A.labels CL A.rows ((A.rows.take s).map (RM.short A.rows)) nb (fun _ => .int .i64 0))
              case h =>
                intro key
                go_region_law ((refine step_append_lies _ (by rfl) _ _ _ (by rfl) w0.heap.size 23 i0 _ 1 24 Tryd.underlying22 hi0 hz0 hz1 hz2 rfl (by omega) xv s xs (by rfl) ((hown.alloc (.cells #[.slice (some ⟨wr7.heap.size, 0, none⟩) K K] 23)).drew) ⟨wr7.heap.size + 1, 0, none⟩ 1 1 [.slice (some ⟨wr7.heap.size, 0, none⟩) K K] (by rfl) (by rfl) (World.news_of_block (cs := #[.slice (some ⟨wr7.heap.size, 0, none⟩) K K]) (t := 23) (fr := (0, 0)) (by have h := heap_alloc_new (wr7.alloc (.cells (madeCells #[.int .i64 0] K) 3)) (.cells #[.slice (some ⟨wr7.heap.size, 0, none⟩) K K] 23); rw [World.size_alloc] at h; exact h)) (by simp [Value.oneCell']) (by omega) hmax (by omega) (by simp; omega) (wr7.heap.size + 2) (by simp) ?_; intro gg4 cap4 w4 hown4 hgrow hat hlt4; have hk4 := hgrow.block rb (by simp; omega) (Ne.symm hnr); have c44 : w4.cell? ⟨rb, 3, none⟩ = some xv := (World.cell?_of_block (a := ⟨rb, 3, none⟩) hk4).trans ((((Ext.box wr7 (.cells (madeCells #[.int .i64 0] K) 3)).alloc (.cells #[.slice (some ⟨wr7.heap.size, 0, none⟩) K K] 23)).drew).cell c3); have f44 : w4.frozen? ⟨rb, 3, none⟩ = false := (World.frozen?_of_block (a := ⟨rb, 3, none⟩) hk4).trans ((Below.frozen (((Ext.box wr7 (.cells (madeCells #[.int .i64 0] K) 3)).alloc (.cells #[.slice (some ⟨wr7.heap.size, 0, none⟩) K K] 23)).drew) (p := ⟨rb, 3, none⟩) hb1).trans f3)))
                all_goals
                  have hS1 := HQ.out.1.keep (own' := newTag wr7 own7 7) (HQ.out.1.ext.trans (Ext.box wr7 (.cells (madeCells #[.int .i64 0] K) 3))) (.new (Ext.box _ _) 7)
                  have hbn := Blk.made wr7 own7 7 hbase (madeCells #[.int .i64 0] K) 3 (size_madeCells _ _) (fun _ => .int .i64 0) (fun i hi => made_one _ hi)
                  have hR9 := hS1.row (v' := .slice (some ⟨gg4, 0, none⟩) (s + 1) cap4) hbn ((Ext.box _ (.cells #[.slice (some ⟨wr7.heap.size, 0, none⟩) K K] 23)).drew) (by rw [HQ.out.2.2.2.2.1]; exact hown4) hgrow (by rcases hat with e | e; exact .inl e.symm; exact .inr (by simp [Value.ownBlock, e]))
                  rw [← HNB.out] at hR9
                  generalize World.setCell _ _ _ = W9 at hR9 ⊢
                  exact key gg4 cap4 W9 ⟨_, hR9⟩
              case h2 =>
                intro g7 c7 W9 hgood
                obtain ⟨own9, hR9⟩ := hgood
                have c0 : W9.cell? ⟨rb, 0, none⟩ = some (.slice (some ⟨gC, 0, none⟩) 256 cC) := hR9.box.row.cell (i := 0) (by omega)
                have HR9 := Lib.hid hR9
                clear hR9 q0 c3 c1 f3 hmk hown hnr hbase hmax hb1 hb2
                go_wp2
                clear c0
                go_loopw [160] (fun bv wr8 => ∃ (b : Nat) (own8 : Nat → Nat) (f : Nat → Value), b ≤ 256 ∧ bv = .int .i64 b ∧ ShR w0 wr8 own8 rb (.slice (some ⟨gC, 0, none⟩) 256 cC) K sv lv (.slice (some ⟨gn, 0, none⟩) R cn) (.slice (some ⟨g7, 0, none⟩) (s + 1) c7) hs xs A.starts A.labels CL A.rows ((A.rows.take s).map (RM.short A.rows)) nb f ∧ FilledTo A.rows r b f) (fun bv _ => 256 - (intOf bv).toNat)
                case atStart => exact ⟨0, own9, _, Nat.zero_le _, rfl, HR9.out, fun a ha => absurd ha (Nat.not_lt_zero _)⟩
                case round =>
                  clear HR9
                  rename World => wr8
                  obtain ⟨b, own8, f, hb8, rfl, hR, hF⟩ := hrel
                  by_cases hlt8 : b < 256
                  · obtain ⟨c, hc⟩ : ∃ c, c = RM.cls A.rows b := ⟨_, rfl⟩
                    obtain ⟨x, hx⟩ : ∃ x, x = r.getD b 0 := ⟨_, rfl⟩
                    have hcK : c < K := by rw [hc, HC.out.2.2]; exact RM.cls_lt hlt8
                    have k1 : wr8.cell? ⟨gC, b, none⟩ = some (.int .i64 (c : Int)) := hR.classes.cell (by
                      rw [HS7.out.2, hc]
                      unfold intsV nI
                      rw [List.getElem?_map, List.getElem?_map, List.getElem?_map, List.getElem?_range (by rw [LM.rowLen_eq]; exact hlt8)]; rfl)
                    have c3 : wr8.cell? ⟨rb, 3, none⟩ = some (.slice (some ⟨g7, 0, none⟩) (s + 1) c7) := hR.box.row.cell (i := 3) (by omega)
                    have k6 : wr8.cell? ⟨g7, s, none⟩ = some (.slice (some ⟨nb, 0, none⟩) K K) := hR.xhdr.cell (by rw [List.getElem?_append_right (by have := HQ.out.2.2.2.2.1; omega), HQ.out.2.2.2.2.1, Nat.sub_self]; rfl)
                    have r1 : wr8.cell? ⟨gr, b, none⟩ = some (.int .i64 x) := (hR.rows.row s _ r HQ.out.2.2.1 HQ.out.2.1).cell (by
                      unfold intsV
                      rw [List.getElem?_map, getD_at 0 (l := r) (i := b) (by have := HQ.out.2.2.2.2.2; omega), hx]; rfl)
                    have t8 := hR.new.row.cell hcK
                    have f8 := hR.new.row.frozen c
                    obtain ⟨y, hy⟩ : ∃ y, y = f c := ⟨_, rfl⟩
                    rw [← hy] at t8
                    have hw1 : IntKind.i64.wrap (((s + 1 : Nat) : Int) - 1) = (s : Int) := (IntWalk.i64_in _ (by omega)).trans (by omega)
                    have hw2 : IntKind.i64.wrap (s : Int) = (s : Int) := IntWalk.i64_in _ (by omega)
                    have hj6 : (s : Int) < (s : Int) + 1 := by omega
                    have hj8 : (b : Int) < 256 := by omega
                    have hj9 : (c : Int) < K := by omega
                    have HE := Lib.hid (And.intro hR (And.intro hF (And.intro hc hx)))
                    clear hR hF hc hx hy
                    go_wp2_with fail
                    go_still_tail 14, (by kernel_rfl)
                    change wpList _ _ _ _ _ wr8.drew
                    clear hw1 hw2
                    go_wp2
                    go_roundw
                    case rel => exact ⟨b + 1, own8, _, by omega, by go_num, (HE.out.1.more (Ext.refl _).drew).set c _, by rw [HE.out.2.2.1, HE.out.2.2.2]; exact HE.out.2.1.step (List.mem_of_getElem? HQ.out.2.1)⟩
                    case measure => simp [intOf]; omega
                  · obtain rfl : b = 256 := by omega
                    obtain ⟨own8', hS8⟩ := hR.done hK256 (l := RM.short A.rows r) (by rw [RM.short_len]; exact HC.out.2.2.symm) (fun i hi => hF.done (by rw [← HC.out.2.2]; exact hi))
                    rw [← take_map_succ (RM.short A.rows) HQ.out.2.1] at hS8
                    have HS8 := Lib.hid hS8
                    clear hS8 hR hF
                    go_wp2
                    go_roundw
                    case rel => exact ⟨s + 1, own8', _, _, by omega, by go_num, HS8.out, fun u hu => by
                      rcases List.mem_append.1 hu with h | h
                      · exact HFU.out u h
                      · rw [List.mem_singleton] at h; exact ⟨nb, h⟩⟩
                    case measure => simp [intOf]; omega
            · obtain rfl : R = s := by omega
              have hxall : A.rows.take R = A.rows := by rw [HA.out.2.2.1]; exact List.take_length
              rw [hxall] at hS
              obtain ⟨az, cz, hsv, hsl, _, _⟩ := own_read hS.starts.row
              obtain ⟨al, cl, hlv, hll, _, _⟩ := own_read hS.labels.row
              obtain ⟨ax, cx, hxv, hxl, _, _⟩ := own_read hS.xhdr.row
              have hbase : baseOf l ≤ 600 := Nat.le_trans (baseOf_le l) H.out.2.2.sum
              have hn1' : A.starts.length ≤ 16 := by rw [HA.out.1]; exact (show (allOf l).starts.length ≤ 16 by rw [show (allOf l).starts.length = (auts l).length from (RM.all_lens (auts l)).2, auts_len, ← H.out.2.1]; exact hL16)
              have hn4' : A.labels.length ≤ 600 := by rw [HA.out.1]; exact hbase
              obtain ⟨n1, hn1⟩ : ∃ n1, n1 = (intsV (nI A.starts)).length := ⟨_, rfl⟩
              obtain ⟨n3, hn3⟩ : ∃ n3, n3 = xs.length := ⟨_, rfl⟩
              obtain ⟨n4, hn4⟩ : ∃ n4, n4 = (intsV A.labels).length := ⟨_, rfl⟩
              rw [← hn1] at hsv
              rw [← hn4] at hlv
              rw [← hn3] at hxv
              subst hsv; subst hlv; subst hxv
              have c0 : wr7.cell? ⟨rb, 0, none⟩ = some (.slice (some ⟨gC, 0, none⟩) 256 cC) := hS.box.row.cell (i := 0) (by omega)
              have c1 : wr7.cell? ⟨rb, 1, none⟩ = some (.int .i64 (K : Int)) := hS.box.row.cell (i := 1) (by omega)
              have c2 : wr7.cell? ⟨rb, 2, none⟩ = some (.slice az n1 cz) := hS.box.row.cell (i := 2) (by omega)
              have c3 : wr7.cell? ⟨rb, 3, none⟩ = some (.slice ax n3 cx) := hS.box.row.cell (i := 3) (by omega)
              have c4 : wr7.cell? ⟨rb, 4, none⟩ = some (.slice al n4 cl) := hS.box.row.cell (i := 4) (by omega)
              have r9 := rowIs_ext (HX0.out.trans hS.ext) (World.rowIs_alloc w #[.slice none 0 0, .int .i64 0, .slice none 0 0, .slice none 0 0, .slice none 0 0] 67 (rF (.slice none 0 0) (.int .i64 0) (.slice none 0 0) (.slice none 0 0) (.slice none 0 0)) (fun i hi => by rcases rF_at hi with rfl | rfl | rfl | rfl | rfl <;> rfl))
              have d0 : wr7.cell? ⟨w.heap.size, 0, none⟩ = some (.slice none 0 0) := r9.cell (i := 0) (by simp)
              have d1 : wr7.cell? ⟨w.heap.size, 1, none⟩ = some (.int .i64 0) := r9.cell (i := 1) (by simp)
              have d2 : wr7.cell? ⟨w.heap.size, 2, none⟩ = some (.slice none 0 0) := r9.cell (i := 2) (by simp)
              have d3 : wr7.cell? ⟨w.heap.size, 3, none⟩ = some (.slice none 0 0) := r9.cell (i := 3) (by simp)
              have d4 : wr7.cell? ⟨w.heap.size, 4, none⟩ = some (.slice none 0 0) := r9.cell (i := 4) (by simp)
              have g0 := r9.frozen 0
              have g1 := r9.frozen 1
              have g2 := r9.frozen 2
              have g3 := r9.frozen 3
              have g4 := r9.frozen 4
              have HS := Lib.hid (And.intro hS (And.intro r9 (And.intro hn1 (And.intro hn3 (And.intro hn4 (And.intro hn1' (And.intro hn4' hbase)))))))
              clear hS r9 hn1 hn3 hn4 hn1' hn4' hbase hxall hsl hll hxl
              go_wp2
              have hlt0 : w.heap.size < w0.heap.size := by have := HX0.out.size; simp at this; omega
              have hX : Ext w wr7 := (Ext.box w _).trans (HX0.out.trans HS.out.1.ext)
              have hXf : Ext w (((((wr7.setCell ⟨w.heap.size, 0, none⟩ (.slice (some ⟨gC, 0, none⟩) 256 cC)).setCell ⟨w.heap.size, 1, none⟩ (.int .i64 (K : Int))).setCell ⟨w.heap.size, 2, none⟩ (.slice az n1 cz)).setCell ⟨w.heap.size, 3, none⟩ (.slice ax n3 cx)).setCell ⟨w.heap.size, 4, none⟩ (.slice al n4 cl)) := ((((hX.setCell (Nat.le_refl _) _).setCell (Nat.le_refl _) _).setCell (Nat.le_refl _) _).setCell (Nat.le_refl _) _).setCell (Nat.le_refl _) _
              have hr9 := rowIs_set5 HS.out.2.1 (.slice (some ⟨gC, 0, none⟩) 256 cC) (.int .i64 (K : Int)) (.slice az n1 cz) (.slice ax n3 cx) (.slice al n4 cl)
              have hT := HS.out.1.table (w' := (((((wr7.setCell ⟨w.heap.size, 0, none⟩ (.slice (some ⟨gC, 0, none⟩) 256 cC)).setCell ⟨w.heap.size, 1, none⟩ (.int .i64 (K : Int))).setCell ⟨w.heap.size, 2, none⟩ (.slice az n1 cz)).setCell ⟨w.heap.size, 3, none⟩ (.slice ax n3 cx)).setCell ⟨w.heap.size, 4, none⟩ (.slice al n4 cl))) (fun g hg => heap_set5 (by omega)) (by rw [HCL.out]; simp [nI, LM.rowLen_eq]) (by have := HS.out.2.2.2.2.2.1; omega) (by have := HS.out.2.2.2.2.2.2.1; omega) (by rw [List.length_map, ← HA.out.2.2.1]; omega) (fun x hx => by obtain ⟨r, _, rfl⟩ := List.mem_map.1 hx; rw [RM.short_len, ← HC.out.2.2]; omega)
              have hOT := HS.out.1.ownT (w' := (((((wr7.setCell ⟨w.heap.size, 0, none⟩ (.slice (some ⟨gC, 0, none⟩) 256 cC)).setCell ⟨w.heap.size, 1, none⟩ (.int .i64 (K : Int))).setCell ⟨w.heap.size, 2, none⟩ (.slice az n1 cz)).setCell ⟨w.heap.size, 3, none⟩ (.slice ax n3 cx)).setCell ⟨w.heap.size, 4, none⟩ (.slice al n4 cl))) (fun g hg => heap_set5 (by omega)) HFU.out (fun x hx => by obtain ⟨r, _, rfl⟩ := List.mem_map.1 hx; rw [RM.short_len, ← HC.out.2.2])
              generalize World.setCell (World.setCell (World.setCell (World.setCell (World.setCell wr7 _ _) _ _) _ _) _ _) _ _ = Wf at hr9 hT hXf hOT ⊢
              have z0 : Wf.cell? ⟨w.heap.size, 0, none⟩ = some (.slice (some ⟨gC, 0, none⟩) 256 cC) := hr9.cell (i := 0) (by omega)
              have z1 : Wf.cell? ⟨w.heap.size, 1, none⟩ = some (.int .i64 (K : Int)) := hr9.cell (i := 1) (by omega)
              have z2 : Wf.cell? ⟨w.heap.size, 2, none⟩ = some (.slice az n1 cz) := hr9.cell (i := 2) (by omega)
              have z3 : Wf.cell? ⟨w.heap.size, 3, none⟩ = some (.slice ax n3 cx) := hr9.cell (i := 3) (by omega)
              have z4 : Wf.cell? ⟨w.heap.size, 4, none⟩ = some (.slice al n4 cl) := hr9.cell (i := 4) (by omega)
              (try simp only [Exit.inBlock, Exit.then])
              refine bodyPost_ret (v := .tuple #[tabV (.slice (some ⟨gC, 0, none⟩) 256 cC) (.slice az n1 cz) (.slice ax n3 cx) (.slice al n4 cl) K, .nilIface]) ?_ rfl ?_
              · rw [results_cell_tmp rfl]
                go_simp
                rfl
              · refine ⟨_, _, _, _, by rw [show (built l).count = K by rw [HC.out.2.2, HA.out.1]; rfl], ?_, hXf, own7, w0.heap.size, by omega, ?_⟩
                all_goals
                  have e : built l = ⟨CL, K, nI A.starts, A.rows.map (RM.short A.rows), A.labels⟩ := by
                    unfold built; rw [HCL.out, HC.out.2.2, HA.out.1]
                  rw [e]
                  first
                  | exact hT
                  | exact hOT
theorem build_c {w : World} {v : Value} {l : List Dn} (h : DensesV w v l) (hm : MayL l) : Calls Tryd.prog 28 #[v] w (BuiltR l w) :=
  (buildX_c h hm).mono fun _ _ ⟨cv, sv, nv, lv, h1, h2, h3, _⟩ => ⟨cv, sv, nv, lv, h1, h2, h3⟩
end Go.Proofs.YtloooajippcdlaaDoor
