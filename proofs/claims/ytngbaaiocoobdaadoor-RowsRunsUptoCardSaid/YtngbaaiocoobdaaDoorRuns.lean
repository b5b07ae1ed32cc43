/- bolterlaw15.runs: behind each text the table's state has the automaton's label. -/
import Derived.Test.YtngbaaiocoobdaaDoorBuiltO
import Derived.Test.YtngbaaiocoobdaaDoorReach
import Derived.Test.YtngbaaiocoobdaaDoorTexts
namespace Go.Proofs.YtngbaaiocoobdaaDoor
open Go.RowKit

set_option maxRecDepth 100000 in
set_option maxHeartbeats 4000000 in
theorem runs_c {w : World} {bc oc cc bs os sc L bn on nc bl ol lc K n g m : Nat} {l : List Dn} {d : Dn} {vd vt : Value} {t : List Int} (hm : MayL l) (hd : l[m]? = some d) (hD : DenseV w vd d) (hn : n = baseOf l) (hn6 : n ≤ 600) (hB : BT w bc oc bs os bn on bl ol K n l)
    (hT : TblV w (.agg #[.slice (some ⟨bc, oc, none⟩) 256 cc, .int .i64 ((K : Nat) : Int), .slice (some ⟨bs, os, none⟩) L sc, .slice (some ⟨bn, on, none⟩) n nc, .slice (some ⟨bl, ol, none⟩) n lc]) (built l).tbl)
    (hg : w.rowIs g 4 d.next.length (fun s => .bool (RM.liveB d.aut s))) (ht : IntsK .u8 w vt t) (hb : ∀ z ∈ t, 0 ≤ z ∧ z ≤ 255) :
    Calls Tryd.prog 23 #[vd, .agg #[.slice (some ⟨bc, oc, none⟩) 256 cc, .int .i64 ((K : Nat) : Int), .slice (some ⟨bs, os, none⟩) L sc, .slice (some ⟨bn, on, none⟩) n nc, .slice (some ⟨bl, ol, none⟩) n lc],
      .int .i64 ((baseOf (l.take m) : Nat) : Int), .slice (some ⟨g, 0, none⟩) d.next.length d.next.length, vt] w fun e w' => e = .returned (.bool true) ∧ Ext w w' := by
  have hdm := hm.each d (List.mem_of_getElem? hd)
  obtain ⟨dn, dno, dcn, dl, dlo, dcl, rfl, hc⟩ := hD.cells hdm
  obtain ⟨htl, ta, tc, rfl, _, hto⟩ := ht.open
  have hbase := baseOf_at hd
  rw [← hn] at hbase
  obtain ⟨N, hN⟩ : ∃ N, N = d.next.length := ⟨_, rfl⟩
  obtain ⟨T, hT'⟩ : ∃ T, T = t.length := ⟨_, rfl⟩
  obtain ⟨B, hBB⟩ : ∃ B, B = baseOf (l.take m) := ⟨_, rfl⟩
  have hmost : N ≤ 600 := by rw [hN]; exact hdm.most
  rw [← hN] at hg ⊢
  rw [← hT'] at htl hto ⊢
  rw [← hBB] at hbase ⊢
  have hpos : 0 < N := by rw [hN]; exact hdm.pos
  have H := Lib.hid (And.intro hm (And.intro hd (And.intro hdm (And.intro hc (And.intro hn (And.intro hB (And.intro hT (And.intro hg (And.intro hto (And.intro hb (And.intro hN (And.intro hT' (And.intro hBB hbase)))))))))))))
  clear hm hd hD hn hB hT hg ht hb hdm hc hto hN hT' hBB hbase
  go_enter Tryd.func23, Tryd.ntmps23
  go_wp2
  obtain ⟨wb, hwb⟩ : ∃ wb, wb = (w.alloc (.cells #[.slice (some ⟨dn, dno, none⟩) N dcn, .slice (some ⟨dl, dlo, none⟩) N dcl] 25)).alloc (.cells #[.slice (some ⟨bc, oc, none⟩) 256 cc, .int .i64 ((K : Nat) : Int), .slice (some ⟨bs, os, none⟩) L sc, .slice (some ⟨bn, on, none⟩) n nc, .slice (some ⟨bl, ol, none⟩) n lc] 39) := ⟨_, rfl⟩
  have hxb : Ext w wb := by rw [hwb]; exact (Ext.box _ _).trans (Ext.box _ _)
  have a0 : wb.cell? ⟨w.heap.size, 0, none⟩ = some (.slice (some ⟨dn, dno, none⟩) N dcn) := by rw [hwb]; exact (Ext.box _ _).cell (new_cell rfl)
  have a1 : wb.cell? ⟨w.heap.size, 1, none⟩ = some (.slice (some ⟨dl, dlo, none⟩) N dcl) := by rw [hwb]; exact (Ext.box _ _).cell (new_cell rfl)
  have r0 : wb.cell? ⟨w.heap.size + 1, 0, none⟩ = some (.slice (some ⟨bc, oc, none⟩) 256 cc) := by rw [hwb]; simp
  have r1 : wb.cell? ⟨w.heap.size + 1, 1, none⟩ = some (.int .i64 ((K : Nat) : Int)) := by rw [hwb]; simp
  have r2 : wb.cell? ⟨w.heap.size + 1, 2, none⟩ = some (.slice (some ⟨bs, os, none⟩) L sc) := by rw [hwb]; simp
  have r3 : wb.cell? ⟨w.heap.size + 1, 3, none⟩ = some (.slice (some ⟨bn, on, none⟩) n nc) := by rw [hwb]; simp
  have r4 : wb.cell? ⟨w.heap.size + 1, 4, none⟩ = some (.slice (some ⟨bl, ol, none⟩) n lc) := by rw [hwb]; simp
  rw [← hwb]
  obtain ⟨ab, hab⟩ : ∃ ab, ab = w.heap.size := ⟨_, rfl⟩
  obtain ⟨rb, hrb⟩ : ∃ rb, rb = w.heap.size + 1 := ⟨_, rfl⟩
  rw [← hrb] at r0 r1 r2 r3 r4 ⊢
  rw [← hab] at a0 a1 ⊢
  have HB := Lib.hid (And.intro hxb (And.intro a0 (And.intro a1 (And.intro r0 (And.intro r1 (And.intro r2 (And.intro r3 r4)))))))
  clear hxb a0 a1 r0 r1 r2 r3 r4 hwb hab hrb
  go_loopw [2, 11, 12] (fun av sv iv wr => Ext wb wr ∧ ∃ i st : Nat, i ≤ T ∧ st < N ∧ iv = .int .i64 i ∧ sv = .int .i64 st ∧ av = .int .i64 ((B + RM.kcnt d.aut st : Nat) : Int) ∧ RM.keep d.aut st = true) (fun _ _ iv _ => T - (intOf iv).toNat)
  case atStart => exact ⟨Ext.refl _, 0, 0, Nat.zero_le _, hpos, rfl, rfl, rfl, RM.keep_zero _⟩
  case round =>
    obtain ⟨hx, i, st, hi, hst, rfl, rfl, rfl, hk⟩ := hrel
    have hcn := RM.kcnt_lt (A := d.aut) (s := st) (m := d.aut.n) (by show st < d.next.length; rw [← H.out.2.2.2.2.2.2.2.2.2.2.1]; exact hst) hk
    have hbase := H.out.2.2.2.2.2.2.2.2.2.2.2.2.2
    obtain ⟨a, ha⟩ : ∃ a, a = B + RM.kcnt d.aut st := ⟨_, rfl⟩
    rw [← ha]
    have han : a < n := by omega
    by_cases hlt : i < T
    · have hj1 : (i : Int) < T := by omega
      by_cases h60 : i < 60
      · have hj2 : (i : Int) < 60 := by omega
        have hent := kept_ent H.out.2.1 (s := st) (by rw [← H.out.2.2.2.2.2.2.2.2.2.2.1]; exact hst) hk
        rw [← H.out.2.2.2.2.2.2.2.2.2.2.2.2.1, ← ha] at hent
        have hxw := HB.out.1.trans hx
        have hBT := H.out.2.2.2.2.2.1.ext hxw
        have hC := Cells.ext hxw H.out.2.2.2.1
        obtain ⟨bt, ot, rfl, htc⟩ := H.out.2.2.2.2.2.2.2.2.1 (by omega)
        have a0 := hx.cell HB.out.2.1
        have a1 := hx.cell HB.out.2.2.1
        have r4 := hx.cell HB.out.2.2.2.2.2.2.2
        have l1 := hBT.lab a han
        rw [hent.1] at l1
        have l2 := hC.label st (by rw [← H.out.2.2.2.2.2.2.2.2.2.2.1]; exact hst)
        obtain ⟨x, hxx⟩ : ∃ x, x = d.lb st := ⟨_, rfl⟩
        rw [← hxx] at l1 l2
        have hxne : (x != x) = false := by simp
        obtain ⟨br, ro, cr, s0, s1⟩ := hC.row st (by rw [← H.out.2.2.2.2.2.2.2.2.2.2.1]; exact hst)
        have tb := hxw.cell (htc i hlt)
        have hbr := H.out.2.2.2.2.2.2.2.2.2.1 _ (mem_getD (z := 0) (l := t) (i := i) (by rw [← H.out.2.2.2.2.2.2.2.2.2.2.2.1]; exact hlt))
        obtain ⟨b, hbb⟩ : ∃ b : Nat, (b : Int) = t.getD i 0 := ⟨(t.getD i 0).toNat, by omega⟩
        rw [← hbb] at tb hbr
        have hb256 : b < 256 := by omega
        have hcv : IntKind.i64.wrap (b : Int) = (b : Int) := IntWalk.i64_in _ (by omega)
        have e1 := s1 b hb256
        have htN := H.out.2.2.1.nx_lt (s := st) (c := b) (by rw [← H.out.2.2.2.2.2.2.2.2.2.2.1]; exact hst) hb256
        have hen := fun (W : World) (hW : Ext wr W) => entry_c (s := a) (b := b) ((H.out.2.2.2.2.2.2.1.ext hxw).ext hW) (built_may H.out.1) (by show a < (built l).next.length; rw [(built_len l).1, ← H.out.2.2.2.2.1]; exact han) hb256
        rw [built_entry l a hb256, hent.2 b hb256] at hen
        have hR : RM.entry d.aut B (d.nx st b) = if RM.liveB d.aut (d.nx st b) = true then ((B + RM.kcnt d.aut (d.nx st b) : Nat) : Int) else -1 := rfl
        obtain ⟨s2, hs2⟩ : ∃ s2, s2 = d.nx st b := ⟨_, rfl⟩
        rw [← hs2] at e1 htN hen hR
        have r0 := hx.cell HB.out.2.2.2.1
        have r1 := hx.cell HB.out.2.2.2.2.1
        have r2 := hx.cell HB.out.2.2.2.2.2.1
        have r3 := hx.cell HB.out.2.2.2.2.2.2.1
        rw [← H.out.2.2.2.2.2.2.2.2.2.2.1] at htN
        have lv := (rowIs_ext hxw H.out.2.2.2.2.2.2.2.1).cell htN
        obtain ⟨y, hy⟩ : ∃ y, y = RM.liveB d.aut s2 := ⟨_, rfl⟩
        rw [← hy] at lv hR
        have hj3 : (st : Int) < N := by omega
        have hj4 : (a : Int) < n := by omega
        have hj5 : (b : Int) < 256 := by omega
        have hj6 : (s2 : Int) < N := by omega
        have HE := Lib.hid (And.intro hx (And.intro hxw (And.intro hen (And.intro hR (And.intro hy (And.intro lv (And.intro e1 (And.intro s0 (And.intro r0 (And.intro r1 (And.intro r2 (And.intro r3 (And.intro r4 tb)))))))))))))
        clear r0 r1 r2 r3
        clear hs2
        clear hx hxw hen hR hy lv e1 s0 s1 hC hBT hent hbb hbr hxx htc hk ha
        go_wp2_with fail
        go_quiet (fail)
        go_wp2_with fail
        obtain ⟨w6, hw6⟩ : ∃ z, z = wr.drewN nq := ⟨_, rfl⟩
        have hx6 : Ext wr w6 := by rw [hw6]; exact (Ext.refl _).drewN nq
        rw [← hw6]
        have a0' := hx6.cell a0
        have tb' := hx6.cell tb
        have e1' := hx6.cell HE.out.2.2.2.2.2.2.1
        have s0' := hx6.cell HE.out.2.2.2.2.2.2.2.1
        have H6 := Lib.hid hx6
        clear hx6 hw6 a0 a1 r4 l1 l2 tb hxne
        go_quiet (fail)
        go_wp2_with fail
        obtain ⟨w7, hw7⟩ : ∃ z, z = w6.drewN nq := ⟨_, rfl⟩
        have hx7 : Ext wr w7 := by rw [hw7]; exact H6.out.drewN nq
        rw [← hw7]
        have H7 := Lib.hid hx7
        clear hw7 a0' tb' e1' s0' hx7
        have q0 := fun z => (H7.out.trans (grow_ext w7 z)).cell HE.out.2.2.2.2.2.2.2.2.1
        have q1 := fun z => (H7.out.trans (grow_ext w7 z)).cell HE.out.2.2.2.2.2.2.2.2.2.1
        have q2 := fun z => (H7.out.trans (grow_ext w7 z)).cell HE.out.2.2.2.2.2.2.2.2.2.2.1
        have q3 := fun z => (H7.out.trans (grow_ext w7 z)).cell HE.out.2.2.2.2.2.2.2.2.2.2.2.1
        have q4 := fun z => (H7.out.trans (grow_ext w7 z)).cell HE.out.2.2.2.2.2.2.2.2.2.2.2.2.1
        have q5 := fun z => (H7.out.trans (grow_ext w7 z)).cell HE.out.2.2.2.2.2.2.2.2.2.2.2.2.2
        have hcl := fun z => HE.out.2.2.1 _ (H7.out.trans (grow_ext w7 z))
        obtain ⟨en, hen⟩ : ∃ en, en = RM.entry d.aut B s2 := ⟨_, rfl⟩
        rw [← hen] at hcl
        have HC := Lib.hid (And.intro hcl hen)
        clear hcl hen
        refine wp_region_grow (by kernel_rfl) (by kernel_rfl) ?_
        repeat (go_big_quiet_step ((go_at_call 44; with_reducible exact calls_grow (HC.out.1 _))))
        refine wpQuiet_nil ?_
        rintro _ ⟨z, rfl⟩
        clear q0 q1 q2 q3 q4 q5
        obtain ⟨w8, hw8⟩ : ∃ W, W = growW w7 z := ⟨_, rfl⟩
        have hx8 : Ext wr w8 := by rw [hw8]; exact H7.out.trans (grow_ext w7 z)
        rw [← hw8]
        have lv := hx8.cell HE.out.2.2.2.2.2.1
        have r4 := hx8.cell HE.out.2.2.2.2.2.2.2.2.2.2.2.2.1
        have H8 := Lib.hid hx8
        clear hx8 hw8
        have hR := HE.out.2.2.2.1
        rw [← HC.out.2] at hR
        cases y
        · rw [if_neg (by simp)] at hR
          subst hR
          go_wp2
          go_ret
          exact ⟨rfl, HE.out.2.1.trans H8.out⟩
        · rw [if_pos rfl] at hR
          have hk2 := RM.keep_live (A := d.aut) (s := s2) HE.out.2.2.2.2.1.symm
          have hcn2 := RM.kcnt_lt (A := d.aut) (s := s2) (m := d.aut.n) (by show s2 < d.next.length; rw [← H.out.2.2.2.2.2.2.2.2.2.2.1]; exact htN) hk2
          obtain ⟨p, hp⟩ : ∃ p : Nat, p = B + RM.kcnt d.aut s2 := ⟨_, rfl⟩
          rw [← hp] at hR
          have hpn : (p : Int) < n := by omega
          have hp0 : 0 ≤ (p : Int) := by omega
          have HK := Lib.hid (And.intro hk2 hp)
          clear hk2 hp hcn hcn2 hbase
          subst hR
          go_wp2
          go_roundw
          case rel => exact ⟨HE.out.1.trans H8.out, i + 1, s2, by omega, htN, by go_num, rfl, by rw [← HK.out.2], HK.out.1⟩
          case measure => simp [intOf]; omega
      · have hj2 : ¬ (i : Int) < 60 := by omega
        have HE := Lib.hid (HB.out.1.trans hx)
        clear hx hk ha hcn hbase
        go_wp2
        go_ret
        exact ⟨rfl, HE.out⟩
    · have hj1 : ¬ (i : Int) < T := by omega
      have HE := Lib.hid (HB.out.1.trans hx)
      clear hx hk ha hcn hbase
      go_wp2
      go_ret
      exact ⟨rfl, HE.out⟩
end Go.Proofs.YtngbaaiocoobdaaDoor
