/- refiner.split. -/
import Derived.Test.YtpeipjfmibjoiaaDoorRefOps
import Derived.Deep.LoopGhost
import Derived.Deep.DeepCutAuto
namespace Go.Proofs.YtpeipjfmibjoiaaDoor
open Go.RowKit

/-- which states are hit: a row of the call's own, of tag 6 -/
structure HitS (w : World) (B : Nat) (own : Nat → Nat) (hv : Value) (N : Nat) (hit : Nat → Bool) : Prop where
  is : ∃ G cap, hv = .slice (some ⟨G, 0, none⟩) N cap ∧ own G = 6 ∧ ∀ s, s < N → w.cell? ⟨G, s, none⟩ = some (.bool (hit s))

theorem HitS.kept {w w' : World} {B : Nat} {own own' : Nat → Nat} {hv : Value} {N : Nat} {hit : Nat → Bool} (h : HitS w B own hv N hit) (hk : ∀ g, g < w.heap.size → own g = 6 → w'.heap[g]? = w.heap[g]? ∧ own' g = 6) (hN : 0 < N) : HitS w' B own' hv N hit := by
  obtain ⟨G, cap, h1, h2, h3⟩ := h.is
  have hg := hk G (World.block_lt_of_cell? _ _ (h3 0 hN)) h2
  exact ⟨G, cap, h1, hg.2, fun s hs => (World.cell?_of_block (a := ⟨G, s, none⟩) hg.1).trans (h3 s hs)⟩

def SplitR (w : World) (rb B : Nat) (own : Nat → Nat) (f : Nat → Value) (N : Nat) (P : Nat → Nat) (Bs : List (List Nat)) (L : List (Nat × Nat)) (mb n : Nat) (pre : Nat → Nat → List Nat) (hit : Nat → Bool) (b : Nat) (l : List Nat) (e : Ending) (w' : World) : Prop :=
  e = .returned (.tuple #[]) ∧ ∃ own' f' P' Bs' hs' L' n', RefS w' rb B own' f' N P' Bs' hs' L' mb n' pre ∧ (∀ i, i < 3 → f' i = f i) ∧ Bl (fun g => B ≤ g) w w' ∧ (∀ g, g < w.heap.size → own g = 6 → w'.heap[g]? = w.heap[g]? ∧ own' g = 6) ∧
    (((l.filter hit = [] ∨ (l.filter fun s => !hit s) = []) ∧ P' = P ∧ Bs' = Bs ∧ L' = L ∧ n' = n) ∨
     (l.filter hit ≠ [] ∧ (l.filter fun s => !hit s) ≠ [] ∧ (∀ s, s < N → P' s = LM.moved P (LM.parts hit l).2 Bs.length s) ∧ Bs' = Bs.set b (LM.parts hit l).1 ++ [(LM.parts hit l).2] ∧
      (∀ a, a < 256 → (Bs.length, a) ∈ L') ∧ (∀ p, p ∈ L → p ∈ L') ∧ (∀ p, p ∈ L' → p ∈ L ∨ p.1 = Bs.length ∧ p.2 < 256) ∧ L'.length ≤ L.length + 256 ∧ n' = n + 256))

theorem parts_len (hit : Nat → Bool) (l : List Nat) : (LM.parts hit l).1.length ≤ l.length ∧ (LM.parts hit l).2.length ≤ l.length := by
  unfold LM.parts
  simp only
  split
  · exact ⟨List.length_filter_le _ _, List.length_filter_le _ _⟩
  · exact ⟨List.length_filter_le _ _, List.length_filter_le _ _⟩

/-- the state in the loop that parts a block -/
structure PartS (w wr : World) (rb B : Nat) (own own' : Nat → Nat) (f : Nat → Value) (N : Nat) (P : Nat → Nat) (Bs : List (List Nat)) (hs : List Value) (L : List (Nat × Nat)) (mb n : Nat) (pre : Nat → Nat → List Nat) (hv : Value) (hit : Nat → Bool) (iv ov : Value) (il ol : List Nat) : Prop where
  ref : RefS wr rb B own' f N P Bs hs L mb n pre
  i : Loc wr B own' 7 iv il
  o : Loc wr B own' 8 ov ol
  hit : HitS wr B own' hv N hit
  bl : Bl (fun g => B ≤ g) w wr
  six : ∀ g, g < w.heap.size → own g = 6 → wr.heap[g]? = w.heap[g]? ∧ own' g = 6

theorem PartS.add {w wr : World} {rb B : Nat} {own own' : Nat → Nat} {f : Nat → Value} {N : Nat} {P : Nat → Nat} {Bs : List (List Nat)} {hs : List Value} {L : List (Nat × Nat)} {mb n : Nat} {pre : Nat → Nat → List Nat} {hv : Value} {hit : Nat → Bool} {iv ov : Value} {il ol : List Nat}
    (h : PartS w wr rb B own own' f N P Bs hs L mb n pre hv hit iv ov il ol) {t : Nat} {v v' : Value} {l : List Nat} {x : Nat} (ht : t = 7 ∨ t = 8) (hl : Loc wr B own' t v l) {W : World} (O : Obj)
    (hown : W.ownsRow B 3 1 v' (l.length + 1) (natV l ++ [.int .i64 (x : Int)])) (hg : (wr.alloc O).grownBy W v.ownBlock) (hat : v'.ownBlock = v.ownBlock ∨ v'.ownBlock = some (wr.alloc O).heap.size) :
    ∃ own'', Loc W B own'' t v' (l ++ [x]) ∧ RefS W rb B own'' f N P Bs hs L mb n pre ∧ (t = 8 → Loc W B own'' 7 iv il) ∧ (t = 7 → Loc W B own'' 8 ov ol) ∧ HitS W B own'' hv N hit ∧ Bl (fun g => B ≤ g) w W ∧ (∀ g, g < w.heap.size → own g = 6 → W.heap[g]? = w.heap[g]? ∧ own'' g = 6) := by
  have hs1 := h.bl.size
  obtain ⟨own'', h1, h2, h3⟩ := hl.append (Ext.box wr O) hown hg hat
  refine ⟨own'', h1, (h.ref.retag h2).keepT fun g hg' ho => h3 g hg' (by rw [h2 g hg'] at ho; omega), fun e => (h.i.retag h2).kept fun g hg' ho => h3 g hg' (by rw [h2 g hg'] at ho; omega),
    fun e => (h.o.retag h2).kept fun g hg' ho => h3 g hg' (by rw [h2 g hg'] at ho; omega), h.hit.kept (fun g hg' ho => ⟨h3 g hg' (by omega), (h2 g hg').trans ho⟩) h.ref.pos,
    (h.bl.trans (.of_ext (Ext.box wr O))).grown hg (fun g e => .inl (hl.1.lt g e).1), fun g hg' ho => ?_⟩
  have h4 := h.six g hg' ho
  exact ⟨(h3 g (by omega) (by omega)).trans h4.1, (h2 g (by omega)).trans h4.2⟩

set_option maxRecDepth 100000 in
set_option maxHeartbeats 1000000 in
theorem split_c {w : World} {rb B : Nat} {own : Nat → Nat} {f : Nat → Value} {N : Nat} {P : Nat → Nat} {Bs : List (List Nat)} {hs : List Value} {L : List (Nat × Nat)} {mb n : Nat} {pre : Nat → Nat → List Nat} {hv : Value} {hit : Nat → Bool}
    (h : RefS w rb B own f N P Bs hs L mb n pre) (hH : HitS w B own hv N hit) (hB : LM.Blk N P Bs) (hN : N ≤ 600) (hn : n ≤ 200000) (hL : L.length ≤ 200000) {b : Nat} {l : List Nat} (hb : Bs[b]? = some l) :
    Calls Tryd.prog 135 #[.pointer (some ⟨rb, 0, none⟩), .int .i64 (b : Int), hv] w (SplitR w rb B own f N P Bs L mb n pre hit b l) := by
  obtain ⟨G, capG, rfl, _, _⟩ := id hH.is
  have hpos := h.pos
  have hbl : b < Bs.length := (List.getElem?_eq_some_iff.1 hb).1
  have hcount := hB.count
  have hll := hB.len hb
  have hmem := hB.mem b l hb
  have hhl : hs.length = Bs.length := by have := h.tab.1; omega
  obtain ⟨g4, c4, hf4, hg4, hg4'⟩ := own_slc h.tab (by omega)
  have hl0 : 0 < l.length := by
    have := hB.ne b l hb
    cases l with
    | nil => exact absurd rfl this
    | cons _ _ => simp
  obtain ⟨hvb, hvb'⟩ : ∃ x, hs[b]? = some x := ⟨_, List.getElem?_eq_getElem (by omega)⟩
  obtain ⟨gr, cr, hgr, hgr1, hgr2⟩ := own_slc (h.rows b hvb l hvb' hb).1 hl0
  subst hgr
  have c4c := h.row.cell (i := 4) (by omega)
  rw [hf4] at c4c
  have htab := h.tab
  rw [hf4] at htab
  have hhb : w.cell? ⟨g4, b, none⟩ = some (.slice (some ⟨gr, 0, none⟩) l.length cr) := by rw [htab.cellAt b (by omega)]; exact hvb'
  have H := Lib.hid h
  have HH := Lib.hid hH
  have HB := Lib.hid hB
  obtain ⟨K, hK⟩ : ∃ K, K = Bs.length := ⟨_, rfl⟩
  have HK := Lib.hid hK
  obtain ⟨Ln, hLn⟩ : ∃ Ln, Ln = l.length := ⟨_, rfl⟩
  have HLn := Lib.hid hLn
  have HM := Lib.hid hmem
  have HG := Lib.hid (And.intro hb (And.intro hvb' (And.intro hf4 hhl)))
  rw [← hK] at hbl hcount c4c
  rw [← hLn] at hll hl0 hhb
  have hj1 : (b : Int) < K := by omega
  clear h hH hB hK hLn hmem hb hvb' hf4 htab hhl
  obtain ⟨i0, hi, hz0, hz1, hz2⟩ := info_parts int_info
  go_enter Tryd.func135, Tryd.ntmps135
  go_wp2
  clear c4c hhb
  go_loopw [6, 7, 22] (fun iv ov kv wr => ∃ (k : Nat) (own' : Nat → Nat), k ≤ Ln ∧ kv = .int .i64 k ∧ PartS w wr rb B own own' f N P Bs hs L mb n pre (.slice (some ⟨G, 0, none⟩) N capG) hit iv ov ((l.take k).filter hit) ((l.take k).filter fun s => !hit s)) (fun _ _ kv _ => Ln - (intOf kv).toNat)
  case atStart => exact ⟨0, own, Nat.zero_le _, rfl, H.out, Loc.nil _ _ _ _, Loc.nil _ _ _ _, HH.out, Bl.refl _ _, fun g _ e => ⟨rfl, e⟩⟩
  case round =>
    obtain ⟨k, own', hk, rfl, hP⟩ := hrel
    by_cases hlt : k < Ln
    · obtain ⟨x, hx⟩ : ∃ x, l[k]? = some x := ⟨_, List.getElem?_eq_getElem (by rw [← HLn.out]; exact hlt)⟩
      have hxN := ((HM.out x).1 (List.mem_of_getElem? hx)).1
      have hgx : l.getD k 0 = x := by rw [List.getD_eq_getElem?_getD, hx]; rfl
      have c1 : wr.cell? ⟨gr, k, none⟩ = some (.int .i64 (x : Nat)) := by
        have h1 := (hP.ref.rows b _ l HG.out.2.1 HG.out.1).1
        rw [h1.cellAt k (by rw [← HLn.out]; omega), natV_get (by rw [← HLn.out]; exact hlt), hgx]
      have c2 : wr.cell? ⟨G, x, none⟩ = some (.bool (hit x)) := by
        obtain ⟨G', cap', e, _, hc⟩ := hP.hit.is
        have e2 : G = G' := by simpa using congrArg (fun v => match v with | Value.slice (some a) _ _ => a.block | _ => 0) e
        rw [e2]; exact hc x hxN
      have htk : l.take (k + 1) = l.take k ++ [x] := take_snoc' hx
      have HTK := Lib.hid htk
      have HPP := Lib.hid hP
      have hle1 : ((l.take k).filter hit).length ≤ 600 := Nat.le_trans (List.length_filter_le _ _) (by rw [List.length_take]; omega)
      have hle2 : ((l.take k).filter fun s => !hit s).length ≤ 600 := Nat.le_trans (List.length_filter_le _ _) (by rw [List.length_take]; omega)
      have hbase : B ≤ (wr.alloc (.cells #[.int .i64 (x : Int)] 3)).heap.size := by have := hP.bl.size; simp; omega
      have hcell := cell_one_new wr (.int .i64 (x : Int)) 3
      have h1c : ∀ u ∈ [Value.int .i64 (x : Int)], u.oneCell' = true := by intro u hu; simp at hu; subst hu; rfl
      have hj2 : (x : Int) < N := by omega
      cases hh : hit x with
      | true =>
        rw [hh] at c2
        have HHX := Lib.hid hh
        have hown := hP.i.1.alloc (.cells #[.int .i64 (x : Int)] 3)
        have hmax : ((l.take k).filter hit).length + 1 ≤ maxLen := by unfold maxLen; omega
        have hmax2 : (((l.take k).filter hit).length + 1) * 8 ≤ 140737488355328 := by omega
        clear hx hgx htk hP hh hle1 hle2
        go_wp2_with (at_builtin; refine wpList_append_own_at _ rfl _ _ 23 rfl B 3 i0 (.int .i64 0) 1 8 Tryd.underlying23 hi hz0 hz1 hz2 rfl (by decide) _ _ _ rfl hown ⟨wr.heap.size, 0, none⟩ 1 1 [.int .i64 (x : Int)] rfl rfl hcell h1c hmax hmax2 hbase ?_; intro v' W hown' hg _ hat)
        obtain ⟨own'', a1, a2, a3, a4, a5, a6, a7⟩ := HPP.out.add (.inl rfl) HPP.out.i (.cells #[.int .i64 (x : Int)] 3) hown' hg hat
        go_roundw
        case rel =>
          refine ⟨k + 1, own'', by omega, by go_num, a2, ?_, ?_, a5, a6, a7⟩
          · rw [HTK.out, List.filter_append, List.filter_cons, HHX.out]; exact a1
          · rw [HTK.out, List.filter_append, List.filter_cons, HHX.out]; simpa using a4 rfl
        case measure => simp [intOf]; omega
      | false =>
        rw [hh] at c2
        have HHX := Lib.hid hh
        have hown := hP.o.1.alloc (.cells #[.int .i64 (x : Int)] 3)
        have hmax : ((l.take k).filter fun s => !hit s).length + 1 ≤ maxLen := by unfold maxLen; omega
        have hmax2 : (((l.take k).filter fun s => !hit s).length + 1) * 8 ≤ 140737488355328 := by omega
        clear hx hgx htk hP hh hle1 hle2
        go_wp2_with (at_builtin; refine wpList_append_own_at _ rfl _ _ 23 rfl B 3 i0 (.int .i64 0) 1 8 Tryd.underlying23 hi hz0 hz1 hz2 rfl (by decide) _ _ _ rfl hown ⟨wr.heap.size, 0, none⟩ 1 1 [.int .i64 (x : Int)] rfl rfl hcell h1c hmax hmax2 hbase ?_; intro v' W hown' hg _ hat)
        obtain ⟨own'', a1, a2, a3, a4, a5, a6, a7⟩ := HPP.out.add (.inr rfl) HPP.out.o (.cells #[.int .i64 (x : Int)] 3) hown' hg hat
        go_roundw
        case rel =>
          refine ⟨k + 1, own'', by omega, by go_num, a2, ?_, ?_, a5, a6, a7⟩
          · rw [HTK.out, List.filter_append, List.filter_cons, HHX.out]; simpa using a3 rfl
          · rw [HTK.out, List.filter_append, List.filter_cons, HHX.out]; exact a1
        case measure => simp [intOf]; omega
    · obtain rfl : Ln = k := by omega
      rw [HLn.out, List.take_length] at hP
      obtain ⟨ai, ci, hiv, _, hci, _⟩ := own_read hP.i.1
      obtain ⟨ao, co, hov, _, hco, _⟩ := own_read hP.o.1
      subst hiv
      subst hov
      have HPP := Lib.hid hP
      obtain ⟨il, hil⟩ : ∃ il, il = l.filter hit := ⟨_, rfl⟩
      obtain ⟨ol, hol⟩ : ∃ ol, ol = l.filter fun s => !hit s := ⟨_, rfl⟩
      rw [← hil, ← hol] at HPP
      rw [← hil, ← hol]
      have HIL := Lib.hid (And.intro hil hol)
      obtain ⟨ni, hni⟩ : ∃ ni, ni = il.length := ⟨_, rfl⟩
      obtain ⟨no, hno⟩ : ∃ no, no = ol.length := ⟨_, rfl⟩
      rw [← hni, ← hno]
      have HNI := Lib.hid (And.intro hni hno)
      clear hci hco hP hil hol hni hno hlt
      by_cases h0 : ni = 0
      · subst h0
        go_wp2
        go_end0
        have e : il = [] := List.eq_nil_of_length_eq_zero HNI.out.1.symm
        exact ⟨rfl, own', f, P, Bs, hs, L, n, HPP.out.ref, fun _ _ => rfl, HPP.out.bl, HPP.out.six, .inl ⟨.inl (by rw [← HIL.out.1]; exact e), rfl, rfl, rfl, rfl⟩⟩
      · have h0' : ((ni : Int) == 0) = false := by simp; omega
        by_cases h1 : no = 0
        · subst h1
          have H0 := Lib.hid h0
          clear h0
          go_wp2
          go_end0
          have e : ol = [] := List.eq_nil_of_length_eq_zero HNI.out.2.symm
          exact ⟨rfl, own', f, P, Bs, hs, L, n, HPP.out.ref, fun _ _ => rfl, HPP.out.bl, HPP.out.six, .inl ⟨.inr (by rw [← HIL.out.2]; exact e), rfl, rfl, rfl, rfl⟩⟩
        · have h1' : ((no : Int) == 0) = false := by simp; omega
          have H0 := Lib.hid (And.intro h0 h1)
          clear h0 h1
          go_upto_if 51 with fail
          go_cut [6, 7] (fun v6 v7 wx => wx = wr ∧ ∃ (am ap : Option Addr) (cm cp : Nat) (ml sl : List Nat) (tm ts : Nat), v6 = .slice am ml.length cm ∧ v7 = .slice ap sl.length cp ∧ (sl, ml) = LM.parts hit l ∧ ((tm = 7 ∧ ts = 8) ∨ (tm = 8 ∧ ts = 7)) ∧
            Loc wx B own' tm v6 ml ∧ Loc wx B own' ts v7 sl)
          case first =>
            have hp : LM.parts hit l = if ol.length < il.length then (il, ol) else (ol, il) := by rw [LM.parts, HIL.out.1, HIL.out.2]
            by_cases hgt : no < ni
            · have hgt' : (no : Int) < ni := by omega
              go_wp2_with fail
              go_meet
              exact ⟨rfl, ao, ai, co, ci, ol, il, 8, 7, by rw [HNI.out.2], by rw [HNI.out.1], by rw [hp, if_pos (by rw [← HNI.out.1, ← HNI.out.2]; exact hgt)], .inr ⟨rfl, rfl⟩, by have := HPP.out.o; rw [HNI.out.2] at *; exact this, by have := HPP.out.i; rw [HNI.out.1] at *; exact this⟩
            · have hgt' : ¬ (no : Int) < ni := by omega
              go_wp2_with fail
              go_meet
              exact ⟨rfl, ai, ao, ci, co, il, ol, 7, 8, by rw [HNI.out.1], by rw [HNI.out.2], by rw [hp, if_neg (by rw [← HNI.out.1, ← HNI.out.2]; exact hgt)], .inl ⟨rfl, rfl⟩, by have := HPP.out.i; rw [HNI.out.1] at *; exact this, by have := HPP.out.o; rw [HNI.out.2] at *; exact this⟩
          case rest =>
            obtain ⟨rfl, am, ap, cm, cp, ml, sl, tm, ts, rfl, rfl, hparts, htt, hlm, hls⟩ := hcut
            have HQ := Lib.hid (And.intro hparts (And.intro htt (And.intro hlm hls)))
            have hrow := HPP.out.ref.row
            have c4c := hrow.cell (i := 4) (by omega)
            rw [HG.out.2.2.1, ← HK.out] at c4c
            have htab := HPP.out.ref.tab
            rw [HG.out.2.2.1] at htab
            have c4h : ∃ u, wc.cell? ⟨g4, b, none⟩ = some u := ⟨_, (htab.cellAt b (by have := hbl; rw [HK.out] at this; omega)).trans HG.out.2.1⟩
            obtain ⟨u4, c4h⟩ := c4h
            have f4h := htab.frozenAt b
            clear hparts htt hlm hls htab hrow
            go_upto_region 13 with fail
            have hts : ts = 7 ∨ ts = 8 := by have := HQ.out.2.1; omega
            have htm : tm = 7 ∨ tm = 8 := by have := HQ.out.2.1; omega
            obtain ⟨own2, hR2, s6, s7, s8⟩ := HPP.out.ref.setRow HQ.out.2.2.2 hts (b := b) (by rw [← HK.out]; exact hbl) (g2 := g4) (c2 := c4) HG.out.2.2.1
            have hmm : Loc (wc.setCell ⟨g4, b, none⟩ (.slice ap sl.length cp)) B own2 tm (.slice am ml.length cm) ml := by
              refine ⟨own_block HQ.out.2.2.1.1 fun g hg _ => Below.heap_setCell _ _ _ _ ?_, fun g hg => ?_⟩
              · have h1 := HQ.out.2.2.1.2 g hg
                have h2 := HPP.out.ref.tabT g4 (by rw [HG.out.2.2.1]; rfl)
                simp only [ne_eq]; rintro rfl; omega
              · have h1 := HQ.out.2.2.1.2 g hg
                rcases HQ.out.2.1 with ⟨e1, e2⟩ | ⟨e1, e2⟩
                · rw [e1] at h1 ⊢; exact s7 g h1 (by omega)
                · rw [e1] at h1 ⊢; exact s8 g h1 (by omega)
            generalize hW1 : World.setCell wc _ _ = W1 at hR2 hmm ⊢
            have hbl1 : Bl (fun g => B ≤ g) w W1 := by rw [← hW1]; exact HPP.out.bl.setCell (.inl hg4) _
            have hsix1 : ∀ g, g < w.heap.size → own g = 6 → W1.heap[g]? = w.heap[g]? ∧ own2 g = 6 := fun g h1 h2 => by
              have h3 := HPP.out.six g h1 h2
              refine ⟨?_, s6 g h3.2⟩
              rw [← h3.1, ← hW1]
              refine Below.heap_setCell _ _ _ _ ?_
              have h4 := HPP.out.ref.tabT g4 (by rw [HG.out.2.2.1]; rfl)
              simp only [ne_eq]; rintro rfl; omega
            clear hW1 c4c c4h f4h
            obtain ⟨j0, hj, hw0, hw1, hw2⟩ := info_parts slice_info
            have hset : (Bs.set b sl).length = K := by rw [List.length_set, HK.out]
            have r1 := hR2.row
            have c41 := r1.cell (i := 4) (by omega)
            rw [HG.out.2.2.1, ← HK.out] at c41
            have htab1 := hR2.tab
            rw [hset, HG.out.2.2.1, ← HK.out] at htab1
            have hown1 := htab1.alloc (.cells #[.slice am ml.length cm] 23)
            have hcell := cell_one_new W1 (.slice am ml.length cm) 23
            have h1c : ∀ u ∈ [Value.slice am ml.length cm], u.oneCell' = true := by intro u hu; simp at hu; subst hu; rfl
            have hbase : B ≤ (W1.alloc (.cells #[.slice am ml.length cm] 23)).heap.size := by have := hbl1.size; simp; omega
            have hmax : K + 1 ≤ maxLen := by unfold maxLen; omega
            have hrB := hR2.rbB
            have hrl := r1.lt
            have hmlen : ml.length ≤ 600 := by
              have h1 := (parts_len hit l).2
              rw [← HQ.out.1, ← HLn.out] at h1
              have h1 : ml.length ≤ Ln := h1
              omega
            have hrg : rb ≠ g4 := by
              have h1 := hR2.rbT
              have h2 := hR2.tabT g4 (by rw [HG.out.2.2.1]; rfl)
              rintro rfl; omega
            obtain ⟨nm, hnm⟩ : ∃ nm, nm = ml.length := ⟨_, rfl⟩
            rw [← hnm] at hmm hown1 hcell h1c hbase ⊢
            have HNM := Lib.hid hnm
            have HMM := Lib.hid (And.intro hmm (And.intro hR2 hset))
            have HR1 := Lib.hid r1
            clear hnm hmm hR2 hset r1 htab1
            go_wp2_with (at_builtin; refine wpList_append_own_at _ rfl _ _ 22 rfl B 23 j0 (.slice none 0 0) 1 24 Tryd.underlying22 hj hw0 hw1 hw2 rfl (by decide) (.slice (some ⟨g4, 0, none⟩) K c4) K _ rfl hown1 ⟨W1.heap.size, 0, none⟩ 1 1 [.slice am nm cm] rfl rfl hcell h1c hmax (by omega) hbase ?_; intro v' W hown' hg _ hat; obtain ⟨gg, cap, hv', hgg1, hgg2⟩ := own_slc hown' (by omega); subst hv'; have r4 : W.rowIs rb 160 7 f := (HR1.out.alloc (.cells #[.slice am nm cm] 23)).of_block (hg.block rb (by simp; omega) (by simp only [Value.ownBlock, ne_eq, Option.some.injEq]; exact hrg)); have c4W := r4.cell (i := 4) (by omega); have f4W := r4.frozen 4)
            obtain ⟨own3, hR3, q6, q7, q8⟩ := HMM.out.2.1.addRow (.cells #[.slice am nm cm] 23) HMM.out.1 htm (gg := gg) (cap := cap) (by rw [HMM.out.2.2]; exact hown') (by rw [HG.out.2.2.1]; exact ⟨hg.os, hg.tape, hg.output, hg.size, hg.block⟩)
              (by rw [HG.out.2.2.1]; rcases hat with h1 | h1
                  · left; simpa [Value.ownBlock] using h1.symm
                  · right; simpa [Value.ownBlock] using h1)
            rw [HMM.out.2.2] at hR3 q7 q8
            obtain ⟨g1, c1, hf3, hg1a, hg1b⟩ := own_slc H.out.block hpos
            have hbl2 : Bl (fun g => B ≤ g) w (W.setCell ⟨rb, 4, none⟩ (.slice (some ⟨gg, 0, none⟩) (K + 1) cap)) :=
              ((hbl1.trans (.of_ext (Ext.box W1 _))).grown hg (fun g e => .inl (by simp only [Value.ownBlock, Option.some.injEq] at e; omega))).setCell (.inl hrB) _
            have hsix2 : ∀ g, g < w.heap.size → own g = 6 → (W.setCell ⟨rb, 4, none⟩ (.slice (some ⟨gg, 0, none⟩) (K + 1) cap)).heap[g]? = w.heap[g]? ∧ own3 g = 6 := fun g h1 h2 => by
              have h3 := hsix1 g h1 h2
              have h4 := hbl1.size
              exact ⟨(q8 g (by omega) (by omega) (by omega)).trans h3.1, q6 g (by omega) h3.2⟩
            generalize World.setCell W _ _ = W2 at hR3 q8 hbl2 hsix2 ⊢
            obtain ⟨f3, hff⟩ : ∃ f3, f3 = (fun i => if i = 4 then Value.slice (some ⟨gg, 0, none⟩) (K + 1) cap else f i) := ⟨_, rfl⟩
            rw [← hff] at hR3
            have hf33 : f3 3 = .slice (some ⟨g1, 0, none⟩) N c1 := by rw [hff]; exact hf3
            have HF3 := Lib.hid (And.intro hff hf33)
            obtain ⟨B2, hB2⟩ : ∃ B2, B2 = Bs.set b sl ++ [ml] := ⟨_, rfl⟩
            obtain ⟨h2, hh2⟩ : ∃ h2, h2 = hs.set b (.slice ap sl.length cp) ++ [.slice am nm cm] := ⟨_, rfl⟩
            rw [← hB2, ← hh2] at hR3
            have HBH := Lib.hid (And.intro hB2 hh2)
            clear hff hf33 hB2 hh2 hf3 hg hat hown' r4 c4W f4W hcell h1c hbase hown1 q6 q7 q8 hbl1 hsix1 c41 HMM HR1 hgg1 hgg2
            go_loopw [78] (fun kv wr => ∃ k : Nat, k ≤ nm ∧ kv = .int .i64 k ∧ RefS wr rb B own3 f3 N (fun s => if s ∈ ml.take k then K else P s) B2 h2 L mb n pre ∧ Bl (fun g => B ≤ g) w wr ∧ (∀ g, g < w.heap.size → own g = 6 → wr.heap[g]? = w.heap[g]? ∧ own3 g = 6)) (fun kv _ => nm - (intOf kv).toNat)
            case atStart => exact ⟨0, Nat.zero_le _, rfl, by simpa using hR3, hbl2, hsix2⟩
            case round =>
              clear hR3 hbl2 hsix2
              obtain ⟨k, hk, rfl, hR, hbl, hsix⟩ := hrel
              by_cases hlt : k < nm
              · have hkm : k < ml.length := by rw [← HNM.out]; exact hlt
                obtain ⟨x, hx⟩ : ∃ x, ml[k]? = some x := ⟨_, List.getElem?_eq_getElem hkm⟩
                have hxl : x ∈ l := by
                  obtain ⟨v, _, p2⟩ := LM.parts_mem hit l
                  rw [← HQ.out.1] at p2
                  exact ((p2 x).1 (List.mem_of_getElem? hx)).1
                have hxN := ((HM.out x).1 hxl).1
                have hgx : ml.getD k 0 = x := by rw [List.getD_eq_getElem?_getD, hx]; rfl
                have hhK : h2[K]? = some (.slice am nm cm) := by
                  rw [HBH.out.2, List.getElem?_append_right (by rw [List.length_set, HG.out.2.2.2, HK.out]; exact Nat.le_refl _), List.length_set, HG.out.2.2.2, HK.out, Nat.sub_self]; rfl
                have hbK : B2[K]? = some ml := by
                  rw [HBH.out.1, List.getElem?_append_right (by rw [List.length_set, HK.out]; exact Nat.le_refl _), List.length_set, HK.out, Nat.sub_self]; rfl
                have hrow := (hR.rows K _ ml hhK hbK).1
                rw [← HNM.out] at hrow
                obtain ⟨ga, ca, hva, _, _⟩ := own_slc hrow (by omega)
                simp only [Value.slice.injEq] at hva
                obtain ⟨rfl, _, rfl⟩ := hva
                have e1 : wr.cell? ⟨ga, k, none⟩ = some (.int .i64 (x : Nat)) := by rw [hrow.cellAt k (by omega), natV_get hkm, hgx]
                have e2 := hR.row.cell (i := 3) (by omega)
                rw [HF3.out.2] at e2
                have hbb := hR.block
                rw [HF3.out.2] at hbb
                obtain ⟨u, e3⟩ : ∃ u, wr.cell? ⟨g1, x, none⟩ = some u := by
                  rw [hbb.cellAt x (by omega)]
                  exact ⟨_, natV_get (by simp; exact hxN)⟩
                have f3f := hbb.frozenAt x
                have hR' := hR.setBlock (x := K) hxN HF3.out.2
                have hbl' : Bl (fun g => B ≤ g) w (wr.setCell ⟨g1, x, none⟩ (.int .i64 (K : Int))) := hbl.setCell (.inl hg1a) _
                have hsix' : ∀ g, g < w.heap.size → own g = 6 → (wr.setCell ⟨g1, x, none⟩ (.int .i64 (K : Int))).heap[g]? = w.heap[g]? ∧ own3 g = 6 := fun g q1 q2 => by
                  have q3 := hsix g q1 q2
                  refine ⟨(Below.heap_setCell _ _ _ _ ?_).trans q3.1, q3.2⟩
                  have q4 := hR.blockT g1 (by rw [HF3.out.2]; rfl)
                  simp only [ne_eq]; rintro rfl; omega
                have hj2 : (x : Int) < N := by omega
                have htk : ml.take (k + 1) = ml.take k ++ [x] := take_snoc' hx
                have HRR := Lib.hid (And.intro hR' (And.intro hbl' (And.intro hsix' htk)))
                clear hx hxl hgx hhK hbK hrow hbb hR hbl hsix hR' hbl' hsix' htk
                go_wp2
                go_roundw
                case rel =>
                  refine ⟨k + 1, by omega, by go_num, ?_, HRR.out.2.1, HRR.out.2.2.1⟩
                  have e : (fun s => if s ∈ ml.take (k + 1) then K else P s) = (fun s' => if s' = x then K else if s' ∈ ml.take k then K else P s') := by
                    funext s
                    rw [HRR.out.2.2.2]
                    by_cases q1 : s = x
                    · simp [q1]
                    · by_cases q2 : s ∈ ml.take k <;> simp [q1, q2]
                  rw [e]; exact HRR.out.1
                case measure => simp [intOf]; omega
              · obtain rfl : nm = k := by omega
                rw [HNM.out, List.take_length] at hR
                clear hlt
                go_wp2
                go_loopw [13, 90] (fun _ cv wi => ∃ (c : Nat) (own' : Nat → Nat) (f' : Nat → Value) (L' : List (Nat × Nat)), c ≤ 256 ∧ cv = .int .i64 c ∧ RefS wi rb B own' f' N (fun s => if s ∈ ml then K else P s) B2 h2 L' mb (n + c) pre ∧ (∀ i, i ≠ 5 → f' i = f3 i) ∧ Bl (fun g => B ≤ g) w wi ∧
                  (∀ g, g < w.heap.size → own g = 6 → wi.heap[g]? = w.heap[g]? ∧ own' g = 6) ∧ (∀ a, a < c → (K, a) ∈ L') ∧ (∀ p, p ∈ L → p ∈ L') ∧ (∀ p, p ∈ L' → p ∈ L ∨ p.1 = K ∧ p.2 < 256) ∧ L'.length ≤ L.length + c) (fun _ cv _ => 256 - (intOf cv).toNat)
                case atStart => exact ⟨0, own3, f3, L, Nat.zero_le _, rfl, hR, fun _ _ => rfl, hbl, hsix, fun a ha => by omega, fun p hp => hp, fun p hp => .inl hp, by omega⟩
                case round =>
                  clear hR hbl hsix
                  obtain ⟨c, own', f', L', hc, rfl, hR, hf', hbl, hsix, hin, hsub, hsup, hlen⟩ := hrel
                  have HX := Lib.hid (And.intro hR (And.intro hf' (And.intro hbl (And.intro hsix (And.intro hin (And.intro hsub (And.intro hsup hlen)))))))
                  clear hR hf' hbl hsix hin hsub hsup hlen
                  by_cases hc256 : c < 256
                  · have hp := push_r HX.out.1 (x := K) (y := c) (by omega) (by omega) (by omega) (by have := HX.out.2.2.2.2.2.2.2; omega)
                    unfold splV at hp
                    have HPU := Lib.hid hp
                    clear hp
                    go_wp2_with fail
                    refine HPU.out.mono ?_
                    rintro e w9 ⟨rfl, own9, f9, L9, z1, z2, z3, z4, z5, z6, z7, z8, z9⟩
                    have HZ := Lib.hid (And.intro z1 (And.intro z2 (And.intro z3 (And.intro z4 (And.intro z5 (And.intro z6 (And.intro z7 (And.intro z8 z9))))))))
                    clear z1 z2 z3 z4 z5 z6 z7 z8 z9
                    go_wp2
                    go_roundw
                    case rel =>
                      obtain ⟨z1, z2, z3, z4, z5, z6, z7, z8, z9⟩ := HZ.out
                      obtain ⟨y1, y2, y3, y4, y5, y6, y7, y8⟩ := HX.out
                      refine ⟨c + 1, own9, f9, L9, by omega, by go_num, z1, fun i hi => (z2 i hi).trans (y2 i hi), y3.trans z4, fun g q1 q2 => ?_, fun a ha => ?_, fun p hp => z6 p (y6 p hp), fun p hp => ?_, by omega⟩
                      · have q3 := y4 g q1 q2
                        have q4 := y3.size
                        exact ⟨(z9 g (by omega) (by omega)).trans q3.1, (z3 g (by omega)).trans q3.2⟩
                      · by_cases e : a = c
                        · rw [e]; exact z5
                        · exact z6 _ (y5 a (by omega))
                      · rcases z7 p hp with q1 | q1
                        · exact y7 p q1
                        · right; rw [q1]; exact ⟨rfl, hc256⟩
                    case measure => simp [intOf]; omega
                  · obtain rfl : c = 256 := by omega
                    go_wp2
                    go_end0
                    obtain ⟨y1, y2, y3, y4, y5, y6, y7, y8⟩ := HX.out
                    have hne : il ≠ [] ∧ ol ≠ [] := ⟨fun e => H0.out.1 (by rw [HNI.out.1, e]; rfl), fun e => H0.out.2 (by rw [HNI.out.2, e]; rfl)⟩
                    refine ⟨rfl, own', f', _, B2, h2, L', n + 256, y1, fun i hi => ?_, y3, y4, .inr ⟨by rw [← HIL.out.1]; exact hne.1, by rw [← HIL.out.2]; exact hne.2, fun s _ => ?_, ?_, ?_, y6, ?_, y8, rfl⟩⟩
                    · rw [y2 i (by omega), HF3.out.1]; exact if_neg (by omega)
                    · rw [← HQ.out.1, ← HK.out]; rfl
                    · rw [HBH.out.1, ← HQ.out.1]
                    · rw [← HK.out]; exact y5
                    · rw [← HK.out]; exact y7
end Go.Proofs.YtpeipjfmibjoiaaDoor
