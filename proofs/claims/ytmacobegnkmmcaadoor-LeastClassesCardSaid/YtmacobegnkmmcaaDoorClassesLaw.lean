/- bolterlaw12.LeastClasses. -/
import Derived.Test.YtmacobegnkmmcaaDoorClassMath
import Derived.Test.YtmacobegnkmmcaaDoorBegun12
import Derived.Test.YtmacobegnkmmcaaDoorEqDense
import Derived.Test.YtmacobegnkmmcaaDoorMay
import Derived.Test.YtmacobegnkmmcaaDoorLeast
import Derived.Test.YtmacobegnkmmcaaDoorDenseForm
namespace Go.Proofs.YtmacobegnkmmcaaDoor
open Go.RowKit

set_option maxRecDepth 100000 in
set_option maxHeartbeats 1000000 in
theorem classesL_skip (hwk : Wakes12) {v : Value} {d : Dn} {w : World} (h : DenseV w v d) (hno : ¬ (d.next.length ≤ 14 ∧ May d)) :
    Calls Tryd.prog 6 #[v] w fun e w' => e = .returned (.bool true) ∧ Ext w w' := by
  obtain ⟨an, cn, al, cl, rfl, ho⟩ := h.open
  have hn := ho.n
  obtain ⟨n, hnn⟩ : ∃ n, n = d.next.length := ⟨_, rfl⟩
  rw [← hnn] at hn hno h ⊢
  have H := Lib.hid h
  clear hnn ho
  by_cases h40 : 14 < n
  · have h40' : (14 : Int) < n := by omega
    go_enter Tryd.func6, Tryd.ntmps6
    go_wp2_with fail
    refine (hwk _).mono ?_
    rintro e w1 ⟨rfl, hx1⟩
    go_wp2
    go_ret
    exact ⟨rfl, (Ext.box _ _).trans hx1⟩
  · have h40' : ¬ (14 : Int) < n := by omega
    have hm : ¬ May d := fun hm => hno ⟨by omega, hm⟩
    have hmb := mayB_false hm
    clear hno h hm
    go_enter Tryd.func6, Tryd.ntmps6
    go_wp2_with fail
    refine (may_c (H.out.ext (Ext.box _ _))).mono ?_
    rintro e w1 ⟨rfl, hx1⟩
    go_wp2_with fail
    refine (hwk _).mono ?_
    rintro e w2 ⟨rfl, hx2⟩
    go_wp2
    go_ret
    exact ⟨rfl, ((Ext.box _ _).trans hx1).trans hx2⟩

theorem dense_info12 : (Tryd.prog.info? 25).map (fun i => (i.zero, i.size, i.bytes)) = some (some (.agg #[.slice none 0 0, .slice none 0 0]), 2, 48) := by kernel_rfl

def pairCells (hs : List (Value × Value)) : List Value := hs.flatMap fun p => [p.1, p.2]
theorem pairCells_len (hs : List (Value × Value)) : (pairCells hs).length = hs.length * 2 := by
  unfold pairCells
  induction hs with
  | nil => rfl
  | cons q L ih => simp only [List.flatMap_cons, List.length_append, List.length_cons, List.length_nil, ih]; omega
theorem pairCells_snoc (hs : List (Value × Value)) (p : Value × Value) : pairCells (hs ++ [p]) = pairCells hs ++ [p.1, p.2] := by simp [pairCells]
theorem pairCells_get {hs : List (Value × Value)} {j : Nat} {p : Value × Value} (h : hs[j]? = some p) : (pairCells hs)[j * 2]? = some p.1 ∧ (pairCells hs)[j * 2 + 1]? = some p.2 := by
  induction hs generalizing j with
  | nil => simp at h
  | cons q L ih =>
    cases j with
    | zero => simp at h; subst h; exact ⟨rfl, rfl⟩
    | succ j =>
      have h1 := ih (j := j) (by simpa using h)
      have e : pairCells (q :: L) = q.1 :: q.2 :: pairCells L := rfl
      rw [e, show (j + 1) * 2 = j * 2 + 1 + 1 by omega, show j * 2 + 1 + 1 + 1 = (j * 2 + 1) + 1 + 1 by omega]
      simpa using h1

/-- the least automata, begun at the first i states, in a row of the call's own -/
structure FromR (w wr : World) (B : Nat) (fv : Value) (i : Nat) (hs : List (Value × Value)) (ls : List Dn) (d : Dn) : Prop where
  ext : Ext w wr
  row : wr.ownsRow B 25 2 fv i (pairCells hs)
  hB : w.heap.size ≤ B
  len : hs.length = i
  llen : ls.length = i
  ds : ∀ (j : Nat) (p : Value × Value) (l : Dn), hs[j]? = some p → ls[j]? = some l → DenseIn (fun g => fv.ownBlock ≠ some g) wr (.agg #[p.1, p.2]) l
  tl : ∀ (j : Nat) (l : Dn), ls[j]? = some l → ∃ P, LM.Tells (begunD d j).aut P ∧ l = leastD (begunD d j) P

theorem FromR.nil (w : World) (d : Dn) : FromR w w w.heap.size (.slice none 0 0) 0 [] [] d :=
  ⟨Ext.refl _, World.ownsRow_nil _ _ _ _, Nat.le_refl _, rfl, rfl, fun j p l h => by simp at h, fun j l h => by simp at h⟩
theorem FromR.more {w wr w2 : World} {B : Nat} {fv : Value} {i : Nat} {hs : List (Value × Value)} {ls : List Dn} {d : Dn} (h : FromR w wr B fv i hs ls d) (hx : Ext wr w2) : FromR w w2 B fv i hs ls d :=
  ⟨h.ext.trans hx, own_ext hx h.row, h.hB, h.len, h.llen, fun j p l h1 h2 => (h.ds j p l h1 h2).ext hx, h.tl⟩
theorem FromR.push {w wr w4 : World} {B : Nat} {fv v' : Value} {i : Nat} {hs : List (Value × Value)} {ls : List Dn} {d : Dn} (h : FromR w wr B fv i hs ls d) {vn vl : Value} {l : Dn} {P : Nat → Nat} (hT : LM.Tells (begunD d i).aut P) (hl : l = leastD (begunD d i) P)
    (hd : DenseIn (fun g => fv.ownBlock ≠ some g) wr (.agg #[vn, vl]) l) (hown : w4.ownsRow B 25 2 v' (i + 1) (pairCells hs ++ [vn, vl])) (hg : wr.grownBy w4 fv.ownBlock) (hat : v'.ownBlock = fv.ownBlock ∨ v'.ownBlock = some wr.heap.size) (hBw : B ≤ wr.heap.size) :
    FromR w w4 B v' (i + 1) (hs ++ [(vn, vl)]) (ls ++ [l]) d := by
  have hmove : ∀ (p : Value × Value) (l : Dn), DenseIn (fun g => fv.ownBlock ≠ some g) wr (.agg #[p.1, p.2]) l → DenseIn (fun g => v'.ownBlock ≠ some g) w4 (.agg #[p.1, p.2]) l := by
    intro p l hp
    rcases hat with e | e
    · rw [e]
      exact hp.kept hg.size fun g h1 h2 => hg.block g h1 (fun e => h2 e.symm)
    · intro w' hk
      refine hp w' fun g h1 h2 => ?_
      rw [hk g (Nat.lt_of_lt_of_le h1 hg.size) (by rw [e]; simp; omega), hg.block g h1 (fun e => h2 e.symm)]
  have hl1 := h.len
  have hl2 := h.llen
  refine ⟨Below.grown h.ext hg h.ext.size (fun g e => Nat.le_trans h.hB (h.row.lt g e).1), by rw [pairCells_snoc]; exact hown, h.hB, by simp [hl1], by simp [hl2], fun j p l' h1 h2 => ?_, fun j l' h1 => ?_⟩
  · rw [List.getElem?_append] at h1 h2
    by_cases e : j < i
    · rw [if_pos (by omega)] at h1 h2
      exact hmove p l' (h.ds j p l' h1 h2)
    · rw [if_neg (by omega)] at h1 h2
      have h3 := (List.getElem?_eq_some_iff.1 h1).1
      simp at h3
      have e2 : j = i := by omega
      subst e2
      rw [hl1, Nat.sub_self] at h1
      rw [hl2, Nat.sub_self] at h2
      simp at h1 h2
      subst h1; subst h2
      exact hmove (vn, vl) _ hd
  · rw [List.getElem?_append] at h1
    by_cases e : j < i
    · rw [if_pos (by omega)] at h1
      exact h.tl j l' h1
    · rw [if_neg (by omega)] at h1
      have h3 := (List.getElem?_eq_some_iff.1 h1).1
      simp at h3
      have e2 : j = i := by omega
      subst e2
      rw [hl2, Nat.sub_self] at h1
      simp at h1
      subst h1
      exact ⟨P, hT, hl⟩

set_option maxRecDepth 100000 in
set_option maxHeartbeats 4000000 in
theorem classesL_go (hwk : Wakes12) {v : Value} {d : Dn} {w : World} (h : DenseV w v d) (h14 : d.next.length ≤ 14) (hm : May d) :
    Calls Tryd.prog 6 #[v] w fun e w' => e = .returned (.bool true) ∧ Ext w w' := by
  have HM := Lib.hid hm
  have hmb := mayB_true.2 hm
  have H := Lib.hid h
  obtain ⟨an, cn, al, cl, rfl⟩ := h.form
  obtain ⟨N, hN⟩ : ∃ N, N = d.next.length := ⟨_, rfl⟩
  have hpos : 0 < N := by rw [hN]; exact hm.pos
  rw [← hN] at h14 H ⊢
  have HN := Lib.hid hN
  have h14' : ¬ (14 : Int) < N := by omega
  obtain ⟨O, hO⟩ : ∃ O, O = (Obj.cells #[.slice an N cn, .slice al d.label.length cl] 25) := ⟨_, rfl⟩
  have hb : ∀ W, Ext (w.alloc O) W → W.cell? ⟨w.heap.size, 0, none⟩ = some (.slice an N cn) ∧ W.cell? ⟨w.heap.size, 1, none⟩ = some (.slice al d.label.length cl) := by
    intro W hx
    subst hO
    exact ⟨hx.cell (by simp), hx.cell (by simp)⟩
  have HB := Lib.hid hb
  have HO := Lib.hid hO
  clear h hm hN hO hb
  go_enter Tryd.func6, Tryd.ntmps6
  go_wp2_with fail
  rw [← HO.out]
  refine (may_c (H.out.ext (Ext.box _ _))).mono ?_
  rintro e w1 ⟨rfl, hx1⟩
  rw [hmb]
  obtain ⟨k0, k1⟩ := HB.out _ hx1
  go_wp2_with fail
  refine (classes_c (H.out.ext ((Ext.box w O).trans hx1)) HM.out).mono ?_
  rintro e w2 ⟨cv, rfl, P, hT, hrow, hx2⟩
  rw [← HN.out] at hrow
  obtain ⟨gc, cc, hcv, _, _⟩ := own_slc hrow hpos
  subst hcv
  have hcc : ∀ W, Ext w2 W → ∀ s, s < N → W.cell? ⟨gc, s, none⟩ = some (.int .i64 (LM.num P s : Nat)) := fun W hW s hs => hW.cell (by
    rw [hrow.cellAt s (by omega), natV_get (by simp; exact hs)]
    simp [List.getD_eq_getElem?_getD, List.getElem?_range hs])
  have HC := Lib.hid (And.intro hcc (And.intro hT (hx1.trans hx2)))
  clear hcc hT hrow hx1 hx2 k0 k1
  go_wp2
  go_loopw [6, 7, 8] (fun fv nv iv wr => ∃ (i : Nat) (hs : List (Value × Value)) (ls : List Dn), i ≤ N ∧ iv = .int .i64 i ∧ nv = .int .i64 (LM.cnt P i : Nat) ∧ FromR w2 wr w2.heap.size fv i hs ls d) (fun _ _ iv _ => N - (intOf iv).toNat)
  case atStart => exact ⟨0, [], [], Nat.zero_le _, rfl, rfl, FromR.nil w2 d⟩
  case round =>
    obtain ⟨i, hs, ls, hi, rfl, rfl, hF⟩ := hrel
    by_cases hlt : i < N
    · have cs := HC.out.1 _ hF.ext i hlt
      obtain ⟨h1, h2⟩ := num_step P i
      obtain ⟨x, hx⟩ : ∃ x, x = LM.num P i := ⟨_, rfl⟩
      obtain ⟨c, hc⟩ : ∃ c, c = LM.cnt P i := ⟨_, rfl⟩
      rw [← hx] at cs h1 h2
      rw [← hc] at h1 h2 ⊢
      have hcl : c ≤ i := by rw [hc]; exact LM.cnt_le P i
      have hj1 : (i : Int) < N := by omega
      have hj2 : ¬ (c : Int) < x := by omega
      have hj3 : ¬ (x : Int) < 0 := by omega
      have HX := Lib.hid (And.intro hx (And.intro hc (And.intro h2 hF)))
      obtain ⟨k0, k1⟩ := HB.out _ (HC.out.2.2.trans hF.ext)
      clear hx hc h2 hF
      go_upto_if 60 with fail
      go_cut [7] (fun v7 wx => wx = wr ∧ v7 = .int .i64 (LM.cnt P (i + 1) : Nat))
      case first =>
        by_cases e : x = c
        · have e' : ((x : Int) == (c : Int)) = true := by simp [e]
          have HE := Lib.hid e
          clear e
          go_wp2_with fail
          go_meet
          exact ⟨rfl, by rw [HX.out.2.2.1, if_pos HE.out]; simp⟩
        · have e' : ((x : Int) == (c : Int)) = false := by simp; omega
          have HE := Lib.hid e
          clear e
          go_wp2_with fail
          go_meet
          exact ⟨rfl, by rw [HX.out.2.2.1, if_neg HE.out]⟩
      case rest =>
        obtain ⟨rfl, rfl⟩ := hcut
        clear cs
        have hwc : Ext (w.alloc O) wc := HC.out.2.2.trans HX.out.2.2.2.ext
        have HWC := Lib.hid hwc
        clear hwc
        go_wp2_with fail
        refine (begun12_c (H.out.ext ((Ext.box w O).trans HWC.out)) HM.out (s := i) (by rw [← HN.out]; exact hlt)).mono ?_
        rintro e w3 ⟨⟨v3, rfl, hd3⟩, hx3⟩
        have HD3 := Lib.hid (And.intro hd3 hx3)
        clear hd3 hx3
        go_wp2_with fail
        refine (least_c HD3.out.1 (begun_may HM.out (by rw [← HN.out]; exact hlt))).mono ?_
        rintro e w4 ⟨v4, Q, rfl, hQ, hd4, hx4, hin4⟩
        obtain ⟨an4, cn4, al4, cl4, rfl⟩ := hd4.form
        have hF4 := HX.out.2.2.2.more (HD3.out.2.trans hx4)
        obtain ⟨n4, hn4⟩ : ∃ n, n = (dnOf (LM.least (begunD d i).aut Q)).next.length := ⟨_, rfl⟩
        obtain ⟨l4, hl4⟩ : ∃ n, n = (dnOf (LM.least (begunD d i).aut Q)).label.length := ⟨_, rfl⟩
        rw [← hn4, ← hl4] at hin4 hd4 ⊢
        have HF4 := Lib.hid (And.intro hF4 (And.intro hin4 (And.intro hQ (HD3.out.2.size))))
        clear hF4 hin4 hQ hd4 hx4 k0 k1 hn4 hl4
        have hx5 : Ext w4 ((w4.alloc (.cells #[.slice an4 n4 cn4, .slice al4 l4 cl4] 25)).alloc (.cells #[.slice an4 n4 cn4, .slice al4 l4 cl4] 25)) := (Ext.box _ _).trans (Ext.box _ _)
        have hF5 := HF4.out.1.more hx5
        have hin5 := (HF4.out.2.1.ext hx5).mono (Z' := fun g => u6.ownBlock ≠ some g) (fun g _ hz e => by
          have h1 := (HX.out.2.2.2.row.lt g e).2
          have h2 := HF4.out.2.2.2
          omega)
        obtain ⟨j0, hj, hw0, hw1, hw2⟩ := info_parts dense_info12
        have hown := hF5.row
        have hnews : ∀ j u, [Value.slice an4 n4 cn4, .slice al4 l4 cl4][j]? = some u → ((w4.alloc (.cells #[.slice an4 n4 cn4, .slice al4 l4 cl4] 25)).alloc (.cells #[.slice an4 n4 cn4, .slice al4 l4 cl4] 25)).cell? ((⟨w4.heap.size + 1, 0, none⟩ : Addr).add j) = some u := by
          have h := World.news_of_block (heap_alloc_new (w4.alloc (.cells #[.slice an4 n4 cn4, .slice al4 l4 cl4] 25)) (.cells #[.slice an4 n4 cn4, .slice al4 l4 cl4] 25))
          rw [World.size_alloc] at h
          exact h
        have h1c : ∀ u ∈ [Value.slice an4 n4 cn4, .slice al4 l4 cl4], u.oneCell' = true := by intro u hu; simp at hu; rcases hu with rfl | rfl <;> rfl
        have hbase : w2.heap.size ≤ ((w4.alloc (.cells #[.slice an4 n4 cn4, .slice al4 l4 cl4] 25)).alloc (.cells #[.slice an4 n4 cn4, .slice al4 l4 cl4] 25)).heap.size := hF5.ext.size
        have hmax : i + 1 ≤ maxLen := by unfold maxLen; omega
        have HF5 := Lib.hid (And.intro hF5 hin5)
        clear hx5 hF5 hin5
        go_wp2_with (at_builtin; refine wpList_append_own_at _ rfl _ _ 51 rfl w2.heap.size 25 j0 (.agg #[.slice none 0 0, .slice none 0 0]) 2 48 Tryd.underlying51 hj hw0 hw1 hw2 rfl (by decide) _ _ _ rfl hown ⟨w4.heap.size + 1, 0, none⟩ 1 1 [.slice an4 n4 cn4, .slice al4 l4 cl4] rfl rfl hnews h1c hmax (by omega) hbase ?_; intro v' W hown' hg _ hat)
        have h7 := HF5.out.1.push HF4.out.2.2.1 rfl HF5.out.2 hown' hg hat hbase
        have H7 := Lib.hid h7
        clear h7 hown' hg hat hown hnews h1c hbase
        go_roundw
        case rel => exact ⟨i + 1, _, _, by omega, by go_num, rfl, H7.out⟩
        case measure => simp [intOf]; omega
    · obtain rfl : N = i := by omega
      obtain ⟨g6, c6, hu6, _, _⟩ := own_slc hF.row hpos
      subst hu6
      have HF := Lib.hid hF
      clear hF hlt
      rename World => w6
      go_wp2
      go_loopw [11] (fun iv wi => Ext w6 wi ∧ ∃ i : Nat, i ≤ N ∧ iv = .int .i64 i) (fun iv _ => N - (intOf iv).toNat)
      case atStart => exact ⟨Ext.refl _, 0, Nat.zero_le _, rfl⟩
      case round =>
        obtain ⟨hx, i, hi, rfl⟩ := hrel
        by_cases hlt : i < N
        · have HX := Lib.hid hx
          clear hx
          go_wp2
          go_loopw [12] (fun kv wi => Ext w6 wi ∧ ∃ k : Nat, k ≤ i ∧ kv = .int .i64 k) (fun kv _ => i - (intOf kv).toNat)
          case atStart => exact ⟨HX.out, 0, Nat.zero_le _, rfl⟩
          case round =>
            obtain ⟨hx, k, hk, rfl⟩ := hrel
            by_cases hltk : k < i
            · have hkN : k < N := by omega
              have hw6 := HF.out.ext.trans hx
              have ci := HC.out.1 _ hw6 i hlt
              have ck := HC.out.1 _ hw6 k hkN
              obtain ⟨pi, hpi⟩ : ∃ p, hs[i]? = some p := ⟨_, List.getElem?_eq_getElem (by rw [HF.out.len]; exact hlt)⟩
              obtain ⟨pk, hpk⟩ : ∃ p, hs[k]? = some p := ⟨_, List.getElem?_eq_getElem (by rw [HF.out.len]; exact hkN)⟩
              obtain ⟨li, hli⟩ : ∃ p, ls[i]? = some p := ⟨_, List.getElem?_eq_getElem (by rw [HF.out.llen]; exact hlt)⟩
              obtain ⟨lk, hlk⟩ : ∃ p, ls[k]? = some p := ⟨_, List.getElem?_eq_getElem (by rw [HF.out.llen]; exact hkN)⟩
              have di := (HF.out.ds i pi li hpi hli).dense.ext hx
              have dk := (HF.out.ds k pk lk hpk hlk).dense.ext hx
              obtain ⟨Pi, hTi, rfl⟩ := HF.out.tl i li hli
              obtain ⟨Pk, hTk, rfl⟩ := HF.out.tl k lk hlk
              have hiff := begun_least_iff HM.out (by rw [← HN.out]; exact hlt) (by rw [← HN.out]; exact hkN) HC.out.2.1 hTi hTk
              have e1 := (hx.cell ((HF.out.row.cellAt (i * 2) (by omega)).trans (pairCells_get hpi).1))
              have e2 := (hx.cell ((HF.out.row.cellAt (i * 2 + 1) (by omega)).trans (pairCells_get hpi).2))
              have e3 := (hx.cell ((HF.out.row.cellAt (k * 2) (by omega)).trans (pairCells_get hpk).1))
              have e4 := (hx.cell ((HF.out.row.cellAt (k * 2 + 1) (by omega)).trans (pairCells_get hpk).2))
              obtain ⟨vi1, vi2⟩ := pi
              obtain ⟨vk1, vk2⟩ := pk
              simp only at di dk e1 e2 e3 e4
              obtain ⟨ai, ci1, bi, ci2, hvi⟩ := di.form
              obtain ⟨ak, ck1, bk, ck2, hvk⟩ := dk.form
              simp only [Value.agg.injEq, Array.mk.injEq, List.cons.injEq, and_true] at hvi hvk
              obtain ⟨rfl, rfl⟩ := hvi
              obtain ⟨rfl, rfl⟩ := hvk
              obtain ⟨xi, hxi⟩ : ∃ x, x = LM.num P i := ⟨_, rfl⟩
              obtain ⟨xk, hxk⟩ : ∃ x, x = LM.num P k := ⟨_, rfl⟩
              rw [← hxi] at ci hiff
              rw [← hxk] at ck hiff
              obtain ⟨r, hr⟩ : ∃ r, r = decide (xi = xk) := ⟨_, rfl⟩
              have hr1 : ((xi : Int) == (xk : Int)) = r := by
                rw [hr, Bool.eq_iff_iff]; simp; omega
              have hr2 : eqD (leastD (begunD d i) Pi) (leastD (begunD d k) Pk) = r := by
                rw [hr, Bool.eq_iff_iff, eqD_iff, hiff]; simp
              have ci' := fun z => (grow_ext wr z).cell ci
              have ck' := fun z => (grow_ext wr z).cell ck
              have e1' := fun z => (grow_ext wr z).cell e1
              have e2' := fun z => (grow_ext wr z).cell e2
              have e3' := fun z => (grow_ext wr z).cell e3
              have e4' := fun z => (grow_ext wr z).cell e4
              have hj1 : (i : Int) < N := by omega
              have hj2 : (k : Int) < N := by omega
              have HR := Lib.hid (And.intro di (And.intro dk (And.intro hr2 hx)))
              clear hpi hpk hli hlk di dk hTi hTk hiff hxi hxk hr hr2 hx hw6
              go_wp2
              cases r
              all_goals
                refine wp_region_grow (by kernel_rfl) (by kernel_rfl) ?_
                repeat (go_big_quiet_step ((go_at_call 22; exact calls_grow (eqDense_b (HR.out.1.ext (grow_ext wr _)) (HR.out.2.1.ext (grow_ext wr _)) HR.out.2.2.1))))
                refine wpQuiet_nil ?_
                rintro _ ⟨z, rfl⟩
                have HX3 := Lib.hid (HR.out.2.2.2.trans (grow_ext wr z))
                clear ci' ck' e1' e2' e3' e4' ci ck e1 e2 e3 e4
                go_wp2
                go_roundw
                case rel => exact ⟨HX3.out, k + 1, by omega, by go_num⟩
                case measure => simp [intOf]; omega
            · obtain rfl : i = k := by omega
              have HX2 := Lib.hid hx
              clear hx
              go_wp2
              go_roundw
              case rel => exact ⟨HX2.out, i + 1, by omega, by go_num⟩
              case measure => simp [intOf]; omega
        · obtain rfl : N = i := by omega
          have HX := Lib.hid hx
          clear hx
          go_wp2_with fail
          refine (hwk _).mono ?_
          rintro e w5 ⟨rfl, hx5⟩
          go_wp2
          go_ret
          exact ⟨rfl, (Ext.box w O).trans (HC.out.2.2.trans (HF.out.ext.trans (HX.out.trans hx5)))⟩
end Go.Proofs.YtmacobegnkmmcaaDoor
