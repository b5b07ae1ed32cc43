/- bolterlaw12.begun: the automaton that begins at another state. -/
import Derived.Test.YtmacobegnkmmcaaDoorMut
import Derived.Deep.DeepCutAuto
namespace Go.Proofs.YtmacobegnkmmcaaDoor
open Go.RowKit

set_option maxRecDepth 100000 in
set_option maxHeartbeats 1000000 in
theorem begun12_c {v : Value} {d : Dn} {w : World} (h : DenseV w v d) (hm : May d) {s : Nat} (hs : s < d.next.length) :
    Calls Tryd.prog 24 #[v, .int .i64 s] w fun e w' => (∃ v', e = .returned v' ∧ DenseV w' v' (begunD d s)) ∧ Ext w w' := by
  have HM := Lib.hid hm
  have HD := Lib.hid h
  obtain ⟨bn, on, cn, bl, ol, cl, rfl, hc⟩ := h.cells hm
  obtain ⟨N, hN⟩ : ∃ N, N = d.next.length := ⟨_, rfl⟩
  have HN := Lib.hid hN
  rw [← hN] at hs HD ⊢
  have hN6 : N ≤ 600 := by rw [hN]; exact hm.most
  clear h hm hN hc
  go_enter Tryd.func24, Tryd.ntmps24
  go_wp2_with fail
  obtain ⟨W, hW⟩ : ∃ W, W = ((w.alloc (.cells #[.slice (some ⟨bn, on, none⟩) N cn, .slice (some ⟨bl, ol, none⟩) N cl] 25)).alloc (.cells #[.slice none 0 0, .slice none 0 0] 25)) := ⟨_, rfl⟩
  rw [← hW]
  have hE : Ext w W := by rw [hW]; exact (Ext.box w _).alloc _
  have q0 : W.frozen? ⟨w.heap.size + 1, 0, none⟩ = false := by rw [hW]; simp
  have q1 : W.frozen? ⟨w.heap.size + 1, 1, none⟩ = false := by rw [hW]; simp
  have k0 : W.cell? ⟨w.heap.size + 1, 0, none⟩ = some (.slice none 0 0) := by rw [hW]; simp
  have k1 : W.cell? ⟨w.heap.size + 1, 1, none⟩ = some (.slice none 0 0) := by rw [hW]; simp
  have hsz : W.heap.size = w.heap.size + 2 := by rw [hW]; simp
  clear hW
  refine (copyDense_c (HD.out.ext hE) HM.out.reach).mono ?_
  rintro e w1 ⟨vn, vl, own, hs', rfl, hown, hx1⟩
  obtain ⟨gn, gl, cn', cl', hb, hc', rfl, rfl, hn1, hl1, hb1, hmut⟩ := hown.mut HM.out hx1 (Nat.le_refl _)
  rw [← HN.out] at hb1 hmut ⊢
  have hK := Lib.hid (And.intro k0 (And.intro k1 (And.intro q0 q1)))
  have hs1 := hx1.size
  have hpos : 0 < N := by omega
  clear hown k0 k1 q0 q1 HD
  have hg1 := hmut.lt.1
  have hg2 := hmut.lt.2.1
  have hg3 := hmut.lt.2.2
  go_upto_region 2 with fail
  go_cut [5] (fun s5 wx => s5 = .pointer (some ⟨w1.heap.size, 0, none⟩) ∧ Mut W wx gn gl cn' cl' (fun i => hb (sw s i)) (fun i => hc' (sw s i)) N (fun i c => (d.nx (sw s i) c : Int)) (fun i => d.lb i) ∧
    wx.cell? ⟨w1.heap.size, 0, none⟩ = some (.slice (some ⟨gn, 0, none⟩) N cn') ∧ wx.cell? ⟨w1.heap.size, 1, none⟩ = some (.slice (some ⟨gl, 0, none⟩) N cl'))
  case first =>
    generalize hW2 : World.alloc w1 _ = W2
    have hx2 : Ext w1 W2 := by rw [← hW2]; exact Ext.box _ _
    have x0 : W2.cell? ⟨w1.heap.size, 0, none⟩ = some (.slice (some ⟨gn, 0, none⟩) N cn') := by rw [← hW2]; simp
    have x1 : W2.cell? ⟨w1.heap.size, 1, none⟩ = some (.slice (some ⟨gl, 0, none⟩) N cl') := by rw [← hW2]; simp
    have hmut2 := hmut.grow hx2
    have c0 := hmut2.head 0 hpos
    have cs := hmut2.head s hs
    have f0 := hmut2.fn 0
    have fs := hmut2.fn s
    have HM2 := Lib.hid hmut2
    have hsi : (s : Int) < N := by omega
    obtain ⟨u, hset⟩ : ∃ u, (W2.setCell ⟨gn, 0, none⟩ (.slice (some ⟨hb s, 0, none⟩) 256 (hc' s))).cell? ⟨gn, s, none⟩ = some u := by
      by_cases e : s = 0
      · subst e; exact ⟨_, World.cell?_setCell_same _ _ _ c0⟩
      · rw [World.cell?_setCell_other _ _ _ _ (by simp only [ne_eq, Addr.mk.injEq]; rintro ⟨_, e', _⟩; omega)]; exact ⟨_, cs⟩
    have hset2 : (W2.setCell ⟨gn, 0, none⟩ (.slice (some ⟨hb s, 0, none⟩) 256 (hc' s))).cell? ⟨w1.heap.size, 0, none⟩ = some (.slice (some ⟨gn, 0, none⟩) N cn') := by
      rw [World.cell?_setCell_other _ _ _ _ (by simp only [ne_eq, Addr.mk.injEq]; rintro ⟨e', _⟩; omega)]; exact x0
    clear hmut hmut2 hW2 hK hg3 hb1 hx1 hx2 hE HM
    go_region
    go_wp2_with fail
    go_meet
    have hF3 : Frm (fun a _ => a = gn) W2 (((W2.setCell ⟨gn, 0, none⟩ (.slice (some ⟨hb s, 0, none⟩) 256 (hc' s))).setCell ⟨gn, s, none⟩ (.slice (some ⟨hb 0, 0, none⟩) 256 (hc' 0))).drew) := (((Frm.refl (fun a _ => a = gn) W2).setCell (.inl rfl) _).setCell (.inl rfl) _).drew
    exact ⟨rfl, (HM2.out.swapHead hs).grow (Ext.drew (Ext.refl _)), hF3.cell_some x0 (by intro e; omega), hF3.cell_some x1 (by intro e; omega)⟩
  case rest =>
    clear hmut
    obtain ⟨rfl, hmut3, y0, y1⟩ := hcut
    have hg4 : ∀ i, i < N → (fun i => hb (sw s i)) i < w1.heap.size := fun i hi => hg3 _ (sw_lt hs hi)
    generalize (fun i => hb (sw s i)) = hb2 at hmut3 hg4
    generalize (fun i => hc' (sw s i)) = hc2 at hmut3
    go_upto_region 3 with fail
    go_cut [5] (fun s5 wx => s5 = .pointer (some ⟨w1.heap.size, 0, none⟩) ∧ Mut W wx gn gl cn' cl' hb2 hc2 N (fun i c => (d.nx (sw s i) c : Int)) (fun i => d.lb (sw s i)) ∧
      wx.cell? ⟨w1.heap.size, 0, none⟩ = some (.slice (some ⟨gn, 0, none⟩) N cn') ∧ wx.cell? ⟨w1.heap.size, 1, none⟩ = some (.slice (some ⟨gl, 0, none⟩) N cl'))
    case first =>
      have l0 := hmut3.lab 0 hpos
      have ls := hmut3.lab s hs
      have f0 := hmut3.fl 0
      have fs := hmut3.fl s
      have HM2 := Lib.hid hmut3
      have hsi : (s : Int) < N := by omega
      obtain ⟨W3, hW3⟩ : ∃ W3, W3 = wc := ⟨_, rfl⟩
      obtain ⟨u, hset⟩ : ∃ u, (wc.setCell ⟨gl, 0, none⟩ (.int .i64 (d.lb s))).cell? ⟨gl, s, none⟩ = some u := by
        by_cases e : s = 0
        · subst e; exact ⟨_, World.cell?_setCell_same _ _ _ l0⟩
        · rw [World.cell?_setCell_other _ _ _ _ (by simp only [ne_eq, Addr.mk.injEq]; rintro ⟨_, e', _⟩; omega)]; exact ⟨_, ls⟩
      have hset2 : (wc.setCell ⟨gl, 0, none⟩ (.int .i64 (d.lb s))).cell? ⟨w1.heap.size, 1, none⟩ = some (.slice (some ⟨gl, 0, none⟩) N cl') := by
        rw [World.cell?_setCell_other _ _ _ _ (by simp only [ne_eq, Addr.mk.injEq]; rintro ⟨e', _⟩; omega)]; exact y1
      clear hmut3 hW3 hK hg3 hg4 hb1 hx1 hE HM
      go_region
      go_wp2_with fail
      go_meet
      have hF3 : Frm (fun a _ => a = gl) wc (((wc.setCell ⟨gl, 0, none⟩ (.int .i64 (d.lb s))).setCell ⟨gl, s, none⟩ (.int .i64 (d.lb 0))).drew) := (((Frm.refl (fun a _ => a = gl) wc).setCell (.inl rfl) _).setCell (.inl rfl) _).drew
      exact ⟨rfl, (HM2.out.swapLab hs).grow (Ext.drew (Ext.refl _)), hF3.cell_some y0 (by intro e; omega), hF3.cell_some y1 (by intro e; omega)⟩
    case rest =>
      clear hmut3 y0 y1
      obtain ⟨rfl, hmut4, z0, z1⟩ := hcut
      go_wp2
      go_loopw [6] (fun iv wr => ∃ i : Nat, i ≤ N ∧ iv = .int .i64 i ∧ Mut W wr gn gl cn' cl' hb2 hc2 N (fun r c => if r < i then (sw s (d.nx (sw s r) c) : Int) else (d.nx (sw s r) c : Int)) (fun i => d.lb (sw s i)) ∧
        wr.cell? ⟨w1.heap.size, 0, none⟩ = some (.slice (some ⟨gn, 0, none⟩) N cn') ∧ wr.cell? ⟨w1.heap.size, 1, none⟩ = some (.slice (some ⟨gl, 0, none⟩) N cl')) (fun iv _ => N - (intOf iv).toNat)
      case atStart => exact ⟨0, Nat.zero_le _, rfl, hmut4.congr (fun i c _ _ => by simp) (fun _ _ => rfl), z0, z1⟩
      case round =>
        clear hmut4 z0 z1
        obtain ⟨i, hi, rfl, hM, x0, x1⟩ := hrel
        by_cases hiN : i < N
        · go_wp2
          go_loopw [7] (fun cv wi => ∃ c : Nat, c ≤ 256 ∧ cv = .int .i64 c ∧ Mut W wi gn gl cn' cl' hb2 hc2 N (fun r q => if r < i ∨ (r = i ∧ q < c) then (sw s (d.nx (sw s r) q) : Int) else (d.nx (sw s r) q : Int)) (fun i => d.lb (sw s i)) ∧
            wi.cell? ⟨w1.heap.size, 0, none⟩ = some (.slice (some ⟨gn, 0, none⟩) N cn') ∧ wi.cell? ⟨w1.heap.size, 1, none⟩ = some (.slice (some ⟨gl, 0, none⟩) N cl')) (fun cv _ => 256 - (intOf cv).toNat)
          case atStart => exact ⟨0, Nat.zero_le _, rfl, hM.congr (fun r c _ _ => by by_cases e : r < i <;> simp [e]) (fun _ _ => rfl), x0, x1⟩
          case round =>
            clear hM x0 x1
            obtain ⟨c, hc, rfl, hM, x0, x1⟩ := hrel
            by_cases hc256 : c < 256
            · have a0 := hM.head i hiN
              have a1 := hM.row i c hiN hc256
              have a2 := hM.fr i c hiN
              have a3 := hM.lt.2.2 i hiN
              have a4 := hM.new.2.2 i hiN
              rw [if_neg (by omega)] at a1
              obtain ⟨y, hy⟩ : ∃ y, y = d.nx (sw s i) c := ⟨_, rfl⟩
              rw [← hy] at a1
              have hz : ∀ x : Int, x = (sw s y : Int) → Mut W (wr.setCell ⟨hb2 i, c, none⟩ (.int .i64 x)) gn gl cn' cl' hb2 hc2 N (fun r q => if r < i ∨ (r = i ∧ q < c + 1) then (sw s (d.nx (sw s r) q) : Int) else (d.nx (sw s r) q : Int)) (fun i => d.lb (sw s i)) := by
                intro x hx
                refine (hM.setRow hiN hc256 x).congr (fun r q hr hq => ?_) (fun _ _ => rfl)
                unfold upd2
                by_cases e : r = i ∧ q = c
                · rw [if_pos e, if_pos (by omega), hx, hy, e.1, e.2]
                · rw [if_neg e]
                  show _ = (if r < i ∨ (r = i ∧ q < c) then (sw s (d.nx (sw s r) q) : Int) else (d.nx (sw s r) q : Int))
                  by_cases e2 : r < i ∨ (r = i ∧ q < c)
                  · rw [if_pos e2, if_pos (by omega)]
                  · rw [if_neg e2, if_neg (by omega)]
              have hz2 : (y : Int) = (sw s y : Int) → Mut W wr gn gl cn' cl' hb2 hc2 N (fun r q => if r < i ∨ (r = i ∧ q < c + 1) then (sw s (d.nx (sw s r) q) : Int) else (d.nx (sw s r) q : Int)) (fun i => d.lb (sw s i)) := by
                intro hx
                refine hM.congr (fun r q hr hq => ?_) (fun _ _ => rfl)
                by_cases e : r = i ∧ q = c
                · rw [if_pos (by omega), if_neg (by omega), e.1, e.2, ← hy, hx]
                · by_cases e2 : r < i ∨ (r = i ∧ q < c)
                  · rw [if_pos e2, if_pos (by omega)]
                  · rw [if_neg e2, if_neg (by omega)]
              have HZ := Lib.hid hz
              have HZ2 := Lib.hid hz2
              have hX3 := hM.lt.1
              have hoff : hb2 i ≠ w1.heap.size := by have := hg4 i hiN; omega
              have p0 : ∀ v, (wr.setCell ⟨hb2 i, c, none⟩ v).cell? ⟨w1.heap.size, 0, none⟩ = some (.slice (some ⟨gn, 0, none⟩) N cn') := fun v => by
                rw [World.cell?_setCell_other _ _ _ _ (by simp only [ne_eq, Addr.mk.injEq]; rintro ⟨e', _⟩; exact hoff (by first | exact e' | exact e'.symm))]; exact x0
              have p1 : ∀ v, (wr.setCell ⟨hb2 i, c, none⟩ v).cell? ⟨w1.heap.size, 1, none⟩ = some (.slice (some ⟨gl, 0, none⟩) N cl') := fun v => by
                rw [World.cell?_setCell_other _ _ _ _ (by simp only [ne_eq, Addr.mk.injEq]; rintro ⟨e', _⟩; exact hoff (by first | exact e' | exact e'.symm))]; exact x1
              have HP := Lib.hid (And.intro p0 p1)
              have hj1 : (i : Int) < N := by omega
              have hj2 : (c : Int) < 256 := by omega
              clear hy hM hz hz2 p0 p1 hX3
              by_cases e1 : y = 0
              · subst e1
                go_wp2
                go_roundw
                case rel => exact ⟨c + 1, by omega, by go_num, HZ.out _ (by rw [sw_zero]), HP.out.1 _, HP.out.2 _⟩
                case measure => simp [intOf]; omega
              · have e1' : ((y : Int) == 0) = false := by simp; omega
                by_cases e2 : y = s
                · subst e2
                  have e2' : ((y : Int) == (y : Int)) = true := by simp
                  go_wp2
                  go_roundw
                  case rel => exact ⟨c + 1, by omega, by go_num, HZ.out _ (by rw [sw_self]; rfl), HP.out.1 _, HP.out.2 _⟩
                  case measure => simp [intOf]; omega
                · have e2' : ((y : Int) == (s : Int)) = false := by simp; omega
                  have E1 := Lib.hid e1
                  have E2 := Lib.hid e2
                  clear e1 e2
                  go_wp2
                  go_roundw
                  case rel => exact ⟨c + 1, by omega, by go_num, HZ2.out (by rw [sw, if_neg E1.out, if_neg E2.out]), x0, x1⟩
                  case measure => simp [intOf]; omega
            · obtain rfl : c = 256 := by omega
              go_wp2
              go_roundw
              case rel => exact ⟨i + 1, by omega, by go_num, hM.congr (fun r q hr hq => by
                by_cases e : r < i + 1
                · rw [if_pos e, if_pos (by omega)]
                · rw [if_neg e, if_neg (by omega)]) (fun _ _ => rfl), x0, x1⟩
              case measure => simp [intOf]; omega
        · obtain rfl : N = i := by omega
          have k0 := hM.ext.cell hK.out.1
          have k1 := hM.ext.cell hK.out.2.1
          have q0 := (Below.frozen hM.ext (p := ⟨w.heap.size + 1, 0, none⟩) (by show w.heap.size + 1 < W.heap.size; omega)).trans hK.out.2.2.1
          have q1 := (Below.frozen hM.ext (p := ⟨w.heap.size + 1, 1, none⟩) (by show w.heap.size + 1 < W.heap.size; omega)).trans hK.out.2.2.2
          have hF : Frm (fun a _ => a = w.heap.size + 1) wr ((wr.setCell ⟨w.heap.size + 1, 0, none⟩ (.slice (some ⟨gn, 0, none⟩) N cn')).setCell ⟨w.heap.size + 1, 1, none⟩ (.slice (some ⟨gl, 0, none⟩) N cl')) :=
            ((Frm.refl (fun a _ => a = w.heap.size + 1) wr).setCell (.inl rfl) _).setCell (.inl rfl) _
          have hM2 := (hM.rebase hE).frm hF (fun b j e => ⟨by omega, by omega, by omega, fun i hi => by have := hM.new.2.2 i hi; omega⟩)
          have hD := (hM2.dense hN6 (d := begunD d s) (by rw [begun_len, HN.out]) (by rw [(begun_may HM.out (by rw [← HN.out]; exact hs)).labels, begun_len, HN.out]) (fun i hi => (begun_may HM.out (by rw [← HN.out]; exact hs)).row i (by rw [begun_len, ← HN.out]; exact hi))
            (fun i c hi hc => by rw [begun_entry HM.out (by rw [← HN.out]; exact hs) (by rw [← HN.out]; exact hi) hc, if_pos hi]) (fun i hi => by rw [begun_label (by rw [← HN.out]; exact hi)]; rfl))
          have hEE := hM2.ext
          clear hM hM2 hF
          go_wp2
          exact bodyPost_ret (v := .agg #[.slice (some ⟨gn, 0, none⟩) N cn', .slice (some ⟨gl, 0, none⟩) N cl']) (by simp [results, Tryd.results24, go_sem, k0, k1]) rfl ⟨⟨_, rfl, hD⟩, hEE⟩
end Go.Proofs.YtmacobegnkmmcaaDoor
