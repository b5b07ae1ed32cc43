/- bolterlaw12.LeastApart. -/
import Derived.Test.YtmacobegnkmmcaaDoorLeastD
import Derived.Test.YtmacobegnkmmcaaDoorParted
import Derived.Test.YtmacobegnkmmcaaDoorMay
import Derived.Test.YtmacobegnkmmcaaDoorLeast
import Derived.Test.YtmacobegnkmmcaaDoorDenseForm
namespace Go.Proofs.YtmacobegnkmmcaaDoor
open Go.RowKit

set_option maxRecDepth 100000 in
set_option maxHeartbeats 1000000 in
theorem apart_skip (hwk : Wakes12) {v : Value} {d : Dn} {w : World} (h : DenseV w v d) (hno : ¬ (d.next.length ≤ 60 ∧ May d)) :
    Calls Tryd.prog 4 #[v] w fun e w' => e = .returned (.bool true) ∧ Ext w w' := by
  obtain ⟨an, cn, al, cl, rfl, ho⟩ := h.open
  have hn := ho.n
  obtain ⟨n, hnn⟩ : ∃ n, n = d.next.length := ⟨_, rfl⟩
  rw [← hnn] at hn hno h ⊢
  have H := Lib.hid h
  clear hnn ho
  by_cases h40 : 60 < n
  · have h40' : (60 : Int) < n := by omega
    go_enter Tryd.func4, Tryd.ntmps4
    go_wp2_with fail
    refine (hwk _).mono ?_
    rintro e w1 ⟨rfl, hx1⟩
    go_wp2
    go_ret
    exact ⟨rfl, (Ext.box _ _).trans hx1⟩
  · have h40' : ¬ (60 : Int) < n := by omega
    have hm : ¬ May d := fun hm => hno ⟨by omega, hm⟩
    have hmb := mayB_false hm
    clear hno h hm
    go_enter Tryd.func4, Tryd.ntmps4
    go_wp2_with fail
    refine (may_c (H.out.ext (Ext.box _ _))).mono ?_
    rintro e w1 ⟨rfl, hx1⟩
    go_wp2_with fail
    refine (hwk _).mono ?_
    rintro e w2 ⟨rfl, hx2⟩
    go_wp2
    go_ret
    exact ⟨rfl, ((Ext.box _ _).trans hx1).trans hx2⟩

set_option maxRecDepth 100000 in
set_option maxHeartbeats 4000000 in
theorem apart_go (hwk : Wakes12) {v : Value} {d : Dn} {w : World} (h : DenseV w v d) (h60 : d.next.length ≤ 60) (hm : May d) :
    Calls Tryd.prog 4 #[v] w fun e w' => e = .returned (.bool true) ∧ Ext w w' := by
  have HM := Lib.hid hm
  have hmb := mayB_true.2 hm
  have H := Lib.hid h
  obtain ⟨an, cn, al, cl, rfl⟩ := h.form
  obtain ⟨n, hnn⟩ : ∃ n, n = d.next.length := ⟨_, rfl⟩
  rw [← hnn] at h60 H ⊢
  have HN := Lib.hid hnn
  have h60' : ¬ (60 : Int) < n := by omega
  clear h hm hnn
  go_enter Tryd.func4, Tryd.ntmps4
  go_wp2_with fail
  refine (may_c (H.out.ext (Ext.box _ _))).mono ?_
  rintro e w1 ⟨rfl, hx1⟩
  have hx1' := (Ext.box w _).trans hx1
  rw [hmb]
  have k0 := hx1.cell (p := ⟨w.heap.size, 0, none⟩) (v := .slice an n cn) (by simp)
  have k1 := hx1.cell (p := ⟨w.heap.size, 1, none⟩) (v := .slice al d.label.length cl) (by simp)
  clear hx1 hmb
  go_wp2_with fail
  refine (least_c (H.out.ext hx1') HM.out).mono ?_
  rintro e w2 ⟨v2, P, rfl, hT, hdl, hx2, _⟩
  have hdl : DenseV w2 v2 (leastD d P) := hdl
  have hml := leastD_may HM.out P
  have HDL := Lib.hid hdl
  obtain ⟨bn, on, cn2, bl, ol, cl2, rfl, hc⟩ := hdl.cells hml
  obtain ⟨N, hN⟩ : ∃ N, N = (leastD d P).next.length := ⟨_, rfl⟩
  have hpos : 0 < N := by rw [hN]; exact hml.pos
  have hN6 : N ≤ 60 := by have := leastD_le HM.out P; rw [hN]; have := HN.out; omega
  have HC := Lib.hid (And.intro hc (And.intro hN (And.intro hT (And.intro hml (hx1'.trans hx2)))))
  have hmb2 := mayB_true.2 hml
  rw [← hN] at HDL ⊢
  clear hc hN hT hml hdl hx1' hx2 k0 k1
  go_wp2_with fail
  have hxb : Ext w2 (w2.alloc (.cells #[.slice (some ⟨bn, on, none⟩) N cn2, .slice (some ⟨bl, ol, none⟩) N cl2] 25)) := Ext.box _ _
  refine (may_c (HDL.out.ext hxb)).mono ?_
  rintro e w3 ⟨rfl, hx3⟩
  rw [hmb2]
  have k0 := hx3.cell (p := ⟨w2.heap.size, 0, none⟩) (v := .slice (some ⟨bn, on, none⟩) N cn2) (by simp)
  have k1 := hx3.cell (p := ⟨w2.heap.size, 1, none⟩) (v := .slice (some ⟨bl, ol, none⟩) N cl2) (by simp)
  have hcell : ∀ W, Ext w3 W → ∀ i, i < N → ∃ br ro cr, W.cell? ⟨bn, on + i, none⟩ = some (.slice (some ⟨br, ro, none⟩) 256 cr) ∧ ∀ c, c < 256 → W.cell? ⟨br, ro + c, none⟩ = some (.int .i64 ((leastD d P).nx i c : Nat)) := by
    intro W hW i hi
    exact ((HC.out.1.ext (hxb.trans hx3)).ext hW).row i (by rw [← HC.out.2.1]; exact hi)
  have HCE := Lib.hid (And.intro hcell (And.intro (hxb.trans hx3) (And.intro k0 k1)))
  obtain ⟨bx, hbx⟩ : ∃ b, b = w2.heap.size := ⟨_, rfl⟩
  rw [← hbx] at HCE ⊢
  clear hcell hxb hx3 k0 k1 hmb2 hbx
  go_wp2
  go_loopw [5, 6] (fun fv iv wr => wr = w3 ∧ ∃ i : Nat, i ≤ N ∧ iv = .int .i64 i ∧ fv = .int .i64 (grown d P i : Nat)) (fun _ iv _ => N - (intOf iv).toNat)
  case atStart => exact ⟨rfl, 0, Nat.zero_le _, rfl, rfl⟩
  case round =>
    obtain ⟨rfl, i, hi, rfl, rfl⟩ := hrel
    have k0 := HCE.out.2.2.1
    by_cases hlt : i < N
    · have hgl := grown_lt HM.out P (j := i) (by rw [← HC.out.2.1]; exact hlt)
      obtain ⟨gi, hgi⟩ : ∃ g, g = grown d P i := ⟨_, rfl⟩
      rw [← hgi] at hgl ⊢
      have hgl' : ¬ (gi : Int) ≤ i := by omega
      have HG := Lib.hid hgi
      obtain ⟨br, ro, cr, cr0, crc⟩ := HCE.out.1 _ (Ext.refl _) i hlt
      have HR := Lib.hid crc
      have hj1 : (i : Int) < N := by omega
      have hgz : (gi : Int) = (grownC d P i 0 : Nat) := by rw [grownC_zero, hgi]
      have HGZ := Lib.hid hgz
      clear hgi crc hgz
      go_wp2
      go_loopw [5, 7] (fun fv cv wi => wi = wr ∧ ∃ c : Nat, c ≤ 256 ∧ cv = .int .i64 c ∧ fv = .int .i64 (grownC d P i c : Nat)) (fun _ cv _ => 256 - (intOf cv).toNat)
      case atStart => exact ⟨rfl, 0, Nat.zero_le _, rfl, by rw [HGZ.out]⟩
      case round =>
        obtain ⟨rfl, c, hc, rfl, rfl⟩ := hrel
        by_cases hltc : c < 256
        · have cc := HR.out c hltc
          obtain ⟨g1, g2⟩ := grown_entry HM.out P (j := i) (c := c) (by rw [← HC.out.2.1]; exact hlt) hltc
          obtain ⟨x, hx⟩ : ∃ x, x = (leastD d P).nx i c := ⟨_, rfl⟩
          obtain ⟨f, hf⟩ : ∃ f, f = grownC d P i c := ⟨_, rfl⟩
          rw [← hx] at cc g1 g2
          rw [← hf] at g1 g2 ⊢
          have hj2 : (c : Int) < 256 := by omega
          have hj3 : ¬ (f : Int) < x := by omega
          have hfb : f ≤ N := by
            rw [hf, HC.out.2.1]
            exact grownC_le HM.out P (by rw [← HC.out.2.1]; exact hlt) c
          have HF := Lib.hid (And.intro hx (And.intro hf g2))
          clear hx hf g2
          by_cases e : x = f
          · have e' : ((x : Int) == (f : Int)) = true := by simp [e]
            have HE := Lib.hid e
            clear e
            go_wp2
            go_roundw
            case rel => exact ⟨trivial, c + 1, by omega, by go_num, by rw [HF.out.2.2, if_pos HE.out]; simp⟩
            case measure => simp [intOf]; omega
          · have e' : ((x : Int) == (f : Int)) = false := by simp; omega
            have HE := Lib.hid e
            clear e
            go_wp2
            go_roundw
            case rel => exact ⟨trivial, c + 1, by omega, by go_num, by rw [HF.out.2.2, if_neg HE.out]⟩
            case measure => simp [intOf]; omega
        · obtain rfl : c = 256 := by omega
          have hnx := grown_next HM.out P (j := i) (by rw [← HC.out.2.1]; exact hlt)
          rw [hnx]
          clear hnx
          go_wp2
          go_roundw
          case rel => exact ⟨trivial, i + 1, by omega, by go_num, rfl⟩
          case measure => simp [intOf]; omega
    · obtain rfl : N = i := by omega
      have k1 := HCE.out.2.2.2
      go_wp2_with fail
      refine (parted_c (HDL.out.ext HCE.out.2.1) HC.out.2.2.2.1 (by rw [← HC.out.2.1]; exact hN6) (leastD_apart HM.out P HC.out.2.2.1)).mono ?_
      rintro e w4 ⟨rfl, hx4⟩
      go_wp2_with fail
      refine (hwk _).mono ?_
      rintro e w5 ⟨rfl, hx5⟩
      go_wp2
      go_ret
      exact ⟨rfl, HC.out.2.2.2.2.trans (HCE.out.2.1.trans (hx4.trans hx5))⟩
end Go.Proofs.YtmacobegnkmmcaaDoor
