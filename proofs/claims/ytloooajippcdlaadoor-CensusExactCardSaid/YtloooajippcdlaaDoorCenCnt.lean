/- bolterref14.Count and Rank, of an automaton that may be. -/
import Derived.Test.YtloooajippcdlaaDoorBigWays
import Derived.Test.YtloooajippcdlaaDoorBigCmp
import Derived.Test.YtloooajippcdlaaDoorRank
import Derived.Deep.RegionHeld3
namespace Go.Proofs.YtloooajippcdlaaDoor
open Go.RowKit

set_option maxRecDepth 100000 in
set_option maxHeartbeats 4000000 in
theorem refCount_c {w : World} {v : Value} {d : Dn} (h : DenseV w v d) (hm : May d) (label : Int) {n : Nat} (hn : n ≤ 64) :
    Calls Tryd.prog 50 #[v, .int .i64 label, .int .i64 (n : Int)] w fun e w' => e = .returned (.tuple #[.int .u64 (sn (d.ways label n 0)), .bool (!so (d.ways label n 0))]) ∧ Ext w w' := by
  have hwy := fun W hx => ways14_c (w := W) (h.ext hx) hm label hn
  obtain ⟨bn, on, cn, bl, ol, cl, rfl, _⟩ := h.cells hm
  obtain ⟨N, hN⟩ : ∃ N, N = d.next.length := ⟨_, rfl⟩
  have hpos : 0 < N := by rw [hN]; exact hm.pos
  rw [← hN] at hwy ⊢
  obtain ⟨w1, hw1⟩ : ∃ w1, w1 = w.alloc (.cells #[.slice (some ⟨bn, on, none⟩) N cn, .slice (some ⟨bl, ol, none⟩) N cl] 25) := ⟨_, rfl⟩
  have b0 : w1.cell? ⟨w.heap.size, 0, none⟩ = some (.slice (some ⟨bn, on, none⟩) N cn) := by rw [hw1]; exact new_cell rfl
  have b1 : w1.cell? ⟨w.heap.size, 1, none⟩ = some (.slice (some ⟨bl, ol, none⟩) N cl) := by rw [hw1]; exact new_cell rfl
  have hx1 : Ext w w1 := by rw [hw1]; exact Ext.box _ _
  have hwy1 := hwy _ hx1
  unfold WaysR at hwy1
  rw [← hN] at hwy1
  have H := Lib.hid (And.intro hwy1 (And.intro hx1 hw1))
  clear hwy hwy1 hx1 hw1 h hm hN
  go_enter Tryd.func50, Tryd.ntmps50
  go_wp2_with fail
  rw [← H.out.2.2]
  refine H.out.1.mono ?_
  rintro e w2 ⟨g, c, rfl, hx2, hfar⟩
  obtain ⟨r, c1, hr⟩ := hfar w2 (fun _ _ _ => rfl) n (Nat.le_refl _)
  obtain ⟨v0, c2, hb⟩ := hr 0 hpos
  have hj1 : (n : Int) < (n : Int) + 1 := by omega
  have hj2 : (0 : Int) < N := by omega
  have H2 := Lib.hid (And.intro (small14_c hb) (H.out.2.1.trans hx2))
  clear hb hr hfar hx2 b0 b1
  go_wp2_with fail
  refine H2.out.1.mono ?_
  rintro e w3 ⟨rfl, hx3⟩
  have HX := Lib.hid (H2.out.2.trans hx3)
  clear hx3
  go_wp2_with fail
  go_ret2
  exact ⟨rfl, HX.out⟩

theorem total_lt (d : Dn) (label : Int) {l : List Nat} (hl : l.length ≤ 64) (hb : ∀ c ∈ l, c < 256) : (BG.dig (d.total label l)).length ≤ 70 := by
  refine BG.dig_le (k := 70) ?_
  have hp : (256 : Nat) ^ 64 * 65 < 256 ^ 70 := by
    have : (256 : Nat) ^ 70 = 256 ^ 64 * 256 ^ 6 := by rw [← Nat.pow_add]
    rw [this]
    exact Nat.mul_lt_mul_of_pos_left (by decide) (Nat.pow_pos (by omega))
  have h1 : ∀ m s, m ≤ 64 → d.ways label m s ≤ 256 ^ 64 := fun m s hm => Nat.le_trans (CM.ways_le d.nx (fun t => d.lb t == label) m s) (Nat.pow_le_pow_right (by omega) hm)
  have h2 : CM.sumTo (fun n => d.ways label n 0) l.length ≤ l.length * 256 ^ 64 := CM.sumTo_le fun i hi => h1 i 0 (by omega)
  have h3 : CM.rankB d.nx (fun t => d.lb t == label) l 0 ≤ 256 ^ 64 := Nat.le_trans (CM.rankB_le d.nx (fun t => d.lb t == label) l 0 hb) (h1 l.length 0 hl)
  have h4 : l.length * 256 ^ 64 ≤ 64 * 256 ^ 64 := Nat.mul_le_mul_right _ hl
  unfold Dn.total
  generalize (256 : Nat) ^ 64 = P at *
  omega

set_option maxRecDepth 100000 in
set_option maxHeartbeats 8000000 in
theorem refRank_c {w : World} {v bv : Value} {d : Dn} {l : List Nat} (h : DenseV w v d) (hm : May d) (label : Int) (hb : BytesW w bv l) (hl64 : l.length ≤ 64) (hbytes : ∀ c ∈ l, c < 256) :
    Calls Tryd.prog 54 #[v, .int .i64 label, bv] w fun e w' => Ext w w' ∧ ((d.total label l < 18446744073709551616 ∧ d.lb (CM.run d.nx 0 l) = label ∧ e = .returned (.tuple #[.int .u64 (d.total label l : Int), .bool true])) ∨
      (¬ (d.total label l < 18446744073709551616 ∧ d.lb (CM.run d.nx 0 l) = label) ∧ e = .returned (.tuple #[.int .u64 0, .bool false]))) := by
  obtain ⟨_, ab, cb, rfl, _, hbc⟩ := hb.open'
  obtain ⟨L, hL⟩ : ∃ L, L = l.length := ⟨_, rfl⟩
  have hwy := fun W hx => ways14_c (w := W) (h.ext hx) hm label (most := L) (by rw [hL]; exact hl64)
  have htl := total_lt d label hl64 hbytes
  rw [← hL] at hbc hl64 ⊢
  obtain ⟨bn, on, cn, bl, ol, cl, rfl, hc⟩ := h.cells hm
  obtain ⟨N, hN⟩ : ∃ N, N = d.next.length := ⟨_, rfl⟩
  have hpos : 0 < N := by rw [hN]; exact hm.pos
  rw [← hN] at hwy ⊢
  obtain ⟨w1, hw1⟩ : ∃ w1, w1 = w.alloc (.cells #[.slice (some ⟨bn, on, none⟩) N cn, .slice (some ⟨bl, ol, none⟩) N cl] 25) := ⟨_, rfl⟩
  obtain ⟨db, hdb⟩ : ∃ b, b = w.heap.size := ⟨_, rfl⟩
  have b0 : w1.cell? ⟨db, 0, none⟩ = some (.slice (some ⟨bn, on, none⟩) N cn) := by rw [hw1, hdb]; exact new_cell rfl
  have b1 : w1.cell? ⟨db, 1, none⟩ = some (.slice (some ⟨bl, ol, none⟩) N cl) := by rw [hw1, hdb]; exact new_cell rfl
  have hx1 : Ext w w1 := by rw [hw1]; exact Ext.box _ _
  have hwy1 := hwy _ hx1
  unfold WaysR at hwy1
  rw [← hN] at hwy1
  have H := Lib.hid (And.intro hwy1 (And.intro hx1 (And.intro hc (And.intro hm (And.intro hN (And.intro hL (And.intro hbytes (And.intro hbc htl))))))))
  have HW := Lib.hid (And.intro hw1 (And.intro hdb (And.intro b0 b1)))
  clear hwy hwy1 hx1 hw1 hdb h hm hN hL hc hb hbytes hbc htl
  go_enter Tryd.func54, Tryd.ntmps54
  go_upto_region 1 with fail
  rw [← HW.out.1, ← HW.out.2.1]
  go_wp2_with fail
  refine H.out.1.mono ?_
  rintro e w2 ⟨g, gc, rfl, hx2, hfar⟩
  have hW2 := hfar w2 (fun _ _ _ => rfl)
  obtain ⟨T, hT⟩ : ∃ T, T = d.total label l := ⟨_, rfl⟩
  have H2 := Lib.hid (And.intro hW2 (And.intro (H.out.2.1.trans hx2) (And.intro hx2 hT)))
  clear hfar hW2 hx2 b0 b1 hT
  go_wp2_with fail
  go_loopw [9, 10] (fun nv iv wr => ∃ i : Nat, i ≤ L ∧ iv = .int .i64 i ∧ Ext w2 wr ∧ BigV wr nv (CM.sumTo (fun n => d.ways label n 0) i)) (fun _ iv _ => L - (intOf iv).toNat)
  case atStart => exact ⟨0, Nat.zero_le _, rfl, Ext.refl _, by show BigV w2 _ 0; unfold BigV; rw [BG.dig_zero]; exact own_ints (B := 0) (e := 3) (n := 0) (l := []) (World.ownsRow_nil _ _ _ _) (by omega)⟩
  case round =>
    obtain ⟨i, hi, rfl, hx, hbig⟩ := hrel
    by_cases hlt : i < L
    · have hj1 : (i : Int) < L := by omega
      obtain ⟨r, c1, hr⟩ := H2.out.1 i (by omega)
      obtain ⟨v0, c2, hb0⟩ := hr 0 hpos
      have hb0 : BigV w2 v0 (d.ways label i 0) := hb0
      have c1 := hx.cell c1
      have c2 := hx.cell c2
      have hle : CM.sumTo (fun n => d.ways label n 0) i + d.ways label i 0 ≤ T := by
        rw [H2.out.2.2.2]; unfold Dn.total; rw [← H.out.2.2.2.2.2.1]
        have := CM.sumTo_succ_le (f := fun n => d.ways label n 0) hlt
        omega
      have hlen := dig_len_mono hle
      have htl := H.out.2.2.2.2.2.2.2.2
      rw [← H2.out.2.2.2] at htl
      have hA := add14_c hbig (IntsK.ext hx hb0) (by omega)
      have hj2 : (i : Int) < (L : Int) + 1 := by omega
      have hj3 : (0 : Int) < N := by omega
      have HA := Lib.hid (And.intro hA (And.intro hx (show (BG.dig (CM.sumTo (fun n => d.ways label n 0) i + d.ways label i 0)).length ≤ 1000 by omega)))
      clear hA hx hbig hr hb0 hle hlen htl
      go_wp2_with fail
      refine HA.out.1.mono ?_
      rintro e w4 ⟨v4, rfl, hv, hx4⟩
      have H4 := Lib.hid (And.intro (own_big hv HA.out.2.2) (HA.out.2.1.trans hx4))
      clear hv hx4 c1 c2
      go_wp2_with fail
      go_roundw
      case rel => exact ⟨i + 1, by omega, by go_num, H4.out.2, H4.out.1⟩
      case measure => simp [intOf]; omega
    · obtain rfl : L = i := by omega
      have HS := Lib.hid (And.intro hx hbig)
      clear hx hbig hlt hi
      go_wp2_with fail
      go_loopw [9, 11, 12] (fun nv sv iv wr => ∃ i s x : Nat, i ≤ L ∧ iv = .int .i64 i ∧ sv = .int .i64 s ∧ s < N ∧ s = CM.run d.nx 0 (l.take i) ∧ Ext w2 wr ∧ BigV wr nv x ∧ x + CM.rankB d.nx (fun t => d.lb t == label) (l.drop i) s = T) (fun _ _ iv _ => L - (intOf iv).toNat)
      case atStart => exact ⟨0, 0, _, Nat.zero_le _, rfl, rfl, hpos, rfl, HS.out.1, HS.out.2, by rw [H2.out.2.2.2, List.drop_zero]; unfold Dn.total; rw [← H.out.2.2.2.2.2.1]⟩
      case round =>
        rename World => w5
        obtain ⟨i, s, x, hi, rfl, rfl, hs, hsr, hx, hbig, hsum⟩ := hrel
        obtain ⟨hc2, hbc2⟩ : Cells w2 bn on bl ol d ∧ (0 < L → ∃ b o, ab = some ⟨b, o, none⟩ ∧ ∀ i, i < L → w2.cell? ⟨b, o + i, none⟩ = some (.int .u8 (l.getD i 0 : Nat))) := by
          refine ⟨H.out.2.2.1.ext H2.out.2.1, fun h0 => ?_⟩
          obtain ⟨b, o, e, h9⟩ := H.out.2.2.2.2.2.2.2.1 h0
          exact ⟨b, o, e, fun i hi => H2.out.2.1.cell (h9 i hi)⟩
        by_cases hlt : i < L
        · have hj1 : (i : Int) < L := by omega
          obtain ⟨bb, ob, rfl, hbc3⟩ := hbc2 (by omega)
          have hbi0 := hbc3 i hlt
          obtain ⟨b, hbb⟩ : ∃ b, b = l.getD i 0 := ⟨_, rfl⟩
          rw [← hbb] at hbi0
          have hb256 : b < 256 := by
            rw [hbb, List.getD_eq_getElem?_getD, List.getElem?_eq_getElem (by rw [← H.out.2.2.2.2.2.1]; exact hlt)]
            exact H.out.2.2.2.2.2.2.1 _ (List.getElem_mem _)
          have hil : i < l.length := by rw [← H.out.2.2.2.2.2.1]; exact hlt
          have hrk : CM.rankB d.nx (fun t => d.lb t == label) (l.drop i) s = CM.sumTo (fun c => d.ways label (L - i - 1) (d.nx s c)) b + CM.rankB d.nx (fun t => d.lb t == label) (l.drop (i + 1)) (d.nx s b) := by
            rw [drop_cons hil, ← hbb, CM.rankB, List.length_drop, ← H.out.2.2.2.2.2.1, show L - (i + 1) = L - i - 1 from by omega]; rfl
          obtain ⟨m, hmm⟩ : ∃ m, m = L - i - 1 := ⟨_, rfl⟩
          rw [← hmm] at hrk
          have HB := Lib.hid (And.intro hbb (And.intro hrk (And.intro hsum (And.intro hsr (And.intro hbi0 (And.intro hc2 (And.intro hmm hil)))))))
          have HS5 := Lib.hid (And.intro hx hbig)
          clear hbb hrk hsum hsr hbi0 hc2 hbc2 hbc3 hx hbig hmm hil
          go_wp2_with fail
          go_loopw [9, 13] (fun nv cv wr => ∃ c : Nat, c ≤ b ∧ cv = .int .i64 c ∧ Ext w2 wr ∧ BigV wr nv (x + CM.sumTo (fun c => d.ways label m (d.nx s c)) c)) (fun _ cv _ => b - (intOf cv).toNat)
          case atStart => exact ⟨0, Nat.zero_le _, rfl, HS5.out.1, HS5.out.2⟩
          case round =>
            rename World => w6
            obtain ⟨c, hc, rfl, hx, hbig⟩ := hrel
            have hbi := hx.cell HB.out.2.2.2.2.1
            obtain ⟨na, nn, nc, hnv⟩ : ∃ a n c, u9 = .slice a n c := by obtain ⟨a, c, e, _⟩ := hbig.open; exact ⟨a, _, c, e⟩
            by_cases hcb : c < b
            · have hj2 : (c : Int) < b := by omega
              have hc2 := HB.out.2.2.2.2.2.1
              obtain ⟨br, ro, cr, hr1, hr2⟩ := hc2.row s (by rw [← H.out.2.2.2.2.1]; exact hs)
              have hr1' := hx.cell hr1
              have hqc := hx.cell (hr2 c (by omega))
              have hlt2 := H.out.2.2.2.1.nx_lt (s := s) (c := c) (by rw [← H.out.2.2.2.2.1]; exact hs) (by omega)
              rw [← H.out.2.2.2.2.1] at hlt2
              have hmm := HB.out.2.2.2.2.2.2.1
              obtain ⟨r, c1, hr⟩ := H2.out.1 m (by omega)
              obtain ⟨t, ht⟩ : ∃ t, t = d.nx s c := ⟨_, rfl⟩
              rw [← ht] at hqc hlt2
              obtain ⟨v0, c2, hb0⟩ := hr t hlt2
              have hb0 : BigV w2 v0 (d.ways label m t) := hb0
              have c1 := hx.cell c1
              have c2 := hx.cell c2
              have k0 := (H2.out.2.2.1.trans hx).cell HW.out.2.2.1
              have hle : x + CM.sumTo (fun c => d.ways label m (d.nx s c)) c + d.ways label m t ≤ T := by
                have h1 := CM.sumTo_succ_le (f := fun c => d.ways label m (d.nx s c)) hcb
                have h2 := HB.out.2.1
                have h3 := HB.out.2.2.1
                rw [ht]
                try dsimp only at h1
                omega
              have hlen := dig_len_mono hle
              have htl := H.out.2.2.2.2.2.2.2.2
              rw [← H2.out.2.2.2] at htl
              have hA := add14_c (w := w6.drew) (IntsK.ext (Ext.refl w6).drew hbig) (IntsK.ext hx.drew hb0) (by omega)
              obtain ⟨l1, hl1⟩ : ∃ l1, l1 = L - 1 := ⟨_, rfl⟩
              have hj3 : IntKind.i64.wrap ((L : Int) - 1) = (l1 : Int) := (IntWalk.i64_in _ (by omega)).trans (by omega)
              have hj4 : IntKind.i64.wrap ((l1 : Int) - i) = (m : Int) := (IntWalk.i64_in _ (by omega)).trans (by omega)
              have hj5 : (c : Int) < 256 := by omega
              have hj6 : (m : Int) < (L : Int) + 1 := by omega
              have hj7 : (s : Int) < N := by omega
              have hj8 : (t : Int) < N := by omega
              have HA := Lib.hid (And.intro hA (And.intro hx (And.intro (show (BG.dig (x + CM.sumTo (fun c => d.ways label m (d.nx s c)) c + d.ways label m t)).length ≤ 1000 by omega) ht)))
              clear hA hx hbig hr hb0 hle hlen htl hr1 hr2 hc2 ht hmm hl1 hnv
              go_wp2
              go_still_tail 19, (by kernel_rfl)
              change wpList _ _ _ _ _ w6.drew
              go_wp2_with fail
              refine HA.out.1.mono ?_
              rintro e w7 ⟨v4, rfl, hv, hx4⟩
              have H4 := Lib.hid (And.intro (own_big hv HA.out.2.2.1) (HA.out.2.1.drew.trans hx4))
              clear hv hx4 c1 c2 k0 hr1' hqc hbi hj3 hj4
              go_wp2_with fail
              go_roundw
              case rel => exact ⟨c + 1, by omega, by go_num, H4.out.2, by rw [CM.sumTo, ← Nat.add_assoc, ← HA.out.2.2.2]; exact H4.out.1⟩
              case measure => simp [intOf]; omega
            · obtain rfl : b = c := by omega
              have hc2 := HB.out.2.2.2.2.2.1
              obtain ⟨br, ro, cr, hr1, hr2⟩ := hc2.row s (by rw [← H.out.2.2.2.2.1]; exact hs)
              have hr1' := hx.cell hr1
              have hqc := hx.cell (hr2 b hb256)
              have hlt2 := H.out.2.2.2.1.nx_lt (s := s) (c := b) (by rw [← H.out.2.2.2.2.1]; exact hs) hb256
              rw [← H.out.2.2.2.2.1] at hlt2
              obtain ⟨t, ht⟩ : ∃ t, t = d.nx s b := ⟨_, rfl⟩
              rw [← ht] at hqc hlt2
              have k0 := (H2.out.2.2.1.trans hx).cell HW.out.2.2.1
              have hj2 : ¬ (b : Int) < b := by omega
              have hj5 : (b : Int) < 256 := by omega
              have hj7 : (s : Int) < N := by omega
              have HA := Lib.hid (And.intro hx (And.intro hbig ht))
              clear hx hbig hr1 hr2 hc2 ht hnv hcb hc
              go_wp2_with fail
              go_quiet (fail)
              go_wp2_with fail
              go_roundw
              case rel =>
                refine ⟨i + 1, t, _, by omega, by go_num, rfl, hlt2, ?_, HA.out.1.drewN _, IntsK.ext ((Ext.refl w6).drewN _) HA.out.2.1, ?_⟩
                · rw [take_snoc HB.out.2.2.2.2.2.2.2, ← HB.out.1, CM.run, List.foldl_append, List.foldl_cons, List.foldl_nil, HA.out.2.2, HB.out.2.2.2.1]; rfl
                · have h1 := HB.out.2.1; have h2 := HB.out.2.2.1; have h3 := HA.out.2.2; rw [h3]; omega
              case measure => simp [intOf]; omega
        · obtain rfl : L = i := by omega
          have hrun : s = CM.run d.nx 0 l := by rw [hsr, H.out.2.2.2.2.2.1, List.take_length]
          have hxT : x = T := by rw [← hsum, H.out.2.2.2.2.2.1, List.drop_length, CM.rankB, Nat.add_zero]
          have hj1 : ¬ (L : Int) < L := by omega
          have hsm := small14_c hbig
          have HE := Lib.hid (And.intro hsm (And.intro hx (And.intro hrun (And.intro hxT (hc2.label s (by rw [← H.out.2.2.2.2.1]; exact hs))))))
          clear hsm hx hrun hxT hbig hsum hsr hc2 hbc2 hlt hi
          go_wp2_with fail
          refine HE.out.1.mono ?_
          rintro e w7 ⟨rfl, hx7⟩
          have hx27 := HE.out.2.1.trans hx7
          have k1 := (H2.out.2.2.1.trans hx27).cell HW.out.2.2.2
          have c1 := hx27.cell HE.out.2.2.2.2
          obtain ⟨lb, hlb⟩ : ∃ z, z = d.lb s := ⟨_, rfl⟩
          rw [← hlb] at c1
          have hj7 : (s : Int) < N := by omega
          have HX := Lib.hid (And.intro (H2.out.2.1.trans hx27) hlb)
          clear hx7 hx27 hlb
          have hT := H2.out.2.2.2
          by_cases hs64 : x < 18446744073709551616
          · have e1 : so x = false := by simp [so]; omega
            have e2 : sn x = x := by unfold sn; rw [if_pos hs64]
            by_cases hll : lb = label
            · have e3 : (lb != label) = false := by simp [hll]
              have HLL := Lib.hid (And.intro hll (And.intro hT hs64))
              clear hll hT hs64
              rw [e1, e2]
              go_wp2_with fail
              go_ret2
              exact ⟨HX.out.1, .inl ⟨by rw [← HLL.out.2.1, ← HE.out.2.2.2.1]; exact HLL.out.2.2, by rw [← HE.out.2.2.1, ← HX.out.2]; exact HLL.out.1, by rw [← HLL.out.2.1, ← HE.out.2.2.2.1]; rfl⟩⟩
            · have e3 : (lb != label) = true := by simp [hll]
              have HLL := Lib.hid (And.intro hll (And.intro hT hs64))
              clear hll hT hs64
              rw [e1, e2]
              go_wp2_with fail
              go_ret2
              exact ⟨HX.out.1, .inr ⟨fun h => HLL.out.1 (by rw [HX.out.2, HE.out.2.2.1]; exact h.2), rfl⟩⟩
          · have e1 : so x = true := by simp [so]; omega
            obtain ⟨sx, hsx⟩ : ∃ z, z = sn x := ⟨_, rfl⟩
            rw [← hsx]
            have HLL := Lib.hid (And.intro hs64 hT)
            clear hs64 hT hsx
            have hno : ¬ (d.total label l < 18446744073709551616 ∧ d.lb (CM.run d.nx 0 l) = label) := fun h => HLL.out.1 (by rw [HE.out.2.2.2.1, HLL.out.2]; exact h.1)
            have HNO := Lib.hid hno
            clear hno
            rw [e1]
            by_cases hll : lb = label
            · have e3 : (lb != label) = false := by simp [hll]
              clear hll
              go_wp2_with fail
              go_ret2
              exact ⟨HX.out.1, .inr ⟨HNO.out, rfl⟩⟩
            · have e3 : (lb != label) = true := by simp [hll]
              clear hll
              go_wp2_with fail
              go_ret2
              exact ⟨HX.out.1, .inr ⟨HNO.out, rfl⟩⟩
end Go.Proofs.YtloooajippcdlaaDoor
