/- bolterref14.Nth, of an automaton that may be. -/
import Derived.Test.YtloooajippcdlaaDoorCenCnt
import Derived.Test.YtloooajippcdlaaDoorBigSub
import Derived.Test.YtloooajippcdlaaDoorNth
import Derived.Deep.CutBlock
namespace Go.Proofs.YtloooajippcdlaaDoor
open Go.RowKit

/-- a number that no change outside of Z can touch -/
def BigIn (Z : Nat → Prop) (w : World) (v : Value) (n : Nat) : Prop := ∀ W : World, (∀ g, g < w.heap.size → Z g → W.heap[g]? = w.heap[g]?) → BigV W v n
theorem BigIn.big {Z : Nat → Prop} {w : World} {v : Value} {n : Nat} (h : BigIn Z w v n) : BigV w v n := h w fun _ _ _ => rfl
theorem BigIn.mono {Z Z' : Nat → Prop} {w : World} {v : Value} {n : Nat} (h : BigIn Z w v n) (hZ : ∀ g, g < w.heap.size → Z g → Z' g) : BigIn Z' w v n := fun W hk => h W fun g h1 h2 => hk g h1 (hZ g h1 h2)
theorem BigIn.kept {Z : Nat → Prop} {w w2 : World} {v : Value} {n : Nat} (h : BigIn Z w v n) (hs : w.heap.size ≤ w2.heap.size) (hk : ∀ g, g < w.heap.size → Z g → w2.heap[g]? = w.heap[g]?) : BigIn Z w2 v n :=
  fun W hk' => h W fun g h1 h2 => (hk' g (Nat.lt_of_lt_of_le h1 hs) h2).trans (hk g h1 h2)
theorem BigIn.ext {Z : Nat → Prop} {w w2 : World} {v : Value} {n : Nat} (h : BigIn Z w v n) (hx : Ext w w2) : BigIn Z w2 v n := h.kept hx.size fun g h1 _ => hx.block g h1
theorem own_bigIn {w : World} {B n : Nat} {v : Value} (h : w.ownsRow B 3 1 v (BG.dig n).length (intsV (bI (BG.dig n)))) (hl : (BG.dig n).length ≤ 1000) : BigIn (fun g => B ≤ g) w v n := fun _ hk =>
  own_big (own_block h fun g hg hl => hk g hl (h.lt g hg).1) hl
theorem big_all {w : World} {v : Value} {n : Nat} (h : BigV w v n) : BigIn (fun _ => True) w v n := fun W hk => by
  obtain ⟨h1, a, c, h2, h3, h4⟩ := h
  refine ⟨h1, a, c, h2, h3, fun h0 => ?_⟩
  obtain ⟨b, o, e, h5⟩ := h4 h0
  refine ⟨b, o, e, fun i x hi => ?_⟩
  have h6 := h5 i x hi
  exact (World.cell?_of_block (hk b (lt_of_cell h6) trivial)).trans h6
theorem BigIn.push {w W : World} {wv wv' v : Value} {n : Nat} (h : BigIn (fun g => wv.ownBlock ≠ some g) w v n) (hg : w.grownBy W wv.ownBlock) (hat : wv'.ownBlock = wv.ownBlock ∨ wv'.ownBlock = some w.heap.size) : BigIn (fun g => wv'.ownBlock ≠ some g) W v n := by
  rcases hat with e | e
  · rw [e]
    exact h.kept hg.size fun g h1 h2 => hg.block g h1 (fun e => h2 e.symm)
  · intro W' hk
    refine h W' fun g h1 h2 => ?_
    rw [hk g (Nat.lt_of_lt_of_le h1 hg.size) (by rw [e]; simp; omega), hg.block g h1 (fun e => h2 e.symm)]
theorem pick_le (f : Nat → Nat) (m i k : Nat) : (CM.pick f m i k).2 ≤ k := by
  induction m generalizing i k with
  | zero => exact Nat.le_refl _
  | succ m ih =>
    rw [CM.pick]
    split
    · exact Nat.le_trans (ih _ _) (Nat.sub_le _ _)
    · exact Nat.le_refl _
theorem u64_len {k : Nat} (h : k < 18446744073709551616) : (BG.dig k).length ≤ 1000 := Nat.le_trans (BG.dig_le (k := 8) (by omega)) (by omega)

def RefNthR (d : Dn) (label : Int) (k : Nat) (w : World) (e : Ending) (w' : World) : Prop :=
  Ext w w' ∧ (((d.nthLen label k).1 = 65 ∧ e = .returned (.tuple #[.slice none 0 0, .bool false])) ∨
    ((d.nthLen label k).1 < 65 ∧ ∃ v, e = .returned (.tuple #[v, .bool true]) ∧
      w'.ownsRow w.heap.size 5 1 v (d.nthLen label k).1 (bytesV (d.nth label (d.nthLen label k).1 0 (d.nthLen label k).2))))

set_option maxRecDepth 100000 in
set_option maxHeartbeats 8000000 in
theorem refNth_c {w : World} {v : Value} {d : Dn} (h : DenseV w v d) (hm : May d) (label : Int) {k : Nat} (hk : k < 18446744073709551616) :
    Calls Tryd.prog 51 #[v, .int .i64 label, .int .u64 (k : Int)] w (RefNthR d label k w) := by
  have hwy := fun W hx => ways14_c (w := W) (h.ext hx) hm label (most := 64) (Nat.le_refl _)
  obtain ⟨bn, on, cn, bl, ol, cl, rfl, hc⟩ := h.cells hm
  obtain ⟨N, hN⟩ : ∃ N, N = d.next.length := ⟨_, rfl⟩
  have hpos : 0 < N := by rw [hN]; exact hm.pos
  rw [← hN] at hwy ⊢
  obtain ⟨w1, hw1⟩ : ∃ w1, w1 = w.alloc (.cells #[.slice (some ⟨bn, on, none⟩) N cn, .slice (some ⟨bl, ol, none⟩) N cl] 25) := ⟨_, rfl⟩
  obtain ⟨db, hdb⟩ : ∃ b, b = w.heap.size := ⟨_, rfl⟩
  have b0 : w1.cell? ⟨db, 0, none⟩ = some (.slice (some ⟨bn, on, none⟩) N cn) := by rw [hw1, hdb]; exact new_cell rfl
  have b1 : w1.cell? ⟨db, 1, none⟩ = some (.slice (some ⟨bl, ol, none⟩) N cl) := by rw [hw1, hdb]; exact new_cell rfl
  have hx1 : Ext w w1 := by rw [hw1]; exact Ext.box _ _
  have hwy1 := hwy _ hx1
  unfold WaysR at hwy1
  rw [← hN] at hwy1
  have H := Lib.hid (And.intro hwy1 (And.intro hx1 (And.intro hc (And.intro hm (And.intro hN hk)))))
  have HW := Lib.hid (And.intro hw1 (And.intro hdb b0))
  clear hwy hwy1 hx1 hw1 hdb h hm hN hc
  go_enter Tryd.func51, Tryd.ntmps51
  go_upto_region 1 with fail
  rw [← HW.out.1, ← HW.out.2.1]
  go_wp2_with fail
  refine H.out.1.mono ?_
  rintro e w2 ⟨g, gc, rfl, hx2, hfar⟩
  have hW2 := hfar w2 (fun _ _ _ => rfl)
  have H2 := Lib.hid (And.intro hW2 (And.intro (H.out.2.1.trans hx2) (And.intro hx2 (H.out.2.2.1.ext (H.out.2.1.trans hx2)))))
  clear hfar hW2 hx2 b0 b1
  have hj64 : ((64 : Nat) : Int) + 1 = 65 := rfl
  go_wp2_with fail
  refine (of14_c hk).mono ?_
  rintro e w3 ⟨lv, rfl, hlv, hx3⟩
  have H3 := Lib.hid (And.intro (own_big hlv (u64_len hk)) hx3)
  clear hlv hx3 hj64 hk
  go_upto_block 0 with fail
  go_cut [9, 10] (fun lv nv wx => ∃ q k' : Nat, q ≤ 65 ∧ nv = .int .i64 q ∧ d.nthLen label k = (q, k') ∧ Ext w2 wx ∧ k' ≤ k ∧ BigV wx lv k' ∧ (q ≤ 64 → k' < d.ways label q 0))
  case first =>
    go_wp2_with fail
    go_loopw [9, 10] (fun lv nv wr => ∃ q k' : Nat, q ≤ 65 ∧ nv = .int .i64 q ∧ Ext w2 wr ∧ k' ≤ k ∧ BigV wr lv k' ∧ CM.pick (fun n => d.ways label n 0) (65 - q) q k' = d.nthLen label k) (fun _ nv _ => 65 - (intOf nv).toNat)
    case atStart => exact ⟨0, k, by omega, rfl, H3.out.2, Nat.le_refl _, H3.out.1, rfl⟩
    case round =>
      obtain ⟨q, k', hq, rfl, hx, hkk, hbig, hp⟩ := hrel
      obtain ⟨na, nn, nc, hnv⟩ : ∃ a n c, u9 = .slice a n c := by obtain ⟨a, c, e, _⟩ := hbig.open; exact ⟨a, _, c, e⟩
      by_cases hq6 : q ≤ 64
      · have hj1 : (q : Int) ≤ 64 := by omega
        obtain ⟨r, c1, hr⟩ := H2.out.1 q hq6
        obtain ⟨v0, c2, hb0⟩ := hr 0 hpos
        have hb0 : BigV w2 v0 (d.ways label q 0) := hb0
        have c1 := hx.cell c1
        have c2 := hx.cell c2
        have hcm := cmp14_c hbig (IntsK.ext hx hb0)
        obtain ⟨z, hz⟩ : ∃ z, z = cmpV k' (d.ways label q 0) := ⟨_, rfl⟩
        rw [← hz] at hcm
        have hj2 : (q : Int) < 65 := by omega
        have hj3 : (0 : Int) < N := by omega
        have HA := Lib.hid (And.intro hcm (And.intro hx (And.intro hkk (And.intro hbig (And.intro hp (And.intro hz (IntsK.ext hx hb0)))))))
        clear hcm hx hkk hbig hp hz hr hb0 hnv
        go_wp2_with fail
        refine HA.out.1.mono ?_
        rintro e w4 ⟨rfl, hx4⟩
        have c1 := hx4.cell c1
        have c2 := hx4.cell c2
        by_cases hle : d.ways label q 0 ≤ k'
        · have hz0 : 0 ≤ z := by rw [HA.out.2.2.2.2.2.1]; exact cmpV_ge.2 hle
          have hsb := sub14_c (IntsK.ext hx4 HA.out.2.2.2.1) (IntsK.ext hx4 HA.out.2.2.2.2.2.2) hle (u64_len (by have := HA.out.2.2.1; have := H.out.2.2.2.2.2; omega))
          have HB := Lib.hid (And.intro hsb (And.intro (HA.out.2.1.trans hx4) hle))
          clear hsb hx4 hle
          go_wp2_with fail
          refine HB.out.1.mono ?_
          rintro e w5 ⟨lv5, rfl, hlv5, hx5⟩
          have H5 := Lib.hid (And.intro (own_big hlv5 (u64_len (by have := HA.out.2.2.1; have := H.out.2.2.2.2.2; omega))) (HB.out.2.1.trans hx5))
          clear hlv5 hx5 c1 c2
          go_wp2_with fail
          go_roundw
          case rel => exact ⟨q + 1, k' - d.ways label q 0, by omega, by go_num, H5.out.2, by have := HA.out.2.2.1; omega, H5.out.1, by
            rw [← HA.out.2.2.2.2.1, show 65 - q = (65 - (q + 1)) + 1 from by omega, CM.pick, if_pos HB.out.2.2]⟩
          case measure => simp [intOf]; omega
        · have hz0 : ¬ 0 ≤ z := by rw [HA.out.2.2.2.2.2.1]; exact fun h => hle (cmpV_ge.1 h)
          have HB := Lib.hid (And.intro (HA.out.2.1.trans hx4) (And.intro hle (IntsK.ext hx4 HA.out.2.2.2.1)))
          clear hx4 hle c1 c2
          go_wp2_with fail
          go_meet
          exact ⟨q, k', by omega, rfl, by rw [← HA.out.2.2.2.2.1, show 65 - q = (65 - (q + 1)) + 1 from by omega, CM.pick, if_neg HB.out.2.1], HB.out.1, HA.out.2.2.1, HB.out.2.2, fun _ => by have := HB.out.2.1; omega⟩
      · have hj1 : ¬ (q : Int) ≤ 64 := by omega
        obtain rfl : q = 65 := by omega
        have HA := Lib.hid (And.intro hx (And.intro hkk (And.intro hbig hp)))
        clear hx hkk hbig hp hq6 hq hnv
        rw [show ((65 : Nat) : Int) = 65 from rfl] at *
        go_wp2_with fail
        go_meet
        exact ⟨65, k', by omega, rfl, HA.out.2.2.2.symm, HA.out.1, HA.out.2.1, HA.out.2.2.1, fun h => by omega⟩
  case rest =>
    rename World => w4
    obtain ⟨q, k', hq, rfl, hnl, hx, hkk, hbig, hlt⟩ := hcut
    by_cases hq6 : 64 < q
    · obtain rfl : q = 65 := by omega
      have HA := Lib.hid (And.intro hnl hx)
      clear hnl hx hkk hbig hlt hq6 hq
      rw [show ((65 : Nat) : Int) = 65 from rfl]
      go_wp2_with fail
      go_ret2
      exact ⟨H2.out.2.1.trans HA.out.2, .inl ⟨by rw [HA.out.1], rfl⟩⟩
    · have hj1 : ¬ (64 : Int) < q := by omega
      have HA := Lib.hid (And.intro hnl (And.intro hx (And.intro hkk (And.intro (big_all hbig) (hlt (by omega))))))
      clear hnl hx hkk hlt hbig
      go_wp2_with fail
      go_loopw [9, 11, 12, 13] (fun lv wv sv iv wr => ∃ (r s k1 : Nat) (z : Int) (done : List Nat), r ≤ q ∧ iv = .int .i64 z ∧ z = (r : Int) - 1 ∧ sv = .int .i64 s ∧ s < N ∧ k1 ≤ k ∧ k1 < d.ways label r s ∧
        done ++ d.nth label r s k1 = d.nth label q 0 k' ∧ done.length + r = q ∧ Ext w4 wr ∧ wr.ownsRow w4.heap.size 5 1 wv done.length (bytesV done) ∧ BigIn (fun g => wv.ownBlock ≠ some g) wr lv k1) (fun _ _ _ iv _ => (intOf iv + 1).toNat)
      case atStart => exact ⟨q, 0, k', _, [], Nat.le_refl _, rfl, by omega, rfl, hpos, HA.out.2.2.1, HA.out.2.2.2.2, rfl, by simp, Ext.refl _, World.ownsRow_nil _ _ _ _, HA.out.2.2.2.1.mono fun _ _ _ => by simp [Value.ownBlock]⟩
      case round =>
        rename World => w5
        obtain ⟨r, s, k1, z, done, hr, rfl, hz, rfl, hs, hk1, hk1', hw, hdl, hx, hown, hbig⟩ := hrel
        by_cases hr0 : r = 0
        · subst hr0
          have hz0 : ¬ (0 : Int) ≤ z := by omega
          rw [show d.nth label 0 s k1 = [] from rfl, List.append_nil] at hw
          rw [Nat.add_zero] at hdl
          rw [hdl, hw] at hown
          have HB := Lib.hid (And.intro hown hx)
          clear hown hx hbig hk1' hk1 hw hdl hz
          go_wp2_with fail
          go_ret2
          refine ⟨H2.out.2.1.trans (HA.out.2.1.trans HB.out.2), .inr ⟨?_, _, rfl, ?_⟩⟩
          · rw [HA.out.1]; show q < 65; omega
          · rw [HA.out.1]; exact own_base HB.out.1 (H2.out.2.1.trans HA.out.2.1).size
        · obtain ⟨p, rfl⟩ : ∃ p, r = p + 1 := ⟨r - 1, by omega⟩
          obtain rfl : z = (p : Int) := by omega
          have hz0 : (0 : Int) ≤ p := by omega
          have hpk1 : k1 < CM.sumTo (fun c => d.ways label p (d.nx s c)) 256 := by rw [ways_succ] at hk1'; exact hk1'
          obtain ⟨wa, wc, hwv⟩ := own_shpB hown
          subst hwv
          obtain ⟨br, ro, cr, hr1, hr2⟩ := H2.out.2.2.2.row s (by rw [← H.out.2.2.2.2.1]; exact hs)
          obtain ⟨rw', c1, hrr⟩ := H2.out.1 p (by omega)
          have HR := Lib.hid (And.intro hr1 (And.intro hr2 (And.intro c1 (And.intro hrr (And.intro hpk1 (And.intro hw (And.intro hdl hk1)))))))
          have HO := Lib.hid (And.intro hx (And.intro hown hbig))
          clear hr1 hr2 c1 hrr hpk1 hk1' hw hr0 hx hown hbig hdl hz hk1
          go_wp2_with fail
          go_loopw [9, 14] (fun lv cv wr => ∃ c k2 : Nat, cv = .int .i64 c ∧ c ≤ 256 ∧ CM.pick (fun c => d.ways label p (d.nx s c)) (256 - c) c k2 = CM.pick (fun c => d.ways label p (d.nx s c)) 256 0 k1 ∧ k2 ≤ k ∧ Ext w4 wr ∧ wr.ownsRow w4.heap.size 5 1 (.slice wa done.length wc) done.length (bytesV done) ∧ BigIn (fun g => (Value.slice wa done.length wc).ownBlock ≠ some g) wr lv k2) (fun _ cv _ => 256 - (intOf cv).toNat)
          case atStart => exact ⟨0, k1, rfl, by omega, rfl, HR.out.2.2.2.2.2.2.2, HO.out.1, HO.out.2.1, HO.out.2.2⟩
          case round =>
            rename World => w6
            obtain ⟨c, k2, rfl, hc6, hpp, hk2, hx, hown, hbig⟩ := hrel
            have hc7 : c < 256 := by
              rcases Nat.lt_or_ge c 256 with h | h
              · exact h
              · exfalso
                obtain rfl : c = 256 := by omega
                have h1 := CM.pick_lt HR.out.2.2.2.2.1
                rw [← hpp] at h1
                simp only [Nat.sub_self, CM.pick] at h1
                omega
            obtain ⟨na, nn, nc, hnv⟩ : ∃ a n c, u9 = .slice a n c := by obtain ⟨a, c, e, _⟩ := hbig.big.open; exact ⟨a, _, c, e⟩
            have hx26 := HA.out.2.1.trans hx
            have hlt2 := H.out.2.2.2.1.nx_lt (s := s) (c := c) (by rw [← H.out.2.2.2.2.1]; exact hs) hc7
            rw [← H.out.2.2.2.2.1] at hlt2
            have r2 := HR.out.2.1 c hc7
            obtain ⟨t, ht⟩ : ∃ t, t = d.nx s c := ⟨_, rfl⟩
            rw [← ht] at hlt2 r2
            obtain ⟨v0, c2, hb0⟩ := HR.out.2.2.2.1 t hlt2
            have hb0 : BigV w2 v0 (d.ways label p t) := hb0
            have hcm := fun z => cmp14_c (w := growW w6 z) (IntsK.ext (grow_ext w6 z) hbig.big) (IntsK.ext (hx26.trans (grow_ext w6 z)) hb0)
            obtain ⟨z9, hz9⟩ : ∃ z, z = cmpV k2 (d.ways label p t) := ⟨_, rfl⟩
            rw [← hz9] at hcm
            have y0 := fun z => (H2.out.2.2.1.trans (hx26.trans (grow_ext w6 z))).cell HW.out.2.2
            have y1 := fun z => (hx26.trans (grow_ext w6 z)).cell HR.out.1
            have y2 := fun z => (hx26.trans (grow_ext w6 z)).cell r2
            have y3 := fun z => (hx26.trans (grow_ext w6 z)).cell HR.out.2.2.1
            have y4 := fun z => (hx26.trans (grow_ext w6 z)).cell c2
            have hj1 : (p : Int) < 65 := by omega
            have hj2 : (s : Int) < N := by omega
            have hj3 : (c : Int) < 256 := by omega
            have hj4 : (t : Int) < N := by omega
            have HC := Lib.hid (And.intro hcm (And.intro hpp (And.intro hk2 (And.intro hx (And.intro hown (And.intro hbig (And.intro ht (And.intro hz9 (And.intro r2 (And.intro c2 hb0))))))))))
            clear hcm hpp hk2 hx hown hbig ht hz9 r2 c2 hb0 hx26 hnv
            go_upto_region 15 with fail
            refine wp_region_grow (by kernel_rfl) (by kernel_rfl) ?_
            repeat (go_big_quiet_step ((go_at_call 85; with_reducible exact calls_grow (HC.out.1 _))))
            refine wpQuiet_nil ?_
            rintro _ ⟨z, rfl⟩
            obtain ⟨w7, hw7⟩ : ∃ W, W = growW w6 z := ⟨_, rfl⟩
            rw [← hw7]
            have hx7 : Ext w6 w7 := by rw [hw7]; exact grow_ext w6 z
            clear y0 y1 y2 y3 y4
            have hx27 := HA.out.2.1.trans (HC.out.2.2.2.1.trans hx7)
            have y0 := (H2.out.2.2.1.trans hx27).cell HW.out.2.2
            have y1 := hx27.cell HR.out.1
            have y2 := hx27.cell HC.out.2.2.2.2.2.2.2.2.1
            have y3 := hx27.cell HR.out.2.2.1
            have y4 := hx27.cell HC.out.2.2.2.2.2.2.2.2.2.1
            have HX7 := Lib.hid (And.intro hx7 hx27)
            clear hx7 hw7 hx27
            by_cases hle : d.ways label p t ≤ k2
            · have hz0 : 0 ≤ z9 := by rw [HC.out.2.2.2.2.2.2.2.1]; exact cmpV_ge.2 hle
              have hk264 := H.out.2.2.2.2.2
              have hk2k := HC.out.2.2.1
              have hsb := sub14_c (w := w7.drew) (IntsK.ext HX7.out.1.drew HC.out.2.2.2.2.2.1.big) (IntsK.ext HX7.out.2.drew HC.out.2.2.2.2.2.2.2.2.2.2) hle (u64_len (by omega))
              have HB := Lib.hid (And.intro hsb (And.intro hle (show k2 - d.ways label p t < 18446744073709551616 by omega)))
              clear hsb hle hk264 hk2k
              go_wp2_with fail
              go_still_tail 15, (by kernel_rfl)
              change wpList _ _ _ _ _ w7.drew
              go_wp2_with fail
              refine HB.out.1.mono ?_
              rintro e w8 ⟨lv5, rfl, hlv5, hx8⟩
              have hx78 : Ext w7 w8 := (Ext.refl w7).drew.trans hx8
              have hbig8 := (own_bigIn hlv5 (u64_len HB.out.2.2)).mono (Z' := fun g => (Value.slice wa done.length wc).ownBlock ≠ some g) (fun g _ hz e => by
                have h1 := (HC.out.2.2.2.2.1.lt g e).2
                have h2 := HX7.out.1.size
                have h3 : w7.heap.size ≤ g := hz
                omega)
              have H8 := Lib.hid (And.intro hbig8 (And.intro (HC.out.2.2.2.1.trans (HX7.out.1.trans hx78)) (own_ext (HX7.out.1.trans hx78) HC.out.2.2.2.2.1)))
              clear hlv5 hx8 hx78 hbig8 y0 y1 y2 y3 y4
              go_wp2_with fail
              go_roundw
              case rel => exact ⟨c + 1, k2 - d.ways label p t, by go_num, by omega, by
                rw [← HC.out.2.1, show 256 - c = (256 - (c + 1)) + 1 from by omega, CM.pick, if_pos (by rw [← HC.out.2.2.2.2.2.2.1]; exact HB.out.2.1), ← HC.out.2.2.2.2.2.2.1], by have := HC.out.2.2.1; omega, H8.out.2.1, H8.out.2.2, H8.out.1⟩
              case measure => simp [intOf]; omega
            · have hz0 : ¬ 0 ≤ z9 := by rw [HC.out.2.2.2.2.2.2.2.1]; exact fun h => hle (cmpV_ge.1 h)
              have hpk : CM.pick (fun c => d.ways label p (d.nx s c)) 256 0 k1 = (c, k2) := by
                rw [← HC.out.2.1, show 256 - c = (256 - (c + 1)) + 1 from by omega, CM.pick, if_neg (by rw [← HC.out.2.2.2.2.2.2.1]; exact hle)]
              have hlt : k2 < d.ways label p t := by omega
              obtain ⟨i0, hi, hz0', hz1, hz2⟩ := info_parts byte_info
              have hx67 := HC.out.2.2.2.1.trans HX7.out.1
              have hown := own_ext (HX7.out.1.trans (Ext.box w7 (.cells #[.int .u8 (c : Int)] 5))) HC.out.2.2.2.2.1
              have hcell := cell_one_new w7 (.int .u8 (c : Int)) 5
              have h1c : ∀ u ∈ [Value.int .u8 (c : Int)], u.oneCell' = true := one_int _ _
              have hbase : w4.heap.size ≤ (w7.alloc (.cells #[.int .u8 (c : Int)] 5)).heap.size := by have := hx67.size; simp; omega
              have hdlq := HR.out.2.2.2.2.2.2.1
              have hmax : done.length + 1 ≤ maxLen := by unfold maxLen; omega
              have hdl64 : done.length + 1 ≤ 100 := by omega
              have HB := Lib.hid (And.intro hpk (And.intro hlt (And.intro hx67 (HC.out.2.2.2.2.2.1.ext (HX7.out.1.trans (Ext.box w7 (.cells #[.int .u8 (c : Int)] 5)))))))
              clear hpk hlt hx67 hle hdlq
              go_upto_region 19 with (at_builtin; refine wpList_append_own_at _ rfl _ _ 28 rfl w4.heap.size 5 i0 (.int .u8 0) 1 1 Tryd.underlying28 hi hz0' hz1 hz2 rfl (by decide) _ _ _ rfl hown ⟨w7.heap.size, 0, none⟩ 1 1 [.int .u8 (c : Int)] rfl rfl hcell h1c hmax (by omega) hbase ?_; intro v' W8 hown' hg _ hat)
              have hxw : Ext w4 W8 := Below.grown (HB.out.2.2.1.trans (Ext.box w7 (.cells #[.int .u8 (c : Int)] 5))) hg hbase (fun g e => (HC.out.2.2.2.2.1.lt g e).1)
              have hx28 := HA.out.2.1.trans hxw
              have hbig8 := HB.out.2.2.2.push hg hat
              have H8 := Lib.hid (And.intro hxw (And.intro hown' hbig8))
              clear y0 y1 y2 y3 y4
              have y0 := (H2.out.2.2.1.trans hx28).cell HW.out.2.2
              have y1 := hx28.cell HR.out.1
              have y2 := hx28.cell HC.out.2.2.2.2.2.2.2.2.1
              clear hxw hx28 hbig8 hown' hg hat hown hcell h1c hbase
              go_wp2_with fail
              go_roundw
              case rel =>
                refine ⟨p, t, k2, (p : Int) - 1, done ++ [c], by omega, rfl, rfl, rfl, hlt2, HC.out.2.2.1, HB.out.2.1, ?_, by simp; have := HR.out.2.2.2.2.2.2.1; omega, H8.out.1, ?_, H8.out.2.2⟩
                · rw [← HR.out.2.2.2.2.2.1, nth_step HB.out.1, ← HC.out.2.2.2.2.2.2.1]; simp
                · have : bytesV (done ++ [c]) = bytesV done ++ [.int .u8 (c : Int)] := by simp [bytesV]
                  rw [this, List.length_append]; exact H8.out.2.1
              case measure => simp [intOf]
end Go.Proofs.YtloooajippcdlaaDoor
