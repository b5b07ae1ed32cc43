/- census.Nth. -/
import Derived.Test.YtloooajippcdlaaDoorCount
import Derived.Test.YtloooajippcdlaaDoorOwn
namespace Go.Proofs.YtloooajippcdlaaDoor
open Go.RowKit

theorem test_eq {f k : Nat} (hk : k < 18446744073709551616) : (f ≤ k ↔ so f = false ∧ sn f ≤ (k : Int)) := by
  unfold so sn
  by_cases h : f < 18446744073709551616
  · rw [if_pos h]; simp; omega
  · rw [if_neg h]; simp; omega
theorem test_no {f k : Nat} (_ : k < 18446744073709551616) (h : ¬ f ≤ k) : so f = true ∨ (so f = false ∧ (k : Int) < sn f) := by
  unfold so sn
  by_cases h1 : f < 18446744073709551616
  · rw [if_pos h1]; right; simp; omega
  · left; simp; omega
theorem sn_of_le {f k : Nat} (hk : k < 18446744073709551616) (h : f ≤ k) : sn f = f := by unfold sn; rw [if_pos (by omega)]

def NthPost (d : Dn) (label : Int) (k : Nat) (w : World) (e : Ending) (w' : World) : Prop :=
  Ext w w' ∧ (((d.nthLen label k).1 = 65 ∧ e = .returned (.tuple #[.slice none 0 0, .bool false, .nilIface])) ∨
    ((d.nthLen label k).1 < 65 ∧ ∃ v, e = .returned (.tuple #[v, .bool true, .nilIface]) ∧
      w'.ownsRow w.heap.size 5 1 v (d.nthLen label k).1 (bytesV (d.nth label (d.nthLen label k).1 0 (d.nthLen label k).2))))

theorem nth_step {d : Dn} {label : Int} {p s k1 c k2 : Nat} (h : CM.pick (fun c => d.ways label p (d.nx s c)) 256 0 k1 = (c, k2)) : d.nth label (p + 1) s k1 = c :: d.nth label p (d.nx s c) k2 := by
  unfold Dn.nth
  rw [CM.nthB]
  have h' : CM.pick (fun c => CM.ways d.nx (fun t => d.lb t == label) p (d.nx s c)) 256 0 k1 = (c, k2) := h
  rw [h']

theorem nth_ext {w2 wr W : World} {B : Nat} {e : TypeId} {v : Value} {n : Nat} {xs : List Value} {X Y : Obj} (hx : Ext w2 wr) (hown : wr.ownsRow B e 1 v n xs) (hB : w2.heap.size ≤ B) (hg : ((wr.alloc X).alloc Y).drew.grownBy W v.ownBlock) : Ext w2 W :=
  Below.grown (((hx.alloc X).alloc Y).drew) hg (((hx.alloc X).alloc Y).drew).size (fun k hk => by have := (hown.lt k hk).1; omega)

set_option maxRecDepth 100000 in
set_option maxHeartbeats 2000000 in
theorem nth_c {v : Value} {d : Dn} {w : World} (h : DenseV w v d) (hm : May d) {label : Int} (hl : -1 ≤ label) {k : Nat} (hk : k < 18446744073709551616) :
    Calls Tryd.prog 46 #[v, .int .i64 label, .int .u64 k] w (NthPost d label k w) := by
  have hmb := mayB_true.2 hm
  have HM := Lib.hid hm
  obtain ⟨bn, on, cn, bl, ol, cl, rfl, hc⟩ := h.cells hm
  obtain ⟨N, hN⟩ : ∃ N, N = d.next.length := ⟨_, rfl⟩
  have HN := Lib.hid hN
  have hpos : 0 < N := by rw [hN]; exact hm.pos
  rw [← hN] at h ⊢
  have hb0 := fun W (hx : Ext (w.alloc (.cells #[.slice (some ⟨bn, on, none⟩) N cn, .slice (some ⟨bl, ol, none⟩) N cl] 25)) W) => hx.cell (p := ⟨w.heap.size, 0, none⟩) (v := .slice (some ⟨bn, on, none⟩) N cn) (by simp)
  have hb1 := fun W (hx : Ext (w.alloc (.cells #[.slice (some ⟨bn, on, none⟩) N cn, .slice (some ⟨bl, ol, none⟩) N cl] 25)) W) => hx.cell (p := ⟨w.heap.size, 1, none⟩) (v := .slice (some ⟨bl, ol, none⟩) N cl) (by simp)
  have hd := fun W (hx : Ext (w.alloc (.cells #[.slice (some ⟨bn, on, none⟩) N cn, .slice (some ⟨bl, ol, none⟩) N cl] 25)) W) => h.ext ((Ext.box w _).trans hx)
  clear h hm hN
  have hl' : ¬ label < -1 := by omega
  obtain ⟨i0, hi, hz0, hz1, hz2⟩ := info_parts byte_info
  go_enter Tryd.func46, Tryd.ntmps46
  go_wp2_with fail
  refine (check_c (hd _ (Ext.refl _))).mono ?_
  rintro e w1 ⟨rfl, hx1⟩
  have hb0' := hb0 _ hx1
  have hb1' := hb1 _ hx1
  go_wp2_with fail
  refine (counted_v (hd _ hx1) HM.out label 64 (Nat.le_refl _)).mono ?_
  rintro e w2 ⟨T, rfl, ht, hx2⟩
  rw [← HN.out] at ht
  have hb0' := hb0 _ (hx1.trans hx2)
  have hx3 : Ext w w2 := (Ext.box w _).trans (hx1.trans hx2)
  have hc2 := hc.ext hx3
  clear hb0 hb1 hd hb1' hx1 hx2 hc
  have hsz : w.heap.size < w2.heap.size := World.block_lt_of_cell? _ _ hb0'
  go_wp2
  go_loopw [2, 10] (fun kv n wr => w2 = wr ∧ ∃ q k' : Nat, q ≤ 65 ∧ n = .int .i64 q ∧ kv = .int .u64 k' ∧ k' < 18446744073709551616 ∧ CM.pick (fun n => d.ways label n 0) (65 - q) q k' = d.nthLen label k) (fun _ n _ => 65 - (intOf n).toNat)
  case atStart => exact ⟨rfl, 0, k, by omega, rfl, rfl, hk, rfl⟩
  case round =>
    obtain ⟨rfl, q, k', hq, rfl, rfl, hk', hp⟩ := hrel
    by_cases hq6 : q ≤ 64
    · obtain ⟨B, ht1, ht2⟩ := ht q (by omega)
      have hs := ht2 0 hpos
      unfold SumAt at hs
      rw [Nat.zero_mul] at hs
      have hs0 := hs.1
      have hs1 := hs.2
      clear hs ht2
      by_cases hle : d.ways label q 0 ≤ k'
      · obtain ⟨e1, e2⟩ := (test_eq hk').1 hle
        have e3 := sn_of_le hk' hle
        go_wp2
        go_roundw
        case rel => exact ⟨trivial, q + 1, k' - d.ways label q 0, by omega, by go_num, by rw [Int.ofNat_sub hle], by omega, by
          rw [← hp, show 65 - q = (65 - (q + 1)) + 1 from by omega, CM.pick, if_pos hle]⟩
        case measure => simp [intOf]; omega
      · have hpk : d.nthLen label k = (q, k') := by
          rw [← hp, show 65 - q = (65 - (q + 1)) + 1 from by omega, CM.pick, if_neg hle]
        have HP := Lib.hid hpk
        clear hpk hp
        have hlt : k' < d.ways label q 0 := by omega
        rcases test_no hk' hle with e1 | ⟨e1, e2⟩
        all_goals
          clear hle
          go_wp2
          clear hs0 hs1 ht1
          go_loopw [6, 2, 10, 11] (fun wv kv nv sv wi => ∃ (r s k1 : Nat) (done : List Nat), r ≤ q ∧ nv = .int .i64 ((r : Int) - 1) ∧ sv = .int .i64 s ∧ s < N ∧ kv = .int .u64 k1 ∧ k1 < 18446744073709551616 ∧ k1 < d.ways label r s ∧
            done ++ d.nth label r s k1 = d.nth label q 0 k' ∧ done.length + r = q ∧ Ext w2 wi ∧ wi.ownsRow w2.heap.size 5 1 wv done.length (bytesV done)) (fun _ _ nv _ _ => (intOf nv + 1).toNat)
          case atStart => exact ⟨q, 0, k', [], Nat.le_refl _, rfl, rfl, hpos, rfl, hk', hlt, rfl, by simp, Ext.refl _, World.ownsRow_nil _ _ _ _⟩
          case round =>
            obtain ⟨r, s, k1, done, hr, rfl, rfl, hs, rfl, hk1, hk1', hw, hdl, hx, hown⟩ := hrel
            by_cases hr0 : r = 0
            · subst hr0
              go_wp2
              go_ret3
              rw [show d.nth label 0 s k1 = [] from rfl, List.append_nil] at hw
              rw [Nat.add_zero] at hdl
              rw [hdl, hw] at hown
              refine ⟨hx3.trans hx, .inr ⟨?_, _, rfl, ?_⟩⟩
              · rw [HP.out]; show q < 65; omega
              · rw [HP.out]; exact own_base hown hx3.size
            · obtain ⟨p, rfl⟩ : ∃ p, r = p + 1 := ⟨r - 1, by omega⟩
              rw [show ((p + 1 : Nat) : Int) - 1 = (p : Int) from by omega]
              have hb2 := hx.cell hb0'
              obtain ⟨br, ro, cr, hr1, hr2⟩ := hc2.row s (by rw [← HN.out]; exact hs)
              have hr1' := hx.cell hr1
              have hpk1 : k1 < CM.sumTo (fun c => d.ways label p (d.nx s c)) 256 := by rw [ways_succ] at hk1'; exact hk1'
              have HK := Lib.hid hpk1
              have HW := Lib.hid hw
              clear hpk1 hk1' hw hr0
              go_wp2
              go_loopw [2, 12] (fun kv cv wi => ∃ c k2 : Nat, cv = .int .i64 c ∧ c ≤ 256 ∧ kv = .int .u64 k2 ∧ CM.pick (fun c => d.ways label p (d.nx s c)) (256 - c) c k2 = CM.pick (fun c => d.ways label p (d.nx s c)) 256 0 k1 ∧
                k2 < 18446744073709551616 ∧ Ext w2 wi ∧ wi.ownsRow w2.heap.size 5 1 u6 done.length (bytesV done)) (fun _ cv _ => 256 - (intOf cv).toNat)
              case atStart => exact ⟨0, k1, rfl, by omega, rfl, rfl, hk1, hx, hown⟩
              case round =>
                clear hown hr1' hb2 hx hk1
                obtain ⟨c, k2, rfl, hc6, rfl, hpp, hk2, hx, hown⟩ := hrel
                have hc7 : c < 256 := by
                  rcases Nat.lt_or_ge c 256 with h | h
                  · exact h
                  · exfalso
                    obtain rfl : c = 256 := by omega
                    have h1 := CM.pick_lt HK.out
                    rw [← hpp] at h1
                    simp only [Nat.sub_self, CM.pick] at h1
                    omega
                have hb2 := hx.cell hb0'
                have hr1' := hx.cell hr1
                have hqc := hx.cell (hr2 c hc7)
                have hlt2 := HM.out.nx_lt (s := s) (c := c) (by rw [← HN.out]; exact hs) hc7
                rw [← HN.out] at hlt2
                obtain ⟨Bp, ht1, ht2⟩ := TabV.ext hx ht p (by omega)
                have hs2 := ht2 (d.nx s c) hlt2
                unfold SumAt at hs2
                have hs0 := hs2.1
                have hs1 := hs2.2
                clear hs2 ht2
                have l1 := lt_of_cell hb2
                have l2 := lt_of_cell hr1'
                have l3 := lt_of_cell hqc
                have l4 := lt_of_cell ht1
                have l5 := lt_of_cell hs0
                have hp65 : p < 65 := by omega
                have HPP := Lib.hid hpp
                clear hpp
                by_cases hle : d.ways label p (d.nx s c) ≤ k2
                · obtain ⟨e3, e4⟩ := (test_eq hk2).1 hle
                  have e5 := sn_of_le hk2 hle
                  go_wp2
                  go_region
                  go_wp2
                  go_roundw
                  case rel => exact ⟨c + 1, k2 - d.ways label p (d.nx s c), by go_num, by omega, by rw [Int.ofNat_sub hle], by
                    rw [← HPP.out, show 256 - c = (256 - (c + 1)) + 1 from by omega, CM.pick, if_pos hle], by omega, (hx.alloc _).drew, (hown.alloc _).drew⟩
                  case measure => simp [intOf]; omega
                · have hpk : CM.pick (fun c => d.ways label p (d.nx s c)) 256 0 k1 = (c, k2) := by
                    rw [← HPP.out, show 256 - c = (256 - (c + 1)) + 1 from by omega, CM.pick, if_neg hle]
                  have HPK := Lib.hid hpk
                  clear hpk HPP
                  have hlt : k2 < d.ways label p (d.nx s c) := by omega
                  have hnew : ∀ X, ((wr.alloc X).alloc (.cells #[.int .u8 (c : Int)] 5)).drew.cell? ⟨wr.heap.size + 1, 0, none⟩ = some (.int .u8 (c : Int)) := fun X => by
                    have := new_cell (w := wr.alloc X) (c := #[.int .u8 (c : Int)]) (t := 5) (i := 0) rfl
                    rw [World.size_alloc] at this
                    exact this
                  have hl3 : done.length + 1 ≤ maxLen := by unfold maxLen; omega
                  have hl4 : (done.length + 1) * 1 ≤ 140737488355328 := by omega
                  have hl5 : ∀ X Y, w2.heap.size ≤ ((wr.alloc X).alloc Y).drew.heap.size := fun X Y => (((hx.alloc X).alloc Y).drew).size
                  rcases test_no hk2 hle with e3 | ⟨e3, e4⟩
                  all_goals
                    clear hle
                    go_wp2
                    go_region
                    go_wp2_with (at_builtin; refine wpList_append_own _ rfl _ _ 28 rfl w2.heap.size 5 i0 (.int .u8 0) 1 1 Tryd.underlying28 hi hz0 hz1 hz2 rfl (by decide) _ _ _ rfl (((hown.alloc _).alloc _).drew) ⟨wr.heap.size + 1, 0, none⟩ 1 1 [.int .u8 (c : Int)] rfl rfl (news_one (hnew _)) (one_int _ _) hl3 hl4 (hl5 _ _) ?_; intro v' W hown' hgrow _)
                    go_roundw
                    case rel => exact ⟨p, d.nx s c, k2, done ++ [c], by omega, rfl, rfl, hlt2, rfl, hk2, hlt, by rw [← HW.out, nth_step HPK.out]; simp, by simp; omega, nth_ext hx hown (Nat.le_refl _) hgrow, by
                      have : bytesV (done ++ [c]) = bytesV done ++ [.int .u8 (c : Int)] := by simp [bytesV]
                      rw [this, List.length_append]; exact hown'⟩
                    case measure => simp [intOf]
    · obtain rfl : q = 65 := by omega
      rw [Nat.sub_self, CM.pick] at hp
      have HP := Lib.hid hp
      clear hp
      go_wp2
      go_ret3
      exact ⟨hx3, .inl ⟨by rw [← HP.out], rfl⟩⟩
end Go.Proofs.YtloooajippcdlaaDoor
