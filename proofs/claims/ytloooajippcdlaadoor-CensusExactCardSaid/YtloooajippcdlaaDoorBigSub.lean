/- bolterref14.trim and Sub: the digits of a difference. (by tools/mkbigsub.py) -/
import Derived.Test.YtloooajippcdlaaDoorBigAdd
namespace Go.Proofs.YtloooajippcdlaaDoor
open Go.RowKit

theorem own_prefix {w : World} {B : Nat} {e : TypeId} {a : Option Addr} {n c m : Nat} {xs : List Value} (h : w.ownsRow B e 1 (.slice a n c) n xs) (hm : m ≤ n) : w.ownsRow B e 1 (.slice a m c) m (xs.take m) := by
  obtain ⟨h1, h2⟩ := h
  refine ⟨by rw [List.length_take]; omega, ?_⟩
  rcases h2 with ⟨hv, h0⟩ | ⟨g, cap, cur, hv, hg, hh, hn, hc, hs, hx⟩
  · simp only [Value.slice.injEq] at hv
    obtain ⟨rfl, rfl, rfl⟩ := hv
    obtain rfl : m = 0 := by omega
    exact .inl ⟨rfl, rfl⟩
  · simp only [Value.slice.injEq] at hv
    obtain ⟨rfl, _, rfl⟩ := hv
    refine .inr ⟨g, c, cur, rfl, hg, hh, by omega, hc, hs, ?_⟩
    rw [← hx, List.take_take, Nat.min_eq_left (by omega), Nat.mul_one]
def slen : Value → Nat
  | .slice _ n _ => n
  | _ => 0
theorem take_vb (l : List Nat) (k : Nat) : (intsV (bI l)).take k = intsV (bI (l.take k)) := by simp [intsV, bI, List.map_take]

set_option maxRecDepth 100000 in
set_option maxHeartbeats 2000000 in
theorem trim14_c {w : World} {B K c z : Nat} {a : Option Addr} (h : w.ownsRow B 3 1 (.slice a K c) K (intsV (bI (BG.ds z K)))) (hz : BG.hi z K = 0) (hK : K ≤ 1000) :
    Calls Tryd.prog 94 #[.slice a K c] w fun e w' => e = .returned (.slice a (BG.dig z).length c) ∧ w.ownsRow B 3 1 (.slice a (BG.dig z).length c) (BG.dig z).length (intsV (bI (BG.dig z))) ∧ w' = w := by
  have hcap : K ≤ c := by
    rcases h.2 with ⟨hv, h0⟩ | ⟨g, cap, cur, hv, _, _, hn, _⟩
    · omega
    · simp only [Value.slice.injEq] at hv; omega
  have hcell : ∀ j, j < K → ∃ g, a = some ⟨g, 0, none⟩ ∧ w.cell? ⟨g, j, none⟩ = some (.int .i64 ((BG.hi z j % 256 : Nat) : Int)) := fun j hj => by
    obtain ⟨a', c', hv, _, _, h3⟩ := own_read h
    simp only [Value.slice.injEq] at hv
    obtain ⟨rfl, -, rfl⟩ := hv
    obtain ⟨g, rfl, _, h4⟩ := h3 (by omega)
    refine ⟨g, rfl, ?_⟩
    rw [h4 j hj]
    unfold intsV BG.ds bI
    rw [List.getElem?_map, List.getElem?_map, List.getElem?_map, List.getElem?_range hj]; rfl
  have hend : ∀ k, k ≤ K → BG.ds z k = BG.dig z → w.ownsRow B 3 1 (.slice a (BG.dig z).length c) (BG.dig z).length (intsV (bI (BG.dig z))) ∧ k = (BG.dig z).length := fun k hk e => by
    have h1 := own_prefix h hk
    have h2 : k = (BG.dig z).length := by rw [← e, BG.ds_len]
    rw [take_vb, BG.ds_take z hk, e] at h1
    rw [h2] at h1
    exact ⟨h1, h2⟩
  have H := Lib.hid (And.intro hcell hend)
  clear h hcell hend
  go_enter Tryd.func94, Tryd.ntmps94
  go_wp2_with fail
  go_loop [0] (fun av => ∃ k : Nat, k ≤ K ∧ av = .slice a k c ∧ BG.hi z k = 0) (fun av => slen av)
  case atStart => exact ⟨K, Nat.le_refl _, rfl, hz⟩
  case round =>
    clear hz
    obtain ⟨k, hk, rfl, hz⟩ := hrel
    by_cases h0 : k = 0
    · subst h0
      obtain ⟨h1, h2⟩ := H.out.2 0 hk (BG.ds_dig hz (.inl rfl))
      have HE := Lib.hid (And.intro h1 h2)
      clear h1 h2 hz
      go_wp2_with fail
      go_ret
      exact ⟨by rw [← HE.out.2]; rfl, HE.out.1, rfl⟩
    · obtain ⟨j, hj⟩ : ∃ j, j = k - 1 := ⟨_, rfl⟩
      obtain ⟨g, rfl, c1⟩ := H.out.1 j (by omega)
      have hj1 : (0 : Int) < k := by omega
      have hj2 : (k : Int) - 1 = (j : Int) := by omega
      have hj3 : (j : Int) < k := by omega
      have hj4 : (j : Int) ≤ c := by omega
      obtain ⟨d, hd⟩ : ∃ d, d = BG.hi z j % 256 := ⟨_, rfl⟩
      rw [← hd] at c1
      have hkj : k = j + 1 := by omega
      have HD := Lib.hid (And.intro hd (And.intro hz hkj))
      clear hd hz hkj hj h0
      by_cases hd0 : d = 0
      · have he : ((d : Int) == 0) = true := by simp; omega
        have HZ := Lib.hid hd0
        clear hd0
        go_wp2_with fail
        go_round
        case rel => exact ⟨j, by omega, rfl, by
          have h1 := HD.out.2.1
          rw [HD.out.2.2] at h1
          have h2 : BG.hi z j / 256 = 0 := h1
          have h3 := HD.out.1
          have h4 := HZ.out
          omega⟩
        case measure => simp [slen]; have := HD.out.2.2; omega
      · have he : ((d : Int) == 0) = false := by simp; omega
        obtain ⟨h1, h2⟩ := H.out.2 k hk (BG.ds_dig HD.out.2.1 (.inr (by rw [HD.out.2.2, Nat.add_sub_cancel, ← HD.out.1]; exact hd0)))
        have HE := Lib.hid (And.intro h1 h2)
        clear h1 h2 hd0
        go_wp2_with fail
        go_ret
        exact ⟨by rw [← HE.out.2]; rfl, HE.out.1, rfl⟩

set_option maxRecDepth 100000 in
set_option maxHeartbeats 4000000 in
theorem sub14_c {w : World} {va vb : Value} {x y : Nat} (ha : BigV w va x) (hb : BigV w vb y) (hyx : y ≤ x) (hl : (BG.dig x).length ≤ 1000) :
    Calls Tryd.prog 86 #[va, vb] w (BigR (x - y) w) := by
  obtain ⟨z, hzz⟩ : ∃ z, z = x - y := ⟨_, rfl⟩
  rw [← hzz]
  obtain ⟨aa, ac, rfl, hla, hca⟩ := ha.open
  obtain ⟨ba, bc, rfl, hlb, hcb⟩ := hb.open
  obtain ⟨LA, hLA⟩ : ∃ n, n = (BG.dig x).length := ⟨_, rfl⟩
  obtain ⟨LB, hLB⟩ : ∃ n, n = (BG.dig y).length := ⟨_, rfl⟩
  rw [← hLA] at hla hca hl ⊢
  rw [← hLB] at hlb hcb ⊢
  have hA : ∀ i, i < LA ↔ 0 < BG.hi x i := fun i => by rw [hLA]; exact BG.dig_len
  have hB : ∀ i, i < LB ↔ 0 < BG.hi y i := fun i => by rw [hLB]; exact BG.dig_len
  have hx0 : BG.hi x 0 = BG.hi z 0 + BG.hi y 0 + 0 := by show x = z + y + 0; omega
  have hzA : BG.hi z LA = 0 := by
    have h1 := BG.hi_mono (x := z) (y := x) (by omega) LA
    have h2 := mt (hA LA).2 (Nat.lt_irrefl _)
    omega
  have H := Lib.hid (And.intro hca (And.intro hcb (And.intro hA (And.intro hB hzA))))
  have HX0 := Lib.hid hx0
  clear ha hb hca hcb hA hB hLA hLB hx0 hzA hzz
  go_enter Tryd.func86, Tryd.ntmps86
  go_wp2_with fail
  go_loopw [5, 6, 7] (fun ov cv iv wr => ∃ (i c : Nat), i ≤ LA ∧ c ≤ 1 ∧ iv = .int .i64 i ∧ cv = .int .i64 c ∧ BG.hi x i = BG.hi z i + BG.hi y i + c ∧ wr.ownsRow w.heap.size 3 1 ov i (intsV (bI (BG.ds z i))) ∧ Ext w wr) (fun _ _ iv _ => LA - (intOf iv).toNat)
  case atStart => exact ⟨0, 0, Nat.zero_le _, Nat.zero_le _, rfl, rfl, HX0.out, World.ownsRow_nil _ _ _ _, Ext.refl _⟩
  case round =>
    obtain ⟨i, c, hi, hc, rfl, rfl, hh, hown, hx⟩ := hrel
    obtain ⟨oa, oc, hov⟩ := own_shpB hown
    subst hov
    by_cases hgo : i < LA
    · have j1 : (i : Int) < LA := by omega
      obtain ⟨a, haa⟩ : ∃ a, a = BG.hi x i % 256 := ⟨_, rfl⟩
      obtain ⟨b, hbb⟩ : ∃ b, b = BG.hi y i % 256 := ⟨_, rfl⟩
      obtain ⟨d, hd⟩ : ∃ d, d = BG.hi z i % 256 := ⟨_, rfl⟩
      obtain ⟨ab, ao, rfl, hca⟩ := H.out.1 (by omega)
      have k1 := hx.cell (hca i hgo)
      have hst := BG.sub_step hh hc
      rw [← haa, ← hbb, ← hd] at hst
      rw [← haa] at k1
      have ha6 : a < 256 := by omega
      have hb6 : b < 256 := by omega
      have hd6 : d < 256 := by omega
      have hB0 : ¬ i < LB → b = 0 := fun h => by have := mt (H.out.2.2.2.1 i).2 h; omega
      obtain ⟨n1, hn1⟩ : ∃ n : Int, (a : Int) - (c : Int) = n := ⟨_, rfl⟩
      have hn1b : -1 ≤ n1 ∧ n1 < 256 := by omega
      have hown2 := own_ext (Ext.box wr (.cells #[.int .i64 (d : Int)] 3)) hown
      have hcell := cell_one_new wr (.int .i64 (d : Int)) 3
      have h1c := one_int .i64 (d : Int)
      have hbase : w.heap.size ≤ (wr.alloc (.cells #[.int .i64 (d : Int)] 3)).heap.size := by have := hx.size; simp; omega
      have hmax : i + 1 ≤ maxLen := by unfold maxLen; omega
      obtain ⟨i0, hi0, hz0, hz1, hz2⟩ := info_parts int_infoB
      have hdd : ∃ c', c' ≤ 1 ∧ BG.hi x (i + 1) = BG.hi z (i + 1) + BG.hi y (i + 1) + c' ∧ ((c' = 1 ∧ n1 - (b : Int) < 0 ∧ n1 - (b : Int) + 256 = (d : Int)) ∨ (c' = 0 ∧ ¬ n1 - (b : Int) < 0 ∧ n1 - (b : Int) = (d : Int))) := by
        by_cases h9 : a < c + b
        · exact ⟨1, Nat.le_refl _, (hst.1 h9).1, .inl ⟨rfl, by omega, by have := (hst.1 h9).2; omega⟩⟩
        · exact ⟨0, by omega, (hst.2 h9).1, .inr ⟨rfl, by omega, by have := (hst.2 h9).2; omega⟩⟩
      obtain ⟨c', hc1, hst', hcs⟩ := hdd
      have HS := Lib.hid (And.intro hst' (And.intro hown (And.intro hx (And.intro hd hbb))))
      clear hst hst' hown haa hd hh hca
      by_cases e2 : i < LB
      · rcases hcs with ⟨rfl, g1, g2⟩ | ⟨rfl, g1, g2⟩
        · have j2 : (i : Int) < LB := by omega
          obtain ⟨bb, bo, rfl, hcb⟩ := H.out.2.1 (by omega)
          have k2 := hx.cell (hcb i e2)
          rw [← hbb] at k2
          obtain ⟨n2, hn2⟩ : ∃ n : Int, n1 - (b : Int) = n := ⟨_, rfl⟩
          rw [hn2] at g1 g2
          clear hB0 hx hbb hcb
          go_wp2_with (at_builtin; refine wpList_append_own_at _ rfl _ _ 134 rfl w.heap.size 3 i0 (.int .i64 0) 1 8 Tryd.underlying134 hi0 hz0 hz1 hz2 rfl (by decide) _ _ _ rfl hown2 ⟨wr.heap.size, 0, none⟩ 1 1 [.int .i64 (d : Int)] rfl rfl hcell h1c hmax (by omega) hbase ?_; intro v' W7 hown' hg _ hat)
          go_roundw
          case rel =>
            refine ⟨i + 1, 1, by omega, by omega, by go_num, by go_num, HS.out.1, ?_, Below.grown (HS.out.2.2.1.trans (Ext.box wr _)) hg hbase (fun g e => (HS.out.2.1.lt g e).1)⟩
            rw [BG.ds_succ, ← HS.out.2.2.2.1, bI_snoc]; exact hown'
          case measure => simp [intOf]; omega
        · have j2 : (i : Int) < LB := by omega
          obtain ⟨bb, bo, rfl, hcb⟩ := H.out.2.1 (by omega)
          have k2 := hx.cell (hcb i e2)
          rw [← hbb] at k2
          obtain ⟨n2, hn2⟩ : ∃ n : Int, n1 - (b : Int) = n := ⟨_, rfl⟩
          rw [hn2] at g1 g2
          obtain rfl : n2 = (d : Int) := g2
          clear hB0 hx hbb hcb
          go_wp2_with (at_builtin; refine wpList_append_own_at _ rfl _ _ 134 rfl w.heap.size 3 i0 (.int .i64 0) 1 8 Tryd.underlying134 hi0 hz0 hz1 hz2 rfl (by decide) _ _ _ rfl hown2 ⟨wr.heap.size, 0, none⟩ 1 1 [.int .i64 (d : Int)] rfl rfl hcell h1c hmax (by omega) hbase ?_; intro v' W7 hown' hg _ hat)
          go_roundw
          case rel =>
            refine ⟨i + 1, 0, by omega, by omega, by go_num, by go_num, HS.out.1, ?_, Below.grown (HS.out.2.2.1.trans (Ext.box wr _)) hg hbase (fun g e => (HS.out.2.1.lt g e).1)⟩
            rw [BG.ds_succ, ← HS.out.2.2.2.1, bI_snoc]; exact hown'
          case measure => simp [intOf]; omega
      · rcases hcs with ⟨rfl, g1, g2⟩ | ⟨rfl, g1, g2⟩
        · have j2 : ¬ (i : Int) < LB := by omega
          obtain rfl := hB0 e2
          obtain ⟨n2, hn2⟩ : ∃ n : Int, n1 = n := ⟨_, rfl⟩
          subst hn2
          simp only [Int.ofNat_zero, Int.sub_zero] at g1 g2
          clear hB0 hx hbb
          go_wp2_with (at_builtin; refine wpList_append_own_at _ rfl _ _ 134 rfl w.heap.size 3 i0 (.int .i64 0) 1 8 Tryd.underlying134 hi0 hz0 hz1 hz2 rfl (by decide) _ _ _ rfl hown2 ⟨wr.heap.size, 0, none⟩ 1 1 [.int .i64 (d : Int)] rfl rfl hcell h1c hmax (by omega) hbase ?_; intro v' W7 hown' hg _ hat)
          go_roundw
          case rel =>
            refine ⟨i + 1, 1, by omega, by omega, by go_num, by go_num, HS.out.1, ?_, Below.grown (HS.out.2.2.1.trans (Ext.box wr _)) hg hbase (fun g e => (HS.out.2.1.lt g e).1)⟩
            rw [BG.ds_succ, ← HS.out.2.2.2.1, bI_snoc]; exact hown'
          case measure => simp [intOf]; omega
        · have j2 : ¬ (i : Int) < LB := by omega
          obtain rfl := hB0 e2
          obtain ⟨n2, hn2⟩ : ∃ n : Int, n1 = n := ⟨_, rfl⟩
          subst hn2
          simp only [Int.ofNat_zero, Int.sub_zero] at g1 g2
          obtain rfl : n1 = (d : Int) := g2
          clear hB0 hx hbb
          go_wp2_with (at_builtin; refine wpList_append_own_at _ rfl _ _ 134 rfl w.heap.size 3 i0 (.int .i64 0) 1 8 Tryd.underlying134 hi0 hz0 hz1 hz2 rfl (by decide) _ _ _ rfl hown2 ⟨wr.heap.size, 0, none⟩ 1 1 [.int .i64 (d : Int)] rfl rfl hcell h1c hmax (by omega) hbase ?_; intro v' W7 hown' hg _ hat)
          go_roundw
          case rel =>
            refine ⟨i + 1, 0, by omega, by omega, by go_num, by go_num, HS.out.1, ?_, Below.grown (HS.out.2.2.1.trans (Ext.box wr _)) hg hbase (fun g e => (HS.out.2.1.lt g e).1)⟩
            rw [BG.ds_succ, ← HS.out.2.2.2.1, bI_snoc]; exact hown'
          case measure => simp [intOf]; omega
    · obtain rfl : LA = i := by omega
      have j1 : ¬ (LA : Int) < LA := by omega
      have htr := trim14_c hown H.out.2.2.2.2 (by omega)
      have HS := Lib.hid (And.intro htr hx)
      clear hown hx hh htr hgo hi
      go_wp2_with fail
      refine HS.out.1.mono ?_
      rintro e w2 ⟨rfl, hown, rfl⟩
      have HT := Lib.hid hown
      clear hown
      go_wp2_with fail
      go_ret
      exact ⟨_, rfl, HT.out, HS.out.2⟩
end Go.Proofs.YtloooajippcdlaaDoor
