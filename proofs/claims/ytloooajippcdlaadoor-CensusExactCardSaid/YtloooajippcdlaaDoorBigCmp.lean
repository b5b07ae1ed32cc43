/- bolterref14.Cmp, Of, Small. -/
import Derived.Test.YtloooajippcdlaaDoorBigAdd
import Derived.Test.YtloooajippcdlaaDoorSum
import Derived.BigQuiet
import Derived.Deep.QuietTactic
namespace Go.Proofs.YtloooajippcdlaaDoor
open Go.RowKit

def cmpV (x y : Nat) : Int := if x < y then -1 else if x = y then 0 else 1
theorem cmpV_lt {x y : Nat} (h : x < y) : cmpV x y = -1 := if_pos h
theorem cmpV_gt {x y : Nat} (h : y < x) : cmpV x y = 1 := by unfold cmpV; rw [if_neg (by omega), if_neg (by omega)]
theorem cmpV_eq (x : Nat) : cmpV x x = 0 := by unfold cmpV; rw [if_neg (Nat.lt_irrefl _), if_pos rfl]
theorem cmpV_ge {x y : Nat} : 0 ≤ cmpV x y ↔ y ≤ x := by
  rcases Nat.lt_trichotomy x y with h | h | h
  · rw [cmpV_lt h]; omega
  · subst h; rw [cmpV_eq]; omega
  · rw [cmpV_gt h]; omega

set_option maxRecDepth 100000 in
set_option maxHeartbeats 2000000 in
theorem cmp14_c {w : World} {va vb : Value} {x y : Nat} (ha : BigV w va x) (hb : BigV w vb y) :
    Calls Tryd.prog 85 #[va, vb] w fun e w' => e = .returned (.int .i64 (cmpV x y)) ∧ Ext w w' := by
  obtain ⟨aa, ac, rfl, hla, hca⟩ := ha.open
  obtain ⟨ba, bc, rfl, hlb, hcb⟩ := hb.open
  obtain ⟨LA, hLA⟩ : ∃ n, n = (BG.dig x).length := ⟨_, rfl⟩
  obtain ⟨LB, hLB⟩ : ∃ n, n = (BG.dig y).length := ⟨_, rfl⟩
  rw [← hLA] at hla hca ⊢
  rw [← hLB] at hlb hcb ⊢
  have hA : ∀ i, i < LA ↔ 0 < BG.hi x i := fun i => by rw [hLA]; exact BG.dig_len
  have hB : ∀ i, i < LB ↔ 0 < BG.hi y i := fun i => by rw [hLB]; exact BG.dig_len
  clear ha hb hLA hLB
  by_cases hne : LA = LB
  · subst hne
    have hbe : ((LA : Int) != (LA : Int)) = false := by simp
    have hx0 : BG.hi x LA = 0 := by have := mt (hA LA).2 (Nat.lt_irrefl _); omega
    have hy0 : BG.hi y LA = 0 := by have := mt (hB LA).2 (Nat.lt_irrefl _); omega
    have H := Lib.hid (And.intro hca (And.intro hcb (hx0.trans hy0.symm)))
    clear hca hcb hA hB hx0 hy0
    go_enter Tryd.func85, Tryd.ntmps85
    go_wp2_with fail
    clear hbe
    go_loopw [5] (fun iv wr => Ext w wr ∧ ∃ (j : Nat) (z : Int), j ≤ LA ∧ iv = .int .i64 z ∧ z = (j : Int) - 1 ∧ BG.hi x j = BG.hi y j) (fun iv _ => (intOf iv + 1).toNat)
    case atStart => exact ⟨Ext.refl _, LA, _, Nat.le_refl _, rfl, by omega, H.out.2.2⟩
    case round =>
      obtain ⟨hx, j, z, hj, rfl, hz, he⟩ := hrel
      by_cases h0 : j = 0
      · subst h0
        have hz0 : ¬ (0 : Int) ≤ z := by omega
        have hxy : x = y := he
        have HX := Lib.hid (And.intro hx hxy)
        clear hx hxy he hz
        go_wp2_with fail
        go_ret
        exact ⟨by rw [HX.out.2, cmpV_eq]; rfl, HX.out.1⟩
      · obtain ⟨i, rfl⟩ : ∃ i, j = i + 1 := ⟨j - 1, by omega⟩
        obtain rfl : z = (i : Int) := by omega
        obtain ⟨ab, ao, rfl, hca⟩ := H.out.1 (by omega)
        obtain ⟨bb, bo, rfl, hcb⟩ := H.out.2.1 (by omega)
        have c1 := hx.cell (hca i (by omega))
        have c2 := hx.cell (hcb i (by omega))
        have he' : BG.hi x i / 256 = BG.hi y i / 256 := he
        obtain ⟨a, haa⟩ : ∃ a, a = BG.hi x i % 256 := ⟨_, rfl⟩
        obtain ⟨b, hbb⟩ : ∃ b, b = BG.hi y i % 256 := ⟨_, rfl⟩
        rw [← haa] at c1
        rw [← hbb] at c2
        have hj1 : (0 : Int) ≤ i := by omega
        have hj2 : (i : Int) < LA := by omega
        have hlt : a < b → x < y := fun h => BG.hi_lt (i := i) (by omega)
        have hgt : b < a → y < x := fun h => BG.hi_lt (i := i) (by omega)
        have heq : a = b → BG.hi x i = BG.hi y i := fun h => by omega
        have HX := Lib.hid (And.intro hx (And.intro hlt (And.intro hgt heq)))
        have hca' := hca
        clear hx hlt hgt heq he he' haa hbb hca hcb hca' h0 hz
        by_cases g1 : a < b
        · have g1' : (a : Int) < b := by omega
          go_wp2_with fail
          go_quiet (fail)
          go_wp2_with fail
          go_ret
          exact ⟨by rw [cmpV_lt (HX.out.2.1 g1)]; rfl, HX.out.1.drewN _⟩
        · have g1' : ¬ (a : Int) < b := by omega
          have g1'' : decide ((a : Int) < b) = false := by simpa using g1'
          by_cases g2 : b < a
          · have g2' : (b : Int) < a := by omega
            go_wp2_with fail
            go_quiet (fail)
            obtain ⟨w6, hw6⟩ : ∃ z, z = wr.drewN nq := ⟨_, rfl⟩
            have d1 : w6.cell? ⟨ab, ao + i, none⟩ = some (.int .i64 (a : Int)) := by rw [hw6]; simpa using c1
            have d2 : w6.cell? ⟨bb, bo + i, none⟩ = some (.int .i64 (b : Int)) := by rw [hw6]; simpa using c2
            have hx6 : Ext w w6 := by rw [hw6]; exact HX.out.1.drewN _
            rw [← hw6]
            have HX6 := Lib.hid hx6
            clear hx6 hw6 c1 c2
            go_wp2_with fail
            go_quiet (fail)
            go_wp2_with fail
            go_ret
            exact ⟨by rw [cmpV_gt (HX.out.2.2.1 g2)]; rfl, HX6.out.drewN _⟩
          · have g2' : ¬ (b : Int) < a := by omega
            go_wp2_with fail
            go_quiet (fail)
            obtain ⟨w6, hw6⟩ : ∃ z, z = wr.drewN nq := ⟨_, rfl⟩
            have d1 : w6.cell? ⟨ab, ao + i, none⟩ = some (.int .i64 (a : Int)) := by rw [hw6]; simpa using c1
            have d2 : w6.cell? ⟨bb, bo + i, none⟩ = some (.int .i64 (b : Int)) := by rw [hw6]; simpa using c2
            have hx6 : Ext w w6 := by rw [hw6]; exact HX.out.1.drewN _
            rw [← hw6]
            have HX6 := Lib.hid hx6
            clear hx6 hw6 c1 c2
            go_wp2_with fail
            go_quiet (fail)
            go_wp2_with fail
            go_roundw
            case rel => exact ⟨HX6.out.drewN _, i, (i : Int) - 1, by omega, rfl, rfl, HX.out.2.2.2 (by omega)⟩
            case measure => simp [intOf]
  · have hbe : ((LA : Int) != (LB : Int)) = true := by rw [bne_iff_ne]; omega
    by_cases hlt : LA < LB
    · have hlt' : (LA : Int) < LB := by omega
      have hxy : x < y := BG.hi_lt (i := LA) (by have h1 := (hB LA).1 hlt; have h2 := mt (hA LA).2 (Nat.lt_irrefl _); omega)
      have HX := Lib.hid hxy
      clear hca hcb hA hB hxy hne hlt
      go_enter Tryd.func85, Tryd.ntmps85
      go_wp2_with fail
      go_ret
      exact ⟨by rw [cmpV_lt HX.out]; rfl, Ext.refl _⟩
    · have hlt' : ¬ (LA : Int) < LB := by omega
      have hxy : y < x := BG.hi_lt (i := LB) (by have h1 := (hA LB).1 (by omega); have h2 := mt (hB LB).2 (Nat.lt_irrefl _); omega)
      have HX := Lib.hid hxy
      clear hca hcb hA hB hxy hne hlt
      go_enter Tryd.func85, Tryd.ntmps85
      go_wp2_with fail
      go_ret
      exact ⟨by rw [cmpV_gt HX.out]; rfl, Ext.refl _⟩

set_option maxRecDepth 100000 in
set_option maxHeartbeats 2000000 in
theorem of14_c {w : World} {n : Nat} (hn : n < 18446744073709551616) : Calls Tryd.prog 84 #[.int .u64 (n : Int)] w (BigR n w) := by
  have hl8 : (BG.dig n).length ≤ 8 := BG.dig_le (k := 8) (by omega)
  obtain ⟨L, hL⟩ : ∃ n', n' = (BG.dig n).length := ⟨_, rfl⟩
  rw [← hL] at hl8
  have hZ : ∀ i, i < L ↔ 0 < BG.hi n i := fun i => by rw [hL]; exact BG.dig_len
  have H := Lib.hid (And.intro hZ hL)
  clear hZ hL
  go_enter Tryd.func84, Tryd.ntmps84
  go_wp2_with fail
  go_loopw [0, 3] (fun nv ov wr => ∃ i m : Nat, i ≤ L ∧ nv = .int .u64 (m : Int) ∧ m = BG.hi n i ∧ m < 18446744073709551616 ∧ wr.ownsRow w.heap.size 3 1 ov i (intsV (bI ((BG.dig n).take i))) ∧ Ext w wr) (fun nv _ _ => (intOf nv).toNat)
  case atStart => exact ⟨0, n, Nat.zero_le _, rfl, rfl, hn, World.ownsRow_nil _ _ _ _, Ext.refl _⟩
  case round =>
    obtain ⟨i, m, hi, rfl, hm, hm6, hown, hx⟩ := hrel
    obtain ⟨oa, oc, hov⟩ := own_shpB hown
    subst hov
    by_cases hgo : 0 < m
    · have hgo' : (0 : Int) < m := by omega
      obtain ⟨q, hq⟩ : ∃ q, q = m % 256 := ⟨_, rfl⟩
      obtain ⟨m', hm'⟩ : ∃ q, q = m / 256 := ⟨_, rfl⟩
      have htk := BG.dig_take (n := n) (i := i) (by rw [← hm]; exact hgo)
      rw [← hm, ← hq] at htk
      have hst : m' = BG.hi n (i + 1) := by rw [hm', hm]; rfl
      have hil : i < L := (H.out.1 i).2 (by rw [← hm]; exact hgo)
      have m1 : (m : Int) % 256 = (q : Int) := by omega
      have m2 : Int.tmod (m : Int) 256 = (q : Int) := by rw [Int.tmod_eq_emod_of_nonneg (by omega)]; exact m1
      have m3 : (m : Int) / 256 = (m' : Int) := by omega
      have m4 : Int.tdiv (m : Int) 256 = (m' : Int) := by rw [Int.tdiv_eq_ediv_of_nonneg (by omega)]; exact m3
      have hq6 : q < 256 := by omega
      have hmm : m' < m := by omega
      have hown2 := own_ext (Ext.box wr (.cells #[.int .i64 (q : Int)] 3)) hown
      have hcell := cell_one_new wr (.int .i64 (q : Int)) 3
      have h1c := one_int .i64 (q : Int)
      have hbase : w.heap.size ≤ (wr.alloc (.cells #[.int .i64 (q : Int)] 3)).heap.size := by have := hx.size; simp; omega
      have hmax : i + 1 ≤ maxLen := by unfold maxLen; omega
      obtain ⟨i0, hi0, hz0, hz1, hz2⟩ := info_parts int_infoB
      have HS := Lib.hid (And.intro hst (And.intro htk (And.intro hown (And.intro hx (And.intro hil (And.intro hmm hm6))))))
      clear hst htk hown hx hm hq hm' hil hmm
      go_wp2_with (at_builtin; refine wpList_append_own_at _ rfl _ _ 134 rfl w.heap.size 3 i0 (.int .i64 0) 1 8 Tryd.underlying134 hi0 hz0 hz1 hz2 rfl (by decide) _ _ _ rfl hown2 ⟨wr.heap.size, 0, none⟩ 1 1 [.int .i64 (q : Int)] rfl rfl hcell h1c hmax (by omega) hbase ?_; intro v' W7 hown' hg _ hat)
      go_roundw
      case rel =>
        refine ⟨i + 1, m', HS.out.2.2.2.2.1, by go_num, HS.out.1, by have := HS.out.2.2.2.2.2.1; omega, ?_, Below.grown (HS.out.2.2.2.1.trans (Ext.box wr _)) hg hbase (fun g e => (HS.out.2.2.1.lt g e).1)⟩
        rw [HS.out.2.1, bI_snoc]; exact hown'
      case measure => simp [intOf]; have := HS.out.2.2.2.2.2.1; omega
    · obtain rfl : m = 0 := by omega
      have h0 : BG.hi n i = 0 := hm.symm
      have hLi : i = L := by
        have h1 := mt (H.out.1 i).1 (by omega)
        omega
      rw [BG.dig_all h0] at hown
      have HS := Lib.hid (And.intro hown (And.intro hx hLi))
      clear hown hx hLi hm h0 hgo hi
      go_wp2_with fail
      go_ret
      exact ⟨_, rfl, by rw [← H.out.2, ← HS.out.2.2]; exact HS.out.1, HS.out.2.1⟩

set_option maxRecDepth 100000 in
set_option maxHeartbeats 2000000 in
theorem small14_c {w : World} {va : Value} {x : Nat} (ha : BigV w va x) :
    Calls Tryd.prog 82 #[va] w fun e w' => e = .returned (.tuple #[.int .u64 (sn x), .bool (!so x)]) ∧ Ext w w' := by
  obtain ⟨aa, ac, rfl, hla, hca⟩ := ha.open
  obtain ⟨LA, hLA⟩ : ∃ n, n = (BG.dig x).length := ⟨_, rfl⟩
  rw [← hLA] at hla hca ⊢
  have hA : ∀ i, i < LA ↔ 0 < BG.hi x i := fun i => by rw [hLA]; exact BG.dig_len
  have h8 : 0 < BG.hi x 8 ↔ 18446744073709551616 ≤ x := by
    rw [BG.hi_pow, show (256 : Nat) ^ 8 = 18446744073709551616 by decide]
    omega
  clear ha hLA
  by_cases hbig : 8 < LA
  · have hb' : (8 : Int) < LA := by omega
    have hx := h8.1 ((hA 8).1 hbig)
    have hs1 : sn x = 18446744073709551615 := by unfold sn; rw [if_neg (by omega)]
    have hs2 : so x = true := by unfold so; simp [hx]
    have HX := Lib.hid (And.intro hs1 hs2)
    clear hs1 hs2 hx h8 hA hca hbig
    go_enter Tryd.func82, Tryd.ntmps82
    go_wp2_with fail
    go_ret2
    exact ⟨by rw [HX.out.1, HX.out.2]; rfl, Ext.refl _⟩
  · have hb' : ¬ (8 : Int) < LA := by omega
    have hx : x < 18446744073709551616 := by
      have h1 := mt h8.2 (by have := mt (hA 8).2 hbig; exact this)
      omega
    have hs1 : sn x = (x : Int) := by unfold sn; rw [if_pos hx]
    have hs2 : so x = false := by unfold so; simp; omega
    have hx0 : BG.hi x LA = 0 := by have := mt (hA LA).2 (Nat.lt_irrefl _); omega
    have HX := Lib.hid (And.intro hs1 (And.intro hs2 (And.intro hx (And.intro hca hx0))))
    clear hs1 hs2 hx h8 hA hca hx0 hbig
    go_enter Tryd.func82, Tryd.ntmps82
    go_wp2_with fail
    go_loopw [4, 5] (fun nv iv wr => Ext w wr ∧ ∃ (j : Nat) (z : Int) (m : Nat), j ≤ LA ∧ iv = .int .i64 z ∧ z = (j : Int) - 1 ∧ nv = .int .u64 (m : Int) ∧ m = BG.hi x j) (fun _ iv _ => (intOf iv + 1).toNat)
    case atStart => exact ⟨Ext.refl _, LA, _, 0, Nat.le_refl _, rfl, by omega, rfl, HX.out.2.2.2.2.symm⟩
    case round =>
      obtain ⟨hx, j, z, m, hj, rfl, hz, rfl, hm⟩ := hrel
      by_cases h0 : j = 0
      · subst h0
        have hz0 : ¬ (0 : Int) ≤ z := by omega
        have hmx : m = x := hm
        have HE := Lib.hid (And.intro hx hmx)
        clear hx hmx hm hz
        go_wp2_with fail
        go_ret2
        exact ⟨by rw [HX.out.1, HX.out.2.1, HE.out.2]; rfl, HE.out.1⟩
      · obtain ⟨i, rfl⟩ : ∃ i, j = i + 1 := ⟨j - 1, by omega⟩
        obtain rfl : z = (i : Int) := by omega
        obtain ⟨ab, ao, rfl, hca⟩ := HX.out.2.2.2.1 (by omega)
        have c1 := hx.cell (hca i (by omega))
        obtain ⟨d, hd⟩ : ∃ a, a = BG.hi x i % 256 := ⟨_, rfl⟩
        rw [← hd] at c1
        obtain ⟨m', hm'⟩ : ∃ a, a = BG.hi x i := ⟨_, rfl⟩
        have hmm : m = m' / 256 := by rw [hm, hm']; rfl
        have hdd : d = m' % 256 := by rw [hd, hm']
        have hle : m' ≤ x := by rw [hm']; exact BG.hi_anti x (i := 0) (Nat.zero_le i)
        have hxx := HX.out.2.2.1
        obtain ⟨p, hp⟩ : ∃ p, p = 256 * m := ⟨_, rfl⟩
        have s1 : (256 : Int) * (m : Int) = (p : Int) := by omega
        have s2 : (p : Int) + (d : Int) = (m' : Int) := by omega
        have hp6 : p < 18446744073709551616 := by omega
        have hm6 : m' < 18446744073709551616 := by omega
        have hd6 : d < 256 := by omega
        have hj1 : (0 : Int) ≤ i := by omega
        have hj2 : (i : Int) < LA := by omega
        have HE := Lib.hid (And.intro hx hm')
        clear hx hm' hm hd hmm hdd hle hxx hp hz h0 hca
        go_wp2_with fail
        go_roundw
        case rel => exact ⟨HE.out.1, i, (i : Int) - 1, m', by omega, rfl, rfl, rfl, HE.out.2⟩
        case measure => simp [intOf]
end Go.Proofs.YtloooajippcdlaaDoor
