/- bolterref14.Add: the digits of a sum. (by tools/mkbigadd.py) -/
import Derived.Test.YtloooajippcdlaaDoorBigMath
import Derived.Test.YtloooajippcdlaaDoorOwn
import Derived.Test.YtloooajippcdlaaDoorGrow
import Derived.Deep.AppendLies
import Derived.BigQuiet
import Derived.Deep.QuietTactic
namespace Go.Proofs.YtloooajippcdlaaDoor
open Go.RowKit

def bI (l : List Nat) : List Int := l.map fun (n : Nat) => (n : Int)
theorem bI_len (l : List Nat) : (bI l).length = l.length := by simp [bI]
theorem bI_getD (l : List Nat) (i : Nat) : (bI l).getD i 0 = ((l.getD i 0 : Nat) : Int) := by
  unfold bI
  rw [List.getD_eq_getElem?_getD, List.getElem?_map, List.getD_eq_getElem?_getD]
  cases l[i]? <;> rfl
theorem bI_snoc (l : List Nat) (x : Nat) : intsV (bI (l ++ [x])) = intsV (bI l) ++ [.int .i64 (x : Int)] := by simp [bI, intsV]
theorem vb_len (l : List Nat) : (intsV (bI l)).length = l.length := by simp [bI, intsV]
/-- a number, as its digits lie in memory -/
abbrev BigV (w : World) (v : Value) (n : Nat) : Prop := Ints w v (bI (BG.dig n))
theorem BigV.open {w : World} {v : Value} {n : Nat} (h : BigV w v n) : ∃ a c, v = .slice a (BG.dig n).length c ∧ (BG.dig n).length ≤ 140737488355328 ∧ (0 < (BG.dig n).length → ∃ b o, a = some ⟨b, o, none⟩ ∧ ∀ i, i < (BG.dig n).length → w.cell? ⟨b, o + i, none⟩ = some (.int .i64 ((BG.hi n i % 256 : Nat) : Int))) := by
  obtain ⟨h1, a, c, h2, _, h3⟩ := IntsK.open h
  rw [bI_len] at h1 h2 h3
  refine ⟨a, c, h2, h1, fun h0 => ?_⟩
  obtain ⟨b, o, h4, h5⟩ := h3 h0
  refine ⟨b, o, h4, fun i hi => ?_⟩
  rw [h5 i hi, bI_getD, BG.dig_getD hi]
/-- a number in memory of the call's own -/
def BigR (n : Nat) (w : World) (e : Ending) (w' : World) : Prop :=
  ∃ v, e = .returned v ∧ w'.ownsRow w.heap.size 3 1 v (BG.dig n).length (intsV (bI (BG.dig n))) ∧ Ext w w'
theorem own_big {w : World} {B n : Nat} {v : Value} (h : w.ownsRow B 3 1 v (BG.dig n).length (intsV (bI (BG.dig n)))) (hl : (BG.dig n).length ≤ 1000) : BigV w v n := own_ints h (by omega)
theorem int_infoB : (Tryd.prog.info? 3).map (fun i => (i.zero, i.size, i.bytes)) = some (some (.int .i64 0), 1, 8) := by kernel_rfl
theorem own_shpB {w : World} {B : Nat} {e : TypeId} {size n : Nat} {v : Value} {xs : List Value} (h : w.ownsRow B e size v n xs) : ∃ a cap, v = .slice a n cap := by
  rcases h.2 with ⟨h1, h2⟩ | ⟨g, cap, _, hv, _⟩
  · exact ⟨none, 0, by rw [h1, h2]⟩
  · exact ⟨_, cap, hv⟩

set_option maxRecDepth 100000 in
set_option maxHeartbeats 4000000 in
theorem add14_c {w : World} {va vb : Value} {x y : Nat} (ha : BigV w va x) (hb : BigV w vb y) (hl : (BG.dig (x + y)).length ≤ 1000) :
    Calls Tryd.prog 87 #[va, vb] w (BigR (x + y) w) := by
  obtain ⟨aa, ac, rfl, hla, hca⟩ := ha.open
  obtain ⟨ba, bc, rfl, hlb, hcb⟩ := hb.open
  obtain ⟨LA, hLA⟩ : ∃ n, n = (BG.dig x).length := ⟨_, rfl⟩
  obtain ⟨LB, hLB⟩ : ∃ n, n = (BG.dig y).length := ⟨_, rfl⟩
  obtain ⟨L, hL⟩ : ∃ n, n = (BG.dig (x + y)).length := ⟨_, rfl⟩
  rw [← hLA] at hla hca ⊢
  rw [← hLB] at hlb hcb ⊢
  rw [← hL] at hl
  have hA : ∀ i, i < LA ↔ 0 < BG.hi x i := fun i => by rw [hLA]; exact BG.dig_len
  have hB : ∀ i, i < LB ↔ 0 < BG.hi y i := fun i => by rw [hLB]; exact BG.dig_len
  have hZ : ∀ i, i < L ↔ 0 < BG.hi (x + y) i := fun i => by rw [hL]; exact BG.dig_len
  have H := Lib.hid (And.intro hca (And.intro hcb (And.intro hA (And.intro hB (And.intro hZ hL)))))
  clear ha hb hca hcb hA hB hZ hLA hLB hL
  go_enter Tryd.func87, Tryd.ntmps87
  go_wp2_with fail
  go_loopw [5, 6, 7] (fun ov cv iv wr => ∃ (i c : Nat), i ≤ L ∧ c ≤ 1 ∧ iv = .int .i64 i ∧ cv = .int .i64 c ∧ BG.hi (x + y) i = BG.hi x i + BG.hi y i + c ∧ wr.ownsRow w.heap.size 3 1 ov i (intsV (bI ((BG.dig (x + y)).take i))) ∧ Ext w wr) (fun _ _ iv _ => L - (intOf iv).toNat)
  case atStart => exact ⟨0, 0, Nat.zero_le _, Nat.zero_le _, rfl, rfl, rfl, World.ownsRow_nil _ _ _ _, Ext.refl _⟩
  case round =>
    obtain ⟨i, c, hi, hc, rfl, rfl, hh, hown, hx⟩ := hrel
    obtain ⟨oa, oc, hov⟩ := own_shpB hown
    subst hov
    by_cases hgo : i < L
    · obtain ⟨a, haa⟩ : ∃ a, a = BG.hi x i % 256 := ⟨_, rfl⟩
      obtain ⟨b, hbb⟩ : ∃ b, b = BG.hi y i % 256 := ⟨_, rfl⟩
      obtain ⟨n, hn⟩ : ∃ n, n = c + a + b := ⟨_, rfl⟩
      obtain ⟨q, hq⟩ : ∃ q, q = n % 256 := ⟨_, rfl⟩
      obtain ⟨c', hc'⟩ : ∃ q, q = n / 256 := ⟨_, rfl⟩
      have hst := BG.add_step hh
      rw [← haa, ← hbb, ← hn, ← hq, ← hc'] at hst
      have ha6 : a < 256 := by omega
      have hb6 : b < 256 := by omega
      have hn6 : n ≤ 511 := by omega
      have hc1 : c' ≤ 1 := by omega
      have htk := BG.dig_take ((H.out.2.2.2.2.1 i).1 hgo)
      rw [hst.2] at htk
      have hA0 : ¬ i < LA → a = 0 := fun h => by have := mt (H.out.2.2.1 i).2 h; omega
      have hB0 : ¬ i < LB → b = 0 := fun h => by have := mt (H.out.2.2.2.1 i).2 h; omega
      have hC0 : ¬ i < LA → ¬ i < LB → c = 1 := fun h h' => by have h1 := mt (H.out.2.2.1 i).2 h; have h2 := mt (H.out.2.2.2.1 i).2 h'; have h3 := (H.out.2.2.2.2.1 i).1 hgo; omega
      have m1 : (n : Int) % 256 = (q : Int) := by omega
      have m2 : Int.tmod (n : Int) 256 = (q : Int) := by rw [Int.tmod_eq_emod_of_nonneg (by omega)]; exact m1
      have m3 : (n : Int) / 256 = (c' : Int) := by omega
      have m4 : Int.tdiv (n : Int) 256 = (c' : Int) := by rw [Int.tdiv_eq_ediv_of_nonneg (by omega)]; exact m3
      have hown2 := own_ext (Ext.box wr (.cells #[.int .i64 (q : Int)] 3)) hown
      have hcell := cell_one_new wr (.int .i64 (q : Int)) 3
      have h1c := one_int .i64 (q : Int)
      have hbase : w.heap.size ≤ (wr.alloc (.cells #[.int .i64 (q : Int)] 3)).heap.size := by have := hx.size; simp; omega
      have hmax : i + 1 ≤ maxLen := by unfold maxLen; omega
      obtain ⟨i0, hi0, hz0, hz1, hz2⟩ := info_parts int_infoB
      have HS := Lib.hid (And.intro hst.1 (And.intro htk (And.intro hown (And.intro hx (And.intro haa (And.intro hbb (And.intro hn (And.intro hq hc'))))))))
      clear hst htk hown haa hbb hq hc' hh
      by_cases e1 : i < LA
      · by_cases e2 : i < LB
        · have j1 : (i : Int) < LA := by omega
          obtain ⟨ab, ao, rfl, hca⟩ := H.out.1 (by omega)
          have k1 := hx.cell (hca i e1)
          rw [← HS.out.2.2.2.2.1] at k1
          have j2 : (i : Int) < LB := by omega
          obtain ⟨bb, bo, rfl, hcb⟩ := H.out.2.1 (by omega)
          have k2 := hx.cell (hcb i e2)
          rw [← HS.out.2.2.2.2.2.1] at k2
          obtain ⟨p, hp⟩ : ∃ p, p = c + a := ⟨_, rfl⟩
          have s1 : (c : Int) + (a : Int) = (p : Int) := by omega
          have s2 : (p : Int) + (b : Int) = (n : Int) := by omega
          clear hn hA0 hB0 hC0 hca hcb hp
          clear hx
          go_wp2_with (at_builtin; refine wpList_append_own_at _ rfl _ _ 134 rfl w.heap.size 3 i0 (.int .i64 0) 1 8 Tryd.underlying134 hi0 hz0 hz1 hz2 rfl (by decide) _ _ _ rfl hown2 ⟨wr.heap.size, 0, none⟩ 1 1 [.int .i64 (q : Int)] rfl rfl hcell h1c hmax (by omega) hbase ?_; intro v' W7 hown' hg _ hat)
          go_roundw
          case rel =>
            refine ⟨i + 1, c', by omega, hc1, by go_num, by go_num, HS.out.1, ?_, Below.grown (HS.out.2.2.2.1.trans (Ext.box wr _)) hg hbase (fun g e => (HS.out.2.2.1.lt g e).1)⟩
            rw [HS.out.2.1, bI_snoc]; exact hown'
          case measure => simp [intOf]; omega
        · have j1 : (i : Int) < LA := by omega
          obtain ⟨ab, ao, rfl, hca⟩ := H.out.1 (by omega)
          have k1 := hx.cell (hca i e1)
          rw [← HS.out.2.2.2.2.1] at k1
          have j2 : ¬ (i : Int) < LB := by omega
          have z2 := hB0 e2
          have s1 : (c : Int) + (a : Int) = (n : Int) := by omega
          clear hn hA0 hB0 hC0 hca z2
          clear hx
          go_wp2_with (at_builtin; refine wpList_append_own_at _ rfl _ _ 134 rfl w.heap.size 3 i0 (.int .i64 0) 1 8 Tryd.underlying134 hi0 hz0 hz1 hz2 rfl (by decide) _ _ _ rfl hown2 ⟨wr.heap.size, 0, none⟩ 1 1 [.int .i64 (q : Int)] rfl rfl hcell h1c hmax (by omega) hbase ?_; intro v' W7 hown' hg _ hat)
          go_roundw
          case rel =>
            refine ⟨i + 1, c', by omega, hc1, by go_num, by go_num, HS.out.1, ?_, Below.grown (HS.out.2.2.2.1.trans (Ext.box wr _)) hg hbase (fun g e => (HS.out.2.2.1.lt g e).1)⟩
            rw [HS.out.2.1, bI_snoc]; exact hown'
          case measure => simp [intOf]; omega
      · by_cases e2 : i < LB
        · have j1 : ¬ (i : Int) < LA := by omega
          have z1 := hA0 e1
          have j2 : (i : Int) < LB := by omega
          obtain ⟨bb, bo, rfl, hcb⟩ := H.out.2.1 (by omega)
          have k2 := hx.cell (hcb i e2)
          rw [← HS.out.2.2.2.2.2.1] at k2
          have s1 : (c : Int) + (b : Int) = (n : Int) := by omega
          clear hn hA0 hB0 hC0 z1 hcb
          clear hx
          go_wp2_with (at_builtin; refine wpList_append_own_at _ rfl _ _ 134 rfl w.heap.size 3 i0 (.int .i64 0) 1 8 Tryd.underlying134 hi0 hz0 hz1 hz2 rfl (by decide) _ _ _ rfl hown2 ⟨wr.heap.size, 0, none⟩ 1 1 [.int .i64 (q : Int)] rfl rfl hcell h1c hmax (by omega) hbase ?_; intro v' W7 hown' hg _ hat)
          go_roundw
          case rel =>
            refine ⟨i + 1, c', by omega, hc1, by go_num, by go_num, HS.out.1, ?_, Below.grown (HS.out.2.2.2.1.trans (Ext.box wr _)) hg hbase (fun g e => (HS.out.2.2.1.lt g e).1)⟩
            rw [HS.out.2.1, bI_snoc]; exact hown'
          case measure => simp [intOf]; omega
        · have j1 : ¬ (i : Int) < LA := by omega
          have z1 := hA0 e1
          have j2 : ¬ (i : Int) < LB := by omega
          have z2 := hB0 e2
          have z3 := hC0 e1 e2
          have j3 : (0 : Int) < c := by omega
          obtain rfl : n = c := by omega
          clear hn hA0 hB0 hC0 z1 z2 z3
          clear hx
          go_wp2_with (at_builtin; refine wpList_append_own_at _ rfl _ _ 134 rfl w.heap.size 3 i0 (.int .i64 0) 1 8 Tryd.underlying134 hi0 hz0 hz1 hz2 rfl (by decide) _ _ _ rfl hown2 ⟨wr.heap.size, 0, none⟩ 1 1 [.int .i64 (q : Int)] rfl rfl hcell h1c hmax (by omega) hbase ?_; intro v' W7 hown' hg _ hat)
          go_roundw
          case rel =>
            refine ⟨i + 1, c', by omega, hc1, by go_num, by go_num, HS.out.1, ?_, Below.grown (HS.out.2.2.2.1.trans (Ext.box wr _)) hg hbase (fun g e => (HS.out.2.2.1.lt g e).1)⟩
            rw [HS.out.2.1, bI_snoc]; exact hown'
          case measure => simp [intOf]; omega
    · obtain rfl : L = i := by omega
      have h0 : BG.hi (x + y) L = 0 := by have := mt (H.out.2.2.2.2.1 L).2 hgo; omega
      have j1 : ¬ (L : Int) < LA := by have := mt (H.out.2.2.1 L).1; omega
      have j2 : ¬ (L : Int) < LB := by have := mt (H.out.2.2.2.1 L).1; omega
      obtain rfl : c = 0 := by omega
      rw [BG.dig_all h0] at hown
      have HS := Lib.hid (And.intro hown hx)
      clear hown hx hh h0 hgo hi
      go_wp2_with fail
      go_ret
      exact ⟨_, rfl, by rw [← H.out.2.2.2.2.2]; exact HS.out.1, HS.out.2⟩
end Go.Proofs.YtloooajippcdlaaDoor
