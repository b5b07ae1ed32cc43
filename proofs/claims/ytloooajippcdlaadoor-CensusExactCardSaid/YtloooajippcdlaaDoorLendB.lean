/- bolterkit.Lend, Back: bytes lent, with marks behind them, and taken back. -/
import Derived.Test.YtloooajippcdlaaDoorBigSub
import Derived.Test.YtloooajippcdlaaDoorBytesW
import Derived.Test.YtloooajippcdlaaDoorEqs
import Derived.Laws.OwnMore
import Derived.Laws.AppendOwnNone
import Derived.OwnWalk
import Derived.Deep.DeepCutAuto
namespace Go.Proofs.YtloooajippcdlaaDoor
open Go.RowKit

/-- what is lent: the bytes, and seven marks -/
def lent (l : List Nat) (i : Nat) : List Value := bytesV (l ++ List.replicate i 165)
theorem lent_len (l : List Nat) (i : Nat) : (lent l i).length = l.length + i := by simp [lent, bytesV]
theorem lent_mark {l : List Nat} {j i : Nat} (h1 : l.length ≤ j) (h2 : j < l.length + i) : (lent l i)[j]? = some (.int .u8 165) := by
  unfold lent bytesV
  rw [List.getElem?_map, List.getElem?_append_right h1, List.getElem?_replicate, if_pos (by omega)]; rfl
theorem lent_succ (l : List Nat) (i : Nat) : lent l i ++ [.int .u8 165] = lent l (i + 1) := by
  unfold lent bytesV
  rw [List.replicate_succ', ← List.append_assoc, List.map_append (l₁ := l ++ List.replicate i 165)]; rfl
theorem lent_take (l : List Nat) (i : Nat) : (lent l i).take l.length = bytesV l := by
  unfold lent bytesV
  rw [← List.map_take, List.take_left]
theorem lent_bytes {w : World} {B c : Nat} {a : Option Addr} {l : List Nat} {i : Nat} (h : w.ownsRow B 5 1 (.slice a (l.length + i) c) (l.length + i) (lent l i)) (hl : l.length ≤ 140737488355328) : BytesW w (.slice a l.length c) l := by
  have h1 := own_prefix h (m := l.length) (by omega)
  rw [lent_take] at h1
  have h2 : bytesV l = (l.map fun (b : Nat) => (b : Int)).map (Value.int .u8) := by simp [bytesV]
  rw [h2] at h1
  exact own_ints h1 hl

def LentR (l : List Nat) (w : World) (e : Ending) (w' : World) : Prop :=
  ∃ g c, e = .returned (.slice (some ⟨g, 0, none⟩) l.length c) ∧ Ext w w' ∧ w'.ownsRow w.heap.size 5 1 (.slice (some ⟨g, 0, none⟩) (l.length + 7) c) (l.length + 7) (lent l 7)

set_option maxRecDepth 100000 in
set_option maxHeartbeats 4000000 in
theorem lend_c {w : World} {v : Value} {l : List Nat} (h : BytesW w v l) (hl : l.length ≤ 140737488351232) : Calls Tryd.prog 52 #[v] w (LentR l w) := by
  obtain ⟨_, a, ca, rfl, ⟨hc1, hc2⟩, ha⟩ := h.open'
  obtain ⟨L, hL⟩ : ∃ L, L = l.length := ⟨_, rfl⟩
  unfold LentR
  rw [← hL] at hl hc1 ha ⊢
  obtain ⟨i0, hi0, hz0, hz1, hz2⟩ := info_parts byte_info
  have hnil : bytesV l = lent l 0 := by simp [lent]
  have hnews : ∀ ad, a = some ad → ∀ w1, Ext w w1 → ∀ j u, (lent l 0)[j]? = some u → w1.cell? (ad.add j) = some u := fun ad e w1 hx j u hj => by
    have hjl := (List.getElem?_eq_some_iff.1 hj).1
    rw [lent_len] at hjl
    obtain ⟨b, o, e2, h2⟩ := ha (by omega)
    rw [e] at e2
    obtain rfl : ad = ⟨b, o, none⟩ := by simpa using e2
    have h3 := hx.cell (h2 j (by omega))
    rw [← hnil] at hj
    unfold bytesV at hj
    rw [List.getElem?_map, List.getElem?_eq_getElem (by omega)] at hj
    rw [List.getD_eq_getElem?_getD, List.getElem?_eq_getElem (by omega)] at h3
    simp only [Option.map_some, Option.some.injEq] at hj
    rw [← hj, show (⟨b, o, none⟩ : Addr).add j = ⟨b, o + j, none⟩ by by_cases e : j = 0 <;> simp [Addr.add, e]]
    exact h3
  have h1c : ∀ u ∈ lent l 0, u.oneCell' = true := by
    rw [← hnil]
    intro u hu
    obtain ⟨x, _, rfl⟩ := List.mem_map.1 hu
    rfl
  have hlen0 := lent_len l 0
  rw [← hL, Nat.add_zero] at hlen0
  have hM : IntKind.i64.wrap ((L : Int) + 7) = ((L + 7 : Nat) : Int) := (IntWalk.i64_in _ (by omega)).trans (by omega)
  have hz : L = 0 → lent l 0 = [] := fun e => List.eq_nil_of_length_eq_zero (by omega)
  have H := Lib.hid (And.intro hnews (And.intro h1c (And.intro hlen0 (And.intro hL hz))))
  clear hnews h1c hlen0 hL hnil ha h hz
  go_enter Tryd.func52, Tryd.ntmps52
  go_upto_region 2 with (at_make; refine wpList_make_own _ rfl _ _ 28 rfl w.heap.size 5 i0 (.int .u8 0) 1 Tryd.underlying28 hi0 hz0 hz1 .i64 .i64 _ (L + 7) rfl rfl (by first | exact hM | rfl | omega) (by rw [hz2]; omega) (by unfold maxLen; omega) (Nat.le_refl _) ?_; intro w1 hown1 hg1)
  have hx1 : Ext w w1 := Below.grown (Ext.refl _) hg1 (Nat.le_refl _) (fun k hk => by cases hk)
  go_cut [3] (fun xv wx => Ext w wx ∧ wx.ownsRow w.heap.size 5 1 xv L (lent l 0))
  case first =>
    cases a with
    | none =>
      obtain rfl := hc2 rfl
      obtain rfl : L = 0 := by omega
      have HX := Lib.hid (And.intro hx1 hown1)
      clear hx1 hg1
      go_wp2_with (at_builtin; refine wpList_append_own_none rfl _ _ 28 rfl w.heap.size 5 i0 1 Tryd.underlying28 hi0 _ _ _ rfl hown1 rfl ?_)
      go_meet
      rw [H.out.2.2.2.2 trivial]
      exact HX.out
    | some ad =>
      have h3 : 0 + L ≤ maxLen := by unfold maxLen; omega
      have h5 := H.out.1 ad rfl w1 hx1
      have hbase := hx1.size
      go_wp2_with (at_builtin; refine wpList_append_own_at _ rfl _ _ 28 rfl w.heap.size 5 i0 (.int .u8 0) 1 1 Tryd.underlying28 hi0 hz0 hz1 hz2 rfl (by decide) _ _ _ rfl hown1 ad L ca (lent l 0) rfl (by rw [H.out.2.2.1, Nat.mul_one]) h5 H.out.2.1 h3 (by omega) hbase ?_; intro v' W2 hown2 hg2 _ hat)
      go_meet
      rw [Nat.zero_add, List.nil_append] at hown2
      exact ⟨Below.grown hx1 hg2 hbase (fun k hk => by cases hk; exact Nat.le_refl _), hown2⟩
  case rest =>
    rename World => w2
    rename_i xv
    obtain ⟨hx2, hown2⟩ := hcut
    have H2 := Lib.hid (And.intro hx2 hown2)
    clear hown1 hg1 hx1 hx2 hown2
    go_wp2_with fail
    go_loopw [3, 4] (fun xv iv wr => ∃ i : Nat, i ≤ 7 ∧ iv = .int .i64 i ∧ Ext w wr ∧ wr.ownsRow w.heap.size 5 1 xv (L + i) (lent l i)) (fun _ iv _ => 7 - (intOf iv).toNat)
    case atStart => exact ⟨0, by omega, rfl, H2.out.1, H2.out.2⟩
    case round =>
      obtain ⟨i, hi, rfl, hx, hown⟩ := hrel
      obtain ⟨aa, cc, hav⟩ := own_shpB hown
      subst hav
      by_cases hlt : i < 7
      · have hj1 : (i : Int) < 7 := by omega
        have hown' := own_ext (Ext.box wr (.cells #[.int .u8 165] 5)) hown
        have hcell := cell_one_new wr (.int .u8 165) 5
        have h1c : ∀ u ∈ [Value.int .u8 165], u.oneCell' = true := one_int _ _
        have hmax : L + i + 1 ≤ maxLen := by unfold maxLen; omega
        have hbase : w.heap.size ≤ (wr.alloc (.cells #[.int .u8 165] 5)).heap.size := by have := hx.size; simp; omega
        have HS := Lib.hid (And.intro hx (fun g e => (hown.lt g e).1))
        clear hx hown
        go_wp2_with (at_builtin; refine wpList_append_own_at _ rfl _ _ 28 rfl w.heap.size 5 i0 (.int .u8 0) 1 1 Tryd.underlying28 hi0 hz0 hz1 hz2 rfl (by decide) _ _ _ rfl hown' ⟨wr.heap.size, 0, none⟩ 1 1 [.int .u8 165] rfl rfl hcell h1c hmax (by omega) hbase ?_; intro v' W3 hown3 hg3 _ hat)
        have hx3 : Ext w W3 := Below.grown (HS.out.1.trans (Ext.box wr (.cells #[.int .u8 165] 5))) hg3 hbase HS.out.2
        rw [lent_succ] at hown3
        have H3 := Lib.hid (And.intro hx3 hown3)
        clear hx3 hown3 hg3 hat hown' hcell h1c hbase
        go_roundw
        case rel => exact ⟨i + 1, by omega, by go_num, H3.out.1, H3.out.2⟩
        case measure => simp [intOf]; omega
      · obtain rfl : i = 7 := by omega
        obtain ⟨gg, cap', hv', _, hcc⟩ := own_slc hown (by omega)
        simp only [Value.slice.injEq, true_and] at hv'
        obtain ⟨rfl, rfl⟩ := hv'
        have hLc : L ≤ cc := by
          obtain ⟨_, _, e, _, h9, _⟩ := own_read hown
          simp only [Value.slice.injEq] at e
          omega
        have HS := Lib.hid (And.intro hx hown)
        clear hx hown hlt hi hcc
        rw [show ((7 : Nat) : Int) = 7 from rfl]
        go_wp2_with fail
        go_ret
        exact ⟨gg, cc, rfl, HS.out⟩

set_option maxRecDepth 100000 in
set_option maxHeartbeats 4000000 in
theorem back_c {w : World} {v : Value} {l : List Nat} {B g c : Nat} (hown : w.ownsRow B 5 1 (.slice (some ⟨g, 0, none⟩) (l.length + 7) c) (l.length + 7) (lent l 7)) (h : BytesW w v l) (hl : l.length ≤ 140737488351232) :
    Calls Tryd.prog 53 #[.slice (some ⟨g, 0, none⟩) l.length c, v] w fun e w' => e = .returned (.bool true) ∧ ∃ w5, Ext w w5 ∧ w5.grownBy w' (some g) := by
  have heq := eqBytes_b (lent_bytes hown (by omega)) h (r := true) (by simp)
  obtain ⟨_, a, ca, rfl, _, _⟩ := h.open'
  obtain ⟨L, hL⟩ : ∃ L, L = l.length := ⟨_, rfl⟩
  have hmk : ∀ j, L ≤ j → j < L + 7 → (lent l 7)[j]? = some (.int .u8 165) := fun j h1 h2 => lent_mark (by omega) (by omega)
  have hu8 : ∀ u ∈ lent l 7, ∃ x, u = .int .u8 x := by
    intro u hu
    obtain ⟨x, _, rfl⟩ := List.mem_map.1 hu
    exact ⟨_, rfl⟩
  rw [← hL] at hl hown heq ⊢
  have hLc : L + 7 ≤ c := by
    obtain ⟨_, _, e, _, h9, _⟩ := own_read hown
    simp only [Value.slice.injEq] at e
    omega
  have hM : IntKind.i64.wrap ((L : Int) + 7) = ((L + 7 : Nat) : Int) := (IntWalk.i64_in _ (by omega)).trans (by omega)
  obtain ⟨M, hMM⟩ : ∃ M, M = L + 7 := ⟨_, rfl⟩
  rw [← hMM] at hown hmk hM hLc
  have H := Lib.hid (And.intro heq (And.intro hown (And.intro hmk hu8)))
  clear heq hown h hmk hu8 hL
  go_enter Tryd.func53, Tryd.ntmps53
  go_wp2_with fail
  refine H.out.1.mono ?_
  rintro e w5 ⟨rfl, hx5⟩
  have h5 := own_ext hx5 H.out.2.1
  have H5 := Lib.hid (And.intro h5 hx5)
  clear h5 hx5
  go_wp2_with fail
  go_loopw [5, 7] (fun bv iv wr => ∃ i : Nat, L ≤ i ∧ i ≤ M ∧ iv = .int .i64 i ∧ bv = .bool true ∧ wr = w5) (fun _ iv _ => M - (intOf iv).toNat)
  case atStart => exact ⟨L, Nat.le_refl _, by omega, rfl, rfl, rfl⟩
  case round =>
    obtain ⟨i, hi0, hi, rfl, rfl, rfl⟩ := hrel
    by_cases hlt : i < M
    · have hj1 : (i : Int) < M := by omega
      have c1 := H5.out.1.cellAt i (by omega)
      rw [H.out.2.2.1 i hi0 (by omega)] at c1
      go_wp2_with fail
      go_roundw
      case rel => exact ⟨i + 1, by omega, by omega, by go_num, by first | rfl | trivial, by first | rfl | trivial⟩
      case measure => simp [intOf]; omega
    · have hj1 : ¬ (i : Int) < M := by omega
      obtain rfl : M = i := by omega
      go_wp2_with fail
      rename World => w5
      go_loopw [8] (fun iv wr => ∃ (i : Nat) (xs' : List Value), i ≤ M ∧ iv = .int .i64 i ∧ wr.ownsRow B 5 1 (.slice (some ⟨g, 0, none⟩) M c) M xs' ∧ (∀ u ∈ xs', ∃ x, u = .int .u8 x) ∧ w5.grownBy wr (some g)) (fun iv _ => M - (intOf iv).toNat)
      case atStart => exact ⟨0, _, Nat.zero_le _, rfl, H5.out.1, H.out.2.2.2, World.grownBy.refl _ _⟩
      case round =>
        obtain ⟨k, xs', hk, rfl, hown, hxs, hgr⟩ := hrel
        by_cases hlt2 : k < M
        · have hj2 : (k : Int) < M := by omega
          have c1 := hown.cellAt k (by omega)
          have hl9 := hown.1
          obtain ⟨u, hu⟩ : ∃ u, xs'[k]? = some u := ⟨_, List.getElem?_eq_getElem (by omega)⟩
          obtain ⟨x, rfl⟩ := hxs u (List.mem_of_getElem? hu)
          rw [hu] at c1
          have f1 := hown.frozenAt k
          have hst := hown.stored k (.int .u8 90)
          have HS := Lib.hid (And.intro hst (And.intro hgr hxs))
          clear hown hgr hst hl9 hu hxs
          go_wp2
          go_roundw
          case rel =>
            refine ⟨k + 1, xs'.set k (.int .u8 90), by omega, by go_num, HS.out.1.1, fun u hu => ?_, HS.out.2.1.trans HS.out.1.2⟩
            rcases List.mem_or_eq_of_mem_set hu with hu | rfl
            · exact HS.out.2.2 u hu
            · exact ⟨_, rfl⟩
          case measure => simp [intOf]; omega
        · have hj2 : ¬ (k : Int) < M := by omega
          have HR := Lib.hid hgr
          clear hown hgr hxs
          go_wp2
          go_ret
          exact ⟨rfl, w5, H5.out.2, HR.out⟩
end Go.Proofs.YtloooajippcdlaaDoor
