/- bolterkit.Over: bytes: a list of the call's own is written over, and beyond its end; nothing else changes. -/
import Derived.Test.YtihginaanlcilaaDoorTags
import Derived.Laws.OwnMore
import Derived.Deep.AppendLies
namespace Go.Proofs.YtihginaanlcilaaDoor
open Go.RowKit

set_option maxRecDepth 100000 in
set_option maxHeartbeats 2000000 in
theorem over_c {w : World} {B n : Nat} {v : Value} {xs : List Value} (h : w.ownsRow B 5 1 v n xs) (hx : ∀ u ∈ xs, ∃ x, u = .int .u8 x) (hB : B ≤ w.heap.size) (hn : n ≤ 1000000) :
    Calls Tryd.prog 11 #[v] w fun e w' => e = .returned (.tuple #[]) ∧ w.grownBy w' v.ownBlock := by
  obtain ⟨i0, hi0, hz0, hz1, hz2⟩ := info_parts byte_info
  obtain ⟨a0, c0, hv0⟩ : ∃ a c, v = .slice a n c := by
    obtain ⟨a, c, e, _⟩ := own_read h
    exact ⟨a, c, e⟩
  subst hv0
  have hownb := own_ext (Ext.box w (.cells #[.int .u8 1, .int .u8 2, .int .u8 3] 5)) h
  have hcell : ∀ j u, [Value.int .u8 1, .int .u8 2, .int .u8 3][j]? = some u → (w.alloc (.cells #[.int .u8 1, .int .u8 2, .int .u8 3] 5)).cell? ((⟨w.heap.size, 0, none⟩ : Addr).add j) = some u := fun j u hj =>
    World.news_of_block (cs := #[.int .u8 1, .int .u8 2, .int .u8 3]) (t := 5) (fr := (0, 0)) (heap_alloc_new _ _) j u hj
  have h1c : ∀ u ∈ [Value.int .u8 1, .int .u8 2, .int .u8 3], u.oneCell' = true := by intro u hu; simp at hu; rcases hu with rfl | rfl | rfl <;> rfl
  have hbase : B ≤ (w.alloc (.cells #[.int .u8 1, .int .u8 2, .int .u8 3] 5)).heap.size := by simp; omega
  have hmax : n + 3 ≤ maxLen := by unfold maxLen; omega
  have hlen := h.1
  have H := Lib.hid (And.intro hx hlen)
  clear h hx hlen
  go_enter Tryd.func11, Tryd.ntmps11
  go_wp2_with (at_builtin; refine wpList_append_own_at _ rfl _ _ 28 rfl B 5 i0 (.int .u8 0) 1 1 Tryd.underlying28 hi0 hz0 hz1 hz2 rfl (by decide) _ _ _ rfl hownb ⟨w.heap.size, 0, none⟩ 3 3 [.int .u8 1, .int .u8 2, .int .u8 3] rfl rfl hcell h1c hmax (by omega) hbase ?_; intro v' W hown' hg _ hat; obtain ⟨gg, cap', hv', -, -⟩ := own_slc hown' (by omega); subst hv')
  obtain ⟨N, hN⟩ : ∃ N, N = n + 3 := ⟨_, rfl⟩
  have hgw : w.grownBy W (Value.slice a0 n c0).ownBlock := ((World.grownBy_alloc w _ none).but _).trans hg
  have HG := Lib.hid (And.intro hgw (And.intro hat (And.intro hown' hN)))
  clear hown' hg hat hcell hbase hownb hgw
  go_loopw [2] (fun iv wr => ∃ (i : Nat) (xs' : List Value), i ≤ n + 3 ∧ iv = .int .i64 i ∧ wr.ownsRow B 5 1 (.slice (some ⟨gg, 0, none⟩) (n + 3) cap') (n + 3) xs' ∧ (∀ u ∈ xs', ∃ x, u = .int .u8 x) ∧ W.grownBy wr (some gg)) (fun iv _ => n + 3 - (intOf iv).toNat)
  case atStart =>
    refine ⟨0, _, Nat.zero_le _, rfl, HG.out.2.2.1, fun u hu => ?_, World.grownBy.refl _ _⟩
    rcases List.mem_append.1 hu with hu | hu
    · exact H.out.1 u hu
    · simp at hu
      rcases hu with rfl | rfl | rfl
      · exact ⟨_, rfl⟩
      · exact ⟨_, rfl⟩
      · exact ⟨_, rfl⟩
  case round =>
    obtain ⟨i, xs', hi, rfl, hown, hxs, hgr⟩ := hrel
    by_cases hlt : i < n + 3
    · have hj1 : (i : Int) < (n : Int) + 3 := by omega
      have c1 := hown.cellAt i (by omega)
      have hl := hown.1
      obtain ⟨u, hu⟩ : ∃ u, xs'[i]? = some u := ⟨_, List.getElem?_eq_getElem (by omega)⟩
      obtain ⟨x, rfl⟩ := hxs u (List.mem_of_getElem? hu)
      rw [hu] at c1
      have f1 := hown.frozenAt i
      have hst := hown.stored i (.int .u8 90)
      have HS := Lib.hid (And.intro hst (And.intro hgr hxs))
      clear hown hgr hst hl hu hxs
      go_wp2
      go_roundw
      case rel =>
        refine ⟨i + 1, xs'.set i (.int .u8 90), by omega, by go_num, HS.out.1.1, fun u hu => ?_, HS.out.2.1.trans HS.out.1.2⟩
        rcases List.mem_or_eq_of_mem_set hu with hu | rfl
        · exact HS.out.2.2 u hu
        · exact ⟨_, rfl⟩
      case measure => simp [intOf]; omega
    · have hj1 : ¬ (i : Int) < (n : Int) + 3 := by omega
      have HR := Lib.hid hgr
      clear hown hgr hxs
      go_wp2
      go_end0
      refine ⟨rfl, HG.out.1.andThen HR.out fun j e => ?_⟩
      obtain rfl : gg = j := by simpa using e
      rcases HG.out.2.1 with e | e
      · exact .inr e.symm
      · left
        have : gg = w.heap.size + 1 := by simpa [Value.ownBlock] using e
        omega
end Go.Proofs.YtihginaanlcilaaDoor
