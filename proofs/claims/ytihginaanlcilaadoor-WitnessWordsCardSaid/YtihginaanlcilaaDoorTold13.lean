/- bolterref13.word, told, Apart, Differ. -/
import Derived.Test.YtihginaanlcilaaDoorSpread
import Derived.Test.YtihginaanlcilaaDoorParted13
import Derived.Test.YtihginaanlcilaaDoorWord
namespace Go.Proofs.YtihginaanlcilaaDoor
open Go.RowKit

def Word13R (w : World) (u : List Nat) (e : Ending) (w' : World) : Prop := ∃ v, e = .returned v ∧ w'.ownsRow w.heap.size 5 1 v u.length (bytesV u) ∧ Ext w w'
theorem bytes_get {l : List Nat} {i : Nat} (h : i < l.length) : (bytesV l)[i]? = some (.int .u8 (l.getD i 0 : Nat)) := by
  unfold bytesV
  rw [List.getElem?_map, List.getD_eq_getElem?_getD, List.getElem?_eq_getElem h]; rfl

set_option maxRecDepth 100000 in
set_option maxHeartbeats 4000000 in
theorem word13_c {w : World} {NB g n cap i ki : Nat} {S : List St} {L : List (Nat × List Nat)} {wi : List Nat} (hS : RcAt w g S) (hT : Trail NB S L) (hn : n = i + 1) (hiS : i < S.length) (hn2 : n ≤ 1000000) (hi : L[i]? = some (ki, wi)) (hb : LM.Bytes wi) :
    Calls Tryd.prog 28 #[.slice (some ⟨g, 0, none⟩) n cap] w (Word13R w wi) := by
  have hin : i < n := by omega
  have hn1 : (n : Int) - 1 = (i : Int) := by omega
  have hnle : n ≤ i + 1 := by omega
  clear hn
  have H := Lib.hid (And.intro hS (And.intro hT (And.intro hi (And.intro hiS hb))))
  clear hS hT hi hiS hb
  go_enter Tryd.func28, Tryd.ntmps28
  go_wp2
  clear hn1
  go_loopw [3, 4] (fun vv iv wr => ∃ (j kj : Nat) (wj r : List Nat), j < n ∧ j + r.length ≤ i ∧ iv = .int .i64 j ∧ L[j]? = some (kj, wj) ∧ wi = wj ++ r.reverse ∧ wr.ownsRow w.heap.size 5 1 vv r.length (bytesV r) ∧ Ext w wr) (fun _ iv _ => (intOf iv).toNat)
  case atStart => exact ⟨i, ki, wi, [], hin, by simp, rfl, H.out.2.2.1, by simp, World.ownsRow_nil _ _ _ _, Ext.refl _⟩
  case round =>
    obtain ⟨j, kj, wj, r, hj, hjr, rfl, hLj, hwi, hown, hx⟩ := hrel
    obtain ⟨s, hs⟩ : ∃ s, S[j]? = some s := ⟨_, List.getElem?_eq_getElem (by have := H.out.2.2.2.1; omega)⟩
    obtain ⟨_, _, c2w, c3w⟩ := H.out.1 j s hs
    have c2 := hx.cell c2w
    have c3 := hx.cell c3w
    clear c2w c3w
    have hj1 : (j : Int) < n := by omega
    obtain ⟨R, hR⟩ : ∃ R, R = r.length := ⟨_, rfl⟩
    rw [← hR] at hown hjr
    obtain ⟨a5, cp5, hov⟩ := own_shp' hown
    subst hov
    rcases H.out.2.1.back j s kj wj hs hLj with ⟨e1, e2⟩ | ⟨f, kf, wf, e1, e2, e3, e4⟩
    · rw [e1] at c2
      have hwr : wi = r.reverse := by rw [hwi, e2]; rfl
      have HR := Lib.hid (And.intro hR (And.intro hwr (And.intro hown hx)))
      clear hR hwi e1 e2 hs hLj c3 hwr hx
      obtain ⟨i0, hi0, hz0, hz1, hz2⟩ := info_parts byte_info
      have hcells : ∀ p, p < R → ∃ gb, a5 = some ⟨gb, 0, none⟩ ∧ wr.cell? ⟨gb, p, none⟩ = some (.int .u8 (r.getD p 0 : Nat)) := fun p hp => by
        obtain ⟨gb, cb, hv, _, _⟩ := own_slc hown (by omega)
        simp only [Value.slice.injEq, true_and] at hv
        obtain ⟨rfl, rfl⟩ := hv
        refine ⟨gb, rfl, ?_⟩
        rw [hown.cellAt p (by omega), bytes_get (by rw [← HR.out.1]; exact hp)]
      have HCL := Lib.hid hcells
      clear hown hcells
      go_wp2
      clear c2
      go_loopw [5, 6] (fun ov pv wk => ∃ (p : Nat) (o : List Nat), p + o.length ≤ R ∧ R ≤ p + o.length ∧ pv = .int .i64 ((p : Int) - 1) ∧ o = (r.drop p).reverse ∧ wk.ownsRow wr.heap.size 5 1 ov o.length (bytesV o) ∧ Ext wr wk) (fun _ pv _ => (intOf pv + 1).toNat)
      case atStart => exact ⟨R, [], by simp, by simp, rfl, by rw [HR.out.1]; simp, World.ownsRow_nil _ _ _ _, Ext.refl _⟩
      case round =>
        rename World => wk
        obtain ⟨p, o, hpo, hpo2, rfl, ho, hown, hx⟩ := hrel
        obtain ⟨a6, cp6, hov⟩ := own_shp' hown
        subst hov
        by_cases hp : 0 < p
        · obtain ⟨p', rfl⟩ : ∃ p', p = p' + 1 := ⟨p - 1, by omega⟩
          obtain ⟨gb, rfl, hc⟩ := HCL.out p' (by omega)
          have c1 := hx.cell hc
          have hpp : (((p' + 1 : Nat) : Int) - 1) = (p' : Int) := by omega
          rw [hpp]
          obtain ⟨c, hc9⟩ : ∃ c, c = r.getD p' 0 := ⟨_, rfl⟩
          rw [← hc9] at c1
          obtain ⟨M, hM⟩ : ∃ M, M = o.length := ⟨_, rfl⟩
          rw [← hM] at hown hpo hpo2 ⊢
          have hj2 : (p' : Int) < R := by omega
          have hown' := hown.alloc (.cells #[.int .u8 (c : Int)] 5)
          have hcell := cell_one_new wk (.int .u8 (c : Int)) 5
          have h1c : ∀ u ∈ [Value.int .u8 (c : Int)], u.oneCell' = true := one_int _ _
          have hbase : wr.heap.size ≤ (wk.alloc (.cells #[.int .u8 (c : Int)] 5)).heap.size := by have := hx.size; simp; omega
          have hmax : M + 1 ≤ maxLen := by unfold maxLen; omega
          have HK := Lib.hid (And.intro ho (And.intro hx (And.intro hown (And.intro hM hc9))))
          clear ho hx hown hM hc9 hc
          go_wp2_with (at_builtin; refine wpList_append_own_at _ rfl _ _ 28 rfl wr.heap.size 5 i0 (.int .u8 0) 1 1 Tryd.underlying28 hi0 hz0 hz1 hz2 rfl (by decide) _ _ _ rfl hown' ⟨wk.heap.size, 0, none⟩ 1 1 [.int .u8 (c : Int)] rfl rfl hcell h1c hmax (by omega) hbase ?_; intro v' W hown9 hg _ hat)
          have hxW : Ext wr W := Below.grown (HK.out.2.1.alloc (.cells #[.int .u8 (c : Int)] 5)) hg (HK.out.2.1.alloc _).size (fun g e => (HK.out.2.2.1.lt g e).1)
          have HF := Lib.hid (And.intro hown9 hxW)
          clear hown9 hg hat hxW
          go_roundw
          case rel =>
            refine ⟨p', o ++ [c], by rw [List.length_append, ← HK.out.2.2.2.1]; simp; omega, by rw [List.length_append, ← HK.out.2.2.2.1]; simp; omega, by go_num, ?_, ?_, HF.out.2⟩
            · have hlr : p' < r.length := by rw [← HR.out.1]; omega
              rw [HK.out.1, HK.out.2.2.2.2, List.drop_eq_getElem_cons hlr, List.reverse_cons, List.getD_eq_getElem?_getD, List.getElem?_eq_getElem hlr]; rfl
            · rw [byte_snoc, List.length_append, ← HK.out.2.2.2.1]; exact HF.out.1
          case measure => first | (simp [intOf]; done) | (simp [intOf]; omega)
        · obtain rfl : p = 0 := by omega
          have HF := Lib.hid (And.intro ho (And.intro hown hx))
          clear ho hown hx
          go_wp2
          go_ret
          refine ⟨_, rfl, ?_, HR.out.2.2.2.trans HF.out.2.2⟩
          have e : o = wi := by rw [HF.out.1, HR.out.2.1]; rfl
          rw [← e]; exact own_base HF.out.2.1 HR.out.2.2.2.size
    · rw [e1] at c2
      obtain ⟨c, hc⟩ : ∃ c, c = s.by_ := ⟨_, rfl⟩
      have hc256 : c < 256 := by
        rw [hc]
        refine H.out.2.2.2.2 s.by_ ?_
        rw [hwi, e4]; simp
      rw [← hc] at c3
      obtain ⟨i0, hi0, hz0, hz1, hz2⟩ := info_parts byte_info
      have hown' := hown.alloc (.cells #[.int .u8 (c : Int)] 5)
      have hcell := cell_one_new wr (.int .u8 (c : Int)) 5
      have h1c : ∀ u ∈ [Value.int .u8 (c : Int)], u.oneCell' = true := one_int _ _
      have hbase : w.heap.size ≤ (wr.alloc (.cells #[.int .u8 (c : Int)] 5)).heap.size := by have := hx.size; simp; omega
      have hmax : R + 1 ≤ maxLen := by unfold maxLen; omega
      have hcv : IntKind.u8.wrap (c : Int) = (c : Int) := IntWalk.u8_in _ (by omega)
      have hfn : ¬ (f : Int) < 0 := by omega
      have hC2 : w.cell? ⟨g, j * 4 + 2, none⟩ = some (.int .i64 (f : Int)) := by have h9 := (H.out.1 j s hs).2.2.1; rw [e1] at h9; exact h9
      have HR := Lib.hid (And.intro hR (And.intro hwi (And.intro e3 (And.intro e4 (And.intro hx (And.intro hc (And.intro hown hC2)))))))
      have hlw := lt_of_cell c2
      clear hR hwi e1 e3 e4 hs hLj hx hc hown hC2
      go_wp2_with (at_builtin; refine wpList_append_own_at _ rfl _ _ 28 rfl w.heap.size 5 i0 (.int .u8 0) 1 1 Tryd.underlying28 hi0 hz0 hz1 hz2 rfl (by decide) _ _ _ rfl hown' ⟨wr.heap.size, 0, none⟩ 1 1 [.int .u8 (c : Int)] rfl rfl hcell h1c hmax (by omega) hbase ?_; intro v' W hown9 hg _ hat; have hxW : Ext w W := Below.grown (HR.out.2.2.2.2.1.trans (Ext.box wr _)) hg hbase (fun g e => (HR.out.2.2.2.2.2.2.1.lt g e).1); have c4 := hxW.cell HR.out.2.2.2.2.2.2.2)
      go_roundw
      case rel =>
        refine ⟨f, kf, wf, r ++ [c], by omega, by rw [List.length_append]; simp; have := HR.out.1; omega, rfl, HR.out.2.2.1, ?_, ?_, hxW⟩
        · rw [HR.out.2.1, HR.out.2.2.2.1, ← HR.out.2.2.2.2.2.1]; simp
        · rw [byte_snoc, List.length_append, ← HR.out.1]; exact hown9
      case measure => simp [intOf]; omega
end Go.Proofs.YtihginaanlcilaaDoor
