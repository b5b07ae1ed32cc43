/- witness.word: the bytes that lead to a step. -/
import Derived.Test.YtihginaanlcilaaDoorOwn
import Derived.Deep.QuietTactic
import Derived.BigQuiet
import Derived.RegionTactic
import Derived.Test.YtihginaanlcilaaDoorWitS
namespace Go.Proofs.YtihginaanlcilaaDoor
open Go.RowKit

/-- what n bytes hold when the first i and the last i have changed places -/
def revF (f : Nat → Nat) (n i k : Nat) : Nat := if k < i ∨ n ≤ k + i then f (n - 1 - k) else f k

theorem set_range {n i : Nat} (F : Nat → Nat) (x : Nat) : (bytesV ((List.range n).map F)).set i (.int .u8 (x : Int)) = bytesV ((List.range n).map fun k => if k = i then x else F k) := by
  refine List.ext_getElem? fun j => ?_
  rw [List.getElem?_set, bytesV, bytesV, List.map_map, List.map_map, List.getElem?_map, List.getElem?_map]
  by_cases hj : j < n
  · rw [List.getElem?_range hj]
    by_cases e : i = j
    · subst e; simp [hj]
    · rw [if_neg e]; simp [show ¬ j = i from fun e' => e e'.symm]
  · rw [List.getElem?_eq_none (by simp; omega)]
    split
    · simp; omega
    · rfl

theorem range_get {α : Type} {n k : Nat} (F : Nat → α) (h : k < n) : ((List.range n).map F)[k]? = some (F k) := by simp [h]

def Turned0 (w : World) (B g cap : Nat) (l : List Nat) (e : Ending) (w' : World) : Prop :=
  (∃ v, e = .returned v) ∧ w'.ownsRow B 5 1 (.slice (some ⟨g, 0, none⟩) l.length cap) l.length (bytesV l.reverse) ∧ Frm (fun a _ => a = g) w w'

set_option maxRecDepth 100000 in
set_option maxHeartbeats 1000000 in
theorem reverse_c {w : World} {B g cap : Nat} {l : List Nat} (h : w.ownsRow B 5 1 (.slice (some ⟨g, 0, none⟩) l.length cap) l.length (bytesV l)) (hn : l.length ≤ 140737488355328) :
    Calls Tryd.prog 54 #[.slice (some ⟨g, 0, none⟩) l.length cap] w (Turned0 w B g cap l) := by
  obtain ⟨n, hnn⟩ : ∃ n, n = l.length := ⟨_, rfl⟩
  obtain ⟨f, hf⟩ : ∃ f : Nat → Nat, f = fun k => l.getD k 0 := ⟨_, rfl⟩
  have hl : l = (List.range n).map f := by
    refine List.ext_getElem? fun k => ?_
    by_cases hk : k < n
    · rw [range_get f hk, hf]
      simp only [List.getD_eq_getElem?_getD]
      rw [List.getElem?_eq_getElem (by omega)]; rfl
    · rw [List.getElem?_eq_none (by omega), List.getElem?_eq_none (by simp; omega)]
  rw [← hnn] at h hn ⊢
  rw [hl] at h
  have HL := Lib.hid (And.intro hl hnn)
  have H := Lib.hid h
  clear hl hf hnn h
  go_enter Tryd.func54, Tryd.ntmps54
  go_wp2_with fail
  go_loopw [2, 3] (fun iv jv wr => ∃ i : Nat, 2 * i ≤ n + 1 ∧ iv = .int .i64 i ∧ jv = .int .i64 ((n : Int) - 1 - i) ∧ wr.ownsRow B 5 1 (.slice (some ⟨g, 0, none⟩) n cap) n (bytesV ((List.range n).map (revF f n i))) ∧ Frm (fun a _ => a = g) w wr) (fun iv _ _ => n - (intOf iv).toNat)
  case atStart =>
    refine ⟨0, by omega, rfl, by go_num, ?_, Frm.refl _ _⟩
    have e : (List.range n).map (revF f n 0) = (List.range n).map f := List.map_congr_left fun k hk => by
      have := List.mem_range.1 hk
      unfold revF; rw [if_neg (by omega)]
    rw [e]; exact H.out
  case round =>
    obtain ⟨i, hi, rfl, rfl, hown, hF⟩ := hrel
    by_cases hlt : 2 * i + 1 < n
    · obtain ⟨j, hj⟩ : ∃ j, j = n - 1 - i := ⟨_, rfl⟩
      have ej : (n : Int) - 1 - i = (j : Int) := by omega
      rw [ej]
      have ci := hown.cellAt i (by omega)
      have cj := hown.cellAt j (by omega)
      rw [bytesV, List.map_map, range_get _ (by omega)] at ci cj
      simp only [Function.comp] at ci cj
      have fi := hown.frozenAt i
      have fj := hown.frozenAt j
      obtain ⟨x, hx⟩ : ∃ x, x = revF f n i i := ⟨_, rfl⟩
      obtain ⟨y, hy⟩ : ∃ y, y = revF f n i j := ⟨_, rfl⟩
      rw [← hx] at ci
      rw [← hy] at cj
      have hj1 : (i : Int) < n := by omega
      have hj2 : (j : Int) < n := by omega
      have hj3 : (i : Int) < j := by omega
      obtain ⟨u, hset⟩ := Go.RowKit.cell?_setCell_some (w := wr) (p := ⟨g, i, none⟩) (x := .int .u8 (y : Int)) (q := ⟨g, j, none⟩) cj
      have HX := Lib.hid (And.intro hown (And.intro hF (And.intro hx (And.intro hy hj))))
      clear hown hF hx hy hj ej
      go_wp2_with fail
      go_region
      go_wp2_with fail
      go_roundw
      case rel =>
        have hji := HX.out.2.2.2.2
        refine ⟨i + 1, by omega, by go_num, ?_, ?_, ((HX.out.2.1.setCell (.inl rfl) _).setCell (.inl rfl) _).drew⟩
        · have : (j : Int) - 1 = (n : Int) - 1 - ((i + 1 : Nat) : Int) := by omega
          rw [← this]
        · have h1 := (HX.out.1.stored i (.int .u8 (y : Int))).1
          rw [set_range] at h1
          have h2 := (h1.stored j (.int .u8 (x : Int))).1
          rw [set_range] at h2
          have e : (List.range n).map (fun k => if k = j then x else if k = i then y else revF f n i k) = (List.range n).map (revF f n (i + 1)) := List.map_congr_left fun k hk => by
            have hkn := List.mem_range.1 hk
            have ex : x = f i := by rw [HX.out.2.2.1]; unfold revF; rw [if_neg (by omega)]
            have ey : y = f j := by rw [HX.out.2.2.2.1]; unfold revF; rw [if_neg (by omega)]
            unfold revF
            by_cases e1 : k = j
            · rw [if_pos e1, if_pos (by omega), ex]; congr 1; omega
            · rw [if_neg e1]
              by_cases e2 : k = i
              · rw [if_pos e2, if_pos (by omega), ey]; congr 1; omega
              · rw [if_neg e2]
                by_cases e3 : k < i ∨ n ≤ k + i
                · rw [if_pos e3, if_pos (by omega)]
                · rw [if_neg e3, if_neg (by omega)]
          rw [e] at h2
          exact h2.drew
      case measure => simp [intOf]; omega
    · have hlt' : ¬ (i : Int) < (n : Int) - 1 - i := by omega
      have HX := Lib.hid (And.intro hown hF)
      clear hown hF
      go_wp2_with fail
      go_end0
      refine ⟨⟨_, rfl⟩, ?_, HX.out.2⟩
      have e : (List.range n).map (revF f n i) = l.reverse := by
        refine List.ext_getElem? fun k => ?_
        rw [HL.out.1]
        by_cases hk : k < n
        · rw [range_get _ hk, List.getElem?_reverse (by simpa using hk), List.length_map, List.length_range, range_get _ (by omega)]
          unfold revF
          by_cases e3 : k < i ∨ n ≤ k + i
          · rw [if_pos e3]
          · rw [if_neg e3]
            congr 2; omega
        · rw [List.getElem?_eq_none (by simp; omega), List.getElem?_eq_none (by simp; omega)]
      rw [← HL.out.2, ← e]
      exact HX.out.1
end Go.Proofs.YtihginaanlcilaaDoor

namespace Go.Proofs.YtihginaanlcilaaDoor
open Go.RowKit

theorem byte_snoc (r : List Nat) (c : Nat) : bytesV (r ++ [c]) = bytesV r ++ [.int .u8 (c : Int)] := by simp [bytesV]

def WordR (w : World) (l : List Nat) (e : Ending) (w' : World) : Prop :=
  ∃ v, e = .returned v ∧ w'.ownsRow w.heap.size 5 1 v l.length (bytesV l) ∧ Ext w w'

set_option maxRecDepth 100000 in
set_option maxHeartbeats 1000000 in
theorem reverse_nil (w : World) : Calls Tryd.prog 54 #[.slice none 0 0] w fun e w' => (∃ v, e = .returned v) ∧ w' = w := by
  go_enter Tryd.func54, Tryd.ntmps54
  go_wp2_with fail
  go_loop [2, 3] (fun iv jv => iv = .int .i64 0 ∧ jv = .int .i64 (-1)) (fun _ _ => 0)
  case atStart => exact ⟨rfl, rfl⟩
  case round =>
    obtain ⟨rfl, rfl⟩ := hrel
    go_wp2_with fail
    go_end0
    exact ⟨⟨_, rfl⟩, rfl⟩

set_option maxRecDepth 100000 in
set_option maxHeartbeats 1000000 in
theorem word_c {w : World} {NB g n cap i ki : Nat} {S : List St} {L : List (Nat × List Nat)} {wi : List Nat} (hS : StAt w g S) (hT : Trail NB S L) (hn : n = S.length) (hn2 : n ≤ 1000000) (hi : L[i]? = some (ki, wi)) :
    Calls Tryd.prog 49 #[.slice (some ⟨g, 0, none⟩) n cap, .int .i64 (i : Int)] w (WordR w wi) := by
  have hin : i < n := by rw [hn, hT.len]; exact WM.lt_of_get hi
  have H := Lib.hid (And.intro hS (And.intro hT (And.intro hn hi)))
  clear hS hT hn hi
  go_enter Tryd.func49, Tryd.ntmps49
  go_wp2_with fail
  go_loopw [1, 5] (fun iv vv wr => ∃ (j kj : Nat) (wj r : List Nat), j < n ∧ j + r.length ≤ i ∧ iv = .int .i64 j ∧ L[j]? = some (kj, wj) ∧ wi = wj ++ r.reverse ∧ wr.ownsRow w.heap.size 5 1 vv r.length (bytesV r) ∧ Ext w wr) (fun iv _ _ => (intOf iv).toNat)
  case atStart => exact ⟨i, ki, wi, [], hin, by simp, rfl, H.out.2.2.2, by simp, World.ownsRow_nil _ _ _ _, Ext.refl _⟩
  case round =>
    obtain ⟨j, kj, wj, r, hj, hjr, rfl, hLj, hwi, hown, hx⟩ := hrel
    obtain ⟨s, hs⟩ : ∃ s, S[j]? = some s := ⟨_, List.getElem?_eq_getElem (by rw [← H.out.2.2.1]; exact hj)⟩
    obtain ⟨_, _, c2w, c3w⟩ := H.out.1 j s hs
    have c2 := hx.cell c2w
    have c3 := hx.cell c3w
    have C2 := Lib.hid c2w
    clear c2w c3w
    have hj1 : (j : Int) < n := by omega
    obtain ⟨R, hR⟩ : ∃ R, R = r.length := ⟨_, rfl⟩
    rw [← hR] at hown hjr
    rcases H.out.2.1.back j s kj wj hs hLj with ⟨e1, e2⟩ | ⟨f, kf, wf, e1, e2, e3, e4⟩
    · rw [e1] at c2
      have HR := Lib.hid (And.intro hR (And.intro hwi (And.intro e2 hx)))
      have hwr : wi = r.reverse := by rw [hwi, e2]; rfl
      have HW := Lib.hid hwr
      clear hR hwi e1 e2 hs hLj c3 hwr
      have hown' := hown
      obtain ⟨_, h2⟩ := hown
      rcases h2 with ⟨h3, h4⟩ | ⟨g2, cap2, cur, hv, hg, _⟩
      · subst h3
        rw [h4] at hown'
        have HO := Lib.hid (And.intro hown' h4)
        clear hown' h4 hx
        go_wp2_with fail
        refine (reverse_nil _).mono ?_
        rintro e w2 ⟨⟨v2, rfl⟩, rfl⟩
        go_wp2_with fail
        go_ret
        refine ⟨_, rfl, ?_, HR.out.2.2.2⟩
        have hb : r = [] := List.eq_nil_of_length_eq_zero (by rw [← HR.out.1]; exact HO.out.2)
        rw [HW.out, hb]
        exact World.ownsRow_nil _ _ _ _
      · subst hv
        have hrev := reverse_c (w := wr) (B := w.heap.size) (g := g2) (cap := cap2) (l := r) (by rw [← HR.out.1]; exact hown') (by rw [← HR.out.1]; omega)
        rw [← HR.out.1] at hrev
        have HV := Lib.hid hrev
        clear hrev hown' hx
        go_wp2_with fail
        refine HV.out.mono ?_
        rintro e w2 ⟨⟨v2, rfl⟩, hown2, hF⟩
        have HO := Lib.hid (And.intro hown2 hF)
        clear hown2 hF
        go_wp2_with fail
        go_ret
        refine ⟨_, rfl, ?_, HO.out.2.ext HR.out.2.2.2 (fun k j e => by rw [e]; exact hg)⟩
        rw [HW.out, List.length_reverse, ← HR.out.1]
        have := HO.out.1
        rw [← HR.out.1] at this
        exact this
    · rw [e1] at c2
      have c2f := C2.out
      rw [e1] at c2f
      have CF := Lib.hid c2f
      clear c2f
      obtain ⟨c, hc⟩ : ∃ c, c = s.by_ := ⟨_, rfl⟩
      rw [← hc] at c3
      obtain ⟨a5, cp5, hov⟩ := own_shp' hown
      subst hov
      obtain ⟨i0, hi0, hz0, hz1, hz2⟩ := info_parts byte_info
      have hown' := hown.alloc (.cells #[.int .u8 (c : Int)] 5)
      have hcell := cell_one_new wr (.int .u8 (c : Int)) 5
      have h1c : ∀ u ∈ [Value.int .u8 (c : Int)], u.oneCell' = true := one_int _ _
      have hbase : w.heap.size ≤ (wr.alloc (.cells #[.int .u8 (c : Int)] 5)).heap.size := by have := hx.size; simp; omega
      have hmax : R + 1 ≤ maxLen := by unfold maxLen; omega
      have hlw := lt_of_cell c2
      have HR := Lib.hid (And.intro hR (And.intro hwi (And.intro e3 (And.intro e4 (And.intro hx (And.intro hc hown))))))
      clear hR hwi e1 e3 e4 hs hLj hx hc hown
      go_wp2_with (at_builtin; refine wpList_append_own_at _ rfl _ _ 28 rfl w.heap.size 5 i0 (.int .u8 0) 1 1 Tryd.underlying28 hi0 hz0 hz1 hz2 rfl (by decide) _ _ _ rfl hown' ⟨wr.heap.size, 0, none⟩ 1 1 [.int .u8 (c : Int)] rfl rfl hcell h1c hmax (by omega) hbase ?_; intro v' W hown9 hg _ hat; have hxW : Ext w W := Below.grown (HR.out.2.2.2.2.1.trans (Ext.box wr _)) hg hbase (fun g e => (HR.out.2.2.2.2.2.2.lt g e).1); have c4 := hxW.cell CF.out)
      go_roundw
      case rel =>
        refine ⟨f, kf, wf, r ++ [c], by omega, by rw [List.length_append]; simp; have := HR.out.1; omega, rfl, HR.out.2.2.1, ?_, ?_, hxW⟩
        · rw [HR.out.2.1, HR.out.2.2.2.1, ← HR.out.2.2.2.2.2.1]; simp
        · rw [byte_snoc, List.length_append, ← HR.out.1]; exact hown9
      case measure => simp [intOf]; omega
end Go.Proofs.YtihginaanlcilaaDoor
