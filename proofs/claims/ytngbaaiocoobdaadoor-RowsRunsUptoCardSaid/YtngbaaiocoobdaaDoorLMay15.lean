/- bolterlaw15.light and may. -/
import Derived.Test.YtngbaaiocoobdaaDoorDenses
import Derived.Test.YtngbaaiocoobdaaDoorMay
import Derived.Deep.DeepCutAuto
namespace Go.Proofs.YtngbaaiocoobdaaDoor
open Go.RowKit

/-- has the list's automata few enough states? -/
def lightB (l : List Dn) : Bool := decide (states l ≤ 80) && decide (l.length ≤ 40)
structure LMay (l : List Dn) : Prop where
  each : ∀ d ∈ l, May d
  few : states l ≤ 80
  pos : 0 < l.length
  most : l.length ≤ 16
noncomputable def lmayB (l : List Dn) : Bool := @decide (LMay l) (Classical.propDecidable _)
theorem lmayB_true {l : List Dn} : lmayB l = true ↔ LMay l := by simp [lmayB]
theorem lmayB_false {l : List Dn} (h : ¬ LMay l) : lmayB l = false := by simp [lmayB, h]
theorem LMay.mayL {l : List Dn} (h : LMay l) : MayL l := ⟨h.each, h.pos, h.most, by have := h.few; omega⟩

set_option maxRecDepth 100000 in
set_option maxHeartbeats 1000000 in
theorem light15_c {w : World} {v : Value} {l : List Dn} (h : DensesV w v l) (hm : ∀ i, states (l.take i) ≤ i * 600) : Calls Tryd.prog 34 #[v] w fun e w' => e = .returned (.bool (lightB l)) ∧ Ext w w' := by
  obtain ⟨hlen, a, cap, rfl, _, hop⟩ := h.open
  obtain ⟨L, hL⟩ : ∃ L, L = l.length := ⟨_, rfl⟩
  rw [← hL] at hlen hop ⊢
  have H := Lib.hid (And.intro hop (And.intro hL hm))
  clear hop hL h hm
  go_enter Tryd.func34, Tryd.ntmps34
  go_wp2
  go_loop [3, 4] (fun nv iv => ∃ i : Nat, i ≤ L ∧ iv = .int .i64 i ∧ nv = .int .i64 (states (l.take i) : Nat)) (fun _ iv => L - (intOf iv).toNat)
  case atStart => exact ⟨0, Nat.zero_le _, rfl, rfl⟩
  case round =>
    obtain ⟨i, hi, rfl, rfl⟩ := hrel
    have hs := H.out.2.2 i
    have hs2 := H.out.2.2 (i + 1)
    by_cases hlt : i < L
    · obtain ⟨b, o, rfl, hcell⟩ := H.out.1 (by omega)
      obtain ⟨d, hd⟩ : ∃ d, l[i]? = some d := ⟨_, List.getElem?_eq_getElem (by rw [← H.out.2.1]; exact hlt)⟩
      obtain ⟨an, cn, al, cl, c0, c1, hdv⟩ := hcell i d hd
      rw [take_get hd, states_snoc] at hs2
      obtain ⟨n, hn⟩ : ∃ n, n = d.next.length := ⟨_, rfl⟩
      rw [← hn] at c0 hs2
      obtain ⟨s, hs'⟩ : ∃ s, s = states (l.take i) := ⟨_, rfl⟩
      rw [← hs'] at hs hs2 ⊢
      have hj1 : (i : Int) < L := by omega
      have hb : i * 600 ≤ 140737488355328 * 600 := Nat.mul_le_mul_right _ (by omega)
      have hw1 : IntKind.i64.wrap ((s : Int) + n) = ((s + n : Nat) : Int) := (IntWalk.i64_in _ (by omega)).trans (by omega)
      have HC := Lib.hid (And.intro hd (And.intro hn hs'))
      clear hd hn hs' hdv c1 hcell hs2 hs hb
      go_wp2
      go_round
      case rel => exact ⟨i + 1, by omega, by go_num, by rw [take_get HC.out.1, states_snoc, ← HC.out.2.1, ← HC.out.2.2]; simp⟩
      case measure => simp [intOf]; omega
    · obtain rfl : L = i := by omega
      have hall : l.take L = l := by rw [H.out.2.1]; exact List.take_length
      rw [hall] at hs ⊢
      have hlb : lightB l = (decide (states l ≤ 80) && decide (L ≤ 40)) := by unfold lightB; rw [H.out.2.1]
      obtain ⟨s, hs'⟩ : ∃ s, s = states l := ⟨_, rfl⟩
      rw [← hs'] at hs hlb ⊢
      have HL := Lib.hid hlb
      clear hs' hlb hlt hs2 hall
      by_cases h1 : s ≤ 80
      · have h1' : (s : Int) ≤ 80 := by omega
        by_cases h2 : L ≤ 40
        · have h2' : (L : Int) ≤ 40 := by omega
          go_wp2
          go_ret
          exact ⟨ret_bool (by rw [HL.out]; simp [h1, h2]), Ext.refl _⟩
        · have h2' : ¬ (L : Int) ≤ 40 := by omega
          go_wp2
          go_ret
          exact ⟨ret_bool (by rw [HL.out]; simp [h2]), Ext.refl _⟩
      · have h1' : ¬ (s : Int) ≤ 80 := by omega
        go_wp2
        go_ret
        exact ⟨ret_bool (by rw [HL.out]; simp [h1]), Ext.refl _⟩

set_option maxRecDepth 100000 in
set_option maxHeartbeats 1000000 in
theorem lmay_c {w : World} {v : Value} {l : List Dn} (h : DensesV w v l) : Calls Tryd.prog 18 #[v] w fun e w' => e = .returned (.bool (lmayB l)) ∧ Ext w w' := by
  obtain ⟨hlen, a, cap, rfl, _, hop⟩ := h.open
  obtain ⟨L, hL⟩ : ∃ L, L = l.length := ⟨_, rfl⟩
  rw [← hL] at hlen hop ⊢
  have H := Lib.hid (And.intro hop (And.intro hL h))
  clear hop hL h
  go_enter Tryd.func18, Tryd.ntmps18
  go_wp2
  go_loopw [3] (fun iv wr => ∃ i : Nat, i ≤ L ∧ iv = .int .i64 i ∧ Ext w wr ∧ ∀ d ∈ l.take i, May d) (fun iv _ => L - (intOf iv).toNat)
  case atStart => exact ⟨0, Nat.zero_le _, rfl, Ext.refl _, fun d hd => by simp at hd⟩
  case round =>
    obtain ⟨i, hi, rfl, hx, hm⟩ := hrel
    by_cases hlt : i < L
    · obtain ⟨b, o, rfl, hcell⟩ := H.out.1 (by omega)
      obtain ⟨d, hd⟩ : ∃ d, l[i]? = some d := ⟨_, List.getElem?_eq_getElem (by rw [← H.out.2.1]; exact hlt)⟩
      obtain ⟨an, cn, al, cl, c0, c1, hdv⟩ := hcell i d hd
      have c0 := hx.cell c0
      have c1 := hx.cell c1
      have hmy := may_c (hdv.ext hx)
      generalize d.next.length = n at c0 c1 hmy
      generalize d.label.length = m at c0 c1 hmy
      obtain ⟨r, hr⟩ : ∃ r, r = mayB d := ⟨_, rfl⟩
      rw [← hr] at hmy
      have hj1 : (i : Int) < L := by omega
      have HC := Lib.hid (And.intro hmy (And.intro hr (And.intro hm (And.intro hd hx))))
      clear hmy hr hm hd hx hdv hcell
      go_wp2_with fail
      refine HC.out.1.mono ?_
      rintro e w2 ⟨rfl, hx2⟩
      have HX := Lib.hid (HC.out.2.2.2.2.trans hx2)
      clear hx2 c0 c1
      cases r
      · go_wp2
        go_ret
        exact ⟨ret_bool (lmayB_false fun hl => by
          have h1 := mayB_true.2 (hl.each d (List.mem_of_getElem? HC.out.2.2.2.1))
          rw [← HC.out.2.1] at h1; cases h1).symm, HX.out⟩
      · go_wp2
        go_roundw
        case rel => exact ⟨i + 1, by omega, by go_num, HX.out, fun d' hd' => by
          rw [take_get HC.out.2.2.2.1] at hd'
          rcases List.mem_append.1 hd' with h | h
          · exact HC.out.2.2.1 d' h
          · obtain rfl := List.mem_singleton.1 h
            exact mayB_true.1 HC.out.2.1.symm⟩
        case measure => simp [intOf]; omega
    · obtain rfl : L = i := by omega
      have hall : l.take L = l := by rw [H.out.2.1]; exact List.take_length
      rw [hall] at hm
      have hst : ∀ i, states (l.take i) ≤ i * 600 := fun i => by
        have h1 := states_le (l := l.take i) fun d hd => hm d (List.mem_of_mem_take hd)
        have h2 : (l.take i).length ≤ i := by rw [List.length_take]; omega
        have h3 : (l.take i).length * 600 ≤ i * 600 := Nat.mul_le_mul_right _ h2
        omega
      have hli := light15_c (H.out.2.2.ext hx) hst
      rw [← H.out.2.1] at hli
      have hlb : lightB l = (decide (states l ≤ 80) && decide (L ≤ 40)) := by unfold lightB; rw [H.out.2.1]
      obtain ⟨g, hg⟩ : ∃ g, g = lightB l := ⟨_, rfl⟩
      rw [← hg] at hli hlb
      have HC := Lib.hid (And.intro hli (And.intro hlb (And.intro hm hx)))
      clear hli hlb hm hx hg hst hlt hall
      go_wp2_with fail
      refine HC.out.1.mono ?_
      rintro e w2 ⟨rfl, hx2⟩
      have HX := Lib.hid (HC.out.2.2.2.trans hx2)
      clear hx2
      cases g
      · go_wp2
        go_ret
        refine ⟨ret_bool (lmayB_false fun hl => ?_).symm, HX.out⟩
        have h1 := HC.out.2.1
        have h2 := hl.few
        have h3 := hl.most
        rw [← H.out.2.1] at h3
        rw [decide_eq_true h2, decide_eq_true (by omega : L ≤ 40)] at h1
        cases h1
      · by_cases h1 : 0 < L
        · have h1' : (0 : Int) < L := by omega
          by_cases h2 : L ≤ 16
          · have h2' : (L : Int) ≤ 16 := by omega
            go_wp2
            go_ret
            refine ⟨ret_bool (lmayB_true.2 ⟨HC.out.2.2.1, ?_, by rw [← H.out.2.1]; exact h1, by rw [← H.out.2.1]; exact h2⟩).symm, HX.out⟩
            have h3 := HC.out.2.1.symm
            rw [Bool.and_eq_true] at h3
            exact of_decide_eq_true h3.1
          · have h2' : ¬ (L : Int) ≤ 16 := by omega
            go_wp2
            go_ret
            exact ⟨ret_bool (by rw [lmayB_false fun hl => h2 (by rw [H.out.2.1]; exact hl.most)]; exact decide_eq_false (by omega)), HX.out⟩
        · have h1' : ¬ (0 : Int) < L := by omega
          go_wp2
          go_ret
          exact ⟨ret_bool (lmayB_false fun hl => h1 (by rw [H.out.2.1]; exact hl.pos)).symm, HX.out⟩
end Go.Proofs.YtngbaaiocoobdaaDoor
