/- Lists of automata, as they lie in memory; rows.may. -/
import Derived.Test.YtloooajippcdlaaDoorCheck
import Derived.Test.YtloooajippcdlaaDoorDn
import Derived.Test.YtloooajippcdlaaDoorMem
import Derived.Deep.DeepCutAuto
namespace Go.Proofs.YtloooajippcdlaaDoor
open Go.RowKit

def DensesV (w : World) (v : Value) (l : List Dn) : Prop := SliceV 2 DenseAt w v l
theorem DensesV.ext {w w' : World} {v : Value} {l : List Dn} (h : DensesV w v l) (hx : Ext w w') : DensesV w' v l := SliceV.mono h fun _ _ _ => DenseAt.ext hx

/-- opened: each automaton's two cells -/
theorem DensesV.open {w : World} {v : Value} {l : List Dn} (h : DensesV w v l) :
    l.length ≤ 140737488355328 ∧ ∃ a cap, v = .slice a l.length cap ∧ (l.length ≤ cap ∧ (a = none → cap = 0)) ∧ (0 < l.length → ∃ b o, a = some ⟨b, o, none⟩ ∧ ∀ i d, l[i]? = some d → ∃ an cn al cl,
      w.cell? ⟨b, o + i * 2, none⟩ = some (.slice an d.next.length cn) ∧ w.cell? ⟨b, o + i * 2 + 1, none⟩ = some (.slice al d.label.length cl) ∧ DenseV w (.agg #[.slice an d.next.length cn, .slice al d.label.length cl]) d) := by
  obtain ⟨h1, a, cap, h2, hc, h3⟩ := h
  refine ⟨h1, a, cap, h2, hc, fun h => ?_⟩
  obtain ⟨b, o, h4, h5⟩ := h3 h
  refine ⟨b, o, h4, fun i d hi => ?_⟩
  obtain ⟨⟨v1, c1, r1⟩, ⟨v2, c2, r2⟩⟩ := h5 i d hi
  have hd : DenseV w (.agg #[v1, v2]) d := ⟨v1, v2, rfl, r1, r2⟩
  obtain ⟨_, an, cn, rfl, _⟩ := RowsV.open r1
  obtain ⟨_, al, cl, rfl, _⟩ := IntsK.open r2
  exact ⟨an, cn, al, cl, c1, c2, hd⟩

/-- so many states the first i automata have -/
def states (l : List Dn) : Nat := (l.map fun d => d.next.length).sum
theorem states_snoc (l : List Dn) (d : Dn) : states (l ++ [d]) = states l + d.next.length := by simp [states]
theorem states_le {l : List Dn} (h : ∀ d ∈ l, May d) : states l ≤ l.length * 600 := by
  induction l with
  | nil => simp [states]
  | cons d l ih =>
    have h1 := (h d (List.mem_cons_self ..)).most
    have h2 := ih fun x hx => h x (List.mem_cons_of_mem _ hx)
    simp only [states, List.map_cons, List.sum_cons, List.length_cons] at h2 ⊢
    omega
theorem take_get {α : Type} {l : List α} {i : Nat} {x : α} (h : l[i]? = some x) : l.take (i + 1) = l.take i ++ [x] := by rw [List.take_add_one, h]; rfl

/-- may automata be a table's? -/
structure MayL (l : List Dn) : Prop where
  each : ∀ d ∈ l, May d
  pos : 0 < l.length
  most : l.length ≤ 16
  sum : states l ≤ 600
noncomputable def mayLB (l : List Dn) : Bool := @decide (MayL l) (Classical.propDecidable _)
theorem mayLB_true {l : List Dn} : mayLB l = true ↔ MayL l := by simp [mayLB]
theorem mayLB_false {l : List Dn} (h : ¬ MayL l) : mayLB l = false := by simp [mayLB, h]

set_option maxRecDepth 100000 in
set_option maxHeartbeats 1000000 in
theorem rowsMay_c {w : World} {v : Value} {l : List Dn} (h : DensesV w v l) : Calls Tryd.prog 64 #[v] w fun e w' => e = .returned (.bool (mayLB l)) ∧ Ext w w' := by
  obtain ⟨hlen, a, cap, rfl, _, hop⟩ := h.open
  obtain ⟨L, hL⟩ : ∃ L, L = l.length := ⟨_, rfl⟩
  rw [← hL] at hlen hop ⊢
  have H := Lib.hid (And.intro hop hL)
  clear hop hL h
  go_enter Tryd.func64, Tryd.ntmps64
  go_wp2_with fail
  go_loopw [3, 8] (fun nv iv wr => ∃ i : Nat, i ≤ L ∧ iv = .int .i64 i ∧ nv = .int .i64 (states (l.take i) : Nat) ∧ Ext w wr ∧ ∀ d ∈ l.take i, May d) (fun _ iv _ => L - (intOf iv).toNat)
  case atStart => exact ⟨0, Nat.zero_le _, rfl, rfl, Ext.refl _, fun d hd => by simp at hd⟩
  case round =>
    obtain ⟨i, hi, rfl, rfl, hx, hm⟩ := hrel
    have hs := states_le hm
    have hsl : (l.take i).length ≤ i := by rw [List.length_take]; omega
    by_cases hlt : i < L
    · obtain ⟨b, o, rfl, hcell⟩ := H.out.1 (by omega)
      obtain ⟨d, hd⟩ : ∃ d, l[i]? = some d := ⟨_, List.getElem?_eq_getElem (by rw [← H.out.2]; exact hlt)⟩
      obtain ⟨an, cn, al, cl, c0, c1, hdv⟩ := hcell i d hd
      have c0 := hx.cell c0
      have c1 := hx.cell c1
      obtain ⟨n, hn⟩ : ∃ n, n = d.next.length := ⟨_, rfl⟩
      obtain ⟨m, hm'⟩ : ∃ n, n = d.label.length := ⟨_, rfl⟩
      rw [← hn] at c0 hdv
      rw [← hm'] at c1 hdv
      obtain ⟨s, hs'⟩ : ∃ s, s = states (l.take i) := ⟨_, rfl⟩
      rw [← hs'] at hs ⊢
      have hj1 : (i : Int) < L := by omega
      have hck := check_c (hdv.ext (hx.trans (Ext.box wr (.cells #[.slice an n cn, .slice al m cl] 25))))
      obtain ⟨r, hr⟩ : ∃ r, r = mayB d := ⟨_, rfl⟩
      rw [← hr] at hck
      have hsb : s ≤ 84442493013196800 := by
        have : i * 600 ≤ 140737488355328 * 600 := Nat.mul_le_mul_right _ (by omega)
        omega
      have HC := Lib.hid (And.intro hck (And.intro hr (And.intro hm (And.intro hd (And.intro hn (And.intro hs' hx))))))
      clear hck hr hm hd hn hm' hs' hx hdv hcell hs
      go_wp2_with fail
      refine HC.out.1.mono ?_
      rintro e w2 ⟨rfl, hx2⟩
      have q0 := hx2.cell (p := ⟨wr.heap.size, 0, none⟩) (v := .slice an n cn) (by simp)
      have HX2 := Lib.hid (HC.out.2.2.2.2.2.2.trans ((Ext.box wr _).trans hx2))
      clear hx2
      cases r
      · go_wp2
        go_ret
        exact ⟨ret_bool (mayLB_false fun hml => by
          have h1 := mayB_true.2 (hml.each d (List.mem_of_getElem? HC.out.2.2.2.1))
          rw [← HC.out.2.1] at h1; cases h1).symm, HX2.out⟩
      · have hmd : May d := mayB_true.1 HC.out.2.1.symm
        have hn6 : n ≤ 600 := by rw [HC.out.2.2.2.2.1]; exact hmd.most
        clear hmd
        have hw1 : IntKind.i64.wrap ((s : Int) + n) = ((s + n : Nat) : Int) := (IntWalk.i64_in _ (by omega)).trans (by omega)
        go_wp2
        go_roundw
        case rel => exact ⟨i + 1, by omega, by go_num, by rw [take_get HC.out.2.2.2.1, states_snoc, ← HC.out.2.2.2.2.1, ← HC.out.2.2.2.2.2.1]; simp, HX2.out, fun d' hd' => by
          rw [take_get HC.out.2.2.2.1] at hd'
          rcases List.mem_append.1 hd' with h | h
          · exact HC.out.2.2.1 d' h
          · obtain rfl := List.mem_singleton.1 h
            exact mayB_true.1 HC.out.2.1.symm⟩
        case measure => simp [intOf]; omega
    · obtain rfl : L = i := by omega
      have hall : l.take L = l := by rw [H.out.2]; exact List.take_length
      rw [hall] at hm hs ⊢
      obtain ⟨s, hs'⟩ : ∃ s, s = states l := ⟨_, rfl⟩
      rw [← hs'] at hs ⊢
      obtain ⟨g1, hg1⟩ : ∃ g, g = decide (0 < L) := ⟨_, rfl⟩
      have HC := Lib.hid (And.intro hm (And.intro hs' hx))
      clear hm hs' hx hlt
      by_cases h1 : 0 < L
      · have h1' : (0 : Int) < L := by omega
        by_cases h2 : L ≤ 16
        · have h2' : (L : Int) ≤ 16 := by omega
          by_cases h3 : s ≤ 600
          · have h3' : (s : Int) ≤ 600 := by omega
            go_wp2
            go_ret
            exact ⟨ret_bool (mayLB_true.2 ⟨HC.out.1, by rw [← H.out.2]; exact h1, by rw [← H.out.2]; exact h2, by rw [← HC.out.2.1]; exact h3⟩).symm, HC.out.2.2⟩
          · have h3' : ¬ (s : Int) ≤ 600 := by omega
            go_wp2
            go_ret
            exact ⟨ret_bool (mayLB_false fun hml => h3 (by rw [HC.out.2.1]; exact hml.sum)).symm, HC.out.2.2⟩
        · have h2' : ¬ (L : Int) ≤ 16 := by omega
          go_wp2
          go_ret
          exact ⟨ret_bool (mayLB_false fun hml => h2 (by rw [H.out.2]; exact hml.most)).symm, HC.out.2.2⟩
      · obtain rfl : L = 0 := by omega
        go_wp2
        go_ret
        exact ⟨ret_bool (mayLB_false fun hml => by
          have h3 := hml.pos
          have h4 := H.out.2
          omega).symm, HC.out.2.2⟩
end Go.Proofs.YtloooajippcdlaaDoor
