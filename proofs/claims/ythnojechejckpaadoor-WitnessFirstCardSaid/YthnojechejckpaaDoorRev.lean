/- slices.Reverse of bytes: a row of the call's own, turned round. -/
import Derived.Test.YthnojechejckpaaDoorOwn
import Derived.Deep.QuietTactic
import Derived.BigQuiet
import Derived.RegionTactic
namespace Go.Proofs.YthnojechejckpaaDoor
open Go.RowKit

/-- what n bytes hold when the first i and the last i have changed places -/
def revF (f : Nat → Nat) (n i k : Nat) : Nat := if k < i ∨ n ≤ k + i then f (n - 1 - k) else f k

theorem set_range {n i : Nat} (F : Nat → Nat) (x : Nat) : (bytesV ((List.range n).map F)).set i (.int .u8 (x : Int)) = bytesV ((List.range n).map fun k => if k = i then x else F k) := by
  refine List.ext_getElem? fun j => ?_
  rw [List.getElem?_set, bytesV, bytesV, List.map_map, List.map_map, List.getElem?_map, List.getElem?_map]
  by_cases hj : j < n
  · rw [List.getElem?_range hj]
    by_cases e : i = j
    · subst e; simp [hj]
    · rw [if_neg e]; simp [show ¬ j = i from fun e' => e e'.symm]
  · rw [List.getElem?_eq_none (by simp; omega)]
    split
    · simp; omega
    · rfl

theorem range_get {α : Type} {n k : Nat} (F : Nat → α) (h : k < n) : ((List.range n).map F)[k]? = some (F k) := by simp [h]

def Turned0 (w : World) (B g cap : Nat) (l : List Nat) (e : Ending) (w' : World) : Prop :=
  (∃ v, e = .returned v) ∧ w'.ownsRow B 5 1 (.slice (some ⟨g, 0, none⟩) l.length cap) l.length (bytesV l.reverse) ∧ Frm (fun a _ => a = g) w w'

set_option maxRecDepth 100000 in
set_option maxHeartbeats 1000000 in
theorem reverse_c {w : World} {B g cap : Nat} {l : List Nat} (h : w.ownsRow B 5 1 (.slice (some ⟨g, 0, none⟩) l.length cap) l.length (bytesV l)) (hn : l.length ≤ 140737488355328) :
    Calls Tryd.prog 92 #[.slice (some ⟨g, 0, none⟩) l.length cap] w (Turned0 w B g cap l) := by
  obtain ⟨n, hnn⟩ : ∃ n, n = l.length := ⟨_, rfl⟩
  obtain ⟨f, hf⟩ : ∃ f : Nat → Nat, f = fun k => l.getD k 0 := ⟨_, rfl⟩
  have hl : l = (List.range n).map f := by
    refine List.ext_getElem? fun k => ?_
    by_cases hk : k < n
    · rw [range_get f hk, hf]
      simp only [List.getD_eq_getElem?_getD]
      rw [List.getElem?_eq_getElem (by omega)]; rfl
    · rw [List.getElem?_eq_none (by omega), List.getElem?_eq_none (by simp; omega)]
  rw [← hnn] at h hn ⊢
  rw [hl] at h
  have HL := Lib.hid (And.intro hl hnn)
  have H := Lib.hid h
  clear hl hf hnn h
  go_enter Tryd.func92, Tryd.ntmps92
  go_wp2_with fail
  go_loopw [2, 3] (fun iv jv wr => ∃ i : Nat, 2 * i ≤ n + 1 ∧ iv = .int .i64 i ∧ jv = .int .i64 ((n : Int) - 1 - i) ∧ wr.ownsRow B 5 1 (.slice (some ⟨g, 0, none⟩) n cap) n (bytesV ((List.range n).map (revF f n i))) ∧ Frm (fun a _ => a = g) w wr) (fun iv _ _ => n - (intOf iv).toNat)
  case atStart =>
    refine ⟨0, by omega, rfl, by go_num, ?_, Frm.refl _ _⟩
    have e : (List.range n).map (revF f n 0) = (List.range n).map f := List.map_congr_left fun k hk => by
      have := List.mem_range.1 hk
      unfold revF; rw [if_neg (by omega)]
    rw [e]; exact H.out
  case round =>
    obtain ⟨i, hi, rfl, rfl, hown, hF⟩ := hrel
    by_cases hlt : 2 * i + 1 < n
    · obtain ⟨j, hj⟩ : ∃ j, j = n - 1 - i := ⟨_, rfl⟩
      have ej : (n : Int) - 1 - i = (j : Int) := by omega
      rw [ej]
      have ci := hown.cellAt i (by omega)
      have cj := hown.cellAt j (by omega)
      rw [bytesV, List.map_map, range_get _ (by omega)] at ci cj
      simp only [Function.comp] at ci cj
      have fi := hown.frozenAt i
      have fj := hown.frozenAt j
      obtain ⟨x, hx⟩ : ∃ x, x = revF f n i i := ⟨_, rfl⟩
      obtain ⟨y, hy⟩ : ∃ y, y = revF f n i j := ⟨_, rfl⟩
      rw [← hx] at ci
      rw [← hy] at cj
      have hj1 : (i : Int) < n := by omega
      have hj2 : (j : Int) < n := by omega
      have hj3 : (i : Int) < j := by omega
      obtain ⟨u, hset⟩ := Go.RowKit.cell?_setCell_some (w := wr) (p := ⟨g, i, none⟩) (x := .int .u8 (y : Int)) (q := ⟨g, j, none⟩) cj
      have HX := Lib.hid (And.intro hown (And.intro hF (And.intro hx (And.intro hy hj))))
      clear hown hF hx hy hj ej
      go_wp2_with fail
      go_region
      go_wp2_with fail
      go_roundw
      case rel =>
        have hji := HX.out.2.2.2.2
        refine ⟨i + 1, by omega, by go_num, ?_, ?_, ((HX.out.2.1.setCell (.inl rfl) _).setCell (.inl rfl) _).drew⟩
        · have : (j : Int) - 1 = (n : Int) - 1 - ((i + 1 : Nat) : Int) := by omega
          rw [← this]
        · have h1 := (HX.out.1.stored i (.int .u8 (y : Int))).1
          rw [set_range] at h1
          have h2 := (h1.stored j (.int .u8 (x : Int))).1
          rw [set_range] at h2
          have e : (List.range n).map (fun k => if k = j then x else if k = i then y else revF f n i k) = (List.range n).map (revF f n (i + 1)) := List.map_congr_left fun k hk => by
            have hkn := List.mem_range.1 hk
            have ex : x = f i := by rw [HX.out.2.2.1]; unfold revF; rw [if_neg (by omega)]
            have ey : y = f j := by rw [HX.out.2.2.2.1]; unfold revF; rw [if_neg (by omega)]
            unfold revF
            by_cases e1 : k = j
            · rw [if_pos e1, if_pos (by omega), ex]; congr 1; omega
            · rw [if_neg e1]
              by_cases e2 : k = i
              · rw [if_pos e2, if_pos (by omega), ey]; congr 1; omega
              · rw [if_neg e2]
                by_cases e3 : k < i ∨ n ≤ k + i
                · rw [if_pos e3, if_pos (by omega)]
                · rw [if_neg e3, if_neg (by omega)]
          rw [e] at h2
          exact h2.drew
      case measure => simp [intOf]; omega
    · have hlt' : ¬ (i : Int) < (n : Int) - 1 - i := by omega
      have HX := Lib.hid (And.intro hown hF)
      clear hown hF
      go_wp2_with fail
      go_end0
      refine ⟨⟨_, rfl⟩, ?_, HX.out.2⟩
      have e : (List.range n).map (revF f n i) = l.reverse := by
        refine List.ext_getElem? fun k => ?_
        rw [HL.out.1]
        by_cases hk : k < n
        · rw [range_get _ hk, List.getElem?_reverse (by simpa using hk), List.length_map, List.length_range, range_get _ (by omega)]
          unfold revF
          by_cases e3 : k < i ∨ n ≤ k + i
          · rw [if_pos e3]
          · rw [if_neg e3]
            congr 2; omega
        · rw [List.getElem?_eq_none (by simp; omega), List.getElem?_eq_none (by simp; omega)]
      rw [← HL.out.2, ← e]
      exact HX.out.1
end Go.Proofs.YthnojechejckpaaDoor
