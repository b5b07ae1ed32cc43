/- bolterref15.column: are two bytes' columns equal? -/
import Derived.Test.YtloooajippcdlaaDoorRowsMath
import Derived.Test.YtloooajippcdlaaDoorOwn
import Derived.Test.YtloooajippcdlaaDoorTab
import Derived.BigQuiet
import Derived.Deep.QuietTactic
namespace Go.Proofs.YtloooajippcdlaaDoor
open Go.RowKit

set_option maxRecDepth 100000 in
set_option maxHeartbeats 1000000 in
theorem rcol_c {w : World} {v : Value} {rows : List (List Int)} {a b : Nat} (h : RowsV w v rows) (hl : ∀ r ∈ rows, r.length = 256) (ha : a < 256) (hb : b < 256) :
    Calls Tryd.prog 92 #[v, .int .i64 (a : Int), .int .i64 (b : Int)] w fun e w' => e = .returned (.bool (RM.same rows a b)) ∧ Ext w w' := by
  obtain ⟨hl0, an, cn, rfl, _, hop⟩ := h.open
  obtain ⟨R, hR⟩ : ∃ R, R = rows.length := ⟨_, rfl⟩
  rw [← hR] at hl0 hop ⊢
  have hj1 : (a : Int) < 256 := by omega
  have hj2 : (b : Int) < 256 := by omega
  have H := Lib.hid (And.intro hop (And.intro hl hR))
  clear hop hl hR h
  go_enter Tryd.func92, Tryd.ntmps92
  go_wp2
  go_loopw [7] (fun iv wr => Ext w wr ∧ ∃ i : Nat, i ≤ R ∧ iv = .int .i64 i ∧ ∀ j, j < i → (rows.getD j []).getD a 0 = (rows.getD j []).getD b 0) (fun iv _ => R - (intOf iv).toNat)
  case atStart => exact ⟨Ext.refl _, 0, Nat.zero_le _, rfl, fun j hj => by omega⟩
  case round =>
    obtain ⟨hx, i, hi, rfl, hs⟩ := hrel
    by_cases hlt : i < R
    · obtain ⟨bb, oo, rfl, hc⟩ := H.out.1 (by omega)
      obtain ⟨r, hr, hrv⟩ := hc i hlt
      have hmem : rows.getD i [] ∈ rows := mem_getD (by rw [← H.out.2.2]; exact hlt)
      have hrl := H.out.2.1 _ hmem
      obtain ⟨_, ar, cr, rfl, _, hrc⟩ := hrv.open
      rw [hrl] at hr hrc
      obtain ⟨br, ro, rfl, hcc⟩ := hrc (by omega)
      have c0 := hx.cell hr
      have ca := hx.cell (hcc a ha)
      have cb := hx.cell (hcc b hb)
      obtain ⟨x, hxx⟩ : ∃ x, x = (rows.getD i []).getD a 0 := ⟨_, rfl⟩
      obtain ⟨y, hyy⟩ : ∃ y, y = (rows.getD i []).getD b 0 := ⟨_, rfl⟩
      rw [← hxx] at ca
      rw [← hyy] at cb
      have hj3 : (i : Int) < R := by omega
      have HX := Lib.hid (And.intro hx (And.intro hs (And.intro hxx (And.intro hyy hmem))))
      clear hx hs hxx hyy hmem hr hrc hcc hrl hrv hc
      by_cases he : x = y
      · have hne : (x != y) = false := by simp [he]
        have HE := Lib.hid he
        clear he
        go_wp2_with fail
        go_quiet (fail)
        go_wp2
        go_roundw
        case rel => exact ⟨HX.out.1.drewN _, i + 1, by omega, by go_num, fun j hj => by
          by_cases e : j = i
          · subst e; rw [← HX.out.2.2.1, ← HX.out.2.2.2.1]; exact HE.out
          · exact HX.out.2.1 j (by omega)⟩
        case measure => simp [intOf]; omega
      · have hne : (x != y) = true := by simp [he]
        have hf : RM.same rows a b = false := by
          cases e : RM.same rows a b
          · rfl
          · have := RM.same_iff.1 e _ HX.out.2.2.2.2
            rw [← HX.out.2.2.1, ← HX.out.2.2.2.1] at this
            exact absurd this he
        have HF := Lib.hid hf
        clear hf he
        go_wp2_with fail
        go_quiet (fail)
        go_wp2
        go_ret
        exact ⟨by rw [HF.out]; rfl, HX.out.1.drewN _⟩
    · obtain rfl : R = i := by omega
      have ht : RM.same rows a b = true := RM.same_iff.2 fun r hr => by
        obtain ⟨j, hj, rfl⟩ := List.getElem_of_mem hr
        have := hs j (by rw [H.out.2.2]; exact hj)
        rw [getD_of (List.getElem?_eq_getElem hj)] at this
        exact this
      have HX := Lib.hid (And.intro hx ht)
      clear hx hs hlt ht
      go_wp2
      go_ret
      exact ⟨by rw [HX.out.2]; rfl, HX.out.1⟩
end Go.Proofs.YtloooajippcdlaaDoor
