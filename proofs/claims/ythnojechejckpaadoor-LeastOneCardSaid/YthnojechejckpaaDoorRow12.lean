/- bolterlaw12.row. -/
import Derived.Test.YthnojechejckpaaDoorOwn
namespace Go.Proofs.YthnojechejckpaaDoor
open Go.RowKit

def row12 (n : Int) : List Int := List.replicate 256 n
theorem row12_get (n : Int) (i : Nat) (h : i < 256) : (row12 n).getD i 0 = n := by
  rw [row12, List.getD_eq_getElem?_getD, List.getElem?_replicate, if_pos h]; rfl
theorem row12_length (n : Int) : (row12 n).length = 256 := List.length_replicate

set_option maxRecDepth 100000 in
set_option maxHeartbeats 1000000 in
theorem row12_c (n : Int) (w : World) :
    Calls Tryd.prog 47 #[.int .i64 n] w fun e w' => e = .returned (.slice (some ⟨w.heap.size, 0, none⟩) 256 256) ∧ Ext w w' ∧ w'.rowIs w.heap.size 3 256 (fun i => .int .i64 ((row12 n).getD i 0)) := by
  have hmk : (Instr.makeSlice 23 (.int .i64 256) (.int .i64 256)).run Tryd.prog w = .ok (.slice (some ⟨w.heap.size, 0, none⟩) 256 256) (w.alloc (.cells (madeCells #[.int .i64 0] 256) 3)) :=
    run_make_any (P := Tryd.prog) 23 3 (.int .i64 0) 1 8 Tryd.underlying23 int_info .i64 .i64 256 (by omega) (by omega) w
  go_enter Tryd.func47, Tryd.ntmps47
  go_wp2
  clear hmk
  go_loopw [4] (fun i wr => ∃ k : Nat, k ≤ 256 ∧ i = .int .i64 k ∧ Ext w wr ∧ wr.rowIs w.heap.size 3 256 (fun i => .int .i64 (if i < k then n else 0))) (fun i _ => 256 - (intOf i).toNat)
  case atStart =>
    refine ⟨0, Nat.zero_le _, rfl, Ext.box _ _, ?_⟩
    exact (World.rowIs_made w _ 256 3).congr (fun j _ => by simp)
  case round =>
    obtain ⟨k, hk, rfl, hx, hr⟩ := hrel
    by_cases hlt : k < 256
    · have c1 := hr.cell hlt
      have f1 := hr.frozen k
      have C1 := Lib.hid c1
      clear c1
      have c2 : ∃ v, wr.cell? ⟨w.heap.size, k, none⟩ = some v := ⟨_, C1.out⟩
      obtain ⟨v0, c3⟩ := c2
      go_wp2
      go_roundw
      case rel => exact ⟨k + 1, by omega, by go_num, hx.setCell (Nat.le_refl _) _, (hr.set k _).congr (fun j _ => by
        by_cases e : j = k
        · rw [if_pos e, if_pos (by omega)]
        · rw [if_neg e]
          by_cases h : j < k
          · rw [if_pos h, if_pos (by omega)]
          · rw [if_neg h, if_neg (by omega)])⟩
      case measure => simp [intOf]; omega
    · obtain rfl : k = 256 := by omega
      go_wp2
      go_ret
      exact ⟨rfl, hx, hr.congr (fun j hj => by rw [row12_get n j hj, if_pos hj])⟩
end Go.Proofs.YthnojechejckpaaDoor
