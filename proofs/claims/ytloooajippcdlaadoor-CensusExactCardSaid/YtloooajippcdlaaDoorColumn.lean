/- rows.column and rows.equal: a byte's column, piece by piece; are two equal? -/
import Derived.Test.YtloooajippcdlaaDoorRowsMath
import Derived.Test.YtloooajippcdlaaDoorCheck
import Derived.Test.YtloooajippcdlaaDoorMem
import Derived.Test.YtloooajippcdlaaDoorOwn
import Derived.Deep.QuietTactic
import Derived.BigQuiet
import Derived.BigRegion
import Derived.Deep.RegionHeld3
import Derived.StillTailTactics
import Derived.Deep.DeepCutAuto
namespace Go.Proofs.YtloooajippcdlaaDoor
open Go.RowKit

theorem piece_info : (Tryd.prog.info? 163).map (fun i => (i.zero, i.size, i.bytes)) = some (some (.agg #[.int .i64 0, .int .i64 0, .int .i64 0, .int .i64 0, .int .i64 0, .int .i64 0, .int .i64 0, .int .i64 0]), 8, 64) := by kernel_rfl

theorem made_eight (z : Value) {n j : Nat} (h : j < n * 8) : (madeCells #[z, z, z, z, z, z, z, z] (n * 8))[j]? = some z := by
  have h8 : j % 8 < 8 := Nat.mod_lt _ (by omega)
  simp [madeCells, h]
  rcases (by omega : j % 8 = 0 ∨ j % 8 = 1 ∨ j % 8 = 2 ∨ j % 8 = 3 ∨ j % 8 = 4 ∨ j % 8 = 5 ∨ j % 8 = 6 ∨ j % 8 = 7) with e | e | e | e | e | e | e | e <;> simp [e]

/-- the cells of a byte's column: the first k rows are laid -/
def colV (rows : List (List Int)) (b k j : Nat) : Value := .int .i64 (if j < k then (rows.getD j []).getD b 0 else 0)

/-- so many pieces -/
def pieces (n : Nat) : Nat := (n + 7) / 8

def ColumnR (rows : List (List Int)) (b : Nat) (w : World) (e : Ending) (w' : World) : Prop :=
  e = .returned (.slice (some ⟨w.heap.size, 0, none⟩) (pieces rows.length) (pieces rows.length)) ∧ w'.rowIs w.heap.size 163 (pieces rows.length * 8) (colV rows b rows.length) ∧ Ext w w'

set_option maxRecDepth 100000 in
set_option maxHeartbeats 1000000 in
theorem column_c {nv : Value} {rows : List (List Int)} {b : Nat} {w : World} (h : RowsV w nv rows) (hl : ∀ i, i < rows.length → (rows.getD i []).length = 256) (h1 : 0 < rows.length) (hn : rows.length ≤ 600) (hb : b < 256) :
    Calls Tryd.prog 66 #[nv, .int .i64 (b : Int)] w (ColumnR rows b w) := by
  obtain ⟨_, an, cn, rfl, _, h2⟩ := h.open
  obtain ⟨bn, on, rfl, h5⟩ := h2 h1
  obtain ⟨N, hN⟩ : ∃ N, N = rows.length := ⟨_, rfl⟩
  obtain ⟨m, hm⟩ : ∃ m, m = pieces N := ⟨_, rfl⟩
  have hm2 : m = (N + 7) / 8 := hm
  unfold ColumnR
  rw [← hN, ← hm]
  rw [← hN] at h1 hn
  have HR := Lib.hid (And.intro h5 (And.intro hN hl))
  obtain ⟨p, hp⟩ : ∃ p, p = N + 7 := ⟨_, rfl⟩
  have hw1 : IntKind.i64.wrap ((N : Int) + 7) = (p : Int) := (IntWalk.i64_in _ (by omega)).trans (by omega)
  have hw2 : IntKind.i64.wrap (Int.tdiv (p : Int) 8) = (m : Int) := by
    rw [IntWalk.i64_quo _ _ (by omega)]; omega
  have hw3 : (p : Int) / 8 = (m : Int) := by omega
  have hw4 : (p : Int) ≤ 607 := by omega
  have hmk := run_make_any (P := Tryd.prog) 112 163 _ 8 64 Tryd.underlying112 piece_info .i64 .i64 m (by omega) (by omega)
  have HP := Lib.hid (And.intro hm2 hp)
  clear h h2 h5 hN hl hm hm2 hp
  go_enter Tryd.func66, Tryd.ntmps66
  go_wp2_with fail
  clear hmk hw1 hw2 hw3 hw4
  obtain ⟨g, hg⟩ : ∃ g, g = w.heap.size := ⟨_, rfl⟩
  rw [← hg]
  have HG := Lib.hid hg
  have hs0 : ∀ w1, w1 = w.alloc (.cells (madeCells #[.int .i64 0, .int .i64 0, .int .i64 0, .int .i64 0, .int .i64 0, .int .i64 0, .int .i64 0, .int .i64 0] (m * 8)) 163) → Ext w w1 ∧ w1.rowIs g 163 (m * 8) (colV rows b 0) := by
    rintro w1 rfl
    refine ⟨Ext.box _ _, ?_⟩
    have h := World.rowIs_alloc w (madeCells #[.int .i64 0, .int .i64 0, .int .i64 0, .int .i64 0, .int .i64 0, .int .i64 0, .int .i64 0, .int .i64 0] (m * 8)) 163 (colV rows b 0) (fun i hi => by
      rw [size_madeCells] at hi
      rw [made_eight _ hi]; simp [colV])
    rw [size_madeCells, ← hg] at h
    exact h
  have HS0 := Lib.hid hs0
  clear hs0 hg
  go_loopw [15] (fun iv wr => ∃ i : Nat, i ≤ N ∧ iv = .int .i64 i ∧ Ext w wr ∧ wr.rowIs g 163 (m * 8) (colV rows b i)) (fun iv _ => N - (intOf iv).toNat)
  case atStart => exact ⟨0, Nat.zero_le _, rfl, (HS0.out _ rfl).1, (HS0.out _ rfl).2⟩
  case round =>
    obtain ⟨i, hi, rfl, hx, hr⟩ := hrel
    by_cases hlt : i < N
    · obtain ⟨r, r0, r1⟩ := HR.out.1 i (by rw [← HR.out.2.1]; exact hlt)
      obtain ⟨_, ar, cr, rfl, _, r2⟩ := r1.open
      have hlr := HR.out.2.2 i (by rw [← HR.out.2.1]; exact hlt)
      rw [hlr] at r0 r2
      obtain ⟨br, ro, rfl, r3⟩ := r2 (by omega)
      have c0 := hx.cell r0
      have c1 := hx.cell (r3 b hb)
      obtain ⟨x, hxx⟩ : ∃ x, x = (rows.getD i []).getD b 0 := ⟨_, rfl⟩
      rw [← hxx] at c1
      obtain ⟨q, hq⟩ : ∃ q, q = i / 8 := ⟨_, rfl⟩
      obtain ⟨s, hs⟩ : ∃ s, s = i % 8 := ⟨_, rfl⟩
      have hq1 : IntKind.i64.wrap (Int.tdiv (i : Int) 8) = (q : Int) := by rw [IntWalk.i64_quo _ _ (by omega)]; omega
      have hq2 : Int.tmod (i : Int) 8 = (s : Int) := by rw [Int.tmod_eq_emod_of_nonneg (by omega)]; omega
      have hq3 : IntKind.i64.wrap ((i : Int) / 8) = (q : Int) := (IntWalk.i64_in _ (by omega)).trans (by omega)
      have hq4 : (i : Int) % 8 = (s : Int) := by omega
      have hqm : q < m := by have := HP.out.1; omega
      have hs8 : s < 8 := by omega
      have hj1 : (i : Int) < N := by omega
      have hj2 : (b : Int) < 256 := by omega
      have hj3 : (q : Int) < m := by omega
      have hj4 : (s : Int) < 8 := by omega
      have hqs : q * 8 + s = i := by omega
      have m0 := hr.cell (i := q * 8 + s) (by omega)
      have f0 := hr.frozen (q * 8 + s)
      have HQ := Lib.hid (And.intro hx (And.intro hr (And.intro hxx hqs)))
      obtain ⟨y, hy⟩ : ∃ y, y = colV rows b i (q * 8 + s) := ⟨_, rfl⟩
      rw [← hy] at m0
      clear hx hr hxx hqs hq hs r0 r1 r2 r3 hlr hq1 hq4 hy
      go_wp2_with fail
      go_still_tail 11, (by kernel_rfl)
      change wpList _ _ _ _ _ wr.drew
      go_wp2
      go_roundw
      case rel =>
        refine ⟨i + 1, by omega, by go_num, HQ.out.1.drew.setCell (by rw [HG.out]; exact Nat.le_refl _) _, ?_⟩
        rw [HQ.out.2.2.2]
        refine (HQ.out.2.1.drew.set i _).congr fun j _ => ?_
        unfold colV
        by_cases e : j = i
        · subst e
          rw [if_pos rfl, if_pos (by omega), HQ.out.2.2.1]
        · rw [if_neg e]
          by_cases e2 : j < i
          · rw [if_pos e2, if_pos (by omega)]
          · rw [if_neg e2, if_neg (by omega)]
      case measure => simp [intOf]; omega
    · obtain rfl : N = i := by omega
      have HQ := Lib.hid (And.intro hx hr)
      clear hx hr
      go_wp2
      go_ret
      exact ⟨by rw [← HG.out]; rfl, by rw [← HG.out]; exact HQ.out.2, HQ.out.1⟩
end Go.Proofs.YtloooajippcdlaaDoor
