/- (*census.sum).add: a count that stands still at 2^64 - 1. -/
import Derived.Test.YtloooajippcdlaaDoorRows
import Derived.Test.YtloooajippcdlaaDoorFrm
import Derived.BigRegion
namespace Go.Proofs.YtloooajippcdlaaDoor
open Go.RowKit

/-- a count, as a sum holds it -/
def sn (x : Nat) : Int := if x < 18446744073709551616 then (x : Int) else 18446744073709551615
def so (x : Nat) : Bool := decide (18446744073709551616 ≤ x)

def two (b o : Nat) (k j : Nat) : Prop := k = b ∧ (j = o ∨ j = o + 1)

def Added (b o : Nat) (n : Int) (over : Bool) (w : World) (e : Ending) (w' : World) : Prop :=
  e = .returned (.tuple #[]) ∧ w'.cell? ⟨b, o, none⟩ = some (.int .u64 n) ∧ w'.cell? ⟨b, o + 1, none⟩ = some (.bool over) ∧ Frm (two b o) w w'

theorem added3 {b o : Nat} {w : World} {n : Int} {v0 v1 v2 : Value} {over : Bool} (O : Obj) (c0 : w.cell? ⟨b, o, none⟩ = some v0) (c1 : w.cell? ⟨b, o + 1, none⟩ = some v1) :
    Added b o n over w (.returned (.tuple #[])) ((((w.setCell ⟨b, o + 1, none⟩ (.bool over)).setCell ⟨b, o, none⟩ v2).setCell ⟨b, o, none⟩ (.int .u64 n)).alloc O).drew.drew := by
  have hb := World.block_lt_of_cell? _ _ c0
  simp only at hb
  have h1 : (w.setCell ⟨b, o + 1, none⟩ (.bool over)).cell? ⟨b, o, none⟩ = some v0 := by rw [World.cell?_setCell_other _ _ _ _ (by simp)]; exact c0
  have h2 : (w.setCell ⟨b, o + 1, none⟩ (.bool over)).cell? ⟨b, o + 1, none⟩ = some (.bool over) := World.cell?_setCell_same _ _ _ c1
  have h3 := World.cell?_setCell_same (v := v2) _ _ h1
  have h4 := World.cell?_setCell_same (v := .int .u64 n) _ _ h3
  refine ⟨rfl, ?_, ?_, ?_⟩
  · exact (Ext.drew (Ext.drew (Ext.box _ O))).cell h4
  · exact (Ext.drew (Ext.drew (Ext.box _ O))).cell (by rw [World.cell?_setCell_other _ _ _ _ (by simp), World.cell?_setCell_other _ _ _ _ (by simp)]; exact h2)
  · exact ((((((Frm.refl _ _).setCell (.inl ⟨rfl, .inr rfl⟩) _).setCell (.inl ⟨rfl, .inl rfl⟩) _).setCell (.inl ⟨rfl, .inl rfl⟩) _).alloc _).drew).drew

theorem added2 {b o : Nat} {w : World} {n : Int} {v0 v1 : Value} {over : Bool} (O : Obj) (c0 : w.cell? ⟨b, o, none⟩ = some v0) (c1 : w.cell? ⟨b, o + 1, none⟩ = some v1) :
    Added b o n over w (.returned (.tuple #[])) (((w.setCell ⟨b, o + 1, none⟩ (.bool over)).setCell ⟨b, o, none⟩ (.int .u64 n)).alloc O).drew.drew := by
  have hb := World.block_lt_of_cell? _ _ c0
  simp only at hb
  have h1 : (w.setCell ⟨b, o + 1, none⟩ (.bool over)).cell? ⟨b, o, none⟩ = some v0 := by rw [World.cell?_setCell_other _ _ _ _ (by simp)]; exact c0
  have h2 : (w.setCell ⟨b, o + 1, none⟩ (.bool over)).cell? ⟨b, o + 1, none⟩ = some (.bool over) := World.cell?_setCell_same _ _ _ c1
  have h4 := World.cell?_setCell_same (v := .int .u64 n) _ _ h1
  refine ⟨rfl, ?_, ?_, ?_⟩
  · exact (Ext.drew (Ext.drew (Ext.box _ O))).cell h4
  · exact (Ext.drew (Ext.drew (Ext.box _ O))).cell (by rw [World.cell?_setCell_other _ _ _ _ (by simp)]; exact h2)
  · exact (((((Frm.refl _ _).setCell (.inl ⟨rfl, .inr rfl⟩) _).setCell (.inl ⟨rfl, .inl rfl⟩) _).alloc _).drew).drew

set_option maxRecDepth 100000 in
set_option maxHeartbeats 1000000 in
theorem add_over (b o : Nat) (xn yn : Int) (xo yo : Bool) (w : World) (_ : 0 ≤ xn) (_ : xn ≤ 18446744073709551615) (hy0 : 0 ≤ yn) (hy1 : yn ≤ 18446744073709551615)
    (c0 : w.cell? ⟨b, o, none⟩ = some (.int .u64 xn)) (c1 : w.cell? ⟨b, o + 1, none⟩ = some (.bool xo)) (f0 : w.frozen? ⟨b, o, none⟩ = false) (f1 : w.frozen? ⟨b, o + 1, none⟩ = false)
    (hov : xo = true ∨ (xo = false ∧ (yo = true ∨ (yo = false ∧ 18446744073709551615 - yn < xn)))) :
    Calls Tryd.prog 81 #[.pointer (some ⟨b, o, none⟩), .agg #[.int .u64 yn, .bool yo]] w (Added b o 18446744073709551615 true w) := by
  have hb := World.block_lt_of_cell? _ _ c0
  simp only at hb
  rcases hov with rfl | ⟨rfl, rfl | ⟨rfl, hlt⟩⟩
  all_goals
    go_enter Tryd.func81, Tryd.ntmps81
    go_wp2
    go_region
    go_wp2
    go_region
    go_wp2
    go_end0
    exact added3 _ c0 c1

set_option maxRecDepth 100000 in
set_option maxHeartbeats 1000000 in
theorem add_fits (b o : Nat) (xn yn : Int) (w : World) (hx0 : 0 ≤ xn) (hx1 : xn ≤ 18446744073709551615) (hy0 : 0 ≤ yn) (hy1 : yn ≤ 18446744073709551615)
    (c0 : w.cell? ⟨b, o, none⟩ = some (.int .u64 xn)) (c1 : w.cell? ⟨b, o + 1, none⟩ = some (.bool false)) (f0 : w.frozen? ⟨b, o, none⟩ = false) (f1 : w.frozen? ⟨b, o + 1, none⟩ = false)
    (hlt : xn ≤ 18446744073709551615 - yn) :
    Calls Tryd.prog 81 #[.pointer (some ⟨b, o, none⟩), .agg #[.int .u64 yn, .bool false]] w (Added b o (xn + yn) false w) := by
  have hb := World.block_lt_of_cell? _ _ c0
  simp only at hb
  go_enter Tryd.func81, Tryd.ntmps81
  go_wp2
  go_region
  go_wp2
  go_region
  go_wp2
  go_end0
  have e : decide (18446744073709551615 - yn < xn) = false := by simp; omega
  rw [e]
  exact added2 _ c0 c1

theorem add_c {b o x y : Nat} {w : World} (c0 : w.cell? ⟨b, o, none⟩ = some (.int .u64 (sn x))) (c1 : w.cell? ⟨b, o + 1, none⟩ = some (.bool (so x))) (f0 : w.frozen? ⟨b, o, none⟩ = false) (f1 : w.frozen? ⟨b, o + 1, none⟩ = false) :
    Calls Tryd.prog 81 #[.pointer (some ⟨b, o, none⟩), .agg #[.int .u64 (sn y), .bool (so y)]] w (Added b o (sn (x + y)) (so (x + y)) w) := by
  have hx : 0 ≤ sn x ∧ sn x ≤ 18446744073709551615 := by unfold sn; split <;> omega
  have hy : 0 ≤ sn y ∧ sn y ≤ 18446744073709551615 := by unfold sn; split <;> omega
  by_cases hov : x + y < 18446744073709551616
  · have e1 : so x = false := by simp [so]; omega
    have e2 : so y = false := by simp [so]; omega
    have e3 : so (x + y) = false := by simp [so]; omega
    have e4 : sn x = x := by unfold sn; rw [if_pos (by omega)]
    have e5 : sn y = y := by unfold sn; rw [if_pos (by omega)]
    have e6 : sn (x + y) = sn x + sn y := by rw [e4, e5]; unfold sn; rw [if_pos hov]; omega
    rw [e2, e3, e6]
    rw [e1] at c1
    exact add_fits b o _ _ w hx.1 hx.2 hy.1 hy.2 c0 c1 f0 f1 (by rw [e4, e5]; omega)
  · have e3 : so (x + y) = true := by simp [so]; omega
    have e6 : sn (x + y) = 18446744073709551615 := by unfold sn; rw [if_neg hov]
    rw [e3, e6]
    refine add_over b o _ _ _ _ w hx.1 hx.2 hy.1 hy.2 c0 c1 f0 f1 ?_
    by_cases h1 : x < 18446744073709551616
    · right
      refine ⟨by simp [so]; omega, ?_⟩
      by_cases h2 : y < 18446744073709551616
      · right
        refine ⟨by simp [so]; omega, ?_⟩
        unfold sn; rw [if_pos h1, if_pos h2]; omega
      · left; simp [so]; omega
    · left; simp [so]; omega
end Go.Proofs.YtloooajippcdlaaDoor
