/- Tables of any make, as data and in memory; may one be? No walk here. -/
import Derived.Test.YtloooajippcdlaaDoorBase
import Derived.Test.YtloooajippcdlaaDoorOwn
import Derived.Test.YtloooajippcdlaaDoorCheck
import Derived.Deep.QuietTactic
import Derived.BigQuiet
namespace Go.Proofs.YtloooajippcdlaaDoor
open Go.RowKit

structure Tbl where
  classes : List Int
  count : Int
  starts : List Int
  next : List (List Int)
  label : List Int

/-- so many classes have been met -/
def topc (l : List Int) : Nat → Nat
  | 0 => 0
  | i + 1 => topc l i + if l.getD i 0 = (topc l i : Nat) then 1 else 0
theorem topc_le (l : List Int) : ∀ i, topc l i ≤ i
  | 0 => Nat.le_refl _
  | i + 1 => by have := topc_le l i; simp only [topc]; split <;> omega
theorem topc_mono (l : List Int) {a b : Nat} (h : a ≤ b) : topc l a ≤ topc l b := by
  induction b with
  | zero => obtain rfl : a = 0 := by omega
            exact Nat.le_refl _
  | succ b ih =>
    by_cases e : a = b + 1
    · subst e; exact Nat.le_refl _
    · have := ih (by omega); simp only [topc]; omega
theorem topc_yes {l : List Int} {i : Nat} (h : l.getD i 0 = (topc l i : Nat)) : topc l (i + 1) = topc l i + 1 := by simp only [topc, if_pos h]
theorem topc_no {l : List Int} {i : Nat} (h : ¬ l.getD i 0 = (topc l i : Nat)) : topc l (i + 1) = topc l i := by simp only [topc, if_neg h]; rfl

structure ClsOk (l : List Int) (count : Int) : Prop where
  len : l.length = 256
  step : ∀ i, i < 256 → 0 ≤ l.getD i 0 ∧ l.getD i 0 ≤ (topc l i : Nat)
  all : ((topc l 256 : Nat) : Int) = count
noncomputable def clsB (l : List Int) (count : Int) : Bool := @decide (ClsOk l count) (Classical.propDecidable _)
theorem clsB_true {l : List Int} {c : Int} : clsB l c = true ↔ ClsOk l c := by simp [clsB]
theorem clsB_false {l : List Int} {c : Int} (h : ¬ ClsOk l c) : clsB l c = false := by simp [clsB, h]
theorem ClsOk.low {l : List Int} {c : Int} (h : ClsOk l c) {i : Nat} (hi : i < 256) : l.getD i 0 < c := by
  have h1 := h.step i hi
  have h2 := topc_mono l (a := i + 1) (b := 256) hi
  have h3 := h.all
  by_cases e : l.getD i 0 = (topc l i : Nat)
  · rw [topc_yes e] at h2; omega
  · have := topc_mono l (a := i) (b := 256) (by omega); omega

structure TMay (T : Tbl) : Prop where
  cls : ClsOk T.classes T.count
  some : 1 ≤ T.starts.length
  many : T.starts.length ≤ 16
  pos : 1 ≤ T.next.length
  most : T.next.length ≤ 600
  labels : T.label.length = T.next.length
  start : ∀ i, i < T.starts.length → 0 ≤ T.starts.getD i 0 ∧ T.starts.getD i 0 < T.next.length
  row : ∀ i, i < T.next.length → ((T.next.getD i []).length : Int) = T.count
  label : ∀ i, i < T.next.length → -1 ≤ T.label.getD i 0 ∧ T.label.getD i 0 < 200
  dest : ∀ i k, i < T.next.length → k < (T.next.getD i []).length → -1 ≤ (T.next.getD i []).getD k 0 ∧ (T.next.getD i []).getD k 0 < T.next.length
noncomputable def mayT (T : Tbl) : Bool := @decide (TMay T) (Classical.propDecidable _)
theorem mayT_true {T : Tbl} : mayT T = true ↔ TMay T := by simp [mayT]
theorem mayT_false {T : Tbl} (h : ¬ TMay T) : mayT T = false := by simp [mayT, h]

/-- as it lies in memory -/
def TblV (w : World) (v : Value) (T : Tbl) : Prop :=
  ∃ cv sv nv lv, v = .agg #[cv, .int .i64 T.count, sv, nv, lv] ∧ Ints w cv T.classes ∧ Ints w sv T.starts ∧ RowsV w nv T.next ∧ Ints w lv T.label
theorem TblV.ext {w w' : World} {v : Value} {T : Tbl} (h : TblV w v T) (hx : Ext w w') : TblV w' v T := by
  obtain ⟨cv, sv, nv, lv, h1, h2, h3, h4, h5⟩ := h
  exact ⟨cv, sv, nv, lv, h1, IntsK.ext hx h2, IntsK.ext hx h3, RowsV.ext hx h4, IntsK.ext hx h5⟩

structure TblO (w : World) (ac sa an al : Option Addr) (T : Tbl) : Prop where
  lc : T.classes.length ≤ 140737488355328
  ls : T.starts.length ≤ 140737488355328
  ln : T.next.length ≤ 140737488355328
  ll : T.label.length ≤ 140737488355328
  start : 0 < T.starts.length → ∃ b o, sa = some ⟨b, o, none⟩ ∧ ∀ i, i < T.starts.length → w.cell? ⟨b, o + i, none⟩ = some (.int .i64 (T.starts.getD i 0))
  next : 0 < T.next.length → ∃ b o, an = some ⟨b, o, none⟩ ∧ ∀ i, i < T.next.length → ∃ r, w.cell? ⟨b, o + i, none⟩ = some r ∧ Ints w r (T.next.getD i [])
  label : 0 < T.label.length → ∃ b o, al = some ⟨b, o, none⟩ ∧ ∀ i, i < T.label.length → w.cell? ⟨b, o + i, none⟩ = some (.int .i64 (T.label.getD i 0))
theorem TblV.open {w : World} {v : Value} {T : Tbl} (h : TblV w v T) : ∃ ac cc sa sc an nc al lc, v = .agg #[.slice ac T.classes.length cc, .int .i64 T.count, .slice sa T.starts.length sc, .slice an T.next.length nc, .slice al T.label.length lc] ∧
    Ints w (.slice ac T.classes.length cc) T.classes ∧ TblO w ac sa an al T := by
  obtain ⟨cv, sv, nv, lv, rfl, h2, h3, h4, h5⟩ := h
  obtain ⟨e1, ac, cc, rfl, _, _⟩ := IntsK.open h2
  obtain ⟨e2, sa, sc, rfl, _, g2⟩ := IntsK.open h3
  obtain ⟨e3, an, nc, rfl, _, g3⟩ := RowsV.open h4
  obtain ⟨e4, al, lc, rfl, _, g4⟩ := IntsK.open h5
  exact ⟨ac, cc, sa, sc, an, nc, al, lc, rfl, h2, ⟨e1, e2, e3, e4, g2, g3, g4⟩⟩

/-- what is asked ahead of the loops -/
def TblHead (T : Tbl) : Prop := 1 ≤ T.starts.length ∧ T.starts.length ≤ 16 ∧ 1 ≤ T.next.length ∧ T.next.length ≤ 600 ∧ T.label.length = T.next.length
theorem TMay.head {T : Tbl} (h : TMay T) : TblHead T := ⟨h.some, h.many, h.pos, h.most, h.labels⟩
end Go.Proofs.YtloooajippcdlaaDoor
