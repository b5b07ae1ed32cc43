/- census.Count, Nth, Rank where they refuse; both ends in one form. -/
import Derived.Test.YtloooajippcdlaaDoorCount
import Derived.Test.YtloooajippcdlaaDoorNth
import Derived.Test.YtloooajippcdlaaDoorRank
import Derived.Test.YtloooajippcdlaaDoorTell
import Derived.WalkMore
namespace Go.Proofs.YtloooajippcdlaaDoor
open Go.RowKit

def no14 (a : Nat → Addr) : Value := .tuple #[.int .u64 0, .bool false, .iface 200 (.pointer (some (a 15)))]
def noN14 (a : Nat → Addr) : Value := .tuple #[.slice none 0 0, .bool false, .iface 200 (.pointer (some (a 15)))]

set_option maxRecDepth 100000 in
set_option maxHeartbeats 4000000 in
theorem count_no {w : World} {v : Value} {d : Dn} {label n : Int} {a : Nat → Addr} (h : DenseV w v d) (hno : ¬ (May d ∧ -1 ≤ label ∧ 0 ≤ n ∧ n ≤ 64)) (hS : Sents w a) : Calls Tryd.prog 44 #[v, .int .i64 label, .int .i64 n] w fun e w' => e = .returned (no14 a) ∧ Ext w w' := by
  obtain ⟨an, cn, al, cl, rfl, _⟩ := h.open
  obtain ⟨W, hW⟩ : ∃ W, W = w.alloc (.cells #[.slice an d.next.length cn, .slice al d.label.length cl] 25) := ⟨_, rfl⟩
  have hx : Ext w W := by rw [hW]; exact Ext.box _ _
  have hck := check_c (h.ext hx)
  obtain ⟨m, hm⟩ : ∃ m, m = mayB d := ⟨_, rfl⟩
  rw [← hm] at hck
  have hl : m = true → label < -1 ∨ (¬ label < -1 ∧ n < 0) ∨ (¬ label < -1 ∧ ¬ n < 0 ∧ 64 < n) := fun e => by
    have hd := mayB_true.1 (hm.symm.trans e)
    by_cases h1 : label < -1
    · exact .inl h1
    by_cases h2 : n < 0
    · exact .inr (.inl ⟨h1, h2⟩)
    exact .inr (.inr ⟨h1, h2, by
      rcases Int.lt_or_le 64 n with h3 | h3
      · exact h3
      · exact absurd ⟨hd, by omega, by omega, h3⟩ hno⟩)
  have hg := hx.cell (hS.cell 15 (by omega) (by omega))
  rw [show gl 15 = 0 from rfl] at hg
  unfold no14
  clear h hno hS hm
  generalize a 15 = z at *
  generalize d.next.length = n1 at *
  generalize d.label.length = n2 at *
  have H := Lib.hid (And.intro hck (And.intro hg (And.intro hx hW)))
  clear hck hg hx hW
  cases m
  · clear hl
    go_enter Tryd.func44, Tryd.ntmps44
    go_wp2_with fail
    rw [← H.out.2.2.2]
    refine H.out.1.mono ?_
    rintro e w1 ⟨rfl, hx1⟩
    have g0 := hx1.cell H.out.2.1
    have HX := Lib.hid (H.out.2.2.1.trans hx1)
    clear hx1
    go_wp2_with fail
    go_quiet (fail)
    go_wp2
    go_ret3
    exact ⟨rfl, HX.out.drewN _⟩
  · have hl' := hl rfl
    clear hl
    rcases hl' with k1 | ⟨k1, k2⟩ | ⟨k1, k2, k3⟩
    all_goals
      go_enter Tryd.func44, Tryd.ntmps44
      go_wp2_with fail
      rw [← H.out.2.2.2]
      refine H.out.1.mono ?_
      rintro e w1 ⟨rfl, hx1⟩
      have g0 := hx1.cell H.out.2.1
      have HX := Lib.hid (H.out.2.2.1.trans hx1)
      clear hx1
      go_wp2_with fail
      go_quiet (fail)
      go_wp2
      go_ret3
      exact ⟨rfl, HX.out.drewN _⟩

set_option maxRecDepth 100000 in
set_option maxHeartbeats 4000000 in
theorem nth_no {w : World} {v : Value} {d : Dn} {label : Int} {k : Int} {a : Nat → Addr} (h : DenseV w v d) (hno : ¬ (May d ∧ -1 ≤ label)) (hS : Sents w a) : Calls Tryd.prog 46 #[v, .int .i64 label, .int .u64 k] w fun e w' => e = .returned (noN14 a) ∧ Ext w w' := by
  obtain ⟨an, cn, al, cl, rfl, _⟩ := h.open
  obtain ⟨W, hW⟩ : ∃ W, W = w.alloc (.cells #[.slice an d.next.length cn, .slice al d.label.length cl] 25) := ⟨_, rfl⟩
  have hx : Ext w W := by rw [hW]; exact Ext.box _ _
  have hck := check_c (h.ext hx)
  obtain ⟨m, hm⟩ : ∃ m, m = mayB d := ⟨_, rfl⟩
  rw [← hm] at hck
  have hl : m = true → label < -1 := fun e => by
    have hd := mayB_true.1 (hm.symm.trans e)
    rcases Int.lt_or_le label (-1) with h1 | h1
    · exact h1
    · exact absurd ⟨hd, h1⟩ hno
  have hg := hx.cell (hS.cell 15 (by omega) (by omega))
  rw [show gl 15 = 0 from rfl] at hg
  unfold noN14
  clear h hno hS hm
  generalize a 15 = z at *
  generalize d.next.length = n1 at *
  generalize d.label.length = n2 at *
  have H := Lib.hid (And.intro hck (And.intro hg (And.intro hx hW)))
  clear hck hg hx hW
  cases m
  · clear hl
    go_enter Tryd.func46, Tryd.ntmps46
    go_wp2_with fail
    rw [← H.out.2.2.2]
    refine H.out.1.mono ?_
    rintro e w1 ⟨rfl, hx1⟩
    have g0 := hx1.cell H.out.2.1
    have HX := Lib.hid (H.out.2.2.1.trans hx1)
    clear hx1
    go_wp2_with fail
    go_quiet (fail)
    go_wp2
    go_ret3
    exact ⟨rfl, HX.out.drewN _⟩
  · have hl' := hl rfl
    clear hl
    go_enter Tryd.func46, Tryd.ntmps46
    go_wp2_with fail
    rw [← H.out.2.2.2]
    refine H.out.1.mono ?_
    rintro e w1 ⟨rfl, hx1⟩
    have g0 := hx1.cell H.out.2.1
    have HX := Lib.hid (H.out.2.2.1.trans hx1)
    clear hx1
    go_wp2_with fail
    go_quiet (fail)
    go_wp2
    go_ret3
    exact ⟨rfl, HX.out.drewN _⟩

set_option maxRecDepth 100000 in
set_option maxHeartbeats 4000000 in
theorem rank_no {w : World} {v bv : Value} {d : Dn} {l : List Nat} {label : Int} {a : Nat → Addr} (h : DenseV w v d) (hb : BytesW w bv l) (hno : ¬ (May d ∧ -1 ≤ label ∧ l.length ≤ 64)) (hS : Sents w a) : Calls Tryd.prog 47 #[v, .int .i64 label, bv] w fun e w' => e = .returned (no14 a) ∧ Ext w w' := by
  obtain ⟨an, cn, al, cl, rfl, _⟩ := h.open
  obtain ⟨_, ab, cb, rfl, _, _⟩ := hb.open'
  obtain ⟨L, hL⟩ : ∃ L, L = l.length := ⟨_, rfl⟩
  rw [← hL] at hno ⊢
  clear hL hb
  obtain ⟨W, hW⟩ : ∃ W, W = w.alloc (.cells #[.slice an d.next.length cn, .slice al d.label.length cl] 25) := ⟨_, rfl⟩
  have hx : Ext w W := by rw [hW]; exact Ext.box _ _
  have hck := check_c (h.ext hx)
  obtain ⟨m, hm⟩ : ∃ m, m = mayB d := ⟨_, rfl⟩
  rw [← hm] at hck
  have hl : m = true → label < -1 ∨ (¬ label < -1 ∧ (64 : Int) < L) := fun e => by
    have hd := mayB_true.1 (hm.symm.trans e)
    by_cases h1 : label < -1
    · exact .inl h1
    exact .inr ⟨h1, by
      rcases Nat.lt_or_ge 64 L with h3 | h3
      · omega
      · exact absurd ⟨hd, by omega, h3⟩ hno⟩
  have hg := hx.cell (hS.cell 15 (by omega) (by omega))
  rw [show gl 15 = 0 from rfl] at hg
  unfold no14
  clear h hno hS hm
  generalize a 15 = z at *
  generalize d.next.length = n1 at *
  generalize d.label.length = n2 at *
  have H := Lib.hid (And.intro hck (And.intro hg (And.intro hx hW)))
  clear hck hg hx hW
  cases m
  · clear hl
    go_enter Tryd.func47, Tryd.ntmps47
    go_wp2_with fail
    rw [← H.out.2.2.2]
    refine H.out.1.mono ?_
    rintro e w1 ⟨rfl, hx1⟩
    have g0 := hx1.cell H.out.2.1
    have HX := Lib.hid (H.out.2.2.1.trans hx1)
    clear hx1
    go_wp2_with fail
    go_quiet (fail)
    go_wp2
    go_ret3
    exact ⟨rfl, HX.out.drewN _⟩
  · have hl' := hl rfl
    clear hl
    rcases hl' with k1 | ⟨k1, k2⟩
    all_goals
      go_enter Tryd.func47, Tryd.ntmps47
      go_wp2_with fail
      rw [← H.out.2.2.2]
      refine H.out.1.mono ?_
      rintro e w1 ⟨rfl, hx1⟩
      have g0 := hx1.cell H.out.2.1
      have HX := Lib.hid (H.out.2.2.1.trans hx1)
      clear hx1
      go_wp2_with fail
      go_quiet (fail)
      go_wp2
      go_ret3
      exact ⟨rfl, HX.out.drewN _⟩

/-- Count, at both ends -/
theorem countX_c {w : World} {v : Value} {d : Dn} {label n : Int} {a : Nat → Addr} (h : DenseV w v d) (hS : Sents w a) :
    Calls Tryd.prog 44 #[v, .int .i64 label, .int .i64 n] w fun e w' => e = .returned (open Classical in if May d ∧ -1 ≤ label ∧ 0 ≤ n ∧ n ≤ 64 then .tuple #[.int .u64 (sn (d.ways label n.toNat 0)), .bool (!so (d.ways label n.toNat 0)), .nilIface] else no14 a) ∧ Ext w w' := by
  by_cases hc : May d ∧ -1 ≤ label ∧ 0 ≤ n ∧ n ≤ 64
  · rw [if_pos hc]
    obtain ⟨k, rfl⟩ : ∃ k : Nat, n = k := ⟨n.toNat, by omega⟩
    exact count_c h hc.1 hc.2.1 (by omega)
  · rw [if_neg hc]
    exact count_no h hc hS
end Go.Proofs.YtloooajippcdlaaDoor
