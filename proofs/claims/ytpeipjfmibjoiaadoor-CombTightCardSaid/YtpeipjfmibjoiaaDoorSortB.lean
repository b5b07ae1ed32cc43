/- slices.SortStableFunc of comb's rows: rotate. -/
import Derived.Test.YtpeipjfmibjoiaaDoorSortA
namespace Go.Proofs.YtpeipjfmibjoiaaDoor
open Go.RowKit

set_option maxRecDepth 100000 in
set_option maxHeartbeats 4000000 in
theorem rotate_c {w : World} {g N cap : Nat} {l : List RowE} (he : Elts w g l) (hN : l.length = N) (hN6 : N ≤ 600) {a m b : Nat} (h1 : a < m) (h2 : m < b) (hb : b ≤ N) :
    Calls Tryd.prog 147 #[.slice (some ⟨g, 0, none⟩) N cap, .int .i64 (a : Int), .int .i64 (m : Int), .int .i64 (b : Int), cmpF] w fun e w' => e = .returned (.tuple #[]) ∧ Perm3 w g l w' := by
  have H := Lib.hid (And.intro he hN)
  clear he hN
  go_enter Tryd.func147, Tryd.ntmps147
  go_wp2
  go_loopw [10, 11] (fun iv jv wr => ∃ i j : Nat, 1 ≤ i ∧ 1 ≤ j ∧ i ≤ m ∧ m + j ≤ b ∧ iv = .int .i64 i ∧ jv = .int .i64 j ∧ Perm3 w g l wr) (fun iv jv _ => (intOf iv).toNat + (intOf jv).toNat)
  case atStart => exact ⟨m - a, b - m, by omega, by omega, by omega, by omega, congrArg (Value.int .i64) (by omega), congrArg (Value.int .i64) (by omega), .refl H.out.1⟩
  case round =>
    obtain ⟨i, j, hi, hj, him, hjb, rfl, rfl, hP⟩ := hrel
    obtain ⟨l1, hp1, he1⟩ := hP.some
    have hlen : l1.length = N := by rw [hp1.length_eq]; exact H.out.2
    obtain ⟨p, hp⟩ : ∃ p, p = m - i := ⟨_, rfl⟩
    have hw1 : IntKind.i64.wrap ((m : Int) - (i : Int)) = (p : Int) := (IntWalk.i64_in _ (by omega)).trans (by omega)
    by_cases hij : i = j
    · subst hij
      have hne : ((i : Int) != (i : Int)) = false := by simp
      have hc := swapRange_c (cap := cap) he1 hlen hN6 (a := p) (b := m) (n := i) (by omega) (by omega)
      have HC := Lib.hid (And.intro hc (And.intro hP (And.intro hp1 hp)))
      clear hc hP hp1 he1 hp hlen
      go_wp2_with fail
      refine HC.out.1.mono ?_
      rintro e w2 ⟨rfl, hq⟩
      have hP2 : Perm3 w g l w2 := by
        obtain ⟨⟨l2, hp2, he2⟩, hf⟩ := hq
        exact ⟨⟨l2, hp2.trans HC.out.2.2.1, he2⟩, HC.out.2.1.frm.trans hf⟩
      have HP := Lib.hid hP2
      clear hP2 hq
      go_wp2
      go_end0
      exact ⟨rfl, HP.out⟩
    · have hne : ((i : Int) != (j : Int)) = true := by rw [bne_iff_ne]; omega
      by_cases hlt : j < i
      · have hlt' : (j : Int) < i := by omega
        have hc := swapRange_c (cap := cap) he1 hlen hN6 (a := p) (b := m) (n := j) (by omega) (by omega)
        have HC := Lib.hid (And.intro hc (And.intro hP (And.intro hp1 hp)))
        clear hc hP hp1 he1 hp hlen hij
        go_wp2_with fail
        refine HC.out.1.mono ?_
        rintro e w2 ⟨rfl, hq⟩
        have hP2 : Perm3 w g l w2 := by
          obtain ⟨⟨l2, hp2, he2⟩, hf⟩ := hq
          exact ⟨⟨l2, hp2.trans HC.out.2.2.1, he2⟩, HC.out.2.1.frm.trans hf⟩
        have HP := Lib.hid hP2
        clear hP2 hq
        go_wp2
        go_roundw
        case rel => exact ⟨i - j, j, by omega, by omega, by omega, by omega, congrArg (Value.int .i64) (by omega), rfl, HP.out⟩
        case measure => simp [intOf]; omega
      · have hlt' : ¬ (j : Int) < i := by omega
        obtain ⟨q, hq⟩ : ∃ q, q = m + j - i := ⟨_, rfl⟩
        have hw2 : IntKind.i64.wrap ((m : Int) + (j : Int) - (i : Int)) = (q : Int) := (IntWalk.i64_in _ (by omega)).trans (by omega)
        have hc := swapRange_c (cap := cap) he1 hlen hN6 (a := p) (b := q) (n := i) (by omega) (by omega)
        have HC := Lib.hid (And.intro hc (And.intro hP (And.intro hp1 (And.intro hp hq))))
        clear hc hP hp1 he1 hp hlen hq
        go_wp2_with fail
        refine HC.out.1.mono ?_
        rintro e w2 ⟨rfl, hq⟩
        have hP2 : Perm3 w g l w2 := by
          obtain ⟨⟨l2, hp2, he2⟩, hf⟩ := hq
          exact ⟨⟨l2, hp2.trans HC.out.2.2.1, he2⟩, HC.out.2.1.frm.trans hf⟩
        have HP := Lib.hid hP2
        clear hP2 hq
        go_wp2
        go_roundw
        case rel => exact ⟨i, j - i, by omega, by omega, by omega, by omega, rfl, congrArg (Value.int .i64) (by omega), HP.out⟩
        case measure => simp [intOf]; omega
end Go.Proofs.YtpeipjfmibjoiaaDoor
