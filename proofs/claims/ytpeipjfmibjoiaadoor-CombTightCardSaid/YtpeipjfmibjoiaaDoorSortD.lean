/- slices.SortStableFunc of comb's rows: it puts them into some order, and writes nothing else. -/
import Derived.Test.YtpeipjfmibjoiaaDoorSortC
namespace Go.Proofs.YtpeipjfmibjoiaaDoor
open Go.RowKit

set_option maxRecDepth 100000 in
set_option maxHeartbeats 8000000 in
theorem stable_c {w : World} {g N cap : Nat} {l : List RowE} (he : Elts w g l) (hN : l.length = N) (h0 : 0 < N) (hN6 : N ≤ 600) :
    Calls Tryd.prog 119 #[.slice (some ⟨g, 0, none⟩) N cap, .int .i64 (N : Int), cmpF] w fun e w' => e = .returned (.tuple #[]) ∧ Perm3 w g l w' := by
  have hpos : 0 < l.length := by omega
  have H := Lib.hid (And.intro he hN)
  clear he hN
  go_enter Tryd.func119, Tryd.ntmps119
  go_wp2
  go_loopw [7, 8] (fun av bv wi => ∃ a : Nat, a ≤ N ∧ av = .int .i64 a ∧ bv = .int .i64 ((a + 20 : Nat) : Int) ∧ Perm3 w g l wi) (fun av _ _ => N - (intOf av).toNat)
  case atStart => exact ⟨0, Nat.zero_le _, rfl, rfl, .refl H.out.1⟩
  case round =>
    rename World => wi
    obtain ⟨a, ha, rfl, rfl, hP⟩ := hrel
    obtain ⟨l1, hp1, he1⟩ := hP.some
    have hlen : l1.length = N := by rw [hp1.length_eq]; exact H.out.2
    obtain ⟨b, hb⟩ : ∃ b, b = a + 20 := ⟨_, rfl⟩
    rw [← hb]
    by_cases hlt : b ≤ N
    · have hlt' : (b : Int) ≤ N := by omega
      have hc := insertion_c (cap := cap) he1 hlen hN6 (a := a) (b := b) (by omega) hlt
      have HC := Lib.hid (And.intro hc (And.intro hP hp1))
      have hb1 : a + 20 ≤ b := by omega
      have hb2 : b ≤ a + 20 := by omega
      clear hc hP hp1 he1 hlen hb
      go_wp2_with fail
      refine HC.out.1.mono ?_
      rintro e w2 ⟨rfl, hq⟩
      have HP := Lib.hid (HC.out.2.1.after HC.out.2.2 hq)
      clear hq
      go_wp2
      go_roundw
      case rel => exact ⟨b, hlt, rfl, by go_num, HP.out⟩
      case measure => simp [intOf]; omega
    · have hlt' : ¬ (b : Int) ≤ N := by omega
      have hc := insertion_c (cap := cap) he1 hlen hN6 (a := a) (b := N) (by omega) (Nat.le_refl _)
      have HC := Lib.hid (And.intro hc (And.intro hP hp1))
      clear hc hP hp1 he1 hlen hb
      go_wp2_with fail
      refine HC.out.1.mono ?_
      rintro e w2 ⟨rfl, hq⟩
      have HP := Lib.hid (HC.out.2.1.after HC.out.2.2 hq)
      clear hq hlt hlt' ha HC
      go_wp2
      go_loopw [6] (fun sv wi => ∃ s : Nat, 20 ≤ s ∧ s ≤ 1200 ∧ sv = .int .i64 s ∧ Perm3 w g l wi) (fun sv _ => 1201 - (intOf sv).toNat)
      case atStart => exact ⟨20, Nat.le_refl _, by omega, rfl, HP.out⟩
      case round =>
        clear HP
        rename World => wj
        obtain ⟨s, hs1, hs2, rfl, hP⟩ := hrel
        by_cases hlt : s < N
        · have hlt' : (s : Int) < N := by omega
          have HP := Lib.hid hP
          clear hP
          go_wp2
          go_loopw [7, 8] (fun av bv wk => ∃ a b : Nat, a ≤ N ∧ a + 2 * s ≤ b ∧ b ≤ a + 2 * s ∧ av = .int .i64 a ∧ bv = .int .i64 b ∧ Perm3 w g l wk) (fun av _ _ => N - (intOf av).toNat)
          case atStart => exact ⟨0, 2 * s, Nat.zero_le _, by omega, by omega, rfl, first_int (by omega), HP.out⟩
          case round =>
            clear HP
            rename World => wk
            obtain ⟨a, b, ha, hb1, hb2, rfl, rfl, hP⟩ := hrel
            obtain ⟨l1, hp1, he1⟩ := hP.some
            have hlen : l1.length = N := by rw [hp1.length_eq]; exact H.out.2
            obtain ⟨m, hm⟩ : ∃ m, m = a + s := ⟨_, rfl⟩
            have hmm : (a : Int) + (s : Int) = (m : Int) := by omega
            have hm1 : m ≤ a + s := by omega
            have hm2 : a + s ≤ m := by omega
            clear hm
            by_cases hbn : b ≤ N
            · have hbn' : (b : Int) ≤ N := by omega
              have hc := symMerge_all N g cap hN6 (b - a) wk l1 he1 hlen a m b (by omega) (by omega) hbn (Nat.le_refl _)
              have HC := Lib.hid (And.intro hc (And.intro hP hp1))
              clear hc hP hp1 he1 hlen
              go_wp2_with fail
              refine HC.out.1.mono ?_
              rintro e w2 ⟨rfl, hq⟩
              have HP := Lib.hid (HC.out.2.1.after HC.out.2.2 hq)
              clear hq
              go_wp2
              go_roundw
              case rel => exact ⟨b, b + 2 * s, by omega, by omega, by omega, rfl, first_int (by omega), HP.out⟩
              case measure => simp [intOf]; omega
            · have hbn' : ¬ (b : Int) ≤ N := by omega
              by_cases hmn : m < N
              · have hmn' : (m : Int) < N := by omega
                have hc := symMerge_all N g cap hN6 (N - a) wk l1 he1 hlen a m N (by omega) hmn (Nat.le_refl _) (Nat.le_refl _)
                have HC := Lib.hid (And.intro hc (And.intro hP hp1))
                clear hc hP hp1 he1 hlen
                go_wp2_with fail
                refine HC.out.1.mono ?_
                rintro e w2 ⟨rfl, hq⟩
                have HP := Lib.hid (HC.out.2.1.after HC.out.2.2 hq)
                clear hq
                go_wp2
                go_roundw
                case rel => exact ⟨s * 2, by omega, by omega, first_int (by omega), HP.out⟩
                case measure => simp [intOf]; omega
              · have hmn' : ¬ (m : Int) < N := by omega
                have HP := Lib.hid hP
                clear hP hp1 he1 hlen
                go_wp2
                go_roundw
                case rel => exact ⟨s * 2, by omega, by omega, first_int (by omega), HP.out⟩
                case measure => simp [intOf]; omega
        · have hlt' : ¬ (s : Int) < N := by omega
          have HP := Lib.hid hP
          clear hP
          go_wp2
          go_end0
          exact ⟨rfl, HP.out⟩

set_option maxRecDepth 100000 in
set_option maxHeartbeats 1000000 in
theorem sortStable_c {w : World} {g N cap : Nat} {l : List RowE} (he : Elts w g l) (hN : l.length = N) (h0 : 0 < N) (hN6 : N ≤ 600) :
    Calls Tryd.prog 74 #[.slice (some ⟨g, 0, none⟩) N cap, cmpF] w fun e w' => e = .returned (.tuple #[]) ∧ Perm3 w g l w' := by
  have HC := Lib.hid (stable_c (cap := cap) he hN h0 hN6)
  clear he hN
  go_enter Tryd.func74, Tryd.ntmps74
  go_wp2_with fail
  refine HC.out.mono ?_
  rintro e w2 ⟨rfl, hq⟩
  have HP := Lib.hid hq
  clear hq
  go_wp2
  go_end0
  exact ⟨rfl, HP.out⟩
end Go.Proofs.YtpeipjfmibjoiaaDoor
