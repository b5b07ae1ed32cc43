/- slices.SortStableFunc of comb's rows: the parts that exchange: swapRange. -/
import Derived.Test.YtpeipjfmibjoiaaDoorSortS
import Derived.Test.YtpeipjfmibjoiaaDoorGrow
import Derived.Deep.QuietTactic
import Derived.BigQuiet
import Derived.BigRegion
namespace Go.Proofs.YtpeipjfmibjoiaaDoor
open Go.RowKit

abbrev cmpF : Value := .func (.func 75) #[] #[]

set_option maxRecDepth 100000 in
set_option maxHeartbeats 1000000 in
theorem cmp_c (x y : RowE) : ∃ r : Int, ∀ w, Calls Tryd.prog 75 #[x.val, y.val] w fun e w' => e = .returned (.int .i64 r) ∧ Ext w w' := by
  obtain ⟨xs, xd, xa, xn, xc⟩ := x
  obtain ⟨ys, yd, ya, yn, yc⟩ := y
  refine ⟨wrap64 ((yn : Int) - (xn : Int)), fun w => ?_⟩
  go_enter Tryd.func75, Tryd.ntmps75
  go_wp2
  go_ret
  exact ⟨rfl, (Ext.box _ _).alloc _⟩

theorem put_at {l : List RowE} {p q : Nat} {x y : RowE} (hx : l[p]? = some x) (hy : l[q]? = some y) : (l.set p y)[q]? = some y := by
  obtain ⟨h1, _⟩ := List.getElem?_eq_some_iff.1 hx
  by_cases e : q = p
  · subst e; exact List.getElem?_set_self h1
  · rw [List.getElem?_set_ne (Ne.symm e)]; exact hy

set_option maxRecDepth 100000 in
set_option maxHeartbeats 4000000 in
theorem swapRange_c {w : World} {g N cap : Nat} {l : List RowE} (he : Elts w g l) (hN : l.length = N) (hN6 : N ≤ 600) {a b n : Nat} (ha : a + n ≤ N) (hb : b + n ≤ N) :
    Calls Tryd.prog 152 #[.slice (some ⟨g, 0, none⟩) N cap, .int .i64 (a : Int), .int .i64 (b : Int), .int .i64 (n : Int), cmpF] w fun e w' => e = .returned (.tuple #[]) ∧ Perm3 w g l w' := by
  have H := Lib.hid (And.intro he hN)
  clear he hN
  go_enter Tryd.func152, Tryd.ntmps152
  go_wp2
  go_loopw [10] (fun iv wr => ∃ i : Nat, i ≤ n ∧ iv = .int .i64 i ∧ Perm3 w g l wr) (fun iv _ => n - (intOf iv).toNat)
  case atStart => exact ⟨0, Nat.zero_le _, rfl, .refl H.out.1⟩
  case round =>
    obtain ⟨i, hi, rfl, hP⟩ := hrel
    by_cases hlt : i < n
    · have hj1 : (i : Int) < n := by omega
      obtain ⟨l1, hp1, he1⟩ := hP.some
      have hlen : l1.length = N := by rw [hp1.length_eq]; exact H.out.2
      obtain ⟨p, hp⟩ : ∃ p, p = a + i := ⟨_, rfl⟩
      obtain ⟨q, hq⟩ : ∃ q, q = b + i := ⟨_, rfl⟩
      obtain ⟨x, hx⟩ : ∃ x, l1[p]? = some x := ⟨_, List.getElem?_eq_getElem (by omega)⟩
      obtain ⟨y, hy⟩ : ∃ y, l1[q]? = some y := ⟨_, List.getElem?_eq_getElem (by omega)⟩
      have hw1 : IntKind.i64.wrap ((a : Int) + (i : Int)) = (p : Int) := (IntWalk.i64_in _ (by omega)).trans (by omega)
      have hw2 : IntKind.i64.wrap ((b : Int) + (i : Int)) = (q : Int) := (IntWalk.i64_in _ (by omega)).trans (by omega)
      have hpN : (p : Int) < N := by omega
      have hqN : (q : Int) < N := by omega
      have x0 := he1.c0 p x hx
      have x1 := he1.c1 p x hx
      have x2 := he1.c2 p x hx
      have y0 := he1.c0 q y hy
      have y1 := he1.c1 q y hy
      have y2 := he1.c2 q y hy
      have fp0 := he1.fz (p * 3)
      have fp1 := he1.fz (p * 3 + 1)
      have fp2 := he1.fz (p * 3 + 2)
      have fq0 := he1.fz (q * 3)
      have fq1 := he1.fz (q * 3 + 1)
      have fq2 := he1.fz (q * 3 + 2)
      have he2 := he1.put (p := p) (by omega) y
      have hy2 := put_at hx hy
      have z0 := he2.c0 q y hy2
      have z1 := he2.c1 q y hy2
      have z2 := he2.c2 q y hy2
      have hS := hP.swap hp1 he1 hx hy
      have HS := Lib.hid (And.intro hS (And.intro hp hq))
      clear hP hp1 he1 hlen hx hy he2 hy2 hS hp hq
      obtain ⟨xs, xd, xa, xn, xc⟩ := x
      obtain ⟨ys, yd, ya, yn, yc⟩ := y
      go_wp2_with fail
      go_region
      go_wp2
      go_roundw
      case rel => exact ⟨i + 1, by omega, by go_num, HS.out.1.ext (by rw [H.out.2]; omega) (Ext.drew (Ext.refl _))⟩
      case measure => simp [intOf]; omega
    · obtain rfl : n = i := by omega
      have HP := Lib.hid hP
      clear hP hlt hi
      go_wp2
      go_end0
      exact ⟨rfl, HP.out⟩

set_option maxRecDepth 100000 in
set_option maxHeartbeats 4000000 in
theorem insertion_c {w : World} {g N cap : Nat} {l : List RowE} (he : Elts w g l) (hN : l.length = N) (hN6 : N ≤ 600) {a b : Nat} (ha : a ≤ 600) (hb : b ≤ N) :
    Calls Tryd.prog 138 #[.slice (some ⟨g, 0, none⟩) N cap, .int .i64 (a : Int), .int .i64 (b : Int), cmpF] w fun e w' => e = .returned (.tuple #[]) ∧ Perm3 w g l w' := by
  have H := Lib.hid (And.intro he hN)
  clear he hN
  go_enter Tryd.func138, Tryd.ntmps138
  go_wp2
  go_loopw [8] (fun iv wr => ∃ i : Nat, a + 1 ≤ i ∧ i ≤ 601 + b ∧ iv = .int .i64 i ∧ Perm3 w g l wr) (fun iv _ => 602 + b - (intOf iv).toNat)
  case atStart => exact ⟨a + 1, Nat.le_refl _, by omega, by go_num, .refl H.out.1⟩
  case round =>
    obtain ⟨i, hai, hi, rfl, hP⟩ := hrel
    by_cases hlt : i < b
    · have hj1 : (i : Int) < b := by omega
      have HP := Lib.hid hP
      have hpos : 0 < l.length := by rw [H.out.2]; omega
      clear hP
      go_wp2
      go_loopw [9] (fun jv wi => ∃ j : Nat, a ≤ j ∧ j ≤ i ∧ jv = .int .i64 j ∧ Perm3 w g l wi) (fun jv _ => (intOf jv).toNat)
      case atStart => exact ⟨i, by omega, Nat.le_refl _, rfl, HP.out⟩
      case round =>
        clear HP
        rename World => wi
        obtain ⟨j, haj, hji, rfl, hP⟩ := hrel
        by_cases hja : a < j
        · have hj2 : (a : Int) < j := by omega
          obtain ⟨l1, hp1, he1⟩ := hP.some
          have hlen : l1.length = N := by rw [hp1.length_eq]; exact H.out.2
          obtain ⟨q, hq⟩ : ∃ q, q = j - 1 := ⟨_, rfl⟩
          obtain ⟨x, hx⟩ : ∃ x, l1[j]? = some x := ⟨_, List.getElem?_eq_getElem (by omega)⟩
          obtain ⟨y, hy⟩ : ∃ y, l1[q]? = some y := ⟨_, List.getElem?_eq_getElem (by omega)⟩
          have hw1 : IntKind.i64.wrap ((j : Int) - 1) = (q : Int) := (IntWalk.i64_in _ (by omega)).trans (by omega)
          have hpN : (j : Int) < N := by omega
          have hqN : (q : Int) < N := by omega
          obtain ⟨r, hcmp⟩ := cmp_c x y
          have hpos1 : 0 < l1.length := by omega
          have x0 := fun z => (grow_ext wi z).cell (he1.c0 j x hx)
          have x1 := fun z => (grow_ext wi z).cell (he1.c1 j x hx)
          have x2 := fun z => (grow_ext wi z).cell (he1.c2 j x hx)
          have y0 := fun z => (grow_ext wi z).cell (he1.c0 q y hy)
          have y1 := fun z => (grow_ext wi z).cell (he1.c1 q y hy)
          have y2 := fun z => (grow_ext wi z).cell (he1.c2 q y hy)
          obtain ⟨xs, xd, xa, xn, xc⟩ := x
          obtain ⟨ys, yd, ya, yn, yc⟩ := y
          have HE := Lib.hid (And.intro hP (And.intro hp1 (And.intro he1 (And.intro hlen (And.intro hx (And.intro hy (And.intro hq hcmp)))))))
          clear hP hp1 he1 hlen hx hy hq hcmp
          by_cases hr : r < 0
          · have hr' : decide (r < 0) = true := by simpa using hr
            go_wp2_with fail
            refine wp_region_grow (by kernel_rfl) (by kernel_rfl) ?_
            repeat (go_big_quiet_step ((go_at_call 75; with_reducible exact calls_grow (HE.out.2.2.2.2.2.2.2 _))))
            refine wpQuiet_nil ?_
            rintro _ ⟨z, rfl⟩
            clear x0 x1 x2 y0 y1 y2
            obtain ⟨W, hW⟩ : ∃ W, W = growW wi z := ⟨_, rfl⟩
            have hx : Ext wi W := by rw [hW]; exact grow_ext wi z
            rw [← hW]
            clear hW
            have hP2 := HE.out.1.ext hpos hx
            have he2 := HE.out.2.2.1.ext hpos1 hx
            have x0 := he2.c0 j _ HE.out.2.2.2.2.1
            have x1 := he2.c1 j _ HE.out.2.2.2.2.1
            have x2 := he2.c2 j _ HE.out.2.2.2.2.1
            have y0 := he2.c0 q _ HE.out.2.2.2.2.2.1
            have y1 := he2.c1 q _ HE.out.2.2.2.2.2.1
            have y2 := he2.c2 q _ HE.out.2.2.2.2.2.1
            have fp0 := he2.fz (j * 3)
            have fp1 := he2.fz (j * 3 + 1)
            have fp2 := he2.fz (j * 3 + 2)
            have fq0 := he2.fz (q * 3)
            have fq1 := he2.fz (q * 3 + 1)
            have fq2 := he2.fz (q * 3 + 2)
            have he3 := he2.put (p := j) (by have := HE.out.2.2.2.1; omega) ⟨ys, yd, ya, yn, yc⟩
            have hy2 := put_at HE.out.2.2.2.2.1 HE.out.2.2.2.2.2.1
            have z0 := he3.c0 q _ hy2
            have z1 := he3.c1 q _ hy2
            have z2 := he3.c2 q _ hy2
            have HS := Lib.hid (hP2.swap HE.out.2.1 he2 HE.out.2.2.2.2.1 HE.out.2.2.2.2.2.1)
            clear hP2 he2 he3 hy2 hx
            go_wp2_with fail
            go_region
            clear x0 x1 x2 y0 y1 y2 fp0 fp1 fp2 fq0 fq1 fq2 z0 z1 z2
            go_wp2
            go_roundw
            case rel => exact ⟨q, by have := HE.out.2.2.2.2.2.2.1; omega, by have := HE.out.2.2.2.2.2.2.1; omega, by go_num, HS.out.ext hpos (Ext.drew (Ext.refl _))⟩
            case measure => have := HE.out.2.2.2.2.2.2.1; simp [intOf]; omega
          · have hr' : decide (r < 0) = false := by simpa using hr
            go_wp2_with fail
            refine wp_region_grow (by kernel_rfl) (by kernel_rfl) ?_
            repeat (go_big_quiet_step ((go_at_call 75; with_reducible exact calls_grow (HE.out.2.2.2.2.2.2.2 _))))
            refine wpQuiet_nil ?_
            rintro _ ⟨z, rfl⟩
            clear x0 x1 x2 y0 y1 y2
            obtain ⟨W, hW⟩ : ∃ W, W = growW wi z := ⟨_, rfl⟩
            have hx : Ext wi W := by rw [hW]; exact grow_ext wi z
            rw [← hW]
            clear hW
            have HS := Lib.hid (HE.out.1.ext hpos hx)
            clear hx
            go_wp2
            go_roundw
            case rel => exact ⟨i + 1, by omega, by omega, by go_num, HS.out⟩
            case measure => simp [intOf]; omega
        · obtain rfl : a = j := by omega
          have HS := Lib.hid hP
          have hj2 : decide ((a : Int) > a) = false := by simp
          clear hP
          go_wp2_with fail
          go_quiet (fail)
          go_wp2
          go_roundw
          case rel => exact ⟨i + 1, by omega, by omega, by go_num, HS.out.ext hpos ((Ext.refl _).drewN _)⟩
          case measure => simp [intOf]; omega
    · have hj1 : ¬ (i : Int) < b := by omega
      have HP := Lib.hid hP
      clear hP
      go_wp2
      go_end0
      exact ⟨rfl, HP.out⟩
end Go.Proofs.YtpeipjfmibjoiaaDoor
