/- slices.SortStableFunc of comb's rows: it puts them into some order, and writes nothing else. -/
import Derived.Test.YtpeipjfmibjoiaaDoorSortA
namespace Go.Proofs.YtpeipjfmibjoiaaDoor
open Go.RowKit

set_option maxRecDepth 100000 in
set_option maxHeartbeats 4000000 in
theorem rotate_c {w : World} {g N cap : Nat} {l : List RowE} (he : Elts w g l) (hN : l.length = N) (hN6 : N ≤ 600) {a m b : Nat} (h1 : a < m) (h2 : m < b) (hb : b ≤ N) :
    Calls Tryd.prog 147 #[.slice (some ⟨g, 0, none⟩) N cap, .int .i64 (a : Int), .int .i64 (m : Int), .int .i64 (b : Int), cmpF] w fun e w' => e = .returned (.tuple #[]) ∧ Perm3 w g l w' := by
  have H := Lib.hid (And.intro he hN)
  clear he hN
  go_enter Tryd.func147, Tryd.ntmps147
  go_wp2
  go_loopw [10, 11] (fun iv jv wr => ∃ i j : Nat, 1 ≤ i ∧ 1 ≤ j ∧ i ≤ m ∧ m + j ≤ b ∧ iv = .int .i64 i ∧ jv = .int .i64 j ∧ Perm3 w g l wr) (fun iv jv _ => (intOf iv).toNat + (intOf jv).toNat)
  case atStart => exact ⟨m - a, b - m, by omega, by omega, by omega, by omega, congrArg (Value.int .i64) (by omega), congrArg (Value.int .i64) (by omega), .refl H.out.1⟩
  case round =>
    obtain ⟨i, j, hi, hj, him, hjb, rfl, rfl, hP⟩ := hrel
    obtain ⟨l1, hp1, he1⟩ := hP.some
    have hlen : l1.length = N := by rw [hp1.length_eq]; exact H.out.2
    obtain ⟨p, hp⟩ : ∃ p, p = m - i := ⟨_, rfl⟩
    have hw1 : IntKind.i64.wrap ((m : Int) - (i : Int)) = (p : Int) := (IntWalk.i64_in _ (by omega)).trans (by omega)
    by_cases hij : i = j
    · subst hij
      have hne : ((i : Int) != (i : Int)) = false := by simp
      have hc := swapRange_c (cap := cap) he1 hlen hN6 (a := p) (b := m) (n := i) (by omega) (by omega)
      have HC := Lib.hid (And.intro hc (And.intro hP (And.intro hp1 hp)))
      clear hc hP hp1 he1 hp hlen
      go_wp2_with fail
      refine HC.out.1.mono ?_
      rintro e w2 ⟨rfl, hq⟩
      have hP2 : Perm3 w g l w2 := by
        obtain ⟨⟨l2, hp2, he2⟩, hf⟩ := hq
        exact ⟨⟨l2, hp2.trans HC.out.2.2.1, he2⟩, HC.out.2.1.frm.trans hf⟩
      have HP := Lib.hid hP2
      clear hP2 hq
      go_wp2
      go_end0
      exact ⟨rfl, HP.out⟩
    · have hne : ((i : Int) != (j : Int)) = true := by rw [bne_iff_ne]; omega
      by_cases hlt : j < i
      · have hlt' : (j : Int) < i := by omega
        have hc := swapRange_c (cap := cap) he1 hlen hN6 (a := p) (b := m) (n := j) (by omega) (by omega)
        have HC := Lib.hid (And.intro hc (And.intro hP (And.intro hp1 hp)))
        clear hc hP hp1 he1 hp hlen hij
        go_wp2_with fail
        refine HC.out.1.mono ?_
        rintro e w2 ⟨rfl, hq⟩
        have hP2 : Perm3 w g l w2 := by
          obtain ⟨⟨l2, hp2, he2⟩, hf⟩ := hq
          exact ⟨⟨l2, hp2.trans HC.out.2.2.1, he2⟩, HC.out.2.1.frm.trans hf⟩
        have HP := Lib.hid hP2
        clear hP2 hq
        go_wp2
        go_roundw
        case rel => exact ⟨i - j, j, by omega, by omega, by omega, by omega, congrArg (Value.int .i64) (by omega), rfl, HP.out⟩
        case measure => simp [intOf]; omega
      · have hlt' : ¬ (j : Int) < i := by omega
        obtain ⟨q, hq⟩ : ∃ q, q = m + j - i := ⟨_, rfl⟩
        have hw2 : IntKind.i64.wrap ((m : Int) + (j : Int) - (i : Int)) = (q : Int) := (IntWalk.i64_in _ (by omega)).trans (by omega)
        have hc := swapRange_c (cap := cap) he1 hlen hN6 (a := p) (b := q) (n := i) (by omega) (by omega)
        have HC := Lib.hid (And.intro hc (And.intro hP (And.intro hp1 (And.intro hp hq))))
        clear hc hP hp1 he1 hp hlen hq
        go_wp2_with fail
        refine HC.out.1.mono ?_
        rintro e w2 ⟨rfl, hq⟩
        have hP2 : Perm3 w g l w2 := by
          obtain ⟨⟨l2, hp2, he2⟩, hf⟩ := hq
          exact ⟨⟨l2, hp2.trans HC.out.2.2.1, he2⟩, HC.out.2.1.frm.trans hf⟩
        have HP := Lib.hid hP2
        clear hP2 hq
        go_wp2
        go_roundw
        case rel => exact ⟨i, j - i, by omega, by omega, by omega, by omega, rfl, congrArg (Value.int .i64) (by omega), HP.out⟩
        case measure => simp [intOf]; omega
end Go.Proofs.YtpeipjfmibjoiaaDoor

namespace Go.Proofs.YtpeipjfmibjoiaaDoor
open Go.RowKit

theorem Perm3.after {w w1 w2 : World} {g : Nat} {l l1 : List RowE} (h : Perm3 w g l w1) (hp : l1.Perm l) (k : Perm3 w1 g l1 w2) : Perm3 w g l w2 := by
  obtain ⟨⟨l2, hp2, he2⟩, hf⟩ := k
  exact ⟨⟨l2, hp2.trans hp, he2⟩, h.frm.trans hf⟩

/-- the contract of symMerge, at intervals of at most f -/
def MergesTo (f g N cap : Nat) : Prop := ∀ (w : World) (l : List RowE) (_ : Elts w g l) (_ : l.length = N) (a m b : Nat) (_ : a < m) (_ : m < b) (_ : b ≤ N) (_ : b - a ≤ f),
    Calls Tryd.prog 139 #[.slice (some ⟨g, 0, none⟩) N cap, .int .i64 (a : Int), .int .i64 (m : Int), .int .i64 (b : Int), cmpF] w fun e w' => e = .returned (.tuple #[]) ∧ Perm3 w g l w'

set_option maxRecDepth 100000 in
set_option maxHeartbeats 4000000 in
theorem merge_left {w : World} {g N cap : Nat} {l : List RowE} (he : Elts w g l) (hN : l.length = N) (hN6 : N ≤ 600) {a m b : Nat} (h1 : a < m) (h2 : m < b) (hb : b ≤ N) (c1 : m = a + 1) :
    Calls Tryd.prog 139 #[.slice (some ⟨g, 0, none⟩) N cap, .int .i64 (a : Int), .int .i64 (m : Int), .int .i64 (b : Int), cmpF] w fun e w' => e = .returned (.tuple #[]) ∧ Perm3 w g l w' := by
  have H := Lib.hid (And.intro he (And.intro hN c1))
  have hpos : 0 < l.length := by omega
  have e1 : ((m : Int) - (a : Int) == 1) = true := by simp; omega
  clear he hN c1
  go_enter Tryd.func139, Tryd.ntmps139
  go_wp2
  go_loopw [10, 11] (fun iv jv wi => ∃ i j : Nat, m ≤ i ∧ i ≤ j ∧ j ≤ b ∧ iv = .int .i64 i ∧ jv = .int .i64 j ∧ Perm3 w g l wi) (fun iv jv _ => (intOf jv).toNat - (intOf iv).toNat)
  case atStart => exact ⟨m, b, Nat.le_refl _, by omega, Nat.le_refl _, rfl, rfl, .refl H.out.1⟩
  case round =>
    rename World => wi
    obtain ⟨i, j, hmi, hij, hjb, rfl, rfl, hP⟩ := hrel
    by_cases hlt : i < j
    · have hlt' : (i : Int) < j := by omega
      obtain ⟨h, hh⟩ : ∃ h, h = (i + j) / 2 := ⟨_, rfl⟩
      have hd : ((i : Int) + (j : Int)) / 2 = (h : Int) := by omega
      have hih : i ≤ h := by omega
      have hhj : h < j := by omega
      clear hh
      obtain ⟨l1, hp1, he1⟩ := hP.some
      have hlen : l1.length = N := by rw [hp1.length_eq]; exact H.out.2.1
      obtain ⟨x, hx⟩ : ∃ x, l1[h]? = some x := ⟨_, List.getElem?_eq_getElem (by omega)⟩
      obtain ⟨y, hy⟩ : ∃ y, l1[a]? = some y := ⟨_, List.getElem?_eq_getElem (by omega)⟩
      have hpN : (h : Int) < N := by omega
      have hqN : (a : Int) < N := by omega

      obtain ⟨r, hcmp⟩ := cmp_c x y
      have hpos1 : 0 < l1.length := by omega
      have x0 := fun z => (grow_ext wi z).cell (he1.c0 h x hx)
      have x1 := fun z => (grow_ext wi z).cell (he1.c1 h x hx)
      have x2 := fun z => (grow_ext wi z).cell (he1.c2 h x hx)
      have y0 := fun z => (grow_ext wi z).cell (he1.c0 a y hy)
      have y1 := fun z => (grow_ext wi z).cell (he1.c1 a y hy)
      have y2 := fun z => (grow_ext wi z).cell (he1.c2 a y hy)
      obtain ⟨xs, xd, xa, xn, xc⟩ := x
      obtain ⟨ys, yd, ya, yn, yc⟩ := y
      have HE := Lib.hid (And.intro hP hcmp)
      clear hP hp1 he1 hlen hx hy hcmp
      by_cases hr : r < 0
      · have hr' : decide (r < 0) = true := by simpa using hr
        go_wp2_with fail
        refine wp_region_grow (by kernel_rfl) (by kernel_rfl) ?_
        repeat (go_big_quiet_step ((go_at_call 75; with_reducible exact calls_grow (HE.out.2 _))))
        refine wpQuiet_nil ?_
        rintro _ ⟨z, rfl⟩
        clear x0 x1 x2 y0 y1 y2
        obtain ⟨W, hW⟩ : ∃ W, W = growW wi z := ⟨_, rfl⟩
        have hxx : Ext wi W := by rw [hW]; exact grow_ext wi z
        rw [← hW]
        have HS := Lib.hid (HE.out.1.ext hpos hxx)
        clear hW hxx
        clear hd
        go_wp2
        go_roundw
        case rel => exact ⟨h + 1, j, by omega, by omega, hjb, by go_num, rfl, HS.out⟩
        case measure => simp [intOf]; omega
      · have hr' : decide (r < 0) = false := by simpa using hr
        go_wp2_with fail
        refine wp_region_grow (by kernel_rfl) (by kernel_rfl) ?_
        repeat (go_big_quiet_step ((go_at_call 75; with_reducible exact calls_grow (HE.out.2 _))))
        refine wpQuiet_nil ?_
        rintro _ ⟨z, rfl⟩
        clear x0 x1 x2 y0 y1 y2
        obtain ⟨W, hW⟩ : ∃ W, W = growW wi z := ⟨_, rfl⟩
        have hxx : Ext wi W := by rw [hW]; exact grow_ext wi z
        rw [← hW]
        have HS := Lib.hid (HE.out.1.ext hpos hxx)
        clear hW hxx
        clear hd
        go_wp2
        go_roundw
        case rel => exact ⟨i, h, hmi, hih, by omega, rfl, rfl, HS.out⟩
        case measure => simp [intOf]; omega
    · obtain rfl : i = j := by omega
      have HS0 := Lib.hid hP
      clear hP hlt hij
      go_wp2
      go_loopw [13] (fun kv wi => ∃ k : Nat, a ≤ k ∧ k ≤ i ∧ kv = .int .i64 k ∧ Perm3 w g l wi) (fun kv _ => i - (intOf kv).toNat)
      case atStart => exact ⟨a, Nat.le_refl _, by omega, rfl, HS0.out⟩
      case round =>
        clear HS0
        rename World => wj
        obtain ⟨k, hak, hki, rfl, hP⟩ := hrel
        by_cases hlt : k + 1 < i
        · have hlt' : (k : Int) < (i : Int) - 1 := by omega
          obtain ⟨q, hq⟩ : ∃ q, q = k + 1 := ⟨_, rfl⟩
          have hw1 : IntKind.i64.wrap ((k : Int) + 1) = (q : Int) := (IntWalk.i64_in _ (by omega)).trans (by omega)
          have hq1 : k < q := by omega
          have hq2 : q ≤ k + 1 := by omega
          clear hq
          obtain ⟨l1, hp1, he1⟩ := hP.some
          have hlen : l1.length = N := by rw [hp1.length_eq]; exact H.out.2.1
          obtain ⟨x, hx⟩ : ∃ x, l1[k]? = some x := ⟨_, List.getElem?_eq_getElem (by omega)⟩
          obtain ⟨y, hy⟩ : ∃ y, l1[q]? = some y := ⟨_, List.getElem?_eq_getElem (by omega)⟩
          have hpN : (k : Int) < N := by omega
          have hqN : (q : Int) < N := by omega

          have x0 := he1.c0 k x hx
          have x1 := he1.c1 k x hx
          have x2 := he1.c2 k x hx
          have y0 := he1.c0 q y hy
          have y1 := he1.c1 q y hy
          have y2 := he1.c2 q y hy
          have fp0 := he1.fz (k * 3)
          have fp1 := he1.fz (k * 3 + 1)
          have fp2 := he1.fz (k * 3 + 2)
          have fq0 := he1.fz (q * 3)
          have fq1 := he1.fz (q * 3 + 1)
          have fq2 := he1.fz (q * 3 + 2)
          have he2 := he1.put (p := k) (by omega) y
          have hy2 := put_at hx hy
          have z0 := he2.c0 q y hy2
          have z1 := he2.c1 q y hy2
          have z2 := he2.c2 q y hy2
          have HS := Lib.hid (hP.swap hp1 he1 hx hy)
          clear hP hp1 he1 hlen hx hy he2 hy2
          obtain ⟨xs, xd, xa, xn, xc⟩ := x
          obtain ⟨ys, yd, ya, yn, yc⟩ := y
          go_wp2_with fail
          go_region
          clear x0 x1 x2 y0 y1 y2 fp0 fp1 fp2 fq0 fq1 fq2 z0 z1 z2
          go_wp2
          go_roundw
          case rel => exact ⟨q, by omega, by omega, by go_num, HS.out.ext hpos (Ext.drew (Ext.refl _))⟩
          case measure => simp [intOf]; omega
        · have hlt' : ¬ (k : Int) < (i : Int) - 1 := by omega
          have HS := Lib.hid hP
          clear hP
          go_wp2
          (try simp only [Exit.inBlock, Exit.then])
          refine bodyPost_ret (results_none rfl _ _ _) rfl ?_
          exact ⟨rfl, HS.out⟩

set_option maxRecDepth 100000 in
set_option maxHeartbeats 4000000 in
theorem merge_right {w : World} {g N cap : Nat} {l : List RowE} (he : Elts w g l) (hN : l.length = N) (hN6 : N ≤ 600) {a m b : Nat} (h1 : a < m) (h2 : m < b) (hb : b ≤ N) (c0 : ¬ m = a + 1) (c1 : b = m + 1) :
    Calls Tryd.prog 139 #[.slice (some ⟨g, 0, none⟩) N cap, .int .i64 (a : Int), .int .i64 (m : Int), .int .i64 (b : Int), cmpF] w fun e w' => e = .returned (.tuple #[]) ∧ Perm3 w g l w' := by
  have H := Lib.hid (And.intro he (And.intro hN c1))
  have hpos : 0 < l.length := by omega
  have e1 : ((m : Int) - (a : Int) == 1) = false := by simp; omega
  have e2 : ((b : Int) - (m : Int) == 1) = true := by simp; omega
  clear he hN c1
  go_enter Tryd.func139, Tryd.ntmps139
  go_wp2
  go_loopw [14, 15] (fun iv jv wi => ∃ i j : Nat, a ≤ i ∧ i ≤ j ∧ j ≤ m ∧ iv = .int .i64 i ∧ jv = .int .i64 j ∧ Perm3 w g l wi) (fun iv jv _ => (intOf jv).toNat - (intOf iv).toNat)
  case atStart => exact ⟨a, m, Nat.le_refl _, by omega, Nat.le_refl _, rfl, rfl, .refl H.out.1⟩
  case round =>
    rename World => wi
    obtain ⟨i, j, hmi, hij, hjb, rfl, rfl, hP⟩ := hrel
    by_cases hlt : i < j
    · have hlt' : (i : Int) < j := by omega
      obtain ⟨h, hh⟩ : ∃ h, h = (i + j) / 2 := ⟨_, rfl⟩
      have hd : ((i : Int) + (j : Int)) / 2 = (h : Int) := by omega
      have hih : i ≤ h := by omega
      have hhj : h < j := by omega
      clear hh
      obtain ⟨l1, hp1, he1⟩ := hP.some
      have hlen : l1.length = N := by rw [hp1.length_eq]; exact H.out.2.1
      obtain ⟨x, hx⟩ : ∃ x, l1[m]? = some x := ⟨_, List.getElem?_eq_getElem (by omega)⟩
      obtain ⟨y, hy⟩ : ∃ y, l1[h]? = some y := ⟨_, List.getElem?_eq_getElem (by omega)⟩
      have hpN : (m : Int) < N := by omega
      have hqN : (h : Int) < N := by omega

      obtain ⟨r, hcmp⟩ := cmp_c x y
      have hpos1 : 0 < l1.length := by omega
      have x0 := fun z => (grow_ext wi z).cell (he1.c0 m x hx)
      have x1 := fun z => (grow_ext wi z).cell (he1.c1 m x hx)
      have x2 := fun z => (grow_ext wi z).cell (he1.c2 m x hx)
      have y0 := fun z => (grow_ext wi z).cell (he1.c0 h y hy)
      have y1 := fun z => (grow_ext wi z).cell (he1.c1 h y hy)
      have y2 := fun z => (grow_ext wi z).cell (he1.c2 h y hy)
      obtain ⟨xs, xd, xa, xn, xc⟩ := x
      obtain ⟨ys, yd, ya, yn, yc⟩ := y
      have HE := Lib.hid (And.intro hP hcmp)
      clear hP hp1 he1 hlen hx hy hcmp
      by_cases hr : r < 0
      · have hr' : decide (r < 0) = true := by simpa using hr
        go_wp2_with fail
        refine wp_region_grow (by kernel_rfl) (by kernel_rfl) ?_
        repeat (go_big_quiet_step ((go_at_call 75; with_reducible exact calls_grow (HE.out.2 _))))
        refine wpQuiet_nil ?_
        rintro _ ⟨z, rfl⟩
        clear x0 x1 x2 y0 y1 y2
        obtain ⟨W, hW⟩ : ∃ W, W = growW wi z := ⟨_, rfl⟩
        have hxx : Ext wi W := by rw [hW]; exact grow_ext wi z
        rw [← hW]
        have HS := Lib.hid (HE.out.1.ext hpos hxx)
        clear hW hxx
        clear hd
        go_wp2
        go_roundw
        case rel => exact ⟨i, h, hmi, hih, by omega, rfl, rfl, HS.out⟩
        case measure => simp [intOf]; omega
      · have hr' : decide (r < 0) = false := by simpa using hr
        go_wp2_with fail
        refine wp_region_grow (by kernel_rfl) (by kernel_rfl) ?_
        repeat (go_big_quiet_step ((go_at_call 75; with_reducible exact calls_grow (HE.out.2 _))))
        refine wpQuiet_nil ?_
        rintro _ ⟨z, rfl⟩
        clear x0 x1 x2 y0 y1 y2
        obtain ⟨W, hW⟩ : ∃ W, W = growW wi z := ⟨_, rfl⟩
        have hxx : Ext wi W := by rw [hW]; exact grow_ext wi z
        rw [← hW]
        have HS := Lib.hid (HE.out.1.ext hpos hxx)
        clear hW hxx
        clear hd
        go_wp2
        go_roundw
        case rel => exact ⟨h + 1, j, by omega, by omega, hjb, by go_num, rfl, HS.out⟩
        case measure => simp [intOf]; omega
    · obtain rfl : i = j := by omega
      have HS0 := Lib.hid hP
      clear hP hlt hij
      go_wp2
      go_loopw [17] (fun kv wi => ∃ k : Nat, i ≤ k ∧ k ≤ m ∧ kv = .int .i64 k ∧ Perm3 w g l wi) (fun kv _ => (intOf kv).toNat)
      case atStart => exact ⟨m, by omega, Nat.le_refl _, rfl, HS0.out⟩
      case round =>
        clear HS0
        rename World => wj
        obtain ⟨k, hak, hki, rfl, hP⟩ := hrel
        by_cases hlt : i < k
        · have hlt' : (i : Int) < (k : Int) := by omega
          obtain ⟨q, hq⟩ : ∃ q, q = k - 1 := ⟨_, rfl⟩
          have hw1 : IntKind.i64.wrap ((k : Int) - 1) = (q : Int) := (IntWalk.i64_in _ (by omega)).trans (by omega)
          have hq1 : q < k := by omega
          have hq2 : k ≤ q + 1 := by omega
          clear hq
          obtain ⟨l1, hp1, he1⟩ := hP.some
          have hlen : l1.length = N := by rw [hp1.length_eq]; exact H.out.2.1
          obtain ⟨x, hx⟩ : ∃ x, l1[k]? = some x := ⟨_, List.getElem?_eq_getElem (by omega)⟩
          obtain ⟨y, hy⟩ : ∃ y, l1[q]? = some y := ⟨_, List.getElem?_eq_getElem (by omega)⟩
          have hpN : (k : Int) < N := by omega
          have hqN : (q : Int) < N := by omega

          have x0 := he1.c0 k x hx
          have x1 := he1.c1 k x hx
          have x2 := he1.c2 k x hx
          have y0 := he1.c0 q y hy
          have y1 := he1.c1 q y hy
          have y2 := he1.c2 q y hy
          have fp0 := he1.fz (k * 3)
          have fp1 := he1.fz (k * 3 + 1)
          have fp2 := he1.fz (k * 3 + 2)
          have fq0 := he1.fz (q * 3)
          have fq1 := he1.fz (q * 3 + 1)
          have fq2 := he1.fz (q * 3 + 2)
          have he2 := he1.put (p := k) (by omega) y
          have hy2 := put_at hx hy
          have z0 := he2.c0 q y hy2
          have z1 := he2.c1 q y hy2
          have z2 := he2.c2 q y hy2
          have HS := Lib.hid (hP.swap hp1 he1 hx hy)
          clear hP hp1 he1 hlen hx hy he2 hy2
          obtain ⟨xs, xd, xa, xn, xc⟩ := x
          obtain ⟨ys, yd, ya, yn, yc⟩ := y
          go_wp2_with fail
          go_region
          clear x0 x1 x2 y0 y1 y2 fp0 fp1 fp2 fq0 fq1 fq2 z0 z1 z2
          go_wp2
          go_roundw
          case rel => exact ⟨q, by omega, by omega, by go_num, HS.out.ext hpos (Ext.drew (Ext.refl _))⟩
          case measure => simp [intOf]; omega
        · have hlt' : ¬ (i : Int) < (k : Int) := by omega
          have HS := Lib.hid hP
          clear hP
          go_wp2
          (try simp only [Exit.inBlock, Exit.then])
          refine bodyPost_ret (results_none rfl _ _ _) rfl ?_
          exact ⟨rfl, HS.out⟩

theorem first_int {x y : Int} (h : x = y) : Value.int .i64 x = Value.int .i64 y := by rw [h]

set_option maxRecDepth 100000 in
set_option maxHeartbeats 8000000 in
theorem merge_hi {f : Nat} {w : World} {g N cap : Nat} {l : List RowE} (he : Elts w g l) (hN : l.length = N) (hN6 : N ≤ 600) (hrec : MergesTo f g N cap) {a m b d : Nat} (h1 : a < m) (h2 : m < b) (hb : b ≤ N) (hf : b - a ≤ f + 1) (_c1 : ¬ m = a + 1) (c2 : ¬ b = m + 1) (hdd : d = (a + b) / 2) (c3 : d < m) :
    Calls Tryd.prog 139 #[.slice (some ⟨g, 0, none⟩) N cap, .int .i64 (a : Int), .int .i64 (m : Int), .int .i64 (b : Int), cmpF] w fun e w' => e = .returned (.tuple #[]) ∧ Perm3 w g l w' := by
  have H := Lib.hid (And.intro he (And.intro hN hrec))
  have hpos : 0 < l.length := by omega
  have e1 : ((m : Int) - (a : Int) == 1) = false := by simp; omega
  have e2 : ((b : Int) - (m : Int) == 1) = false := by simp; omega
  have e3 : (d : Int) < m := by omega
  have hd : ((a : Int) + (b : Int)) / 2 = (d : Int) := by omega
  obtain ⟨n, hn⟩ : ∃ n, n = d + m := ⟨_, rfl⟩
  have hnn : (d : Int) + (m : Int) = (n : Int) := by omega
  obtain ⟨P, hPP⟩ : ∃ P, P = n - 1 := ⟨_, rfl⟩
  have hpp : (n : Int) - 1 = (P : Int) := by omega
  have hn1 : n ≤ d + m := by omega
  have hn2 : d + m ≤ n := by omega
  have hP1 : P + 1 ≤ n := by omega
  have hP2 : n ≤ P + 1 := by omega
  have hd1 : 2 * d ≤ a + b := by omega
  have hd2 : a + b ≤ 2 * d + 1 := by omega
  clear he hN hdd _c1 c2 hn hPP
  go_enter Tryd.func139, Tryd.ntmps139
  go_wp2
  clear hd e1 e2 e3 hnn hpp
  go_loopw [20, 21] (fun iv jv wi => ∃ s j : Nat, d + m ≤ b + s ∧ s ≤ j ∧ j ≤ d ∧ iv = .int .i64 s ∧ jv = .int .i64 j ∧ Perm3 w g l wi) (fun iv jv _ => (intOf jv).toNat - (intOf iv).toNat)
  case atStart => exact ⟨(d + m - b), d, by omega, by omega, Nat.le_refl _, first_int (by omega), rfl, .refl H.out.1⟩
  case round =>
    rename World => wi
    obtain ⟨s, j, hlo, hsj, hjr, rfl, rfl, hP⟩ := hrel
    by_cases hlt : s < j
    · have hlt' : (s : Int) < j := by omega
      obtain ⟨c, hc⟩ : ∃ c, c = (s + j) / 2 := ⟨_, rfl⟩
      have hcc : ((s : Int) + (j : Int)) / 2 = (c : Int) := by omega
      have hsc : s ≤ c := by omega
      have hcj : c < j := by omega
      obtain ⟨u, hu⟩ : ∃ u, u = P - c := ⟨_, rfl⟩
      have huu : IntKind.i64.wrap ((P : Int) - (c : Int)) = (u : Int) := (IntWalk.i64_in _ (by omega)).trans (by omega)
      have huN : u < N := by omega
      clear hc hu
      obtain ⟨l1, hp1, he1⟩ := hP.some
      have hlen : l1.length = N := by rw [hp1.length_eq]; exact H.out.2.1
      obtain ⟨x, hx⟩ : ∃ x, l1[u]? = some x := ⟨_, List.getElem?_eq_getElem (by omega)⟩
      obtain ⟨y, hy⟩ : ∃ y, l1[c]? = some y := ⟨_, List.getElem?_eq_getElem (by omega)⟩
      have hpN : (u : Int) < N := by omega
      have hqN : (c : Int) < N := by omega

      obtain ⟨r, hcmp⟩ := cmp_c x y
      have hpos1 : 0 < l1.length := by omega
      have x0 := fun z => (grow_ext wi z).cell (he1.c0 u x hx)
      have x1 := fun z => (grow_ext wi z).cell (he1.c1 u x hx)
      have x2 := fun z => (grow_ext wi z).cell (he1.c2 u x hx)
      have y0 := fun z => (grow_ext wi z).cell (he1.c0 c y hy)
      have y1 := fun z => (grow_ext wi z).cell (he1.c1 c y hy)
      have y2 := fun z => (grow_ext wi z).cell (he1.c2 c y hy)
      obtain ⟨xs, xd, xa, xn, xc⟩ := x
      obtain ⟨ys, yd, ya, yn, yc⟩ := y
      have HE := Lib.hid (And.intro hP hcmp)
      clear hP hp1 he1 hlen hx hy hcmp
      by_cases hr : r < 0
      · have hr' : decide (r < 0) = true := by simpa using hr
        go_wp2_with fail
        refine wp_region_grow (by kernel_rfl) (by kernel_rfl) ?_
        repeat (go_big_quiet_step ((go_at_call 75; with_reducible exact calls_grow (HE.out.2 _))))
        refine wpQuiet_nil ?_
        rintro _ ⟨z, rfl⟩
        clear x0 x1 x2 y0 y1 y2
        obtain ⟨W, hW⟩ : ∃ W, W = growW wi z := ⟨_, rfl⟩
        have hxx : Ext wi W := by rw [hW]; exact grow_ext wi z
        rw [← hW]
        have HS := Lib.hid (HE.out.1.ext hpos hxx)
        clear hW hxx
        clear hcc huu
        go_wp2
        go_roundw
        case rel => exact ⟨s, c, hlo, hsc, by omega, rfl, rfl, HS.out⟩
        case measure => simp [intOf]; omega
      · have hr' : decide (r < 0) = false := by simpa using hr
        go_wp2_with fail
        refine wp_region_grow (by kernel_rfl) (by kernel_rfl) ?_
        repeat (go_big_quiet_step ((go_at_call 75; with_reducible exact calls_grow (HE.out.2 _))))
        refine wpQuiet_nil ?_
        rintro _ ⟨z, rfl⟩
        clear x0 x1 x2 y0 y1 y2
        obtain ⟨W, hW⟩ : ∃ W, W = growW wi z := ⟨_, rfl⟩
        have hxx : Ext wi W := by rw [hW]; exact grow_ext wi z
        rw [← hW]
        have HS := Lib.hid (HE.out.1.ext hpos hxx)
        clear hW hxx
        clear hcc huu
        go_wp2
        go_roundw
        case rel => exact ⟨c + 1, j, by omega, by omega, hjr, by go_num, rfl, HS.out⟩
        case measure => simp [intOf]; omega
    · obtain rfl : s = j := by omega
      have HP := Lib.hid hP
      obtain ⟨en, hen⟩ : ∃ en, en = n - s := ⟨_, rfl⟩
      have henn : (n : Int) - (s : Int) = (en : Int) := by omega
      have hen1 : en + s = d + m := by omega
      clear hP hlt hsj hen
      by_cases q1 : s < m
      · by_cases q2 : m < en
        · obtain ⟨l1, hp1, he1⟩ := HP.out.some
          have hlen : l1.length = N := by rw [hp1.length_eq]; exact H.out.2.1
          have hc := rotate_c (cap := cap) he1 hlen hN6 (a := s) (m := m) (b := en) q1 q2 (by omega)
          have q1' : (s : Int) < (m : Int) := by omega
          have q2' : (m : Int) < (en : Int) := by omega
          have HC := Lib.hid (And.intro hc hp1)
          clear hc hp1 he1 hlen
          go_wp2_with fail
          refine HC.out.1.mono ?_
          rintro e w2 ⟨rfl, hq⟩
          have hP2 := HP.out.after HC.out.2 hq
          clear HP HC
          have HP := Lib.hid hP2
          clear hP2 hq q1' q2'
          by_cases q1 : a < s
          · by_cases q2 : s < d
            · obtain ⟨l1, hp1, he1⟩ := HP.out.some
              have hlen : l1.length = N := by rw [hp1.length_eq]; exact H.out.2.1
              have hc := H.out.2.2 _ _ he1 hlen a s d q1 q2 (by omega) (by omega)
              have q1' : (a : Int) < (s : Int) := by omega
              have q2' : (s : Int) < (d : Int) := by omega
              have HC := Lib.hid (And.intro hc hp1)
              clear hc hp1 he1 hlen
              go_wp2_with fail
              refine HC.out.1.mono ?_
              rintro e w2 ⟨rfl, hq⟩
              have hP2 := HP.out.after HC.out.2 hq
              clear HP HC
              have HP := Lib.hid hP2
              clear hP2 hq q1' q2'
              by_cases q1 : d < en
              · by_cases q2 : en < b
                · obtain ⟨l1, hp1, he1⟩ := HP.out.some
                  have hlen : l1.length = N := by rw [hp1.length_eq]; exact H.out.2.1
                  have hc := H.out.2.2 _ _ he1 hlen d en b q1 q2 (by omega) (by omega)
                  have q1' : (d : Int) < (en : Int) := by omega
                  have q2' : (en : Int) < (b : Int) := by omega
                  have HC := Lib.hid (And.intro hc hp1)
                  clear hc hp1 he1 hlen
                  go_wp2_with fail
                  refine HC.out.1.mono ?_
                  rintro e w2 ⟨rfl, hq⟩
                  have hP2 := HP.out.after HC.out.2 hq
                  clear HP HC
                  have HP := Lib.hid hP2
                  clear hP2 hq q1' q2'
                  go_wp2
                  go_end0
                  exact ⟨rfl, HP.out⟩

                · have q1' : (d : Int) < (en : Int) := by omega
                  have q2' : ¬ (en : Int) < (b : Int) := by omega
                  go_wp2
                  go_end0
                  exact ⟨rfl, HP.out⟩

              · have q1' : ¬ (d : Int) < (en : Int) := by omega
                go_wp2
                go_end0
                exact ⟨rfl, HP.out⟩

            · have q1' : (a : Int) < (s : Int) := by omega
              have q2' : ¬ (s : Int) < (d : Int) := by omega
              by_cases q1 : d < en
              · by_cases q2 : en < b
                · obtain ⟨l1, hp1, he1⟩ := HP.out.some
                  have hlen : l1.length = N := by rw [hp1.length_eq]; exact H.out.2.1
                  have hc := H.out.2.2 _ _ he1 hlen d en b q1 q2 (by omega) (by omega)
                  have q1' : (d : Int) < (en : Int) := by omega
                  have q2' : (en : Int) < (b : Int) := by omega
                  have HC := Lib.hid (And.intro hc hp1)
                  clear hc hp1 he1 hlen
                  go_wp2_with fail
                  refine HC.out.1.mono ?_
                  rintro e w2 ⟨rfl, hq⟩
                  have hP2 := HP.out.after HC.out.2 hq
                  clear HP HC
                  have HP := Lib.hid hP2
                  clear hP2 hq q1' q2'
                  go_wp2
                  go_end0
                  exact ⟨rfl, HP.out⟩

                · have q1' : (d : Int) < (en : Int) := by omega
                  have q2' : ¬ (en : Int) < (b : Int) := by omega
                  go_wp2
                  go_end0
                  exact ⟨rfl, HP.out⟩

              · have q1' : ¬ (d : Int) < (en : Int) := by omega
                go_wp2
                go_end0
                exact ⟨rfl, HP.out⟩

          · have q1' : ¬ (a : Int) < (s : Int) := by omega
            by_cases q1 : d < en
            · by_cases q2 : en < b
              · obtain ⟨l1, hp1, he1⟩ := HP.out.some
                have hlen : l1.length = N := by rw [hp1.length_eq]; exact H.out.2.1
                have hc := H.out.2.2 _ _ he1 hlen d en b q1 q2 (by omega) (by omega)
                have q1' : (d : Int) < (en : Int) := by omega
                have q2' : (en : Int) < (b : Int) := by omega
                have HC := Lib.hid (And.intro hc hp1)
                clear hc hp1 he1 hlen
                go_wp2_with fail
                refine HC.out.1.mono ?_
                rintro e w2 ⟨rfl, hq⟩
                have hP2 := HP.out.after HC.out.2 hq
                clear HP HC
                have HP := Lib.hid hP2
                clear hP2 hq q1' q2'
                go_wp2
                go_end0
                exact ⟨rfl, HP.out⟩

              · have q1' : (d : Int) < (en : Int) := by omega
                have q2' : ¬ (en : Int) < (b : Int) := by omega
                go_wp2
                go_end0
                exact ⟨rfl, HP.out⟩

            · have q1' : ¬ (d : Int) < (en : Int) := by omega
              go_wp2
              go_end0
              exact ⟨rfl, HP.out⟩

        · have q1' : (s : Int) < (m : Int) := by omega
          have q2' : ¬ (m : Int) < (en : Int) := by omega
          by_cases q1 : a < s
          · by_cases q2 : s < d
            · obtain ⟨l1, hp1, he1⟩ := HP.out.some
              have hlen : l1.length = N := by rw [hp1.length_eq]; exact H.out.2.1
              have hc := H.out.2.2 _ _ he1 hlen a s d q1 q2 (by omega) (by omega)
              have q1' : (a : Int) < (s : Int) := by omega
              have q2' : (s : Int) < (d : Int) := by omega
              have HC := Lib.hid (And.intro hc hp1)
              clear hc hp1 he1 hlen
              go_wp2_with fail
              refine HC.out.1.mono ?_
              rintro e w2 ⟨rfl, hq⟩
              have hP2 := HP.out.after HC.out.2 hq
              clear HP HC
              have HP := Lib.hid hP2
              clear hP2 hq q1' q2'
              by_cases q1 : d < en
              · by_cases q2 : en < b
                · obtain ⟨l1, hp1, he1⟩ := HP.out.some
                  have hlen : l1.length = N := by rw [hp1.length_eq]; exact H.out.2.1
                  have hc := H.out.2.2 _ _ he1 hlen d en b q1 q2 (by omega) (by omega)
                  have q1' : (d : Int) < (en : Int) := by omega
                  have q2' : (en : Int) < (b : Int) := by omega
                  have HC := Lib.hid (And.intro hc hp1)
                  clear hc hp1 he1 hlen
                  go_wp2_with fail
                  refine HC.out.1.mono ?_
                  rintro e w2 ⟨rfl, hq⟩
                  have hP2 := HP.out.after HC.out.2 hq
                  clear HP HC
                  have HP := Lib.hid hP2
                  clear hP2 hq q1' q2'
                  go_wp2
                  go_end0
                  exact ⟨rfl, HP.out⟩

                · have q1' : (d : Int) < (en : Int) := by omega
                  have q2' : ¬ (en : Int) < (b : Int) := by omega
                  go_wp2
                  go_end0
                  exact ⟨rfl, HP.out⟩

              · have q1' : ¬ (d : Int) < (en : Int) := by omega
                go_wp2
                go_end0
                exact ⟨rfl, HP.out⟩

            · have q1' : (a : Int) < (s : Int) := by omega
              have q2' : ¬ (s : Int) < (d : Int) := by omega
              by_cases q1 : d < en
              · by_cases q2 : en < b
                · obtain ⟨l1, hp1, he1⟩ := HP.out.some
                  have hlen : l1.length = N := by rw [hp1.length_eq]; exact H.out.2.1
                  have hc := H.out.2.2 _ _ he1 hlen d en b q1 q2 (by omega) (by omega)
                  have q1' : (d : Int) < (en : Int) := by omega
                  have q2' : (en : Int) < (b : Int) := by omega
                  have HC := Lib.hid (And.intro hc hp1)
                  clear hc hp1 he1 hlen
                  go_wp2_with fail
                  refine HC.out.1.mono ?_
                  rintro e w2 ⟨rfl, hq⟩
                  have hP2 := HP.out.after HC.out.2 hq
                  clear HP HC
                  have HP := Lib.hid hP2
                  clear hP2 hq q1' q2'
                  go_wp2
                  go_end0
                  exact ⟨rfl, HP.out⟩

                · have q1' : (d : Int) < (en : Int) := by omega
                  have q2' : ¬ (en : Int) < (b : Int) := by omega
                  go_wp2
                  go_end0
                  exact ⟨rfl, HP.out⟩

              · have q1' : ¬ (d : Int) < (en : Int) := by omega
                go_wp2
                go_end0
                exact ⟨rfl, HP.out⟩

          · have q1' : ¬ (a : Int) < (s : Int) := by omega
            by_cases q1 : d < en
            · by_cases q2 : en < b
              · obtain ⟨l1, hp1, he1⟩ := HP.out.some
                have hlen : l1.length = N := by rw [hp1.length_eq]; exact H.out.2.1
                have hc := H.out.2.2 _ _ he1 hlen d en b q1 q2 (by omega) (by omega)
                have q1' : (d : Int) < (en : Int) := by omega
                have q2' : (en : Int) < (b : Int) := by omega
                have HC := Lib.hid (And.intro hc hp1)
                clear hc hp1 he1 hlen
                go_wp2_with fail
                refine HC.out.1.mono ?_
                rintro e w2 ⟨rfl, hq⟩
                have hP2 := HP.out.after HC.out.2 hq
                clear HP HC
                have HP := Lib.hid hP2
                clear hP2 hq q1' q2'
                go_wp2
                go_end0
                exact ⟨rfl, HP.out⟩

              · have q1' : (d : Int) < (en : Int) := by omega
                have q2' : ¬ (en : Int) < (b : Int) := by omega
                go_wp2
                go_end0
                exact ⟨rfl, HP.out⟩

            · have q1' : ¬ (d : Int) < (en : Int) := by omega
              go_wp2
              go_end0
              exact ⟨rfl, HP.out⟩

      · have q1' : ¬ (s : Int) < (m : Int) := by omega
        by_cases q1 : a < s
        · by_cases q2 : s < d
          · obtain ⟨l1, hp1, he1⟩ := HP.out.some
            have hlen : l1.length = N := by rw [hp1.length_eq]; exact H.out.2.1
            have hc := H.out.2.2 _ _ he1 hlen a s d q1 q2 (by omega) (by omega)
            have q1' : (a : Int) < (s : Int) := by omega
            have q2' : (s : Int) < (d : Int) := by omega
            have HC := Lib.hid (And.intro hc hp1)
            clear hc hp1 he1 hlen
            go_wp2_with fail
            refine HC.out.1.mono ?_
            rintro e w2 ⟨rfl, hq⟩
            have hP2 := HP.out.after HC.out.2 hq
            clear HP HC
            have HP := Lib.hid hP2
            clear hP2 hq q1' q2'
            by_cases q1 : d < en
            · by_cases q2 : en < b
              · obtain ⟨l1, hp1, he1⟩ := HP.out.some
                have hlen : l1.length = N := by rw [hp1.length_eq]; exact H.out.2.1
                have hc := H.out.2.2 _ _ he1 hlen d en b q1 q2 (by omega) (by omega)
                have q1' : (d : Int) < (en : Int) := by omega
                have q2' : (en : Int) < (b : Int) := by omega
                have HC := Lib.hid (And.intro hc hp1)
                clear hc hp1 he1 hlen
                go_wp2_with fail
                refine HC.out.1.mono ?_
                rintro e w2 ⟨rfl, hq⟩
                have hP2 := HP.out.after HC.out.2 hq
                clear HP HC
                have HP := Lib.hid hP2
                clear hP2 hq q1' q2'
                go_wp2
                go_end0
                exact ⟨rfl, HP.out⟩

              · have q1' : (d : Int) < (en : Int) := by omega
                have q2' : ¬ (en : Int) < (b : Int) := by omega
                go_wp2
                go_end0
                exact ⟨rfl, HP.out⟩

            · have q1' : ¬ (d : Int) < (en : Int) := by omega
              go_wp2
              go_end0
              exact ⟨rfl, HP.out⟩

          · have q1' : (a : Int) < (s : Int) := by omega
            have q2' : ¬ (s : Int) < (d : Int) := by omega
            by_cases q1 : d < en
            · by_cases q2 : en < b
              · obtain ⟨l1, hp1, he1⟩ := HP.out.some
                have hlen : l1.length = N := by rw [hp1.length_eq]; exact H.out.2.1
                have hc := H.out.2.2 _ _ he1 hlen d en b q1 q2 (by omega) (by omega)
                have q1' : (d : Int) < (en : Int) := by omega
                have q2' : (en : Int) < (b : Int) := by omega
                have HC := Lib.hid (And.intro hc hp1)
                clear hc hp1 he1 hlen
                go_wp2_with fail
                refine HC.out.1.mono ?_
                rintro e w2 ⟨rfl, hq⟩
                have hP2 := HP.out.after HC.out.2 hq
                clear HP HC
                have HP := Lib.hid hP2
                clear hP2 hq q1' q2'
                go_wp2
                go_end0
                exact ⟨rfl, HP.out⟩

              · have q1' : (d : Int) < (en : Int) := by omega
                have q2' : ¬ (en : Int) < (b : Int) := by omega
                go_wp2
                go_end0
                exact ⟨rfl, HP.out⟩

            · have q1' : ¬ (d : Int) < (en : Int) := by omega
              go_wp2
              go_end0
              exact ⟨rfl, HP.out⟩

        · have q1' : ¬ (a : Int) < (s : Int) := by omega
          by_cases q1 : d < en
          · by_cases q2 : en < b
            · obtain ⟨l1, hp1, he1⟩ := HP.out.some
              have hlen : l1.length = N := by rw [hp1.length_eq]; exact H.out.2.1
              have hc := H.out.2.2 _ _ he1 hlen d en b q1 q2 (by omega) (by omega)
              have q1' : (d : Int) < (en : Int) := by omega
              have q2' : (en : Int) < (b : Int) := by omega
              have HC := Lib.hid (And.intro hc hp1)
              clear hc hp1 he1 hlen
              go_wp2_with fail
              refine HC.out.1.mono ?_
              rintro e w2 ⟨rfl, hq⟩
              have hP2 := HP.out.after HC.out.2 hq
              clear HP HC
              have HP := Lib.hid hP2
              clear hP2 hq q1' q2'
              go_wp2
              go_end0
              exact ⟨rfl, HP.out⟩

            · have q1' : (d : Int) < (en : Int) := by omega
              have q2' : ¬ (en : Int) < (b : Int) := by omega
              go_wp2
              go_end0
              exact ⟨rfl, HP.out⟩

          · have q1' : ¬ (d : Int) < (en : Int) := by omega
            go_wp2
            go_end0
            exact ⟨rfl, HP.out⟩

set_option maxRecDepth 100000 in
set_option maxHeartbeats 8000000 in
theorem merge_lo {f : Nat} {w : World} {g N cap : Nat} {l : List RowE} (he : Elts w g l) (hN : l.length = N) (hN6 : N ≤ 600) (hrec : MergesTo f g N cap) {a m b d : Nat} (h1 : a < m) (h2 : m < b) (hb : b ≤ N) (hf : b - a ≤ f + 1) (_c1 : ¬ m = a + 1) (c2 : ¬ b = m + 1) (hdd : d = (a + b) / 2) (c3 : m ≤ d) :
    Calls Tryd.prog 139 #[.slice (some ⟨g, 0, none⟩) N cap, .int .i64 (a : Int), .int .i64 (m : Int), .int .i64 (b : Int), cmpF] w fun e w' => e = .returned (.tuple #[]) ∧ Perm3 w g l w' := by
  have H := Lib.hid (And.intro he (And.intro hN hrec))
  have hpos : 0 < l.length := by omega
  have e1 : ((m : Int) - (a : Int) == 1) = false := by simp; omega
  have e2 : ((b : Int) - (m : Int) == 1) = false := by simp; omega
  have e3 : ¬ (d : Int) < m := by omega
  have hd : ((a : Int) + (b : Int)) / 2 = (d : Int) := by omega
  obtain ⟨n, hn⟩ : ∃ n, n = d + m := ⟨_, rfl⟩
  have hnn : (d : Int) + (m : Int) = (n : Int) := by omega
  obtain ⟨P, hPP⟩ : ∃ P, P = n - 1 := ⟨_, rfl⟩
  have hpp : (n : Int) - 1 = (P : Int) := by omega
  have hn1 : n ≤ d + m := by omega
  have hn2 : d + m ≤ n := by omega
  have hP1 : P + 1 ≤ n := by omega
  have hP2 : n ≤ P + 1 := by omega
  have hd1 : 2 * d ≤ a + b := by omega
  have hd2 : a + b ≤ 2 * d + 1 := by omega
  clear he hN hdd _c1 c2 hn hPP
  go_enter Tryd.func139, Tryd.ntmps139
  go_wp2
  clear hd e1 e2 e3 hnn hpp
  go_loopw [20, 21] (fun iv jv wi => ∃ s j : Nat, a ≤ s ∧ s ≤ j ∧ j ≤ m ∧ iv = .int .i64 s ∧ jv = .int .i64 j ∧ Perm3 w g l wi) (fun iv jv _ => (intOf jv).toNat - (intOf iv).toNat)
  case atStart => exact ⟨a, m, by omega, by omega, Nat.le_refl _, first_int (by omega), rfl, .refl H.out.1⟩
  case round =>
    rename World => wi
    obtain ⟨s, j, hlo, hsj, hjr, rfl, rfl, hP⟩ := hrel
    by_cases hlt : s < j
    · have hlt' : (s : Int) < j := by omega
      obtain ⟨c, hc⟩ : ∃ c, c = (s + j) / 2 := ⟨_, rfl⟩
      have hcc : ((s : Int) + (j : Int)) / 2 = (c : Int) := by omega
      have hsc : s ≤ c := by omega
      have hcj : c < j := by omega
      obtain ⟨u, hu⟩ : ∃ u, u = P - c := ⟨_, rfl⟩
      have huu : IntKind.i64.wrap ((P : Int) - (c : Int)) = (u : Int) := (IntWalk.i64_in _ (by omega)).trans (by omega)
      have huN : u < N := by omega
      clear hc hu
      obtain ⟨l1, hp1, he1⟩ := hP.some
      have hlen : l1.length = N := by rw [hp1.length_eq]; exact H.out.2.1
      obtain ⟨x, hx⟩ : ∃ x, l1[u]? = some x := ⟨_, List.getElem?_eq_getElem (by omega)⟩
      obtain ⟨y, hy⟩ : ∃ y, l1[c]? = some y := ⟨_, List.getElem?_eq_getElem (by omega)⟩
      have hpN : (u : Int) < N := by omega
      have hqN : (c : Int) < N := by omega

      obtain ⟨r, hcmp⟩ := cmp_c x y
      have hpos1 : 0 < l1.length := by omega
      have x0 := fun z => (grow_ext wi z).cell (he1.c0 u x hx)
      have x1 := fun z => (grow_ext wi z).cell (he1.c1 u x hx)
      have x2 := fun z => (grow_ext wi z).cell (he1.c2 u x hx)
      have y0 := fun z => (grow_ext wi z).cell (he1.c0 c y hy)
      have y1 := fun z => (grow_ext wi z).cell (he1.c1 c y hy)
      have y2 := fun z => (grow_ext wi z).cell (he1.c2 c y hy)
      obtain ⟨xs, xd, xa, xn, xc⟩ := x
      obtain ⟨ys, yd, ya, yn, yc⟩ := y
      have HE := Lib.hid (And.intro hP hcmp)
      clear hP hp1 he1 hlen hx hy hcmp
      by_cases hr : r < 0
      · have hr' : decide (r < 0) = true := by simpa using hr
        go_wp2_with fail
        refine wp_region_grow (by kernel_rfl) (by kernel_rfl) ?_
        repeat (go_big_quiet_step ((go_at_call 75; with_reducible exact calls_grow (HE.out.2 _))))
        refine wpQuiet_nil ?_
        rintro _ ⟨z, rfl⟩
        clear x0 x1 x2 y0 y1 y2
        obtain ⟨W, hW⟩ : ∃ W, W = growW wi z := ⟨_, rfl⟩
        have hxx : Ext wi W := by rw [hW]; exact grow_ext wi z
        rw [← hW]
        have HS := Lib.hid (HE.out.1.ext hpos hxx)
        clear hW hxx
        clear hcc huu
        go_wp2
        go_roundw
        case rel => exact ⟨s, c, hlo, hsc, by omega, rfl, rfl, HS.out⟩
        case measure => simp [intOf]; omega
      · have hr' : decide (r < 0) = false := by simpa using hr
        go_wp2_with fail
        refine wp_region_grow (by kernel_rfl) (by kernel_rfl) ?_
        repeat (go_big_quiet_step ((go_at_call 75; with_reducible exact calls_grow (HE.out.2 _))))
        refine wpQuiet_nil ?_
        rintro _ ⟨z, rfl⟩
        clear x0 x1 x2 y0 y1 y2
        obtain ⟨W, hW⟩ : ∃ W, W = growW wi z := ⟨_, rfl⟩
        have hxx : Ext wi W := by rw [hW]; exact grow_ext wi z
        rw [← hW]
        have HS := Lib.hid (HE.out.1.ext hpos hxx)
        clear hW hxx
        clear hcc huu
        go_wp2
        go_roundw
        case rel => exact ⟨c + 1, j, by omega, by omega, hjr, by go_num, rfl, HS.out⟩
        case measure => simp [intOf]; omega
    · obtain rfl : s = j := by omega
      have HP := Lib.hid hP
      obtain ⟨en, hen⟩ : ∃ en, en = n - s := ⟨_, rfl⟩
      have henn : (n : Int) - (s : Int) = (en : Int) := by omega
      have hen1 : en + s = d + m := by omega
      clear hP hlt hsj hen
      by_cases q1 : s < m
      · by_cases q2 : m < en
        · obtain ⟨l1, hp1, he1⟩ := HP.out.some
          have hlen : l1.length = N := by rw [hp1.length_eq]; exact H.out.2.1
          have hc := rotate_c (cap := cap) he1 hlen hN6 (a := s) (m := m) (b := en) q1 q2 (by omega)
          have q1' : (s : Int) < (m : Int) := by omega
          have q2' : (m : Int) < (en : Int) := by omega
          have HC := Lib.hid (And.intro hc hp1)
          clear hc hp1 he1 hlen
          go_wp2_with fail
          refine HC.out.1.mono ?_
          rintro e w2 ⟨rfl, hq⟩
          have hP2 := HP.out.after HC.out.2 hq
          clear HP HC
          have HP := Lib.hid hP2
          clear hP2 hq q1' q2'
          by_cases q1 : a < s
          · by_cases q2 : s < d
            · obtain ⟨l1, hp1, he1⟩ := HP.out.some
              have hlen : l1.length = N := by rw [hp1.length_eq]; exact H.out.2.1
              have hc := H.out.2.2 _ _ he1 hlen a s d q1 q2 (by omega) (by omega)
              have q1' : (a : Int) < (s : Int) := by omega
              have q2' : (s : Int) < (d : Int) := by omega
              have HC := Lib.hid (And.intro hc hp1)
              clear hc hp1 he1 hlen
              go_wp2_with fail
              refine HC.out.1.mono ?_
              rintro e w2 ⟨rfl, hq⟩
              have hP2 := HP.out.after HC.out.2 hq
              clear HP HC
              have HP := Lib.hid hP2
              clear hP2 hq q1' q2'
              by_cases q1 : d < en
              · by_cases q2 : en < b
                · obtain ⟨l1, hp1, he1⟩ := HP.out.some
                  have hlen : l1.length = N := by rw [hp1.length_eq]; exact H.out.2.1
                  have hc := H.out.2.2 _ _ he1 hlen d en b q1 q2 (by omega) (by omega)
                  have q1' : (d : Int) < (en : Int) := by omega
                  have q2' : (en : Int) < (b : Int) := by omega
                  have HC := Lib.hid (And.intro hc hp1)
                  clear hc hp1 he1 hlen
                  go_wp2_with fail
                  refine HC.out.1.mono ?_
                  rintro e w2 ⟨rfl, hq⟩
                  have hP2 := HP.out.after HC.out.2 hq
                  clear HP HC
                  have HP := Lib.hid hP2
                  clear hP2 hq q1' q2'
                  go_wp2
                  go_end0
                  exact ⟨rfl, HP.out⟩

                · have q1' : (d : Int) < (en : Int) := by omega
                  have q2' : ¬ (en : Int) < (b : Int) := by omega
                  go_wp2
                  go_end0
                  exact ⟨rfl, HP.out⟩

              · have q1' : ¬ (d : Int) < (en : Int) := by omega
                go_wp2
                go_end0
                exact ⟨rfl, HP.out⟩

            · have q1' : (a : Int) < (s : Int) := by omega
              have q2' : ¬ (s : Int) < (d : Int) := by omega
              by_cases q1 : d < en
              · by_cases q2 : en < b
                · obtain ⟨l1, hp1, he1⟩ := HP.out.some
                  have hlen : l1.length = N := by rw [hp1.length_eq]; exact H.out.2.1
                  have hc := H.out.2.2 _ _ he1 hlen d en b q1 q2 (by omega) (by omega)
                  have q1' : (d : Int) < (en : Int) := by omega
                  have q2' : (en : Int) < (b : Int) := by omega
                  have HC := Lib.hid (And.intro hc hp1)
                  clear hc hp1 he1 hlen
                  go_wp2_with fail
                  refine HC.out.1.mono ?_
                  rintro e w2 ⟨rfl, hq⟩
                  have hP2 := HP.out.after HC.out.2 hq
                  clear HP HC
                  have HP := Lib.hid hP2
                  clear hP2 hq q1' q2'
                  go_wp2
                  go_end0
                  exact ⟨rfl, HP.out⟩

                · have q1' : (d : Int) < (en : Int) := by omega
                  have q2' : ¬ (en : Int) < (b : Int) := by omega
                  go_wp2
                  go_end0
                  exact ⟨rfl, HP.out⟩

              · have q1' : ¬ (d : Int) < (en : Int) := by omega
                go_wp2
                go_end0
                exact ⟨rfl, HP.out⟩

          · have q1' : ¬ (a : Int) < (s : Int) := by omega
            by_cases q1 : d < en
            · by_cases q2 : en < b
              · obtain ⟨l1, hp1, he1⟩ := HP.out.some
                have hlen : l1.length = N := by rw [hp1.length_eq]; exact H.out.2.1
                have hc := H.out.2.2 _ _ he1 hlen d en b q1 q2 (by omega) (by omega)
                have q1' : (d : Int) < (en : Int) := by omega
                have q2' : (en : Int) < (b : Int) := by omega
                have HC := Lib.hid (And.intro hc hp1)
                clear hc hp1 he1 hlen
                go_wp2_with fail
                refine HC.out.1.mono ?_
                rintro e w2 ⟨rfl, hq⟩
                have hP2 := HP.out.after HC.out.2 hq
                clear HP HC
                have HP := Lib.hid hP2
                clear hP2 hq q1' q2'
                go_wp2
                go_end0
                exact ⟨rfl, HP.out⟩

              · have q1' : (d : Int) < (en : Int) := by omega
                have q2' : ¬ (en : Int) < (b : Int) := by omega
                go_wp2
                go_end0
                exact ⟨rfl, HP.out⟩

            · have q1' : ¬ (d : Int) < (en : Int) := by omega
              go_wp2
              go_end0
              exact ⟨rfl, HP.out⟩

        · have q1' : (s : Int) < (m : Int) := by omega
          have q2' : ¬ (m : Int) < (en : Int) := by omega
          by_cases q1 : a < s
          · by_cases q2 : s < d
            · obtain ⟨l1, hp1, he1⟩ := HP.out.some
              have hlen : l1.length = N := by rw [hp1.length_eq]; exact H.out.2.1
              have hc := H.out.2.2 _ _ he1 hlen a s d q1 q2 (by omega) (by omega)
              have q1' : (a : Int) < (s : Int) := by omega
              have q2' : (s : Int) < (d : Int) := by omega
              have HC := Lib.hid (And.intro hc hp1)
              clear hc hp1 he1 hlen
              go_wp2_with fail
              refine HC.out.1.mono ?_
              rintro e w2 ⟨rfl, hq⟩
              have hP2 := HP.out.after HC.out.2 hq
              clear HP HC
              have HP := Lib.hid hP2
              clear hP2 hq q1' q2'
              by_cases q1 : d < en
              · by_cases q2 : en < b
                · obtain ⟨l1, hp1, he1⟩ := HP.out.some
                  have hlen : l1.length = N := by rw [hp1.length_eq]; exact H.out.2.1
                  have hc := H.out.2.2 _ _ he1 hlen d en b q1 q2 (by omega) (by omega)
                  have q1' : (d : Int) < (en : Int) := by omega
                  have q2' : (en : Int) < (b : Int) := by omega
                  have HC := Lib.hid (And.intro hc hp1)
                  clear hc hp1 he1 hlen
                  go_wp2_with fail
                  refine HC.out.1.mono ?_
                  rintro e w2 ⟨rfl, hq⟩
                  have hP2 := HP.out.after HC.out.2 hq
                  clear HP HC
                  have HP := Lib.hid hP2
                  clear hP2 hq q1' q2'
                  go_wp2
                  go_end0
                  exact ⟨rfl, HP.out⟩

                · have q1' : (d : Int) < (en : Int) := by omega
                  have q2' : ¬ (en : Int) < (b : Int) := by omega
                  go_wp2
                  go_end0
                  exact ⟨rfl, HP.out⟩

              · have q1' : ¬ (d : Int) < (en : Int) := by omega
                go_wp2
                go_end0
                exact ⟨rfl, HP.out⟩

            · have q1' : (a : Int) < (s : Int) := by omega
              have q2' : ¬ (s : Int) < (d : Int) := by omega
              by_cases q1 : d < en
              · by_cases q2 : en < b
                · obtain ⟨l1, hp1, he1⟩ := HP.out.some
                  have hlen : l1.length = N := by rw [hp1.length_eq]; exact H.out.2.1
                  have hc := H.out.2.2 _ _ he1 hlen d en b q1 q2 (by omega) (by omega)
                  have q1' : (d : Int) < (en : Int) := by omega
                  have q2' : (en : Int) < (b : Int) := by omega
                  have HC := Lib.hid (And.intro hc hp1)
                  clear hc hp1 he1 hlen
                  go_wp2_with fail
                  refine HC.out.1.mono ?_
                  rintro e w2 ⟨rfl, hq⟩
                  have hP2 := HP.out.after HC.out.2 hq
                  clear HP HC
                  have HP := Lib.hid hP2
                  clear hP2 hq q1' q2'
                  go_wp2
                  go_end0
                  exact ⟨rfl, HP.out⟩

                · have q1' : (d : Int) < (en : Int) := by omega
                  have q2' : ¬ (en : Int) < (b : Int) := by omega
                  go_wp2
                  go_end0
                  exact ⟨rfl, HP.out⟩

              · have q1' : ¬ (d : Int) < (en : Int) := by omega
                go_wp2
                go_end0
                exact ⟨rfl, HP.out⟩

          · have q1' : ¬ (a : Int) < (s : Int) := by omega
            by_cases q1 : d < en
            · by_cases q2 : en < b
              · obtain ⟨l1, hp1, he1⟩ := HP.out.some
                have hlen : l1.length = N := by rw [hp1.length_eq]; exact H.out.2.1
                have hc := H.out.2.2 _ _ he1 hlen d en b q1 q2 (by omega) (by omega)
                have q1' : (d : Int) < (en : Int) := by omega
                have q2' : (en : Int) < (b : Int) := by omega
                have HC := Lib.hid (And.intro hc hp1)
                clear hc hp1 he1 hlen
                go_wp2_with fail
                refine HC.out.1.mono ?_
                rintro e w2 ⟨rfl, hq⟩
                have hP2 := HP.out.after HC.out.2 hq
                clear HP HC
                have HP := Lib.hid hP2
                clear hP2 hq q1' q2'
                go_wp2
                go_end0
                exact ⟨rfl, HP.out⟩

              · have q1' : (d : Int) < (en : Int) := by omega
                have q2' : ¬ (en : Int) < (b : Int) := by omega
                go_wp2
                go_end0
                exact ⟨rfl, HP.out⟩

            · have q1' : ¬ (d : Int) < (en : Int) := by omega
              go_wp2
              go_end0
              exact ⟨rfl, HP.out⟩

      · have q1' : ¬ (s : Int) < (m : Int) := by omega
        by_cases q1 : a < s
        · by_cases q2 : s < d
          · obtain ⟨l1, hp1, he1⟩ := HP.out.some
            have hlen : l1.length = N := by rw [hp1.length_eq]; exact H.out.2.1
            have hc := H.out.2.2 _ _ he1 hlen a s d q1 q2 (by omega) (by omega)
            have q1' : (a : Int) < (s : Int) := by omega
            have q2' : (s : Int) < (d : Int) := by omega
            have HC := Lib.hid (And.intro hc hp1)
            clear hc hp1 he1 hlen
            go_wp2_with fail
            refine HC.out.1.mono ?_
            rintro e w2 ⟨rfl, hq⟩
            have hP2 := HP.out.after HC.out.2 hq
            clear HP HC
            have HP := Lib.hid hP2
            clear hP2 hq q1' q2'
            by_cases q1 : d < en
            · by_cases q2 : en < b
              · obtain ⟨l1, hp1, he1⟩ := HP.out.some
                have hlen : l1.length = N := by rw [hp1.length_eq]; exact H.out.2.1
                have hc := H.out.2.2 _ _ he1 hlen d en b q1 q2 (by omega) (by omega)
                have q1' : (d : Int) < (en : Int) := by omega
                have q2' : (en : Int) < (b : Int) := by omega
                have HC := Lib.hid (And.intro hc hp1)
                clear hc hp1 he1 hlen
                go_wp2_with fail
                refine HC.out.1.mono ?_
                rintro e w2 ⟨rfl, hq⟩
                have hP2 := HP.out.after HC.out.2 hq
                clear HP HC
                have HP := Lib.hid hP2
                clear hP2 hq q1' q2'
                go_wp2
                go_end0
                exact ⟨rfl, HP.out⟩

              · have q1' : (d : Int) < (en : Int) := by omega
                have q2' : ¬ (en : Int) < (b : Int) := by omega
                go_wp2
                go_end0
                exact ⟨rfl, HP.out⟩

            · have q1' : ¬ (d : Int) < (en : Int) := by omega
              go_wp2
              go_end0
              exact ⟨rfl, HP.out⟩

          · have q1' : (a : Int) < (s : Int) := by omega
            have q2' : ¬ (s : Int) < (d : Int) := by omega
            by_cases q1 : d < en
            · by_cases q2 : en < b
              · obtain ⟨l1, hp1, he1⟩ := HP.out.some
                have hlen : l1.length = N := by rw [hp1.length_eq]; exact H.out.2.1
                have hc := H.out.2.2 _ _ he1 hlen d en b q1 q2 (by omega) (by omega)
                have q1' : (d : Int) < (en : Int) := by omega
                have q2' : (en : Int) < (b : Int) := by omega
                have HC := Lib.hid (And.intro hc hp1)
                clear hc hp1 he1 hlen
                go_wp2_with fail
                refine HC.out.1.mono ?_
                rintro e w2 ⟨rfl, hq⟩
                have hP2 := HP.out.after HC.out.2 hq
                clear HP HC
                have HP := Lib.hid hP2
                clear hP2 hq q1' q2'
                go_wp2
                go_end0
                exact ⟨rfl, HP.out⟩

              · have q1' : (d : Int) < (en : Int) := by omega
                have q2' : ¬ (en : Int) < (b : Int) := by omega
                go_wp2
                go_end0
                exact ⟨rfl, HP.out⟩

            · have q1' : ¬ (d : Int) < (en : Int) := by omega
              go_wp2
              go_end0
              exact ⟨rfl, HP.out⟩

        · have q1' : ¬ (a : Int) < (s : Int) := by omega
          by_cases q1 : d < en
          · by_cases q2 : en < b
            · obtain ⟨l1, hp1, he1⟩ := HP.out.some
              have hlen : l1.length = N := by rw [hp1.length_eq]; exact H.out.2.1
              have hc := H.out.2.2 _ _ he1 hlen d en b q1 q2 (by omega) (by omega)
              have q1' : (d : Int) < (en : Int) := by omega
              have q2' : (en : Int) < (b : Int) := by omega
              have HC := Lib.hid (And.intro hc hp1)
              clear hc hp1 he1 hlen
              go_wp2_with fail
              refine HC.out.1.mono ?_
              rintro e w2 ⟨rfl, hq⟩
              have hP2 := HP.out.after HC.out.2 hq
              clear HP HC
              have HP := Lib.hid hP2
              clear hP2 hq q1' q2'
              go_wp2
              go_end0
              exact ⟨rfl, HP.out⟩

            · have q1' : (d : Int) < (en : Int) := by omega
              have q2' : ¬ (en : Int) < (b : Int) := by omega
              go_wp2
              go_end0
              exact ⟨rfl, HP.out⟩

          · have q1' : ¬ (d : Int) < (en : Int) := by omega
            go_wp2
            go_end0
            exact ⟨rfl, HP.out⟩

theorem symMerge_all (N g cap : Nat) (hN6 : N ≤ 600) : ∀ f, MergesTo f g N cap
  | 0 => fun _ _ _ _ _ _ _ h1 h2 _ hf => absurd hf (by omega)
  | f + 1 => fun w l he hN a m b h1 h2 hb hf => by
    by_cases c1 : m = a + 1
    · exact merge_left he hN hN6 h1 h2 hb c1
    · by_cases c2 : b = m + 1
      · exact merge_right he hN hN6 h1 h2 hb c1 c2
      · by_cases c3 : (a + b) / 2 < m
        · exact merge_hi he hN hN6 (symMerge_all N g cap hN6 f) h1 h2 hb hf c1 c2 rfl c3
        · exact merge_lo he hN hN6 (symMerge_all N g cap hN6 f) h1 h2 hb hf c1 c2 rfl (by omega)
end Go.Proofs.YtpeipjfmibjoiaaDoor

namespace Go.Proofs.YtpeipjfmibjoiaaDoor
open Go.RowKit

set_option maxRecDepth 100000 in
set_option maxHeartbeats 8000000 in
theorem stable_c {w : World} {g N cap : Nat} {l : List RowE} (he : Elts w g l) (hN : l.length = N) (h0 : 0 < N) (hN6 : N ≤ 600) :
    Calls Tryd.prog 119 #[.slice (some ⟨g, 0, none⟩) N cap, .int .i64 (N : Int), cmpF] w fun e w' => e = .returned (.tuple #[]) ∧ Perm3 w g l w' := by
  have hpos : 0 < l.length := by omega
  have H := Lib.hid (And.intro he hN)
  clear he hN
  go_enter Tryd.func119, Tryd.ntmps119
  go_wp2
  go_loopw [7, 8] (fun av bv wi => ∃ a : Nat, a ≤ N ∧ av = .int .i64 a ∧ bv = .int .i64 ((a + 20 : Nat) : Int) ∧ Perm3 w g l wi) (fun av _ _ => N - (intOf av).toNat)
  case atStart => exact ⟨0, Nat.zero_le _, rfl, rfl, .refl H.out.1⟩
  case round =>
    rename World => wi
    obtain ⟨a, ha, rfl, rfl, hP⟩ := hrel
    obtain ⟨l1, hp1, he1⟩ := hP.some
    have hlen : l1.length = N := by rw [hp1.length_eq]; exact H.out.2
    obtain ⟨b, hb⟩ : ∃ b, b = a + 20 := ⟨_, rfl⟩
    rw [← hb]
    by_cases hlt : b ≤ N
    · have hlt' : (b : Int) ≤ N := by omega
      have hc := insertion_c (cap := cap) he1 hlen hN6 (a := a) (b := b) (by omega) hlt
      have HC := Lib.hid (And.intro hc (And.intro hP hp1))
      have hb1 : a + 20 ≤ b := by omega
      have hb2 : b ≤ a + 20 := by omega
      clear hc hP hp1 he1 hlen hb
      go_wp2_with fail
      refine HC.out.1.mono ?_
      rintro e w2 ⟨rfl, hq⟩
      have HP := Lib.hid (HC.out.2.1.after HC.out.2.2 hq)
      clear hq
      go_wp2
      go_roundw
      case rel => exact ⟨b, hlt, rfl, by go_num, HP.out⟩
      case measure => simp [intOf]; omega
    · have hlt' : ¬ (b : Int) ≤ N := by omega
      have hc := insertion_c (cap := cap) he1 hlen hN6 (a := a) (b := N) (by omega) (Nat.le_refl _)
      have HC := Lib.hid (And.intro hc (And.intro hP hp1))
      clear hc hP hp1 he1 hlen hb
      go_wp2_with fail
      refine HC.out.1.mono ?_
      rintro e w2 ⟨rfl, hq⟩
      have HP := Lib.hid (HC.out.2.1.after HC.out.2.2 hq)
      clear hq hlt hlt' ha HC
      go_wp2
      go_loopw [6] (fun sv wi => ∃ s : Nat, 20 ≤ s ∧ s ≤ 1200 ∧ sv = .int .i64 s ∧ Perm3 w g l wi) (fun sv _ => 1201 - (intOf sv).toNat)
      case atStart => exact ⟨20, Nat.le_refl _, by omega, rfl, HP.out⟩
      case round =>
        clear HP
        rename World => wj
        obtain ⟨s, hs1, hs2, rfl, hP⟩ := hrel
        by_cases hlt : s < N
        · have hlt' : (s : Int) < N := by omega
          have HP := Lib.hid hP
          clear hP
          go_wp2
          go_loopw [7, 8] (fun av bv wk => ∃ a b : Nat, a ≤ N ∧ a + 2 * s ≤ b ∧ b ≤ a + 2 * s ∧ av = .int .i64 a ∧ bv = .int .i64 b ∧ Perm3 w g l wk) (fun av _ _ => N - (intOf av).toNat)
          case atStart => exact ⟨0, 2 * s, Nat.zero_le _, by omega, by omega, rfl, first_int (by omega), HP.out⟩
          case round =>
            clear HP
            rename World => wk
            obtain ⟨a, b, ha, hb1, hb2, rfl, rfl, hP⟩ := hrel
            obtain ⟨l1, hp1, he1⟩ := hP.some
            have hlen : l1.length = N := by rw [hp1.length_eq]; exact H.out.2
            obtain ⟨m, hm⟩ : ∃ m, m = a + s := ⟨_, rfl⟩
            have hmm : (a : Int) + (s : Int) = (m : Int) := by omega
            have hm1 : m ≤ a + s := by omega
            have hm2 : a + s ≤ m := by omega
            clear hm
            by_cases hbn : b ≤ N
            · have hbn' : (b : Int) ≤ N := by omega
              have hc := symMerge_all N g cap hN6 (b - a) wk l1 he1 hlen a m b (by omega) (by omega) hbn (Nat.le_refl _)
              have HC := Lib.hid (And.intro hc (And.intro hP hp1))
              clear hc hP hp1 he1 hlen
              go_wp2_with fail
              refine HC.out.1.mono ?_
              rintro e w2 ⟨rfl, hq⟩
              have HP := Lib.hid (HC.out.2.1.after HC.out.2.2 hq)
              clear hq
              go_wp2
              go_roundw
              case rel => exact ⟨b, b + 2 * s, by omega, by omega, by omega, rfl, first_int (by omega), HP.out⟩
              case measure => simp [intOf]; omega
            · have hbn' : ¬ (b : Int) ≤ N := by omega
              by_cases hmn : m < N
              · have hmn' : (m : Int) < N := by omega
                have hc := symMerge_all N g cap hN6 (N - a) wk l1 he1 hlen a m N (by omega) hmn (Nat.le_refl _) (Nat.le_refl _)
                have HC := Lib.hid (And.intro hc (And.intro hP hp1))
                clear hc hP hp1 he1 hlen
                go_wp2_with fail
                refine HC.out.1.mono ?_
                rintro e w2 ⟨rfl, hq⟩
                have HP := Lib.hid (HC.out.2.1.after HC.out.2.2 hq)
                clear hq
                go_wp2
                go_roundw
                case rel => exact ⟨s * 2, by omega, by omega, first_int (by omega), HP.out⟩
                case measure => simp [intOf]; omega
              · have hmn' : ¬ (m : Int) < N := by omega
                have HP := Lib.hid hP
                clear hP hp1 he1 hlen
                go_wp2
                go_roundw
                case rel => exact ⟨s * 2, by omega, by omega, first_int (by omega), HP.out⟩
                case measure => simp [intOf]; omega
        · have hlt' : ¬ (s : Int) < N := by omega
          have HP := Lib.hid hP
          clear hP
          go_wp2
          go_end0
          exact ⟨rfl, HP.out⟩

set_option maxRecDepth 100000 in
set_option maxHeartbeats 1000000 in
theorem sortStable_c {w : World} {g N cap : Nat} {l : List RowE} (he : Elts w g l) (hN : l.length = N) (h0 : 0 < N) (hN6 : N ≤ 600) :
    Calls Tryd.prog 74 #[.slice (some ⟨g, 0, none⟩) N cap, cmpF] w fun e w' => e = .returned (.tuple #[]) ∧ Perm3 w g l w' := by
  have HC := Lib.hid (stable_c (cap := cap) he hN h0 hN6)
  clear he hN
  go_enter Tryd.func74, Tryd.ntmps74
  go_wp2_with fail
  refine HC.out.mono ?_
  rintro e w2 ⟨rfl, hq⟩
  have HP := Lib.hid hq
  clear hq
  go_wp2
  go_end0
  exact ⟨rfl, HP.out⟩
end Go.Proofs.YtpeipjfmibjoiaaDoor
