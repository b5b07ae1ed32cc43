/- comb.live: the classes at which a row is not what another one is. -/
import Derived.Test.YtpeipjfmibjoiaaDoorCombV
import Derived.Test.YtpeipjfmibjoiaaDoorGrouped
namespace Go.Proofs.YtpeipjfmibjoiaaDoor
open Go.RowKit

/-- rows of a table in memory, opened: n rows of K entries each -/
structure TRows (w : World) (bn on n K : Nat) (T : Tbl) : Prop where
  n6 : n ≤ 600
  k1 : 1 ≤ K
  k2 : K ≤ 256
  len : T.next.length = n
  cnt : T.count = (K : Int)
  row : ∀ s, s < n → ∃ b o c, w.cell? ⟨bn, on + s, none⟩ = some (.slice (some ⟨b, o, none⟩) K c) ∧ ∀ k, k < K → w.cell? ⟨b, o + k, none⟩ = some (.int .i64 (CB.nx T s k))
theorem TRows.ext {w w' : World} {bn on n K : Nat} {T : Tbl} (h : TRows w bn on n K T) (hx : Ext w w') : TRows w' bn on n K T :=
  ⟨h.n6, h.k1, h.k2, h.len, h.cnt, fun s hs => by
    obtain ⟨b, o, c, h1, h2⟩ := h.row s hs
    exact ⟨b, o, c, hx.cell h1, fun k hk => hx.cell (h2 k hk)⟩⟩

theorem TMay.count1 {T : Tbl} (hm : TMay T) : 1 ≤ T.count ∧ T.count ≤ 256 := by
  have h1 := hm.cls.all
  have h2 := topc_le T.classes 256
  have h3 := hm.cls.low (i := 0) (by decide)
  have h4 := (hm.cls.step 0 (by decide)).1
  omega

theorem TblV.rows {w : World} {v : Value} {T : Tbl} (h : TblV w v T) (hm : TMay T) : ∃ (cv sv : Value) (bn on nc : Nat) (lv : Value) (n K : Nat), v = .agg #[cv, .int .i64 (K : Int), sv, .slice (some ⟨bn, on, none⟩) n nc, lv] ∧ TRows w bn on n K T ∧ 1 ≤ n := by
  obtain ⟨cv, sv, nv, lv, rfl, h1, h2, h3, h4⟩ := h
  obtain ⟨e3, an, nc, rfl, _, g3⟩ := RowsV.open h3
  have hn := hm.pos
  obtain ⟨bn, on, rfl, hc⟩ := g3 (by omega)
  have hk := hm.count1
  have hK : T.count = ((T.count.toNat : Nat) : Int) := by omega
  refine ⟨cv, sv, bn, on, nc, lv, T.next.length, T.count.toNat, by rw [← hK], ⟨hm.most, by omega, by omega, rfl, hK, fun s hs => ?_⟩, hn⟩
  obtain ⟨r, hr, hrow⟩ := hc s hs
  have hl := hm.row s hs
  obtain ⟨-, a, c, rfl, -, hel⟩ := IntsK.open hrow
  obtain ⟨b, o, rfl, hel2⟩ := hel (by omega)
  have e : (T.next.getD s []).length = T.count.toNat := by omega
  rw [e] at hr
  exact ⟨b, o, c, hr, fun k hk => hel2 k (by omega)⟩

/-- what live tells: all classes that are live, or more than most of them -/
def LiveR (T : Tbl) (s : Nat) (d : Int) (most : Nat) (w : World) (e : Ending) (w' : World) : Prop :=
  ∃ a c L, e = .returned (.slice a (L : List Nat).length c) ∧ ((L = CB.liveL T s d ∧ L.length ≤ most) ∨ most < L.length) ∧ L.length ≤ T.count.toNat ∧ w'.ownsRow w.heap.size 3 1 (.slice a L.length c) L.length (intsV (nI L)) ∧ Ext w w'

theorem intsV_snoc (L : List Nat) (k : Nat) : intsV (nI (L ++ [k])) = intsV (nI L) ++ [.int .i64 (k : Int)] := by simp [intsV, nI]

set_option maxRecDepth 100000 in
set_option maxHeartbeats 4000000 in
theorem live_c {w : World} {cv sv lv : Value} {bn on n nc K : Nat} {T : Tbl} (h : TRows w bn on n K T) {s : Nat} (hs : s < n) {d : Int} (hd : -1 ≤ d) (hdn : d < n) {most : Nat} (hmost : most ≤ 256) :
    Calls Tryd.prog 118 #[.agg #[cv, .int .i64 (K : Int), sv, .slice (some ⟨bn, on, none⟩) n nc, lv], .int .i64 (s : Int), .int .i64 d, .int .i64 (most : Int)] w (LiveR T s d most w) := by
  obtain ⟨W, hW⟩ : ∃ W, W = w.alloc (.cells #[cv, .int .i64 (K : Int), sv, .slice (some ⟨bn, on, none⟩) n nc, lv] 37) := ⟨_, rfl⟩
  have hxW : Ext w W := by rw [hW]; exact Ext.box _ _
  have q3 : W.cell? ⟨w.heap.size, 3, none⟩ = some (.slice (some ⟨bn, on, none⟩) n nc) := by rw [hW]; simp
  have hT := h.ext hxW
  obtain ⟨b, o, c, hrow, hel⟩ := hT.row s hs
  have hk2 := h.k2
  have hKt : T.count.toNat = K := by rw [h.cnt]; simp
  have H := Lib.hid (And.intro hxW (And.intro hT (And.intro hel (And.intro hKt hW))))
  have hs' : (s : Int) < n := by omega
  have HQ := Lib.hid q3
  obtain ⟨b', o', c', hrow', hel'⟩ := h.row s hs
  obtain ⟨e1, e2, e3⟩ : b' = b ∧ o' = o ∧ c' = c := by
    have := hxW.cell hrow'
    rw [hrow] at this
    simp only [Option.some.injEq, Value.slice.injEq, Addr.mk.injEq, true_and, and_true] at this
    exact ⟨this.1.1.symm, this.1.2.symm, this.2.symm⟩
  subst e1; subst e2; subst e3
  have hlt := lt_of_cell hrow'
  clear hel' hrow q3
  clear hxW hT hel hKt hW h
  go_enter Tryd.func118, Tryd.ntmps118
  go_wp2_with fail
  rw [← H.out.2.2.2.2]
  clear hrow' hlt hs'
  go_loopw [9, 19] (fun lv' iv wr => ∃ i : Nat, i ≤ K ∧ iv = .int .i64 i ∧ (CB.liveN T s d i).length ≤ most ∧ wr.ownsRow W.heap.size 3 1 lv' (CB.liveN T s d i).length (intsV (nI (CB.liveN T s d i))) ∧ Ext W wr) (fun _ iv _ => K - (intOf iv).toNat)
  case atStart => exact ⟨0, Nat.zero_le _, rfl, Nat.zero_le _, World.ownsRow_nil _ _ _ _, Ext.refl _⟩
  case round =>
    obtain ⟨i, hi, rfl, hlm, hown, hx⟩ := hrel
    obtain ⟨L, hL⟩ : ∃ L, L = (CB.liveN T s d i).length := ⟨_, rfl⟩
    rw [← hL] at hlm hown
    have hLi : L ≤ i := by rw [hL]; exact CB.liveN_len _ _ _ _
    obtain ⟨av, cc, hav, -⟩ := own_read hown
    subst hav
    by_cases hlt : i < K
    · have hj1 : (i : Int) < K := by omega
      have c1 := hx.cell (H.out.2.2.1 i hlt)
      obtain ⟨x, hxx⟩ : ∃ x, x = CB.nx T s i := ⟨_, rfl⟩
      rw [← hxx] at c1
      obtain ⟨y, hy⟩ : ∃ y, y = CB.other T d i := ⟨_, rfl⟩
      have hend : ∀ {v' : Value} {W' : World}, (x = y → False) → W'.ownsRow W.heap.size 3 1 v' (L + 1) (intsV (nI (CB.liveN T s d i)) ++ [.int .i64 (i : Int)]) → W'.ownsRow W.heap.size 3 1 v' (CB.liveN T s d (i + 1)).length (intsV (nI (CB.liveN T s d (i + 1)))) := fun hne ho => by
        rw [CB.liveN_yes (by rw [← hxx, ← hy]; exact hne), intsV_snoc, List.length_append, ← hL]; exact ho
      have hyes : x ≠ y → (CB.liveN T s d (i + 1)).length = L + 1 := fun hne => by rw [CB.liveN_yes (by rw [← hxx, ← hy]; exact hne), List.length_append, ← hL]; rfl
      have hno : x = y → CB.liveN T s d (i + 1) = CB.liveN T s d i := fun e => CB.liveN_no (by rw [← hxx, ← hy]; exact e)
      have HE := Lib.hid (And.intro hx (And.intro hown (And.intro hL (And.intro @hend (And.intro hyes hno)))))
      obtain ⟨i0, hi0, hz0, hz1, hz2⟩ := info_parts int_info
      have hownb := own_ext (Ext.box wr (.cells #[.int .i64 (i : Int)] 3)) hown
      have hcell := cell_one_new wr (.int .i64 (i : Int)) 3
      have h1c : ∀ u ∈ [Value.int .i64 (i : Int)], u.oneCell' = true := by intro u hu; simp at hu; subst hu; rfl
      have hbase : W.heap.size ≤ (wr.alloc (.cells #[.int .i64 (i : Int)] 3)).heap.size := by have := hx.size; simp; omega
      have hmax : L + 1 ≤ maxLen := by unfold maxLen; omega
      clear hend hyes hno hL hxx
      by_cases hd0 : 0 ≤ d
      · obtain ⟨D, rfl⟩ : ∃ D : Nat, d = D := ⟨d.toNat, by omega⟩
        obtain ⟨b2, o2, c2, hr2, hel2⟩ := H.out.2.1.row D (by omega)
        have k2 := hx.cell hr2
        have k3 := hx.cell (hel2 i hlt)
        have k4 := hx.cell HQ.out
        have ey : y = CB.nx T D i := by rw [hy]; unfold CB.other; rw [if_neg (by omega), Int.toNat_natCast]
        rw [← ey] at k3
        clear ey hy hr2 hel2 hx hown
        have hD : (D : Int) < n := hdn
        by_cases hne : x = y
        · have hne' : (x != y) = false := by simpa using hne
          have HN := Lib.hid (HE.out.2.2.2.2.2 hne)
          clear hne
          go_wp2
          go_roundw
          case rel => exact ⟨i + 1, by omega, by go_num, by rw [HN.out, ← HE.out.2.2.1]; omega, by rw [HN.out, ← HE.out.2.2.1]; exact HE.out.2.1, HE.out.1⟩
          case measure => simp [intOf]; omega
        · have hne' : (x != y) = true := by rw [bne_iff_ne]; exact hne
          have HN := Lib.hid hne
          clear hne
          by_cases hm : L + 1 ≤ most
          · have hm' : ¬ (most : Int) < (L : Int) + 1 := by omega
            go_wp2_with (at_builtin; refine wpList_append_own_at _ rfl _ _ 23 rfl W.heap.size 3 i0 (.int .i64 0) 1 8 Tryd.underlying23 hi0 hz0 hz1 hz2 rfl (by decide) _ _ _ rfl hownb ⟨wr.heap.size, 0, none⟩ 1 1 [.int .i64 (i : Int)] rfl rfl hcell h1c hmax (by omega) hbase ?_; intro v' W' hown' hg _ hat; obtain ⟨gg, cap', hv', -, -⟩ := own_slc hown' (by omega); subst hv')
            have HX := Lib.hid (And.intro (HE.out.2.2.2.1 HN.out hown') (Below.grown (HE.out.1.alloc _) hg (HE.out.1.alloc _).size (fun g e => (HE.out.2.1.lt g e).1) : Ext W W'))
            clear hown' hg hat
            go_roundw
            case rel => exact ⟨i + 1, by omega, by go_num, by rw [HE.out.2.2.2.2.1 HN.out]; exact hm, HX.out.1, HX.out.2⟩
            case measure => simp [intOf]; omega
          · have hm' : (most : Int) < (L : Int) + 1 := by omega
            go_wp2_with (at_builtin; refine wpList_append_own_at _ rfl _ _ 23 rfl W.heap.size 3 i0 (.int .i64 0) 1 8 Tryd.underlying23 hi0 hz0 hz1 hz2 rfl (by decide) _ _ _ rfl hownb ⟨wr.heap.size, 0, none⟩ 1 1 [.int .i64 (i : Int)] rfl rfl hcell h1c hmax (by omega) hbase ?_; intro v' W' hown' hg _ hat; obtain ⟨gg, cap', hv', -, -⟩ := own_slc hown' (by omega); subst hv')
            have HX := Lib.hid (And.intro (HE.out.2.2.2.1 HN.out hown') (Below.grown (HE.out.1.alloc _) hg (HE.out.1.alloc _).size (fun g e => (HE.out.2.1.lt g e).1) : Ext W W'))
            clear hown' hg hat
            go_ret
            have hy := HE.out.2.2.2.2.1 HN.out
            exact ⟨some ⟨gg, 0, none⟩, cap', CB.liveN T s _ (i + 1), by rw [hy]; rfl, .inr (by rw [hy]; omega), by rw [hy, H.out.2.2.2.1]; omega, by rw [hy]; have := own_base HX.out.1 H.out.1.size; rw [hy] at this; exact this, H.out.1.trans HX.out.2⟩
      · obtain rfl : d = -1 := by omega
        have ey : y = -1 := by rw [hy]; unfold CB.other; rw [if_pos (by omega)]
        clear hy hx hown
        by_cases hne : x = y
        · have hne' : (x != -1) = false := by rw [← ey]; simpa using hne
          have HN := Lib.hid (HE.out.2.2.2.2.2 hne)
          clear hne ey
          go_wp2
          go_roundw
          case rel => exact ⟨i + 1, by omega, by go_num, by rw [HN.out, ← HE.out.2.2.1]; omega, by rw [HN.out, ← HE.out.2.2.1]; exact HE.out.2.1, HE.out.1⟩
          case measure => simp [intOf]; omega
        · have hne' : (x != -1) = true := by rw [← ey, bne_iff_ne]; exact hne
          have HN := Lib.hid hne
          clear hne ey
          by_cases hm : L + 1 ≤ most
          · have hm' : ¬ (most : Int) < (L : Int) + 1 := by omega
            go_wp2_with (at_builtin; refine wpList_append_own_at _ rfl _ _ 23 rfl W.heap.size 3 i0 (.int .i64 0) 1 8 Tryd.underlying23 hi0 hz0 hz1 hz2 rfl (by decide) _ _ _ rfl hownb ⟨wr.heap.size, 0, none⟩ 1 1 [.int .i64 (i : Int)] rfl rfl hcell h1c hmax (by omega) hbase ?_; intro v' W' hown' hg _ hat; obtain ⟨gg, cap', hv', -, -⟩ := own_slc hown' (by omega); subst hv')
            have HX := Lib.hid (And.intro (HE.out.2.2.2.1 HN.out hown') (Below.grown (HE.out.1.alloc _) hg (HE.out.1.alloc _).size (fun g e => (HE.out.2.1.lt g e).1) : Ext W W'))
            clear hown' hg hat
            go_roundw
            case rel => exact ⟨i + 1, by omega, by go_num, by rw [HE.out.2.2.2.2.1 HN.out]; exact hm, HX.out.1, HX.out.2⟩
            case measure => simp [intOf]; omega
          · have hm' : (most : Int) < (L : Int) + 1 := by omega
            go_wp2_with (at_builtin; refine wpList_append_own_at _ rfl _ _ 23 rfl W.heap.size 3 i0 (.int .i64 0) 1 8 Tryd.underlying23 hi0 hz0 hz1 hz2 rfl (by decide) _ _ _ rfl hownb ⟨wr.heap.size, 0, none⟩ 1 1 [.int .i64 (i : Int)] rfl rfl hcell h1c hmax (by omega) hbase ?_; intro v' W' hown' hg _ hat; obtain ⟨gg, cap', hv', -, -⟩ := own_slc hown' (by omega); subst hv')
            have HX := Lib.hid (And.intro (HE.out.2.2.2.1 HN.out hown') (Below.grown (HE.out.1.alloc _) hg (HE.out.1.alloc _).size (fun g e => (HE.out.2.1.lt g e).1) : Ext W W'))
            clear hown' hg hat
            go_ret
            have hy := HE.out.2.2.2.2.1 HN.out
            exact ⟨some ⟨gg, 0, none⟩, cap', CB.liveN T s _ (i + 1), by rw [hy]; rfl, .inr (by rw [hy]; omega), by rw [hy, H.out.2.2.2.1]; omega, by rw [hy]; have := own_base HX.out.1 H.out.1.size; rw [hy] at this; exact this, H.out.1.trans HX.out.2⟩
    · obtain rfl : K = i := by omega
      have HE := Lib.hid (And.intro hx (And.intro hown (And.intro hL hlm)))
      clear hx hown hL hlm hlt hi
      go_wp2
      go_ret
      refine ⟨av, cc, CB.liveN T s d K, by rw [← HE.out.2.2.1]; rfl, .inl ⟨by unfold CB.liveL; rw [H.out.2.2.2.1], by rw [← HE.out.2.2.1]; exact HE.out.2.2.2⟩, by rw [← HE.out.2.2.1, H.out.2.2.2.1]; omega, by rw [← HE.out.2.2.1]; exact own_base HE.out.2.1 H.out.1.size, H.out.1.trans HE.out.1⟩
end Go.Proofs.YtpeipjfmibjoiaaDoor
