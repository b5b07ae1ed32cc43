/- bolterref0.CopyInts, CopyRows, CopyDense: copies that share nothing; each row in a block of its own. -/
import Derived.Test.YtihginaanlcilaaDoorOwn
import Derived.Maps.AppendAt
import Derived.Deep.RegionHeld3
namespace Go.Proofs.YtihginaanlcilaaDoor
open Go.RowKit

set_option maxHeartbeats 1000000 in
theorem copyInts_c {va : Value} {la : List Int} {w : World} (ha : IntsK .i64 w va la) (hb8 : la.length * 8 ≤ 140737488355328) :
    Calls Tryd.prog 35 #[va] w (Copied 3 .i64 la w) := by
  obtain ⟨h1, a, ca, rfl, hca, ha2⟩ := ha.open
  obtain ⟨i0, hi, hz0, hz1, hz2⟩ := info_parts int_info
  cases a with
  | none =>
    have hn : la = [] := by
      cases la with
      | nil => rfl
      | cons x l => obtain ⟨b, o, h, _⟩ := ha2 (by simp); cases h
    subst hn
    obtain rfl := hca.2 rfl
    go_enter Tryd.func35, Tryd.ntmps35
    go_wp2_with (at_builtin; refine wpList_append_own_none rfl _ _ 23 rfl w.heap.size 3 i0 1 Tryd.underlying23 hi _ _ _ rfl (World.ownsRow_nil _ _ _ _) rfl ?_)
    go_ret
    exact ⟨_, rfl, World.ownsRow_nil _ _ _ _, Ext.refl _⟩
  | some ad =>
    by_cases h0 : 0 < la.length
    · obtain ⟨b, o, h, h2⟩ := ha2 h0
      obtain rfl : ad = ⟨b, o, none⟩ := by simpa using h
      have h3 : 0 + la.length ≤ maxLen := by unfold maxLen; omega
      have h4 : (0 + la.length) * 8 ≤ 140737488355328 := by omega
      have h5 := news_ints (k := .i64) h2
      clear h2 ha2 ha
      go_enter Tryd.func35, Tryd.ntmps35
      go_wp2_with (at_builtin; refine wpList_append_own _ rfl _ _ 23 rfl w.heap.size 3 i0 (.int .i64 0) 1 8 Tryd.underlying23 hi hz0 hz1 hz2 rfl (by decide) _ _ _ rfl (World.ownsRow_nil _ _ _ _) ⟨b, o, none⟩ la.length ca (la.map (Value.int .i64)) rfl (by simp) h5 (one_ints _ _) h3 h4 (Nat.le_refl _) ?_; intro v' W hown hg _)
      go_ret
      rw [Nat.zero_add, List.nil_append] at hown
      exact ⟨_, rfl, hown, Below.grown (Ext.refl _) hg (Nat.le_refl _) (fun k hk => by cases hk)⟩
    · have hn : la = [] := List.eq_nil_of_length_eq_zero (by omega)
      subst hn
      go_enter Tryd.func35, Tryd.ntmps35
      go_wp2_with (at_builtin; refine wpList_append_own _ rfl _ _ 23 rfl w.heap.size 3 i0 (.int .i64 0) 1 8 Tryd.underlying23 hi hz0 hz1 hz2 rfl (by decide) _ _ _ rfl (World.ownsRow_nil _ _ _ _) ad 0 ca [] rfl rfl (fun j u h => by simp at h) (fun u h => by simp at h) (by unfold maxLen; omega) (by omega) (Nat.le_refl _) ?_; intro v' W hown hg _)
      go_ret
      exact ⟨_, rfl, hown, Below.grown (Ext.refl _) hg (Nat.le_refl _) (fun k hk => by cases hk)⟩

set_option maxRecDepth 100000 in
set_option maxHeartbeats 1000000 in
theorem copyRows_c {va : Value} {la : List (List Int)} {w : World} (ha : RowsV w va la) (hb24 : la.length * 24 ≤ 140737488355328) (hb8 : ∀ l ∈ la, l.length * 8 ≤ 140737488355328) :
    Calls Tryd.prog 34 #[va] w (CopiedRows la w) := by
  obtain ⟨h1, a, ca, rfl, hca, ha2⟩ := ha.open
  obtain ⟨i0, hi, hz0, hz1, hz2⟩ := info_parts slice_info
  obtain ⟨n, hn⟩ : ∃ n, n = la.length := ⟨_, rfl⟩
  rw [← hn] at h1 ha2 hb24 ⊢
  have HN := Lib.hid hn
  have HB := Lib.hid hb8
  clear hn ha hb8 hca
  go_enter Tryd.func34, Tryd.ntmps34
  go_wp2
  go_loopw [3, 4] (fun ov iv wr => ∃ (k : Nat) (own : Nat → Nat) (hs : List Value), k ≤ n ∧ iv = .int .i64 k ∧ Ext w wr ∧ Rows2 wr w.heap.size own ov hs (la.take k)) (fun _ iv _ => n - (intOf iv).toNat)
  case atStart => exact ⟨0, fun _ => 0, [], Nat.zero_le _, rfl, Ext.refl _, Rows2.nil _ _ _⟩
  case round =>
    obtain ⟨k, own, hs, hk, rfl, hx, hr⟩ := hrel
    by_cases hlt : k < n
    · obtain ⟨b, o, rfl, hcell⟩ := ha2 (by omega)
      obtain ⟨r, hrc, hri⟩ := hcell k hlt
      have hl8 := HB.out (la.getD k []) (by
        rw [List.getD_eq_getElem?_getD, List.getElem?_eq_getElem (by rw [← HN.out]; exact hlt)]; exact List.getElem_mem _)
      have c1 := hx.cell hrc
      have hri1 := IntsK.ext hx hri
      obtain ⟨l, hlk⟩ : ∃ l, l = la.getD k [] := ⟨_, rfl⟩
      rw [← hlk] at hri hri1 hl8
      have HL := Lib.hid hlk
      clear hcell hrc hri hlk ha2
      go_wp2_with fail
      refine (copyInts_c hri1 hl8).mono ?_
      rintro e w1 ⟨v, rfl, hown, hx1⟩
      have hrx := (hr.ext hx1).top.alloc (.cells #[v] 23)
      obtain ⟨va, vcap, hval, _, hvc, _⟩ := own_read hown
      obtain ⟨Ln, hLn⟩ : ∃ Ln, Ln = l.length := ⟨_, rfl⟩
      rw [← hLn] at hval hown
      have HLn := Lib.hid hLn
      clear hvc hLn
      subst hval
      have hcell := cell_one_new w1 (.slice va Ln vcap) 23
      have h1c : ∀ u ∈ [Value.slice va Ln vcap], u.oneCell' = true := by intro u hu; simp at hu; subst hu; rfl
      have hbase : w.heap.size ≤ (w1.alloc (.cells #[.slice va Ln vcap] 23)).heap.size := by have := hx.size; have := hx1.size; simp; omega
      have hmax : k + 1 ≤ maxLen := by unfold maxLen; omega
      rw [List.length_take, Nat.min_eq_left (by rw [← HN.out]; exact hk)] at hrx
      go_wp2_with (at_builtin; refine wpList_append_own_at _ rfl _ _ 22 rfl w.heap.size 23 i0 (.slice none 0 0) 1 24 Tryd.underlying22 hi hz0 hz1 hz2 rfl (by decide) _ k hs rfl hrx ⟨w1.heap.size, 0, none⟩ 1 1 [.slice va Ln vcap] rfl rfl hcell h1c hmax (by omega) hbase ?_; intro v' W hown' hg _ hat)
      go_roundw
      case rel =>
        have hlen : (la.take k).length = k := by rw [List.length_take, Nat.min_eq_left (by rw [← HN.out]; exact hk)]
        have hlk : la[k]? = some l := by
          have hk' : k < la.length := by rw [← HN.out]; exact hlt
          rw [HL.out, List.getD_eq_getElem?_getD, List.getElem?_eq_getElem hk']; rfl
        obtain ⟨own', hr'⟩ := hr.snoc (l := l) hx1 (Ext.box w1 (.cells #[.slice va Ln vcap] 23)) hx.size (by rw [← HLn.out]; exact hown) (by rw [hlen]; exact hown') hg hat
        refine ⟨k + 1, own', _, by omega, by go_num, ?_, by rw [take_snoc' hlk]; exact hr'⟩
        exact Below.grown ((hx.trans hx1).alloc _) hg (by simp; have := hx.size; have := hx1.size; omega) (fun g hg' => (hr.top.lt g hg').1)
      case measure => simp [intOf]; omega
    · obtain rfl : k = n := by omega
      go_wp2
      go_ret
      rw [HN.out, List.take_length] at hr
      exact ⟨_, own, hs, rfl, hr, hx⟩

theorem copyInts_s {va : Value} {la : List Int} {w : World} (ha : IntsK .i64 w va la) (hb8 : la.length * 8 ≤ 140737488355328) :
    Calls Tryd.prog 35 #[va] w fun e w' => ∃ a n cap, e = .returned (.slice a n cap) ∧ w'.ownsRow w.heap.size 3 1 (.slice a n cap) la.length (intsV la) ∧ Ext w w' := by
  refine (copyInts_c ha hb8).mono ?_
  rintro e w' ⟨v, rfl, hown, hx⟩
  obtain ⟨a, cap, rfl, _⟩ := own_read hown
  exact ⟨a, _, cap, rfl, hown, hx⟩

theorem copyRows_s {va : Value} {la : List (List Int)} {w : World} (ha : RowsV w va la) (hb24 : la.length * 24 ≤ 140737488355328) (hb8 : ∀ l ∈ la, l.length * 8 ≤ 140737488355328) :
    Calls Tryd.prog 34 #[va] w fun e w' => ∃ a n cap own hs, e = .returned (.slice a n cap) ∧ Rows2 w' w.heap.size own (.slice a n cap) hs la ∧ Ext w w' := by
  refine (copyRows_c ha hb24 hb8).mono ?_
  rintro e w' ⟨v, own, hs, rfl, hr, hx⟩
  obtain ⟨a, cap, rfl, _⟩ := own_read hr.top
  exact ⟨a, _, cap, own, hs, rfl, hr, hx⟩

set_option maxRecDepth 100000 in
set_option maxHeartbeats 1000000 in
theorem copyDense_c {v : Value} {d : Dn} {w : World} (h : DenseV w v d) (hr : Reach d) : Calls Tryd.prog 12 #[v] w (CopiedDense d w) := by
  obtain ⟨vn, vl, rfl, hn, hl⟩ := h
  have HN := Lib.hid hn
  have HL := Lib.hid hl
  obtain ⟨_, an, cn, rfl, _, _⟩ := hn.open
  obtain ⟨_, al, cl, rfl, _, _⟩ := hl.open
  have HR := Lib.hid hr
  clear hn hl hr
  go_enter Tryd.func12, Tryd.ntmps12
  obtain ⟨N, hN⟩ : ∃ N, N = d.next.length := ⟨_, rfl⟩
  obtain ⟨L, hL⟩ : ∃ L, L = d.label.length := ⟨_, rfl⟩
  rw [← hN] at HN ⊢
  rw [← hL] at HL ⊢
  clear hN hL
  go_wp2_with fail
  obtain ⟨W, hW⟩ : ∃ W, W = ((w.alloc (.cells #[.slice an N cn, .slice al L cl] 25)).alloc (.cells #[.slice none 0 0, .slice none 0 0] 25)) := ⟨_, rfl⟩
  rw [← hW]
  have hE : Ext w W := by rw [hW]; exact (Ext.box w _).alloc _
  have k0 : W.cell? ⟨w.heap.size, 0, none⟩ = some (.slice an N cn) := by rw [hW]; simp
  have k1 : W.cell? ⟨w.heap.size, 1, none⟩ = some (.slice al L cl) := by rw [hW]; simp
  have k2 : W.cell? ⟨w.heap.size + 1, 0, none⟩ = some (.slice none 0 0) := by rw [hW]; simp
  have k3 : W.cell? ⟨w.heap.size + 1, 1, none⟩ = some (.slice none 0 0) := by rw [hW]; simp
  have f2 : W.frozen? ⟨w.heap.size + 1, 0, none⟩ = false := by rw [hW]; simp
  have f3 : W.frozen? ⟨w.heap.size + 1, 1, none⟩ = false := by rw [hW]; simp
  have hsz : w.heap.size + 1 < W.heap.size := by rw [hW]; simp
  clear hW
  go_region_held3 (fun W => W.cell? ⟨w.heap.size, 0, none⟩ = some (.slice an N cn) ∧ W.cell? ⟨w.heap.size, 1, none⟩ = some (.slice al L cl))
    (first | exact ⟨k0, k1⟩ | exact ⟨j0, j1⟩ | exact ⟨i0, i1⟩ | go_keep)
    ((first | (go_at_call 34; refine (copyRows_s (RowsV.ext hE.drew HN.out) HR.out.next HR.out.rows).mono ?_; rintro e w1 ⟨a1, n1, c1, own, hs, rfl, hrows, hx1⟩; have j0 := hx1.cell (a := W.drew) k0; have j1 := hx1.cell (a := W.drew) k1; have j2 := hx1.cell (a := W.drew) k2; have j3 := hx1.cell (a := W.drew) k3) | (go_at_call 35; refine (copyInts_s (IntsK.ext (hE.drew.trans hx1) HL.out) HR.out.label).mono ?_; rintro e w2 ⟨a2, n2, c2, rfl, hlab, hx2⟩; have i0 := hx2.cell j0; have i1 := hx2.cell j1; have i2 := hx2.cell j2; have i3 := hx2.cell j3; have hX := Ext.trans (Ext.drew (Ext.refl W)) (hx1.trans hx2); have g2 := (Below.frozen hX (p := ⟨w.heap.size + 1, 0, none⟩) hsz).trans f2; have g3 := (Below.frozen hX (p := ⟨w.heap.size + 1, 1, none⟩) hsz).trans f3)))
  obtain ⟨own', hD⟩ := OwnDense.of hrows hx2 hx1.size hlab
  have hF : Frm (fun a _ => a = w.heap.size + 1) w2 ((w2.setCell ⟨w.heap.size + 1, 0, none⟩ (.slice a1 n1 c1)).setCell ⟨w.heap.size + 1, 1, none⟩ (.slice a2 n2 c2)) := ((Frm.refl (fun a _ => a = w.heap.size + 1) w2).setCell (.inl rfl) _).setCell (.inl rfl) _
  have hD2 := (hD.block (fun g hg hl => hF.block g hl (fun j e => by simp at hg; omega))).base (B' := w.heap.size) (by simp; omega)
  have hEE : Ext w ((w2.setCell ⟨w.heap.size + 1, 0, none⟩ (.slice a1 n1 c1)).setCell ⟨w.heap.size + 1, 1, none⟩ (.slice a2 n2 c2)) := hF.ext (hE.trans hX) (fun k j e => by omega)
  clear hF hD hrows hlab
  go_wp2
  exact bodyPost_ret (v := .agg #[.slice a1 n1 c1, .slice a2 n2 c2]) (by simp [results, Tryd.results12, go_sem, i2, i3]) rfl ⟨_, _, own', hs, rfl, hD2, hEE⟩
end Go.Proofs.YtihginaanlcilaaDoor
