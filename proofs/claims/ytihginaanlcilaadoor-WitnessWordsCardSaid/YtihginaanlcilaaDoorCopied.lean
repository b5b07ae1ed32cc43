/- witness.copied: an automaton copied into memory of the call's own. -/
import Derived.Test.YtihginaanlcilaaDoorClone
import Derived.Test.YtihginaanlcilaaDoorCopyRows
import Derived.Deep.AppendLies
import Derived.Deep.RegionLaw
namespace Go.Proofs.YtihginaanlcilaaDoor
open Go.RowKit

theorem Rows2.block {w w' : World} {B : Nat} {own : Nat → Nat} {v : Value} {hs : List Value} {rows : List (List Int)} (h : Rows2 w B own v hs rows) (hb : ∀ g, B ≤ g → g < w.heap.size → w'.heap[g]? = w.heap[g]?) : Rows2 w' B own v hs rows :=
  ⟨own_block h.top fun g hg hl => hb g (h.top.lt g hg).1 hl, h.topOwn, fun i hv l h1 h2 => ⟨own_block (h.row i hv l h1 h2).1 fun g hg hl => hb g ((h.row i hv l h1 h2).1.lt g hg).1 hl, (h.row i hv l h1 h2).2⟩⟩

theorem cloneI_s {va : Value} {la : List Int} {w : World} {n : Nat} (ha : IntsK .i64 w va la) (hn : la.length = n) (hb8 : n * 8 ≤ 140737488355328) :
    Calls Tryd.prog 47 #[va] w fun e w' => ∃ a cap, e = .returned (.slice a n cap) ∧ w'.ownsRow w.heap.size 3 1 (.slice a n cap) n (intsV la) ∧ Ext w w' := by
  subst hn
  refine (cloneI_c ha hb8).mono ?_
  rintro e w' ⟨v, rfl, hown, hx⟩
  obtain ⟨a, cap, rfl, _⟩ := own_read hown
  exact ⟨a, cap, rfl, hown, hx⟩

/-- copied's working memory: its parameter's box at b1, its result so far at bO; S0: how much lay when the loop began -/
structure CpS (w wr : World) (S0 b1 bO : Nat) (vl : Value) (own : Nat → Nat) (ov : Value) (hs : List Value) (rows : List (List Int)) : Prop where
  ext : Ext w wr
  size : S0 ≤ wr.heap.size
  pos : w.heap.size ≤ b1 ∧ w.heap.size ≤ bO ∧ b1 < S0 ∧ bO < S0 ∧ b1 + 1 < bO
  q1 : wr.cell? ⟨b1, 1, none⟩ = some vl
  c0 : wr.cell? ⟨bO, 0, none⟩ = some ov
  c1 : wr.cell? ⟨bO, 1, none⟩ = some (.slice none 0 0)
  f0 : wr.frozen? ⟨bO, 0, none⟩ = false
  f1 : wr.frozen? ⟨bO, 1, none⟩ = false
  r0 : wr.cell? ⟨b1 + 1, 0, none⟩ = some (.slice none 0 0)
  r1 : wr.cell? ⟨b1 + 1, 1, none⟩ = some (.slice none 0 0)
  g0 : wr.frozen? ⟨b1 + 1, 0, none⟩ = false
  g1 : wr.frozen? ⟨b1 + 1, 1, none⟩ = false
  rows : Rows2 wr S0 own ov hs rows

theorem CpS.snoc {w wr w5 w6 : World} {S0 b1 bO : Nat} {vl : Value} {own : Nat → Nat} {ov v' h5 : Value} {hs : List Value} {rows : List (List Int)} {l : List Int} {o : Obj} (h : CpS w wr S0 b1 bO vl own ov hs rows) (hx5 : Ext wr w5)
    (hown5 : w5.ownsRow wr.heap.size 3 1 h5 l.length (intsV l)) (hown6 : w6.ownsRow S0 23 1 v' (rows.length + 1) (hs ++ [h5])) (hg : (w5.alloc o).grownBy w6 ov.ownBlock)
    (hat : v'.ownBlock = ov.ownBlock ∨ v'.ownBlock = some (w5.heap.size + 1)) : ∃ own', CpS w (w6.setCell ⟨bO, 0, none⟩ v') S0 b1 bO vl own' v' (hs ++ [h5]) (rows ++ [l]) := by
  obtain ⟨own', hr'⟩ := h.rows.snoc (l := l) (w2 := w5.alloc o) hx5 (Ext.box _ _) h.size hown5 hown6 hg (by rw [World.size_alloc]; exact hat)
  obtain ⟨p1, p2, p3, p4, p5⟩ := h.pos
  have hs5 := hx5.size
  have hs6 := hg.size
  rw [World.size_alloc] at hs6
  have hsz := h.size
  have hk : ∀ g, g < S0 → w6.heap[g]? = wr.heap[g]? := fun g hl => by
    rw [hg.block g (by rw [World.size_alloc]; omega) (fun e => by have := (h.rows.top.lt g e.symm).1; omega)]
    exact (hx5.alloc o).block g (by omega)
  have hE : Ext w w6 := Below.grown ((h.ext.trans hx5).alloc o) hg (by have := h.ext.size; rw [World.size_alloc]; omega) (fun g e => by have := (h.rows.top.lt g e).1; omega)
  have hc : ∀ {b j : Nat} {v : Value}, b < S0 → wr.cell? ⟨b, j, none⟩ = some v → w6.cell? ⟨b, j, none⟩ = some v := fun {b j v} hb hv => (World.cell?_of_block (a := ⟨b, j, none⟩) (hk b hb)).trans hv
  have hf : ∀ {b j : Nat}, b < S0 → wr.frozen? ⟨b, j, none⟩ = false → w6.frozen? ⟨b, j, none⟩ = false := fun {b j} hb hv => (World.frozen?_of_block (a := ⟨b, j, none⟩) (hk b hb)).trans hv
  have hF : Frm (fun a _ => a = bO) w6 (w6.setCell ⟨bO, 0, none⟩ v') := (Frm.refl (fun a _ => a = bO) w6).setCell (.inl rfl) _
  refine ⟨own', hF.ext hE (fun k j e => by omega), by simp; omega, h.pos, ?_, ?_, ?_, ?_, ?_, hF.cell_some (hc (by omega) h.r0) (by omega), hF.cell_some (hc (by omega) h.r1) (by omega), ?_, ?_, hr'.block (fun g hg1 hl => hF.block g hl (fun j e => by omega))⟩
  · exact hF.cell_some (hc (by omega) h.q1) (by omega)
  · exact World.cell?_setCell_same _ _ _ (hc p4 h.c0)
  · rw [World.cell?_setCell_other _ _ _ _ (by simp)]; exact hc p4 h.c1
  · rw [World.frozen?_setCell]; exact hf p4 h.f0
  · rw [World.frozen?_setCell]; exact hf p4 h.f1
  · rw [World.frozen?_setCell]; exact hf (by omega) h.g0
  · rw [World.frozen?_setCell]; exact hf (by omega) h.g1

set_option maxRecDepth 100000 in
set_option maxHeartbeats 4000000 in
theorem copied_c {v : Value} {d : Dn} {w : World} (h : DenseV w v d) (hr : Reach d) : Calls Tryd.prog 29 #[v] w (CopiedDense d w) := by
  obtain ⟨vn, vl, rfl, hn, hl⟩ := h
  have HL := Lib.hid hl
  obtain ⟨h1, an, cn, rfl, _, ha2⟩ := hn.open
  obtain ⟨_, al, cl, rfl, _, _⟩ := hl.open
  obtain ⟨N, hN⟩ : ∃ N, N = d.next.length := ⟨_, rfl⟩
  obtain ⟨L, hL⟩ : ∃ L, L = d.label.length := ⟨_, rfl⟩
  obtain ⟨i0, hi0, hz0, hz1, hz2⟩ := info_parts slice_info
  have hb24 : N * 24 ≤ 140737488355328 := by rw [hN]; exact hr.next
  rw [← hN] at ha2 ⊢
  rw [← hL] at HL ⊢
  have HR := Lib.hid (And.intro hr (And.intro hN (And.intro hL ha2)))
  clear hn hl hr hN hL h1 ha2
  go_enter Tryd.func29, Tryd.ntmps29
  go_wp2_with fail
  obtain ⟨b1, hb1⟩ : ∃ b, b = w.heap.size := ⟨_, rfl⟩
  obtain ⟨bO, hbO⟩ : ∃ b, b = b1 + 1 + 1 := ⟨_, rfl⟩
  rw [← hb1, ← hbO]
  obtain ⟨W, hW⟩ : ∃ W, W = ((w.alloc (.cells #[.slice an N cn, .slice al L cl] 25)).alloc (.cells #[.slice none 0 0, .slice none 0 0] 25)).alloc (.cells #[.slice none 0 0, .slice none 0 0] 25) := ⟨_, rfl⟩
  rw [← hW]
  obtain ⟨S0, hS0⟩ : ∃ s, s = W.heap.size := ⟨_, rfl⟩
  have hC0 : CpS w W S0 b1 bO (.slice al L cl) (fun _ => 0) (.slice none 0 0) [] [] := by
    refine ⟨by rw [hW]; exact ((Ext.box _ _).alloc _).alloc _, by omega, ⟨by omega, by omega, ?_, ?_, by omega⟩, ?_, ?_, ?_, ?_, ?_, ?_, ?_, ?_, ?_, Rows2.nil _ _ _⟩
    all_goals (subst hb1; subst hbO; subst hS0; subst hW; first | (simp [World.cell?_alloc_at, World.cell?_alloc_past, World.frozen?_alloc_at, World.frozen?_alloc_past]; done) | exact ((Ext.box _ _).alloc _).cell (new_cell rfl) | (simp; omega))
  have HC0 := Lib.hid hC0
  clear hC0 hW hbO hb1 hS0
  go_loopw [9] (fun iv wr => ∃ (k : Nat) (own : Nat → Nat) (hs : List Value) (oa : Option Addr) (oc : Nat), k ≤ N ∧ iv = .int .i64 k ∧ CpS w wr S0 b1 bO (.slice al L cl) own (.slice oa k oc) hs (d.next.take k)) (fun iv _ => N - (intOf iv).toNat)
  case atStart => exact ⟨0, _, _, _, _, Nat.zero_le _, rfl, HC0.out⟩
  case round =>
    obtain ⟨k, own, hs, oa, oc, hk, rfl, hC⟩ := hrel
    by_cases hlt : k < N
    · obtain ⟨b, o, rfl, hcell⟩ := HR.out.2.2.2 (by omega)
      obtain ⟨r, hrc, hri⟩ := hcell k hlt
      have hlk : d.next[k]? = some (d.next.getD k []) := by
        rw [List.getD_eq_getElem?_getD, List.getElem?_eq_getElem (by rw [← HR.out.2.1]; exact hlt)]; rfl
      obtain ⟨l, hl⟩ : ∃ l, l = d.next.getD k [] := ⟨_, rfl⟩
      rw [← hl] at hri hlk
      have hl8 := HR.out.1.rows l (List.mem_of_getElem? hlk)
      obtain ⟨_, ra, rc, rfl, _, _⟩ := hri.open
      have q := hC.ext.cell hrc
      obtain ⟨Ln, hLn⟩ : ∃ n, n = l.length := ⟨_, rfl⟩
      rw [← hLn] at q hl8 hri
      have hcl := cloneI_s (n := Ln) (w := wr.drew) (IntsK.ext (hC.ext.drew) hri) hLn.symm hl8
      have hlen : (d.next.take k).length = k := by rw [List.length_take, Nat.min_eq_left (by rw [← HR.out.2.1]; exact hk)]
      have htop := hC.rows.top
      rw [hlen] at htop
      have hmax : k + 1 ≤ maxLen := by unfold maxLen; omega
      have c0 := hC.c0
      have f0 := hC.f0
      have hsz := hC.size
      have hj1 : (k : Int) < N := by omega
      have hbOs := hC.pos.2.2.2.1
      have HX := Lib.hid (And.intro hcl (And.intro htop (And.intro hC (And.intro hlen (And.intro hlk hLn)))))
      clear hcell hrc hri hl hcl htop hC hlen hlk hLn
      go_wp2_with fail
      go_region_law (first | (refine step_append_lies _ (by rfl) _ _ _ (by rfl) S0 23 i0 _ 1 24 Tryd.underlying22 hi0 hz0 hz1 hz2 rfl (by omega) (.slice oa k oc) k hs (by rfl) (own_ext (hxx.alloc (.cells #[.slice a5 Ln c5] 23)) HX.out.2.1) ⟨w5.heap.size, 0, none⟩ 1 1 [.slice a5 Ln c5] (by rfl) (by rfl) (World.news_of_block (cs := #[.slice a5 Ln c5]) (t := 23) (fr := (0, 0)) (heap_alloc_new w5 _)) (by simp [Value.oneCell']) (by omega) hmax (by omega) (by simp; omega) (w5.heap.size + 1) (by simp) ?_; intro gg cap w6 hown6 hgrow hat hlt6; have cO6 := (World.cell?_of_block (a := ⟨bO, 0, none⟩) (hgrow.block bO (by simp; omega) hnO)).trans ((Ext.box w5 (.cells #[.slice a5 Ln c5] 23)).cell e0); have fO6 := (World.frozen?_of_block (a := ⟨bO, 0, none⟩) (hgrow.block bO (by simp; omega) hnO)).trans ((Below.frozen (Ext.box w5 (.cells #[.slice a5 Ln c5] 23)) (p := ⟨bO, 0, none⟩) (lt_of_cell e0)).trans e1)) | (go_simp; go_at_call 47; (with_reducible refine HX.out.1.mono ?_); rintro e w5 ⟨a5, c5, rfl, hown5, hx5⟩; have e0 := hx5.cell (a := wr.drew) c0; have e1 : w5.frozen? ⟨bO, 0, none⟩ = false := (Below.frozen hx5 (p := ⟨bO, 0, none⟩) (lt_of_cell (w := wr.drew) c0)).trans f0; have hxx := (Ext.drew (Ext.refl wr)).trans hx5; have hz5 := hxx.size; have hl5 := lt_of_cell e0; have hnO : some bO ≠ (Value.slice oa k oc).ownBlock := (fun e => Nat.lt_irrefl bO (Nat.lt_of_lt_of_le hbOs (HX.out.2.1.lt bO e.symm).1))))
      all_goals
        obtain ⟨own', hC'⟩ := HX.out.2.2.1.snoc (l := l) (v' := .slice (some ⟨gg, 0, none⟩) (k + 1) cap) hxx (by rw [← HX.out.2.2.2.2.2]; exact hown5) (by rw [HX.out.2.2.2.1]; exact hown6) hgrow (by rcases hat with e | e; exact .inl e.symm; exact .inr (by simp [Value.ownBlock, e]))
        rw [← take_snoc' HX.out.2.2.2.2.1] at hC'
        generalize World.setCell _ _ _ = W9 at hC' ⊢
        have HC' := Lib.hid hC'
        clear hC' hown5 hx5 e0 e1 hxx hz5 hl5 hnO hown6 hgrow hat hlt6 cO6 fO6
        go_wp2
        go_roundw
        case rel => exact ⟨k + 1, own', _, _, _, by omega, by go_num, HC'.out⟩
        case measure => simp [intOf]; omega
    · obtain rfl : N = k := by omega
      have q1 := hC.q1
      have c0 := hC.c0
      have c1 := hC.c1
      have f0 := hC.f0
      have f1 := hC.f1
      have r0 := hC.r0
      have r1 := hC.r1
      have g0 := hC.g0
      have g1 := hC.g1
      have hj1 : ¬ (N : Int) < N := by omega
      have hl8 : L * 8 ≤ 140737488355328 := by rw [HR.out.2.2.1]; exact HR.out.1.label
      have hcl := cloneI_s (n := L) (w := wr) (IntsK.ext hC.ext HL.out) HR.out.2.2.1.symm hl8
      have HX := Lib.hid (And.intro hcl hC)
      clear hcl hC
      go_wp2_with fail
      refine HX.out.1.mono ?_
      rintro e w5 ⟨a5, c5, rfl, hown5, hx5⟩
      have d0 := hx5.cell c0
      have d1 := hx5.cell c1
      have d2 : w5.frozen? ⟨bO, 1, none⟩ = false := (Below.frozen hx5 (p := ⟨bO, 1, none⟩) (lt_of_cell c1)).trans f1
      have d3 := hx5.cell r0
      have d4 := hx5.cell r1
      have d5 : w5.frozen? ⟨b1 + 1, 0, none⟩ = false := (Below.frozen hx5 (p := ⟨b1 + 1, 0, none⟩) (lt_of_cell r0)).trans g0
      have d6 : w5.frozen? ⟨b1 + 1, 1, none⟩ = false := (Below.frozen hx5 (p := ⟨b1 + 1, 1, none⟩) (lt_of_cell r1)).trans g1
      have HY := Lib.hid (And.intro hown5 hx5)
      obtain ⟨p1, p2, p3, p4, p5⟩ := HX.out.2.pos
      have hne : ¬ bO = b1 + 1 := by omega
      have hne' : ¬ b1 + 1 = bO := by omega
      clear hown5 hx5 c0 c1 f0 f1 r0 r1 g0 g1 q1
      go_wp2_with fail
      obtain ⟨own', hD⟩ := OwnDense.of HX.out.2.rows HY.out.2 HX.out.2.size (by rw [← HR.out.2.2.1]; exact HY.out.1)
      have htk : d.next.take N = d.next := List.take_of_length_le (by rw [← HR.out.2.1]; exact Nat.le_refl _)
      rw [htk] at hD
      have hF : Frm (fun a _ => a = bO ∨ a = b1 + 1) w5 (((w5.setCell ⟨bO, 1, none⟩ (.slice a5 L c5)).setCell ⟨b1 + 1, 0, none⟩ (.slice oa N oc)).setCell ⟨b1 + 1, 1, none⟩ (.slice a5 L c5)) :=
        (((Frm.refl (fun a _ => a = bO ∨ a = b1 + 1) w5).setCell (.inl (.inl rfl)) _).setCell (.inl (.inr rfl)) _).setCell (.inl (.inr rfl)) _
      have hD2 := (hD.block (fun g hg hl => hF.block g hl (fun j e => by omega))).base (B' := w.heap.size) (by omega)
      have hEE := hF.ext (HX.out.2.ext.trans HY.out.2) (fun k j e => by omega)
      have i0 : (((w5.setCell ⟨bO, 1, none⟩ (.slice a5 L c5)).setCell ⟨b1 + 1, 0, none⟩ (.slice oa N oc)).setCell ⟨b1 + 1, 1, none⟩ (.slice a5 L c5)).cell? ⟨b1 + 1, 0, none⟩ = some (.slice oa N oc) := by
        rw [World.cell?_setCell_other _ _ _ _ (by simp)]
        refine World.cell?_setCell_same (u := .slice none 0 0) _ _ _ ?_
        rw [World.cell?_setCell_other _ _ _ _ (by first | (simp; done) | (simp; omega))]
        exact d3
      have i1 : (((w5.setCell ⟨bO, 1, none⟩ (.slice a5 L c5)).setCell ⟨b1 + 1, 0, none⟩ (.slice oa N oc)).setCell ⟨b1 + 1, 1, none⟩ (.slice a5 L c5)).cell? ⟨b1 + 1, 1, none⟩ = some (.slice a5 L c5) := by
        refine World.cell?_setCell_same (u := .slice none 0 0) _ _ _ ?_
        rw [World.cell?_setCell_other _ _ _ _ (by simp), World.cell?_setCell_other _ _ _ _ (by first | (simp; done) | (simp; omega))]
        exact d4
      generalize World.setCell _ ⟨b1 + 1, 1, none⟩ _ = W9 at hD2 hEE i0 i1 ⊢
      exact bodyPost_ret (v := .agg #[.slice oa N oc, .slice a5 L c5]) (by simp [results, Tryd.results29, go_sem, i0, i1]) rfl ⟨_, _, own', hs, rfl, hD2, hEE⟩
end Go.Proofs.YtihginaanlcilaaDoor
