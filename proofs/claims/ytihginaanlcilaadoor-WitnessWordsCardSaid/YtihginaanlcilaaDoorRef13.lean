/- bolterref13.told, Apart, Differ, one, Word, of automata that may be. -/
import Derived.Test.YtihginaanlcilaaDoorTold13
import Derived.Test.YtihginaanlcilaaDoorWitF
namespace Go.Proofs.YtihginaanlcilaaDoor
open Go.RowKit

theorem First.uniq {A B : LM.Aut} {x y : Nat} {P : Nat → Nat → Bool} {u u' : List Nat} (h : First A B x y P u) (h' : First A B x y P u') : u = u' := by
  rcases WM.sl_total u u' with e | e | e
  · exact e
  · exact absurd e (h'.first u h.bytes h.yes)
  · exact absurd e (h.first u' h'.bytes h'.yes)
theorem First.some {A B : LM.Aut} {x y : Nat} {P : Nat → Nat → Bool} {u : List Nat} (h : First A B x y P u) (h' : Nowhere A B x y P) : False := by
  have := h' u h.bytes
  rw [h.yes] at this; cases this
theorem Trail.wlen {NB : Nat} {S : List St} {L : List (Nat × List Nat)} (h : Trail NB S L) : ∀ (j : Nat) (s : St) (k : Nat) (w : List Nat), S[j]? = some s → L[j]? = some (k, w) → w.length ≤ j := by
  intro j
  induction j using Nat.strongRecOn with
  | _ j ih =>
    intro s k w h1 h2
    rcases h.back j s k w h1 h2 with ⟨_, rfl⟩ | ⟨f, kf, wf, _, hf, h3, rfl⟩
    · simp
    · have hlt : f < S.length := by rw [h.len]; exact (List.getElem?_eq_some_iff.1 h3).1
      have := ih f hf S[f] kf wf (List.getElem?_eq_getElem hlt) h3
      simp; omega
/-- a first word is not long -/
def Lim (A B : LM.Aut) (x y : Nat) (P : Nat → Nat → Bool) : Prop := ∀ u, First A B x y P u → u.length ≤ 1000000
theorem lim_first {A B : LM.Aut} {x y : Nat} {P : Nat → Nat → Bool} {u : List Nat} (h : First A B x y P u) (hu : u.length ≤ 1000000) : Lim A B x y P := fun u' h' => by rw [h'.uniq h]; exact hu
theorem lim_nowhere {A B : LM.Aut} {x y : Nat} {P : Nat → Nat → Bool} (h : Nowhere A B x y P) : Lim A B x y P := fun _ h' => absurd h fun hh => h'.some hh

set_option maxRecDepth 100000 in
set_option maxHeartbeats 4000000 in
theorem told_c {w : World} {va vb : Value} {a b : Dn} (ha : DenseV w va a) (hb : DenseV w vb b) (hma : May a) (hmb : May b) {x y : Nat} (hx : x < a.next.length) (hy : y < b.next.length) :
    Calls Tryd.prog 42 #[va, vb, .int .i64 (x : Int), .int .i64 (y : Int)] w (fun e w' => SearchR w a.aut b.aut x y (fun i k => a.lb i != b.lb k) e w' ∧ Lim a.aut b.aut x y (fun i k => a.lb i != b.lb k)) := by
  have hsp := fun W hxW => spread_c (w := W) (wv := .slice none 0 0) (ha.ext hxW) (hb.ext hxW) hma hmb hx hy (P := fun i k => a.lb i != b.lb k) ⟨_, _, _, rfl⟩ (fun W' i k f z hx' hi hk => parted_nil (ha.ext (Below.trans hxW (hx'.mono hxW.size))) (hb.ext (Below.trans hxW (hx'.mono hxW.size))) hma hmb hi hk)
  obtain ⟨bn, on, cn, bl, ol, cl, rfl, hca⟩ := ha.cells hma
  obtain ⟨bm, om, cm, bk, ok, ck, rfl, hcb⟩ := hb.cells hmb
  obtain ⟨NA, hNA⟩ : ∃ N, N = a.next.length := ⟨_, rfl⟩
  obtain ⟨NB, hNB⟩ : ∃ N, N = b.next.length := ⟨_, rfl⟩
  have hla : ∀ W s, Ext w W → s < NA → W.cell? ⟨bl, ol + s, none⟩ = some (.int .i64 (a.lb s)) := fun W s hxW hs => hxW.cell (hca.label s (by omega))
  have hlb : ∀ W s, Ext w W → s < NB → W.cell? ⟨bk, ok + s, none⟩ = some (.int .i64 (b.lb s)) := fun W s hxW hs => hxW.cell (hcb.label s (by omega))
  rw [← hNA, ← hNB] at hsp ⊢
  obtain ⟨W, hW⟩ : ∃ W, W = (w.alloc (.cells #[.slice (some ⟨bn, on, none⟩) NA cn, .slice (some ⟨bl, ol, none⟩) NA cl] 25)).alloc (.cells #[.slice (some ⟨bm, om, none⟩) NB cm, .slice (some ⟨bk, ok, none⟩) NB ck] 25) := ⟨_, rfl⟩
  have hxW : Ext w W := by rw [hW]; exact (Ext.box _ _).alloc _
  have q1 : W.cell? ⟨w.heap.size, 1, none⟩ = some (.slice (some ⟨bl, ol, none⟩) NA cl) := by rw [hW]; simp
  have q2 : W.cell? ⟨w.heap.size + 1, 1, none⟩ = some (.slice (some ⟨bk, ok, none⟩) NB ck) := by rw [hW]; simp
  have H := Lib.hid (And.intro (hsp W hxW) (And.intro hxW (And.intro q1 (And.intro q2 (And.intro hla (And.intro hlb (And.intro hNA (And.intro hNB hW))))))))
  clear hsp hxW q1 q2 hla hlb hNA hNB hW ha hb hca hcb hma hmb
  go_enter Tryd.func42, Tryd.ntmps42
  go_wp2_with fail
  rw [← H.out.2.2.2.2.2.2.2.2]
  refine H.out.1.mono ?_
  rintro e w1 ⟨g, cap, i, S, L, s, k, u, rfl, hiS, hS6, hRc, hTr, hs, hL, hsa, hsb, hra, hrb, hub, hcase, hx1⟩
  have hlim : Lim a.aut b.aut x y (fun i k => a.lb i != b.lb k) := by
    rcases hcase with ⟨_, h1⟩ | ⟨_, _, h1, _⟩
    · exact lim_first h1 (by have := hTr.wlen i s k u hs hL; omega)
    · exact lim_nowhere h1
  have HLim := Lib.hid hlim
  clear hlim
  obtain ⟨n, hn⟩ : ∃ n, n = i + 1 := ⟨_, rfl⟩
  rw [← hn]
  have hn1 : (n : Int) - 1 = (i : Int) := by omega
  have hi6 : i ≤ 1000000 := by omega
  have hin : i < n := by omega
  have hni : n ≤ i + 1 := by omega
  have hj1 : (i : Int) < n := by omega
  obtain ⟨c0, c1, c2, c3⟩ := hRc i s hs
  obtain ⟨sa, hsa'⟩ : ∃ x, x = s.a := ⟨_, rfl⟩
  obtain ⟨sb, hsb'⟩ : ∃ x, x = s.b := ⟨_, rfl⟩
  obtain ⟨sf, hsf'⟩ : ∃ x, x = s.from_ := ⟨_, rfl⟩
  obtain ⟨sy, hsy'⟩ : ∃ x, x = s.by_ := ⟨_, rfl⟩
  rw [← hsa'] at c0 hsa hra hcase
  rw [← hsb'] at c1 hsb hrb hcase
  rw [← hsf'] at c2
  rw [← hsy'] at c3
  have hsaN : sa < NA := by rw [H.out.2.2.2.2.2.2.1]; exact hsa
  have hsbN : sb < NB := by rw [H.out.2.2.2.2.2.2.2.1]; exact hsb
  have e1 := hx1.cell H.out.2.2.1
  have e2 := hx1.cell H.out.2.2.2.1
  have f1 := H.out.2.2.2.2.1 w1 sa (H.out.2.1.trans hx1) hsaN
  have f2 := H.out.2.2.2.2.2.1 w1 sb (H.out.2.1.trans hx1) hsbN
  obtain ⟨xa, hxa⟩ : ∃ x, x = a.lb sa := ⟨_, rfl⟩
  obtain ⟨xb, hxb⟩ : ∃ x, x = b.lb sb := ⟨_, rfl⟩
  rw [← hxa] at f1
  rw [← hxb] at f2
  dsimp only at hcase
  rw [← hxa, ← hxb] at hcase
  have hj2 : (sa : Int) < NA := by omega
  have hj3 : (sb : Int) < NB := by omega
  obtain ⟨w2, hw2⟩ : ∃ w2, w2 = w1.alloc (.cells #[.int .i64 (sa : Int), .int .i64 (sb : Int), .int .i64 sf, .int .i64 (sy : Int)] 70) := ⟨_, rfl⟩
  have hx2 : Ext w1 w2 := by rw [hw2]; exact Ext.box _ _
  have z0 : w2.cell? ⟨w1.heap.size, 0, none⟩ = some (.int .i64 (sa : Int)) := by rw [hw2]; simp
  have z1 : w2.cell? ⟨w1.heap.size, 1, none⟩ = some (.int .i64 (sb : Int)) := by rw [hw2]; simp
  have H1 := Lib.hid (And.intro hRc (And.intro hTr (And.intro hL (And.intro hub (And.intro hcase (And.intro (H.out.2.1.trans (hx1.trans hx2)) (And.intro hx2 (And.intro hiS hw2))))))))
  have HZ := Lib.hid (And.intro (hx2.cell e1) (And.intro (hx2.cell e2) (And.intro (hx2.cell f1) (And.intro (hx2.cell f2) (And.intro z0 z1)))))
  clear hRc hTr hL hub hcase hx1 hx2 hw2 z0 z1 hs hsa' hsb' hsf' hsy' hsa hsb hra hrb hxa hxb hn hiS e1 e2 f1 f2
  go_upto_region 3 with fail
  rw [← H1.out.2.2.2.2.2.2.2.2]
  obtain ⟨zb, hzb⟩ : ∃ b, b = w1.heap.size := ⟨_, rfl⟩
  rw [← hzb] at HZ ⊢
  obtain ⟨e1, e2, f1, f2, z0, z1⟩ := HZ.out
  clear HZ hzb c0 c1 c2 c3
  by_cases hab : xa = xb
  · have hab' : (xa == xb) = true := by simpa using hab
    have HE := Lib.hid hab
    clear hab
    go_wp2_with fail
    go_quiet (fail)
    go_wp2
    go_ret2
    refine ⟨⟨H1.out.2.2.2.2.2.1.drewN _, .inr ⟨rfl, ?_⟩⟩, HLim.out⟩
    rcases H1.out.2.2.2.2.1 with ⟨h1, _⟩ | ⟨_, _, h1, _⟩
    · exfalso; rw [HE.out] at h1; simp at h1
    · exact h1
  · have hab' : (xa == xb) = false := by simpa using hab
    have HE := Lib.hid hab
    clear hab
    go_wp2_with fail
    go_quiet (fail)
    obtain ⟨w3, hw3⟩ : ∃ z, z = w2.drewN nq := ⟨_, rfl⟩
    have hx3 : Ext w2 w3 := by rw [hw3]; exact (Ext.refl _).drewN _
    rw [← hw3]
    have hRc3 : RcAt w3 g S := (H1.out.1.ext (H1.out.2.2.2.2.2.2.1.trans hx3))
    have hwd := word13_c (cap := cap) hRc3 H1.out.2.1 (show i + 1 = i + 1 from rfl) H1.out.2.2.2.2.2.2.2.1 (by have := H1.out.2.2.2.2.2.2.2.1; omega) H1.out.2.2.1 H1.out.2.2.2.1
    rw [show i + 1 = n by omega] at hwd
    have H3 := Lib.hid (And.intro hwd (H1.out.2.2.2.2.2.1.trans hx3))
    clear hw3 hx3 hRc3 hwd e1 e2 f1 f2 z0 z1
    go_wp2_with fail
    refine H3.out.1.mono ?_
    rintro e w4 ⟨v4, rfl, hown, hx4⟩
    have H4 := Lib.hid (And.intro hown (H3.out.2.trans hx4))
    clear hown hx4
    go_wp2
    go_ret2
    refine ⟨⟨H4.out.2, .inl ⟨u, v4, rfl, ?_, own_base H4.out.1 H3.out.2.size⟩⟩, HLim.out⟩
    rcases H1.out.2.2.2.2.1 with ⟨_, h1⟩ | ⟨h1, _⟩
    · exact h1
    · exfalso; simp at h1; exact HE.out h1

set_option maxRecDepth 100000 in
set_option maxHeartbeats 1000000 in
theorem refDiffer_c {w : World} {va vb : Value} {a b : Dn} (ha : DenseV w va a) (hb : DenseV w vb b) (hma : May a) (hmb : May b) :
    Calls Tryd.prog 23 #[va, vb] w (fun e w' => SearchR w a.aut b.aut 0 0 (fun i k => a.lb i != b.lb k) e w' ∧ Lim a.aut b.aut 0 0 (fun i k => a.lb i != b.lb k)) := by
  have ht := fun W hxW => told_c (w := W) (ha.ext hxW) (hb.ext hxW) hma hmb (x := 0) (y := 0) hma.pos hmb.pos
  obtain ⟨bn, on, cn, bl, ol, cl, rfl, _⟩ := ha.cells hma
  obtain ⟨bm, om, cm, bk, ok, ck, rfl, _⟩ := hb.cells hmb
  generalize a.next.length = NA at *
  generalize b.next.length = NB at *
  have hx1 : Ext w ((w.alloc (.cells #[.slice (some ⟨bn, on, none⟩) NA cn, .slice (some ⟨bl, ol, none⟩) NA cl] 25)).alloc (.cells #[.slice (some ⟨bm, om, none⟩) NB cm, .slice (some ⟨bk, ok, none⟩) NB ck] 25)) := (Ext.box _ _).alloc _
  have H := Lib.hid (And.intro (ht _ hx1) hx1)
  clear ht hx1 ha hb hma hmb
  go_enter Tryd.func23, Tryd.ntmps23
  go_wp2_with fail
  refine H.out.1.mono ?_
  rintro e w1 ⟨hs, hlim⟩
  have HLim := Lib.hid hlim
  clear hlim
  obtain ⟨v, b9, rfl, hx2, hres⟩ := SearchR.form hs
  have HR := Lib.hid (And.intro hx2 hres)
  clear hs hx2 hres
  go_wp2
  go_ret2
  refine ⟨⟨H.out.2.trans HR.out.1, ?_⟩, HLim.out⟩
  rcases HR.out.2 with ⟨e1, u, h1, h2⟩ | ⟨e1, e2, h1⟩
  · subst e1
    exact .inl ⟨u, v, rfl, h1, own_base h2 H.out.2.size⟩
  · subst e1; subst e2
    exact .inr ⟨rfl, h1⟩

set_option maxRecDepth 100000 in
set_option maxHeartbeats 1000000 in
theorem one13_c (w : World) : Calls Tryd.prog 27 #[] w (OneR w) := by
  have hmk : ∀ w, (Instr.makeSlice 23 (.int .i64 256) (.int .i64 256)).run Tryd.prog w = .ok (.slice (some ⟨w.heap.size, 0, none⟩) 256 256) (w.alloc (.cells (madeCells #[.int .i64 0] 256) 3)) := fun w =>
    run_make_any (P := Tryd.prog) 23 3 (.int .i64 0) 1 8 Tryd.underlying23 int_info .i64 .i64 256 (by omega) (by omega) w
  go_enter Tryd.func27, Tryd.ntmps27
  go_wp2_with fail
  have r1 := World.rowIs_made (w.alloc (.cells #[.slice (some ⟨w.heap.size + 1 + 1, 0, none⟩) 1 1, .slice (some ⟨w.heap.size + 1 + 1 + 1, 0, none⟩) 1 1] 25)) (.int .i64 0) 256 3
  have r2 := World.rowIs_alloc ((w.alloc (.cells #[.slice (some ⟨w.heap.size + 1 + 1, 0, none⟩) 1 1, .slice (some ⟨w.heap.size + 1 + 1 + 1, 0, none⟩) 1 1] 25)).alloc (.cells (madeCells #[.int .i64 0] 256) 3)) #[.slice (some ⟨w.heap.size + 1, 0, none⟩) 256 256] 23 (fun _ => .slice (some ⟨w.heap.size + 1, 0, none⟩) 256 256) (fun i hi => by match i, hi with | 0, _ => rfl)
  have r3 := World.rowIs_alloc (((w.alloc (.cells #[.slice (some ⟨w.heap.size + 1 + 1, 0, none⟩) 1 1, .slice (some ⟨w.heap.size + 1 + 1 + 1, 0, none⟩) 1 1] 25)).alloc (.cells (madeCells #[.int .i64 0] 256) 3)).alloc (.cells #[.slice (some ⟨w.heap.size + 1, 0, none⟩) 256 256] 23)) #[.int .i64 (-1)] 3 (fun _ => .int .i64 (-1)) (fun i hi => by match i, hi with | 0, _ => rfl)
  simp only [World.size_alloc] at r1 r2 r3
  have r1 := (r1.alloc (.cells #[.slice (some ⟨w.heap.size + 1, 0, none⟩) 256 256] 23)).alloc (.cells #[.int .i64 (-1)] 3)
  have r2 := r2.alloc (.cells #[.int .i64 (-1)] 3)
  have k0 : ((((w.alloc (.cells #[.slice (some ⟨w.heap.size + 1 + 1, 0, none⟩) 1 1, .slice (some ⟨w.heap.size + 1 + 1 + 1, 0, none⟩) 1 1] 25)).alloc (.cells (madeCells #[.int .i64 0] 256) 3)).alloc (.cells #[.slice (some ⟨w.heap.size + 1, 0, none⟩) 256 256] 23)).alloc (.cells #[.int .i64 (-1)] 3)).cell? ⟨w.heap.size, 0, none⟩ = some (.slice (some ⟨w.heap.size + 1 + 1, 0, none⟩) 1 1) := (((Ext.box _ _).alloc _).alloc _).cell (new_cell rfl)
  have k1 : ((((w.alloc (.cells #[.slice (some ⟨w.heap.size + 1 + 1, 0, none⟩) 1 1, .slice (some ⟨w.heap.size + 1 + 1 + 1, 0, none⟩) 1 1] 25)).alloc (.cells (madeCells #[.int .i64 0] 256) 3)).alloc (.cells #[.slice (some ⟨w.heap.size + 1, 0, none⟩) 256 256] 23)).alloc (.cells #[.int .i64 (-1)] 3)).cell? ⟨w.heap.size, 1, none⟩ = some (.slice (some ⟨w.heap.size + 1 + 1 + 1, 0, none⟩) 1 1) := (((Ext.box _ _).alloc _).alloc _).cell (new_cell rfl)
  have hx : Ext w ((((w.alloc (.cells #[.slice (some ⟨w.heap.size + 1 + 1, 0, none⟩) 1 1, .slice (some ⟨w.heap.size + 1 + 1 + 1, 0, none⟩) 1 1] 25)).alloc (.cells (madeCells #[.int .i64 0] 256) 3)).alloc (.cells #[.slice (some ⟨w.heap.size + 1, 0, none⟩) 256 256] 23)).alloc (.cells #[.int .i64 (-1)] 3)) := (((Ext.box _ _).alloc _).alloc _).alloc _
  generalize World.alloc _ (.cells #[.int .i64 (-1)] 3) = W at r1 r2 r3 k0 k1 hx ⊢
  exact bodyPost_ret (v := .agg #[.slice (some ⟨w.heap.size + 1 + 1, 0, none⟩) 1 1, .slice (some ⟨w.heap.size + 1 + 1 + 1, 0, none⟩) 1 1]) (by simp [results, Tryd.results27, go_sem, k0, k1]) rfl ⟨_, _, _, _, rfl, one_dense r1 r2 r3, hx⟩


set_option maxRecDepth 100000 in
set_option maxHeartbeats 4000000 in
theorem refWord_c {w : World} {va : Value} {a : Dn} {label : Int} (ha : DenseV w va a) (hma : May a) :
    Calls Tryd.prog 8 #[va, .int .i64 label] w (fun e w' => SearchR w a.aut oneD.aut 0 0 (fun i _ => a.lb i == label) e w' ∧ Lim a.aut oneD.aut 0 0 (fun i _ => a.lb i == label)) := by
  have hsp : ∀ W vn cn' vl cl' g, Ext w W → DenseV W (.agg #[.slice vn 1 cn', .slice vl 1 cl']) oneD → W.cell? ⟨g, 0, none⟩ = some (.int .i64 label) →
      Calls Tryd.prog 26 #[va, .agg #[.slice vn 1 cn', .slice vl 1 cl'], .int .i64 0, .int .i64 0, .slice (some ⟨g, 0, none⟩) 1 1] W (SpreadR W a.aut oneD.aut oneD.next.length 0 0 (fun i _ => a.lb i == label)) :=
    fun W vn cn' vl cl' g hx hone hg => spread_c (w := W) (ha.ext hx) hone hma oneD_may (x := 0) (y := 0) hma.pos (by rw [oneD_len]; omega) (P := fun i _ => a.lb i == label) ⟨_, _, _, rfl⟩ (fun W' i k f z hx' hi _ => parted_one (ha.ext (hx.trans hx')) ⟨_, _, _, _, _, _, rfl⟩ hma hi (hx'.cell hg))
  obtain ⟨bn, on, cn, bl, ol, cl, rfl, hca⟩ := ha.cells hma
  obtain ⟨NA, hNA⟩ : ∃ N, N = a.next.length := ⟨_, rfl⟩
  have hla : ∀ W s, Ext w W → s < NA → W.cell? ⟨bl, ol + s, none⟩ = some (.int .i64 (a.lb s)) := fun W s hxW hs => hxW.cell (hca.label s (by omega))
  rw [← hNA] at hsp ⊢
  obtain ⟨W, hW⟩ : ∃ W, W = w.alloc (.cells #[.slice (some ⟨bn, on, none⟩) NA cn, .slice (some ⟨bl, ol, none⟩) NA cl] 25) := ⟨_, rfl⟩
  have hxW : Ext w W := by rw [hW]; exact Ext.box _ _
  have q0 : W.cell? ⟨w.heap.size, 0, none⟩ = some (.slice (some ⟨bn, on, none⟩) NA cn) := by rw [hW]; simp
  have q1 : W.cell? ⟨w.heap.size, 1, none⟩ = some (.slice (some ⟨bl, ol, none⟩) NA cl) := by rw [hW]; simp
  have H := Lib.hid (And.intro hsp (And.intro hxW (And.intro hla (And.intro hNA hW))))
  clear hsp hxW hla hNA hW ha hca
  go_enter Tryd.func8, Tryd.ntmps8
  go_upto_region 1 with fail
  rw [← H.out.2.2.2.2]
  go_region_held3 (fun W => W.cell? ⟨w.heap.size, 0, none⟩ = some (.slice (some ⟨bn, on, none⟩) NA cn) ∧ W.cell? ⟨w.heap.size, 1, none⟩ = some (.slice (some ⟨bl, ol, none⟩) NA cl))
    (first | (with_reducible exact ⟨q0, q1⟩) | (with_reducible exact ⟨i0, i1⟩) | (with_reducible exact ⟨j0, j1⟩) | go_keep)
    ((first | (go_at_call 27; (with_reducible refine (one13_c _).mono ?_); rintro e w4 ⟨vn, cn', vl, cl', rfl, hone, hx4⟩; first | (have j0 := hx4.cell (a := W.drew) q0; have j1 := hx4.cell (a := W.drew) q1) | (have j0 := hx4.cell ((Ext.box W.drew _).cell (a := W.drew) q0); have j1 := hx4.cell ((Ext.box W.drew _).cell (a := W.drew) q1))) | (go_at_call 26; (first | (refine (H.out.1 _ vn cn' vl cl' _ (H.out.2.1.trans ((Ext.drew (Ext.refl W)).trans (hx4.trans (Ext.box _ _)))) (hone.ext (Ext.box _ _)) (new_cell rfl)).mono ?_) | (refine (H.out.1 _ vn cn' vl cl' _ (H.out.2.1.trans ((Ext.drew (Ext.refl W)).trans ((Ext.box W.drew _).trans hx4))) hone (hx4.cell (new_cell rfl))).mono ?_)); rintro e w5 ⟨g, cap, i, S, L, s, k, u, rfl, hiS, hS6, hRc, hTr, hs, hL, hsa, hsb, hra, hrb, hub, hcase, hx5⟩; first | (have i0 := hx5.cell ((Ext.box _ _).cell j0); have i1 := hx5.cell ((Ext.box _ _).cell j1)) | (have i0 := hx5.cell j0; have i1 := hx5.cell j1))))
  all_goals
    have hxW5 : Ext W w5 := by
      first
      | exact (Ext.drew (Ext.refl W)).trans (hx4.trans ((Ext.box _ _).trans hx5))
      | exact (Ext.drew (Ext.refl W)).trans ((Ext.box W.drew _).trans (hx4.trans hx5))
    have hlim : Lim a.aut oneD.aut 0 0 (fun i _ => a.lb i == label) := by
      rcases hcase with ⟨_, h1⟩ | ⟨_, _, h1, _⟩
      · exact lim_first h1 (by have := hTr.wlen i s k u hs hL; omega)
      · exact lim_nowhere h1
    have HLim := Lib.hid hlim
    clear hlim
    obtain ⟨n, hn⟩ : ∃ n, n = i + 1 := ⟨_, rfl⟩
    rw [← hn]
    have hn1 : (n : Int) - 1 = (i : Int) := by omega
    have hi6 : i ≤ 1000000 := by omega
    have hin : i < n := by omega
    have hj1 : (i : Int) < n := by omega
    obtain ⟨c0, c1, c2, c3⟩ := hRc i s hs
    obtain ⟨sa, hsa'⟩ : ∃ x, x = s.a := ⟨_, rfl⟩
    rw [← hsa'] at c0 hsa hra hcase
    have hsaN : sa < NA := by rw [H.out.2.2.2.1]; exact hsa
    have e1 := hxW5.cell q1
    have f1 := H.out.2.2.1 w5 sa (H.out.2.1.trans hxW5) hsaN
    obtain ⟨xa, hxa⟩ : ∃ x, x = a.lb sa := ⟨_, rfl⟩
    rw [← hxa] at f1
    try dsimp only at hcase
    rw [← hxa] at hcase
    have hj2 : (sa : Int) < NA := by omega
    have H1 := Lib.hid (And.intro hRc (And.intro hTr (And.intro hL (And.intro hub (And.intro hcase (And.intro (H.out.2.1.trans hxW5) (And.intro hiS (And.intro hn (And.intro hS6 hs)))))))))
    clear hRc hTr hL hub hcase hxW5 hs hsa' hsa hsb hra hrb hxa hn hiS hS6 c1 c2 c3 hx4 hx5 hone q0 q1
    clear j0 j1 i0 i1
    by_cases hab : xa = label
    · subst hab
      go_wp2_with fail
      go_quiet (fail)
      obtain ⟨w6, hw6⟩ : ∃ z, z = w5.drewN nq := ⟨_, rfl⟩
      have hx6 : Ext w5 w6 := by rw [hw6]; exact (Ext.refl _).drewN _
      rw [← hw6]
      have hwd := word13_c (cap := cap) (H1.out.1.ext hx6) H1.out.2.1 H1.out.2.2.2.2.2.2.2.1 H1.out.2.2.2.2.2.2.1 (by have := H1.out.2.2.2.2.2.2.1; have := H1.out.2.2.2.2.2.2.2.2.1; have := H1.out.2.2.2.2.2.2.2.1; omega) H1.out.2.2.1 H1.out.2.2.2.1
      have H3 := Lib.hid (And.intro hwd (H1.out.2.2.2.2.2.1.trans hx6))
      clear hw6 hx6 hwd e1 f1 c0
      go_wp2_with fail
      refine H3.out.1.mono ?_
      rintro e w7 ⟨v4, rfl, hown, hx7⟩
      have H4 := Lib.hid (And.intro hown (H3.out.2.trans hx7))
      clear hown hx7
      go_wp2
      go_ret2
      refine ⟨⟨H4.out.2, .inl ⟨u, v4, rfl, ?_, own_base H4.out.1 H3.out.2.size⟩⟩, HLim.out⟩
      rcases H1.out.2.2.2.2.1 with ⟨_, h1⟩ | ⟨h1, _⟩
      · exact h1
      · exfalso; simp at h1
    · have HE := Lib.hid hab
      go_wp2_with fail
      go_quiet (fail)
      go_wp2
      go_ret2
      refine ⟨⟨H1.out.2.2.2.2.2.1.drewN _, .inr ⟨rfl, ?_⟩⟩, HLim.out⟩
      rcases H1.out.2.2.2.2.1 with ⟨h1, _⟩ | ⟨_, _, h1, _⟩
      · exfalso; exact HE.out (by simpa using h1)
      · exact h1
end Go.Proofs.YtihginaanlcilaaDoor
