/- bolterref13.spread: all pairs that are come to, in order; it stops at the first that is wanted. -/
import Derived.Test.YtihginaanlcilaaDoorSpreadS
import Derived.Test.YtihginaanlcilaaDoorGrow
import Derived.Deep.DeepCutAuto
import Derived.BigRegion
import Derived.Deep.AppendLies
namespace Go.Proofs.YtihginaanlcilaaDoor
open Go.RowKit

theorem reach_info : (Tryd.prog.info? 70).map (fun i => (i.zero, i.size, i.bytes)) = some (some (.agg #[.int .i64 0, .int .i64 0, .int .i64 0, .int .i64 0]), 4, 32) := by kernel_rfl
theorem bool_info13r : (Tryd.prog.info? 4).map (fun i => (i.zero, i.size, i.bytes)) = some (some (.bool false), 1, 1) := by kernel_rfl

theorem own_cap {w : World} {B g n cap size : Nat} {e : TypeId} {xs : List Value} (h : w.ownsRow B e size (.slice (some ⟨g, 0, none⟩) n cap) n xs) : n ≤ cap := by
  rcases h.2 with ⟨h1, _⟩ | ⟨g', cap', _, hv, _, _, hc, _⟩
  · cases h1
  · simp only [Value.slice.injEq] at hv
    obtain ⟨-, -, rfl⟩ := hv
    exact hc

/-- what spread tells: the pairs up to the first that is wanted, or all -/
def SpreadR (w : World) (A B : LM.Aut) (NB x y : Nat) (P : Nat → Nat → Bool) (e : Ending) (w' : World) : Prop :=
  ∃ (g cap i : Nat) (S : List St) (L : List (Nat × List Nat)) (s : St) (k : Nat) (u : List Nat), e = .returned (.slice (some ⟨g, 0, none⟩) (i + 1) cap) ∧ i < S.length ∧ S.length ≤ 360000 ∧ RcAt w' g S ∧ Trail NB S L ∧ S[i]? = some s ∧ L[i]? = some (k, u) ∧ s.a < A.n ∧ s.b < B.n ∧ s.a = A.run x u ∧ s.b = B.run y u ∧ LM.Bytes u ∧
    ((P s.a s.b = true ∧ First A B x y P u) ∨ (P s.a s.b = false ∧ i + 1 = S.length ∧ Nowhere A B x y P ∧ ∃ j, L.length ≤ j ∧ WM.Bfs (pairNx A B) (A.n * B.n) (x * B.n + y) (pairIs B.n P) j 0 L)) ∧ Ext w w'

set_option maxRecDepth 100000 in
set_option maxHeartbeats 8000000 in
theorem spread_c {w : World} {va vb wv : Value} {a b : Dn} (ha : DenseV w va a) (hb : DenseV w vb b) (hma : May a) (hmb : May b) {x y : Nat} (hx : x < a.next.length) (hy : y < b.next.length) {P : Nat → Nat → Bool} (hwv : ∃ g n c, wv = .slice g n c)
    (his : ∀ W i k f z, Ext w W → i < a.next.length → k < b.next.length → Calls Tryd.prog 46 #[va, vb, .agg #[.int .i64 (i : Int), .int .i64 (k : Int), .int .i64 f, .int .i64 z], wv] W fun e W' => e = .returned (.bool (P i k)) ∧ Ext W W') :
    Calls Tryd.prog 26 #[va, vb, .int .i64 (x : Int), .int .i64 (y : Int), wv] w (SpreadR w a.aut b.aut b.next.length x y P) := by
  obtain ⟨bn, on, cn, bl, ol, cl, rfl, hca⟩ := ha.cells hma
  obtain ⟨bm, om, cm, bk, ok, ck, rfl, hcb⟩ := hb.cells hmb
  obtain ⟨NA, hNA⟩ : ∃ N, N = a.next.length := ⟨_, rfl⟩
  obtain ⟨NB, hNB⟩ : ∃ N, N = b.next.length := ⟨_, rfl⟩
  have h6a : NA ≤ 600 := by rw [hNA]; exact hma.most
  have h6b : NB ≤ 600 := by rw [hNB]; exact hmb.most
  rw [← hNA] at hx his ⊢
  rw [← hNB] at hy his ⊢
  obtain ⟨gw, nw, cw, rfl⟩ := hwv
  obtain ⟨NN, hNN⟩ : ∃ NN, NN = NA * NB := ⟨_, rfl⟩
  have hNN6 : NN ≤ 360000 := by rw [hNN]; exact Nat.le_trans (Nat.mul_le_mul h6a h6b) (by omega)
  obtain ⟨k0, hk0⟩ : ∃ k, k = x * NB + y := ⟨_, rfl⟩
  have hk0N : k0 < NN := by rw [hk0, hNN]; exact pair_lt' hx hy
  obtain ⟨q0, hq0⟩ : ∃ q, q = x * NB := ⟨_, rfl⟩
  have hw0 : ((NA : Int) * (NB : Int)) = (NN : Int) := by rw [hNN]; simp
  have hw1 : ((x : Int) * (NB : Int)) = (q0 : Int) := by rw [hq0]; simp
  have hq0N : q0 ≤ 360000 := by omega
  have hw2 : ((q0 : Int) + (y : Int)) = (k0 : Int) := by omega
  have hj0 : (k0 : Int) < NN := by omega
  have hmk := run_make_any (P := Tryd.prog) 86 4 (.bool false) 1 1 Tryd.underlying86 bool_info13r .i64 .i64 NN (by omega) (by omega)
  have hmc := made_one (.bool false) hk0N
  have H := Lib.hid (And.intro ha (And.intro hb (And.intro hma (And.intro hmb (And.intro hca (And.intro hcb (And.intro hNA (And.intro hNB (And.intro hNN (And.intro hk0 his))))))))))
  have HQ0 := Lib.hid hq0
  have hconv : ∀ i L, WM.Bfs (pairNx a.aut b.aut) NN k0 (pairIs NB P) i 0 L → WM.Bfs (pairNx a.aut b.aut) (a.aut.n * b.aut.n) (x * b.aut.n + y) (pairIs b.aut.n P) i 0 L := by
    intro i L h
    rw [hNN, hk0, hNA, hNB] at h
    exact h
  have HCV := Lib.hid hconv
  clear hconv
  clear ha hb hma hmb hca hcb hNA hNB hNN hk0 his hq0
  obtain ⟨OA, hOA⟩ : ∃ O, O = (Obj.cells #[.slice (some ⟨bn, on, none⟩) NA cn, .slice (some ⟨bl, ol, none⟩) NA cl] 25) := ⟨_, rfl⟩
  obtain ⟨OB, hOB⟩ : ∃ O, O = (Obj.cells #[.slice (some ⟨bm, om, none⟩) NB cm, .slice (some ⟨bk, ok, none⟩) NB ck] 25) := ⟨_, rfl⟩
  have HO := Lib.hid (And.intro hOA hOB)
  clear hOA hOB
  go_enter Tryd.func26, Tryd.ntmps26
  go_wp2_with fail
  clear hw0 hw1 hw2 hmk hmc
  obtain ⟨W3, hW3⟩ : ∃ W, W = (w.alloc OA).alloc OB := ⟨_, rfl⟩
  obtain ⟨W0, hW0⟩ : ∃ W, W = (W3.alloc (.cells ((madeCells #[.bool false] NN).setIfInBounds k0 (.bool true)) 4)).alloc (.cells #[.int .i64 (x : Int), .int .i64 (y : Int), .int .i64 (-1), .int .i64 0] 70) := ⟨_, rfl⟩
  rw [← HO.out.1, ← HO.out.2, ← hW3, ← hW0]
  have hsz3 : W3.heap.size = w.heap.size + 1 + 1 := by rw [hW3]; simp
  have hx3 : Ext w W3 := by rw [hW3]; exact (Ext.box _ _).alloc _
  have bb : ∀ W, Ext W3 W → W.cell? ⟨w.heap.size, 0, none⟩ = some (.slice (some ⟨bn, on, none⟩) NA cn) ∧ W.cell? ⟨w.heap.size, 1, none⟩ = some (.slice (some ⟨bl, ol, none⟩) NA cl) ∧ W.cell? ⟨w.heap.size + 1, 0, none⟩ = some (.slice (some ⟨bm, om, none⟩) NB cm) ∧ W.cell? ⟨w.heap.size + 1, 1, none⟩ = some (.slice (some ⟨bk, ok, none⟩) NB ck) := fun W hx => by
    refine ⟨hx.cell ?_, hx.cell ?_, hx.cell ?_, hx.cell ?_⟩
    · rw [hW3]; exact (Ext.box _ _).cell (a := w.alloc OA) (by rw [HO.out.1]; exact new_cell rfl)
    · rw [hW3]; exact (Ext.box _ _).cell (a := w.alloc OA) (by rw [HO.out.1]; exact new_cell rfl)
    · have := new_cell (w := w.alloc OA) (c := #[.slice (some ⟨bm, om, none⟩) NB cm, .slice (some ⟨bk, ok, none⟩) NB ck]) (t := 25) (i := 0) rfl
      rw [World.size_alloc] at this
      rw [hW3, HO.out.2]; exact this
    · have := new_cell (w := w.alloc OA) (c := #[.slice (some ⟨bm, om, none⟩) NB cm, .slice (some ⟨bk, ok, none⟩) NB ck]) (t := 25) (i := 1) rfl
      rw [World.size_alloc] at this
      rw [hW3, HO.out.2]; exact this
  obtain ⟨gS, hgS⟩ : ∃ g, g = W3.heap.size := ⟨_, rfl⟩
  rw [← hsz3, ← hgS]
  have hs0 : SpS W3 W0 gS NN NB (.slice (some ⟨gS + 1, 0, none⟩) 1 1) [⟨x, y, -1, 0⟩] [(k0, [])] := by
    have hb1 : W0.heap[gS]? = some (.cells ((madeCells #[.bool false] NN).setIfInBounds k0 (.bool true)) 4 (0, 0)) := by
      rw [hW0, hgS, (Ext.box _ _).block _ (by simp)]; exact heap_alloc_new _ _
    have hb2 : W0.heap[gS + 1]? = some (.cells #[.int .i64 (x : Int), .int .i64 (y : Int), .int .i64 (-1), .int .i64 0] 70 (0, 0)) := by
      have := heap_alloc_new (W3.alloc (.cells ((madeCells #[.bool false] NN).setIfInBounds k0 (.bool true)) 4)) (.cells #[.int .i64 (x : Int), .int .i64 (y : Int), .int .i64 (-1), .int .i64 0] 70)
      rw [hW0, hgS]; simpa using this
    refine ⟨by rw [hW0]; exact (Ext.box _ _).alloc _, ⟨_, hb1, by simp [size_madeCells], fun k hk => ?_⟩, ⟨rfl, .inr ⟨gS + 1, 1, _, rfl, by omega, hb2, Nat.le_refl _, by unfold maxLen; omega, rfl, rfl⟩⟩, fun g e => by simp [Value.ownBlock] at e; omega, by omega, by rw [H.out.2.2.2.2.2.2.2.2.2.1]; exact .one hy⟩
    rw [Array.getElem?_setIfInBounds]
    by_cases e : k0 = k
    · subst e
      rw [if_pos rfl, if_pos (by rw [size_madeCells]; exact hk)]
      simp [seenB]
    · rw [if_neg e, made_one _ hk]
      simp [seenB, e]
  have HB := Lib.hid (And.intro bb (And.intro hx3 hsz3))
  have HS0 := Lib.hid hs0
  clear hW3 hW0 bb hx3 hs0 hgS hsz3
  go_loopw [12, 13] (fun lv iv wr => ∃ (i : Nat) (S : List St) (L : List (Nat × List Nat)), i ≤ S.length ∧ iv = .int .i64 i ∧ SpS W3 wr gS NN NB lv S L ∧ WM.Bfs (pairNx a.aut b.aut) NN k0 (pairIs NB P) i 0 L) (fun _ iv _ => NN - (intOf iv).toNat)
  case atStart =>
    refine ⟨0, _, _, Nat.zero_le _, rfl, HS0.out, WM.Bfs.init _ _ hk0N⟩
  case round =>
    clear HS0
    obtain ⟨i, S, L, hi, rfl, hS, hBfs⟩ := hrel
    have hLN : S.length ≤ NN := by rw [hS.tr.len]; exact hBfs.length_le
    have hpos : 0 < S.length := by rw [hS.tr.len]; exact WM.lt_of_get hBfs.first
    obtain ⟨n, hn⟩ : ∃ n, n = S.length := ⟨_, rfl⟩
    have hkk : ∀ (j : Nat) (s : St) (k : Nat) (u : List Nat), S[j]? = some s → L[j]? = some (k, u) → s.a < NA ∧ s.b < NB ∧ k = s.a * NB + s.b := fun j s k u h1 h2 => by
      obtain ⟨e1, e2⟩ := hS.tr.at_ j s k u h1 h2
      refine ⟨?_, e2, e1⟩
      have h3 := (hBfs.node j k u h2).1
      rcases Nat.lt_or_ge s.a NA with h | h
      · exact h
      · have := Nat.mul_le_mul_right NB h
        rw [H.out.2.2.2.2.2.2.2.2.1] at h3
        omega
    obtain ⟨g, cg, hlv, hg1, hg2⟩ := own_slc hS.row hpos
    subst hlv
    have hst := own_rc hS.row rfl
    have hcap := own_cap hS.row
    by_cases hlt : i < S.length
    · obtain ⟨s, hs⟩ : ∃ s, S[i]? = some s := ⟨_, List.getElem?_eq_getElem hlt⟩
      obtain ⟨⟨ki, wi⟩, hLi⟩ : ∃ p, L[i]? = some p := ⟨_, List.getElem?_eq_getElem (by rw [← hS.tr.len]; exact hlt)⟩
      obtain ⟨hsaN, hsb, hki⟩ := hkk i s ki wi hs hLi
      obtain ⟨sa, hsa⟩ : ∃ a, a = s.a := ⟨_, rfl⟩
      obtain ⟨sb, hsbb⟩ : ∃ b, b = s.b := ⟨_, rfl⟩
      obtain ⟨sf, hsf⟩ : ∃ b, b = s.from_ := ⟨_, rfl⟩
      obtain ⟨sy, hsy⟩ : ∃ b, b = s.by_ := ⟨_, rfl⟩
      rw [← hsa, ← hsbb] at hki
      rw [← hsbb] at hsb
      rw [← hsa] at hsaN
      obtain ⟨c0, c1, c2, c3⟩ := hst i s hs
      rw [← hsa] at c0
      rw [← hsbb] at c1
      rw [← hsf] at c2
      rw [← hsy] at c3
      rw [← hn] at hLN hlt hS hcap ⊢
      have hj1 : (i : Int) < n := by omega
      have hwr := HB.out.2.1.trans hS.ext
      obtain ⟨r, hr⟩ : ∃ r, r = P sa sb := ⟨_, rfl⟩
      have hcall := fun z => H.out.2.2.2.2.2.2.2.2.2.2 (growW wr z) sa sb sf (sy : Int) (hwr.trans (grow_ext wr z)) hsaN hsb
      rw [← hr] at hcall
      have k0' := fun z => (grow_ext wr z).cell c0
      have k1' := fun z => (grow_ext wr z).cell c1
      have k2' := fun z => (grow_ext wr z).cell c2
      have k3' := fun z => (grow_ext wr z).cell c3
      have b0' := fun z => (HB.out.1 _ (hS.ext.trans (grow_ext wr z))).1
      have b1' := fun z => (HB.out.1 _ (hS.ext.trans (grow_ext wr z))).2.1
      have b2' := fun z => (HB.out.1 _ (hS.ext.trans (grow_ext wr z))).2.2.1
      have b3' := fun z => (HB.out.1 _ (hS.ext.trans (grow_ext wr z))).2.2.2
      have HR := Lib.hid (And.intro hS (And.intro hBfs (And.intro hn (And.intro hLi (And.intro hki (And.intro hs (And.intro hst (And.intro hwr (And.intro hsa hsbb)))))))))
      have HCall := Lib.hid hcall
      have HRr := Lib.hid hr
      clear hS hBfs hn hLi hki hs hst hwr hcall hr hsa hsbb hsf hsy hkk c0 c1 c2 c3 hpos
      go_wp2_with fail
      refine wp_region_grow (by kernel_rfl) (by kernel_rfl) ?_
      repeat (go_big_quiet_step ((go_at_call 46; with_reducible exact calls_grow (HCall.out _))))
      refine wpQuiet_nil ?_
      rintro _ ⟨z, rfl⟩
      obtain ⟨w9, hw9⟩ : ∃ W, W = growW wr z := ⟨_, rfl⟩
      have hx9 : Ext wr w9 := by rw [hw9]; exact grow_ext wr z
      rw [← hw9]
      have HX9 := Lib.hid hx9
      clear hw9 hx9 k0' k1' k2' k3' b0' b1' b2' b3'
      cases r
      · go_wp2_with fail
        go_loopw [12, 14] (fun lv cv wj => ∃ (c : Nat) (S' : List St) (L' : List (Nat × List Nat)), c ≤ 256 ∧ cv = .int .i64 c ∧ SpS W3 wj gS NN NB lv S' L' ∧ WM.Bfs (pairNx a.aut b.aut) NN k0 (pairIs NB P) i c L' ∧ L'[i]? = some (ki, wi) ∧ S'[i]? = some s) (fun _ cv _ => 256 - (intOf cv).toNat)
        case atStart => exact ⟨0, S, L, Nat.zero_le _, rfl, (by have := HR.out.1.more HX9.out; exact this), HR.out.2.1, HR.out.2.2.2.1, HR.out.2.2.2.2.2.1⟩
        case round =>
          rename World => wj
          obtain ⟨c, S', L', hc, rfl, hS, hBfs, hLi, hSi⟩ := hrel
          have hLN : S'.length ≤ NN := by rw [hS.tr.len]; exact hBfs.length_le
          have hil : i < S'.length := by rw [hS.tr.len]; exact WM.lt_of_get hLi
          obtain ⟨g', cg', hlv, hg1', hg2'⟩ := own_slc hS.row (by omega)
          subst hlv
          by_cases hlc : c < 256
          · have hx3w := HB.out.2.1.trans hS.ext
            obtain ⟨b0, b1, b2, b3⟩ := HB.out.1 _ hS.ext
            obtain ⟨c0, c1, _, _⟩ := own_rc hS.row rfl i s hSi
            rw [← HR.out.2.2.2.2.2.2.2.2.1] at c0
            rw [← HR.out.2.2.2.2.2.2.2.2.2] at c1
            obtain ⟨br, ro, cr, r0, r1⟩ := H.out.2.2.2.2.1.row sa (by rw [← H.out.2.2.2.2.2.2.1]; exact hsaN)
            obtain ⟨br', ro', cr', s0, s1⟩ := H.out.2.2.2.2.2.1.row sb (by rw [← H.out.2.2.2.2.2.2.2.1]; exact hsb)
            have r2 := hx3w.cell (r1 c hlc)
            have s2 := hx3w.cell (s1 c hlc)
            have r3 := hx3w.cell r0
            have s3 := hx3w.cell s0
            have htaN := H.out.2.2.1.nx_lt (s := sa) (c := c) (by rw [← H.out.2.2.2.2.2.2.1]; exact hsaN) hlc
            have htbN := H.out.2.2.2.1.nx_lt (s := sb) (c := c) (by rw [← H.out.2.2.2.2.2.2.2.1]; exact hsb) hlc
            obtain ⟨ta, hta⟩ : ∃ t, t = a.nx sa c := ⟨_, rfl⟩
            obtain ⟨tb, htb⟩ : ∃ t, t = b.nx sb c := ⟨_, rfl⟩
            rw [← hta] at r2 htaN
            rw [← htb] at s2 htbN
            rw [← H.out.2.2.2.2.2.2.1] at htaN
            rw [← H.out.2.2.2.2.2.2.2.1] at htbN
            obtain ⟨q, hq⟩ : ∃ q, q = ta * NB := ⟨_, rfl⟩
            obtain ⟨k, hk⟩ : ∃ k, k = ta * NB + tb := ⟨_, rfl⟩
            have hkN : k < NN := by rw [hk, H.out.2.2.2.2.2.2.2.2.1]; exact pair_lt' htaN htbN
            have hw1 : ((ta : Int) * (NB : Int)) = (q : Int) := by rw [hq]; simp
            have hw2 : ((q : Int) + (tb : Int)) = (k : Int) := by omega
            have hqN : q ≤ 360000 := by omega
            have hpn : pairNx a.aut b.aut ki c = k := by
              rw [HR.out.2.2.2.2.1, hk, hta, htb]
              have e := H.out.2.2.2.2.2.2.2.1
              have := pairNx_eq (A := a.aut) (B := b.aut) (a := sa) (b := sb) (c := c) (by rw [e] at hsb; exact hsb)
              rw [e]; exact this
            have hse := hS.seen.cell hkN
            have hsf := hS.seen.frozen k
            obtain ⟨z, hz⟩ : ∃ z, z = seenB L' k := ⟨_, rfl⟩
            rw [← hz] at hse
            have hj2 : (sa : Int) < NA := by omega
            have hj3 : (sb : Int) < NB := by omega
            have hj4 : (k : Int) < NN := by omega
            have hj5 : (c : Int) < 256 := by omega
            obtain ⟨n', hn'⟩ : ∃ n, n = S'.length := ⟨_, rfl⟩
            rw [← hn'] at hLN hil hS ⊢
            have hj6 : (i : Int) < n' := by omega
            have HN' := Lib.hid hn'
            have HS := Lib.hid (And.intro hS (And.intro hBfs (And.intro hLi (And.intro hSi (And.intro hk (And.intro hpn hz))))))
            clear hS hBfs hLi hSi hk hpn hz hx3w hta htb hq r0 r1 s0 s1 hn' b1 b3
            go_wp2_with fail
            go_quiet (fail)
            obtain ⟨wA, hwA⟩ : ∃ z, z = wj.drewN nq := ⟨_, rfl⟩
            have hxA : Ext wj wA := by rw [hwA]; exact (Ext.refl _).drewN _
            rw [← hwA]
            have d2 := hxA.cell b2
            have d1 := hxA.cell c1
            have d3 := hxA.cell s3
            have d4 := hxA.cell s2
            have d5 := hxA.cell hse
            have d6 : wA.frozen? ⟨gS, k, none⟩ = false := (Below.frozen hxA (p := ⟨gS, k, none⟩) (lt_of_cell hse)).trans hsf
            have HXA := Lib.hid hxA
            clear hwA hxA b0 b2 c0 c1 r3 r2 s3 s2 hse hsf
            go_wp2_with fail
            go_quiet (fail)
            obtain ⟨wB, hwB⟩ : ∃ z, z = wA.drewN nq := ⟨_, rfl⟩
            have hxB : Ext wA wB := by rw [hwB]; exact (Ext.refl _).drewN _
            rw [← hwB]
            have f2 := hxB.cell d2
            have f5 := hxB.cell d5
            have f6 : wB.frozen? ⟨gS, k, none⟩ = false := (Below.frozen hxB (p := ⟨gS, k, none⟩) (lt_of_cell d5)).trans d6
            have HXB := Lib.hid (HXA.out.trans hxB)
            clear hwB hxB d2 d1 d3 d4 d5 d6
            have HSB := Lib.hid (HS.out.1.more HXB.out)
            cases z
            · obtain ⟨W1, hW1⟩ : ∃ W, W = wB.setCell ⟨gS, k, none⟩ (.bool true) := ⟨_, rfl⟩
              obtain ⟨i0, hi0, hz0, hz1, hz2⟩ := info_parts reach_info
              have hx2 : Ext (wB.setCell ⟨gS, k, none⟩ (.bool true)) (W1.alloc (.cells #[.int .i64 (ta : Int), .int .i64 (tb : Int), .int .i64 (i : Int), .int .i64 (c : Int)] 70)) := by rw [hW1]; exact Ext.box _ _
              have hown' := HSB.out.marked hx2
              rw [← HN'.out] at hown'
              have hcell : ∀ j u, [Value.int .i64 (ta : Int), .int .i64 (tb : Int), .int .i64 (i : Int), .int .i64 (c : Int)][j]? = some u → (W1.alloc (.cells #[.int .i64 (ta : Int), .int .i64 (tb : Int), .int .i64 (i : Int), .int .i64 (c : Int)] 70)).cell? ((⟨wB.heap.size, 0, none⟩ : Addr).add j) = some u := by
                have h := World.news_of_block (cs := #[.int .i64 (ta : Int), .int .i64 (tb : Int), .int .i64 (i : Int), .int .i64 (c : Int)]) (t := 70) (fr := (0, 0)) (heap_alloc_new W1 _)
                rw [show W1.heap.size = wB.heap.size by rw [hW1, World.size_setCell]] at h
                exact h
              have h1c : ∀ u ∈ [Value.int .i64 (ta : Int), .int .i64 (tb : Int), .int .i64 (i : Int), .int .i64 (c : Int)], u.oneCell' = true := by intro u hu; simp at hu; rcases hu with rfl | rfl | rfl | rfl <;> rfl
              have hsB := HSB.out.ext.size
              have hbase : W3.heap.size ≤ (W1.alloc (.cells #[.int .i64 (ta : Int), .int .i64 (tb : Int), .int .i64 (i : Int), .int .i64 (c : Int)] 70)).heap.size := by rw [World.size_alloc, hW1, World.size_setCell]; omega
              have hmax : n' + 1 ≤ maxLen := by unfold maxLen; omega
              have HY := Lib.hid (And.intro hx2 hW1)
              rw [hW1] at hown' hcell hbase
              clear hx2 hW1
              go_wp2_with (at_builtin; refine wpList_append_own_at _ rfl _ _ 66 rfl W3.heap.size 70 i0 (.agg #[.int .i64 0, .int .i64 0, .int .i64 0, .int .i64 0]) 4 32 Tryd.underlying66 hi0 hz0 hz1 hz2 rfl (by decide) _ _ _ rfl hown' ⟨wB.heap.size, 0, none⟩ 1 1 [.int .i64 (ta : Int), .int .i64 (tb : Int), .int .i64 (i : Int), .int .i64 (c : Int)] rfl rfl hcell h1c hmax (by omega) hbase ?_; intro v' W hown9 hg _ hat)
              rw [← HY.out.2] at hg
              go_roundw
              case rel =>
                have hBA := HS.out.2.1.add HS.out.2.2.1 hlc (by rw [HS.out.2.2.2.2.2.1]; exact hkN) (by rw [HS.out.2.2.2.2.2.1]; exact seenB_false HS.out.2.2.2.2.2.2.symm)
                rw [HS.out.2.2.2.2.2.1] at hBA
                refine ⟨c + 1, S' ++ [⟨ta, tb, (i : Int), c⟩], L' ++ [(k, wi ++ [c])], by omega, by go_num, HSB.out.add HN'.out HS.out.2.2.2.2.1 htbN HS.out.2.2.1 HY.out.1 hown9 hg (fun g2 e => ?_), hBA, WM.getElem?_old HS.out.2.2.1, WM.getElem?_old HS.out.2.2.2.1⟩
                rcases hat with h | h
                · left; exact h.symm.trans e
                · right
                  rw [h] at e
                  simp at e; omega
              case measure => simp [intOf]; omega
            · go_wp2_with fail
              go_roundw
              case rel =>
                obtain ⟨j, wj', hj⟩ := seenB_true HS.out.2.2.2.2.2.2.symm
                exact ⟨c + 1, S', L', by omega, by go_num, by rw [← HN'.out] at *; exact HSB.out, HS.out.2.1.skip HS.out.2.2.1 (j := j) (w := wj') (by rw [HS.out.2.2.2.2.2.1]; exact hj), HS.out.2.2.1, HS.out.2.2.2.1⟩
              case measure => simp [intOf]; omega
          · obtain rfl : c = 256 := by omega
            have hnk : pairIs NB P ki = false := by rw [HR.out.2.2.2.2.1, pairIs_eq hsb, HRr.out]
            have HS := Lib.hid (And.intro hS (And.intro hBfs hLi))
            have hj5 : ¬ ((256 : Nat) : Int) < 256 := by omega
            clear hS hBfs hLi hSi
            go_wp2_with fail
            go_roundw
            case rel => exact ⟨i + 1, S', L', by omega, by go_num, HS.out.1, HS.out.2.1.next HS.out.2.2 hnk⟩
            case measure => simp [intOf]; omega
      · have hj7 : (i : Int) + 1 ≤ cg := by omega
        go_wp2
        go_ret
        have hnode := HR.out.2.1.node i ki wi HR.out.2.2.2.1
        have hyB : y < b.aut.n := by rw [H.out.2.2.2.2.2.2.2.1] at hy; exact hy
        have hxA : x < a.aut.n := by rw [H.out.2.2.2.2.2.2.1] at hx; exact hx
        have hrun := pair_run (A := a.aut) (B := b.aut) H.out.2.2.2.1.ok wi x y hyB hnode.2.1
        have hk9 : ki = a.aut.run x wi * b.aut.n + b.aut.run y wi := by
          rw [← hrun, hnode.2.2, H.out.2.2.2.2.2.2.2.2.2.1, H.out.2.2.2.2.2.2.2.1]; rfl
        have hbn : NB = b.aut.n := H.out.2.2.2.2.2.2.2.1
        have hb9 := LM.Aut.run_lt H.out.2.2.2.1.ok wi y hyB hnode.2.1
        have hsbn : sb < b.aut.n := by rw [← hbn]; exact hsb
        have e9 : sa * b.aut.n + sb = a.aut.run x wi * b.aut.n + b.aut.run y wi := by rw [← hbn]; rw [← hbn] at hk9; rw [← hk9, HR.out.2.2.2.2.1]
        have ea : sa = a.aut.run x wi := by have h1 := (pair_div' hsbn (a := sa)).1; rw [e9, (pair_div' hb9).1] at h1; exact h1.symm
        have eb : sb = b.aut.run y wi := by have h1 := (pair_div' hsbn (a := sa)).2; rw [e9, (pair_div' hb9).2] at h1; exact h1.symm
        have hPk : pairIs b.aut.n P ki = true := by rw [← hbn, HR.out.2.2.2.2.1, pairIs_eq hsb, HRr.out]
        refine ⟨g, cg, i, S, L, s, ki, wi, rfl, by rw [← HR.out.2.2.1]; exact hlt, by rw [← HR.out.2.2.1]; omega, HR.out.2.2.2.2.2.2.1.ext HX9.out, HR.out.1.tr, HR.out.2.2.2.2.2.1, HR.out.2.2.2.1, by rw [← HR.out.2.2.2.2.2.2.2.2.1]; rw [H.out.2.2.2.2.2.2.1] at hsaN; exact hsaN, by rw [← HR.out.2.2.2.2.2.2.2.2.2]; exact hsbn, by rw [← HR.out.2.2.2.2.2.2.2.2.1]; exact ea, by rw [← HR.out.2.2.2.2.2.2.2.2.2]; exact eb, hnode.2.1, .inl ⟨?_, ?_⟩, HR.out.2.2.2.2.2.2.2.1.trans HX9.out⟩
        · rw [← HR.out.2.2.2.2.2.2.2.2.1, ← HR.out.2.2.2.2.2.2.2.2.2]; exact HRr.out.symm
        · exact first_of H.out.2.2.1.ok H.out.2.2.2.1.ok hxA hyB (HCV.out _ _ HR.out.2.1) HR.out.2.2.2.1 hPk
    · have hend : S.length ≤ i := by omega
      have hj1 : ¬ (i : Int) < S.length := by omega
      obtain ⟨s, hs⟩ : ∃ s, S[S.length - 1]? = some s := ⟨_, List.getElem?_eq_getElem (by omega)⟩
      obtain ⟨⟨ki, wi⟩, hLi⟩ : ∃ p, L[S.length - 1]? = some p := ⟨_, List.getElem?_eq_getElem (by rw [← hS.tr.len]; omega)⟩
      obtain ⟨hsaN, hsb, hki⟩ := hkk _ s ki wi hs hLi
      have HR := Lib.hid (And.intro hS (And.intro hBfs (And.intro hst (And.intro hLi (And.intro hki (And.intro hs hend))))))
      clear hS hBfs hst hLi hki hs hn hkk
      go_wp2
      go_ret
      have hnode := HR.out.2.1.node _ ki wi HR.out.2.2.2.1
      have hyB : y < b.aut.n := by rw [H.out.2.2.2.2.2.2.2.1] at hy; exact hy
      have hrun := pair_run (A := a.aut) (B := b.aut) H.out.2.2.2.1.ok wi x y hyB hnode.2.1
      have hk9 : ki = a.aut.run x wi * b.aut.n + b.aut.run y wi := by
        rw [← hrun, hnode.2.2, H.out.2.2.2.2.2.2.2.2.2.1, H.out.2.2.2.2.2.2.2.1]; rfl
      have hbn : NB = b.aut.n := H.out.2.2.2.2.2.2.2.1
      have hb9 := LM.Aut.run_lt H.out.2.2.2.1.ok wi y hyB hnode.2.1
      have hsbn : s.b < b.aut.n := by rw [← hbn]; exact hsb
      have e9 : s.a * b.aut.n + s.b = a.aut.run x wi * b.aut.n + b.aut.run y wi := by rw [← hbn]; rw [← hbn] at hk9; rw [← hk9, HR.out.2.2.2.2.1]
      have ea : s.a = a.aut.run x wi := by have h1 := (pair_div' hsbn (a := s.a)).1; rw [e9, (pair_div' hb9).1] at h1; exact h1.symm
      have eb : s.b = b.aut.run y wi := by have h1 := (pair_div' hsbn (a := s.a)).2; rw [e9, (pair_div' hb9).2] at h1; exact h1.symm
      have hNo := nowhere_of H.out.2.2.2.1.ok hyB (HCV.out _ _ HR.out.2.1) (by rw [← HR.out.1.tr.len]; exact HR.out.2.2.2.2.2.2)
      have hP9 : P s.a s.b = false := by rw [ea, eb]; exact hNo wi hnode.2.1
      have hl1 : S.length - 1 + 1 = S.length := by omega
      refine ⟨g, cg, S.length - 1, S, L, s, ki, wi, by rw [hl1]; rfl, by omega, by omega, HR.out.2.2.1, HR.out.1.tr, HR.out.2.2.2.2.2.1, HR.out.2.2.2.1, by rw [H.out.2.2.2.2.2.2.1] at hsaN; exact hsaN, hsbn, ea, eb, hnode.2.1, .inr ⟨hP9, hl1, hNo, i, by rw [← HR.out.1.tr.len]; exact HR.out.2.2.2.2.2.2, HCV.out _ _ HR.out.2.1⟩, HB.out.2.1.trans HR.out.1.ext⟩
end Go.Proofs.YtihginaanlcilaaDoor
