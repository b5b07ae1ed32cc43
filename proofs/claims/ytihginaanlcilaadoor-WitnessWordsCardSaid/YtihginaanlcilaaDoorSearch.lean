/- witness.search: the first word behind which a function of two states says yes. -/
import Derived.Test.YtihginaanlcilaaDoorWord
import Derived.Deep.DeepCutAuto
import Derived.BigRegion
import Derived.Deep.RegionHeld3
import Derived.Deep.AppendLies
namespace Go.Proofs.YtihginaanlcilaaDoor
open Go.RowKit

theorem step_info : (Tryd.prog.info? 90).map (fun i => (i.zero, i.size, i.bytes)) = some (some (.agg #[.int .i64 0, .int .i64 0, .int .i64 0, .int .u8 0]), 4, 32) := by kernel_rfl
theorem bool_info13 : (Tryd.prog.info? 4).map (fun i => (i.zero, i.size, i.bytes)) = some (some (.bool false), 1, 1) := by kernel_rfl

def SearchR (w : World) (A B : LM.Aut) (x y : Nat) (P : Nat → Nat → Bool) (e : Ending) (w' : World) : Prop :=
  Ext w w' ∧ ((∃ u v, e = .returned (.tuple #[v, .bool true]) ∧ First A B x y P u ∧ w'.ownsRow w.heap.size 5 1 v u.length (bytesV u)) ∨ (e = .returned (.tuple #[.slice none 0 0, .bool false]) ∧ Nowhere A B x y P))

set_option maxRecDepth 100000 in
set_option maxHeartbeats 4000000 in
theorem search_c {w : World} {va vb : Value} {a b : Dn} (ha : DenseV w va a) (hb : DenseV w vb b) (hma : May a) (hmb : May b) {x y : Nat} (hx : x < a.next.length) (hy : y < b.next.length) {fid : FuncId} {caps : Array Value} {P : Nat → Nat → Bool} (hen : ∀ args w, (callFunc fid args).run Tryd.prog w = .ok (.enter fid args) w)
    (his : ∀ W i k, Ext w W → i < a.next.length → k < b.next.length → Calls Tryd.prog fid (#[.agg #[.int .i64 (i : Int), .int .i64 (k : Int)]] ++ caps) W fun e W' => e = .returned (.bool (P i k)) ∧ Ext W W') :
    Calls Tryd.prog 36 #[va, vb, .agg #[.int .i64 (x : Int), .int .i64 (y : Int)], .func (.func fid) #[] caps] w (SearchR w a.aut b.aut x y P) := by
  obtain ⟨bn, on, cn, bl, ol, cl, rfl, hca⟩ := ha.cells hma
  obtain ⟨bm, om, cm, bk, ok, ck, rfl, hcb⟩ := hb.cells hmb
  obtain ⟨NA, hNA⟩ : ∃ N, N = a.next.length := ⟨_, rfl⟩
  obtain ⟨NB, hNB⟩ : ∃ N, N = b.next.length := ⟨_, rfl⟩
  have h6a : NA ≤ 600 := by rw [hNA]; exact hma.most
  have h6b : NB ≤ 600 := by rw [hNB]; exact hmb.most
  rw [← hNA] at hx his ⊢
  rw [← hNB] at hy his ⊢
  obtain ⟨NN, hNN⟩ : ∃ NN, NN = NA * NB := ⟨_, rfl⟩
  have hNN6 : NN ≤ 360000 := by rw [hNN]; exact Nat.le_trans (Nat.mul_le_mul h6a h6b) (by omega)
  obtain ⟨k0, hk0⟩ : ∃ k, k = x * NB + y := ⟨_, rfl⟩
  have hk0N : k0 < NN := by rw [hk0, hNN]; exact pair_lt' hx hy
  obtain ⟨q0, hq0⟩ : ∃ q, q = x * NB := ⟨_, rfl⟩
  have hw0 : IntKind.i64.wrap ((NA : Int) * (NB : Int)) = (NN : Int) := by
    have : ((NA : Int) * (NB : Int)) = (NN : Int) := by rw [hNN]; simp
    rw [this]; exact IntWalk.i64_in _ (by omega)
  have hw1 : IntKind.i64.wrap ((x : Int) * (NB : Int)) = (q0 : Int) := by
    have : ((x : Int) * (NB : Int)) = (q0 : Int) := by rw [hq0]; simp
    rw [this]; exact IntWalk.i64_in _ (by omega)
  have hw2 : IntKind.i64.wrap ((q0 : Int) + (y : Int)) = (k0 : Int) := by
    have : ((q0 : Int) + (y : Int)) = (k0 : Int) := by omega
    rw [this]; exact IntWalk.i64_in _ (by omega)
  have hj0 : (k0 : Int) < NN := by omega
  have hmk := run_make_any (P := Tryd.prog) 86 4 (.bool false) 1 1 Tryd.underlying86 bool_info13 .i64 .i64 NN (by omega) (by omega)
  have hmc := made_one (.bool false) hk0N
  have H := Lib.hid (And.intro ha (And.intro hb (And.intro hma (And.intro hmb (And.intro hca (And.intro hcb (And.intro hNA (And.intro hNB (And.intro hNN (And.intro hk0 his))))))))))
  have HQ0 := Lib.hid hq0
  have hconv : ∀ i L, WM.Bfs (pairNx a.aut b.aut) NN k0 (pairIs NB P) i 0 L → WM.Bfs (pairNx a.aut b.aut) (a.aut.n * b.aut.n) (x * b.aut.n + y) (pairIs b.aut.n P) i 0 L := by
    intro i L h
    rw [hNN, hk0, hNA, hNB] at h
    exact h
  have HCV := Lib.hid hconv
  clear hconv
  clear ha hb hma hmb hca hcb hNA hNB hNN hk0 his hq0
  obtain ⟨OA, hOA⟩ : ∃ O, O = (Obj.cells #[.slice (some ⟨bn, on, none⟩) NA cn, .slice (some ⟨bl, ol, none⟩) NA cl] 25) := ⟨_, rfl⟩
  obtain ⟨OB, hOB⟩ : ∃ O, O = (Obj.cells #[.slice (some ⟨bm, om, none⟩) NB cm, .slice (some ⟨bk, ok, none⟩) NB ck] 25) := ⟨_, rfl⟩
  obtain ⟨OF, hOF⟩ : ∃ O, O = (Obj.cells #[.int .i64 (x : Int), .int .i64 (y : Int)] 78) := ⟨_, rfl⟩
  have HO := Lib.hid (And.intro hOA (And.intro hOB hOF))
  clear hOA hOB hOF
  go_enter Tryd.func36, Tryd.ntmps36
  go_wp2_with fail
  clear hw0 hw1 hw2 hmk hmc
  obtain ⟨W3, hW3⟩ : ∃ W, W = ((w.alloc OA).alloc OB).alloc OF := ⟨_, rfl⟩
  obtain ⟨W0, hW0⟩ : ∃ W, W = (W3.alloc (.cells ((madeCells #[.bool false] NN).setIfInBounds k0 (.bool true)) 4)).alloc (.cells #[.int .i64 (x : Int), .int .i64 (y : Int), .int .i64 (-1), .int .u8 0] 90) := ⟨_, rfl⟩
  rw [← HO.out.1, ← HO.out.2.1, ← HO.out.2.2, ← hW3, ← hW0]
  have hsz3 : W3.heap.size = w.heap.size + 1 + 1 + 1 := by rw [hW3]; simp
  have hx3 : Ext w W3 := by rw [hW3]; exact ((Ext.box _ _).alloc _).alloc _
  have b0 : W3.cell? ⟨w.heap.size, 0, none⟩ = some (.slice (some ⟨bn, on, none⟩) NA cn) := by
    rw [hW3]
    exact ((Ext.box _ _).alloc _).cell (a := w.alloc OA) (by rw [HO.out.1]; exact new_cell rfl)
  have b1 : W3.cell? ⟨w.heap.size + 1, 0, none⟩ = some (.slice (some ⟨bm, om, none⟩) NB cm) := by
    rw [hW3]
    refine (Ext.box _ _).cell (a := (w.alloc OA).alloc OB) ?_
    have := new_cell (w := w.alloc OA) (c := #[.slice (some ⟨bm, om, none⟩) NB cm, .slice (some ⟨bk, ok, none⟩) NB ck]) (t := 25) (i := 0) rfl
    rw [World.size_alloc] at this
    rw [HO.out.2.1]; exact this
  obtain ⟨gS, hgS⟩ : ∃ g, g = W3.heap.size := ⟨_, rfl⟩
  rw [← hsz3, ← hgS]
  have hs0 : SrS W3 W0 gS NN NB (.slice (some ⟨gS + 1, 0, none⟩) 1 1) [⟨x, y, -1, 0⟩] [(k0, [])] := by
    have hb1 : W0.heap[gS]? = some (.cells ((madeCells #[.bool false] NN).setIfInBounds k0 (.bool true)) 4 (0, 0)) := by
      rw [hW0, hgS, (Ext.box _ _).block _ (by simp)]; exact heap_alloc_new _ _
    have hb2 : W0.heap[gS + 1]? = some (.cells #[.int .i64 (x : Int), .int .i64 (y : Int), .int .i64 (-1), .int .u8 0] 90 (0, 0)) := by
      have := heap_alloc_new (W3.alloc (.cells ((madeCells #[.bool false] NN).setIfInBounds k0 (.bool true)) 4)) (.cells #[.int .i64 (x : Int), .int .i64 (y : Int), .int .i64 (-1), .int .u8 0] 90)
      rw [hW0, hgS]; simpa using this
    refine ⟨by rw [hW0]; exact (Ext.box _ _).alloc _, ⟨_, hb1, by simp [size_madeCells], fun k hk => ?_⟩, ⟨rfl, .inr ⟨gS + 1, 1, _, rfl, by omega, hb2, Nat.le_refl _, by unfold maxLen; omega, rfl, rfl⟩⟩, fun g e => by simp [Value.ownBlock] at e; omega, by omega, by rw [H.out.2.2.2.2.2.2.2.2.2.1]; exact .one hy⟩
    rw [Array.getElem?_setIfInBounds]
    by_cases e : k0 = k
    · subst e
      rw [if_pos rfl, if_pos (by rw [size_madeCells]; exact hk)]
      simp [seenB]
    · rw [if_neg e, made_one _ hk]
      simp [seenB, e]
  have HB := Lib.hid (And.intro b0 (And.intro b1 (And.intro hx3 hsz3)))
  have HS0 := Lib.hid hs0
  clear hW3 hW0 b0 b1 hx3 hs0 hgS hsz3
  go_loopw [11, 12] (fun lv iv wr => ∃ (i : Nat) (S : List St) (L : List (Nat × List Nat)), i ≤ S.length ∧ iv = .int .i64 i ∧ SrS W3 wr gS NN NB lv S L ∧ WM.Bfs (pairNx a.aut b.aut) NN k0 (pairIs NB P) i 0 L) (fun _ iv _ => NN - (intOf iv).toNat)
  case atStart =>
    refine ⟨0, _, _, Nat.zero_le _, rfl, HS0.out, WM.Bfs.init _ _ hk0N⟩
  case round =>
    obtain ⟨i, S, L, hi, rfl, hS, hBfs⟩ := hrel
    have hLN : S.length ≤ NN := by rw [hS.tr.len]; exact hBfs.length_le
    obtain ⟨n, hn⟩ : ∃ n, n = S.length := ⟨_, rfl⟩
    by_cases hlt : i < S.length
    · obtain ⟨g, cg, hlv, hg1, hg2⟩ := own_slc hS.row (by omega)
      subst hlv
      obtain ⟨s, hs⟩ : ∃ s, S[i]? = some s := ⟨_, List.getElem?_eq_getElem hlt⟩
      obtain ⟨⟨ki, wi⟩, hLi⟩ : ∃ p, L[i]? = some p := ⟨_, List.getElem?_eq_getElem (by rw [← hS.tr.len]; exact hlt)⟩
      obtain ⟨hki, hsb⟩ := hS.tr.at_ i s ki wi hs hLi
      obtain ⟨sa, hsa⟩ : ∃ a, a = s.a := ⟨_, rfl⟩
      obtain ⟨sb, hsbb⟩ : ∃ b, b = s.b := ⟨_, rfl⟩
      rw [← hsa, ← hsbb] at hki
      rw [← hsbb] at hsb
      have hsaN : sa < NA := by
        have h1 := (hBfs.node i ki wi hLi).1
        rcases Nat.lt_or_ge sa NA with h | h
        · exact h
        · have := Nat.mul_le_mul_right NB h
          rw [H.out.2.2.2.2.2.2.2.2.1] at h1
          omega
      have hst := own_st hS.row rfl
      obtain ⟨c0, c1, _, _⟩ := hst i s hs
      rw [← hsa] at c0
      rw [← hsbb] at c1
      have hgn := hS.off g rfl
      rw [← hn] at hLN hlt hS ⊢
      have hj1 : (i : Int) < n := by omega
      have hgl := lt_of_cell c0
      have hwr := HB.out.2.2.1.trans hS.ext
      have HR := Lib.hid (And.intro hS (And.intro hBfs (And.intro hn (And.intro hLi (And.intro hki (And.intro hs (And.intro hst hwr)))))))
      obtain ⟨r, hr⟩ : ∃ r, r = P sa sb := ⟨_, rfl⟩
      have hcall := H.out.2.2.2.2.2.2.2.2.2.2 (wr.alloc (.cells #[.int .i64 (sa : Int), .int .i64 (sb : Int)] 78)) sa sb (Ext.alloc hwr _) hsaN hsb
      rw [← hr] at hcall
      have HCall := Lib.hid hcall
      have HRr := Lib.hid hr
      clear hS hBfs hn hLi hki hs hst hwr hcall hr hsa hsbb
      go_wp2_with fail
      refine HCall.out.mono ?_
      rintro e w9 ⟨rfl, hx9⟩
      have d0 := hx9.cell (p := ⟨wr.heap.size, 0, none⟩) (v := .int .i64 (sa : Int)) (by simp)
      have d1 := hx9.cell (p := ⟨wr.heap.size, 1, none⟩) (v := .int .i64 (sb : Int)) (by simp)
      have hx9' : Ext wr w9 := (Ext.box wr _).trans hx9
      have HX9 := Lib.hid hx9'
      clear hx9 hx9'
      cases r
      · go_wp2_with fail
        obtain ⟨bT, hbT⟩ : ∃ b, b = wr.heap.size := ⟨_, rfl⟩
        rw [← hbT] at d0 d1 ⊢
        have HbT := Lib.hid hbT
        clear hbT
        have hbS : gS < wr.heap.size := HR.out.1.seen.lt
        go_loopw [11, 56] (fun lv cv wj => ∃ (c : Nat) (S' : List St) (L' : List (Nat × List Nat)), c ≤ 256 ∧ cv = .int .i64 c ∧ SrS W3 wj gS NN NB lv S' L' ∧ WM.Bfs (pairNx a.aut b.aut) NN k0 (pairIs NB P) i c L' ∧ L'[i]? = some (ki, wi) ∧ (∀ g, lv.ownBlock = some g → g ≠ bT) ∧ wj.cell? ⟨bT, 0, none⟩ = some (.int .i64 (sa : Int)) ∧ wj.cell? ⟨bT, 1, none⟩ = some (.int .i64 (sb : Int))) (fun _ cv _ => 256 - (intOf cv).toNat)
        case atStart => exact ⟨0, S, L, Nat.zero_le _, rfl, (by have := HR.out.1.more HX9.out; exact this), HR.out.2.1, HR.out.2.2.2.1, (fun g' e => by have := HbT.out; simp [Value.ownBlock] at e; omega), d0, d1⟩
        case round =>
          clear d0 d1
          obtain ⟨c, S', L', hc, rfl, hS, hBfs, hLi, hoT, d0, d1⟩ := hrel
          have hLN : S'.length ≤ NN := by rw [hS.tr.len]; exact hBfs.length_le
          have hil : i < S'.length := by rw [hS.tr.len]; exact WM.lt_of_get hLi
          by_cases hlc : c < 256
          · obtain ⟨g', cg', hlv, hg1', hg2'⟩ := own_slc hS.row (by omega)
            subst hlv
            have hx3w := HB.out.2.2.1.trans hS.ext
            have b0 := hS.ext.cell HB.out.1
            have b1 := hS.ext.cell HB.out.2.1
            obtain ⟨br, ro, cr, r0, r1⟩ := H.out.2.2.2.2.1.row sa (by rw [← H.out.2.2.2.2.2.2.1]; exact hsaN)
            obtain ⟨br', ro', cr', s0, s1⟩ := H.out.2.2.2.2.2.1.row sb (by rw [← H.out.2.2.2.2.2.2.2.1]; exact hsb)
            have r2 := hx3w.cell (r1 c hlc)
            have s2 := hx3w.cell (s1 c hlc)
            have r3 := hx3w.cell r0
            have s3 := hx3w.cell s0
            have htaN := H.out.2.2.1.nx_lt (s := sa) (c := c) (by rw [← H.out.2.2.2.2.2.2.1]; exact hsaN) hlc
            have htbN := H.out.2.2.2.1.nx_lt (s := sb) (c := c) (by rw [← H.out.2.2.2.2.2.2.2.1]; exact hsb) hlc
            obtain ⟨ta, hta⟩ : ∃ t, t = a.nx sa c := ⟨_, rfl⟩
            obtain ⟨tb, htb⟩ : ∃ t, t = b.nx sb c := ⟨_, rfl⟩
            rw [← hta] at r2 htaN
            rw [← htb] at s2 htbN
            rw [← H.out.2.2.2.2.2.2.1] at htaN
            rw [← H.out.2.2.2.2.2.2.2.1] at htbN
            obtain ⟨q, hq⟩ : ∃ q, q = ta * NB := ⟨_, rfl⟩
            obtain ⟨k, hk⟩ : ∃ k, k = ta * NB + tb := ⟨_, rfl⟩
            have hkN : k < NN := by rw [hk, H.out.2.2.2.2.2.2.2.2.1]; exact pair_lt' htaN htbN
            have hw1 : IntKind.i64.wrap ((ta : Int) * (NB : Int)) = (q : Int) := by
              have : ((ta : Int) * (NB : Int)) = (q : Int) := by rw [hq]; simp
              rw [this]; exact IntWalk.i64_in _ (by omega)
            have hw2 : IntKind.i64.wrap ((q : Int) + (tb : Int)) = (k : Int) := by
              have : ((q : Int) + (tb : Int)) = (k : Int) := by omega
              rw [this]; exact IntWalk.i64_in _ (by omega)
            have hpn : pairNx a.aut b.aut ki c = k := by
              rw [HR.out.2.2.2.2.1, hk, hta, htb]
              have e := H.out.2.2.2.2.2.2.2.1
              have := pairNx_eq (A := a.aut) (B := b.aut) (a := sa) (b := sb) (c := c) (by rw [e] at hsb; exact hsb)
              rw [e]; exact this
            have hse := hS.seen.cell hkN
            have hsf := hS.seen.frozen k
            obtain ⟨z, hz⟩ : ∃ z, z = seenB L' k := ⟨_, rfl⟩
            rw [← hz] at hse
            have hj2 : (sa : Int) < NA := by omega
            have hj3 : (sb : Int) < NB := by omega
            have hj4 : (k : Int) < NN := by omega
            have hj5 : (c : Int) < 256 := by omega
            have l1 := lt_of_cell d0
            have l2 := lt_of_cell b0
            have l3 := lt_of_cell b1
            have l4 := lt_of_cell r3
            have l5 := lt_of_cell r2
            have l6 := lt_of_cell s3
            have l7 := lt_of_cell s2
            have l8 := lt_of_cell hse
            obtain ⟨n', hn'⟩ : ∃ n, n = S'.length := ⟨_, rfl⟩
            rw [← hn'] at hLN hil hS ⊢
            have HN' := Lib.hid hn'
            clear hn'
            have HS := Lib.hid (And.intro hS (And.intro hBfs (And.intro hLi (And.intro hoT (And.intro hk (And.intro hpn (And.intro hz hx3w)))))))
            clear hS hBfs hLi hoT hk hpn hz hx3w hta htb hq r0 r1 s0 s1
            go_wp2_with fail
            go_region_held3 (fun W => W.cell? ⟨w.heap.size, 0, none⟩ = some (.slice (some ⟨bn, on, none⟩) NA cn) ∧ W.cell? ⟨w.heap.size + 1, 0, none⟩ = some (.slice (some ⟨bm, om, none⟩) NB cm) ∧ W.cell? ⟨bT, 0, none⟩ = some (.int .i64 (sa : Int)) ∧ W.cell? ⟨bT, 1, none⟩ = some (.int .i64 (sb : Int)) ∧ W.cell? ⟨bn, on + sa, none⟩ = some (.slice (some ⟨br, ro, none⟩) 256 cr) ∧ W.cell? ⟨bm, om + sb, none⟩ = some (.slice (some ⟨br', ro', none⟩) 256 cr') ∧ W.cell? ⟨br, ro + c, none⟩ = some (.int .i64 (ta : Int)) ∧ W.cell? ⟨br', ro' + c, none⟩ = some (.int .i64 (tb : Int)))
              (first | exact ⟨b0, b1, d0, d1, r3, s3, r2, s2⟩ | exact ⟨(Ext.box wr _).cell b0, (Ext.box wr _).cell b1, (Ext.box wr _).cell d0, (Ext.box wr _).cell d1, (Ext.box wr _).cell r3, (Ext.box wr _).cell s3, (Ext.box wr _).cell r2, (Ext.box wr _).cell s2⟩ | go_keep)
              ((first | fail))
            cases z
            · go_upto_region 17 with fail
              obtain ⟨W1, hW1⟩ : ∃ W, W = ((wr.setCell ⟨gS, k, none⟩ (.bool true)).alloc (.cells #[.int .i64 (ta : Int), .int .i64 (tb : Int)] 78)).drew := ⟨_, rfl⟩
              rw [← hW1]
              have hx1 : Ext (wr.setCell ⟨gS, k, none⟩ (.bool true)) W1 := by rw [hW1]; exact (Ext.box _ _).drew
              have e0 : W1.cell? ⟨wr.heap.size, 0, none⟩ = some (.int .i64 (ta : Int)) := by
                have := new_cell (w := wr.setCell ⟨gS, k, none⟩ (.bool true)) (c := #[.int .i64 (ta : Int), .int .i64 (tb : Int)]) (t := 78) (i := 0) rfl
                rw [World.size_setCell] at this
                rw [hW1]; exact this
              have e1 : W1.cell? ⟨wr.heap.size, 1, none⟩ = some (.int .i64 (tb : Int)) := by
                have := new_cell (w := wr.setCell ⟨gS, k, none⟩ (.bool true)) (c := #[.int .i64 (ta : Int), .int .i64 (tb : Int)]) (t := 78) (i := 1) rfl
                rw [World.size_setCell] at this
                rw [hW1]; exact this
              have hs1 : W1.heap.size = wr.heap.size + 1 := by rw [hW1]; simp
              obtain ⟨i0, hi0, hz0, hz1, hz2⟩ := info_parts step_info
              have hx2 : Ext (wr.setCell ⟨gS, k, none⟩ (.bool true)) (W1.alloc (.cells #[.int .i64 (ta : Int), .int .i64 (tb : Int), .int .i64 (i : Int), .int .u8 (c : Int)] 90)) := Ext.alloc hx1 _
              have hown' := HS.out.1.marked hx2
              rw [← HN'.out] at hown'
              have hcell : ∀ j u, [Value.int .i64 (ta : Int), .int .i64 (tb : Int), .int .i64 (i : Int), .int .u8 (c : Int)][j]? = some u → (W1.alloc (.cells #[.int .i64 (ta : Int), .int .i64 (tb : Int), .int .i64 (i : Int), .int .u8 (c : Int)] 90)).cell? ((⟨W1.heap.size, 0, none⟩ : Addr).add j) = some u := World.news_of_block (heap_alloc_new W1 (.cells #[.int .i64 (ta : Int), .int .i64 (tb : Int), .int .i64 (i : Int), .int .u8 (c : Int)] 90))
              have h1c : ∀ u ∈ [Value.int .i64 (ta : Int), .int .i64 (tb : Int), .int .i64 (i : Int), .int .u8 (c : Int)], u.oneCell' = true := by intro u hu; simp at hu; rcases hu with rfl | rfl | rfl | rfl <;> rfl
              have hbase : W3.heap.size ≤ (W1.alloc (.cells #[.int .i64 (ta : Int), .int .i64 (tb : Int), .int .i64 (i : Int), .int .u8 (c : Int)] 90)).heap.size := by have := HS.out.1.ext.size; simp; omega
              have hmax : n' + 1 ≤ maxLen := by unfold maxLen; omega
              have hcv : IntKind.u8.wrap (c : Int) = (c : Int) := IntWalk.u8_in _ (by omega)
              have HY := Lib.hid (And.intro hx2 hs1)
              have hlW := lt_of_cell e0
              have HD := Lib.hid (And.intro d0 (And.intro d1 l1))
              clear hx1 hx2 hW1 hs1 b0 b1 r2 r3 s2 s3 l1 l2 l3 l4 l5 l6 l7 l8 hw1 hw2 d0 d1 hse hsf
              have hb1 : W3.heap.size ≤ W1.heap.size := by have := HS.out.1.ext.size; have := HY.out.2; omega
              go_wp2_with (at_builtin; refine wpList_append_own_at _ rfl _ _ 91 rfl W3.heap.size 90 i0 (.agg #[.int .i64 0, .int .i64 0, .int .i64 0, .int .u8 0]) 4 32 Tryd.underlying91 hi0 hz0 hz1 hz2 rfl (by decide) _ _ _ rfl hown' ⟨W1.heap.size, 0, none⟩ 1 1 [.int .i64 (ta : Int), .int .i64 (tb : Int), .int .i64 (i : Int), .int .u8 (c : Int)] rfl rfl hcell h1c hmax (by omega) hbase ?_; intro v' W hown9 hg _ hat)
              go_roundw
              case rel =>
                have hbne : bT ≠ gS := by have := HbT.out; omega
                have hkeep : ∀ {o : Nat} {v : Value}, wr.cell? ⟨bT, o, none⟩ = some v → W.cell? ⟨bT, o, none⟩ = some v := fun {o v} hv => by
                  have h1 : (wr.setCell ⟨gS, k, none⟩ (.bool true)).cell? ⟨bT, o, none⟩ = some v := by
                    rw [World.cell?_setCell_other _ _ _ _ (by simp only [ne_eq, Addr.mk.injEq]; rintro ⟨e, _⟩; exact hbne (by first | exact e | exact e.symm))]; exact hv
                  have h2 := HY.out.1.cell h1
                  have h3 := HS.out.2.2.2.1
                  have h4 := HD.out.2.2
                  have h5 := HY.out.2
                  rw [World.cell?_of_block (a := ⟨bT, o, none⟩) (hg.block bT (by simp; omega) (fun e => h3 bT e.symm rfl))]
                  exact h2
                have hBA := HS.out.2.1.add HS.out.2.2.1 hlc (by rw [HS.out.2.2.2.2.2.1]; exact hkN) (by rw [HS.out.2.2.2.2.2.1]; exact seenB_false HS.out.2.2.2.2.2.2.1.symm)
                rw [HS.out.2.2.2.2.2.1] at hBA
                refine ⟨c + 1, S' ++ [⟨ta, tb, (i : Int), c⟩], L' ++ [(k, wi ++ [c])], by omega, by go_num, HS.out.1.add HN'.out HS.out.2.2.2.2.1 htbN HS.out.2.2.1 HY.out.1 hown9 hg (fun g2 e => ?_), hBA, WM.getElem?_old HS.out.2.2.1, fun g2 e => ?_, hkeep HD.out.1, hkeep HD.out.2.1⟩
                · rcases hat with h | h
                  · left; exact h.symm.trans e
                  · right
                    rw [h] at e
                    have h5 := HY.out.2
                    simp at e; omega
                · rcases hat with h | h
                  · exact HS.out.2.2.2.1 g2 (by rw [← HN'.out]; exact h.symm.trans e)
                  · rw [h] at e
                    have h4 := HD.out.2.2
                    have h5 := HY.out.2
                    simp at e; omega
              case measure => simp [intOf]; omega
            · go_wp2_with fail
              go_roundw
              case rel =>
                obtain ⟨j, wj, hj⟩ := seenB_true HS.out.2.2.2.2.2.2.1.symm
                have hxx : Ext wr (wr.alloc (.cells #[.int .i64 (ta : Int), .int .i64 (tb : Int)] 78)).drew := (Ext.box _ _).drew
                exact ⟨c + 1, S', L', by omega, by go_num, HS.out.1.more hxx, HS.out.2.1.skip HS.out.2.2.1 (j := j) (w := wj) (by rw [HS.out.2.2.2.2.2.1]; exact hj), HS.out.2.2.1, HS.out.2.2.2.1, hxx.cell d0, hxx.cell d1⟩
              case measure => simp [intOf]; omega
          · obtain rfl : c = 256 := by omega
            have hnk : pairIs NB P ki = false := by rw [HR.out.2.2.2.2.1, pairIs_eq hsb, HRr.out]
            have HS := Lib.hid (And.intro hS (And.intro hBfs hLi))
            obtain ⟨ag, cg, hlv⟩ := own_shp' hS.row
            subst hlv
            clear hS hBfs hoT hLi d0 d1
            go_wp2_with fail
            go_roundw
            case rel => exact ⟨i + 1, S', L', by omega, by go_num, HS.out.1, HS.out.2.1.next HS.out.2.2 hnk⟩
            case measure => simp [intOf]; omega
      · have hwc := word_c (w := w9) (NB := NB) (g := g) (n := n) (cap := cg) (i := i) (ki := ki) (S := S) (L := L) (wi := wi) (HR.out.2.2.2.2.2.2.1.ext HX9.out) HR.out.1.tr HR.out.2.2.1 (by omega) HR.out.2.2.2.1
        have HW := Lib.hid hwc
        clear hwc
        go_wp2_with fail
        refine HW.out.mono ?_
        rintro e w10 ⟨v, rfl, hown, hx10⟩
        have HV := Lib.hid (And.intro hown hx10)
        clear hown hx10
        go_wp2
        go_ret2
        refine ⟨HR.out.2.2.2.2.2.2.2.trans (HX9.out.trans HV.out.2), .inl ⟨wi, v, rfl, first_of H.out.2.2.1.ok H.out.2.2.2.1.ok (x := x) (y := y) (by rw [H.out.2.2.2.2.2.2.1] at hx; exact hx) (by rw [H.out.2.2.2.2.2.2.2.1] at hy; exact hy) (HCV.out _ _ HR.out.2.1) HR.out.2.2.2.1 ?_, own_base HV.out.1 (HR.out.2.2.2.2.2.2.2.trans HX9.out).size⟩⟩
        have : pairIs NB P ki = true := by rw [HR.out.2.2.2.2.1, pairIs_eq hsb, HRr.out]
        rw [H.out.2.2.2.2.2.2.2.1] at this
        exact this
    · have hend : S.length ≤ i := by omega
      have HR := Lib.hid (And.intro hS (And.intro hBfs hend))
      obtain ⟨ag, cg, hlv⟩ := own_shp' hS.row
      subst hlv
      have hlt' : ¬ (i : Int) < S.length := by omega
      clear hS hBfs hn hend
      go_wp2
      go_ret2
      refine ⟨HB.out.2.2.1.trans HR.out.1.ext, .inr ⟨rfl, nowhere_of H.out.2.2.2.1.ok (by rw [H.out.2.2.2.2.2.2.2.1] at hy; exact hy) (HCV.out _ _ HR.out.2.1) (by rw [← HR.out.1.tr.len]; exact HR.out.2.2)⟩⟩
end Go.Proofs.YtihginaanlcilaaDoor
