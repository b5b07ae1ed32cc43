/- witness.labels$1: all labels are gone through, each with its first word. -/
import Derived.Test.YtihginaanlcilaaDoorLabS
import Derived.Test.YtihginaanlcilaaDoorSearch
import Derived.RangeFuncBox
import Derived.RangeFuncLeaves
import Derived.RangeFuncNested
import Derived.Shelf.Abstract
import Derived.OwnWalkIn
import Derived.TacticsInMore
import Derived.LoopNIn
import Derived.LoopIn
import Derived.Maps.OwnIn
import Derived.Deep.DeepCutAuto
namespace Go.Proofs.YtihginaanlcilaaDoor
open Go.RowKit

attribute [local go_sem] Oper.semAt_some

/-- a label, and what is told beside it -/
abbrev LabX := { x : Nat × Value // x.1 < 200 }
def labE (x : LabX) : Array Value := #[.int .i64 (x.1.1 : Int), x.1.2]

open Classical in
/-- the labels that are reached, rising, below k -/
noncomputable def presL (d : Dn) (k : Nat) : List Nat := (List.range k).filter fun b => decide (Reached d (b : Int))
theorem presL_yes {d : Dn} {k : Nat} (h : Reached d (k : Int)) : presL d (k + 1) = presL d k ++ [k] := by
  unfold presL; rw [List.range_succ, List.filter_append]; simp [h]
theorem presL_no {d : Dn} {k : Nat} (h : ¬ Reached d (k : Int)) : presL d (k + 1) = presL d k := by
  unfold presL; rw [List.range_succ, List.filter_append]; simp [h]
theorem presL_len (d : Dn) (k : Nat) : (presL d k).length ≤ k := by
  unfold presL
  exact Nat.le_trans (List.length_filter_le _ _) (by simp)

/-- what a round keeps: the maps from B on; if it is asked, all that lay from B on -/
def KeptFrom (full : Prop) (B : Nat) (W W' : World) : Prop := (∀ k es c, B ≤ k → W.heap[k]? = some (.map es c) → W'.heap[k]? = some (.map es c)) ∧ (full → ∀ k, B ≤ k → k < W.heap.size → W'.heap[k]? = W.heap[k]?)

set_option maxRecDepth 100000 in
set_option maxHeartbeats 4000000 in
theorem labs1_c (n l bD bn on cn bl ol cl : Nat) {d : Dn} (full : Prop) (hA : AutoN d) {W : World} (hb0 : W.cell? ⟨bD, 0, none⟩ = some (.slice (some ⟨bn, on, none⟩) d.next.length cn)) (hb1 : W.cell? ⟨bD, 1, none⟩ = some (.slice (some ⟨bl, ol, none⟩) d.next.length cl)) (hc : Cells W bn on bl ol d)
    (J Jx : List LabX → World → Prop) (hJ : AbidesFrom W.heap.size J)
    (hY : ∀ pre x W1, J pre W1 → pre.length < 200 → (full → pre.map (fun y : LabX => y.1.1) = presL d x.1.1 ∧ ∃ u, FirstW d (x.1.1 : Int) u ∧ W1.ownsRow W.heap.size 5 1 x.1.2 u.length (bytesV u)) → YieldAt Fence.wide (n - 1) Tryd.prog l (labE x) W1 fun e W' =>
      (e = .returned (.bool true) ∧ J (pre ++ [x]) W' ∧ KeptFrom full W.heap.size W1 W') ∨ (e = .returned (.bool false) ∧ Jx (pre ++ [x]) W'))
    (h0 : J [] W) :
    Calls Tryd.prog 48 #[.func (.yield l) #[] #[], .pointer (some ⟨bD, 0, none⟩)] W fun e W' => (∃ v, e = .returned v) ∧
      ((∃ xs, xs.map (fun x : LabX => x.1.1) = presL d 200 ∧ J xs W') ∨ (∃ pre, Jx pre W')) := by
  obtain ⟨N, hN⟩ : ∃ N, N = d.next.length := ⟨_, rfl⟩
  have hpos : 0 < N := by rw [hN]; exact hA.pos
  have hmost : N ≤ 1000 := by rw [hN]; exact hA.most
  have H := Lib.hid (And.intro hA (And.intro hc (And.intro hN (And.intro hJ (And.intro hY h0)))))
  rw [← hN] at hb0 hb1
  clear hA hc hN hJ hY h0
  have hmm := @run_makeMap Tryd.prog
  have hmk := run_make_any (P := Tryd.prog) 86 4 (.bool false) 1 1 Tryd.underlying86 bool_info13 .i64 .i64 N (by omega) (by omega)
  have hmc := made_one (.bool false) hpos
  have l0 := lt_of_cell hb0
  go_enter Tryd.func48, Tryd.ntmps48
  go_wp2_with fail
  clear hmm hmk hmc
  obtain ⟨gM, hgM⟩ : ∃ g, g = W.heap.size := ⟨_, rfl⟩
  obtain ⟨W0, hW0⟩ : ∃ W0, W0 = ((W.alloc (.map #[] 0)).alloc (.cells #[.int .i64 0, .int .i64 0, .int .i64 (-1), .int .u8 0] 90)).alloc (.cells ((madeCells #[.bool false] N).setIfInBounds 0 (.bool true)) 4) := ⟨_, rfl⟩
  rw [← hW0, ← hgM]
  have hs0 : LbS W W0 d (gM + 1 + 1) gM N 0 0 (.slice (some ⟨gM + 1, 0, none⟩) 1 1) [⟨0, 0, -1, 0⟩] [(0, [])] (fun _ => none) := by
    have hb0 : W0.heap[gM]? = (W.alloc (.map #[] 0)).heap[gM]? := by
      rw [hW0]; exact ((Ext.box _ _).alloc _).block _ (by rw [hgM]; simp)
    have hb1 : W0.heap[gM + 1]? = some (.cells #[.int .i64 0, .int .i64 0, .int .i64 (-1), .int .u8 0] 90 (0, 0)) := by
      have := heap_alloc_new (W.alloc (.map #[] 0)) (.cells #[.int .i64 0, .int .i64 0, .int .i64 (-1), .int .u8 0] 90)
      rw [World.size_alloc, ← hgM] at this
      rw [hW0, (Ext.box _ _).block _ (by simp; omega)]; exact this
    have hb2 : W0.heap[gM + 1 + 1]? = some (.cells ((madeCells #[.bool false] N).setIfInBounds 0 (.bool true)) 4 (0, 0)) := by
      have := heap_alloc_new ((W.alloc (.map #[] 0)).alloc (.cells #[.int .i64 0, .int .i64 0, .int .i64 (-1), .int .u8 0] 90)) (.cells ((madeCells #[.bool false] N).setIfInBounds 0 (.bool true)) 4)
      rw [World.size_alloc, World.size_alloc, ← hgM] at this
      rw [hW0]; exact this
    refine ⟨⟨by rw [hW0]; exact ((Ext.box _ _).alloc _).alloc _, ⟨_, hb2, by simp [size_madeCells], fun k hk => ?_⟩, ⟨rfl, .inr ⟨gM + 1, 1, _, rfl, by omega, hb1, Nat.le_refl _, by unfold maxLen; omega, rfl, rfl⟩⟩, fun g e => by simp [Value.ownBlock] at e; omega, by omega, .one (by omega)⟩,
      BytM.block (by rw [hgM]; exact BytM.made W) hb0, by omega, by omega, by simp [Value.ownBlock], ⟨fun b _ j k u hj => by omega, fun b v e => by cases e⟩⟩
    rw [Array.getElem?_setIfInBounds]
    by_cases e : 0 = k
    · subst e
      rw [if_pos rfl, if_pos (by rw [size_madeCells]; exact hk)]
      simp [seenB]
    · rw [if_neg e, made_one _ hk]
      simp [seenB, e]
  obtain ⟨gS, hgS⟩ : ∃ g, g = gM + 1 + 1 := ⟨_, rfl⟩
  rw [← hgS] at hs0 ⊢
  have HS0 := Lib.hid hs0
  have HG := Lib.hid (And.intro hgM hgS)
  have hz : ((gM : Nat)) < gS := by omega
  clear hgM hgS hW0 hs0
  go_loopw [4, 6] (fun lv iv wr => ∃ (i nM : Nat) (S : List St) (L : List (Nat × List Nat)) (F : Int → Option Value), i ≤ S.length ∧ iv = .int .i64 i ∧ nM ≤ i ∧ LbS W wr d gS gM N nM i lv S L F ∧ WM.Bfs d.nx N 0 (fun _ => false) i 0 L) (fun _ iv _ => N - (intOf iv).toNat)
  case atStart => exact ⟨0, 0, _, _, _, Nat.zero_le _, rfl, Nat.le_refl _, HS0.out, WM.Bfs.init _ _ hpos⟩
  case round =>
    obtain ⟨i, nM, S, L, F, hi, rfl, hnM, hS, hBfs⟩ := hrel
    have hLN : S.length ≤ N := by rw [hS.sr.tr.len]; exact hBfs.length_le
    by_cases hlt : i < S.length
    · obtain ⟨g, cg, hlv, hg1, hg2⟩ := own_slc hS.sr.row (by omega)
      subst hlv
      obtain ⟨s, hs⟩ : ∃ s, S[i]? = some s := ⟨_, List.getElem?_eq_getElem hlt⟩
      obtain ⟨⟨ki, wi⟩, hLi⟩ : ∃ p, L[i]? = some p := ⟨_, List.getElem?_eq_getElem (by rw [← hS.sr.tr.len]; exact hlt)⟩
      obtain ⟨hki, hsb⟩ := hS.sr.tr.at_ i s ki wi hs hLi
      have hst := own_st hS.sr.row rfl
      obtain ⟨c0, _, _, _⟩ := hst i s hs
      have hks : ki = s.a := by omega
      rw [← hks] at c0
      have hkN : ki < N := (hBfs.node i ki wi hLi).1
      have hlc := hS.sr.ext.cell (H.out.2.1.label ki (by rw [← H.out.2.2.1]; exact hkN))
      have hlb := H.out.1.label ki (by rw [← H.out.2.2.1]; exact hkN)
      obtain ⟨x, hx⟩ : ∃ x, x = d.lb ki := ⟨_, rfl⟩
      rw [← hx] at hlc hlb
      have hlk := hS.map.look (x := x) (by omega) (by omega)
      obtain ⟨r8, hr8⟩ : ∃ r, r = (F x).getD (.slice none 0 0) := ⟨_, rfl⟩
      obtain ⟨r9, hr9⟩ : ∃ r, r = (F x).isSome := ⟨_, rfl⟩
      rw [← hr8, ← hr9] at hlk
      have HF := Lib.hid hr9
      clear hr8 hr9
      have k0 := hS.sr.ext.cell hb0
      have k1 := hS.sr.ext.cell hb1
      obtain ⟨m, hm⟩ : ∃ n, n = S.length := ⟨_, rfl⟩
      rw [← hm] at hLN hlt hS ⊢
      have hj1 : (i : Int) < m := by omega
      have hj2 : (ki : Int) < N := by omega
      have HR := Lib.hid (And.intro hS (And.intro hBfs (And.intro hm (And.intro hLi (And.intro hx hst)))))
      clear hS hBfs hm hLi hki hsb hks hs hst hx
      go_upto_if 50 with fail
      go_cut [7] (fun v7 wx => v7 = .int .i64 (ki : Int) ∧ ∃ nM' F', nM' ≤ i + 1 ∧ LbS W wx d gS gM N nM' (i + 1) (.slice (some ⟨g, 0, none⟩) m cg) S L F')
      case first =>
        have l1 := lt_of_cell hb1
        have l2 := H.out.2.1.label ki (by rw [← H.out.2.2.1]; exact hkN)
        have l2 := lt_of_cell l2
        have hgM : W.heap.size ≤ gM := by rw [HG.out.1]; exact Nat.le_refl _
        cases r9
        · have hF : F x = none := by
            have := HF.out
            cases h : F x with
            | none => rfl
            | some v => rw [h] at this; cases this
          have hwc := word_c (w := wr.drew) (NB := 1) (g := g) (n := m) (cap := cg) (i := i) (ki := ki) (S := S) (L := L) (wi := wi) HR.out.2.2.2.2.2 HR.out.1.sr.tr HR.out.2.2.1 (by omega) HR.out.2.2.2.1
          have HW := Lib.hid hwc
          have HF := Lib.hid hF
          have hgl := HR.out.1.map.lt
          clear hwc hF hlk
          go_wp2_with fail
          go_region_held3 (fun W => W.cell? ⟨bD, 1, none⟩ = some (.slice (some ⟨bl, ol, none⟩) N cl) ∧ W.cell? ⟨bl, ol + ki, none⟩ = some (.int .i64 x))
            (first | exact ⟨k1, hlc⟩ | exact ⟨j1, j2⟩ | exact ⟨m1, m2⟩)
            ((first | (go_at_call 49; refine HW.out.mono ?_; rintro e w11 ⟨v11, rfl, hown, hx11⟩; have j1 := hx11.cell (a := wr.drew) k1; have j2 := hx11.cell (a := wr.drew) hlc; have hx11' : Ext wr w11 := (Ext.drew (Ext.refl wr)).trans hx11; obtain ⟨w12, hrun, hM, ht⟩ := (HR.out.1.map.block (hx11'.block gM hgl)).store (by unfold maxLen; omega) (x := x) (by omega) (by omega) (own_slE hown); have m1 := (World.cell?_of_block (a := ⟨bD, 1, none⟩) (ht.grown.block bD (lt_of_cell j1) (by simp only [ne_eq, Option.some.injEq]; omega))).trans j1; have m2 := (World.cell?_of_block (a := ⟨bl, ol + ki, none⟩) (ht.grown.block bl (lt_of_cell j2) (by simp only [ne_eq, Option.some.injEq]; omega))).trans j2)))
          go_wp2_with fail
          go_meet
          refine ⟨rfl, nM + 1, _, by omega, HR.out.1.store HR.out.2.2.2.1 (by rw [← HR.out.2.2.2.2.1]; exact HF.out) (v := v11) hx11' hown ?_ ht⟩
          rw [← HR.out.2.2.2.2.1]; exact hM
        · obtain ⟨v, hF⟩ : ∃ v, F x = some v := by
            have := HF.out
            cases h : F x with
            | none => rw [h] at this; cases this
            | some v => exact ⟨v, rfl⟩
          have HF := Lib.hid hF
          clear hF hlk
          go_wp2_with fail
          go_meet
          exact ⟨rfl, nM, F, by omega, HR.out.1.pass HR.out.2.2.2.1 (by rw [← HR.out.2.2.2.2.1]; exact HF.out)⟩
      case rest =>
        obtain ⟨rfl, nM', F', hnM', hS1⟩ := hcut
        have HS1 := Lib.hid hS1
        clear hS1
        clear k0 k1 hlc hlk
        go_wp2_with fail
        go_loopw [4, 60] (fun lv cv wj => ∃ (c : Nat) (S' : List St) (L' : List (Nat × List Nat)), c ≤ 256 ∧ cv = .int .i64 c ∧ LbS W wj d gS gM N nM' (i + 1) lv S' L' F' ∧ WM.Bfs d.nx N 0 (fun _ => false) i c L' ∧ L'[i]? = some (ki, wi)) (fun _ cv _ => 256 - (intOf cv).toNat)
        case atStart => exact ⟨0, S, L, Nat.zero_le _, rfl, HS1.out, HR.out.2.1, HR.out.2.2.2.1⟩
        case round =>
          obtain ⟨c, S', L', hc, rfl, hS, hBfs, hLi⟩ := hrel
          have hLN : S'.length ≤ N := by rw [hS.sr.tr.len]; exact hBfs.length_le
          have hil : i < S'.length := by rw [hS.sr.tr.len]; exact WM.lt_of_get hLi
          by_cases hlc : c < 256
          · obtain ⟨g', cg', hlv, hg1', hg2'⟩ := own_slc hS.sr.row (by omega)
            subst hlv
            have k0 := hS.sr.ext.cell hb0
            obtain ⟨br, ro, cr, r0, r1⟩ := H.out.2.1.row ki (by rw [← H.out.2.2.1]; exact hkN)
            have r2 := hS.sr.ext.cell (r1 c hlc)
            have r3 := hS.sr.ext.cell r0
            have htN := H.out.1.nxt ki c (by rw [← H.out.2.2.1]; exact hkN) hlc
            obtain ⟨tq, hto⟩ : ∃ t, t = d.nx ki c := ⟨_, rfl⟩
            rw [← hto] at r2 htN
            rw [← H.out.2.2.1] at htN
            have hse := hS.sr.seen.cell htN
            have hsf := hS.sr.seen.frozen tq
            obtain ⟨z, hz⟩ : ∃ z, z = seenB L' tq := ⟨_, rfl⟩
            rw [← hz] at hse
            have hj2 : (ki : Int) < N := by omega
            have hj4 : (tq : Int) < N := by omega
            have hj5 : (c : Int) < 256 := by omega
            obtain ⟨n', hn'⟩ : ∃ n, n = S'.length := ⟨_, rfl⟩
            rw [← hn'] at hLN hil hS ⊢
            have HN' := Lib.hid hn'
            have HS := Lib.hid (And.intro hS (And.intro hBfs (And.intro hLi (And.intro hz hto))))
            clear hS hBfs hLi hz r0 r1 hto hn'
            cases z
            · go_upto_region 18 with fail
              obtain ⟨W1, hW1⟩ : ∃ W', W' = wr.setCell ⟨gS, tq, none⟩ (.bool true) := ⟨_, rfl⟩
              rw [← hW1]
              have hs1 : W1.heap.size = wr.heap.size := by rw [hW1]; simp
              obtain ⟨i0, hi0, hz0, hz1, hz2⟩ := info_parts step_info
              have hx2 : Ext (wr.setCell ⟨gS, tq, none⟩ (.bool true)) (W1.alloc (.cells #[.int .i64 (tq : Int), .int .i64 0, .int .i64 (i : Int), .int .u8 (c : Int)] 90)) := by rw [hW1]; exact Ext.box _ _
              have hown' := HS.out.1.sr.marked hx2
              rw [← HN'.out] at hown'
              have hcell : ∀ j u, [Value.int .i64 (tq : Int), .int .i64 0, .int .i64 (i : Int), .int .u8 (c : Int)][j]? = some u → (W1.alloc (.cells #[.int .i64 (tq : Int), .int .i64 0, .int .i64 (i : Int), .int .u8 (c : Int)] 90)).cell? ((⟨W1.heap.size, 0, none⟩ : Addr).add j) = some u := World.news_of_block (heap_alloc_new W1 (.cells #[.int .i64 (tq : Int), .int .i64 0, .int .i64 (i : Int), .int .u8 (c : Int)] 90))
              have h1c : ∀ u ∈ [Value.int .i64 (tq : Int), .int .i64 0, .int .i64 (i : Int), .int .u8 (c : Int)], u.oneCell' = true := by intro u hu; simp at hu; rcases hu with rfl | rfl | rfl | rfl <;> rfl
              have hbase : W.heap.size ≤ (W1.alloc (.cells #[.int .i64 (tq : Int), .int .i64 0, .int .i64 (i : Int), .int .u8 (c : Int)] 90)).heap.size := by have := HS.out.1.sr.ext.size; simp; omega
              have hmax : n' + 1 ≤ maxLen := by unfold maxLen; omega
              have hcv : IntKind.u8.wrap (c : Int) = (c : Int) := IntWalk.u8_in _ (by omega)
              have HY := Lib.hid (And.intro hx2 hs1)
              clear hx2 hW1 hs1 k0 r2 r3 hse hsf
              go_wp2_with (at_builtin; refine wpList_append_own_at _ rfl _ _ 91 rfl W.heap.size 90 i0 (.agg #[.int .i64 0, .int .i64 0, .int .i64 0, .int .u8 0]) 4 32 Tryd.underlying91 hi0 hz0 hz1 hz2 rfl (by decide) _ _ _ rfl hown' ⟨W1.heap.size, 0, none⟩ 1 1 [.int .i64 (tq : Int), .int .i64 0, .int .i64 (i : Int), .int .u8 (c : Int)] rfl rfl hcell h1c hmax (by omega) hbase ?_; intro v' W4 hown9 hg _ hat)
              go_roundw
              case rel =>
                have hBA := HS.out.2.1.add HS.out.2.2.1 hlc (by rw [← HS.out.2.2.2.2]; exact htN) (by rw [← HS.out.2.2.2.2]; exact seenB_false HS.out.2.2.2.1.symm)
                rw [← HS.out.2.2.2.2] at hBA
                refine ⟨c + 1, S' ++ [⟨tq, 0, (i : Int), c⟩], L' ++ [(tq, wi ++ [c])], by omega, by go_num, HS.out.1.add HN'.out (by rw [← HS.out.1.sr.tr.len, ← HN'.out]; omega) HS.out.2.2.1 HY.out.1 hown9 hg ?_, hBA, WM.getElem?_old HS.out.2.2.1⟩
                rcases hat with h | h
                · exact .inl h
                · right
                  intro g2 e
                  rw [h] at e
                  have h5 := HY.out.2
                  simp at e; omega
              case measure => simp [intOf]; omega
            · go_wp2_with fail
              go_roundw
              case rel =>
                obtain ⟨j, wj, hj⟩ := seenB_true HS.out.2.2.2.1.symm
                exact ⟨c + 1, S', L', by omega, by go_num, HS.out.1, HS.out.2.1.skip HS.out.2.2.1 (j := j) (w := wj) (by rw [← HS.out.2.2.2.2]; exact hj), HS.out.2.2.1⟩
              case measure => simp [intOf]; omega
          · obtain rfl : c = 256 := by omega
            have HS := Lib.hid (And.intro hS (And.intro hBfs hLi))
            obtain ⟨ag, cg, hlv⟩ := own_shp' hS.sr.row
            subst hlv
            clear hS hBfs hLi
            go_wp2_with fail
            go_roundw
            case rel => exact ⟨i + 1, nM', S', L', F', by omega, by go_num, hnM', HS.out.1, HS.out.2.1.next HS.out.2.2 rfl⟩
            case measure => simp [intOf]; omega
    · have hend : L.length ≤ i := by have := hS.sr.tr.len; omega
      obtain ⟨ag, cg, hlv⟩ := own_shp' hS.sr.row
      subst hlv
      have hlt' : ¬ (i : Int) < S.length := by omega
      have hBf : WM.Bfs d.nx d.next.length 0 (fun _ => false) i 0 L := by rw [← H.out.2.2.1]; exact hBfs
      have hall := hS.fs.all hBf hend
      have HR := Lib.hid (And.intro hS hall)
      clear hS hBfs hBf hend hall
      have hJ0 : J [] wr := H.out.2.2.2.1 [] W wr none H.out.2.2.2.2.2 (grown_of_ext HR.out.1.sr.ext) (fun r e => by cases e)
      have hmB := HR.out.1.mB
      have HJ0 := Lib.hid hJ0
      clear hJ0 hlt hi
      go_wp2_with fail
      refine (wpIn_wide (n := n)).1 ?_
      gi_loopw [89] (fun kv wr => ∃ (k : Nat) (pre : List LabX), k ≤ 200 ∧ kv = .int .i64 k ∧ pre.map (fun x : LabX => x.1.1) = presL d k ∧ J pre wr ∧ BytM wr gM nM F ∧ (full → ∀ b v, F b = some v → ∃ u, FirstW d b u ∧ wr.ownsRow W.heap.size 5 1 v u.length (bytesV u))) (fun kv _ => 200 - (intOf kv).toNat)
      case atStart => exact ⟨0, [], Nat.zero_le _, rfl, rfl, HJ0.out, HR.out.1.map, fun _ b v h => (HR.out.2 b).2 v h⟩
      case round =>
        obtain ⟨k, pre, hk, rfl, hpre, hJs, hM, hW⟩ := hrel
        by_cases hlk : k < 200
        · have hlook := hM.look (x := (k : Int)) (by omega) (by omega)
          obtain ⟨r8, hr8⟩ : ∃ r, r = (F (k : Int)).getD (.slice none 0 0) := ⟨_, rfl⟩
          obtain ⟨r9, hr9⟩ : ∃ r, r = (F (k : Int)).isSome := ⟨_, rfl⟩
          rw [← hr8, ← hr9] at hlook
          have hj1 : (k : Int) < 200 := by omega
          have hplen : pre.length < 200 := by
            have h1 := congrArg List.length hpre
            rw [List.length_map] at h1
            have := presL_len d k
            omega
          have hall := HR.out.2 (k : Int)
          cases r9
          · have hF : F (k : Int) = none := by
              cases h : F (k : Int) with
              | none => rfl
              | some v => rw [h] at hr9; cases hr9
            have HX := Lib.hid (And.intro (hall.1 hF) (And.intro hpre (And.intro hJs (And.intro hM hW))))
            clear hall hF hpre hJs hM hW hr8 hr9
            gi_wp2
            refine ⟨fun _ h => (by cases h), ?_⟩
            gi_wp2
            go_roundw
            case rel => exact ⟨k + 1, pre, by omega, by go_num, by rw [presL_no HX.out.1]; exact HX.out.2.1, HX.out.2.2.1, HX.out.2.2.2.1, HX.out.2.2.2.2⟩
            case measure => simp [intOf]; omega
          · obtain ⟨v, hF⟩ : ∃ v, F (k : Int) = some v := by
              cases h : F (k : Int) with
              | none => rw [h] at hr9; cases hr9
              | some v => exact ⟨v, rfl⟩
            have hv8 : r8 = v := by rw [hr8, hF]; rfl
            subst hv8
            obtain ⟨u0, hfw, _⟩ := hall.2 r8 hF
            obtain ⟨fn, tmps, assign, body, hy, hR⟩ := H.out.2.2.2.2.1 pre ⟨(k, r8), hlk⟩ wr hJs hplen (fun hf => ⟨hpre, hW hf _ _ hF⟩)
            have hre : Reached d (k : Int) := ⟨u0, hfw.bytes, hfw.yes⟩
            have HX := Lib.hid (And.intro hre (And.intro hpre (And.intro hM hW)))
            have HRd := Lib.hid hR
            dsimp only [labE] at hy
            clear hall hF hpre hJs hM hW hr8 hr9 hfw hre hR
            gi_wp2
            refine ⟨fun h => (by cases h), HRd.out.mono ?_⟩
            rintro e W3 (⟨rfl, hJ3, hk3⟩ | ⟨rfl, hJx3⟩)
            · have HZ := Lib.hid (And.intro hJ3 hk3)
              clear hJ3 hk3
              gi_wp2
              go_roundw
              case rel =>
                refine ⟨k + 1, pre ++ [⟨(k, r8), hlk⟩], by omega, by go_num, by rw [presL_yes HX.out.1, List.map_append, HX.out.2.1]; rfl, HZ.out.1, HX.out.2.2.1.keptMap (fun es c h => HZ.out.2.1 gM es c hmB h), fun hf b v hb => ?_⟩
                obtain ⟨u, h1, h2⟩ := HX.out.2.2.2 hf b v hb
                exact ⟨u, h1, own_block h2 fun g hg hl => HZ.out.2.2 hf g (h2.lt g hg).1 hl⟩
              case measure => simp [intOf]; omega
            · gi_wp2
              refine bodyPost_ret (results_none rfl _ _ _) rfl ?_
              exact ⟨⟨_, rfl⟩, .inr ⟨_, hJx3⟩⟩
        · obtain rfl : k = 200 := by omega
          clear hM hW
          gi_wp2
          go_end0
          exact ⟨⟨_, rfl⟩, .inl ⟨pre, hpre, hJs⟩⟩
end Go.Proofs.YtihginaanlcilaaDoor
