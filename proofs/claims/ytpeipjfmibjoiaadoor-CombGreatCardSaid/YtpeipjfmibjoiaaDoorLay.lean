/- comb.lay: a row is laid where it fits first. -/
import Derived.Test.YtpeipjfmibjoiaaDoorLayS
import Derived.Deep.CutBlock
import Derived.BigRegion
import Derived.WalkMore
import Derived.Deep.LoopGhost
namespace Go.Proofs.YtpeipjfmibjoiaaDoor
open Go.RowKit

def LaidR (T : Tbl) (W0 : World) (cb gb gd n : Nat) (C : Cmb) (s : Nat) (d : Int) (L : List Nat) (e : Ending) (w' : World) : Prop :=
  ∃ (own' : Nat → Nat) (nv' cv' : Value) (C' : Cmb) (b : Nat), e = .returned (.tuple #[]) ∧ CombS W0 w' own' cb gb gd n nv' cv' C' ∧ CB.Fit C.check L b ∧ C'.base = C.base.set s (b : Int) ∧ C'.dflt = C.dflt.set s d ∧
    CB.Put C.next C'.next L b (CB.nx T s) ∧ CB.Put C.check C'.check L b (fun _ => (s : Int))

set_option maxRecDepth 100000 in
set_option maxHeartbeats 8000000 in
theorem lay_c {W0 w : World} {own : Nat → Nat} {cb gb gd n : Nat} {nv cv : Value} {C : Cmb} {tcv tsv tlv : Value} {bn on nc K : Nat} {T : Tbl} {s : Nat} {d : Int} {L : List Nat} {a : Option Addr} {c : Nat}
    (hC : CombS W0 w own cb gb gd n nv cv C) (hT : TRows W0 bn on n K T) (hs : s < n) (hL : Ints W0 (.slice a L.length c) (nI L)) (hlen : L.length ≤ 256) (hLK : ∀ k ∈ L, k < K) (hm : C.next.length ≤ 153344) (hcl : C.check.length = C.next.length) :
    Calls Tryd.prog 76 #[.pointer (some ⟨cb, 0, none⟩), .agg #[tcv, .int .i64 (K : Int), tsv, .slice (some ⟨bn, on, none⟩) n nc, tlv], .agg #[.int .i64 (s : Int), .int .i64 d, .slice a L.length c]] w (LaidR T W0 cb gb gd n C s d L) := by
  obtain ⟨W, hW⟩ : ∃ W, W = (w.alloc (.cells #[tcv, .int .i64 (K : Int), tsv, .slice (some ⟨bn, on, none⟩) n nc, tlv] 37)).alloc (.cells #[.int .i64 (s : Int), .int .i64 d, .slice a L.length c] 125) := ⟨_, rfl⟩
  have hxW : Ext w W := by rw [hW]; exact (Ext.box _ _).alloc _
  have t3 : W.cell? ⟨w.heap.size, 3, none⟩ = some (.slice (some ⟨bn, on, none⟩) n nc) := by rw [hW]; simp
  have x0 : W.cell? ⟨w.heap.size + 1, 0, none⟩ = some (.int .i64 (s : Int)) := by rw [hW]; simp
  have x1 : W.cell? ⟨w.heap.size + 1, 1, none⟩ = some (.int .i64 d) := by rw [hW]; simp
  have x2 : W.cell? ⟨w.heap.size + 1, 2, none⟩ = some (.slice a L.length c) := by rw [hW]; simp
  obtain ⟨tb, htb⟩ : ∃ b, b = w.heap.size := ⟨_, rfl⟩
  obtain ⟨own1, hCW⟩ := LayW.begin hC (tc := #[tcv, .int .i64 (K : Int), tsv, .slice (some ⟨bn, on, none⟩) n nc, tlv]) (xc := #[.int .i64 (s : Int), .int .i64 d, .slice a L.length c]) (ft := rF tcv (.int .i64 (K : Int)) tsv (.slice (some ⟨bn, on, none⟩) n nc) tlv) (fx := rowC (s : Int) d (.slice a L.length c)) rfl (fun i hi => by rcases rF_at hi with rfl | rfl | rfl | rfl | rfl <;> rfl) rfl rowC_lt
  rw [← hW] at hCW
  have hTW := hT.ext hCW.comb.ext
  have hn6 := hT.n6
  have hk2 := hT.k2
  obtain ⟨m, hmm⟩ : ∃ m, m = C.check.length := ⟨_, rfl⟩
  have hm1 : m ≤ 153344 := by omega
  have hLT := And.intro hT hL
  obtain ⟨M, hM⟩ : ∃ M, M = L.length := ⟨_, rfl⟩
  have hel : ∀ (i k : Nat), L[i]? = some k → ∃ bl ol, a = some ⟨bl, ol, none⟩ ∧ W0.cell? ⟨bl, ol + i, none⟩ = some (.int .i64 (k : Int)) := fun i k hi => by
    obtain ⟨_, al, cl, hv, _, ho⟩ := IntsK.open hL
    have hlt := (List.getElem?_eq_some_iff.1 hi).1
    simp only [Value.slice.injEq] at hv
    obtain ⟨bl, ol, e, hc⟩ := ho (by rw [nI_len]; omega)
    refine ⟨bl, ol, by rw [hv.1, e], ?_⟩
    have := hc i (by rw [nI_len]; exact hlt)
    rw [this]
    unfold nI
    rw [List.getD_eq_getElem?_getD, List.getElem?_map, hi]; rfl
  obtain ⟨ac, cc, hcv, -⟩ := own_read hCW.comb.check.row
  subst hcv
  rw [intsV_len, ← hmm] at hCW hC
  rw [← hM] at hlen x2 hW hCW ⊢
  have ck3 : W.cell? ⟨cb, 3, none⟩ = some (.slice ac m cc) := hCW.comb.box.row.cell (i := 3) (by omega)
  have H := Lib.hid (And.intro hxW (And.intro hCW (And.intro hTW (And.intro hel (And.intro hmm (And.intro hM (And.intro hlen (And.intro htb (And.intro hLK (And.intro hcl (And.intro hLT hW)))))))))))
  have HX := Lib.hid (And.intro t3 (And.intro x0 (And.intro x1 x2)))
  clear hxW hLT hCW hTW hel hmm hM hW hC hT hL hLK hcl hm t3 x0 x1 x2  htb
  go_enter Tryd.func76, Tryd.ntmps76
  go_wp2_with fail
  rw [← H.out.2.2.2.2.2.2.2.2.2.2.2]
  go_step3
  go_wp2_with fail
  go_step3
  have hte := H.out.2.2.2.2.2.2.2.1
  rw [← hte]
  rw [← hte] at HX
  clear hte
  have x2 := HX.out.2.2.2
  go_upto_block 0 with fail
  go_cut [6] (fun v6 wx => wx = W ∧ ∃ b : Nat, v6 = .int .i64 b ∧ CB.Fit C.check L b)
  case first =>
    go_wp2_with fail
    go_loop [6] (fun bv => ∃ b : Nat, b ≤ m ∧ bv = .int .i64 b ∧ ∀ q, q < b → ∃ k ∈ L, q + k < m ∧ 0 ≤ C.check.getD (q + k) 0) (fun bv => m - (intOf bv).toNat)
    case atStart => exact ⟨0, Nat.zero_le _, rfl, fun q hq => absurd hq (Nat.not_lt_zero _)⟩
    case round =>
      obtain ⟨b, hbm, rfl, hlow⟩ := hrel
      have HB := Lib.hid hlow
      clear hlow
      by_cases hM0 : 0 < M
      · have hM0' : (0 : Int) < M := by omega
        go_wp2_with fail
        go_loop [21] (fun jv => ∃ j : Nat, j ≤ M ∧ jv = .int .i64 j ∧ ∀ i k, i < j → L[i]? = some k → b + k < m → C.check.getD (b + k) 0 < 0) (fun jv => M - (intOf jv).toNat)
        case atStart => exact ⟨0, Nat.zero_le _, rfl, fun i k hi => absurd hi (Nat.not_lt_zero _)⟩
        case round =>
          obtain ⟨j, hjM, rfl, hfit⟩ := hrel
          by_cases hlt : j < M
          · have hj1 : (j : Int) < M := by omega
            obtain ⟨k, hk⟩ : ∃ k, L[j]? = some k := ⟨_, List.getElem?_eq_getElem (by have := H.out.2.2.2.2.2.1; omega)⟩
            obtain ⟨bl, ol, rfl, hcl⟩ := H.out.2.2.2.1 j k hk
            have hcl := H.out.2.1.comb.ext.cell hcl
            have hkK := H.out.2.2.2.2.2.2.2.2.1 k (List.mem_of_getElem? hk)
            obtain ⟨t, ht⟩ : ∃ t, t = b + k := ⟨_, rfl⟩
            have hw : (b : Int) + (k : Int) = (t : Int) := by omega
            have HF := Lib.hid (And.intro hfit (And.intro hk ht))
            clear hfit hk ht
            by_cases htm : t < m
            · have htm' : (t : Int) < m := by omega
              obtain ⟨gc, cc', hcv, _, _⟩ := H.out.2.1.comb.check.slc (by rw [intsV_len, ← H.out.2.2.2.2.1]; omega)
              simp only [Value.slice.injEq] at hcv
              obtain ⟨rfl, -, rfl⟩ := hcv
              have c1 := H.out.2.1.comb.check.cell (intsV_get (by rw [← H.out.2.2.2.2.1]; exact htm))
              obtain ⟨y, hy⟩ : ∃ y, y = C.check.getD t 0 := ⟨_, rfl⟩
              rw [← hy] at c1
              have HY := Lib.hid hy
              clear hy
              by_cases hy0 : 0 ≤ y
              · go_wp2
                go_round
                case rel => exact ⟨b + 1, by omega, by go_num, fun q hq => by
                  by_cases e : q = b
                  · subst e; exact ⟨k, List.mem_of_getElem? HF.out.2.1, by rw [← HF.out.2.2]; exact htm, by rw [← HF.out.2.2, ← HY.out]; exact hy0⟩
                  · exact HB.out q (by omega)⟩
                case measure => have := HF.out.2.2; simp [intOf]; omega
              · go_wp2
                go_round
                case rel => exact ⟨j + 1, by omega, by go_num, fun i k' hi hk' hl' => by
                  by_cases e : i = j
                  · subst e
                    obtain rfl : k = k' := Option.some.inj (HF.out.2.1.symm.trans hk')
                    rw [← HF.out.2.2, ← HY.out]; omega
                  · exact HF.out.1 i k' (by omega) hk' hl'⟩
                case measure => simp [intOf]; omega
            · have htm' : ¬ (t : Int) < m := by omega
              go_wp2
              go_round
              case rel => exact ⟨j + 1, by omega, by go_num, fun i k' hi hk' hl' => by
                by_cases e : i = j
                · subst e
                  obtain rfl : k = k' := Option.some.inj (HF.out.2.1.symm.trans hk')
                  exact absurd hl' (by rw [← HF.out.2.2]; exact htm)
                · exact HF.out.1 i k' (by omega) hk' hl'⟩
              case measure => simp [intOf]; omega
          · obtain rfl : M = j := by omega
            have HF := Lib.hid hfit
            clear hfit hlt hjM
            go_wp2_with fail
            go_meet
            exact ⟨rfl, b, rfl, ⟨fun k hk hl => by
              obtain ⟨i, hi⟩ := List.getElem?_of_mem hk
              have h1 := (List.getElem?_eq_some_iff.1 hi).1
              have h2 := H.out.2.2.2.2.2.1
              exact HF.out i k (by omega) hi (by rw [H.out.2.2.2.2.1]; exact hl), fun q hq => by rw [← H.out.2.2.2.2.1]; exact HB.out q hq⟩⟩
      · have hM0' : ¬ (0 : Int) < M := by omega
        go_wp2_with fail
        go_meet
        exact ⟨rfl, b, rfl, ⟨fun k hk hl => by
          obtain ⟨i, hi⟩ := List.getElem?_of_mem hk
          have h1 := (List.getElem?_eq_some_iff.1 hi).1
          have h2 := H.out.2.2.2.2.2.1
          omega, fun q hq => by rw [← H.out.2.2.2.2.1]; exact HB.out q hq⟩⟩
  case rest =>
    obtain ⟨rfl, b, rfl, hfit⟩ := hcut
    have hb153 := hfit.le
    rw [← H.out.2.2.2.2.1] at hb153
    have HFit := Lib.hid hfit
    clear hfit
    go_wp2_with fail
    have hte := H.out.2.2.2.2.2.2.2.1
    have hL0 := H.out.2.1
    rw [← hte] at hL0
    have HL0 := Lib.hid hL0
    clear x2 ck3 hte hL0 HX
    go_loopw [49] (fun jv wr => ∃ (j : Nat) (own' : Nat → Nat) (nv' cv' : Value) (C1 : Cmb), j ≤ M ∧ jv = .int .i64 j ∧ LayW W0 wr own' cb gb gd n nv' cv' C1 tb (rF tcv (.int .i64 (K : Int)) tsv (.slice (some ⟨bn, on, none⟩) n nc) tlv) (tb + 1) (rowC (s : Int) d (.slice a M c)) ∧
      C1.base = C.base ∧ C1.dflt = C.dflt ∧ C1.check.length = C1.next.length ∧ CB.Put C.next C1.next (L.take j) b (CB.nx T s) ∧ CB.Put C.check C1.check (L.take j) b (fun _ => (s : Int))) (fun jv _ => M - (intOf jv).toNat)
    case atStart => exact ⟨0, own1, _, _, C, Nat.zero_le _, rfl, HL0.out, rfl, rfl, H.out.2.2.2.2.2.2.2.2.2.1, CB.Put.none _ _ _, CB.Put.none _ _ _⟩
    case round =>
      clear HL0
      obtain ⟨j, own2, nv2, cv2, C1, hjM, rfl, hLW, hB, hD, hcl, hPn, hPc⟩ := hrel
      by_cases hlt : j < M
      · have hj1 : (j : Int) < M := by omega
        obtain ⟨k, hk⟩ : ∃ k, L[j]? = some k := ⟨_, List.getElem?_eq_getElem (by have := H.out.2.2.2.2.2.1; omega)⟩
        obtain ⟨bl, ol, e, hcell⟩ := H.out.2.2.2.1 j k hk
        have hkK := H.out.2.2.2.2.2.2.2.2.1 k (List.mem_of_getElem? hk)
        have hL1 := hLW.comb.ext.cell hcell
        subst e
        obtain ⟨t, ht⟩ : ∃ t, t = b + k := ⟨_, rfl⟩
        have hw : (b : Int) + (k : Int) = (t : Int) := by omega
        have HK := Lib.hid (And.intro hk (And.intro ht (And.intro hB (And.intro hD (And.intro hcl (And.intro hPn hPc))))))
        have HLW := Lib.hid hLW
        obtain ⟨m1, hm1'⟩ : ∃ m1, m1 = C1.check.length := ⟨_, rfl⟩
        have HM1 := Lib.hid hm1'
        clear hk ht hB hD hPn hPc hLW hcell hcl hm1'
        go_wp2_with fail
        clear hL1
        go_loopg [57] (t + 1 - m1) (fun gh _ wi => ∃ (own' : Nat → Nat) (nv' cv' : Value) (q : Nat), LayW W0 wi own' cb gb gd n nv' cv' { C1 with next := C1.next ++ List.replicate q (-1), check := C1.check ++ List.replicate q (-1) } tb (rF tcv (.int .i64 (K : Int)) tsv (.slice (some ⟨bn, on, none⟩) n nc) tlv) (tb + 1) (rowC (s : Int) d (.slice (some ⟨bl, ol, none⟩) M c)) ∧ gh = t + 1 - (m1 + q) ∧ (q = 0 ∨ m1 + q ≤ t + 1))
        case atStart => exact ⟨own2, nv2, cv2, 0, by simpa using HLW.out, by simp, .inl rfl⟩
        case round =>
          clear HLW
          rename World => wi
          obtain ⟨own3, nv3, cv3, q, hLW, hgh, hq⟩ := hrel
          obtain ⟨m2, hm2⟩ : ∃ m2, m2 = m1 + q := ⟨_, rfl⟩
          have hlc : (intsV (C1.check ++ List.replicate q (-1))).length = m2 := by rw [intsV_len, List.length_append, List.length_replicate, ← HM1.out, hm2]
          have hln : (intsV (C1.next ++ List.replicate q (-1))).length = m2 := by rw [intsV_len, List.length_append, List.length_replicate, ← HK.out.2.2.2.2.1, ← HM1.out, hm2]
          obtain ⟨a3, c3, hv3, -⟩ := own_read hLW.comb.check.row
          obtain ⟨a4, c4, hv4, -⟩ := own_read hLW.comb.next.row
          rw [hlc] at hv3
          rw [hln] at hv4
          subst hv3; subst hv4
          have k3 : wi.cell? ⟨cb, 3, none⟩ = some (.slice a3 m2 c3) := hLW.comb.box.row.cell (i := 3) (by omega)
          have k2 : wi.cell? ⟨cb, 2, none⟩ = some (.slice a4 m2 c4) := hLW.comb.box.row.cell (i := 2) (by omega)
          rw [← hm2] at hgh hq
          have HQ := Lib.hid (And.intro hlc (And.intro hln (And.intro hgh hm2)))
          have ht154 : t ≤ 153600 := by have := HK.out.2.1; omega
          by_cases htm : m2 ≤ t
          · have htm' : (m2 : Int) ≤ t := by omega
            obtain ⟨i0, hi0, hz0, hz1, hz2⟩ := info_parts int_info
            have hown := (hLW.comb.check.ext (Ext.box wi (.cells #[.int .i64 (-1)] 3))).row
            rw [hlc] at hown
            have hcell := cell_one_new wi (.int .i64 (-1)) 3
            have h1c : ∀ u ∈ [Value.int .i64 (-1)], u.oneCell' = true := by intro u hu; simp at hu; subst hu; rfl
            have hbase : W0.heap.size ≤ (wi.alloc (.cells #[.int .i64 (-1)] 3)).heap.size := by have := hLW.comb.ext.size; simp; omega
            have hmax : m2 + 1 ≤ maxLen := by unfold maxLen; omega
            have hcb := hLW.comb.box.row.lt
            have hnr : (Value.slice a3 m2 c3).ownBlock ≠ some cb := fun e => by
              have h1 := hLW.comb.check.tag cb e
              rw [hLW.comb.box.tag] at h1; cases h1
            have f3 := hLW.comb.box.row.frozen 3
            have HLW := Lib.hid hLW
            clear hLW hgh hlc hln hm2
            go_upto_region 15 with (at_builtin; refine wpList_append_own_at _ rfl _ _ 23 rfl W0.heap.size 3 i0 (.int .i64 0) 1 8 Tryd.underlying23 hi0 hz0 hz1 hz2 rfl (by decide) _ _ _ rfl hown ⟨wi.heap.size, 0, none⟩ 1 1 [.int .i64 (-1)] rfl rfl hcell h1c hmax (by omega) hbase ?_; intro v' W4 hown' hg _ hat; obtain ⟨gg, cap', hv', -, -⟩ := own_slc hown' (by omega); subst hv'; have hk4 := hg.block cb (by simp; omega) (Ne.symm hnr); have c44 : W4.cell? ⟨cb, 3, none⟩ = some (.slice a3 m2 c3) := (World.cell?_of_block (a := ⟨cb, 3, none⟩) hk4).trans ((Ext.box wi (.cells #[.int .i64 (-1)] 3)).cell k3); have f44 : W4.frozen? ⟨cb, 3, none⟩ = false := (World.frozen?_of_block (a := ⟨cb, 3, none⟩) hk4).trans ((Below.frozen (Ext.box wi (.cells #[.int .i64 (-1)] 3)) (p := ⟨cb, 3, none⟩) hcb).trans f3))
            obtain ⟨own4, hP4⟩ := HLW.out.comb.pushC (Ext.box _ (.cells #[.int .i64 (-1)] 3)) (x := -1) (by rw [← intsV_len, HQ.out.1]; exact hown') hg hat
            have hL4 := HLW.out.of hP4
            clear hP4 hk4 c44 f44 hown' hg hat hown hcell hbase k3 k2 f3 hnr HLW
            generalize World.setCell W4 _ _ = WA at hL4 ⊢
            have k2 : WA.cell? ⟨cb, 2, none⟩ = some (.slice a4 m2 c4) := hL4.comb.box.row.cell (i := 2) (by omega)
            have f2 := hL4.comb.box.row.frozen 2
            have hown := (hL4.comb.next.ext (Ext.box WA (.cells #[.int .i64 (-1)] 3))).row
            rw [show (intsV ({ C1 with next := C1.next ++ List.replicate q (-1), check := C1.check ++ List.replicate q (-1) ++ [-1] } : Cmb).next).length = m2 from HQ.out.2.1] at hown
            have hcell := cell_one_new WA (.int .i64 (-1)) 3
            have hbase : W0.heap.size ≤ (WA.alloc (.cells #[.int .i64 (-1)] 3)).heap.size := by have := hL4.comb.ext.size; simp; omega
            have hcb2 := hL4.comb.box.row.lt
            have hnr : (Value.slice a4 m2 c4).ownBlock ≠ some cb := fun e => by
              have h1 := hL4.comb.next.tag cb e
              rw [hL4.comb.box.tag] at h1; cases h1
            have HLW := Lib.hid hL4
            clear hL4 hcb
            go_wp2_with (at_builtin; refine wpList_append_own_at _ rfl _ _ 23 rfl W0.heap.size 3 i0 (.int .i64 0) 1 8 Tryd.underlying23 hi0 hz0 hz1 hz2 rfl (by decide) _ _ _ rfl hown ⟨WA.heap.size, 0, none⟩ 1 1 [.int .i64 (-1)] rfl rfl hcell h1c hmax (by omega) hbase ?_; intro v'2 W5 hown' hg _ hat; obtain ⟨gg2, cap2, hv', -, -⟩ := own_slc hown' (by omega); subst hv'; have hk4 := hg.block cb (by simp; omega) (Ne.symm hnr); have c44 : W5.cell? ⟨cb, 2, none⟩ = some (.slice a4 m2 c4) := (World.cell?_of_block (a := ⟨cb, 2, none⟩) hk4).trans ((Ext.box WA (.cells #[.int .i64 (-1)] 3)).cell k2); have f44 : W5.frozen? ⟨cb, 2, none⟩ = false := (World.frozen?_of_block (a := ⟨cb, 2, none⟩) hk4).trans ((Below.frozen (Ext.box WA (.cells #[.int .i64 (-1)] 3)) (p := ⟨cb, 2, none⟩) hcb2).trans f2))
            obtain ⟨own5, hP5⟩ := HLW.out.comb.pushN (Ext.box _ (.cells #[.int .i64 (-1)] 3)) (x := -1) (by rw [← intsV_len]; rw [show (intsV ({ C1 with next := C1.next ++ List.replicate q (-1), check := C1.check ++ List.replicate q (-1) ++ [-1] } : Cmb).next).length = m2 from HQ.out.2.1]; exact hown') hg hat
            have hL5 := HLW.out.of hP5
            have e1 : C1.next ++ List.replicate q (-1) ++ [-1] = C1.next ++ List.replicate (q + 1) (-1) := by rw [List.append_assoc, List.replicate_succ']
            have e2 : C1.check ++ List.replicate q (-1) ++ [-1] = C1.check ++ List.replicate (q + 1) (-1) := by rw [List.append_assoc, List.replicate_succ']
            simp only [e1, e2] at hL5
            have HL5 := Lib.hid hL5
            clear hP5 hk4 c44 f44 hown' hg hat hown hcell hbase k2 f2 hnr HLW hL5 e1 e2
            go_roundg (t + 1 - (m1 + (q + 1)))
            case measure => have := HQ.out.2.2.1; have := HQ.out.2.2.2; omega
            case rel => exact ⟨own5, _, _, q + 1, HL5.out, rfl, .inr (by have := HQ.out.2.2.2; omega)⟩
          · have htm' : ¬ (m2 : Int) ≤ t := by omega
            have htm2 : (t : Int) < m2 := by omega
            obtain ⟨gC, cC, e3, -, -, gt3⟩ := hLW.comb.check.slc (by rw [hlc]; omega)
            obtain ⟨gN, cN, e4, -, -, gt4⟩ := hLW.comb.next.slc (by rw [hln]; omega)
            simp only [Value.slice.injEq] at e3 e4
            obtain ⟨rfl, -, rfl⟩ := e3
            obtain ⟨rfl, -, rfl⟩ := e4
            have hne : gN ≠ gC := fun e => by rw [e, gt3] at gt4; cases gt4
            obtain ⟨b2, o2, c2, hrow0, hel0⟩ := H.out.2.2.2.2.2.2.2.2.2.2.1.1.row s hs
            have hel0 := hel0 k hkK
            have hrow := hLW.comb.ext.cell hrow0
            have hel := hLW.comb.ext.cell hel0
            obtain ⟨x, hx⟩ : ∃ x, x = CB.nx T s k := ⟨_, rfl⟩
            rw [← hx] at hel
            have x0 : wi.cell? ⟨tb + 1, 0, none⟩ = some (.int .i64 (s : Int)) := hLW.xbox.row.cell (i := 0) (by omega)
            have t3 : wi.cell? ⟨tb, 3, none⟩ = some (.slice (some ⟨bn, on, none⟩) n nc) := hLW.tbox.row.cell (i := 3) (by omega)
            have c1 := hLW.comb.check.cell (intsV_get (by rw [← intsV_len, hlc]; exact (by omega : t < m2)))
            have n1 := hLW.comb.next.cell (intsV_get (by rw [← intsV_len, hln]; exact (by omega : t < m2)))
            obtain ⟨y1, hy1⟩ : ∃ y, y = (C1.check ++ List.replicate q (-1)).getD t 0 := ⟨_, rfl⟩
            obtain ⟨y2, hy2⟩ : ∃ y, y = (C1.next ++ List.replicate q (-1)).getD t 0 := ⟨_, rfl⟩
            rw [← hy1] at c1
            rw [← hy2] at n1
            have fc : wi.frozen? ⟨gC, t, none⟩ = false := by have h := hLW.comb.check.row; rw [hlc] at h; exact h.frozenAt t
            have fn : wi.frozen? ⟨gN, t, none⟩ = false := by have h := hLW.comb.next.row; rw [hln] at h; exact h.frozenAt t
            have z1 : (wi.setCell ⟨gC, t, none⟩ (.int .i64 (s : Int))).cell? ⟨gN, t, none⟩ = some (.int .i64 y2) := by
              rw [World.cell?_setCell_other _ _ _ _ (by rw [ne_eq, Addr.mk.injEq]; exact fun e => hne e.1.symm)]; exact n1
            have hs' : (s : Int) < n := by omega
            have hk' : (k : Int) < K := by omega
            have hLset := hLW.of (hLW.comb.setC t (s : Int))
            have hLset2 := hLset.of (hLset.comb.setN t x)
            have sx0 : (wi.setCell ⟨gC, t, none⟩ (.int .i64 (s : Int))).cell? ⟨tb + 1, 0, none⟩ = some (.int .i64 (s : Int)) := hLset.xbox.row.cell (i := 0) (by omega)
            have st3 : (wi.setCell ⟨gC, t, none⟩ (.int .i64 (s : Int))).cell? ⟨tb, 3, none⟩ = some (.slice (some ⟨bn, on, none⟩) n nc) := hLset.tbox.row.cell (i := 3) (by omega)
            have sk2 : (wi.setCell ⟨gC, t, none⟩ (.int .i64 (s : Int))).cell? ⟨cb, 2, none⟩ = some (.slice (some ⟨gN, 0, none⟩) m2 c4) := hLset.comb.box.row.cell (i := 2) (by omega)
            have srow := hLset.comb.ext.cell hrow0
            have sel := hLset.comb.ext.cell hel0
            rw [← hx] at sel
            have HS := Lib.hid (And.intro (hLset2.more (Ext.drew (Ext.refl _))) hx)
            have hw' : IntKind.i64.wrap ((b : Int) + (k : Int)) = (t : Int) := (IntWalk.i64_in _ (by omega)).trans hw
            clear hrow0 hel0 hLW hLset hLset2 hx hy1 hy2 hgh hlc hln hm2 gt3 gt4 hw
            go_wp2_with fail
            go_region
            go_wp2
            go_roundw
            case rel =>
              have ht := HK.out.2.1
              have hp : (q = 0 ∧ b + k < m1) ∨ m1 + q = b + k + 1 := by
                have h1 := HQ.out.2.2.2
                rcases hq with e | e
                · subst e; exact .inl ⟨rfl, by omega⟩
                · exact .inr (by omega)
              have htk : L.take (j + 1) = L.take j ++ [k] := take_snoc' HK.out.1
              refine ⟨j + 1, own3, _, _, _, by omega, by go_num, HS.out.1, HK.out.2.2.1, HK.out.2.2.2.1, ?_, ?_, ?_⟩
              · simp [HK.out.2.2.2.2.1]
              · rw [htk]; exact HK.out.2.2.2.2.2.1.step (by rw [← HK.out.2.2.2.2.1, ← HM1.out]; exact hp) (by rw [← ht, HS.out.2])
              · rw [htk]; exact HK.out.2.2.2.2.2.2.step (by rw [← HM1.out]; exact hp) (by rw [← ht])
            case measure => simp [intOf]; omega
      · have hj1 : ¬ (j : Int) < M := by omega
        obtain rfl : M = j := by omega
        have x0 : wr.cell? ⟨tb + 1, 0, none⟩ = some (.int .i64 (s : Int)) := hLW.xbox.row.cell (i := 0) (by omega)
        have x1 : wr.cell? ⟨tb + 1, 1, none⟩ = some (.int .i64 d) := hLW.xbox.row.cell (i := 1) (by omega)
        have k0 : wr.cell? ⟨cb, 0, none⟩ = some (.slice (some ⟨gb, 0, none⟩) n n) := hLW.comb.box.row.cell (i := 0) (by omega)
        have k1 : wr.cell? ⟨cb, 1, none⟩ = some (.slice (some ⟨gd, 0, none⟩) n n) := hLW.comb.box.row.cell (i := 1) (by omega)
        have b1 := hLW.comb.base.row.cell hs
        have d1 := hLW.comb.dflt.row.cell hs
        obtain ⟨y1, hy1⟩ : ∃ y, y = C1.base.getD s 0 := ⟨_, rfl⟩
        obtain ⟨y2, hy2⟩ : ∃ y, y = C1.dflt.getD s 0 := ⟨_, rfl⟩
        rw [← hy1] at b1
        rw [← hy2] at d1
        have fb := hLW.comb.base.row.frozen s
        have fd := hLW.comb.dflt.row.frozen s
        have hne : gd ≠ gb := fun e => by
          have h1 := hLW.comb.dflt.tag
          rw [e, hLW.comb.base.tag] at h1; cases h1
        have z1 : (wr.setCell ⟨gb, s, none⟩ (.int .i64 (b : Int))).cell? ⟨gd, s, none⟩ = some (.int .i64 y2) := by
          rw [World.cell?_setCell_other _ _ _ _ (by rw [ne_eq, Addr.mk.injEq]; exact fun e => hne e.1.symm)]; exact d1
        have hs' : (s : Int) < n := by omega
        have hLset := hLW.comb.setB hs (b : Int)
        have hbx : ∀ i v, wr.cell? ⟨tb + 1, i, none⟩ = some v → (wr.setCell ⟨gb, s, none⟩ (.int .i64 (b : Int))).cell? ⟨tb + 1, i, none⟩ = some v := fun i v hv => by
          rw [World.cell?_setCell_other]
          · exact hv
          · intro e
            have e1 := congrArg Addr.block e
            simp only at e1
            have h1 := hLW.xbox.tag
            have h2 := hLW.comb.base.tag
            first | rw [e1] at h2 | rw [← e1] at h2
            omega
        have sx0 := hbx 0 _ x0
        have sx1 := hbx 1 _ x1
        have sk1 : (wr.setCell ⟨gb, s, none⟩ (.int .i64 (b : Int))).cell? ⟨cb, 1, none⟩ = some (.slice (some ⟨gd, 0, none⟩) n n) := hLset.box.row.cell (i := 1) (by omega)
        clear hbx hLset
        have HS := Lib.hid (And.intro (((hLW.comb.setB hs (b : Int)).setD hs d).more (Ext.drew (Ext.refl _))) (And.intro hB (And.intro hD (And.intro hPn hPc))))
        have htake : L.take M = L := by rw [H.out.2.2.2.2.2.1]; exact List.take_length
        have HT := Lib.hid htake
        clear hLW hy1 hy2 hB hD hPn hPc hcl htake
        go_wp2_with fail
        go_region
        change bodyPost _ _ _ Exit.normal _ _
        refine bodyPost_end (results_none rfl _ _ _) rfl ?_
        rw [HT.out] at HS
        exact ⟨own2, _, _, _, b, rfl, HS.out.1, HFit.out, by show C1.base.set s (b : Int) = _; rw [HS.out.2.1], by show C1.dflt.set s d = _; rw [HS.out.2.2.1], HS.out.2.2.2.1, HS.out.2.2.2.2⟩
end Go.Proofs.YtpeipjfmibjoiaaDoor
