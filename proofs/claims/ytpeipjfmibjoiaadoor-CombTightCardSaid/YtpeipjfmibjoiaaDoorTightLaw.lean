/- bolterlaw16.stays, bolterlaw16.CombTight. -/
import Derived.Test.YtpeipjfmibjoiaaDoorEntriesLaw
namespace Go.Proofs.YtpeipjfmibjoiaaDoor
open Go.RowKit

set_option maxRecDepth 100000 in
set_option maxHeartbeats 4000000 in
theorem stays_c {w : World} {bb ob bd od n m cb cd cn cc : Nat} {an ac : Option Addr} {C : Cmb} {T : Tbl} {s : Nat} {d : Int} {a : Option Addr} {c : Nat} {L : List Nat} (h : CIn w bb ob bd od an ac n m C) (hF : CB.Full T C) (hs : s < n)
    (hd : C.dflt.getD s 0 = d) (hL : Ints w (.slice a L.length c) (nI L)) (hLL : L = CB.liveL T s d) (hlen : L.length ≤ 256) (hLk : ∀ k ∈ L, k < 256) :
    Calls Tryd.prog 26 #[.agg #[.slice (some ⟨bb, ob, none⟩) n cb, .slice (some ⟨bd, od, none⟩) n cd, .slice an m cn, .slice ac m cc], .int .i64 (s : Int), .slice a L.length c] w fun e w' => e = .returned (.bool true) ∧ Ext w w' := by
  obtain ⟨W, hW⟩ : ∃ W, W = w.alloc (.cells #[.slice (some ⟨bb, ob, none⟩) n cb, .slice (some ⟨bd, od, none⟩) n cd, .slice an m cn, .slice ac m cc] 40) := ⟨_, rfl⟩
  have hx : Ext w W := by rw [hW]; exact Ext.box _ _
  have q0 : W.cell? ⟨w.heap.size, 0, none⟩ = some (.slice (some ⟨bb, ob, none⟩) n cb) := by rw [hW]; simp
  have q3 : W.cell? ⟨w.heap.size, 3, none⟩ = some (.slice ac m cc) := by rw [hW]; simp
  have hm18 := h.m18
  obtain ⟨c9, hmay⟩ := h.may
  have hb := hmay.base s (by rw [h.nlen]; exact hs)
  obtain ⟨z, hz⟩ : ∃ z : Nat, C.base.getD s 0 = z := ⟨(C.base.getD s 0).toNat, by omega⟩
  have hz1 : (z : Int) ≤ 262144 := by rw [← hz]; exact hb.2.1
  have b1 := hx.cell (h.base s hs)
  rw [hz] at b1
  have htight := hF.tight s (by rw [← hF.blen, h.nlen]; exact hs)
  rw [hd, ← hLL, h.mlen, hz] at htight
  have hel : ∀ (i k : Nat), L[i]? = some k → ∃ bl ol, a = some ⟨bl, ol, none⟩ ∧ W.cell? ⟨bl, ol + i, none⟩ = some (.int .i64 (k : Int)) := fun i k hi => by
    obtain ⟨_, al, cl, hv, _, ho⟩ := IntsK.open (IntsK.ext hx hL)
    have hlt := (List.getElem?_eq_some_iff.1 hi).1
    simp only [Value.slice.injEq] at hv
    obtain ⟨bl, ol, e, hc⟩ := ho (by rw [nI_len]; omega)
    refine ⟨bl, ol, by rw [hv.1, e], ?_⟩
    have := hc i (by rw [nI_len]; exact hlt)
    rw [this]
    unfold nI
    rw [List.getD_eq_getElem?_getD, List.getElem?_map, hi]; rfl
  obtain ⟨M, hM⟩ : ∃ M, M = L.length := ⟨_, rfl⟩
  rw [← hM] at hlen ⊢
  have hsn : (s : Int) < n := by omega
  have H := Lib.hid (And.intro hx (And.intro (h.ext hx) (And.intro htight (And.intro hel (And.intro hM (And.intro hLk hW))))))
  clear hx h hF hd hL hLL htight hel hM hW hmay hb hz hLk
  go_enter Tryd.func26, Tryd.ntmps26
  go_wp2
  rw [← H.out.2.2.2.2.2.2]
  go_loop [7] (fun av => ∃ a' : Nat, a' ≤ z ∧ av = .int .i64 a') (fun av => z - (intOf av).toNat)
  case atStart => exact ⟨0, Nat.zero_le _, rfl⟩
  case round =>
    obtain ⟨q, hq, rfl⟩ := hrel
    by_cases hlt : q < z
    · have hj1 : (q : Int) < z := by omega
      go_wp2
      go_loop [8, 9] (fun fv iv => ∃ (i : Nat) (fb : Bool), i ≤ M ∧ iv = .int .i64 i ∧ fv = .bool fb ∧ (fb = false → ∀ j k, j < i → L[j]? = some k → ¬ (q + k < m ∧ 0 ≤ C.check.getD (q + k) 0 ∧ C.check.getD (q + k) 0 ≠ s))) (fun _ iv => M - (intOf iv).toNat)
      case atStart => exact ⟨0, false, Nat.zero_le _, rfl, rfl, fun _ j k hj => absurd hj (Nat.not_lt_zero _)⟩
      case round =>
        obtain ⟨i, fb, hi, rfl, rfl, hfb⟩ := hrel
        by_cases hlt2 : i < M
        · have hj2 : (i : Int) < M := by omega
          obtain ⟨k, hk⟩ : ∃ k, L[i]? = some k := ⟨_, List.getElem?_eq_getElem (by have := H.out.2.2.2.2.1; omega)⟩
          obtain ⟨bl, ol, e, l1⟩ := H.out.2.2.2.1 i k hk
          subst e
          have hk256 := H.out.2.2.2.2.2.1 k (List.mem_of_getElem? hk)
          obtain ⟨t, ht⟩ : ∃ t, t = q + k := ⟨_, rfl⟩
          have htt : (q : Int) + (k : Int) = (t : Int) := by omega
          have HK := Lib.hid (And.intro hk (And.intro ht hfb))
          clear hk ht hfb
          cases fb
          · by_cases htm : t < m
            · have htm' : (t : Int) < m := by omega
              obtain ⟨bc, oc, e, cC⟩ := H.out.2.1.check (by omega)
              have k1 := cC t htm
              subst e
              obtain ⟨x, hx9⟩ : ∃ x, x = C.check.getD t 0 := ⟨_, rfl⟩
              rw [← hx9] at k1
              have HX := Lib.hid hx9
              clear hx9 cC
              by_cases hx0 : 0 ≤ x
              · by_cases hxs : x = s
                · have hxs' : (x != (s : Int)) = false := by simpa using hxs
                  have HS := Lib.hid hxs
                  clear hxs
                  go_wp2
                  go_round
                  case rel => exact ⟨i + 1, false, by omega, by go_num, rfl, fun _ j k' hj hk' => by
                    by_cases e : j = i
                    · subst e
                      obtain rfl : k = k' := Option.some.inj (HK.out.1.symm.trans hk')
                      rw [← HK.out.2.1, ← HX.out]; intro hh; exact hh.2.2 HS.out
                    · exact HK.out.2.2 rfl j k' (by omega) hk'⟩
                  case measure => simp [intOf]; omega
                · have hxs' : (x != (s : Int)) = true := by rw [bne_iff_ne]; exact hxs
                  clear hxs
                  go_wp2
                  go_round
                  case rel => exact ⟨i + 1, true, by omega, by go_num, rfl, fun e => by cases e⟩
                  case measure => simp [intOf]; omega
              · have hx0' : x < 0 := by omega
                go_wp2
                go_round
                case rel => exact ⟨i + 1, false, by omega, by go_num, rfl, fun _ j k' hj hk' => by
                  by_cases e : j = i
                  · subst e
                    obtain rfl : k = k' := Option.some.inj (HK.out.1.symm.trans hk')
                    rw [← HK.out.2.1, ← HX.out]; intro hh; have := hh.2.1; omega
                  · exact HK.out.2.2 rfl j k' (by omega) hk'⟩
                case measure => simp [intOf]; omega
            · have htm' : ¬ (t : Int) < m := by omega
              go_wp2
              go_round
              case rel => exact ⟨i + 1, false, by omega, by go_num, rfl, fun _ j k' hj hk' => by
                by_cases e : j = i
                · subst e
                  obtain rfl : k = k' := Option.some.inj (HK.out.1.symm.trans hk')
                  rw [← HK.out.2.1]; intro hh; exact htm hh.1
                · exact HK.out.2.2 rfl j k' (by omega) hk'⟩
              case measure => simp [intOf]; omega
          · go_wp2
            go_round
            case rel => exact ⟨i + 1, true, by omega, by go_num, rfl, fun e => by cases e⟩
            case measure => simp [intOf]; omega
        · obtain rfl : M = i := by omega
          have hj2 : ¬ (M : Int) < M := by omega
          cases fb
          · exfalso
            obtain ⟨k, hk, h1, h2, h3⟩ := H.out.2.2.1 q (by omega)
            obtain ⟨j, hj⟩ := List.getElem?_of_mem hk
            exact hfb rfl j k (by have := (List.getElem?_eq_some_iff.1 hj).1; have := H.out.2.2.2.2.1; omega) hj ⟨h1, h2, h3⟩
          · clear hfb hlt2 hi
            go_wp2
            go_round
            case rel => exact ⟨q + 1, by omega, by go_num⟩
            case measure => simp [intOf]; omega
    · have hj1 : ¬ (q : Int) < z := by omega
      go_wp2
      go_ret
      exact ⟨rfl, H.out.1⟩
set_option maxRecDepth 100000 in
set_option maxHeartbeats 2000000 in
theorem tight_skip {w : World} {v : Value} {T : Tbl} (h : TblV w v T) (hno : ¬ TMay T) : Calls Tryd.prog 5 #[v] w fun e w' => e = .returned (.bool true) ∧ Ext w w' := by
  obtain ⟨ac, cc, sa, sc, an, nc, al, lc, rfl, _, _⟩ := h.open
  have hck := tmay_c (h.ext (Ext.box w (.cells #[.slice ac T.classes.length cc, .int .i64 T.count, .slice sa T.starts.length sc, .slice an T.next.length nc, .slice al T.label.length lc] 37)))
  rw [mayT_false hno] at hck
  have H := Lib.hid hck
  clear hck h
  generalize T.classes.length = n1 at *
  generalize T.starts.length = n2 at *
  generalize T.next.length = n3 at *
  generalize T.label.length = n4 at *
  generalize T.count = ct at *
  go_enter Tryd.func5, Tryd.ntmps5
  go_wp2_with fail
  refine H.out.mono ?_
  rintro e w1 ⟨rfl, hx1⟩
  have HX := Lib.hid ((Ext.box w _).trans hx1)
  clear hx1
  go_wp2_with fail
  refine (wakes16_c _).mono ?_
  rintro e w2 ⟨rfl, hx2⟩
  have HX2 := Lib.hid (HX.out.trans hx2)
  clear hx2
  go_wp2
  go_ret
  exact ⟨rfl, HX2.out⟩

set_option maxRecDepth 100000 in
set_option maxHeartbeats 16000000 in
theorem tight_go {w : World} {v : Value} {T : Tbl} (h : TblV w v T) (hm : TMay T) : Calls Tryd.prog 5 #[v] w fun e w' => e = .returned (.bool true) ∧ Ext w w' := by
  obtain ⟨a1, n1, c1, a2, n2, c2, bn, on, nc, a4, n4, c4, n, K, rfl, hT, hn1⟩ := h.rowsL hm
  obtain ⟨W, hW⟩ : ∃ W, W = w.alloc (.cells #[.slice a1 n1 c1, .int .i64 (K : Int), .slice a2 n2 c2, .slice (some ⟨bn, on, none⟩) n nc, .slice a4 n4 c4] 37) := ⟨_, rfl⟩
  have hB := TbB.made w bn on n nc K (.slice a1 n1 c1) (.slice a2 n2 c2) (.slice a4 n4 c4)
  rw [← hW] at hB
  have hck := tmay_c (h.ext hB.ext)
  rw [mayT_true.2 hm] at hck
  have hn6 := hT.n6
  have hk2 := hT.k2
  obtain ⟨b, hlight⟩ := light16_c (bn := bn) (on := on) (nc := nc) (tcv := .slice a1 n1 c1) (tsv := .slice a2 n2 c2) (tlv := .slice a4 n4 c4) hn6 hk2
  have H := Lib.hid (And.intro hB (And.intro hck (And.intro hlight (And.intro (h.ext hB.ext) (And.intro (hT.ext hB.ext) (And.intro hm hW))))))
  clear hB hck hlight h hT hm hW
  go_enter Tryd.func5, Tryd.ntmps5
  go_wp2_with fail
  rw [← H.out.2.2.2.2.2.2]
  refine H.out.2.1.mono ?_
  rintro e w1 ⟨rfl, hx1⟩
  have t0 := hx1.cell H.out.1.t0
  have t1 := hx1.cell H.out.1.t1
  have t2 := hx1.cell H.out.1.t2
  have t3 := hx1.cell H.out.1.t3
  have t4 := hx1.cell H.out.1.t4
  have HX1 := Lib.hid hx1
  clear hx1
  go_wp2_with fail
  refine (H.out.2.2.1 _).mono ?_
  rintro e w2 ⟨rfl, hx2⟩
  have hx02 := HX1.out.trans hx2
  have HX2 := Lib.hid hx02
  clear hx2 t0 t1 t2 t3 t4
  cases b
  · clear hx02
    go_wp2_with fail
    refine (wakes16_c _).mono ?_
    rintro e w3 ⟨rfl, hx3⟩
    have HX3 := Lib.hid (H.out.1.ext.trans (HX2.out.trans hx3))
    clear hx3
    go_wp2
    go_ret
    exact ⟨rfl, HX3.out⟩
  · have t0 := hx02.cell H.out.1.t0
    have t1 := hx02.cell H.out.1.t1
    have t2 := hx02.cell H.out.1.t2
    have t3 := hx02.cell H.out.1.t3
    have t4 := hx02.cell H.out.1.t4
    have hp := pack_c (H.out.2.2.2.1.ext hx02) H.out.2.2.2.2.2.1
    have HP := Lib.hid hp
    clear hp hx02
    go_wp2_with fail
    refine HP.out.mono ?_
    rintro e w3 ⟨bv, dv, nv, cv, C, own, rfl, hF, hsl, hO, hx3⟩
    have hcnt := H.out.2.2.2.2.1.cnt
    have hmay : CB.CMay C (K : Int) := by
      rw [← hcnt]
      exact hF.may H.out.2.2.2.2.2.1 (by omega) H.out.2.2.2.2.2.1.count1.1 H.out.2.2.2.2.2.1.count1.2
    have hcv := hO.read hF H.out.2.2.2.2.2.1 hsl
    obtain ⟨bb, ob, cb, bd, od, cd, an, cn, ac, cc, n', m, hval, hin⟩ := hcv.opened hmay
    simp only [Value.agg.injEq, Array.mk.injEq, List.cons.injEq, and_true] at hval
    obtain ⟨rfl, rfl, rfl, rfl⟩ := hval
    obtain rfl : n' = n := by rw [← hin.nlen, hF.blen, H.out.2.2.2.2.1.len]
    have hx03 := HX2.out.trans hx3
    have t1 := hx03.cell H.out.1.t1
    have t3 := hx03.cell H.out.1.t3
    have hlt1 := lt_of_cell t1
    obtain ⟨w4, hw4⟩ : ∃ w4, w4 = w3.alloc (.cells #[.slice (some ⟨bb, ob, none⟩) n' cb, .slice (some ⟨bd, od, none⟩) n' cd, .slice an m cn, .slice ac m cc] 40) := ⟨_, rfl⟩
    have hx4 : Ext w3 w4 := by rw [hw4]; exact Ext.box _ _
    have q0 : w4.cell? ⟨w3.heap.size, 0, none⟩ = some (.slice (some ⟨bb, ob, none⟩) n' cb) := by rw [hw4]; simp
    have q1 : w4.cell? ⟨w3.heap.size, 1, none⟩ = some (.slice (some ⟨bd, od, none⟩) n' cd) := by rw [hw4]; simp
    have q2 : w4.cell? ⟨w3.heap.size, 2, none⟩ = some (.slice an m cn) := by rw [hw4]; simp
    have q3 : w4.cell? ⟨w3.heap.size, 3, none⟩ = some (.slice ac m cc) := by rw [hw4]; simp
    have hnn : ((n' : Int) != (n' : Int)) = false := by simp
    have hmm : ((m : Int) != (m : Int)) = false := by simp
    have hm18 := hin.m18
    have hmk := run_make_any (P := Tryd.prog) 23 3 (.int .i64 0) 1 8 Tryd.underlying23 int_info .i64 .i64 n' (by omega) (by omega)
    have H2 := Lib.hid (And.intro (hcv.ext hx4) (And.intro (hin.ext hx4) (And.intro (hx03.trans hx4) (And.intro hw4 (And.intro hF hmay)))))
    have HQ := Lib.hid (And.intro q0 (And.intro q1 (And.intro q2 q3)))
    clear hcv hin hx03 hx4 hw4 hF hmay hcnt hsl hO hx3 q0 q1 q2 q3 t0 t2 t4
    go_wp2_with fail
    rw [← H2.out.2.2.2.1]
    clear t1 t3 hlt1 hnn hmm hmk
    have hw4s : w4.heap.size = w3.heap.size + 1 := by rw [H2.out.2.2.2.1]; simp
    obtain ⟨gw, hgw'⟩ : ∃ g, g = w3.heap.size + 1 := ⟨_, rfl⟩
    have hgw : gw = w4.heap.size := hgw'.trans hw4s.symm
    have hr0 := World.rowIs_alloc w4 (madeCells #[.int .i64 0] n') 3 (fun _ => .int .i64 0) (fun i hi => made_one _ (by rwa [size_madeCells] at hi))
    rw [size_madeCells] at hr0
    rw [← hgw] at hr0
    have HG := Lib.hid (And.intro hgw hr0)
    rw [← hgw']
    clear hgw hr0 hgw' hw4s
    go_loopw [7] (fun iv wr => ∃ i : Nat, i ≤ m ∧ iv = .int .i64 i ∧ Ext w4 wr ∧ wr.rowIs gw 3 n' (fun j => .int .i64 ((CB.ownN C (j : Int) i : Nat) : Int))) (fun iv _ => m - (intOf iv).toNat)
    case atStart => exact ⟨0, Nat.zero_le _, rfl, Ext.box _ _, HG.out.2⟩
    case round =>
      obtain ⟨i, hi, rfl, hx, hr⟩ := hrel
      have q3 := hx.cell HQ.out.2.2.2
      by_cases hlt : i < m
      · have hj1 : (i : Int) < m := by omega
        obtain ⟨bc, oc, e, cC⟩ := H2.out.2.1.check (by omega)
        subst e
        have k1 := hx.cell (cC i hlt)
        have hsl := H2.out.2.2.2.2.2.slot i (by rw [H2.out.2.1.mlen]; exact hlt)
        have hla := H2.out.2.2.2.2.2.last
        rw [H2.out.2.1.mlen] at hla
        obtain ⟨x, hx9⟩ : ∃ x, x = C.check.getD i 0 := ⟨_, rfl⟩
        rw [← hx9, H2.out.2.1.nlen] at hsl
        rw [← hx9] at k1
        have hx1 : -1 ≤ x := hsl.1
        have hx2 : x < n' := hsl.2.1
        have hlast : i = m - 1 → 0 ≤ x := fun e => by
          rcases hla with e0 | e0
          · omega
          · rw [← e, ← hx9] at e0; exact e0
        have HK := Lib.hid (And.intro hx9 (And.intro hx hr))
        clear hx9 hsl hla cC hx
        by_cases hx0 : 0 ≤ x
        · obtain ⟨s, rfl⟩ : ∃ s : Nat, x = s := ⟨x.toNat, by omega⟩
          have hs : s < n' := by omega
          have o1 := hr.cell hs
          have f1 := hr.frozen s
          obtain ⟨y, hy⟩ : ∃ y, y = CB.ownN C (s : Int) i := ⟨_, rfl⟩
          have hyi : y ≤ i := by rw [hy]; exact CB.ownN_le _ _ _
          rw [← hy] at o1
          have hnx0 : ¬ ((s : Int) < 0) := by omega
          have hend : ∀ (W' : World), W' = wr.setCell ⟨gw, s, none⟩ (.int .i64 ((y : Int) + 1)) → Ext w4 W' ∧ W'.rowIs gw 3 n' (fun j => .int .i64 ((CB.ownN C (j : Int) (i + 1) : Nat) : Int)) := fun W' e => by
            rw [e]
            refine ⟨HK.out.2.1.setCell (by rw [HG.out.1]; exact Nat.le_refl _) _, (HK.out.2.2.set s _).congr fun j hj => ?_⟩
            show (if j = s then Value.int .i64 ((y : Int) + 1) else _) = _
            have e2 : CB.ownN C (j : Int) (i + 1) = CB.ownN C (j : Int) i + if C.check.getD i 0 = (j : Int) then 1 else 0 := rfl
            rw [e2, ← HK.out.1]
            by_cases ej : j = s
            · subst ej; rw [if_pos rfl, if_pos rfl, ← hy]; exact congrArg (Value.int .i64) (by omega)
            · rw [if_neg ej, if_neg (by omega)]; exact congrArg (Value.int .i64) (by omega)
          have HE := Lib.hid hend
          clear hend hy hr hlast
          by_cases hl : i = m - 1
          · have hl' : ((i : Int) == (m : Int) - 1) = true := by simp; omega
            clear hl
            go_wp2
            go_roundw
            case rel =>
              obtain ⟨e1, e2⟩ := HE.out _ rfl
              exact ⟨i + 1, by omega, by go_num, e1, e2⟩
            case measure => simp [intOf]; omega
          · have hl' : ((i : Int) == (m : Int) - 1) = false := by simp; omega
            clear hl
            go_wp2
            go_roundw
            case rel =>
              obtain ⟨e1, e2⟩ := HE.out _ rfl
              exact ⟨i + 1, by omega, by go_num, e1, e2⟩
            case measure => simp [intOf]; omega
        · have hnl : ((i : Int) == (m : Int) - 1) = false := by
            simp only [beq_eq_false_iff_ne, ne_eq]
            intro e; exact hx0 (hlast (by omega))
          have hnext : wr.rowIs gw 3 n' (fun j => .int .i64 ((CB.ownN C (j : Int) (i + 1) : Nat) : Int)) := HK.out.2.2.congr fun j hj => by
            have e2 : CB.ownN C (j : Int) (i + 1) = CB.ownN C (j : Int) i + if C.check.getD i 0 = (j : Int) then 1 else 0 := rfl
            rw [e2, ← HK.out.1, if_neg (by omega)]; rfl
          have HE := Lib.hid hnext
          have hx0' : x < 0 := by omega
          clear hnext hr hlast
          go_wp2
          go_roundw
          case rel => exact ⟨i + 1, by omega, by go_num, HK.out.2.1, HE.out⟩
          case measure => simp [intOf]; omega
      · obtain rfl : m = i := by omega
        have hj1 : ¬ (m : Int) < m := by omega
        have HX := Lib.hid (And.intro hx hr)
        clear hx hr hlt hi
        go_wp2
        clear q3
        go_loopw [8] (fun sv wr => ∃ s : Nat, s ≤ n' ∧ sv = .int .i64 s ∧ Ext w4 wr ∧ wr.rowIs gw 3 n' (fun j => .int .i64 ((CB.ownN C (j : Int) m : Nat) : Int))) (fun sv _ => n' - (intOf sv).toNat)
        case atStart => exact ⟨0, Nat.zero_le _, rfl, HX.out.1, HX.out.2⟩
        case round =>
          clear HX
          rename World => wr2
          obtain ⟨s, hs, rfl, hx, hr⟩ := hrel
          by_cases hlt : s < n'
          · have hj1 : (s : Int) < n' := by omega
            have q0 := hx.cell HQ.out.1
            have q1 := hx.cell HQ.out.2.1
            have b1 := hx.cell (H2.out.2.1.base s hlt)
            have d1 := hx.cell (H2.out.2.1.dflt s hlt)
            have hbr := H2.out.2.2.2.2.2.base s (by rw [H2.out.2.1.nlen]; exact hlt)
            obtain ⟨z, hz⟩ : ∃ z, z = C.base.getD s 0 := ⟨_, rfl⟩
            obtain ⟨d, hd⟩ : ∃ d, d = C.dflt.getD s 0 := ⟨_, rfl⟩
            rw [← hz] at b1 hbr
            rw [← hd] at d1 hbr
            have hz0 := hbr.1
            have hz1 := hbr.2.1
            have hd1 := hbr.2.2.1
            have hd2 := hbr.2.2.2
            have hd3 : d < n' := by omega
            have hdA : ¬ d < -1 := by omega
            have hdB : ¬ (n' : Int) ≤ d := by omega
            have hzA : ¬ z < 0 := by omega
            have hzB : ¬ (262144 : Int) < z := by omega
            have HS := Lib.hid (And.intro hx (And.intro hr hd))
            clear hbr hx hr hd hz
            go_wp2
            clear q0 q1 b1 d1 hdA hdB hzA hzB
            go_loopw [9, 11] (fun lv kv wi => ∃ k : Nat, k ≤ K ∧ kv = .int .i64 k ∧ wi.ownsRow wr2.heap.size 3 1 lv (CB.liveN T s d k).length (intsV (nI (CB.liveN T s d k))) ∧ Ext wr2 wi) (fun _ kv _ => K - (intOf kv).toNat)
            case atStart => exact ⟨0, Nat.zero_le _, rfl, World.ownsRow_nil _ _ _ _, Ext.refl _⟩
            case round =>
              rename World => wi
              obtain ⟨k, hk, rfl, hown, hx⟩ := hrel
              obtain ⟨L, hL⟩ : ∃ L, L = (CB.liveN T s d k).length := ⟨_, rfl⟩
              rw [← hL] at hown
              have hLk : L ≤ k := by rw [hL]; exact CB.liveN_len _ _ _ _
              obtain ⟨av, cl, hav, -⟩ := own_read hown
              subst hav
              have hxw := H2.out.2.2.1.trans (HS.out.1.trans hx)
              have t1 := hxw.cell H.out.1.t1
              by_cases hlt2 : k < K
              · have hj2 : (k : Int) < K := by omega
                have t3 := hxw.cell H.out.1.t3
                obtain ⟨b1, o1, cc1, r1, e1f⟩ := H.out.2.2.2.2.1.row s hlt
                have r1 := hxw.cell r1
                have e1 := hxw.cell (e1f k hlt2)
                obtain ⟨x, hxx⟩ : ∃ x, x = CB.nx T s k := ⟨_, rfl⟩
                rw [← hxx] at e1
                obtain ⟨y, hy⟩ : ∃ y, y = CB.other T d k := ⟨_, rfl⟩
                have hyes : x ≠ y → CB.liveN T s d (k + 1) = CB.liveN T s d k ++ [k] := fun hne => CB.liveN_yes (by rw [← hxx, ← hy]; exact hne)
                have hno : x = y → CB.liveN T s d (k + 1) = CB.liveN T s d k := fun e => CB.liveN_no (by rw [← hxx, ← hy]; exact e)
                have HE := Lib.hid (And.intro hx (And.intro hown (And.intro hL (And.intro hyes hno))))
                clear hyes hno hL hxx e1f
                by_cases hd0 : d < 0
                · obtain rfl : d = -1 := by omega
                  have ey : y = -1 := by rw [hy]; unfold CB.other; rw [if_pos (by omega)]
                  clear hy hx hown hxw hd0
                  by_cases hne : x = -1
                  · have hne' : (x != -1) = false := by simpa using hne
                    have HN := Lib.hid (HE.out.2.2.2.2 (by rw [ey]; exact hne))
                    clear hne ey
                    go_wp2_with fail
                    go_quiet (fail)
                    go_wp2
                    go_roundw
                    case rel => exact ⟨k + 1, by omega, by go_num, by rw [HN.out, ← HE.out.2.2.1]; exact own_ext ((Ext.refl _).drewN _) HE.out.2.1, HE.out.1.drewN _⟩
                    case measure => simp [intOf]; omega
                  · have hne' : (x != -1) = true := by rw [bne_iff_ne]; exact hne
                    have HN := Lib.hid (HE.out.2.2.2.1 (by rw [ey]; exact hne))
                    clear hne ey
                    go_wp2_with fail
                    go_quiet (fail)
                    obtain ⟨w6, hw6⟩ : ∃ z, z = wi.drewN nq := ⟨_, rfl⟩
                    rw [← hw6]
                    have hx6 : Ext wi w6 := by rw [hw6]; exact (Ext.refl _).drewN _
                    obtain ⟨i0, hi0, hz0', hz1', hz2'⟩ := info_parts int_info
                    have hownb := own_ext (hx6.trans (Ext.box w6 (.cells #[.int .i64 (k : Int)] 3))) HE.out.2.1
                    have hcell := cell_one_new w6 (.int .i64 (k : Int)) 3
                    have h1c : ∀ u ∈ [Value.int .i64 (k : Int)], u.oneCell' = true := by intro u hu; simp at hu; subst hu; rfl
                    have hbase : wr2.heap.size ≤ (w6.alloc (.cells #[.int .i64 (k : Int)] 3)).heap.size := by have := (HE.out.1.trans hx6).size; simp; omega
                    have hmax : L + 1 ≤ maxLen := by unfold maxLen; omega
                    have HX6 := Lib.hid (HE.out.1.trans hx6)
                    clear hw6 hx6
                    go_wp2_with (at_builtin; refine wpList_append_own_at _ rfl _ _ 23 rfl wr2.heap.size 3 i0 (.int .i64 0) 1 8 Tryd.underlying23 hi0 hz0' hz1' hz2' rfl (by decide) _ _ _ rfl hownb ⟨w6.heap.size, 0, none⟩ 1 1 [.int .i64 (k : Int)] rfl rfl hcell h1c hmax (by omega) hbase ?_; intro v' W' hown' hg _ hat)
                    have HA := Lib.hid (And.intro hown' (Below.grown (HX6.out.alloc _) hg (HX6.out.alloc _).size (fun g e => (HE.out.2.1.lt g e).1) : Ext wr2 W'))
                    clear hown' hg hat
                    go_roundw
                    case rel => first | exact ⟨k + 1, by omega, by go_num, by rw [HN.out, intsV_snoc, List.length_append, ← HE.out.2.2.1]; exact HA.out.1, HA.out.2⟩ | ((repeat apply Exists.intro); exact ⟨⟨k + 1, by omega, by go_num, by rw [HN.out, intsV_snoc, List.length_append, ← HE.out.2.2.1]; exact HA.out.1, HA.out.2⟩, rfl⟩)
                    case measure => simp [intOf]; omega
                · obtain ⟨D, rfl⟩ : ∃ D : Nat, d = D := ⟨d.toNat, by omega⟩
                  obtain ⟨b2, o2, cc2, r2, e2f⟩ := H.out.2.2.2.2.1.row D (by omega)
                  have r2 := hxw.cell r2
                  have e2 := hxw.cell (e2f k hlt2)
                  have ey : y = CB.nx T D k := by rw [hy]; unfold CB.other; rw [if_neg (by omega), Int.toNat_natCast]
                  rw [← ey] at e2
                  have hDn : (D : Int) < n' := hd3
                  have hDd : decide ((D : Int) < 0) = false := by simp
                  clear hy hx hown hxw e2f ey
                  by_cases hne : x = y
                  · have hne' : (x != y) = false := by simpa using hne
                    have HN := Lib.hid (HE.out.2.2.2.2 hne)
                    clear hne
                    go_wp2_with fail
                    go_quiet (fail)
                    go_wp2
                    go_roundw
                    case rel => exact ⟨k + 1, by omega, by go_num, by rw [HN.out, ← HE.out.2.2.1]; exact own_ext ((Ext.refl _).drewN _) HE.out.2.1, HE.out.1.drewN _⟩
                    case measure => simp [intOf]; omega
                  · have hne' : (x != y) = true := by rw [bne_iff_ne]; exact hne
                    have HN := Lib.hid (HE.out.2.2.2.1 hne)
                    clear hne
                    go_wp2_with fail
                    go_quiet (fail)
                    obtain ⟨w6, hw6⟩ : ∃ z, z = wi.drewN nq := ⟨_, rfl⟩
                    rw [← hw6]
                    have hx6 : Ext wi w6 := by rw [hw6]; exact (Ext.refl _).drewN _
                    obtain ⟨i0, hi0, hz0', hz1', hz2'⟩ := info_parts int_info
                    have hownb := own_ext (hx6.trans (Ext.box w6 (.cells #[.int .i64 (k : Int)] 3))) HE.out.2.1
                    have hcell := cell_one_new w6 (.int .i64 (k : Int)) 3
                    have h1c : ∀ u ∈ [Value.int .i64 (k : Int)], u.oneCell' = true := by intro u hu; simp at hu; subst hu; rfl
                    have hbase : wr2.heap.size ≤ (w6.alloc (.cells #[.int .i64 (k : Int)] 3)).heap.size := by have := (HE.out.1.trans hx6).size; simp; omega
                    have hmax : L + 1 ≤ maxLen := by unfold maxLen; omega
                    have HX6 := Lib.hid (HE.out.1.trans hx6)
                    clear hw6 hx6
                    go_wp2_with (at_builtin; refine wpList_append_own_at _ rfl _ _ 23 rfl wr2.heap.size 3 i0 (.int .i64 0) 1 8 Tryd.underlying23 hi0 hz0' hz1' hz2' rfl (by decide) _ _ _ rfl hownb ⟨w6.heap.size, 0, none⟩ 1 1 [.int .i64 (k : Int)] rfl rfl hcell h1c hmax (by omega) hbase ?_; intro v' W' hown' hg _ hat)
                    have HA := Lib.hid (And.intro hown' (Below.grown (HX6.out.alloc _) hg (HX6.out.alloc _).size (fun g e => (HE.out.2.1.lt g e).1) : Ext wr2 W'))
                    clear hown' hg hat
                    go_roundw
                    case rel => first | exact ⟨k + 1, by omega, by go_num, by rw [HN.out, intsV_snoc, List.length_append, ← HE.out.2.2.1]; exact HA.out.1, HA.out.2⟩ | ((repeat apply Exists.intro); exact ⟨⟨k + 1, by omega, by go_num, by rw [HN.out, intsV_snoc, List.length_append, ← HE.out.2.2.1]; exact HA.out.1, HA.out.2⟩, rfl⟩)
                    case measure => simp [intOf]; omega
              · obtain rfl : K = k := by omega
                have hj2 : ¬ (K : Int) < K := by omega
                have hLL : CB.liveN T s d K = CB.liveL T s d := by unfold CB.liveL; rw [H.out.2.2.2.2.1.cnt, Int.toNat_natCast]
                have hown2 := H2.out.2.2.2.2.1.own (s := s) (by rw [H.out.2.2.2.2.1.len]; exact hlt)
                rw [H2.out.2.2.2.2.1.clen, H2.out.2.1.mlen, ← HS.out.2.2, ← hLL, ← hL] at hown2
                have hxr := HS.out.1.trans hx
                have o1 := (rowIs_ext hx HS.out.2.1).cell hlt
                rw [hown2] at o1
                have q0 := hxr.cell HQ.out.1
                have q1 := hxr.cell HQ.out.2.1
                have q2 := hxr.cell HQ.out.2.2.1
                have q3 := hxr.cell HQ.out.2.2.2
                have hLL2 : ((L : Int) != (L : Int)) = false := by simp
                have hst := stays_c (cb := cb) (cd := cd) (cn := cn) (cc := cc) (H2.out.2.1.ext hxr) H2.out.2.2.2.2.1 hlt HS.out.2.2.symm (a := av) (c := cl) (L := CB.liveN T s d K) (by
                  rw [← hL]
                  exact own_ints (k := .i64) (l := nI (CB.liveN T s d K)) hown (by omega)) hLL (by omega) (fun k hk => by have := (CB.liveN_mem.1 hk).1; omega)
                rw [← hL] at hst
                have HT := Lib.hid (And.intro hst (And.intro hxr (rowIs_ext hx HS.out.2.1)))
                clear hst hxr hx hxw hown hLL hown2 hL hlt2 hk
                go_wp2_with fail
                refine HT.out.1.mono ?_
                rintro e w9 ⟨rfl, hx9⟩
                have HX9 := Lib.hid (And.intro (HT.out.2.1.trans hx9) (rowIs_ext hx9 HT.out.2.2))
                clear hx9 q0 q1 q2 q3 o1 t1 hLL2
                go_wp2
                go_roundw
                case rel => exact ⟨s + 1, by omega, by go_num, HX9.out.1, HX9.out.2⟩
                case measure => simp [intOf]; omega
          · have hj1 : ¬ (s : Int) < n' := by omega
            have HX := Lib.hid (H2.out.2.2.1.trans hx)
            clear hx hr
            go_wp2_with fail
            refine (wakes16_c _).mono ?_
            rintro e w9 ⟨rfl, hx9⟩
            have HX9 := Lib.hid (H.out.1.ext.trans (HX.out.trans hx9))
            clear hx9
            go_wp2
            go_ret
            exact ⟨rfl, HX9.out⟩

theorem combTight_c {w : World} {v : Value} {T : Tbl} (h : TblV w v T) : Calls Tryd.prog 5 #[v] w fun e w' => e = .returned (.bool true) ∧ Ext w w' := by
  by_cases hm : TMay T
  · exact tight_go h hm
  · exact tight_skip h hm
end Go.Proofs.YtpeipjfmibjoiaaDoor
