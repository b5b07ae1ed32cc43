/- bolterlaw16.light, bolterlaw16.CombEntries. -/
import Derived.Test.YtpeipjfmibjoiaaDoorWakes16
import Derived.Test.YtpeipjfmibjoiaaDoorTblMay
namespace Go.Proofs.YtpeipjfmibjoiaaDoor
open Go.RowKit

/-- a table's box -/
structure TbB (w W : World) (bn on n nc K : Nat) (tcv tsv tlv : Value) : Prop where
  ext : Ext w W
  t0 : W.cell? ⟨w.heap.size, 0, none⟩ = some tcv
  t1 : W.cell? ⟨w.heap.size, 1, none⟩ = some (.int .i64 (K : Int))
  t2 : W.cell? ⟨w.heap.size, 2, none⟩ = some tsv
  t3 : W.cell? ⟨w.heap.size, 3, none⟩ = some (.slice (some ⟨bn, on, none⟩) n nc)
  t4 : W.cell? ⟨w.heap.size, 4, none⟩ = some tlv
theorem TbB.made (w : World) (bn on n nc K : Nat) (tcv tsv tlv : Value) : TbB w (w.alloc (.cells #[tcv, .int .i64 (K : Int), tsv, .slice (some ⟨bn, on, none⟩) n nc, tlv] 37)) bn on n nc K tcv tsv tlv := by
  refine ⟨Ext.box _ _, ?_, ?_, ?_, ?_, ?_⟩ <;> simp

set_option maxRecDepth 100000 in
set_option maxHeartbeats 2000000 in
theorem light16_c {n K bn on nc : Nat} {tcv tsv tlv : Value} (hn : n ≤ 600) (hK : K ≤ 256) : ∃ b : Bool, ∀ w, Calls Tryd.prog 21 #[.agg #[tcv, .int .i64 (K : Int), tsv, .slice (some ⟨bn, on, none⟩) n nc, tlv]] w fun e w' => e = .returned (.bool b) ∧ Ext w w' := by
  have hp : n * K ≤ 600 * 256 := Nat.mul_le_mul hn hK
  obtain ⟨p, hp1⟩ : ∃ p, p = n * K := ⟨_, rfl⟩
  have hp2 : (n : Int) * (K : Int) = (p : Int) := by rw [hp1]; simp
  have hp3 : p ≤ 153600 := by omega
  clear hp hp1
  have hn7 : (n : Int) ≤ 700 := by omega
  by_cases h : p ≤ 3000
  · have h' : (p : Int) ≤ 3000 := by omega
    refine ⟨true, fun w => ?_⟩
    go_enter Tryd.func21, Tryd.ntmps21
    go_wp2
    go_ret
    exact ⟨rfl, Ext.box _ _⟩
  · have h' : ¬ (p : Int) ≤ 3000 := by omega
    refine ⟨false, fun w => ?_⟩
    go_enter Tryd.func21, Tryd.ntmps21
    go_wp2
    go_ret
    exact ⟨rfl, Ext.box _ _⟩

set_option maxRecDepth 100000 in
set_option maxHeartbeats 2000000 in
theorem entries_skip {w : World} {v : Value} {T : Tbl} (h : TblV w v T) (hno : ¬ TMay T) : Calls Tryd.prog 4 #[v] w fun e w' => e = .returned (.bool true) ∧ Ext w w' := by
  obtain ⟨ac, cc, sa, sc, an, nc, al, lc, rfl, _, _⟩ := h.open
  have hck := tmay_c (h.ext (Ext.box w (.cells #[.slice ac T.classes.length cc, .int .i64 T.count, .slice sa T.starts.length sc, .slice an T.next.length nc, .slice al T.label.length lc] 37)))
  rw [mayT_false hno] at hck
  have H := Lib.hid hck
  clear hck h
  generalize T.classes.length = n1 at *
  generalize T.starts.length = n2 at *
  generalize T.next.length = n3 at *
  generalize T.label.length = n4 at *
  generalize T.count = ct at *
  go_enter Tryd.func4, Tryd.ntmps4
  go_wp2_with fail
  refine H.out.mono ?_
  rintro e w1 ⟨rfl, hx1⟩
  have HX := Lib.hid ((Ext.box w _).trans hx1)
  clear hx1
  go_wp2_with fail
  refine (wakes16_c _).mono ?_
  rintro e w2 ⟨rfl, hx2⟩
  have HX2 := Lib.hid (HX.out.trans hx2)
  clear hx2
  go_wp2
  go_ret
  exact ⟨rfl, HX2.out⟩

set_option maxRecDepth 100000 in
set_option maxHeartbeats 8000000 in
theorem entries_go {w : World} {v : Value} {T : Tbl} (h : TblV w v T) (hm : TMay T) : Calls Tryd.prog 4 #[v] w fun e w' => e = .returned (.bool true) ∧ Ext w w' := by
  obtain ⟨a1, n1, c1, a2, n2, c2, bn, on, nc, a4, n4, c4, n, K, rfl, hT, hn1⟩ := h.rowsL hm
  obtain ⟨W, hW⟩ : ∃ W, W = w.alloc (.cells #[.slice a1 n1 c1, .int .i64 (K : Int), .slice a2 n2 c2, .slice (some ⟨bn, on, none⟩) n nc, .slice a4 n4 c4] 37) := ⟨_, rfl⟩
  have hB := TbB.made w bn on n nc K (.slice a1 n1 c1) (.slice a2 n2 c2) (.slice a4 n4 c4)
  rw [← hW] at hB
  have hck := tmay_c (h.ext hB.ext)
  rw [mayT_true.2 hm] at hck
  have hn6 := hT.n6
  have hk2 := hT.k2
  obtain ⟨b, hlight⟩ := light16_c (bn := bn) (on := on) (nc := nc) (tcv := .slice a1 n1 c1) (tsv := .slice a2 n2 c2) (tlv := .slice a4 n4 c4) hn6 hk2
  have H := Lib.hid (And.intro hB (And.intro hck (And.intro hlight (And.intro (h.ext hB.ext) (And.intro (hT.ext hB.ext) (And.intro hm hW))))))
  clear hB hck hlight h hT hm hW
  go_enter Tryd.func4, Tryd.ntmps4
  go_wp2_with fail
  rw [← H.out.2.2.2.2.2.2]
  refine H.out.2.1.mono ?_
  rintro e w1 ⟨rfl, hx1⟩
  have t0 := hx1.cell H.out.1.t0
  have t1 := hx1.cell H.out.1.t1
  have t2 := hx1.cell H.out.1.t2
  have t3 := hx1.cell H.out.1.t3
  have t4 := hx1.cell H.out.1.t4
  have HX1 := Lib.hid hx1
  clear hx1
  go_wp2_with fail
  refine (H.out.2.2.1 _).mono ?_
  rintro e w2 ⟨rfl, hx2⟩
  have hx02 := HX1.out.trans hx2
  have HX2 := Lib.hid hx02
  clear hx2 t0 t1 t2 t3 t4
  cases b
  · clear hx02
    go_wp2_with fail
    refine (wakes16_c _).mono ?_
    rintro e w3 ⟨rfl, hx3⟩
    have HX3 := Lib.hid (H.out.1.ext.trans (HX2.out.trans hx3))
    clear hx3
    go_wp2
    go_ret
    exact ⟨rfl, HX3.out⟩
  · have t0 := hx02.cell H.out.1.t0
    have t1 := hx02.cell H.out.1.t1
    have t2 := hx02.cell H.out.1.t2
    have t3 := hx02.cell H.out.1.t3
    have t4 := hx02.cell H.out.1.t4
    have hp := pack_c (H.out.2.2.2.1.ext hx02) H.out.2.2.2.2.2.1
    have HP := Lib.hid hp
    clear hp hx02
    go_wp2_with fail
    refine HP.out.mono ?_
    rintro e w3 ⟨bv, dv, nv, cv, C, own, rfl, hF, hsl, hO, hx3⟩
    have hcnt := H.out.2.2.2.2.1.cnt
    have hmay : CB.CMay C (K : Int) := by
      rw [← hcnt]
      exact hF.may H.out.2.2.2.2.2.1 (by omega) H.out.2.2.2.2.2.1.count1.1 H.out.2.2.2.2.2.1.count1.2
    have hcv := hO.read hF H.out.2.2.2.2.2.1 hsl
    obtain ⟨bb, ob, cb, bd, od, cd, an, cn, ac, cc, n', m, hval, hin⟩ := hcv.opened hmay
    simp only [Value.agg.injEq, Array.mk.injEq, List.cons.injEq, and_true] at hval
    obtain ⟨rfl, rfl, rfl, rfl⟩ := hval
    obtain rfl : n' = n := by rw [← hin.nlen, hF.blen, H.out.2.2.2.2.1.len]
    have hx03 := HX2.out.trans hx3
    have t1 := hx03.cell H.out.1.t1
    have t3 := hx03.cell H.out.1.t3
    have hlt1 := lt_of_cell t1
    obtain ⟨w4, hw4⟩ : ∃ w4, w4 = w3.alloc (.cells #[.slice (some ⟨bb, ob, none⟩) n' cb, .slice (some ⟨bd, od, none⟩) n' cd, .slice an m cn, .slice ac m cc] 40) := ⟨_, rfl⟩
    have hx4 : Ext w3 w4 := by rw [hw4]; exact Ext.box _ _
    have q0 : w4.cell? ⟨w3.heap.size, 0, none⟩ = some (.slice (some ⟨bb, ob, none⟩) n' cb) := by rw [hw4]; simp
    have q1 : w4.cell? ⟨w3.heap.size, 1, none⟩ = some (.slice (some ⟨bd, od, none⟩) n' cd) := by rw [hw4]; simp
    have q2 : w4.cell? ⟨w3.heap.size, 2, none⟩ = some (.slice an m cn) := by rw [hw4]; simp
    have q3 : w4.cell? ⟨w3.heap.size, 3, none⟩ = some (.slice ac m cc) := by rw [hw4]; simp
    have hck := ccheck_c (k := (K : Int)) (hcv.ext hx4)
    rw [CB.mayC_true.2 hmay] at hck
    have hnn : ((n' : Int) != (n' : Int)) = false := by simp
    have H2 := Lib.hid (And.intro (hcv.ext hx4) (And.intro (hin.ext hx4) (And.intro hck (And.intro (hx03.trans hx4) (And.intro hw4 (And.intro hF hmay))))))
    have HQ := Lib.hid (And.intro q0 (And.intro q1 (And.intro q2 q3)))
    clear hcv hin hck hx03 hx4 hw4 hF hmay hcnt hsl hO hx3 q0 q1 q2 q3 t0 t2 t4
    go_wp2_with fail
    rw [← H2.out.2.2.2.2.1]
    refine H2.out.2.2.1.mono ?_
    rintro e w5 ⟨rfl, hx5⟩
    clear t1 t3 hlt1 hnn
    have HX5 := Lib.hid hx5
    clear hx5
    go_wp2
    go_loopw [5] (fun sv wr => ∃ s : Nat, s ≤ n' ∧ sv = .int .i64 s ∧ Ext w4 wr) (fun sv _ => n' - (intOf sv).toNat)
    case atStart => exact ⟨0, Nat.zero_le _, rfl, HX5.out⟩
    case round =>
      clear HX5
      obtain ⟨s, hs, rfl, hx⟩ := hrel
      have hxw := H2.out.2.2.2.1.trans hx
      have t3 := hxw.cell H.out.1.t3
      by_cases hlt : s < n'
      · have hj1 : (s : Int) < n' := by omega
        have q1 := hx.cell HQ.out.2.1
        have d1 := hx.cell (H2.out.2.1.dflt s hlt)
        have hdr := H2.out.2.2.2.2.2.2.base s (by rw [H2.out.2.1.nlen]; exact hlt)
        obtain ⟨y, hy⟩ : ∃ y, y = C.dflt.getD s 0 := ⟨_, rfl⟩
        rw [← hy] at d1 hdr
        have hy1 := hdr.2.2.1
        have hy2 := hdr.2.2.2
        have HX := Lib.hid hx
        clear hx hxw hdr hy
        go_wp2
        clear t3 q1 d1
        go_loopw [6] (fun kv wr2 => ∃ k : Nat, k ≤ K ∧ kv = .int .i64 k ∧ Ext w4 wr2) (fun kv _ => K - (intOf kv).toNat)
        case atStart => exact ⟨0, Nat.zero_le _, rfl, HX.out⟩
        case round =>
          clear HX
          rename World => wr2
          obtain ⟨k, hk, rfl, hx⟩ := hrel
          have hxw := H2.out.2.2.2.1.trans hx
          have t1 := hxw.cell H.out.1.t1
          by_cases hlt2 : k < K
          · have hj2 : (k : Int) < K := by omega
            have q0 := hx.cell HQ.out.1
            have q1 := hx.cell HQ.out.2.1
            have q2 := hx.cell HQ.out.2.2.1
            have q3 := hx.cell HQ.out.2.2.2
            have hlk := look_c (k := k) (s := s) (H2.out.1.ext hx) (H2.out.2.2.2.2.2.2.wide (c' := 256) (by omega) (Int.le_refl _)) (by rw [H2.out.2.1.nlen]; exact hlt) (by omega)
            have hen := H2.out.2.2.2.2.2.1.entry (k := k) (by rw [H.out.2.2.2.2.1.cnt]; simpa using hlt2) s (by rw [H.out.2.2.2.2.1.len]; exact hlt)
            have hpr := CB.look_probes (k := k) (C := C) (fun i hi => (H2.out.2.2.2.2.2.2.base i hi).2.2.2) s (by rw [H2.out.2.1.nlen]; exact hlt)
            obtain ⟨x, hxx⟩ : ∃ x, x = CB.nx T s k := ⟨_, rfl⟩
            rw [hen, ← hxx] at hlk
            obtain ⟨pr, hprr⟩ : ∃ p, p = (CB.look C k s).2 := ⟨_, rfl⟩
            rw [← hprr] at hlk hpr
            have hp1 : ¬ (pr : Int) < 1 := by omega
            have hp2 : ¬ (s : Int) + 1 < (pr : Int) := by omega
            have H4 := Lib.hid (And.intro hlk (And.intro hx hxx))
            clear hlk hx hxx hen hprr hxw
            go_wp2_with fail
            refine H4.out.1.mono ?_
            rintro e w7 ⟨rfl, hx7⟩
            have hx47 := H4.out.2.1.trans hx7
            have hxw7 := H2.out.2.2.2.1.trans hx47
            have t3 := hxw7.cell H.out.1.t3
            obtain ⟨b1, o1, cc1, r1, e1f⟩ := H.out.2.2.2.2.1.row s hlt
            have r1 := hxw7.cell r1
            have e1 := hxw7.cell (e1f k hlt2)
            rw [← H4.out.2.2] at e1
            have hxe : (x != x) = false := by simp
            have HX7 := Lib.hid hx47
            clear hx7 hx47 hxw7 e1f q0 q1 q2 q3 t1
            go_wp2
            go_roundw
            case rel => exact ⟨k + 1, by omega, by go_num, HX7.out⟩
            case measure => simp [intOf]; omega
          · obtain rfl : K = k := by omega
            have hj2 : ¬ (K : Int) < K := by omega
            have HX := Lib.hid hx
            clear hx hxw hlt2 hk
            go_wp2
            go_roundw
            case rel => exact ⟨s + 1, by omega, by go_num, HX.out⟩
            case measure => simp [intOf]; omega
      · obtain rfl : n' = s := by omega
        have hj1 : ¬ (n' : Int) < n' := by omega
        have HX := Lib.hid hxw
        clear hx hxw hlt hs
        go_wp2_with fail
        refine (wakes16_c _).mono ?_
        rintro e w9 ⟨rfl, hx9⟩
        have HX9 := Lib.hid (H.out.1.ext.trans (HX.out.trans hx9))
        clear hx9 t3
        go_wp2
        go_ret
        exact ⟨rfl, HX9.out⟩

theorem combEntries_c {w : World} {v : Value} {T : Tbl} (h : TblV w v T) : Calls Tryd.prog 4 #[v] w fun e w' => e = .returned (.bool true) ∧ Ext w w' := by
  by_cases hm : TMay T
  · exact entries_go h hm
  · exact entries_skip h hm
end Go.Proofs.YtpeipjfmibjoiaaDoor
