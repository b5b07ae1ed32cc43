/- bolterlaw15.RowsApart: of several automata each one's states stand behind those ahead of it. -/
import Derived.Test.YtngbaaiocoobdaaDoorBuiltO
import Derived.Test.YtngbaaiocoobdaaDoorLMay15
namespace Go.Proofs.YtngbaaiocoobdaaDoor
open Go.RowKit

theorem DensesV.one {w : World} {b o L cap : Nat} {l : List Dn} (h : DensesV w (.slice (some ⟨b, o, none⟩) L cap) l) {m : Nat} {d : Dn} (hd : l[m]? = some d) {c : Nat} (hc : 1 ≤ c) : DensesV w (.slice (some ⟨b, o + m * 2, none⟩) 1 c) [d] := by
  obtain ⟨_, a, cap', he, _, h3⟩ := h
  simp only [Value.slice.injEq] at he
  obtain ⟨rfl, -, rfl⟩ := he
  have hm := (List.getElem?_eq_some_iff.1 hd).1
  obtain ⟨b', o', hbo, h5⟩ := h3 (by omega)
  simp only [Option.some.injEq, Addr.mk.injEq, and_true] at hbo
  obtain ⟨rfl, rfl⟩ := hbo
  refine ⟨by simp, some ⟨b, o + m * 2, none⟩, c, rfl, ⟨hc, fun h => by cases h⟩, fun _ => ⟨b, o + m * 2, rfl, fun i z hz => ?_⟩⟩
  have hi := (List.getElem?_eq_some_iff.1 hz).1
  obtain rfl : i = 0 := by simpa using hi
  obtain rfl : d = z := by simpa using hz
  rw [Nat.zero_mul, Nat.add_zero]
  exact h5 m d hd
theorem mayL_one {d : Dn} (h : May d) : MayL [d] := ⟨fun x hx => by rw [List.mem_singleton.1 hx]; exact h, by simp, by simp, by show states [d] ≤ 600; have := h.most; simpa [states] using this⟩
theorem ent_range {l : List Dn} (h : MayL l) {s b : Nat} (hs : s < baseOf l) (hb : b < 256) : -1 ≤ entOf l s b ∧ entOf l s b < baseOf l := (built_ok h).dest s (clsOf l b) hs (RM.cls_lt hb)

set_option maxRecDepth 100000 in
set_option maxHeartbeats 4000000 in
theorem apartLaw_c {w : World} {v : Value} {l : List Dn} (h : DensesV w v l) : Calls Tryd.prog 5 #[v] w fun e w' => e = .returned (.bool true) ∧ Ext w w' := by
  have hmay := lmay_c h
  by_cases hl : LMay l
  · rw [lmayB_true.2 hl] at hmay
    obtain ⟨_, a, cap, rfl, ⟨hcap, _⟩, hop⟩ := h.open
    obtain ⟨b, o, rfl, _⟩ := hop hl.pos
    have hmost := hl.most
    have hpos := hl.pos
    obtain ⟨L, hL⟩ : ∃ L, L = l.length := ⟨_, rfl⟩
    rw [← hL] at hmay h hcap hmost hpos ⊢
    have H := Lib.hid (And.intro h (And.intro hmay (And.intro hl hL)))
    clear h hmay hl hL hop
    go_enter Tryd.func5, Tryd.ntmps5
    go_wp2_with fail
    refine H.out.2.1.mono ?_
    rintro e w1 ⟨rfl, hx1⟩
    have hbd := build_c (H.out.1.ext hx1) H.out.2.2.1.mayL
    have HX := Lib.hid (And.intro hx1 hbd)
    clear hx1 hbd
    go_wp2_with fail
    refine HX.out.2.mono ?_
    rintro e w4 hR
    obtain ⟨bc, oc, cc, bs, os, sc, bn, on, nc, bl, ol, lc, K, n, rfl, hn, hn1, hn6, hK, hB, hT, hx4⟩ := hR.open H.out.2.2.1.mayL
    clear hR
    rw [← H.out.2.2.2] at hT ⊢
    have hmy := tmay_c (hT.ext (Ext.box w4 (.cells #[.slice (some ⟨bc, oc, none⟩) 256 cc, .int .i64 (K : Int), .slice (some ⟨bs, os, none⟩) L sc, .slice (some ⟨bn, on, none⟩) n nc, .slice (some ⟨bl, ol, none⟩) n lc] 39)))
    rw [mayT_true.2 (built_may H.out.2.2.1.mayL)] at hmy
    have HT := Lib.hid (And.intro hn (And.intro hB (And.intro hmy (HX.out.1.trans hx4))))
    clear hn hB hmy hT hx4
    have hLL : ((L : Int) != (L : Int)) = false := by simp
    go_wp2_with fail
    refine HT.out.2.2.1.mono ?_
    rintro e w5 ⟨rfl, hx5⟩
    have hx45 := (Ext.box w4 _).trans hx5
    have q0 := hx5.cell (p := ⟨w4.heap.size, 0, none⟩) (v := .slice (some ⟨bc, oc, none⟩) 256 cc) (by simp)
    have q2 := hx5.cell (p := ⟨w4.heap.size, 2, none⟩) (v := .slice (some ⟨bs, os, none⟩) L sc) (by simp)
    have q3 := hx5.cell (p := ⟨w4.heap.size, 3, none⟩) (v := .slice (some ⟨bn, on, none⟩) n nc) (by simp)
    have q4 := hx5.cell (p := ⟨w4.heap.size, 4, none⟩) (v := .slice (some ⟨bl, ol, none⟩) n lc) (by simp)
    obtain ⟨rb, hrb⟩ : ∃ rb, rb = w4.heap.size := ⟨_, rfl⟩
    rw [← hrb] at q0 q2 q3 q4 ⊢
    have HQ := Lib.hid (And.intro q0 (And.intro q2 (And.intro q3 (And.intro q4 (And.intro (HT.out.2.1.ext hx45) (HT.out.2.2.2.trans hx45))))))
    clear q0 q3 q4 hx5 hx45 hrb
    go_wp2
    clear hLL q2
    go_loopw [5, 6] (fun bv mv wr => Ext w5 wr ∧ ∃ m : Nat, m ≤ L ∧ mv = .int .i64 m ∧ bv = .int .i64 ((baseOf (l.take m) : Nat) : Int)) (fun _ mv _ => L - (intOf mv).toNat)
    case atStart => exact ⟨Ext.refl _, 0, Nat.zero_le _, rfl, rfl⟩
    case round =>
      rename World => w6
      obtain ⟨hx6, m, hm, rfl, rfl⟩ := hrel
      by_cases hltm : m < L
      · obtain ⟨d, hd⟩ : ∃ d, l[m]? = some d := ⟨_, List.getElem?_eq_getElem (by rw [← H.out.2.2.2]; exact hltm)⟩
        have hdm := H.out.2.2.1.each d (List.mem_of_getElem? hd)
        have hbase := baseOf_at hd
        rw [← baseOf_one, ← HT.out.1] at hbase
        have hbd := build_c ((H.out.1.one hd (c := cap - m) (by omega)).ext (HQ.out.2.2.2.2.2.trans hx6)) (mayL_one hdm)
        obtain ⟨B, hB⟩ : ∃ B, B = baseOf (l.take m) := ⟨_, rfl⟩
        rw [← hB] at hbase ⊢
        have hj1 : (m : Int) < L := by omega
        have hj2 : (m : Int) + 1 ≤ cap := by omega
        have hj3 : (m : Int) ≤ (m : Int) + 1 := by omega
        have HD := Lib.hid (And.intro hd (And.intro hdm (And.intro hbase (And.intro hbd (And.intro hB hx6)))))
        clear hd hdm hbase hbd hB hx6
        go_wp2_with fail
        refine HD.out.2.2.2.1.mono ?_
        rintro e w7 hR
        obtain ⟨bc', oc', cc', bs', os', sc', bn', on', nc', bl', ol', lc', K', n', rfl, hn', hn1', hn6', hK', hB', hT', hx7⟩ := hR.open (mayL_one HD.out.2.1)
        clear hR
        rw [show ([d] : List Dn).length = 1 from rfl] at hT' ⊢
        have hmy := tmay_c (hT'.ext (Ext.box w7 (.cells #[.slice (some ⟨bc', oc', none⟩) 256 cc', .int .i64 (K' : Int), .slice (some ⟨bs', os', none⟩) 1 sc', .slice (some ⟨bn', on', none⟩) n' nc', .slice (some ⟨bl', ol', none⟩) n' lc'] 39)))
        rw [mayT_true.2 (built_may (mayL_one HD.out.2.1))] at hmy
        have hBn := HD.out.2.2.1
        rw [← hn'] at hBn
        have HT' := Lib.hid (And.intro hn' (And.intro hB' (And.intro hmy (HD.out.2.2.2.2.2.trans hx7))))
        clear hn' hB' hmy hT' hx7
        go_wp2_with fail
        refine HT'.out.2.2.1.mono ?_
        rintro e w8 ⟨rfl, hx8⟩
        have hx78 := (Ext.box w7 _).trans hx8
        have hx58 := HT'.out.2.2.2.trans hx78
        have p0 := hx8.cell (p := ⟨w7.heap.size, 0, none⟩) (v := .slice (some ⟨bc', oc', none⟩) 256 cc') (by simp)
        have p2 := hx8.cell (p := ⟨w7.heap.size, 2, none⟩) (v := .slice (some ⟨bs', os', none⟩) 1 sc') (by simp)
        have p3 := hx8.cell (p := ⟨w7.heap.size, 3, none⟩) (v := .slice (some ⟨bn', on', none⟩) n' nc') (by simp)
        have p4 := hx8.cell (p := ⟨w7.heap.size, 4, none⟩) (v := .slice (some ⟨bl', ol', none⟩) n' lc') (by simp)
        obtain ⟨xb, hxb⟩ : ∃ xb, xb = w7.heap.size := ⟨_, rfl⟩
        rw [← hxb] at p0 p2 p3 p4 ⊢
        have k2 := hx58.cell HQ.out.2.1
        have k3 := hx58.cell HQ.out.2.2.1
        have st0 := (HQ.out.2.2.2.2.1.ext hx58).start m d HD.out.1
        rw [← HD.out.2.2.2.2.1] at st0
        have st1 := (HT'.out.2.1.ext hx78).start 0 d rfl
        rw [show ([d] : List Dn).take 0 = [] from rfl, show ((baseOf [] : Nat) : Int) = 0 from rfl, Nat.add_zero] at st1
        have hb1 : ((B : Int) != (B : Int)) = false := by simp
        have hb2 : ¬ (n : Int) < (B : Int) + n' := by omega
        have hb3 : (B : Int) ≤ 600 := by omega
        have hb4 : (n' : Int) ≤ 600 := by omega
        have HP := Lib.hid (And.intro p0 (And.intro p3 (And.intro p4 (And.intro hx58 (HT'.out.2.1.ext hx78)))))
        clear p0 p4 hx8 hx78 hx58 hxb
        go_wp2
        clear hb1 hb2 k2 k3 p2 p3 st0 st1
        go_loopw [9] (fun sv wr => Ext w8 wr ∧ ∃ s : Nat, s ≤ n' ∧ sv = .int .i64 s) (fun sv _ => n' - (intOf sv).toNat)
        case atStart => exact ⟨Ext.refl _, 0, Nat.zero_le _, rfl⟩
        case round =>
          rename World => w9
          obtain ⟨hx9, s, hs, rfl⟩ := hrel
          have p3 := hx9.cell HP.out.2.1
          by_cases hlts : s < n'
          · have hx59 := HP.out.2.2.2.1.trans hx9
            have p4 := hx9.cell HP.out.2.2.1
            have k4 := hx59.cell HQ.out.2.2.2.1
            have hmv := apart_moved HD.out.1 (j := s) (by rw [← HT'.out.1]; exact hlts)
            have l1 := (HP.out.2.2.2.2.ext hx9).lab s hlts
            have l2 := (HQ.out.2.2.2.2.1.ext hx59).lab (B + s) (by omega)
            rw [HD.out.2.2.2.2.1, ← hmv.1] at l2
            rw [← HD.out.2.2.2.2.1] at l2
            obtain ⟨x, hx⟩ : ∃ x, x = (built [d]).label.getD s 0 := ⟨_, rfl⟩
            rw [← hx] at l1 l2
            have hw1 : IntKind.i64.wrap ((B : Int) + (s : Int)) = ((B + s : Nat) : Int) := (IntWalk.i64_in _ (by omega)).trans (by omega)
            have hxx : (x != x) = false := by simp
            have hj4 : (s : Int) < n' := by omega
            have hj5 : ((B + s : Nat) : Int) < n := by omega
            have hj6 : (B : Int) + s < n := by omega
            have HS := Lib.hid (And.intro hmv.2 (And.intro hx9 hx))
            clear hmv hx9 hx59 hx
            go_wp2_with fail
            go_quiet (fail)
            clear hw1
            go_wp2
            obtain ⟨w10, hw10⟩ : ∃ z, z = w9.drewN nq := ⟨_, rfl⟩
            have hx10 := HS.out.2.1.drewN nq
            rw [← hw10] at hx10 ⊢
            have HX10 := Lib.hid hx10
            clear hx10 hw10 hxx p3 p4 k4 l1 l2
            go_loopw [10] (fun cv wr => Ext w8 wr ∧ ∃ c : Nat, c ≤ 256 ∧ cv = .int .i64 c) (fun cv _ => 256 - (intOf cv).toNat)
            case atStart => exact ⟨HX10.out, 0, Nat.zero_le _, rfl⟩
            case round =>
              rename World => w11
              obtain ⟨hx11, c, hc, rfl⟩ := hrel
              by_cases hltc : c < 256
              · have hx511 := HP.out.2.2.2.1.trans hx11
                have p3 := hx11.cell HP.out.2.1
                have p0 := hx11.cell HP.out.1
                have k3 := hx511.cell HQ.out.2.2.1
                have k0 := hx511.cell HQ.out.1
                have bt1 := HP.out.2.2.2.2.ext hx11
                have bt2 := HQ.out.2.2.2.2.1.ext hx511
                obtain ⟨br, ro, cr, r0, r1⟩ := bt1.row s hlts
                obtain ⟨br2, ro2, cr2, t0, t1⟩ := bt2.row (B + s) (by omega)
                have c1 := bt1.cls c hltc
                have c2 := bt2.cls c hltc
                have lo1 := bt1.low c hltc
                have lo2 := bt2.low c hltc
                have e1 := r1 c hltc
                have e2 := t1 c hltc
                have hmv := HS.out.1 c hltc
                rw [← HD.out.2.2.2.2.1] at hmv
                have hrg := ent_range (mayL_one HD.out.2.1) (s := s) (b := c) (by rw [← HT'.out.1]; exact hlts) hltc
                rw [← HT'.out.1] at hrg
                obtain ⟨x, hx⟩ : ∃ x, x = entOf [d] s c := ⟨_, rfl⟩
                obtain ⟨y, hy⟩ : ∃ y, y = entOf l (B + s) c := ⟨_, rfl⟩
                obtain ⟨ka, hka⟩ : ∃ k, k = clsOf [d] c := ⟨_, rfl⟩
                obtain ⟨kb, hkb⟩ : ∃ k, k = clsOf l c := ⟨_, rfl⟩
                rw [← hx] at e1 hmv hrg
                rw [← hy] at e2 hmv
                rw [← hka] at c1 lo1 e1
                rw [← hkb] at c2 lo2 e2
                have hw1 : IntKind.i64.wrap ((B : Int) + (s : Int)) = ((B + s : Nat) : Int) := (IntWalk.i64_in _ (by omega)).trans (by omega)
                have hj7 : (c : Int) < 256 := by omega
                have hj8 : (ka : Int) < K' := by omega
                have hj9 : (kb : Int) < K := by omega
                have HC := Lib.hid hx11
                clear hx11 hx511 bt1 bt2 r1 t1 hx hy hka hkb
                by_cases hxn : x < 0
                · have hyy : y = -1 := hmv.1 hxn
                  clear hmv
                  subst hyy
                  have hnx : ¬ 0 ≤ x := by omega
                  go_wp2_with fail
                  go_quiet (fail)
                  go_wp2_with fail
                  go_quiet (fail)
                  clear hw1
                  go_wp2
                  go_roundw
                  case rel => exact ⟨HC.out.drewN _, c + 1, by omega, by go_num⟩
                  case measure => simp [intOf]; omega
                · have hyy : y = x + B := hmv.2 (by omega)
                  have hyb : (y != x + (B : Int)) = false := by simp [hyy]
                  have hx0 : 0 ≤ x := by omega
                  have hx6 : x ≤ 600 := by omega
                  clear hmv hyy
                  go_wp2_with fail
                  go_quiet (fail)
                  go_wp2_with fail
                  go_quiet (fail)
                  clear hw1
                  go_wp2
                  go_roundw
                  case rel => exact ⟨HC.out.drewN _, c + 1, by omega, by go_num⟩
                  case measure => simp [intOf]; omega
              · obtain rfl : c = 256 := by omega
                have HC := Lib.hid hx11
                clear hx11 hltc hc
                go_wp2
                go_roundw
                case rel => exact ⟨HC.out, s + 1, by omega, by go_num⟩
                case measure => simp [intOf]; omega
          · obtain rfl : n' = s := by omega
            have HS := Lib.hid hx9
            clear hx9 hlts hs
            go_wp2
            go_roundw
            case rel => exact ⟨HP.out.2.2.2.1.trans HS.out, m + 1, by omega, by go_num, by rw [baseOf_succ HD.out.1, ← HD.out.2.2.2.2.1, ← baseOf_one, ← HT'.out.1]; go_num⟩
            case measure => simp [intOf]; omega
      · obtain rfl : L = m := by omega
        have hall : l.take L = l := by rw [H.out.2.2.2]; exact List.take_length
        rw [hall, ← HT.out.1]
        have k3 := hx6.cell HQ.out.2.2.1
        have HM := Lib.hid hx6
        have hnn : ((n : Int) == (n : Int)) = true := by simp
        clear hx6 hall hltm hm
        go_wp2_with fail
        refine (wakes15_c _).mono ?_
        rintro e w9 ⟨rfl, hx9⟩
        have HX9 := Lib.hid (HQ.out.2.2.2.2.2.trans (HM.out.trans hx9))
        clear hx9
        go_wp2
        go_ret
        exact ⟨rfl, HX9.out⟩
  · rw [lmayB_false hl] at hmay
    have H := Lib.hid hmay
    clear h hmay hl
    go_enter Tryd.func5, Tryd.ntmps5
    go_wp2_with fail
    refine H.out.mono ?_
    rintro e w1 ⟨rfl, hx1⟩
    go_wp2_with fail
    refine (wakes15_c w1).mono ?_
    rintro e w2 ⟨rfl, hx2⟩
    have HX := Lib.hid (hx1.trans hx2)
    clear hx1 hx2
    go_wp2
    go_ret
    exact ⟨rfl, HX.out⟩
end Go.Proofs.YtngbaaiocoobdaaDoor
