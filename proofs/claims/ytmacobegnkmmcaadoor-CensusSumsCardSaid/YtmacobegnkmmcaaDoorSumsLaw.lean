/- bolterlaw14.with, CensusSums. -/
import Derived.Test.YtmacobegnkmmcaaDoorLeastD
import Derived.Test.YtmacobegnkmmcaaDoorClassMath
import Derived.Test.YtmacobegnkmmcaaDoorSumsMath
import Derived.Test.YtmacobegnkmmcaaDoorEqDense
import Derived.Test.YtmacobegnkmmcaaDoorCount
import Derived.Test.YtmacobegnkmmcaaDoorCopyRows
import Derived.Test.YtmacobegnkmmcaaDoorMay
import Derived.Test.YtmacobegnkmmcaaDoorLeast
import Derived.Test.YtmacobegnkmmcaaDoorDenseForm
namespace Go.Proofs.YtmacobegnkmmcaaDoor
open Go.RowKit

def Wakes14P : Prop := ∀ w : World, Calls Tryd.prog 26 #[] w fun e w' => e = .returned (.bool true) ∧ Ext w w'

/-- a label, put behind if it is not there -/
noncomputable def withL (ls : List Int) (n : Int) : List Int := @ite _ (n ∈ ls) (Classical.propDecidable _) ls (ls ++ [n])
theorem withL_in {ls : List Int} {n : Int} (h : n ∈ ls) : withL ls n = ls := if_pos h
theorem withL_new {ls : List Int} {n : Int} (h : n ∉ ls) : withL ls n = ls ++ [n] := if_neg h

/-- the labels of the first i states -/
noncomputable def labsTo (d : Dn) : Nat → List Int
  | 0 => []
  | i + 1 => withL (labsTo d i) (d.lb i)
theorem labsTo_len (d : Dn) : ∀ i, (labsTo d i).length ≤ i
  | 0 => Nat.le_refl _
  | i + 1 => by
    have h := labsTo_len d i
    by_cases e : d.lb i ∈ labsTo d i
    · rw [labsTo, withL_in e]; omega
    · rw [labsTo, withL_new e, List.length_append, List.length_singleton]; omega
theorem labsTo_nodup (d : Dn) : ∀ i, (labsTo d i).Nodup
  | 0 => by simp [labsTo]
  | i + 1 => by
    have h := labsTo_nodup d i
    by_cases e : d.lb i ∈ labsTo d i
    · rw [labsTo, withL_in e]; exact h
    · rw [labsTo, withL_new e]
      exact List.nodup_append.2 ⟨h, by simp, fun a ha b hb hab => by rw [List.mem_singleton] at hb; subst hb; subst hab; exact e ha⟩
theorem labsTo_mem (d : Dn) : ∀ i s, s < i → d.lb s ∈ labsTo d i
  | 0, s, h => by omega
  | i + 1, s, h => by
    by_cases e : d.lb i ∈ labsTo d i
    · rw [labsTo, withL_in e]
      by_cases e2 : s = i
      · subst e2; exact e
      · exact labsTo_mem d i s (by omega)
    · rw [labsTo, withL_new e, List.mem_append]
      by_cases e2 : s = i
      · subst e2; right; simp
      · left; exact labsTo_mem d i s (by omega)
theorem labsTo_from (d : Dn) : ∀ i x, x ∈ labsTo d i → ∃ s, s < i ∧ x = d.lb s
  | 0, x, h => by simp [labsTo] at h
  | i + 1, x, h => by
    by_cases e : d.lb i ∈ labsTo d i
    · rw [labsTo, withL_in e] at h
      obtain ⟨s, hs, hx⟩ := labsTo_from d i x h
      exact ⟨s, by omega, hx⟩
    · rw [labsTo, withL_new e, List.mem_append, List.mem_singleton] at h
      rcases h with h | h
      · obtain ⟨s, hs, hx⟩ := labsTo_from d i x h
        exact ⟨s, by omega, hx⟩
      · exact ⟨i, by omega, h⟩

def WithR (w : World) (B : Nat) (ls : List Int) (n : Int) (e : Ending) (w' : World) : Prop :=
  ∃ v', e = .returned v' ∧ w'.ownsRow B 3 1 v' (withL ls n).length (intsV (withL ls n)) ∧ (∀ w0 : World, w0.heap.size ≤ B → Ext w0 w → Ext w0 w')

set_option maxRecDepth 100000 in
set_option maxHeartbeats 1000000 in
theorem with_c {w : World} {B : Nat} {lv : Value} {ls : List Int} (n : Int) (hown : w.ownsRow B 3 1 lv ls.length (intsV ls)) (hB : B ≤ w.heap.size) (hlen : ls.length ≤ 1000) :
    Calls Tryd.prog 27 #[lv, .int .i64 n] w (WithR w B ls n) := by
  obtain ⟨a, cap, rfl, _, hc, hcell⟩ := own_read hown
  obtain ⟨L, hL⟩ : ∃ L, L = ls.length := ⟨_, rfl⟩
  rw [← hL] at hown hcell hlen ⊢
  have H := Lib.hid (And.intro hown (And.intro hcell (And.intro hL hB)))
  clear hcell hL hc
  go_enter Tryd.func27, Tryd.ntmps27
  go_wp2
  go_loopw [5] (fun kv wr => wr = w ∧ ∃ k : Nat, k ≤ L ∧ kv = .int .i64 k ∧ ∀ j, j < k → ls.getD j 0 ≠ n) (fun kv _ => L - (intOf kv).toNat)
  case atStart => exact ⟨rfl, 0, Nat.zero_le _, rfl, fun j hj => by omega⟩
  case round =>
    obtain ⟨rfl, k, hk, rfl, hne⟩ := hrel
    by_cases hlt : k < L
    · obtain ⟨g, rfl, _, hg⟩ := H.out.2.1 (by omega)
      have c1 := hg k hlt
      have hk2 : k < ls.length := by rw [← H.out.2.2.1]; exact hlt
      rw [List.getElem?_map, List.getElem?_eq_getElem hk2] at c1
      obtain ⟨x, hx⟩ : ∃ x, x = ls[k] := ⟨_, rfl⟩
      replace c1 : wr.cell? ⟨g, k, none⟩ = some (.int .i64 x) := by rw [hx]; exact c1
      have hgx : ls.getD k 0 = x := by rw [List.getD_eq_getElem?_getD, List.getElem?_eq_getElem hk2, hx]; rfl
      have hxm : x ∈ ls := by rw [hx]; exact List.getElem_mem hk2
      have hj1 : (k : Int) < L := by omega
      have HX := Lib.hid (And.intro hgx (And.intro hxm hne))
      clear hx hgx hxm hne hg
      by_cases e : x = n
      · have e' : ((x : Int) == n) = true := by simp [e]
        have HE := Lib.hid e
        clear e
        go_wp2
        go_ret
        exact ⟨_, rfl, by rw [withL_in (by rw [← HE.out]; exact HX.out.2.1), ← H.out.2.2.1]; exact H.out.1, fun _ _ h => h⟩
      · have e' : ((x : Int) == n) = false := by simp [e]
        have HE := Lib.hid e
        clear e
        go_wp2
        go_roundw
        case rel => exact ⟨trivial, k + 1, by omega, by go_num, fun j hj => by
          by_cases e : j = k
          · subst e; rw [HX.out.1]; exact HE.out
          · exact HX.out.2.2 j (by omega)⟩
        case measure => simp [intOf]; omega
    · obtain rfl : L = k := by omega
      have hno : n ∉ ls := by
        intro h
        obtain ⟨j, hj, he⟩ := List.getElem_of_mem h
        exact hne j (by rw [H.out.2.2.1]; exact hj) (by rw [List.getD_eq_getElem?_getD, List.getElem?_eq_getElem hj, he]; rfl)
      obtain ⟨i0, hi, hz0, hz1, hz2⟩ := info_parts int_info
      have hown := H.out.1.alloc (.cells #[.int .i64 n] 3)
      have hcell := cell_one_new wr (.int .i64 n) 3
      have h1c : ∀ u ∈ [Value.int .i64 n], u.oneCell' = true := by intro u hu; simp at hu; subst hu; rfl
      have hbase : B ≤ (wr.alloc (.cells #[.int .i64 n] 3)).heap.size := by have := H.out.2.2.2; simp; omega
      have hmax : L + 1 ≤ maxLen := by unfold maxLen; omega
      have HN := Lib.hid hno
      clear hne hno hlt
      go_wp2_with (at_builtin; refine wpList_append_own_at _ rfl _ _ 23 rfl B 3 i0 (.int .i64 0) 1 8 Tryd.underlying23 hi hz0 hz1 hz2 rfl (by decide) _ _ _ rfl hown ⟨wr.heap.size, 0, none⟩ 1 1 [.int .i64 n] rfl rfl hcell h1c hmax (by omega) hbase ?_; intro v' W hown' hg _ hat)
      go_ret
      refine ⟨_, rfl, ?_, fun w0 h0 hx => Below.grown (hx.trans (Ext.box wr _)) hg (Nat.le_trans h0 hbase) (fun g e => Nat.le_trans h0 (H.out.1.lt g e).1)⟩
      rw [withL_new HN.out, List.length_append, List.length_singleton, ← H.out.2.2.1, show intsV (ls ++ [n]) = intsV ls ++ [.int .i64 n] by simp [intsV]]
      exact hown'

set_option maxRecDepth 100000 in
set_option maxHeartbeats 1000000 in
theorem sums_skip (hwk : Wakes14P) {v : Value} {d : Dn} {w : World} (h : DenseV w v d) (hno : ¬ (d.next.length ≤ 40 ∧ May d)) :
    Calls Tryd.prog 8 #[v] w fun e w' => e = .returned (.bool true) ∧ Ext w w' := by
  obtain ⟨an, cn, al, cl, rfl, ho⟩ := h.open
  have hn := ho.n
  obtain ⟨n, hnn⟩ : ∃ n, n = d.next.length := ⟨_, rfl⟩
  rw [← hnn] at hn hno h ⊢
  have H := Lib.hid h
  clear hnn ho
  by_cases h40 : 40 < n
  · have h40' : (40 : Int) < n := by omega
    go_enter Tryd.func8, Tryd.ntmps8
    go_wp2_with fail
    refine (hwk _).mono ?_
    rintro e w1 ⟨rfl, hx1⟩
    go_wp2
    go_ret
    exact ⟨rfl, (Ext.box _ _).trans hx1⟩
  · have h40' : ¬ (40 : Int) < n := by omega
    have hm : ¬ May d := fun hm => hno ⟨by omega, hm⟩
    have hmb := mayB_false hm
    clear hno h hm
    go_enter Tryd.func8, Tryd.ntmps8
    go_wp2_with fail
    refine (may_c (H.out.ext (Ext.box _ _))).mono ?_
    rintro e w1 ⟨rfl, hx1⟩
    go_wp2_with fail
    refine (hwk _).mono ?_
    rintro e w2 ⟨rfl, hx2⟩
    go_wp2
    go_ret
    exact ⟨rfl, ((Ext.box _ _).trans hx1).trans hx2⟩

/-- all words of n bytes, as the law reckons them -/
def allV (n : Nat) : Nat := if n < 8 then 256 ^ n else 0
theorem allV_le (n : Nat) (h : n < 8) : 256 ^ n ≤ 72057594037927936 := by
  match n, h with
  | 0, _ => decide
  | 1, _ => decide
  | 2, _ => decide
  | 3, _ => decide
  | 4, _ => decide
  | 5, _ => decide
  | 6, _ => decide
  | 7, _ => decide
theorem allV_step (n : Nat) (h : n < 8) : IntKind.u64.wrap ((allV n : Int) * 256) = (allV (n + 1) : Nat) := by
  match n, h with
  | 0, _ => decide
  | 1, _ => decide
  | 2, _ => decide
  | 3, _ => decide
  | 4, _ => decide
  | 5, _ => decide
  | 6, _ => decide
  | 7, _ => decide

theorem addUp_take_le (f : Int → Nat) : ∀ (ls : List Int) (i : Nat), addUp f (ls.take i) ≤ addUp f ls
  | [], i => by simp
  | x :: ls, 0 => by simp [addUp]
  | x :: ls, i + 1 => by
    have h := addUp_take_le f ls i
    simp only [List.take_succ_cons, addUp]; omega

set_option maxRecDepth 100000 in
set_option maxHeartbeats 4000000 in
theorem sums_go (hwk : Wakes14P) {v : Value} {d : Dn} {w : World} (h : DenseV w v d) (h40 : d.next.length ≤ 40) (hm : May d) :
    Calls Tryd.prog 8 #[v] w fun e w' => e = .returned (.bool true) ∧ Ext w w' := by
  have HM := Lib.hid hm
  have hmb := mayB_true.2 hm
  have H := Lib.hid h
  obtain ⟨bn, on, cn, bl, ol, cl, rfl, hc⟩ := h.cells hm
  obtain ⟨N, hN⟩ : ∃ N, N = d.next.length := ⟨_, rfl⟩
  have hpos : 0 < N := by rw [hN]; exact hm.pos
  rw [← hN] at h40 H ⊢
  have HN := Lib.hid (And.intro hN hc)
  have h40' : ¬ (40 : Int) < N := by omega
  obtain ⟨O, hO⟩ : ∃ O, O = (Obj.cells #[.slice (some ⟨bn, on, none⟩) N cn, .slice (some ⟨bl, ol, none⟩) N cl] 25) := ⟨_, rfl⟩
  have hb : ∀ W, Ext (w.alloc O) W → W.cell? ⟨w.heap.size, 0, none⟩ = some (.slice (some ⟨bn, on, none⟩) N cn) ∧ W.cell? ⟨w.heap.size, 1, none⟩ = some (.slice (some ⟨bl, ol, none⟩) N cl) := by
    intro W hx
    subst hO
    exact ⟨hx.cell (by simp), hx.cell (by simp)⟩
  have HB := Lib.hid hb
  have HO := Lib.hid hO
  clear h hm hN hO hb hc
  go_enter Tryd.func8, Tryd.ntmps8
  go_wp2_with fail
  rw [← HO.out]
  refine (may_c (H.out.ext (Ext.box _ _))).mono ?_
  rintro e w1 ⟨rfl, hx1⟩
  rw [hmb]
  obtain ⟨k0, k1⟩ := HB.out _ hx1
  go_wp2_with fail
  refine (least_c (H.out.ext ((Ext.box w O).trans hx1)) HM.out).mono ?_
  rintro e w2 ⟨v2, P, rfl, hTP, hdl, hx2, _⟩
  have hdl : DenseV w2 v2 (leastD d P) := hdl
  have hml := leastD_may HM.out P
  obtain ⟨a2, c2, b2, e2, rfl⟩ := hdl.form
  obtain ⟨n2, hn2⟩ : ∃ n, n = (leastD d P).next.length := ⟨_, rfl⟩
  obtain ⟨m2, hm2⟩ : ∃ n, n = (leastD d P).label.length := ⟨_, rfl⟩
  rw [← hn2, ← hm2] at hdl ⊢
  have hxb : Ext w2 (w2.alloc (.cells #[.slice a2 n2 c2, .slice b2 m2 e2] 25)) := Ext.box _ _
  have q0 : (w2.alloc (.cells #[.slice a2 n2 c2, .slice b2 m2 e2] 25)).cell? ⟨w2.heap.size, 0, none⟩ = some (.slice a2 n2 c2) := by simp
  have q1 : (w2.alloc (.cells #[.slice a2 n2 c2, .slice b2 m2 e2] 25)).cell? ⟨w2.heap.size, 1, none⟩ = some (.slice b2 m2 e2) := by simp
  have HL := Lib.hid (And.intro hml (And.intro hTP (And.intro hdl (hx1.trans hx2))))
  clear hml hTP hdl hx1 hx2 k0 k1 hn2 hm2
  obtain ⟨w3, hw3⟩ : ∃ w3, w3 = w2.alloc (.cells #[.slice a2 n2 c2, .slice b2 m2 e2] 25) := ⟨_, rfl⟩
  rw [← hw3] at hxb q0 q1
  go_upto_region 8 with fail
  rw [← hw3]
  have HQ := Lib.hid (And.intro q0 (And.intro q1 hxb))
  clear q0 q1 hxb hw3
  go_loopw [5, 6] (fun fv iv wr => ∃ i : Nat, i ≤ N ∧ iv = .int .i64 i ∧ wr.ownsRow w3.heap.size 3 1 fv (labsTo d i).length (intsV (labsTo d i)) ∧ Ext w3 wr) (fun _ iv _ => N - (intOf iv).toNat)
  case atStart => exact ⟨0, Nat.zero_le _, rfl, World.ownsRow_nil _ _ _ _, Ext.refl _⟩
  case round =>
    obtain ⟨i, hi, rfl, hown, hx⟩ := hrel
    have hw : Ext (w.alloc O) wr := HL.out.2.2.2.trans (HQ.out.2.2.trans hx)
    obtain ⟨k0, k1⟩ := HB.out _ hw
    by_cases hlt : i < N
    · have cl0 := ((Ext.box w O).trans hw).cell (HN.out.2.label i (by rw [← HN.out.1]; exact hlt))
      obtain ⟨x, hxx⟩ : ∃ x, x = d.lb i := ⟨_, rfl⟩
      rw [← hxx] at cl0
      have hj1 : (i : Int) < N := by omega
      have hc := with_c x hown hx.size (by have := labsTo_len d i; omega)
      have HC := Lib.hid (And.intro hc (And.intro hxx hx))
      clear hc hxx hx hown hw
      go_wp2_with fail
      refine HC.out.1.mono ?_
      rintro e w4 ⟨v4, rfl, hown4, hx4⟩
      have hx5 := hx4 w3 (Nat.le_refl _) HC.out.2.2
      rw [HC.out.2.1] at hown4
      have H4 := Lib.hid (And.intro hown4 hx5)
      clear hown4 hx4 hx5 cl0 k0 k1
      go_wp2
      go_roundw
      case rel => exact ⟨i + 1, by omega, by go_num, H4.out.1, H4.out.2⟩
      case measure => simp [intOf]; omega
    · obtain rfl : N = i := by omega
      obtain ⟨al, ca, hfv, _, hca, hcell⟩ := own_read hown
      subst hfv
      have hll := labsTo_len d N
      have hnd := labsTo_nodup d N
      have hmem := labsTo_mem d N
      have hfrom := labsTo_from d N
      obtain ⟨ls, hls⟩ : ∃ ls, ls = labsTo d N := ⟨_, rfl⟩
      rw [← hls] at hcell hll hnd hmem hfrom ⊢
      obtain ⟨L, hL⟩ : ∃ L, L = ls.length := ⟨_, rfl⟩
      rw [← hL] at hcell hll ⊢
      have HS := Lib.hid (And.intro hL (And.intro hcell (And.intro hnd (And.intro hmem (And.intro hfrom hx)))))
      clear hL hcell hnd hmem hfrom hx hls hown hca hlt hw
      rename World => w6
      go_wp2
      clear k0 k1
      go_loopw [7, 8] (fun av nv wi => ∃ n : Nat, n ≤ 8 ∧ nv = .int .i64 n ∧ av = .int .u64 (allV n : Nat) ∧ Ext w6 wi) (fun _ nv _ => 8 - (intOf nv).toNat)
      case atStart => exact ⟨0, Nat.zero_le _, rfl, rfl, Ext.refl _⟩
      case round =>
        obtain ⟨n, hn, rfl, rfl, hx⟩ := hrel
        by_cases hlt8 : n < 8
        · have HX := Lib.hid hx
          clear hx
          obtain ⟨av, hav⟩ : ∃ av, av = allV n := ⟨_, rfl⟩
          rw [← hav]
          have HAV := Lib.hid hav
          clear hav
          go_wp2
          go_loopw [9, 10] (fun sv iv wi => ∃ i : Nat, i ≤ L ∧ iv = .int .i64 i ∧ sv = .int .u64 (addUp (fun l => d.ways l n 0) (ls.take i) : Nat) ∧ Ext w6 wi) (fun _ iv _ => L - (intOf iv).toNat)
          case atStart => exact ⟨0, Nat.zero_le _, rfl, rfl, HX.out⟩
          case round =>
            obtain ⟨i, hi, rfl, rfl, hx⟩ := hrel
            have hsum : addUp (fun l => d.ways l n 0) ls = 256 ^ n := ways_all HM.out HS.out.2.2.1 (fun s hs => HS.out.2.2.2.1 s (by rw [HN.out.1]; exact hs)) n 0 HM.out.pos
            by_cases hlti : i < L
            · have hil : i < ls.length := by rw [← HS.out.1]; exact hlti
              obtain ⟨g, rfl, _, hg⟩ := HS.out.2.1 (by omega)
              have c1 := hg i hlti
              rw [List.getElem?_map, List.getElem?_eq_getElem hil] at c1
              obtain ⟨x, hxx⟩ : ∃ x, x = ls[i] := ⟨_, rfl⟩
              replace c1 : w6.cell? ⟨g, i, none⟩ = some (.int .i64 x) := by rw [hxx]; exact c1
              have hlx : -1 ≤ x := by
                obtain ⟨s, hs, he⟩ := HS.out.2.2.2.2.1 x (by rw [hxx]; exact List.getElem_mem hil)
                rw [he]
                exact (HM.out.label s (by rw [← HN.out.1]; exact hs)).1
              have htk : ls.take (i + 1) = ls.take i ++ [x] := take_snoc' (by rw [List.getElem?_eq_getElem hil, hxx])
              have hstep : addUp (fun l => d.ways l n 0) (ls.take (i + 1)) = addUp (fun l => d.ways l n 0) (ls.take i) + d.ways x n 0 := by rw [htk, addUp_snoc]
              have hle := addUp_take_le (fun l => d.ways l n 0) ls (i + 1)
              have hpow := allV_le n hlt8
              rw [hsum, hstep] at hle
              have heq : (leastD d P).ways x n 0 = d.ways x n 0 := ways_xeq (A := (leastD d P).aut) (B := d.aut) n 0 0 (leastD_xeq0 HM.out HL.out.2.1)
              obtain ⟨y, hy⟩ : ∃ y, y = d.ways x n 0 := ⟨_, rfl⟩
              obtain ⟨sm, hsm⟩ : ∃ sm, sm = addUp (fun l => d.ways l n 0) (ls.take i) := ⟨_, rfl⟩
              rw [← hy, ← hsm] at hle
              rw [← hy] at heq
              rw [← hsm]
              have hsn : sn y = y ∧ so y = false := ⟨by unfold sn; rw [if_pos (by omega)], by unfold so; simp; omega⟩
              have hwr : Ext (w.alloc O) wr := HL.out.2.2.2.trans (HQ.out.2.2.trans (HS.out.2.2.2.2.2.trans hx))
              obtain ⟨k0, k1⟩ := HB.out _ hwr
              have hw3 : Ext w3 wr := HS.out.2.2.2.2.2.trans hx
              have q0 := hw3.cell HQ.out.1
              have q1 := hw3.cell HQ.out.2.1
              replace c1 := hx.cell c1
              have hd1 := H.out.ext ((Ext.box w O).trans hwr)
              have hd2 := HL.out.2.2.1.ext (HQ.out.2.2.trans hw3)
              have f1 : ∀ z, Calls Tryd.prog 28 #[.agg #[.slice (some ⟨bn, on, none⟩) N cn, .slice (some ⟨bl, ol, none⟩) N cl], .int .i64 x, .int .i64 (n : Int)] (growW wr z) fun e w' => e = .returned (.tuple #[.int .u64 (y : Int), .bool true, .nilIface]) ∧ Ext (growW wr z) w' := fun z => by
                have h := count_c (label := x) (n := n) (hd1.ext (grow_ext wr z)) HM.out hlx (by omega)
                rw [← hy, hsn.1, hsn.2] at h; exact h
              have f2 : ∀ W, Ext wr W → ∀ z, Calls Tryd.prog 28 #[.agg #[.slice a2 n2 c2, .slice b2 m2 e2], .int .i64 x, .int .i64 (n : Int)] (growW W z) fun e w' => e = .returned (.tuple #[.int .u64 (y : Int), .bool true, .nilIface]) ∧ Ext (growW W z) w' := fun W hW z => by
                have h := count_c (label := x) (n := n) ((hd2.ext hW).ext (grow_ext W z)) HL.out.1 hlx (by omega)
                rw [heq, hsn.1, hsn.2] at h; exact h
              have k0' := fun z => (grow_ext wr z).cell k0
              have k1' := fun z => (grow_ext wr z).cell k1
              have c1' := fun z => (grow_ext wr z).cell c1
              have hwrap : IntKind.u64.wrap ((sm : Int) + y) = ((sm + y : Nat) : Int) := (IntWalk.u64_in _ (by omega)).trans (by omega)
              have hne1 : ((y : Int) != (y : Int)) = false := by simp
              have hj1 : (i : Int) < L := by omega
              have HF := Lib.hid (And.intro f1 (And.intro f2 (And.intro hx (And.intro hstep (And.intro hy (And.intro hsm (And.intro q0 (And.intro q1 c1))))))))
              clear f1 f2 hx hstep hy hsm hd1 hd2 hwr hw3 htk heq hsn hsum hxx hg q0 q1 hpow
              go_upto_region 19 with fail
              refine wp_region_grow (by kernel_rfl) (by kernel_rfl) ?_
              repeat (go_big_quiet_step ((go_at_call 28; with_reducible exact calls_grow (HF.out.1 _))))
              refine wpQuiet_nil ?_
              rintro _ ⟨z, rfl⟩
              obtain ⟨W4, hW4⟩ : ∃ W4, W4 = growW wr z := ⟨_, rfl⟩
              have hx4 : Ext wr W4 := by rw [hW4]; exact grow_ext wr z
              rw [← hW4]
              clear hW4 k0' k1' c1' k0 k1 c1
              have q0' := fun z => (grow_ext W4 z).cell (hx4.cell HF.out.2.2.2.2.2.2.1)
              have q1' := fun z => (grow_ext W4 z).cell (hx4.cell HF.out.2.2.2.2.2.2.2.1)
              have c1' := fun z => (grow_ext W4 z).cell (hx4.cell HF.out.2.2.2.2.2.2.2.2)
              have HF2 := Lib.hid (And.intro (HF.out.2.1 W4 hx4) hx4)
              clear hx4
              go_upto_region 20 with fail
              refine wp_region_grow (by kernel_rfl) (by kernel_rfl) ?_
              repeat (go_big_quiet_step ((go_at_call 28; with_reducible exact calls_grow (HF2.out.1 _))))
              refine wpQuiet_nil ?_
              rintro _ ⟨z, rfl⟩
              have HX5 := Lib.hid (HF.out.2.2.1.trans (HF2.out.2.trans (grow_ext W4 z)))
              clear q0' q1' c1'
              go_wp2
              go_roundw
              case rel => exact ⟨i + 1, by omega, by go_num, by rw [HF.out.2.2.2.1, ← HF.out.2.2.2.2.1, ← HF.out.2.2.2.2.2.1, Int.natCast_add], HX5.out⟩
              case measure => simp [intOf]; omega
            · obtain rfl : L = i := by omega
              have hfull : ls.take L = ls := by rw [HS.out.1]; exact List.take_length
              rw [hfull, hsum]
              have hA : av = 256 ^ n := by rw [HAV.out]; exact if_pos hlt8
              rw [← hA]
              have hst := allV_step n hlt8
              rw [← HAV.out] at hst
              obtain ⟨a9, ha9⟩ : ∃ a, a = allV (n + 1) := ⟨_, rfl⟩
              rw [← ha9] at hst
              have hne : ((av : Int) != (av : Int)) = false := by simp
              have HX6 := Lib.hid (And.intro hx ha9)
              clear hx hfull hsum hA ha9
              go_wp2
              go_roundw
              case rel => exact ⟨n + 1, by omega, by go_num, by rw [HX6.out.2], HX6.out.1⟩
              case measure => simp [intOf]; omega
        · obtain rfl : n = 8 := by omega
          have HX := Lib.hid hx
          clear hx
          go_wp2_with fail
          refine (hwk _).mono ?_
          rintro e w5 ⟨rfl, hx5⟩
          go_wp2
          go_ret
          exact ⟨rfl, (Ext.box w O).trans (HL.out.2.2.2.trans (HQ.out.2.2.trans (HS.out.2.2.2.2.2.trans (HX.out.trans hx5))))⟩
end Go.Proofs.YtmacobegnkmmcaaDoor
