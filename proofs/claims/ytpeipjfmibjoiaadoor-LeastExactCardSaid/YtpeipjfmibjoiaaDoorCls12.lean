/- bolterref12.Classes: of an automaton that may be, and where it refuses. -/
import Derived.Test.YtpeipjfmibjoiaaDoorLeastMath
import Derived.Test.YtpeipjfmibjoiaaDoorLeastS
import Derived.Deep.LoopGhost
import Derived.Test.YtpeipjfmibjoiaaDoorGrow
import Derived.Test.YtpeipjfmibjoiaaDoorTell
import Derived.Test.YtpeipjfmibjoiaaDoorMay
import Derived.Test.YtpeipjfmibjoiaaDoorClasses
namespace Go.Proofs.YtpeipjfmibjoiaaDoor.LM

theorem firstLike_hit {R : Nat → Nat → Bool} (hE : EqvR R) {i k : Nat} (hk : k ≤ i) (h1 : R k i = true) (h2 : ∀ j, j < k → R j i = false) : firstLike R i = k := by
  have h3 := firstLike_least h1 hk
  have h4 := firstLike_like hE.refl i
  rcases Nat.lt_or_ge (firstLike R i) k with h | h
  · rw [h2 _ h] at h4; cases h4
  · omega
theorem firstLike_self {R : Nat → Nat → Bool} (hE : EqvR R) {i : Nat} (h2 : ∀ j, j < i → R j i = false) : firstLike R i = i := firstLike_hit hE (Nat.le_refl _) (hE.refl i) h2
/-- one that is not its own first need not be tried -/
theorem firstLike_no {R : Nat → Nat → Bool} (hE : EqvR R) {i k : Nat} (h : ¬ (firstLike R k = k ∧ R k i = true)) (h2 : ∀ j, j < k → R j i = false) : R k i = false := by
  cases h1 : R k i with
  | false => rfl
  | true =>
    exfalso
    have h3 := firstLike_le R k
    rcases Nat.lt_or_ge (firstLike R k) k with h4 | h4
    · have h5 := hE.trans _ _ _ (firstLike_like hE.refl k) h1
      rw [h2 _ h4] at h5; cases h5
    · exact h ⟨by omega, h1⟩
theorem lbR_eqv (A : Aut) : EqvR (fun k i => A.lb k == A.lb i) := ⟨by simp, by simp; intro i j h; exact h.symm, by simp; intro i j k h h'; exact h.trans h'⟩
theorem leader_fix {C : Nat → Nat} (hle : ∀ i, C i ≤ i) (hid : ∀ i, C (C i) = C i) (i : Nat) : leader C i = C i := by
  have h1 := leader_least C i (C i) (hid i)
  have h2 := leader_val C i
  have h3 := hle (leader C i)
  rw [h2] at h3
  omega

/- ---- each step to the class's least state: the same least automaton ---- -/

def autC (A : Aut) (C : Nat → Nat) : Aut := { n := A.n, nx := fun s c => C (A.nx s c), lb := A.lb }
theorem autC_ok {A : Aut} (hA : A.ok) {C : Nat → Nat} (hS : Split A C) : (autC A C).ok := ⟨hA.1, fun s c hs hc => Nat.lt_of_le_of_lt (hS.le _) (hA.2 s c hs hc)⟩
theorem autC_run {A : Aut} (hA : A.ok) {C : Nat → Nat} (hS : Split A C) (hT : Tells A C) : ∀ (w : List Nat) (s t : Nat), Bytes w → s < A.n → t < A.n → xeq A A s t → A.lb ((autC A C).run s w) = A.lb (A.run t w)
  | [], _, _, _, _, _, h => h.lb
  | c :: w, s, t, hw, hs, ht, h => by
    have hc := hw c (by simp)
    have h1 := hA.2 s c hs hc
    have h2 := hA.2 t c ht hc
    rw [Aut.run_cons, Aut.run_cons]
    refine autC_run hA hS hT w _ _ (fun x hx => hw x (List.mem_cons_of_mem _ hx)) (Nat.lt_of_le_of_lt (hS.le _) h1) h2 ?_
    exact ((hT _ _ (Nat.lt_of_le_of_lt (hS.le _) h1) h1).1 (hS.idem _)).trans (h.step hc)
theorem autC_xeq {A : Aut} (hA : A.ok) {C : Nat → Nat} (hS : Split A C) (hT : Tells A C) {s : Nat} (hs : s < A.n) : xeq (autC A C) A s s := fun w hw => autC_run hA hS hT w s s hw hs hs (xeq.refl A s)
theorem autC_tells {A : Aut} (hA : A.ok) {C : Nat → Nat} (hS : Split A C) (hT : Tells A C) : Tells (autC A C) C := fun s t hs ht =>
  ⟨fun e => (autC_xeq hA hS hT hs).trans (((hT s t hs ht).1 e).trans (autC_xeq hA hS hT ht).symm), fun e => (hT s t hs ht).2 ((autC_xeq hA hS hT hs).symm.trans (e.trans (autC_xeq hA hS hT ht)))⟩
theorem autC_least {A : Aut} (hA : A.ok) {C : Nat → Nat} (hS : Split A C) (hT : Tells A C) : least (autC A C) C = least A C :=
  least_eq (autC_ok hA hS) hA (autC_tells hA hS hT) hT (autC_xeq hA hS hT hA.1)

theorem addRep_fix {P : Nat → Nat} {l : List Nat} {t : Nat} (h : ∀ r ∈ l, P r = r) (ht : P t = t) : ∀ r ∈ addRep P l t, P r = r := by
  intro r hr
  unfold addRep at hr
  split at hr
  · exact h r hr
  · rcases List.mem_append.1 hr with hr | hr
    · exact h r hr
    · simp only [List.mem_singleton] at hr; subst hr; exact ht
theorem scan_fix {A : Aut} {C : Nat → Nat} (hS : Split A C) {l : List Nat} {s : Nat} (h : ∀ r ∈ l, C r = r) : ∀ m, ∀ r ∈ (scan (autC A C) C l s m).1, C r = r
  | 0 => h
  | m + 1 => addRep_fix (scan_fix hS h m) (hS.idem _)
theorem found_fix {A : Aut} {C : Nat → Nat} (hS : Split A C) : ∀ i, ∀ r ∈ (found (autC A C) C i).1, C r = r
  | 0 => fun r hr => by
    have e : r = 0 := by simpa [found] using hr
    have := hS.le 0
    subst e; omega
  | i + 1 => by
    have h := found_fix hS i
    intro r hr
    simp only [found] at hr
    split at hr
    · exact h r hr
    · exact scan_fix hS h _ r hr
/-- the search for a state that stands for its class -/
theorem idx_at {C : Nat → Nat} {l : List Nat} (h : ∀ r ∈ l, C r = r) {t k : Nat} (ht : C t = t) (hk : l[k]? = some t) (hn : ∀ j r, j < k → l[j]? = some r → r ≠ t) : idx C l t = k := by
  have hkl := (List.getElem?_eq_some_iff.1 hk).1
  have h1 : idx C l t < l.length := List.findIdx_lt_length_of_exists ⟨t, List.mem_of_getElem? hk, by simp⟩
  have h2 := idx_lt h1
  rw [h _ (List.getElem_mem h1), ht] at h2
  rcases Nat.lt_trichotomy (idx C l t) k with h3 | h3 | h3
  · exact absurd h2 (hn _ _ h3 (List.getElem?_eq_getElem h1))
  · exact h3
  · exfalso
    have h4 := List.not_of_lt_findIdx (p := fun r => C r == C t) (xs := l) h3
    have h5 : l[k]'hkl = t := by have := List.getElem?_eq_getElem hkl; rw [hk] at this; exact (Option.some.inj this).symm
    rw [h5] at h4; simp at h4
theorem idx_end {C : Nat → Nat} {l : List Nat} (h : ∀ r ∈ l, C r = r) {t : Nat} (ht : C t = t) (hn : ∀ j r, j < l.length → l[j]? = some r → r ≠ t) : idx C l t = l.length := by
  refine Nat.le_antisymm (idx_le _ _ _) (Nat.le_of_not_lt fun h1 => ?_)
  have h2 := idx_lt h1
  rw [h _ (List.getElem_mem h1), ht] at h2
  exact hn _ _ h1 (List.getElem?_eq_getElem h1) h2
end Go.Proofs.YtpeipjfmibjoiaaDoor.LM

namespace Go.Proofs.YtpeipjfmibjoiaaDoor
open Go.RowKit

set_option maxRecDepth 100000 in
set_option maxHeartbeats 2000000 in
theorem alike_c {w : World} {v : Value} {d : Dn} {C : Nat → Nat} {gc N i k : Nat} (h : DenseV w v d) (hm : May d) (hN : N = d.next.length) (hr : w.rowIs gc 3 N (fun j => .int .i64 (C j : Nat))) (hi : i < N) (hk : k < N) :
    Calls Tryd.prog 133 #[v, .slice (some ⟨gc, 0, none⟩) N N, .int .i64 (i : Int), .int .i64 (k : Int)] w fun e w' => e = .returned (.bool (LM.alikeB d.aut C i k)) ∧ Ext w w' := by
  obtain ⟨bn, on, cn, bl, ol, cl, rfl, hc⟩ := h.cells hm
  rw [← hN]
  obtain ⟨W, hW⟩ : ∃ W, W = w.alloc (.cells #[.slice (some ⟨bn, on, none⟩) N cn, .slice (some ⟨bl, ol, none⟩) N cl] 25) := ⟨_, rfl⟩
  have hx : Ext w W := by rw [hW]; exact Ext.box _ _
  have q0 : W.cell? ⟨w.heap.size, 0, none⟩ = some (.slice (some ⟨bn, on, none⟩) N cn) := by rw [hW]; simp
  obtain ⟨bi, oi, ci, ri, ei⟩ := hc.row i (by omega)
  obtain ⟨bk, ok, ck, rk, ek⟩ := hc.row k (by omega)
  have k1 := hx.cell ri
  have k2 := hx.cell rk
  have hN6 : N ≤ 600 := by rw [hN]; exact hm.most
  have hlt : ∀ s c, s < N → c < 256 → d.nx s c < N := fun s c hs hc => by rw [hN] at hs ⊢; exact hm.nx_lt hs hc
  have hci : (i : Int) < N := by omega
  have hck : (k : Int) < N := by omega
  have H := Lib.hid (And.intro hx (And.intro (fun c hc => hx.cell (ei c hc)) (And.intro (fun c hc => hx.cell (ek c hc)) (And.intro (rowIs_ext hx hr) (And.intro hlt (And.intro hi (And.intro hk hW)))))))
  clear hx ri rk ei ek hr hlt hi hk hW h hm hN hc
  go_enter Tryd.func133, Tryd.ntmps133
  go_wp2
  rw [← H.out.2.2.2.2.2.2.2]
  go_loopw [9] (fun cv wr => ∃ c : Nat, c ≤ 256 ∧ cv = .int .i64 c ∧ Ext W wr ∧ ∀ j, j < c → C (d.nx i j) = C (d.nx k j)) (fun cv _ => 256 - (intOf cv).toNat)
  case atStart => exact ⟨0, Nat.zero_le _, rfl, Ext.refl _, fun j hj => absurd hj (Nat.not_lt_zero _)⟩
  case round =>
    obtain ⟨c, hc, rfl, hxr, hall⟩ := hrel
    by_cases hlc : c < 256
    · have hj1 : (c : Int) < 256 := by omega
      have c1 := hxr.cell (H.out.2.1 c hlc)
      have c2 := hxr.cell (H.out.2.2.1 c hlc)
      have p0 := hxr.cell q0
      have p1 := hxr.cell k1
      have p2 := hxr.cell k2
      obtain ⟨x, hx⟩ : ∃ x, x = d.nx i c := ⟨_, rfl⟩
      obtain ⟨y, hy⟩ : ∃ y, y = d.nx k c := ⟨_, rfl⟩
      have hxN : x < N := by rw [hx]; exact H.out.2.2.2.2.1 i c H.out.2.2.2.2.2.1 hlc
      have hyN : y < N := by rw [hy]; exact H.out.2.2.2.2.1 k c H.out.2.2.2.2.2.2.1 hlc
      rw [← hx] at c1
      rw [← hy] at c2
      have e1 := hxr.cell (H.out.2.2.2.1.cell hxN)
      have e2 := hxr.cell (H.out.2.2.2.1.cell hyN)
      have hxN' : (x : Int) < N := by omega
      have hyN' : (y : Int) < N := by omega
      obtain ⟨cx, hcx⟩ : ∃ z, z = C x := ⟨_, rfl⟩
      obtain ⟨cy, hcy⟩ : ∃ z, z = C y := ⟨_, rfl⟩
      rw [← hcx] at e1
      rw [← hcy] at e2
      have HX := Lib.hid (And.intro hx (And.intro hy (And.intro hcx (And.intro hcy hall))))
      have HXR := Lib.hid hxr
      clear hx hy hcx hcy hall hxr
      by_cases he : cx = cy
      · have he' : ((cx : Int) != (cy : Int)) = false := by rw [he]; simp
        have HE := Lib.hid he
        clear he
        go_wp2_with fail
        go_quiet (fail)
        go_wp2
        go_roundw
        case rel => exact ⟨c + 1, by omega, by go_num, HXR.out.drewN _, fun j hj => by
          by_cases e : j = c
          · subst e
            rw [← HX.out.1, ← HX.out.2.1, ← HX.out.2.2.1, ← HX.out.2.2.2.1]; exact HE.out
          · exact HX.out.2.2.2.2 j (by omega)⟩
        case measure => simp [intOf]; omega
      · have he' : ((cx : Int) != (cy : Int)) = true := by rw [bne_iff_ne]; omega
        have HE := Lib.hid he
        clear he
        go_wp2_with fail
        go_quiet (fail)
        go_wp2
        go_ret
        refine ⟨ret_bool ?_, H.out.1.trans (HXR.out.drewN _)⟩
        cases hB : LM.alikeB d.aut C i k with
        | false => rfl
        | true =>
          exfalso
          have h1 := LM.alikeB_iff.1 hB c hlc
          refine HE.out ?_
          rw [HX.out.2.2.1, HX.out.2.2.2.1, HX.out.1, HX.out.2.1]; exact h1
    · obtain rfl : c = 256 := by omega
      have HA := Lib.hid (And.intro hall hxr)
      clear hall hxr
      go_wp2
      go_ret
      exact ⟨ret_bool (LM.alikeB_iff.2 HA.out.1).symm, H.out.1.trans HA.out.2⟩

/-- what split tells -/
def Split12R (d : Dn) (w : World) (e : Ending) (w' : World) : Prop :=
  ∃ (g : Nat) (C : Nat → Nat), e = .returned (.slice (some ⟨g, 0, none⟩) d.next.length d.next.length) ∧ w.heap.size ≤ g ∧ w'.rowIs g 3 d.next.length (fun j => .int .i64 (C j : Nat)) ∧ LM.Split d.aut C ∧ LM.Tells d.aut C ∧ Ext w w'

/-- a row that is being filled from below -/
def fillN (X : Nat → Nat) (i j : Nat) : Nat := if j < i then X j else 0
def fillS (X : Nat → Nat) (i j : Nat) : Nat := if j < i then X j else if j = i then i else 0
theorem fillS_at (X : Nat → Nat) (i : Nat) : fillS X i i = i := by unfold fillS; rw [if_neg (Nat.lt_irrefl _), if_pos rfl]
theorem fillS_lt {X : Nat → Nat} {i j : Nat} (h : j < i) : fillS X i j = X j := by unfold fillS; rw [if_pos h]
theorem fillS_set {X : Nat → Nat} {i j : Nat} : (if j = i then i else fillN X i j) = fillS X i j := by
  unfold fillN fillS
  by_cases e : j = i
  · subst e; rw [if_pos rfl, if_neg (Nat.lt_irrefl _), if_pos rfl]
  · rw [if_neg e, if_neg e]
theorem fillN_next {X : Nat → Nat} {i j y : Nat} (h : X i = y) : (if j = i then y else fillS X i j) = fillN X (i + 1) j := by
  unfold fillN fillS
  by_cases e : j = i
  · subst e; rw [if_pos rfl, if_pos (Nat.lt_succ_self _), h]
  · rw [if_neg e, if_neg e]
    by_cases e2 : j < i
    · rw [if_pos e2, if_pos (by omega)]
    · rw [if_neg e2, if_neg (by omega)]
theorem fillN_self {X : Nat → Nat} {i j : Nat} (h : X i = i) : fillS X i j = fillN X (i + 1) j := by
  rw [← fillN_next h]
  by_cases e : j = i
  · rw [if_pos e, e, fillS_at]
  · rw [if_neg e]
theorem fillN_all {X : Nat → Nat} {i j : Nat} (h : j < i) : fillN X i j = X j := by unfold fillN; rw [if_pos h]

set_option maxRecDepth 100000 in
set_option maxHeartbeats 8000000 in
theorem split12_c {w : World} {v : Value} {d : Dn} (h : DenseV w v d) (hm : May d) : Calls Tryd.prog 98 #[v] w (Split12R d w) := by
  have HD := Lib.hid (And.intro h hm)
  obtain ⟨bn, on, cn, bl, ol, cl, rfl, hc⟩ := h.cells hm
  obtain ⟨N, hN⟩ : ∃ N, N = d.next.length := ⟨_, rfl⟩
  have hpos : 0 < N := by rw [hN]; exact hm.pos
  have hN6 : N ≤ 600 := by rw [hN]; exact hm.most
  have hpost : Split12R d w = fun e w' => ∃ (g : Nat) (C : Nat → Nat), e = .returned (.slice (some ⟨g, 0, none⟩) N N) ∧ w.heap.size ≤ g ∧ w'.rowIs g 3 N (fun j => .int .i64 (C j : Nat)) ∧ LM.Split d.aut C ∧ LM.Tells d.aut C ∧ Ext w w' := by
    unfold Split12R; rw [hN]
  rw [hpost]
  clear hpost
  rw [← hN] at HD ⊢
  obtain ⟨W, hW⟩ : ∃ W, W = w.alloc (.cells #[.slice (some ⟨bn, on, none⟩) N cn, .slice (some ⟨bl, ol, none⟩) N cl] 25) := ⟨_, rfl⟩
  have hx : Ext w W := by rw [hW]; exact Ext.box _ _
  have q0 : W.cell? ⟨w.heap.size, 0, none⟩ = some (.slice (some ⟨bn, on, none⟩) N cn) := by rw [hW]; simp
  have q1 : W.cell? ⟨w.heap.size, 1, none⟩ = some (.slice (some ⟨bl, ol, none⟩) N cl) := by rw [hW]; simp
  have hmk := run_make_any (P := Tryd.prog) 23 3 (.int .i64 0) 1 8 Tryd.underlying23 int_info .i64 .i64 N (by omega) (by omega)
  obtain ⟨A, hA⟩ : ∃ A, A = d.aut := ⟨_, rfl⟩
  have hAn : A.n = N := by rw [hA, hN]; rfl
  have hAok : A.ok := by rw [hA]; exact hm.ok
  obtain ⟨L, hL⟩ : ∃ L : Nat → Nat, L = fun i => LM.firstLike (fun k i => A.lb k == A.lb i) i := ⟨_, rfl⟩
  have hLS : LM.Split A L := by rw [hL]; exact LM.Split.start A
  have hlab : ∀ s, s < N → W.cell? ⟨bl, ol + s, none⟩ = some (.int .i64 (A.lb s)) := fun s hs => by rw [hA]; exact hx.cell (hc.label s (by omega))
  have HQ := Lib.hid (And.intro q0 q1)
  have HL := Lib.hid (And.intro hL (And.intro hLS hlab))
  have HA := Lib.hid (And.intro hA (And.intro hAn hAok))
  have HX0 := Lib.hid (And.intro hx hW)
  have HN := Lib.hid hN
  clear h hm hc hN hx hL hLS hlab hA hAn hAok q0 hW
  go_enter Tryd.func98, Tryd.ntmps98
  go_wp2_with fail
  rw [← HX0.out.2]
  have hWs : W.heap.size = w.heap.size + 1 := by rw [HX0.out.2]; simp
  obtain ⟨g0, hg0'⟩ : ∃ g, g = w.heap.size + 1 := ⟨_, rfl⟩
  have hg0 : g0 = W.heap.size := by omega
  have hr0 := World.rowIs_made W (.int .i64 0) N 3
  rw [← hg0] at hr0
  have HG := Lib.hid (And.intro hg0 (hr0.congr (g := fun j => .int .i64 (fillN L 0 j : Nat)) fun j _ => by unfold fillN; rw [if_neg (Nat.not_lt_zero _)]; rfl))
  rw [← hg0']
  have HG0 := Lib.hid (show W.heap.size ≤ g0 by omega)
  clear hr0 hg0 hg0' hWs q1
  go_loopw [5] (fun iv wr => ∃ i : Nat, i ≤ N ∧ iv = .int .i64 i ∧ Ext W wr ∧ wr.rowIs g0 3 N (fun j => .int .i64 (fillN L i j : Nat))) (fun iv _ => N - (intOf iv).toNat)
  case atStart => exact ⟨0, Nat.zero_le _, rfl, Ext.box _ _, HG.out.2⟩
  case round =>
    obtain ⟨i, hi, rfl, hx, hr⟩ := hrel
    by_cases hlt : i < N
    · have hj1 : (i : Int) < N := by omega
      have c0 := hr.cell hlt
      have f0 := hr.frozen i
      have hg1 : W.heap.size ≤ g0 := by rw [HG.out.1]; exact Nat.le_refl _
      obtain ⟨W2, hW2⟩ : ∃ W2, W2 = wr.setCell ⟨g0, i, none⟩ (.int .i64 (i : Int)) := ⟨_, rfl⟩
      have hr2 : W2.rowIs g0 3 N (fun j => .int .i64 (fillS L i j : Nat)) := by
        rw [hW2]
        exact (hr.set i _).congr fun j _ => by
          show (if j = i then Value.int .i64 (i : Int) else .int .i64 (fillN L i j : Nat)) = _
          rw [← fillS_set]; split <;> rfl
      have hx2 : Ext W W2 := by rw [hW2]; exact hx.setCell hg1 _
      have HS := Lib.hid (And.intro hx2 (And.intro hr2 (And.intro hg1 hW2)))
      obtain ⟨y0, hy0⟩ : ∃ y, y = fillN L i i := ⟨_, rfl⟩
      rw [← hy0] at c0
      clear hr hx hr2 hx2 hg1 hW2 hy0
      go_wp2
      rw [← HS.out.2.2.2]
      clear c0 f0
      go_loopw [6] (fun kv wi => ∃ k : Nat, k ≤ i ∧ kv = .int .i64 k ∧ Ext W2 wi ∧ ∀ j, j < k → A.lb j ≠ A.lb i) (fun kv _ => i - (intOf kv).toNat)
      case atStart => exact ⟨0, Nat.zero_le _, rfl, Ext.refl _, fun j hj => absurd hj (Nat.not_lt_zero _)⟩
      case round =>
        rename World => wi
        obtain ⟨k, hk, rfl, hxi, hall⟩ := hrel
        have hxw := HS.out.1.trans hxi
        have hri := rowIs_ext hxi HS.out.2.1
        by_cases hlk : k < i
        · have hj2 : (k : Int) < i := by omega
          have hj3 : (k : Int) < N := by omega
          have q1 := hxw.cell HQ.out.2
          have e1 := hxw.cell (HL.out.2.2 k (by omega))
          have e2 := hxw.cell (HL.out.2.2 i hlt)
          have e3 := hri.cell (i := k) (by omega)
          have e4 := hri.cell (i := i) hlt
          have f4 := hri.frozen i
          rw [fillS_lt hlk] at e3
          rw [fillS_at] at e4
          obtain ⟨y, hy⟩ : ∃ y, y = L k := ⟨_, rfl⟩
          rw [← hy] at e3
          obtain ⟨a, ha⟩ : ∃ a, a = A.lb k := ⟨_, rfl⟩
          obtain ⟨b, hb⟩ : ∃ b, b = A.lb i := ⟨_, rfl⟩
          rw [← ha] at e1
          rw [← hb] at e2
          have HK := Lib.hid (And.intro hy (And.intro ha (And.intro hb (And.intro hall (And.intro hxi (And.intro hxw hri))))))
          clear hy ha hb hall hxi hxw hri
          by_cases hab : a = b
          · have hab' : (a == b) = true := by simpa using hab
            have HE := Lib.hid hab
            clear hab
            go_wp2_with fail
            go_quiet (fail)
            go_wp2
            go_roundw
            case rel =>
              refine ⟨i + 1, by omega, by go_num, (HK.out.2.2.2.2.2.1.drewN _).setCell HS.out.2.2.1 _, ((rowIs_ext ((Ext.refl _).drewN _) HK.out.2.2.2.2.2.2).set i _).congr fun j _ => ?_⟩
              have hLi : L i = y := by
                rw [HK.out.1, HL.out.1]
                have h1 := (LM.firstLike_eq_iff (LM.lbR_eqv A) (i := i) (j := k)).2 (by simp [← HK.out.2.1, ← HK.out.2.2.1, HE.out])
                exact h1
              show (if j = i then Value.int .i64 (y : Int) else .int .i64 (fillS L i j : Nat)) = _
              rw [← fillN_next hLi]; split <;> rfl
            case measure => simp [intOf]; omega
          · have hab' : (a == b) = false := by simpa using hab
            have HE := Lib.hid hab
            clear hab
            go_wp2_with fail
            go_quiet (fail)
            go_wp2
            go_roundw
            case rel => exact ⟨k + 1, by omega, by go_num, HK.out.2.2.2.2.1.drewN _, fun j hj => by
              by_cases e : j = k
              · subst e; rw [← HK.out.2.1, ← HK.out.2.2.1]; exact HE.out
              · exact HK.out.2.2.2.1 j (by omega)⟩
            case measure => simp [intOf]; omega
        · obtain rfl : i = k := by omega
          have HE := Lib.hid (And.intro hall (And.intro hxw hri))
          clear hall hxw hri hxi
          go_wp2
          go_roundw
          case rel =>
            refine ⟨i + 1, by omega, by go_num, HE.out.2.1, HE.out.2.2.congr fun j _ => ?_⟩
            have hLi : L i = i := by
              rw [HL.out.1]
              exact LM.firstLike_self (LM.lbR_eqv A) fun j hj => by simpa using HE.out.1 j hj
            rw [fillN_self hLi]
          case measure => simp [intOf]; omega
    · obtain rfl : N = i := by omega
      have hrL := hr.congr (g := fun j => .int .i64 (L j : Nat)) fun j hj => by rw [fillN_all hj]
      have HR := Lib.hid (And.intro hx hrL)
      clear hx hr hrL hlt hi
      go_wp2
      clear HG
      go_loopg [4] (N - LM.firsts L N) (fun g cv wr2 => ∃ (gc : Nat) (C : Nat → Nat), cv = .slice (some ⟨gc, 0, none⟩) N N ∧ W.heap.size ≤ gc ∧ Ext W wr2 ∧ wr2.rowIs gc 3 N (fun j => .int .i64 (C j : Nat)) ∧ LM.Split A C ∧ g = N - LM.firsts C N)
      case atStart => exact ⟨_, L, rfl, HG0.out, HR.out.1, HR.out.2, HL.out.2.1, rfl⟩
      case round =>
        clear HR
        rename World => w2
        obtain ⟨gc, C, rfl, hgc, hx, hrc, hS, hg⟩ := hrel
        obtain ⟨X, hX⟩ : ∃ X : Nat → Nat, X = LM.nextC A C := ⟨_, rfl⟩
        have HX := Lib.hid hX
        have HC0 := Lib.hid (And.intro hgc (And.intro hx (And.intro hrc (And.intro hS hg))))
        have hRE := LM.nextR_eqv A C
        clear hgc hx hrc hS hg hX
        go_wp2_with fail
        obtain ⟨gN, hgN⟩ : ∃ g, g = w2.heap.size := ⟨_, rfl⟩
        have hr0 := World.rowIs_made w2 (.int .i64 0) N 3
        rw [← hgN] at hr0
        have HG := Lib.hid (And.intro hgN (hr0.congr (g := fun j => .int .i64 (fillN X 0 j : Nat)) fun j _ => by unfold fillN; rw [if_neg (Nat.not_lt_zero _)]; rfl))
        rw [← hgN]
        clear hr0 hgN
        go_loopw [8, 9] (fun chv iv wi => ∃ (i : Nat) (ch : Bool), i ≤ N ∧ iv = .int .i64 i ∧ chv = .bool ch ∧ Ext w2 wi ∧ wi.rowIs gN 3 N (fun j => .int .i64 (fillN X i j : Nat)) ∧ (ch = false → ∀ j, j < i → X j = C j) ∧ (ch = true → ∃ j, j < N ∧ X j ≠ C j)) (fun _ iv _ => N - (intOf iv).toNat)
        case atStart => exact ⟨0, false, Nat.zero_le _, rfl, rfl, Ext.box _ _, HG.out.2, fun _ j hj => absurd hj (Nat.not_lt_zero _), fun h => by cases h⟩
        case round =>
          rename World => wi
          obtain ⟨i, ch, hi, rfl, rfl, hxi, hri, hch1, hch2⟩ := hrel
          by_cases hlt : i < N
          · have hj1 : (i : Int) < N := by omega
            have c0 := hri.cell hlt
            have f0 := hri.frozen i
            have hgg : w2.heap.size ≤ gN := by rw [HG.out.1]; exact Nat.le_refl _
            obtain ⟨W4, hW4⟩ : ∃ W4, W4 = wi.setCell ⟨gN, i, none⟩ (.int .i64 (i : Int)) := ⟨_, rfl⟩
            have hr4 : W4.rowIs gN 3 N (fun j => .int .i64 (fillS X i j : Nat)) := by
              rw [hW4]
              exact (hri.set i _).congr fun j _ => by
                show (if j = i then Value.int .i64 (i : Int) else .int .i64 (fillN X i j : Nat)) = _
                rw [← fillS_set]; split <;> rfl
            have hx4 : Ext w2 W4 := by rw [hW4]; exact hxi.setCell hgg _
            have HS4 := Lib.hid (And.intro hx4 (And.intro hr4 (And.intro hgg hW4)))
            have HCH := Lib.hid (And.intro hch1 hch2)
            obtain ⟨y0, hy0⟩ : ∃ y, y = fillN X i i := ⟨_, rfl⟩
            rw [← hy0] at c0
            clear hri hxi hr4 hx4 hgg hW4 hy0 hch1 hch2
            go_wp2
            rw [← HS4.out.2.2.2]
            clear c0 f0
            go_loopw [10] (fun kv wk => ∃ k : Nat, k ≤ i ∧ kv = .int .i64 k ∧ Ext W4 wk ∧ ∀ j, j < k → LM.nextR A C j i = false) (fun kv _ => i - (intOf kv).toNat)
            case atStart => exact ⟨0, Nat.zero_le _, rfl, Ext.refl _, fun j hj => absurd hj (Nat.not_lt_zero _)⟩
            case round =>
              rename World => wk
              obtain ⟨k, hk, rfl, hxk, hall⟩ := hrel
              by_cases hlk : k < i
              · have hj2 : (k : Int) < i := by omega
                have hj3 : (k : Int) < N := by omega
                have hxw := (HS4.out.1.trans hxk)
                have hxW := HC0.out.2.1.trans hxw
                have hrck := rowIs_ext hxw HC0.out.2.2.1
                have hrn := rowIs_ext hxk HS4.out.2.1
                have p0 := fun z => (hxW.trans (grow_ext wk z)).cell HQ.out.1
                have p1 := fun z => (hxW.trans (grow_ext wk z)).cell HQ.out.2
                have b1 := fun z => (grow_ext wk z).cell (hrck.cell (i := k) (by omega))
                have b2 := fun z => (grow_ext wk z).cell (hrck.cell (i := i) hlt)
                have b3 := fun z => (grow_ext wk z).cell (hrn.cell (i := k) (by omega))
                rw [fillS_lt hlk] at b3
                have hck := fun z => alike_c (C := C) (i := i) (k := k) (HD.out.1.ext ((HX0.out.1.trans hxW).trans (grow_ext wk z))) HD.out.2 HN.out (rowIs_ext (grow_ext wk z) hrck) hlt (by omega)
                obtain ⟨x, hx⟩ : ∃ x, x = X k := ⟨_, rfl⟩
                rw [← hx] at b3
                obtain ⟨a, ha⟩ : ∃ a, a = C k := ⟨_, rfl⟩
                obtain ⟨b, hb⟩ : ∃ b, b = C i := ⟨_, rfl⟩
                rw [← ha] at b1
                rw [← hb] at b2
                obtain ⟨q, hq⟩ : ∃ q, q = LM.alikeB d.aut C i k := ⟨_, rfl⟩
                rw [← hq] at hck
                have HC := Lib.hid hck
                have HK := Lib.hid (And.intro hxk hall)
                have HV := Lib.hid (And.intro hx (And.intro ha (And.intro hb hq)))
                clear hck hxk hall hx ha hb hq hxw hxW hrck hrn
                by_cases hab : a = b
                · have hab2 : ((a : Int) == (b : Int)) = true := by rw [hab]; simp
                  by_cases hxk' : x = k
                  · have hxk2 : ((x : Int) == (k : Int)) = true := by rw [hxk']; simp
                    have HE := Lib.hid (And.intro hab hxk')
                    clear hab hxk'
                    cases q
                    · go_wp2_with fail
                      refine wp_region_grow (by kernel_rfl) (by kernel_rfl) ?_
                      repeat (go_big_quiet_step ((go_at_call 133; with_reducible exact calls_grow (HC.out _))))
                      refine wpQuiet_nil ?_
                      rintro _ ⟨z, rfl⟩
                      obtain ⟨wz, hwz⟩ : ∃ W, W = growW wk z := ⟨_, rfl⟩
                      have hxz : Ext wk wz := by rw [hwz]; exact grow_ext wk z
                      rw [← hwz]
                      clear hwz b1 b2 b3 p0 p1
                      have HZ := Lib.hid (HK.out.1.trans hxz)
                      clear hxz
                      go_wp2
                      go_roundw
                      case rel => exact ⟨k + 1, by omega, by go_num, HZ.out, fun j hj => by
                        by_cases e : j = k
                        · subst e
                          exact LM.firstLike_no hRE (by show ¬ (LM.nextC A C j = j ∧ _); rw [← HX.out]; intro hh; have h9 := LM.alikeB_iff.2 (fun c hc => ((LM.nextR_iff.1 hh.2).2 c hc).symm); rw [HA.out.1, ← HV.out.2.2.2] at h9; cases h9) HK.out.2
                        · exact HK.out.2 j (by omega)⟩
                      case measure => simp [intOf]; omega
                    · go_wp2_with fail
                      refine wp_region_grow (by kernel_rfl) (by kernel_rfl) ?_
                      repeat (go_big_quiet_step ((go_at_call 133; with_reducible exact calls_grow (HC.out _))))
                      refine wpQuiet_nil ?_
                      rintro _ ⟨z, rfl⟩
                      obtain ⟨wz, hwz⟩ : ∃ W, W = growW wk z := ⟨_, rfl⟩
                      have hxz : Ext wk wz := by rw [hwz]; exact grow_ext wk z
                      rw [← hwz]
                      clear hwz b1 b2 b3 p0 p1
                      have hri := rowIs_ext ((HK.out.1).trans hxz) HS4.out.2.1
                      have f5 := hri.frozen i
                      have c5 := hri.cell (i := i) hlt
                      rw [fillS_at] at c5
                      have HZ := Lib.hid (And.intro ((HS4.out.1.trans HK.out.1).trans hxz) hri)
                      clear hxz hri
                      have hXi : X i = k := by
                        rw [HX.out]
                        refine LM.firstLike_hit hRE (by omega) (LM.nextR_iff.2 ⟨?_, fun c hc => ?_⟩) HK.out.2
                        · rw [← HV.out.2.1, ← HV.out.2.2.1]; exact HE.out.1
                        · have h9 := LM.alikeB_iff.1 (HV.out.2.2.2).symm c hc
                          rw [HA.out.1]; exact h9.symm
                      obtain ⟨W5, hW5⟩ : ∃ W5, W5 = wz.setCell ⟨gN, i, none⟩ (.int .i64 (k : Int)) := ⟨_, rfl⟩
                      have hr5 : W5.rowIs gN 3 N (fun j => .int .i64 (fillN X (i + 1) j : Nat)) := by
                        rw [hW5]
                        exact (HZ.out.2.set i _).congr fun j _ => by
                          show (if j = i then Value.int .i64 (k : Int) else .int .i64 (fillS X i j : Nat)) = _
                          rw [← fillN_next hXi]; split <;> rfl
                      have hx5 : Ext w2 W5 := by rw [hW5]; exact HZ.out.1.setCell HS4.out.2.2.1 _
                      have H5 := Lib.hid (And.intro hx5 hr5)
                      have HW5 := Lib.hid hW5
                      clear hx5 hr5 hW5 hXi
                      go_wp2_with fail
                      rw [← HW5.out]
                      clear c5 f5
                      have c6 := H5.out.2.cell (i := i) hlt
                      have c7 := (rowIs_ext H5.out.1 HC0.out.2.2.1).cell (i := i) hlt
                      rw [fillN_all (Nat.lt_succ_self i)] at c6
                      obtain ⟨x6, hx6⟩ : ∃ x, x = X i := ⟨_, rfl⟩
                      obtain ⟨y6, hy6⟩ : ∃ x, x = C i := ⟨_, rfl⟩
                      rw [← hx6] at c6
                      rw [← hy6] at c7
                      have HXY := Lib.hid (And.intro hx6 hy6)
                      clear hx6 hy6
                      cases ch
                      · by_cases hXC : x6 = y6
                        · have hXC' : ((x6 : Int) != (y6 : Int)) = false := by rw [hXC]; simp
                          have HE6 := Lib.hid hXC
                          clear hXC
                          go_wp2_with fail
                          go_quiet (fail)
                          go_wp2
                          go_roundw
                          case rel => exact ⟨i + 1, false, by omega, by go_num, rfl, H5.out.1.drewN _, rowIs_ext ((Ext.refl _).drewN _) H5.out.2, fun _ j hj => by
                            by_cases e : j = i
                            · subst e; rw [← HXY.out.1, ← HXY.out.2]; exact HE6.out
                            · exact HCH.out.1 trivial j (by omega), fun h => (by cases h)⟩
                          case measure => simp [intOf]; omega
                        · have hXC' : ((x6 : Int) != (y6 : Int)) = true := by rw [bne_iff_ne]; omega
                          have HE6 := Lib.hid hXC
                          clear hXC
                          go_wp2_with fail
                          go_quiet (fail)
                          go_wp2
                          go_roundw
                          case rel => exact ⟨i + 1, true, by omega, by go_num, rfl, H5.out.1.drewN _, rowIs_ext ((Ext.refl _).drewN _) H5.out.2, fun h => (by cases h), fun _ => ⟨i, hlt, by rw [← HXY.out.1, ← HXY.out.2]; exact HE6.out⟩⟩
                          case measure => simp [intOf]; omega
                      · go_wp2_with fail
                        go_quiet (fail)
                        go_wp2
                        go_roundw
                        case rel => exact ⟨i + 1, true, by omega, by go_num, rfl, H5.out.1.drewN _, rowIs_ext ((Ext.refl _).drewN _) H5.out.2, fun h => (by cases h), fun _ => HCH.out.2 trivial⟩
                        case measure => simp [intOf]; omega
                  · have hxk2 : ((x : Int) == (k : Int)) = false := by rw [beq_eq_false_iff_ne]; omega
                    have HE := Lib.hid hxk'
                    clear hab hxk'
                    go_wp2_with fail
                    refine wp_region_grow (by kernel_rfl) (by kernel_rfl) ?_
                    repeat (go_big_quiet_step ((go_at_call 133; with_reducible exact calls_grow (HC.out _))))
                    refine wpQuiet_nil ?_
                    rintro _ ⟨z, rfl⟩
                    obtain ⟨wz, hwz⟩ : ∃ W, W = growW wk z := ⟨_, rfl⟩
                    have hxz : Ext wk wz := by rw [hwz]; exact grow_ext wk z
                    rw [← hwz]
                    clear hwz b1 b2 b3 p0 p1
                    have HZ := Lib.hid (HK.out.1.trans hxz)
                    clear hxz
                    go_wp2
                    go_roundw
                    case rel => exact ⟨k + 1, by omega, by go_num, HZ.out, fun j hj => by
                      by_cases e : j = k
                      · subst e
                        exact LM.firstLike_no hRE (by show ¬ (LM.nextC A C j = j ∧ _); rw [← HX.out]; intro hh; exact HE.out (HV.out.1.trans hh.1)) HK.out.2
                      · exact HK.out.2 j (by omega)⟩
                    case measure => simp [intOf]; omega
                · have hab2 : ((a : Int) == (b : Int)) = false := by rw [beq_eq_false_iff_ne]; omega
                  have HE := Lib.hid hab
                  clear hab
                  go_wp2_with fail
                  refine wp_region_grow (by kernel_rfl) (by kernel_rfl) ?_
                  repeat (go_big_quiet_step ((go_at_call 133; with_reducible exact calls_grow (HC.out _))))
                  refine wpQuiet_nil ?_
                  rintro _ ⟨z, rfl⟩
                  obtain ⟨wz, hwz⟩ : ∃ W, W = growW wk z := ⟨_, rfl⟩
                  have hxz : Ext wk wz := by rw [hwz]; exact grow_ext wk z
                  rw [← hwz]
                  clear hwz b1 b2 b3 p0 p1
                  have HZ := Lib.hid (HK.out.1.trans hxz)
                  clear hxz
                  go_wp2
                  go_roundw
                  case rel => exact ⟨k + 1, by omega, by go_num, HZ.out, fun j hj => by
                    by_cases e : j = k
                    · subst e
                      exact LM.firstLike_no hRE (by show ¬ (LM.nextC A C j = j ∧ _); rw [← HX.out]; intro hh; exact HE.out (by rw [HV.out.2.1, HV.out.2.2.1]; exact (LM.nextR_iff.1 hh.2).1)) HK.out.2
                    · exact HK.out.2 j (by omega)⟩
                  case measure => simp [intOf]; omega
              · obtain rfl : i = k := by omega
                have hXi : X i = i := by
                  rw [HX.out]
                  exact LM.firstLike_self hRE hall
                have hr5 : wk.rowIs gN 3 N (fun j => .int .i64 (fillN X (i + 1) j : Nat)) := (rowIs_ext hxk HS4.out.2.1).congr fun j _ => by rw [fillN_self hXi]
                have H5 := Lib.hid (And.intro (HS4.out.1.trans hxk) hr5)
                clear hxk hall hXi hr5
                go_wp2_with fail
                have c6 := H5.out.2.cell (i := i) hlt
                have c7 := (rowIs_ext H5.out.1 HC0.out.2.2.1).cell (i := i) hlt
                rw [fillN_all (Nat.lt_succ_self i)] at c6
                obtain ⟨x6, hx6⟩ : ∃ x, x = X i := ⟨_, rfl⟩
                obtain ⟨y6, hy6⟩ : ∃ x, x = C i := ⟨_, rfl⟩
                rw [← hx6] at c6
                rw [← hy6] at c7
                have HXY := Lib.hid (And.intro hx6 hy6)
                clear hx6 hy6
                cases ch
                · by_cases hXC : x6 = y6
                  · have hXC' : ((x6 : Int) != (y6 : Int)) = false := by rw [hXC]; simp
                    have HE6 := Lib.hid hXC
                    clear hXC
                    go_wp2_with fail
                    go_quiet (fail)
                    go_wp2
                    go_roundw
                    case rel => exact ⟨i + 1, false, by omega, by go_num, rfl, H5.out.1.drewN _, rowIs_ext ((Ext.refl _).drewN _) H5.out.2, fun _ j hj => by
                      by_cases e : j = i
                      · subst e; rw [← HXY.out.1, ← HXY.out.2]; exact HE6.out
                      · exact HCH.out.1 trivial j (by omega), fun h => (by cases h)⟩
                    case measure => simp [intOf]; omega
                  · have hXC' : ((x6 : Int) != (y6 : Int)) = true := by rw [bne_iff_ne]; omega
                    have HE6 := Lib.hid hXC
                    clear hXC
                    go_wp2_with fail
                    go_quiet (fail)
                    go_wp2
                    go_roundw
                    case rel => exact ⟨i + 1, true, by omega, by go_num, rfl, H5.out.1.drewN _, rowIs_ext ((Ext.refl _).drewN _) H5.out.2, fun h => (by cases h), fun _ => ⟨i, hlt, by rw [← HXY.out.1, ← HXY.out.2]; exact HE6.out⟩⟩
                    case measure => simp [intOf]; omega
                · go_wp2_with fail
                  go_quiet (fail)
                  go_wp2
                  go_roundw
                  case rel => exact ⟨i + 1, true, by omega, by go_num, rfl, H5.out.1.drewN _, rowIs_ext ((Ext.refl _).drewN _) H5.out.2, fun h => (by cases h), fun _ => HCH.out.2 trivial⟩
                  case measure => simp [intOf]; omega
          · obtain rfl : N = i := by omega
            have hxw := HC0.out.2.1.trans hxi
            have hrc := rowIs_ext hxi HC0.out.2.2.1
            have hrX := hri.congr (g := fun j => .int .i64 (X j : Nat)) fun j hj => by rw [fillN_all hj]
            have HF := Lib.hid (And.intro hxw (And.intro hrc (And.intro hrX (And.intro hch1 hch2))))
            clear hxi hri hrc hrX hxw hch1 hch2 hlt hi
            cases ch
            · go_wp2
              go_ret
              have hS := HC0.out.2.2.2.1
              have hT := hS.done HA.out.2.2 fun j hj => by rw [← HX.out]; exact HF.out.2.2.2.1 trivial j (by rw [HA.out.2.1] at hj; exact hj)
              refine ⟨gc, rfl, Nat.le_trans HX0.out.1.size HC0.out.1, C, HF.out.2.1, ?_, ?_, HX0.out.1.trans HF.out.1⟩
              · rw [← HA.out.1]; exact hS
              · rw [← HA.out.1]; exact hT
            · have hlt : N - LM.firsts X N < gk := by
                obtain ⟨j, hj, hne⟩ := HF.out.2.2.2.2 rfl
                have h1 := HC0.out.2.2.2.1.grows (i := j) (by rw [HA.out.2.1]; exact hj) (by rw [← HX.out]; exact hne)
                rw [← HX.out, HA.out.2.1] at h1
                have h2 := LM.firsts_le X N
                rw [HC0.out.2.2.2.2]; omega
              go_wp2
              go_roundg (N - LM.firsts X N)
              case measure => exact hlt
              case rel => exact ⟨gN, X, rfl, by rw [HG.out.1]; exact HC0.out.2.1.size, HF.out.1, HF.out.2.2.1, by rw [HX.out]; exact HC0.out.2.2.2.1.next HA.out.2.2, rfl⟩
end Go.Proofs.YtpeipjfmibjoiaaDoor

namespace Go.Proofs.YtpeipjfmibjoiaaDoor
open Go.RowKit

/-- the numbers of the classes' least states, while they are told -/
def numF (C : Nat → Nat) (i j : Nat) : Nat := if j < i ∧ C j = j then LM.cnt C j else 0
theorem numF_set {C : Nat → Nat} {i j : Nat} (h : C i = i) : (if j = i then LM.cnt C i else numF C i j) = numF C (i + 1) j := by
  unfold numF
  by_cases e : j = i
  · subst e; rw [if_pos rfl, if_pos ⟨Nat.lt_succ_self _, h⟩]
  · rw [if_neg e]
    by_cases e2 : j < i ∧ C j = j
    · rw [if_pos e2, if_pos ⟨by omega, e2.2⟩]
    · rw [if_neg e2, if_neg (by omega)]
theorem numF_skip {C : Nat → Nat} {i j : Nat} (h : ¬ C i = i) : numF C i j = numF C (i + 1) j := by
  unfold numF
  by_cases e2 : j < i ∧ C j = j
  · rw [if_pos e2, if_pos ⟨by omega, e2.2⟩]
  · rw [if_neg e2, if_neg]
    rintro ⟨h1, h2⟩
    by_cases e : j = i
    · exact h (e ▸ h2)
    · exact e2 ⟨by omega, h2⟩
theorem numF_at {A : LM.Aut} {C : Nat → Nat} (h : LM.Split A C) (i : Nat) : numF C (i + 1) (C i) = LM.num C i := by
  unfold numF
  rw [if_pos ⟨by have := h.le i; omega, h.idem i⟩]
  unfold LM.num
  rw [LM.leader_fix h.le h.idem]
theorem cnt_next {A : LM.Aut} {C : Nat → Nat} (h : LM.Split A C) (i : Nat) : LM.cnt C (i + 1) = LM.cnt C i + if C i = i then 1 else 0 := by
  simp only [LM.cnt]
  rw [LM.leader_fix h.le h.idem]

def RClsR (d : Dn) (w : World) (e : Ending) (w' : World) : Prop :=
  ∃ v C, e = .returned (.tuple #[v, faultV 0]) ∧ LM.Tells d.aut C ∧ w'.ownsRow w.heap.size 3 1 v d.next.length (natV ((List.range d.next.length).map (LM.num C))) ∧ Ext w w'

set_option maxRecDepth 100000 in
set_option maxHeartbeats 8000000 in
theorem refcls_c {w : World} {v : Value} {d : Dn} (h : DenseV w v d) (hm : May d) : Calls Tryd.prog 46 #[v] w (RClsR d w) := by
  obtain ⟨bn, on, cn, bl, ol, cl, rfl, hc⟩ := h.cells hm
  obtain ⟨N, hN⟩ : ∃ N, N = d.next.length := ⟨_, rfl⟩
  have hpos : 0 < N := by rw [hN]; exact hm.pos
  have hN6 : N ≤ 600 := by rw [hN]; exact hm.most
  rw [← hN] at h ⊢
  obtain ⟨W, hW⟩ : ∃ W, W = (w.alloc (.cells #[.slice (some ⟨bn, on, none⟩) N cn, .slice (some ⟨bl, ol, none⟩) N cl] 25)).alloc (.cells #[.int .i64 0, .int .i64 0, .int .i64 0, .int .i64 0, .slice none 0 0] 69) := ⟨_, rfl⟩
  have hx : Ext w W := by rw [hW]; exact (Ext.box _ _).alloc _
  have q0 : W.cell? ⟨w.heap.size, 0, none⟩ = some (.slice (some ⟨bn, on, none⟩) N cn) := by rw [hW]; simp
  have q1 : W.cell? ⟨w.heap.size, 1, none⟩ = some (.slice (some ⟨bl, ol, none⟩) N cl) := by rw [hW]; simp
  have hr : W.rowIs (w.heap.size + 1) 69 5 (rF (.int .i64 0) (.int .i64 0) (.int .i64 0) (.int .i64 0) (.slice none 0 0)) := by
    have q := World.rowIs_alloc (w.alloc (.cells #[.slice (some ⟨bn, on, none⟩) N cn, .slice (some ⟨bl, ol, none⟩) N cl] 25)) #[.int .i64 0, .int .i64 0, .int .i64 0, .int .i64 0, .slice none 0 0] 69 (rF (.int .i64 0) (.int .i64 0) (.int .i64 0) (.int .i64 0) (.slice none 0 0)) (fun i hi => by rcases rF_at hi with rfl | rfl | rfl | rfl | rfl <;> rfl)
    rw [World.size_alloc] at q
    rw [hW]; exact q
  have hmay := may_c (h.ext hx)
  rw [mayB_true.2 hm] at hmay
  have hmk := run_make_any (P := Tryd.prog) 23 3 (.int .i64 0) 1 8 Tryd.underlying23 int_info .i64 .i64 N (by omega) (by omega)
  have H := Lib.hid (And.intro hmay (And.intro hx (And.intro hr (And.intro q0 (And.intro q1 (And.intro h (And.intro hm (And.intro hN hW))))))))
  have hpost : RClsR d w = fun e w' => ∃ v C, e = .returned (.tuple #[v, faultV 0]) ∧ LM.Tells d.aut C ∧ w'.ownsRow w.heap.size 3 1 v N (natV ((List.range N).map (LM.num C))) ∧ Ext w w' := by unfold RClsR; rw [hN]
  rw [hpost]
  clear hmay hx hr q0 q1 h hm hN hW hc hpost
  go_enter Tryd.func46, Tryd.ntmps46
  go_wp2_with fail
  rw [← H.out.2.2.2.2.2.2.2.2]
  refine H.out.1.mono ?_
  rintro e w1 ⟨rfl, hx1⟩
  have q0 := hx1.cell H.out.2.2.2.1
  have q1 := hx1.cell H.out.2.2.2.2.1
  have hsp := split12_c (H.out.2.2.2.2.2.1.ext (H.out.2.1.trans hx1)) H.out.2.2.2.2.2.2.1
  unfold Split12R at hsp
  have HS := Lib.hid (And.intro hsp hx1)
  clear hsp hx1
  go_wp2_with fail
  refine HS.out.1.mono ?_
  rintro e w2 ⟨g, C, rfl, hg, hrc, hSp, hT, hx2⟩
  rw [← H.out.2.2.2.2.2.2.2.1] at hrc ⊢
  have HC := Lib.hid (And.intro hrc (And.intro hSp (And.intro hT (And.intro (HS.out.2.trans hx2) hg))))
  clear q0 q1 hrc hSp hT hx2 hg
  go_wp2
  obtain ⟨gM, hgM⟩ : ∃ gM, gM = w2.heap.size := ⟨_, rfl⟩
  have hr0 := World.rowIs_made w2 (.int .i64 0) N 3
  rw [← hgM] at hr0 ⊢
  have hr1 := hr0.congr (g := fun j => .int .i64 (numF C 0 j : Nat)) fun j _ => by unfold numF; rw [if_neg (fun h => Nat.not_lt_zero _ h.1)]; rfl
  have hx3 : Ext w2 (w2.alloc (.cells (madeCells #[.int .i64 0] N) 3)) := Ext.box _ _
  have hs3 : gM + 1 = (w2.alloc (.cells (madeCells #[.int .i64 0] N) 3)).heap.size := by simp [hgM]
  generalize w2.alloc (.cells (madeCells #[.int .i64 0] N) 3) = w3 at hr0 hr1 hx3 hs3 ⊢
  have HM := Lib.hid (And.intro hr1 (And.intro hx3 (And.intro hs3 hgM)))
  clear hr0 hr1 hx3 hs3 hgM hmk
  go_loopw [6, 7, 8] (fun nv ov iv wr => ∃ i : Nat, i ≤ N ∧ iv = .int .i64 i ∧ nv = .int .i64 (LM.cnt C i : Nat) ∧ wr.ownsRow (gM + 1) 3 1 ov i (natV ((List.range i).map (LM.num C))) ∧ wr.rowIs gM 3 N (fun j => .int .i64 (numF C i j : Nat)) ∧ Ext w2 wr ∧ gM + 1 ≤ wr.heap.size) (fun _ _ iv _ => N - (intOf iv).toNat)
  case atStart => exact ⟨0, Nat.zero_le _, rfl, rfl, World.ownsRow_nil _ _ _ _, HM.out.1, HM.out.2.1, by rw [HM.out.2.2.1]; exact Nat.le_refl _⟩
  case round =>
    obtain ⟨i, hi, rfl, rfl, hown, hrn, hxr, hsz⟩ := hrel
    obtain ⟨ao, co, hov⟩ := own_shp hown
    subst hov
    by_cases hlt : i < N
    · have hj1 : (i : Int) < N := by omega
      have hle := HC.out.2.1.le i
      have c1 := (rowIs_ext hxr (rowIs_ext (Ext.refl _) HC.out.1)).cell (i := i) hlt
      have hcl := LM.cnt_le C i
      obtain ⟨y, hy⟩ : ∃ y, y = C i := ⟨_, rfl⟩
      obtain ⟨m, hm9⟩ : ∃ m, m = LM.cnt C i := ⟨_, rfl⟩
      obtain ⟨z, hz⟩ : ∃ z, z = LM.num C i := ⟨_, rfl⟩
      have hzz := numF_at HC.out.2.1 i
      rw [← hz, ← hy] at hzz
      rw [← hy] at c1 hle
      rw [← hm9] at hcl ⊢
      obtain ⟨i0, hi0, hz0, hz1, hz2⟩ := info_parts int_info
      have h1c : ∀ u ∈ [Value.int .i64 (z : Int)], u.oneCell' = true := one_int _ _
      have hmax : i + 1 ≤ maxLen := by unfold maxLen; omega
      have hyN : (y : Int) < N := by omega
      have hnat : natV ((List.range i).map (LM.num C)) ++ [.int .i64 (z : Int)] = natV ((List.range (i + 1)).map (LM.num C)) := by rw [List.range_succ, List.map_append, List.map_singleton, natV_snoc, hz]
      have hend : ∀ (W4 W5 : World) (v' : Value), W4.ownsRow (gM + 1) 3 1 (.slice ao i co) i (natV ((List.range i).map (LM.num C))) → Ext w2 W4 → W4.rowIs gM 3 N (fun j => .int .i64 (numF C (i + 1) j : Nat)) → gM + 1 ≤ W4.heap.size → W5.ownsRow (gM + 1) 3 1 v' (i + 1) (natV ((List.range i).map (LM.num C)) ++ [.int .i64 (z : Int)]) → (W4.alloc (.cells #[.int .i64 (z : Int)] 3)).grownBy W5 (Value.slice ao i co).ownBlock →
          W5.ownsRow (gM + 1) 3 1 v' (i + 1) (natV ((List.range (i + 1)).map (LM.num C))) ∧ W5.rowIs gM 3 N (fun j => .int .i64 (numF C (i + 1) j : Nat)) ∧ Ext w2 W5 ∧ gM + 1 ≤ W5.heap.size := fun W4 W5 v' ho hx4 hr4 hs4 ho5 hg5 => by
        refine ⟨by rw [← hnat]; exact ho5, ?_, Below.grown (hx4.alloc _) hg5 (hx4.alloc _).size (fun g e => by have := (ho.lt g e).1; have := HM.out.2.2.2; omega), ?_⟩
        · have hr4a := rowIs_ext (Ext.box W4 (.cells #[.int .i64 (z : Int)] 3)) hr4
          exact hr4a.of_block (hg5.block gM hr4a.lt (fun e => by have := (ho.lt gM e.symm).1; omega))
        · have := hg5.size; simp only [World.size_alloc] at this; omega
      have HR := Lib.hid (And.intro hown (And.intro hrn (And.intro hxr (And.intro hsz (And.intro hy (And.intro hm9 (And.intro hz (And.intro hzz @hend))))))))
      clear hnat hend
      by_cases hyi : y = i
      · have hCi : C i = i := by rw [← hy]; exact hyi
        have hyi' : ((y : Int) == (i : Int)) = true := by rw [hyi]; simp
        have c2 := hrn.cell (i := i) hlt
        have f2 := hrn.frozen i
        obtain ⟨x0, hx0⟩ : ∃ x, x = numF C i i := ⟨_, rfl⟩
        rw [← hx0] at c2
        obtain ⟨W4, hW4⟩ : ∃ W4, W4 = wr.setCell ⟨gM, i, none⟩ (.int .i64 (m : Int)) := ⟨_, rfl⟩
        have hr4 : W4.rowIs gM 3 N (fun j => .int .i64 (numF C (i + 1) j : Nat)) := by
          rw [hW4]
          exact (hrn.set i _).congr fun j _ => by
            show (if j = i then Value.int .i64 (m : Int) else .int .i64 (numF C i j : Nat)) = _
            rw [← numF_set hCi, hm9]; split <;> rfl
        have hx4 : Ext w2 W4 := by rw [hW4]; exact hxr.setCell (by rw [HM.out.2.2.2]; exact Nat.le_refl _) _
        have ho4 : W4.ownsRow (gM + 1) 3 1 (.slice ao i co) i (natV ((List.range i).map (LM.num C))) := by
          rw [hW4]
          exact own_block hown fun g e _ => Below.heap_setCell _ _ _ _ (by have := (hown.lt g e).1; simp only [ne_eq]; omega)
        have hs4 : gM + 1 ≤ W4.heap.size := by rw [hW4, World.size_setCell]; exact hsz
        have k1 := (rowIs_ext hx4 HC.out.1).cell (i := i) hlt
        rw [← hy] at k1
        have k2 := hr4.cell (i := y) (by omega)
        rw [hzz] at k2
        rw [hW4] at k1 k2
        have hown5 := own_ext (Ext.box W4 (.cells #[.int .i64 (z : Int)] 3)) ho4
        have hcell := cell_one_new W4 (.int .i64 (z : Int)) 3
        have hbase : gM + 1 ≤ (W4.alloc (.cells #[.int .i64 (z : Int)] 3)).heap.size := by simp; omega
        have hs9 : W4.heap.size = wr.heap.size := by rw [hW4, World.size_setCell]
        rw [hs9] at hcell
        rw [hW4] at hown5 hcell hbase
        have H4 := Lib.hid (And.intro ho4 (And.intro hx4 (And.intro hr4 (And.intro hs4 (And.intro hCi hW4)))))
        clear hown hrn hxr hsz hy hm9 hz hzz hr4 hx4 ho4 hs4 hCi hW4 hx0 hyi hs9
        go_wp2_with (at_builtin; refine wpList_append_own_at _ rfl _ _ 23 rfl (gM + 1) 3 i0 (.int .i64 0) 1 8 Tryd.underlying23 hi0 hz0 hz1 hz2 rfl (by decide) _ _ _ rfl hown5 ⟨wr.heap.size, 0, none⟩ 1 1 [.int .i64 (z : Int)] rfl rfl hcell h1c hmax (by omega) hbase ?_; intro v' W5 hown' hg _ hat)
        rw [← H4.out.2.2.2.2.2] at hg
        have h9 := HR.out.2.2.2.2.2.2.2.2 W4 W5 v' H4.out.1 H4.out.2.1 H4.out.2.2.1 H4.out.2.2.2.1 hown' hg
        have HF := Lib.hid h9
        clear hown' hg hat h9
        go_roundw
        case rel => exact ⟨i + 1, by omega, by go_num, by rw [cnt_next HC.out.2.1, if_pos H4.out.2.2.2.2.1, ← HR.out.2.2.2.2.2.1]; go_num, HF.out⟩
        case measure => simp [intOf]; omega
      · have hCi : ¬ C i = i := by rw [← hy]; exact hyi
        have hyi' : ((y : Int) == (i : Int)) = false := by rw [beq_eq_false_iff_ne]; omega
        have hr4 : wr.rowIs gM 3 N (fun j => .int .i64 (numF C (i + 1) j : Nat)) := hrn.congr fun j _ => by rw [numF_skip hCi]
        have k2 := hr4.cell (i := y) (by omega)
        rw [hzz] at k2
        have hown5 := own_ext (Ext.box wr (.cells #[.int .i64 (z : Int)] 3)) hown
        have hcell := cell_one_new wr (.int .i64 (z : Int)) 3
        have hbase : gM + 1 ≤ (wr.alloc (.cells #[.int .i64 (z : Int)] 3)).heap.size := by simp; omega
        have H4 := Lib.hid (And.intro hr4 hCi)
        clear hown hrn hxr hsz hy hm9 hz hzz hr4 hCi hyi
        go_wp2_with (at_builtin; refine wpList_append_own_at _ rfl _ _ 23 rfl (gM + 1) 3 i0 (.int .i64 0) 1 8 Tryd.underlying23 hi0 hz0 hz1 hz2 rfl (by decide) _ _ _ rfl hown5 ⟨wr.heap.size, 0, none⟩ 1 1 [.int .i64 (z : Int)] rfl rfl hcell h1c hmax (by omega) hbase ?_; intro v' W5 hown' hg _ hat)
        have h9 := HR.out.2.2.2.2.2.2.2.2 wr W5 v' HR.out.1 HR.out.2.2.1 H4.out.1 HR.out.2.2.2.1 hown' hg
        have HF := Lib.hid h9
        clear hown' hg hat h9
        go_roundw
        case rel => exact ⟨i + 1, by omega, by go_num, by rw [cnt_next HC.out.2.1, if_neg H4.out.2, ← HR.out.2.2.2.2.2.1]; go_num, HF.out⟩
        case measure => simp [intOf]; omega
    · obtain rfl : N = i := by omega
      have hxW := HC.out.2.2.2.1.trans hxr
      have hrf := rowIs_ext hxW H.out.2.2.1
      have g0 := hrf.frozen 0
      have g1 := hrf.frozen 1
      have g2 := hrf.frozen 2
      have g3 := hrf.frozen 3
      have g4 := hrf.frozen 4
      have d0 : wr.cell? ⟨w.heap.size + 1, 0, none⟩ = some (.int .i64 0) := hrf.cell (i := 0) (by omega)
      have d1 : wr.cell? ⟨w.heap.size + 1, 1, none⟩ = some (.int .i64 0) := hrf.cell (i := 1) (by omega)
      have d2 : wr.cell? ⟨w.heap.size + 1, 2, none⟩ = some (.int .i64 0) := hrf.cell (i := 2) (by omega)
      have d3 : wr.cell? ⟨w.heap.size + 1, 3, none⟩ = some (.int .i64 0) := hrf.cell (i := 3) (by omega)
      have d4 : wr.cell? ⟨w.heap.size + 1, 4, none⟩ = some (.slice none 0 0) := hrf.cell (i := 4) (by omega)
      have HF := Lib.hid (And.intro hown (And.intro hxW hrf))
      clear hown hrn hxr hsz hxW hrf hlt hi
      go_wp2
      have hr9 := rowIs_set5 HF.out.2.2 (.int .i64 0) (.int .i64 0) (.int .i64 0) (.int .i64 0) (.slice none 0 0)
      have hle : w.heap.size ≤ w.heap.size + 1 := by omega
      have hXf : Ext w (((((wr.setCell ⟨w.heap.size + 1, 0, none⟩ (.int .i64 0)).setCell ⟨w.heap.size + 1, 1, none⟩ (.int .i64 0)).setCell ⟨w.heap.size + 1, 2, none⟩ (.int .i64 0)).setCell ⟨w.heap.size + 1, 3, none⟩ (.int .i64 0)).setCell ⟨w.heap.size + 1, 4, none⟩ (.slice none 0 0)) := (((((H.out.2.1.trans HF.out.2.1).setCell hle _).setCell hle _).setCell hle _).setCell hle _).setCell hle _
      have hof := own_block HF.out.1 (w' := (((((wr.setCell ⟨w.heap.size + 1, 0, none⟩ (.int .i64 0)).setCell ⟨w.heap.size + 1, 1, none⟩ (.int .i64 0)).setCell ⟨w.heap.size + 1, 2, none⟩ (.int .i64 0)).setCell ⟨w.heap.size + 1, 3, none⟩ (.int .i64 0)).setCell ⟨w.heap.size + 1, 4, none⟩ (.slice none 0 0))) fun g e _ => heap_set5 (by
        have h1 := (HF.out.1.lt g e).1
        have h2 := HM.out.2.2.2
        have h3 := H.out.2.2.1.lt
        have h4 := HC.out.2.2.2.1.size
        omega)
      generalize World.setCell (World.setCell (World.setCell (World.setCell (World.setCell wr _ _) _ _) _ _) _ _) _ _ = Wf at hr9 hXf hof ⊢
      have z0 : Wf.cell? ⟨w.heap.size + 1, 0, none⟩ = some (.int .i64 0) := hr9.cell (i := 0) (by omega)
      have z1 : Wf.cell? ⟨w.heap.size + 1, 1, none⟩ = some (.int .i64 0) := hr9.cell (i := 1) (by omega)
      have z2 : Wf.cell? ⟨w.heap.size + 1, 2, none⟩ = some (.int .i64 0) := hr9.cell (i := 2) (by omega)
      have z3 : Wf.cell? ⟨w.heap.size + 1, 3, none⟩ = some (.int .i64 0) := hr9.cell (i := 3) (by omega)
      have z4 : Wf.cell? ⟨w.heap.size + 1, 4, none⟩ = some (.slice none 0 0) := hr9.cell (i := 4) (by omega)
      (try simp only [Exit.inBlock, Exit.then])
      refine bodyPost_ret (v := .tuple #[.slice ao N co, faultV 0]) (by simp [results, faultV, Tryd.results46, z0, z1, z2, z3, z4, go_sem]) rfl ⟨_, C, rfl, HC.out.2.2.1, ?_, hXf⟩
      have hh := H.out.2.1.size
      exact own_base hof (by have := HC.out.2.2.2.1.size; have := HM.out.2.2.2; omega)
end Go.Proofs.YtpeipjfmibjoiaaDoor
