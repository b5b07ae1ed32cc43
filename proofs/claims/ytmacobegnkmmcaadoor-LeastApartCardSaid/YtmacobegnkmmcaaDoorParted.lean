/- bolterlaw12.parted: of an automaton whose states are all told apart it says so. -/
import Derived.Test.YtmacobegnkmmcaaDoorCheck
import Derived.Test.YtmacobegnkmmcaaDoorDn
import Derived.Test.YtmacobegnkmmcaaDoorMem
import Derived.Test.YtmacobegnkmmcaaDoorRow14
import Derived.Test.YtmacobegnkmmcaaDoorOrderMath
import Derived.Deep.QuietTactic
import Derived.BigQuiet
import Derived.StillTailTactics
import Derived.Deep.DeepCutAuto
import Derived.Deep.LoopGhost
namespace Go.Proofs.YtmacobegnkmmcaaDoor
open Go.RowKit

theorem bool_info : (Tryd.prog.info? 4).map (fun i => (i.zero, i.size, i.bytes)) = some (some (.bool false), 1, 1) := by kernel_rfl

/-- how many of the first m are not marked -/
def cntF (M : Nat → Bool) : Nat → Nat
  | 0 => 0
  | m + 1 => cntF M m + cond (M m) 0 1

def mark (M : Nat → Bool) (p : Nat) (q : Nat) : Bool := if q = p then true else M q
theorem mark_same (M : Nat → Bool) (p : Nat) : mark M p p = true := if_pos rfl
theorem mark_other (M : Nat → Bool) {p q : Nat} (h : q ≠ p) : mark M p q = M q := if_neg h

theorem cntF_mark_le (M : Nat → Bool) (p : Nat) : ∀ m, cntF (mark M p) m ≤ cntF M m
  | 0 => Nat.le_refl _
  | m + 1 => by
    have := cntF_mark_le M p m
    simp only [cntF]
    by_cases e : m = p
    · subst e; rw [mark_same]; simp only [cond_true]; omega
    · rw [mark_other M e]; omega
theorem cntF_mark (M : Nat → Bool) {p : Nat} (hp : M p = false) : ∀ m, p < m → cntF (mark M p) m < cntF M m
  | 0, h => by omega
  | m + 1, h => by
    simp only [cntF]
    by_cases e : m = p
    · subst e
      have := cntF_mark_le M m m
      rw [mark_same, hp]
      simp only [cond_true, cond_false]; omega
    · have := cntF_mark M hp m (by omega)
      rw [mark_other M e]; omega

/-- where a pair stands -/
theorem pair_lt {n i k : Nat} (hi : i < n) (hk : k < n) : i * n + k < n * n := by
  have : (i + 1) * n ≤ n * n := Nat.mul_le_mul_right n hi
  rw [Nat.add_mul] at this; omega
theorem pair_inj {n i k i' k' : Nat} (hk : k < n) (hk' : k' < n) (h : i * n + k = i' * n + k') : i = i' ∧ k = k' := by
  have h1 : (i * n + k) / n = i := by rw [Nat.mul_comm, Nat.mul_add_div (by omega), Nat.div_eq_of_lt hk]; omega
  have h2 : (i' * n + k') / n = i' := by rw [Nat.mul_comm, Nat.mul_add_div (by omega), Nat.div_eq_of_lt hk']; omega
  have e : i = i' := by rw [← h1, h, h2]
  subst e
  exact ⟨rfl, by omega⟩

/-- unlike labels are marked -/
def LabM (d : Dn) (n : Nat) (M : Nat → Bool) : Prop := ∀ i k, i < n → k < n → d.lb i ≠ d.lb k → M (i * n + k) = true
/-- the pairs ahead of (i, k), and the first c bytes of this one, lead from what is not marked to what is not -/
def ClosedTo (d : Dn) (n : Nat) (M : Nat → Bool) (i k c : Nat) : Prop :=
  ∀ i' k' c', i' < n → k' < n → c' < 256 → (i' < i ∨ (i' = i ∧ (k' < k ∨ (k' = k ∧ c' < c)))) → M (i' * n + k') = false → M (d.nx i' c' * n + d.nx k' c') = false

structure Pass (d : Dn) (n : Nat) (M0 M : Nat → Bool) (ch : Bool) (i k c : Nat) : Prop where
  lab : LabM d n M
  yes : ch = true → cntF M (n * n) < cntF M0 (n * n)
  no : ch = false → M = M0 ∧ ClosedTo d n M0 i k c

theorem Pass.hit {d : Dn} {n : Nat} {M0 M : Nat → Bool} {ch : Bool} {i k c i' k' c' : Nat} (h : Pass d n M0 M ch i k c) (hi : i < n) (hk : k < n) (hf : M (i * n + k) = false) : Pass d n M0 (mark M (i * n + k)) true i' k' c' := by
  refine ⟨fun a b ha hb hl => ?_, fun _ => ?_, fun e => by cases e⟩
  · unfold mark; split
    · rfl
    · exact h.lab a b ha hb hl
  · have h1 := cntF_mark M hf (n * n) (pair_lt hi hk)
    cases hc : ch with
    | true => have := h.yes hc; omega
    | false => rw [(h.no hc).1] at h1 ⊢; exact h1
theorem Pass.miss {d : Dn} {n : Nat} {M0 M : Nat → Bool} {ch : Bool} {i k c : Nat} (h : Pass d n M0 M ch i k c) (hm : M (d.nx i c * n + d.nx k c) = false) : Pass d n M0 M ch i k (c + 1) := by
  refine ⟨h.lab, h.yes, fun e => ⟨(h.no e).1, fun i' k' c' h1 h2 h3 h4 h5 => ?_⟩⟩
  by_cases e2 : i' = i ∧ k' = k ∧ c' = c
  · obtain ⟨rfl, rfl, rfl⟩ := e2
    rw [← (h.no e).1]; exact hm
  · exact (h.no e).2 i' k' c' h1 h2 h3 (by omega) h5
theorem Pass.done {d : Dn} {n : Nat} {M0 M : Nat → Bool} {ch : Bool} {i k c : Nat} (h : Pass d n M0 M ch i k c) (he : c = 256 ∨ M (i * n + k) = true) : Pass d n M0 M ch i (k + 1) 0 := by
  refine ⟨h.lab, h.yes, fun e => ⟨(h.no e).1, fun i' k' c' h1 h2 h3 h4 h5 => ?_⟩⟩
  by_cases e2 : i' = i ∧ k' = k
  · obtain ⟨rfl, rfl⟩ := e2
    rcases he with he | he
    · exact (h.no e).2 i' k' c' h1 h2 h3 (by omega) h5
    · rw [(h.no e).1, h5] at he; cases he
  · exact (h.no e).2 i' k' c' h1 h2 h3 (by omega) h5
theorem Pass.row {d : Dn} {n : Nat} {M0 M : Nat → Bool} {ch : Bool} {i : Nat} (h : Pass d n M0 M ch i n 0) : Pass d n M0 M ch (i + 1) 0 0 :=
  ⟨h.lab, h.yes, fun e => ⟨(h.no e).1, fun i' k' c' h1 h2 h3 h4 h5 => (h.no e).2 i' k' c' h1 h2 h3 (by omega) h5⟩⟩

/-- once nothing turns any more, all pairs are marked -/
theorem all_marked {d : Dn} (hm : May d) (hap : ∀ i k, i < d.next.length → k < d.next.length → LM.xeq d.aut d.aut i k → i = k) {M : Nat → Bool} (hl : LabM d d.next.length M) (hc : ClosedTo d d.next.length M d.next.length 0 0)
    {i k : Nat} (hi : i < d.next.length) (hk : k < d.next.length) (hne : i ≠ k) : M (i * d.next.length + k) = true := by
  cases hM : M (i * d.next.length + k) with
  | true => rfl
  | false =>
    exfalso
    refine hne (hap i k hi hk fun w hw => ?_)
    refine LM.unmarked (M := fun i k => M (i * d.next.length + k)) hm.ok (fun a b ha hb h => ?_) (fun a b c ha hb hcc h => hc a b c ha hb hcc (.inl ha) h) w i k hi hk hM hw
    rcases Classical.em (d.lb a = d.lb b) with e | e
    · exact e
    · have h1 := hl a b ha hb e
      rw [h] at h1; cases h1

def b2n (b : Bool) : Nat := cond b 1 0
def boolOf : Value → Bool
  | .bool b => b
  | _ => false
theorem boolOf_bool (b : Bool) : boolOf (.bool b) = b := rfl

set_option maxRecDepth 100000 in
set_option maxHeartbeats 1000000 in
theorem parted_c {v : Value} {d : Dn} {w : World} (h : DenseV w v d) (hm : May d) (h60 : d.next.length ≤ 60) (hap : ∀ i k, i < d.next.length → k < d.next.length → LM.xeq d.aut d.aut i k → i = k) :
    Calls Tryd.prog 19 #[v] w fun e w' => e = .returned (.bool true) ∧ Ext w w' := by
  have HM := Lib.hid hm
  have HAP := Lib.hid hap
  obtain ⟨bn, on, cn, bl, ol, cl, rfl, hc⟩ := h.cells hm
  have HC := Lib.hid hc
  obtain ⟨N, hN⟩ : ∃ N, N = d.next.length := ⟨_, rfl⟩
  have HN := Lib.hid hN
  have hpos : 0 < N := by rw [hN]; exact hm.pos
  rw [← hN] at h60 ⊢
  obtain ⟨NN, hNN⟩ : ∃ NN, NN = N * N := ⟨_, rfl⟩
  have hNN6 : NN ≤ 3600 := by rw [hNN]; exact Nat.le_trans (Nat.mul_le_mul h60 h60) (by omega)
  have hw0 : IntKind.i64.wrap ((N : Int) * (N : Int)) = (NN : Int) := by
    have : ((N : Int) * (N : Int)) = (NN : Int) := by rw [hNN]; simp
    rw [this]; exact IntWalk.i64_in _ (by omega)
  have hmk := run_make_any (P := Tryd.prog) 74 4 (.bool false) 1 1 Tryd.underlying74 bool_info .i64 .i64 NN (by omega) (by omega)
  have HNN := Lib.hid hNN
  obtain ⟨O, hO⟩ : ∃ O, O = (Obj.cells #[.slice (some ⟨bn, on, none⟩) N cn, .slice (some ⟨bl, ol, none⟩) N cl] 25) := ⟨_, rfl⟩
  have hb : ∀ W, Ext (w.alloc O) W → W.cell? ⟨w.heap.size, 0, none⟩ = some (.slice (some ⟨bn, on, none⟩) N cn) ∧ W.cell? ⟨w.heap.size, 1, none⟩ = some (.slice (some ⟨bl, ol, none⟩) N cl) := by
    intro W hx
    subst hO
    exact ⟨hx.cell (by simp), hx.cell (by simp)⟩
  have HB := Lib.hid hb
  have HO := Lib.hid hO
  have hrow0 := World.rowIs_made (w.alloc O) (.bool false) NN 4
  rw [World.size_alloc] at hrow0
  have HR0 := Lib.hid hrow0
  clear h hm hap hc hN hNN hb hO hrow0
  go_enter Tryd.func19, Tryd.ntmps19
  go_wp2
  clear hmk hw0
  rw [← HO.out]
  have hx0 : Ext (w.alloc O) ((w.alloc O).alloc (.cells (madeCells #[.bool false] NN) 4)) := Ext.box _ _
  have hG : (w.alloc O).heap.size ≤ w.heap.size + 1 := by simp
  go_loopw [5] (fun iv wr => ∃ (i : Nat) (M : Nat → Bool), i ≤ N ∧ iv = .int .i64 i ∧ Ext (w.alloc O) wr ∧ wr.rowIs (w.heap.size + 1) 4 NN (fun p => .bool (M p)) ∧
    (∀ a b, a < i → b < N → d.lb a ≠ d.lb b → M (a * N + b) = true)) (fun iv _ => N - (intOf iv).toNat)
  case atStart => exact ⟨0, fun _ => false, Nat.zero_le _, rfl, hx0, HR0.out, fun a b ha => by omega⟩
  case round =>
    clear hx0
    obtain ⟨i, M, hi, rfl, hx, hr, hlabM⟩ := hrel
    have HLM := Lib.hid hlabM
    clear hlabM
    by_cases hiN : i < N
    · go_wp2
      go_loopw [6] (fun kv wi => ∃ (k : Nat) (M : Nat → Bool), k ≤ N ∧ kv = .int .i64 k ∧ Ext (w.alloc O) wi ∧ wi.rowIs (w.heap.size + 1) 4 NN (fun p => .bool (M p)) ∧
        (∀ a b, (a < i ∨ (a = i ∧ b < k)) → b < N → d.lb a ≠ d.lb b → M (a * N + b) = true)) (fun kv _ => N - (intOf kv).toNat)
      case atStart => exact ⟨0, M, Nat.zero_le _, rfl, hx, hr, fun a b h1 h2 h3 => HLM.out a b (by omega) h2 h3⟩
      case round =>
        clear hx hr HLM
        obtain ⟨k, M, hk, rfl, hx, hr, hlabM⟩ := hrel
        have HLM := Lib.hid hlabM
        clear hlabM
        by_cases hkN : k < N
        · obtain ⟨b0, b1⟩ := HB.out _ hx
          have hE := (Ext.box w O).trans hx
          have l1 := hE.cell (HC.out.label i (by rw [← HN.out]; exact hiN))
          have l2 := hE.cell (HC.out.label k (by rw [← HN.out]; exact hkN))
          have hpl := pair_lt hiN hkN
          rw [← HNN.out] at hpl
          obtain ⟨q, hq⟩ : ∃ q, q = i * N := ⟨_, rfl⟩
          rw [← hq] at hpl
          have hw1 : IntKind.i64.wrap ((i : Int) * (N : Int)) = (q : Int) := by
            have : ((i : Int) * (N : Int)) = (q : Int) := by rw [hq]; simp
            rw [this]; exact IntWalk.i64_in _ (by omega)
          obtain ⟨p, hp⟩ : ∃ p, p = q + k := ⟨_, rfl⟩
          have hw2 : IntKind.i64.wrap ((q : Int) + (k : Int)) = (p : Int) := (IntWalk.i64_in _ (by omega)).trans (by omega)
          rw [← hp] at hpl
          obtain ⟨v0, c3⟩ : ∃ v, wr.cell? ⟨w.heap.size + 1, p, none⟩ = some v := ⟨_, hr.cell hpl⟩
          have f3 := hr.frozen p
          obtain ⟨x, hxx⟩ : ∃ x, x = d.lb i := ⟨_, rfl⟩
          obtain ⟨y, hyy⟩ : ∃ y, y = d.lb k := ⟨_, rfl⟩
          rw [← hxx] at l1
          rw [← hyy] at l2
          have HQ := Lib.hid (And.intro hq (And.intro hp (And.intro hxx hyy)))
          have hj1 : (i : Int) < N := by omega
          have hj2 : (k : Int) < N := by omega
          have hj3 : (p : Int) < NN := by omega
          have HRR := Lib.hid hr
          clear hq hp hxx hyy hr hE
          go_wp2_with fail
          go_still_tail 18, (by kernel_rfl)
          change wpList _ _ _ _ _ wr.drew
          go_wp2
          go_roundw
          case rel =>
            refine ⟨k + 1, fun j => if j = p then x != y else M j, by omega, by go_num, ?_, ?_, fun a b h1 h2 h3 => ?_⟩
            · first | exact hx.drew.setCell hG _ | exact (hx.setCell hG _).drew
            · refine World.rowIs.congr (f := fun j => if j = p then .bool (x != y) else .bool (M j)) ?_ (fun j _ => by by_cases e : j = p <;> simp [e])
              first | exact HRR.out.drew.set p _ | exact (HRR.out.set p _).drew
            · have hv : a * N + b = p ↔ a = i ∧ b = k := by
                rw [HQ.out.2.1, HQ.out.1]
                exact ⟨fun e => pair_inj h2 hkN e, fun e => by rw [e.1, e.2]⟩
              show (if a * N + b = p then x != y else M (a * N + b)) = true
              by_cases e : a = i ∧ b = k
              · rw [if_pos (hv.2 e), HQ.out.2.2.1, HQ.out.2.2.2, ← e.1, ← e.2, bne_iff_ne]; exact h3
              · rw [if_neg (fun e' => e (hv.1 e'))]; exact HLM.out a b (by omega) h2 h3
          case measure => simp [intOf]; omega
        · obtain rfl : N = k := by omega
          go_wp2
          go_roundw
          case rel => exact ⟨i + 1, M, by omega, by go_num, hx, hr, fun a b h1 h2 h3 => HLM.out a b (by omega) h2 h3⟩
          case measure => simp [intOf]; omega
    · obtain rfl : N = i := by omega
      have hL : LabM d N M := fun a b h1 h2 h3 => HLM.out a b h1 h2 h3
      clear hiN
      go_wp2
      go_loopg [7] (cntF M NN * 2 + 1) (fun g cv wr => ∃ (M : Nat → Bool) (ch : Bool), cv = .bool ch ∧ Ext (w.alloc O) wr ∧ wr.rowIs (w.heap.size + 1) 4 NN (fun p => .bool (M p)) ∧ LabM d N M ∧ (ch = false → ClosedTo d N M N 0 0) ∧ g = cntF M NN * 2 + b2n ch)
      case atStart => exact ⟨M, true, rfl, hx, hr, hL, fun e => (by cases e), rfl⟩
      case round =>
        clear hx hr hL HLM
        obtain ⟨M0, ch0, rfl, hx, hr, hL, hcl, hg⟩ := hrel
        cases ch0 with
        | false =>
          have hall : ∀ i k, i < N → k < N → i ≠ k → M0 (i * N + k) = true := fun i k h1 h2 h3 => by
            have := all_marked HM.out HAP.out (M := M0) (by rw [← HN.out]; exact hL) (by rw [← HN.out]; exact hcl rfl) (i := i) (k := k) (by rw [← HN.out]; exact h1) (by rw [← HN.out]; exact h2) h3
            rw [← HN.out] at this; exact this
          have HA := Lib.hid hall
          clear hall hcl hL hg
          go_wp2
          go_loopw [11] (fun iv wi => wi = wr ∧ ∃ i : Nat, i ≤ N ∧ iv = .int .i64 i) (fun iv _ => N - (intOf iv).toNat)
          case atStart => exact ⟨rfl, 0, Nat.zero_le _, rfl⟩
          case round =>
            obtain ⟨rfl, i, hi, rfl⟩ := hrel
            by_cases hiN : i < N
            · go_wp2
              go_loopw [12] (fun kv wi => wi = wr ∧ ∃ k : Nat, k ≤ i ∧ kv = .int .i64 k) (fun kv _ => i - (intOf kv).toNat)
              case atStart => exact ⟨rfl, 0, Nat.zero_le _, rfl⟩
              case round =>
                obtain ⟨rfl, k, hk, rfl⟩ := hrel
                by_cases hki : k < i
                · have hpl := pair_lt hiN (Nat.lt_trans hki hiN)
                  rw [← HNN.out] at hpl
                  have hmt := HA.out i k hiN (Nat.lt_trans hki hiN) (by omega)
                  obtain ⟨q, hq⟩ : ∃ q, q = i * N := ⟨_, rfl⟩
                  rw [← hq] at hpl hmt
                  have hw1 : IntKind.i64.wrap ((i : Int) * (N : Int)) = (q : Int) := by
                    have : ((i : Int) * (N : Int)) = (q : Int) := by rw [hq]; simp
                    rw [this]; exact IntWalk.i64_in _ (by omega)
                  obtain ⟨p, hp⟩ : ∃ p, p = q + k := ⟨_, rfl⟩
                  have hw2 : IntKind.i64.wrap ((q : Int) + (k : Int)) = (p : Int) := (IntWalk.i64_in _ (by omega)).trans (by omega)
                  rw [← hp] at hpl hmt
                  have hj3 : (p : Int) < NN := by omega
                  have c3 := hr.cell hpl
                  rw [hmt] at c3
                  clear hq hp hmt
                  go_wp2
                  go_roundw
                  case rel => exact ⟨trivial, k + 1, by omega, by go_num⟩
                  case measure => simp [intOf]; omega
                · obtain rfl : k = i := by omega
                  go_wp2
                  go_roundw
                  case rel => exact ⟨trivial, k + 1, by omega, by go_num⟩
                  case measure => simp [intOf]; omega
            · obtain rfl : N = i := by omega
              go_wp2
              go_ret
              exact ⟨rfl, (Ext.box w O).trans hx⟩
        | true =>
          have HCL := Lib.hid hcl
          have HL := Lib.hid hL
          have HG := Lib.hid hg
          clear hcl hL hg
          go_wp2
          go_loopw [7, 8] (fun cv iv wi => ∃ (i : Nat) (M : Nat → Bool) (ch : Bool), i ≤ N ∧ iv = .int .i64 i ∧ cv = .bool ch ∧ Ext (w.alloc O) wi ∧ wi.rowIs (w.heap.size + 1) 4 NN (fun p => .bool (M p)) ∧ Pass d N M0 M ch i 0 0) (fun _ iv _ => N - (intOf iv).toNat)
          case atStart => exact ⟨0, M0, false, Nat.zero_le _, rfl, rfl, hx, hr, HL.out, fun e => (by cases e), fun _ => ⟨rfl, fun i' k' c' _ _ _ h => by omega⟩⟩
          case round =>
            clear hx hr
            obtain ⟨i, M, ch, hi, rfl, rfl, hx, hr, hP⟩ := hrel
            by_cases hiN : i < N
            · go_wp2
              go_loopw [7, 9] (fun cv kv wi => ∃ (k : Nat) (M : Nat → Bool) (ch : Bool), k ≤ N ∧ kv = .int .i64 k ∧ cv = .bool ch ∧ Ext (w.alloc O) wi ∧ wi.rowIs (w.heap.size + 1) 4 NN (fun p => .bool (M p)) ∧ Pass d N M0 M ch i k 0) (fun _ kv _ => N - (intOf kv).toNat)
              case atStart => exact ⟨0, M, ch, Nat.zero_le _, rfl, rfl, hx, hr, hP⟩
              case round =>
                clear hx hr hP
                obtain ⟨k, M, ch, hk, rfl, rfl, hx, hr, hP⟩ := hrel
                by_cases hkN : k < N
                · go_wp2
                  go_loopw [7, 10] (fun cv bv wi => ∃ (c : Nat) (M : Nat → Bool) (ch : Bool), c ≤ 256 ∧ bv = .int .i64 c ∧ cv = .bool ch ∧ Ext (w.alloc O) wi ∧ wi.rowIs (w.heap.size + 1) 4 NN (fun p => .bool (M p)) ∧ Pass d N M0 M ch i k c) (fun _ bv _ => 256 - (intOf bv).toNat)
                  case atStart => exact ⟨0, M, ch, Nat.zero_le _, rfl, rfl, hx, hr, hP⟩
                  case round =>
                    clear hx hr hP
                    obtain ⟨c, M, ch, hc, rfl, rfl, hx, hr, hP⟩ := hrel
                    have HP := Lib.hid hP
                    have hpl := pair_lt hiN hkN
                    rw [← HNN.out] at hpl
                    obtain ⟨q, hq⟩ : ∃ q, q = i * N := ⟨_, rfl⟩
                    rw [← hq] at hpl
                    have hw1 : IntKind.i64.wrap ((i : Int) * (N : Int)) = (q : Int) := by
                      have : ((i : Int) * (N : Int)) = (q : Int) := by rw [hq]; simp
                      rw [this]; exact IntWalk.i64_in _ (by omega)
                    obtain ⟨p, hp⟩ : ∃ p, p = q + k := ⟨_, rfl⟩
                    have hw2 : IntKind.i64.wrap ((q : Int) + (k : Int)) = (p : Int) := (IntWalk.i64_in _ (by omega)).trans (by omega)
                    rw [← hp] at hpl
                    have hpe : p = i * N + k := by rw [hp, hq]
                    have HPE := Lib.hid hpe
                    have hj3 : (p : Int) < NN := by omega
                    have c3 := hr.cell hpl
                    have HRR := Lib.hid hr
                    have f3 := hr.frozen p
                    clear hP hq hp hpe hr
                    by_cases hc256 : c < 256
                    · have hj4 : (c : Int) < 256 := by omega
                      cases hmp : M p with
                      | true =>
                        rw [hmp] at c3
                        have HMP := Lib.hid hmp
                        clear hmp
                        go_wp2
                        go_roundw
                        case rel => exact ⟨k + 1, M, ch, by omega, by go_num, rfl, hx, HRR.out, HP.out.done (.inr (by rw [← HPE.out]; exact HMP.out))⟩
                        case measure => simp [intOf]; omega
                      | false =>
                        rw [hmp] at c3
                        have HMP := Lib.hid hmp
                        clear hmp
                        obtain ⟨b0, b1⟩ := HB.out _ hx
                        have hE := (Ext.box w O).trans hx
                        obtain ⟨br1, ro1, cr1, r1, r2⟩ := HC.out.row i (by rw [← HN.out]; exact hiN)
                        obtain ⟨br2, ro2, cr2, r3, r4⟩ := HC.out.row k (by rw [← HN.out]; exact hkN)
                        have s1 := hE.cell r1
                        have s2 := hE.cell (r2 c hc256)
                        have s3 := hE.cell r3
                        have s4 := hE.cell (r4 c hc256)
                        have hlt1 := HM.out.nx_lt (s := i) (c := c) (by rw [← HN.out]; exact hiN) hc256
                        have hlt2 := HM.out.nx_lt (s := k) (c := c) (by rw [← HN.out]; exact hkN) hc256
                        rw [← HN.out] at hlt1 hlt2
                        obtain ⟨a, ha⟩ : ∃ a, a = d.nx i c := ⟨_, rfl⟩
                        obtain ⟨b, hb⟩ : ∃ b, b = d.nx k c := ⟨_, rfl⟩
                        rw [← ha] at hlt1 s2
                        rw [← hb] at hlt2 s4
                        have hpl2 := pair_lt hlt1 hlt2
                        rw [← HNN.out] at hpl2
                        obtain ⟨q2, hq2⟩ : ∃ q2, q2 = a * N := ⟨_, rfl⟩
                        rw [← hq2] at hpl2
                        have hw3 : IntKind.i64.wrap ((a : Int) * (N : Int)) = (q2 : Int) := by
                          have : ((a : Int) * (N : Int)) = (q2 : Int) := by rw [hq2]; simp
                          rw [this]; exact IntWalk.i64_in _ (by omega)
                        obtain ⟨p2, hp2⟩ : ∃ p2, p2 = q2 + b := ⟨_, rfl⟩
                        have hw4 : IntKind.i64.wrap ((q2 : Int) + (b : Int)) = (p2 : Int) := (IntWalk.i64_in _ (by omega)).trans (by omega)
                        rw [← hp2] at hpl2
                        have hpe2 : p2 = d.nx i c * N + d.nx k c := by rw [hp2, hq2, ha, hb]
                        have HPE2 := Lib.hid hpe2
                        have hj5 : (p2 : Int) < NN := by omega
                        have hj6 : (i : Int) < N := by omega
                        have hj7 : (k : Int) < N := by omega
                        have c4 := HRR.out.cell hpl2
                        clear r1 r2 r3 r4 ha hb hq2 hp2 hpe2 hE
                        cases hmp2 : M p2 with
                        | true =>
                          rw [hmp2] at c4
                          clear hmp2
                          go_wp2
                          go_quiet (fail)
                          go_wp2
                          go_roundw
                          case rel =>
                            refine ⟨c + 1, mark M (i * N + k), true, by omega, by go_num, rfl, ?_, ?_, HP.out.hit hiN hkN (by rw [← HPE.out]; exact HMP.out)⟩
                            · exact (hx.drewN _).setCell hG _
                            · rw [← HPE.out]
                              exact World.rowIs.congr (f := fun j => if j = p then .bool true else .bool (M j)) ((rowIs_ext ((Ext.refl wr).drewN _) HRR.out).set p _) (fun j _ => by unfold mark; by_cases e : j = p <;> simp [e])
                          case measure => simp [intOf]; omega
                        | false =>
                          rw [hmp2] at c4
                          have HMP2 := Lib.hid hmp2
                          clear hmp2
                          go_wp2
                          go_quiet (fail)
                          go_wp2
                          go_roundw
                          case rel => exact ⟨c + 1, M, ch, by omega, by go_num, rfl, hx.drewN _, rowIs_ext ((Ext.refl wr).drewN _) HRR.out, HP.out.miss (by rw [← HPE2.out]; exact HMP2.out)⟩
                          case measure => simp [intOf]; omega
                    · obtain rfl : c = 256 := by omega
                      go_wp2
                      go_roundw
                      case rel => exact ⟨k + 1, M, ch, by omega, by go_num, rfl, hx, HRR.out, HP.out.done (.inl rfl)⟩
                      case measure => simp [intOf]; omega
                · obtain rfl : N = k := by omega
                  go_wp2
                  go_roundw
                  case rel => exact ⟨i + 1, M, ch, by omega, by go_num, rfl, hx, hr, hP.row⟩
                  case measure => simp [intOf]; omega
            · obtain rfl : N = i := by omega
              go_wp2
              have hlt : cntF M NN * 2 + b2n ch < gk := by
                rw [HG.out, HNN.out]
                cases hch : ch with
                | true => have := hP.yes hch; simp [b2n]; omega
                | false => rw [(hP.no hch).1]; simp [b2n]
              go_roundg (cntF M NN * 2 + b2n ch)
              case measure => exact hlt
              case rel => exact ⟨M, ch, rfl, hx, hr, hP.lab, fun e => by rw [(hP.no e).1]; exact (hP.no e).2, rfl⟩
end Go.Proofs.YtmacobegnkmmcaaDoor
