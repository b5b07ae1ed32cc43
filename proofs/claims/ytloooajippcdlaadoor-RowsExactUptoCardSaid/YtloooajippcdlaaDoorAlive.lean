/- rows.alive: which states lead to a label. -/
import Derived.Test.YtloooajippcdlaaDoorRowsMath
import Derived.Test.YtloooajippcdlaaDoorCheck
import Derived.Test.YtloooajippcdlaaDoorDn
import Derived.Test.YtloooajippcdlaaDoorMem
import Derived.Test.YtloooajippcdlaaDoorOwn
import Derived.Deep.QuietTactic
import Derived.BigQuiet
import Derived.StillTailTactics
import Derived.Deep.DeepCutAuto
import Derived.Deep.LoopGhost
namespace Go.Proofs.YtloooajippcdlaaDoor
open Go.RowKit
namespace RM
open LM (Aut)

/-- how many of the first m are not marked -/
def dead (M : Nat → Bool) : Nat → Nat
  | 0 => 0
  | m + 1 => dead M m + cond (M m) 0 1
def mk (M : Nat → Bool) (p : Nat) (q : Nat) : Bool := if q = p then true else M q
theorem mk_same (M : Nat → Bool) (p : Nat) : mk M p p = true := if_pos rfl
theorem mk_other (M : Nat → Bool) {p q : Nat} (h : q ≠ p) : mk M p q = M q := if_neg h
theorem mk_true {M : Nat → Bool} {p q : Nat} (h : M q = true) : mk M p q = true := by unfold mk; split; rfl; exact h
theorem dead_le (M : Nat → Bool) (p : Nat) : ∀ m, dead (mk M p) m ≤ dead M m
  | 0 => Nat.le_refl _
  | m + 1 => by
    have := dead_le M p m
    simp only [dead]
    by_cases e : m = p
    · subst e; rw [mk_same]; simp only [cond_true]; omega
    · rw [mk_other M e]; omega
theorem dead_lt (M : Nat → Bool) {p : Nat} (hp : M p = false) : ∀ m, p < m → dead (mk M p) m < dead M m
  | 0, h => by omega
  | m + 1, h => by
    simp only [dead]
    by_cases e : m = p
    · subst e
      have := dead_le M m m
      rw [mk_same, hp]
      simp only [cond_true, cond_false]; omega
    · have := dead_lt M hp m (by omega)
      rw [mk_other M e]; omega
def b2 (b : Bool) : Nat := cond b 1 0

/-- what is marked lives; what has a label is marked -/
structure Mk (A : Aut) (M : Nat → Bool) : Prop where
  sound : ∀ s, s < A.n → M s = true → Live A s
  lab : ∀ s, s < A.n → 0 ≤ A.lb s → M s = true
/-- a pass over all entries, before entry c of state s -/
structure Pass (A : Aut) (M0 M : Nat → Bool) (ch : Bool) (s c : Nat) : Prop where
  good : Mk A M
  yes : ch = true → dead M A.n < dead M0 A.n
  no : ch = false → M = M0 ∧ ∀ t k, (t < s ∨ (t = s ∧ k < c)) → k < 256 → M (A.nx t k) = true → M t = true
theorem Pass.start {A : Aut} {M : Nat → Bool} (h : Mk A M) : Pass A M M false 0 0 := ⟨h, fun e => (by cases e), fun _ => ⟨rfl, fun t k hk => (by omega)⟩⟩
theorem Pass.row {A : Aut} {M0 M : Nat → Bool} {ch : Bool} {s : Nat} (h : Pass A M0 M ch s 256) : Pass A M0 M ch (s + 1) 0 :=
  ⟨h.good, h.yes, fun e => ⟨(h.no e).1, fun t k ht hk => (h.no e).2 t k (by omega) hk⟩⟩
theorem Pass.skip {A : Aut} {M0 M : Nat → Bool} {ch : Bool} {s c : Nat} (h : Pass A M0 M ch s c) (hs : M (A.nx s c) = false ∨ M s = true) : Pass A M0 M ch s (c + 1) :=
  ⟨h.good, h.yes, fun e => ⟨(h.no e).1, fun t k ht hk hm => by
    by_cases e2 : t = s ∧ k = c
    · obtain ⟨rfl, rfl⟩ := e2
      rcases hs with hs | hs
      · rw [hs] at hm; cases hm
      · exact hs
    · exact (h.no e).2 t k (by omega) hk hm⟩⟩
theorem Pass.hit {A : Aut} {M0 M : Nat → Bool} {ch : Bool} {s c : Nat} (h : Pass A M0 M ch s c) (hA : A.ok) (hs : s < A.n) (hc : c < 256) (h1 : M (A.nx s c) = true) (h2 : M s = false) : Pass A M0 (RM.mk M s) true s (c + 1) where
  good := ⟨fun t ht hm => by
    by_cases e : t = s
    · subst e; exact live_step hc (h.good.sound _ (hA.2 t c ht hc) h1)
    · rw [mk_other M e] at hm; exact h.good.sound t ht hm, fun t ht hl => mk_true (h.good.lab t ht hl)⟩
  yes _ := by
    have h3 := dead_lt M h2 A.n hs
    cases hch : ch with
    | true => have := h.yes hch; omega
    | false => rw [← (h.no hch).1]; exact h3
  no e := by cases e
theorem Pass.done {A : Aut} {M0 M : Nat → Bool} {s : Nat} (hA : A.ok) (h : Pass A M0 M false s 0) (hs : A.n ≤ s) {t : Nat} (ht : t < A.n) : M t = liveB A t :=
  live_eq hA h.good.lab (fun s' c hs' hc => (h.no rfl).2 s' c (by omega) hc) h.good.sound ht
end RM

theorem bool_info15 : (Tryd.prog.info? 4).map (fun i => (i.zero, i.size, i.bytes)) = some (some (.bool false), 1, 1) := by kernel_rfl

/-- the marks' row lies behind w -/
structure AlvS (w wr : World) (n : Nat) (M : Nat → Bool) : Prop where
  ext : Ext w wr
  row : wr.rowIs w.heap.size 4 n (fun s => .bool (M s))
theorem AlvS.set {w wr : World} {n : Nat} {M : Nat → Bool} (h : AlvS w wr n M) (p : Nat) (b : Bool) : AlvS w (wr.setCell ⟨w.heap.size, p, none⟩ (.bool b)) n (fun q => if q = p then b else M q) :=
  ⟨Below.setCell h.ext (Nat.le_refl _) _, (h.row.set p _).congr fun j _ => by split <;> rfl⟩
theorem AlvS.congr {w wr : World} {n : Nat} {M M' : Nat → Bool} (h : AlvS w wr n M) (e : ∀ q, q < n → M q = M' q) : AlvS w wr n M' := ⟨h.ext, h.row.congr fun j hj => by rw [e j hj]⟩

def AliveR (d : Dn) (w : World) (e : Ending) (w' : World) : Prop :=
  ∃ g, e = .returned (.slice (some ⟨g, 0, none⟩) d.next.length d.next.length) ∧ w.heap.size ≤ g ∧ w'.rowIs g 4 d.next.length (fun s => .bool (RM.liveB d.aut s)) ∧ Ext w w'

set_option maxRecDepth 100000 in
set_option maxHeartbeats 1000000 in
theorem alive_c {v : Value} {d : Dn} {w : World} (h : DenseV w v d) (hm : May d) : Calls Tryd.prog 65 #[v] w (AliveR d w) := by
  obtain ⟨bn, on, cn, bl, ol, cl, rfl, hc⟩ := h.cells hm
  obtain ⟨N, hN⟩ : ∃ N, N = d.next.length := ⟨_, rfl⟩
  have hpos : 0 < N := by rw [hN]; exact hm.pos
  have hmost : N ≤ 600 := by rw [hN]; exact hm.most
  have hA := hm.ok
  have hAn : d.aut.n = N := hN.symm
  have hdef : AliveR d w = fun e w' => ∃ g, e = .returned (.slice (some ⟨g, 0, none⟩) N N) ∧ w.heap.size ≤ g ∧ w'.rowIs g 4 N (fun s => .bool (RM.liveB d.aut s)) ∧ Ext w w' := by funext e w'; unfold AliveR; rw [← hN]
  rw [hdef, ← hN]
  obtain ⟨w0, hw0⟩ : ∃ w0, w0 = w.alloc (.cells #[.slice (some ⟨bn, on, none⟩) N cn, .slice (some ⟨bl, ol, none⟩) N cl] 25) := ⟨_, rfl⟩
  have b0 : w0.cell? ⟨w.heap.size, 0, none⟩ = some (.slice (some ⟨bn, on, none⟩) N cn) := by rw [hw0]; exact new_cell rfl
  have b1 : w0.cell? ⟨w.heap.size, 1, none⟩ = some (.slice (some ⟨bl, ol, none⟩) N cl) := by rw [hw0]; exact new_cell rfl
  have hx0 : Ext w w0 := by rw [hw0]; exact Ext.box _ _
  have H := Lib.hid (And.intro hA (And.intro hAn (And.intro hN (And.intro (hc.ext hx0) hm))))
  have HW := Lib.hid (And.intro hw0 (And.intro b0 (And.intro b1 hx0)))
  have hmk := run_make_any (P := Tryd.prog) 103 4 (.bool false) 1 1 Tryd.underlying103 bool_info15 .i64 .i64 N (by omega) (by omega)
  clear hA hAn hN hc hm h hdef hw0 hx0
  go_enter Tryd.func65, Tryd.ntmps65
  go_wp2_with fail
  clear hmk
  rw [← HW.out.1]
  have hz : w.heap.size + 1 = w0.heap.size := by rw [HW.out.1]; simp
  try rw [hz]
  have hs0 : AlvS w0 (w0.alloc (.cells (madeCells #[.bool false] N) 4)) N (fun s => decide (s < 0) && decide (0 ≤ d.lb s)) :=
    ⟨Ext.box _ _, (World.rowIs_made w0 (.bool false) N 4).congr fun j _ => by simp⟩
  have HS0 := Lib.hid hs0
  clear hs0 hz
  go_loopw [18] (fun iv wr => ∃ i : Nat, i ≤ N ∧ iv = .int .i64 i ∧ AlvS w0 wr N (fun s => decide (s < i) && decide (0 ≤ d.lb s))) (fun iv _ => N - (intOf iv).toNat)
  case atStart => exact ⟨0, Nat.zero_le _, rfl, HS0.out⟩
  case round =>
    obtain ⟨i, hi, rfl, hS⟩ := hrel
    have k0 := hS.ext.cell HW.out.2.1
    have k1 := hS.ext.cell HW.out.2.2.1
    by_cases hlt : i < N
    · have hl := hS.ext.cell (H.out.2.2.2.1.label i (by rw [← H.out.2.2.1]; exact hlt))
      obtain ⟨x, hx⟩ : ∃ x, x = d.lb i := ⟨_, rfl⟩
      rw [← hx] at hl
      have hse := hS.row.cell hlt
      have hsf := hS.row.frozen i
      have hj1 : (i : Int) < N := by omega
      have HX := Lib.hid (And.intro hx hS)
      clear hx hS
      go_wp2
      go_roundw
      case rel => exact ⟨i + 1, by omega, by go_num, (HX.out.2.set i (decide (0 ≤ x))).congr fun q _ => by
        by_cases e : q = i
        · subst e; rw [if_pos rfl, HX.out.1]; simp
        · rw [if_neg e]
          have : decide (q < i + 1) = decide (q < i) := by simp; omega
          rw [this]⟩
      case measure => simp [intOf]; omega
    · obtain rfl : N = i := by omega
      obtain ⟨M, hM⟩ : ∃ M : Nat → Bool, M = fun s => decide (s < N) && decide (0 ≤ d.lb s) := ⟨_, rfl⟩
      rw [← hM] at hS
      have hMk : RM.Mk d.aut M := by
        constructor
        · intro s _ h
          rw [hM] at h
          simp at h
          exact RM.live_label h.2
        · intro s hs h
          rw [H.out.2.1] at hs
          rw [hM]
          simp only [Bool.and_eq_true, decide_eq_true_eq]
          exact ⟨hs, h⟩
      have HMk := Lib.hid (And.intro hMk hS)
      clear hMk hS hM hlt
      go_wp2
      clear k0 k1
      go_loopg [6] (RM.dead M N * 2 + 1) (fun g mv wr => ∃ (M : Nat → Bool) (ch : Bool), mv = .bool ch ∧ AlvS w0 wr N M ∧ RM.Mk d.aut M ∧ (ch = false → ∀ s, s < N → M s = RM.liveB d.aut s) ∧ g = RM.dead M N * 2 + RM.b2 ch)
      case atStart => exact ⟨M, true, rfl, HMk.out.2, HMk.out.1, fun e => (by cases e), rfl⟩
      case round =>
        clear HMk
        obtain ⟨M0, ch0, rfl, hS, hMk, hcl, hg⟩ := hrel
        have HG := Lib.hid hg
        clear hg
        cases ch0 with
        | false =>
          have HE := Lib.hid (And.intro hS hcl)
          clear hS hcl hMk
          go_wp2
          go_ret
          exact ⟨w0.heap.size, rfl, HW.out.2.2.2.size, HE.out.1.row.congr fun j hj => by rw [HE.out.2 trivial j hj], HW.out.2.2.2.trans HE.out.1.ext⟩
        | true =>
          have HP0 := Lib.hid (And.intro hS (RM.Pass.start hMk))
          have k0 := hS.ext.cell HW.out.2.1
          clear hS hMk hcl
          go_wp2
          clear k0
          go_loopw [6, 33] (fun mv sv wr => ∃ (s : Nat) (M : Nat → Bool) (ch : Bool), s ≤ N ∧ sv = .int .i64 s ∧ mv = .bool ch ∧ AlvS w0 wr N M ∧ RM.Pass d.aut M0 M ch s 0) (fun _ sv _ => N - (intOf sv).toNat)
          case atStart => exact ⟨0, M0, false, Nat.zero_le _, rfl, rfl, HP0.out.1, HP0.out.2⟩
          case round =>
            clear HP0
            obtain ⟨s, M, ch, hs, rfl, rfl, hS, hP⟩ := hrel
            by_cases hsN : s < N
            · obtain ⟨br, ro, cr, r0, r1⟩ := H.out.2.2.2.1.row s (by rw [← H.out.2.2.1]; exact hsN)
              have c0 := hS.ext.cell r0
              have hj1 : (s : Int) < N := by omega
              have HR := Lib.hid r1
              have HP := Lib.hid (And.intro hS hP)
              clear r0 r1 hS hP
              go_wp2
              clear c0
              go_loopw [6, 40] (fun mv cv wr => ∃ (c : Nat) (M : Nat → Bool) (ch : Bool), c ≤ 256 ∧ cv = .int .i64 c ∧ mv = .bool ch ∧ AlvS w0 wr N M ∧ RM.Pass d.aut M0 M ch s c) (fun _ cv _ => 256 - (intOf cv).toNat)
              case atStart => exact ⟨0, M, ch, Nat.zero_le _, rfl, rfl, HP.out.1, HP.out.2⟩
              case round =>
                clear HP
                obtain ⟨c, M, ch, hc, rfl, rfl, hS, hP⟩ := hrel
                by_cases hcl : c < 256
                · have c1 := hS.ext.cell (HR.out c hcl)
                  have htN := H.out.2.2.2.2.nx_lt (s := s) (c := c) (by rw [← H.out.2.2.1]; exact hsN) hcl
                  obtain ⟨t, ht⟩ : ∃ t, t = d.nx s c := ⟨_, rfl⟩
                  rw [← ht] at c1 htN
                  rw [← H.out.2.2.1] at htN
                  have m0 := hS.row.cell htN
                  have m1 := hS.row.cell hsN
                  have f1 := hS.row.frozen s
                  have hj2 : (t : Int) < N := by omega
                  have hj3 : (c : Int) < 256 := by omega
                  obtain ⟨y, hy⟩ : ∃ y, y = M t := ⟨_, rfl⟩
                  obtain ⟨z, hz⟩ : ∃ z, z = M s := ⟨_, rfl⟩
                  rw [← hy] at m0
                  rw [← hz] at m1
                  have HQ := Lib.hid (And.intro hS (And.intro hP (And.intro ht (And.intro hy hz))))
                  clear hS hP ht hy hz
                  cases y
                  · go_wp2
                    go_roundw
                    case rel => exact ⟨c + 1, M, ch, by omega, by go_num, rfl, HQ.out.1, HQ.out.2.1.skip (.inl (by have := HQ.out.2.2.2.1; rw [HQ.out.2.2.1] at this; exact this.symm))⟩
                    case measure => simp [intOf]; omega
                  · cases z
                    · go_wp2
                      go_roundw
                      case rel => exact ⟨c + 1, RM.mk M s, true, by omega, by go_num, rfl, HQ.out.1.set s true, HQ.out.2.1.hit H.out.1 (by rw [H.out.2.1]; exact hsN) hcl (by have := HQ.out.2.2.2.1; rw [HQ.out.2.2.1] at this; exact this.symm) HQ.out.2.2.2.2.symm⟩
                      case measure => simp [intOf]; omega
                    · go_wp2
                      go_roundw
                      case rel => exact ⟨c + 1, M, ch, by omega, by go_num, rfl, HQ.out.1, HQ.out.2.1.skip (.inr HQ.out.2.2.2.2.symm)⟩
                      case measure => simp [intOf]; omega
                · obtain rfl : c = 256 := by omega
                  have HP := Lib.hid (And.intro hS hP)
                  clear hS hP
                  go_wp2
                  go_roundw
                  case rel => exact ⟨s + 1, M, ch, by omega, by go_num, rfl, HP.out.1, HP.out.2.row⟩
                  case measure => simp [intOf]; omega
            · obtain rfl : N = s := by omega
              have HP := Lib.hid (And.intro hS hP)
              clear hS hP
              go_wp2
              have hlt : RM.dead M N * 2 + RM.b2 ch < gk := by
                rw [HG.out]
                have h2 := H.out.2.1
                cases hch : ch with
                | true => have := HP.out.2.yes hch; rw [h2] at this; simp [RM.b2]; omega
                | false => rw [(HP.out.2.no hch).1]; simp [RM.b2]
              go_roundg (RM.dead M N * 2 + RM.b2 ch)
              case measure => exact hlt
              case rel => exact ⟨M, ch, rfl, HP.out.1, HP.out.2.good, fun e s hs => by subst e; exact HP.out.2.done H.out.1 (by rw [H.out.2.1]; exact Nat.le_refl _) (by rw [H.out.2.1]; exact hs), rfl⟩
end Go.Proofs.YtloooajippcdlaaDoor
