/- bolterlaw15.reaching: of each state, whether a label of 0 or more can be reached. -/
import Derived.Test.YtngbaaiocoobdaaDoorAlive
namespace Go.Proofs.YtngbaaiocoobdaaDoor
open Go.RowKit
namespace RM
open LM (Aut)

def put (M : Nat → Bool) (s : Nat) (v : Bool) (q : Nat) : Bool := if q = s then v else M q
theorem put_same (M : Nat → Bool) (s : Nat) : put M s (M s) = M := by funext q; unfold put; split <;> simp_all
theorem put_true {M : Nat → Bool} {s : Nat} (h : M s = true) : put M s true = M := by have := put_same M s; rw [h] at this; exact this
theorem put_false {M : Nat → Bool} {s : Nat} (h : M s = false) : put M s false = M := by have := put_same M s; rw [h] at this; exact this
theorem put_mk (M : Nat → Bool) (s : Nat) : put M s true = mk M s := rfl
theorem dead_le_n (M : Nat → Bool) : ∀ m, dead M m ≤ m
  | 0 => Nat.le_refl _
  | m + 1 => by have := dead_le_n M m; simp only [dead]; cases M m <;> simp <;> omega

/-- a pass, before entry c of state s; l: the state's label has been looked at -/
structure Rch (A : Aut) (M0 M : Nat → Bool) (s : Nat) (l : Bool) (c : Nat) : Prop where
  sound : ∀ t, t < A.n → M t = true → Live A t
  sub : ∀ t, M0 t = true → M t = true
  how : dead M A.n < dead M0 A.n ∨ (M = M0 ∧ (∀ t, (t < s ∨ (t = s ∧ l = true)) → 0 ≤ A.lb t → M t = true) ∧ ∀ t k, (t < s ∨ (t = s ∧ k < c)) → k < 256 → M (A.nx t k) = true → M t = true)
variable {A : Aut} {M0 M : Nat → Bool} {s c : Nat} {l : Bool}
theorem Rch.start (h : ∀ t, t < A.n → M t = true → Live A t) : Rch A M M 0 false 0 := ⟨h, fun _ e => e, .inr ⟨rfl, fun t ht => ht.elim (fun h => absurd h (Nat.not_lt_zero _)) (fun h => by cases h.2), fun t k ht => by omega⟩⟩
theorem Rch.grow (h : Rch A M0 M s l c) (hs : s < A.n) (hl : Live A s) (h0 : M s = false) {l' : Bool} {c' : Nat} : Rch A M0 (put M s true) s l' c' := by
  refine ⟨fun t ht hm => ?_, fun t hm => ?_, .inl ?_⟩
  · unfold put at hm
    split at hm
    · rename_i e; subst e; exact hl
    · exact h.sound t ht hm
  · unfold put; split
    · rfl
    · exact h.sub t hm
  · rw [put_mk]
    have h1 := dead_lt M h0 A.n hs
    rcases h.how with h2 | h2
    · omega
    · rw [← h2.1]; exact h1
theorem Rch.lab (h : Rch A M0 M s false 0) (hs : s < A.n) : Rch A M0 (put M s (M s || decide (0 ≤ A.lb s))) s true 0 := by
  cases hm : M s with
  | true =>
    rw [Bool.true_or, put_true hm]
    refine ⟨h.sound, h.sub, h.how.imp id fun ⟨h1, h2, h3⟩ => ⟨h1, fun t ht hl => ?_, h3⟩⟩
    by_cases e : t = s
    · subst e; exact hm
    · exact h2 t (.inl (by omega)) hl
  | false =>
    rw [Bool.false_or]
    by_cases hl : 0 ≤ A.lb s
    · rw [decide_eq_true hl]; exact h.grow hs (live_label hl) hm
    · rw [decide_eq_false hl, put_false hm]
      refine ⟨h.sound, h.sub, h.how.imp id fun ⟨h1, h2, h3⟩ => ⟨h1, fun t ht hl' => ?_, h3⟩⟩
      by_cases e : t = s
      · subst e; exact absurd hl' hl
      · exact h2 t (.inl (by omega)) hl'
theorem Rch.ent (h : Rch A M0 M s true c) (hA : A.ok) (hs : s < A.n) (hc : c < 256) : Rch A M0 (put M s (M s || M (A.nx s c))) s true (c + 1) := by
  have hsame : (M s = true ∨ M (A.nx s c) = false) → Rch A M0 M s true (c + 1) := fun ho =>
    ⟨h.sound, h.sub, h.how.imp id fun ⟨h1, h2, h3⟩ => ⟨h1, h2, fun t k ht hk hm => by
      by_cases e : t = s ∧ k = c
      · obtain ⟨rfl, rfl⟩ := e
        rcases ho with ho | ho
        · exact ho
        · rw [ho] at hm; cases hm
      · exact h3 t k (by omega) hk hm⟩⟩
  cases hm : M s with
  | true => rw [Bool.true_or, put_true hm]; exact hsame (.inl hm)
  | false =>
    rw [Bool.false_or]
    cases hn : M (A.nx s c) with
    | true => exact h.grow hs (live_step hc (h.sound _ (hA.2 s c hs hc) hn)) hm
    | false => rw [put_false hm]; exact hsame (.inr hn)
theorem Rch.row (h : Rch A M0 M s true 256) : Rch A M0 M (s + 1) false 0 :=
  ⟨h.sound, h.sub, h.how.imp id fun ⟨h1, h2, h3⟩ => ⟨h1, fun t ht hl => h2 t (ht.elim (fun h1 => if e2 : t < s then .inl e2 else .inr ⟨by omega, rfl⟩) (fun h1 => by cases h1.2)) hl, fun t k ht hk hm => h3 t k (by omega) hk hm⟩⟩

/-- how far the marks are after k passes -/
def RchInv (A : Aut) (M : Nat → Bool) (k : Nat) : Prop := (∀ t, t < A.n → M t = true → Live A t) ∧ ((∀ t, t < A.n → M t = liveB A t) ∨ dead M A.n + k ≤ A.n)
theorem RchInv.begin (A : Aut) : RchInv A (fun _ => false) 0 := ⟨fun _ _ e => (by cases e), .inr (by have := dead_le_n (fun _ => false) A.n; omega)⟩
theorem Rch.next {k : Nat} (hA : A.ok) (h0 : RchInv A M0 k) (h : Rch A M0 M A.n false 0) : RchInv A M (k + 1) := by
  refine ⟨h.sound, ?_⟩
  rcases h0.2 with h1 | h1
  · left
    intro t ht
    rw [Bool.eq_iff_iff, liveB_iff]
    exact ⟨h.sound t ht, fun hl => h.sub t (by rw [h1 t ht]; exact liveB_iff.2 hl)⟩
  · rcases h.how with h2 | ⟨rfl, h2, h3⟩
    · right; omega
    · left
      intro t ht
      exact live_eq hA (fun t ht hl => h2 t (.inl ht) hl) (fun t c ht hc hm => h3 t c (.inl ht) hc hm) h.sound ht
theorem RchInv.done (h : RchInv A M (A.n + 1)) {t : Nat} (ht : t < A.n) : M t = liveB A t := by
  rcases h.2 with h1 | h1
  · exact h1 t ht
  · omega
end RM

def ReachR (d : Dn) (w : World) (e : Ending) (w' : World) : Prop :=
  ∃ g, e = .returned (.slice (some ⟨g, 0, none⟩) d.next.length d.next.length) ∧ w'.rowIs g 4 d.next.length (fun s => .bool (RM.liveB d.aut s)) ∧ Ext w w'

set_option maxRecDepth 100000 in
set_option maxHeartbeats 1000000 in
theorem reach_c {v : Value} {d : Dn} {w : World} (h : DenseV w v d) (hm : May d) : Calls Tryd.prog 22 #[v] w (ReachR d w) := by
  obtain ⟨bn, on, cn, bl, ol, cl, rfl, hc⟩ := h.cells hm
  obtain ⟨N, hN⟩ : ∃ N, N = d.next.length := ⟨_, rfl⟩
  have hmost : N ≤ 600 := by rw [hN]; exact hm.most
  have hA := hm.ok
  have hAn : d.aut.n = N := hN.symm
  have hdef : ReachR d w = fun e w' => ∃ g, e = .returned (.slice (some ⟨g, 0, none⟩) N N) ∧ w'.rowIs g 4 N (fun s => .bool (RM.liveB d.aut s)) ∧ Ext w w' := by funext e w'; unfold ReachR; rw [← hN]
  rw [hdef, ← hN]
  obtain ⟨w0, hw0⟩ : ∃ w0, w0 = w.alloc (.cells #[.slice (some ⟨bn, on, none⟩) N cn, .slice (some ⟨bl, ol, none⟩) N cl] 25) := ⟨_, rfl⟩
  have b0 : w0.cell? ⟨w.heap.size, 0, none⟩ = some (.slice (some ⟨bn, on, none⟩) N cn) := by rw [hw0]; exact new_cell rfl
  have b1 : w0.cell? ⟨w.heap.size, 1, none⟩ = some (.slice (some ⟨bl, ol, none⟩) N cl) := by rw [hw0]; exact new_cell rfl
  have hx0 : Ext w w0 := by rw [hw0]; exact Ext.box _ _
  have H := Lib.hid (And.intro hA (And.intro hAn (And.intro hN (And.intro (hc.ext hx0) hm))))
  have HW := Lib.hid (And.intro hw0 (And.intro b0 (And.intro b1 hx0)))
  have hmk := run_make_any (P := Tryd.prog) 48 4 (.bool false) 1 1 Tryd.underlying48 bool_info15 .i64 .i64 N (by omega) (by omega)
  clear hA hAn hN hc hm h hdef hw0 hx0
  go_enter Tryd.func22, Tryd.ntmps22
  go_wp2_with fail
  clear hmk
  rw [← HW.out.1]
  have hz : w.heap.size + 1 = w0.heap.size := by rw [HW.out.1]; simp
  try rw [hz]
  have hs0 : AlvS w0 (w0.alloc (.cells (madeCells #[.bool false] N) 4)) N (fun _ => false) :=
    ⟨Ext.box _ _, World.rowIs_made w0 (.bool false) N 4⟩
  have HS0 := Lib.hid hs0
  clear hs0 hz b0 b1
  go_loopw [4] (fun kv wr => ∃ (k : Nat) (M : Nat → Bool), k ≤ N + 1 ∧ kv = .int .i64 k ∧ AlvS w0 wr N M ∧ RM.RchInv d.aut M k) (fun kv _ => N + 1 - (intOf kv).toNat)
  case atStart => exact ⟨0, _, Nat.zero_le _, rfl, HS0.out, RM.RchInv.begin _⟩
  case round =>
    clear HS0
    rename World => w1
    obtain ⟨k, M0, hk, rfl, hS, hI⟩ := hrel
    have k0 := hS.ext.cell HW.out.2.1
    by_cases hlt : k ≤ N
    · have hj1 : (k : Int) ≤ N := by omega
      have HP := Lib.hid (And.intro hS hI)
      clear hS hI
      go_wp2
      clear k0
      go_loopw [5] (fun sv wr => ∃ (s : Nat) (M : Nat → Bool), s ≤ N ∧ sv = .int .i64 s ∧ AlvS w0 wr N M ∧ RM.Rch d.aut M0 M s false 0) (fun sv _ => N - (intOf sv).toNat)
      case atStart => exact ⟨0, M0, Nat.zero_le _, rfl, HP.out.1, RM.Rch.start HP.out.2.1⟩
      case round =>
        rename World => w2
        obtain ⟨s, M, hs, rfl, hS, hR⟩ := hrel
        have k0 := hS.ext.cell HW.out.2.1
        by_cases hlts : s < N
        · have k1 := hS.ext.cell HW.out.2.2.1
          have hl := hS.ext.cell (H.out.2.2.2.1.label s (by rw [← H.out.2.2.1]; exact hlts))
          have m0 := hS.row.cell hlts
          have f0 := hS.row.frozen s
          obtain ⟨y, hy⟩ : ∃ y, y = M s := ⟨_, rfl⟩
          obtain ⟨x, hx⟩ : ∃ x, x = d.lb s := ⟨_, rfl⟩
          rw [← hy] at m0
          rw [← hx] at hl
          have hj2 : (s : Int) < N := by omega
          have hR2 := hR.lab (by rw [H.out.2.1]; exact hlts)
          rw [← hy, show d.aut.lb s = x from hx.symm] at hR2
          have hS2 := hS.set s (y || decide (0 ≤ x))
          have HQ := Lib.hid (And.intro hS2 hR2)
          clear hS hR hS2 hR2 hy hx
          obtain ⟨br, ro, cr, r0, r1⟩ := H.out.2.2.2.1.row s (by rw [← H.out.2.2.1]; exact hlts)
          have HRW := Lib.hid (And.intro r0 r1)
          clear r0 r1
          obtain ⟨w3, hw3⟩ : ∃ w3, w3 = w2.setCell ⟨w0.heap.size, s, none⟩ (.bool (y || decide (0 ≤ x))) := ⟨_, rfl⟩
          have HW3 := Lib.hid hw3
          clear hw3
          cases y
          all_goals
            go_upto_region 9 with fail
            (try simp only [Bool.false_or, Bool.true_or] at HW3)
            rw [← HW3.out]
            have hS3 := HQ.out.1
            simp only [Bool.false_or, Bool.true_or] at hS3
            rw [← HW3.out] at hS3
            have hR3 := HQ.out.2
            simp only [Bool.false_or, Bool.true_or] at hR3
            have HT := Lib.hid (And.intro hS3 hR3)
            clear hS3 hR3 k0 k1 hl m0 f0
            go_wp2
            go_loopw [6] (fun cv wr => ∃ (c : Nat) (M : Nat → Bool), c ≤ 256 ∧ cv = .int .i64 c ∧ AlvS w0 wr N M ∧ RM.Rch d.aut M0 M s true c) (fun cv _ => 256 - (intOf cv).toNat)
            case atStart => exact ⟨0, _, Nat.zero_le _, rfl, HT.out.1, HT.out.2⟩
            case round =>
              rename World => w4
              obtain ⟨c, M4, hc, rfl, hS, hR⟩ := hrel
              by_cases hltc : c < 256
              · have k0 := hS.ext.cell HW.out.2.1
                have c0 := hS.ext.cell HRW.out.1
                have c1 := hS.ext.cell (HRW.out.2 c hltc)
                have htN := H.out.2.2.2.2.nx_lt (s := s) (c := c) (by rw [← H.out.2.2.1]; exact hlts) hltc
                obtain ⟨t, ht⟩ : ∃ t, t = d.nx s c := ⟨_, rfl⟩
                rw [← ht] at c1 htN
                rw [← H.out.2.2.1] at htN
                have m0 := hS.row.cell hlts
                have m1 := hS.row.cell htN
                have f0 := hS.row.frozen s
                obtain ⟨y, hy⟩ : ∃ y, y = M4 s := ⟨_, rfl⟩
                obtain ⟨z, hz⟩ : ∃ z, z = M4 t := ⟨_, rfl⟩
                rw [← hy] at m0
                rw [← hz] at m1
                have hj3 : (t : Int) < N := by omega
                have hj4 : (c : Int) < 256 := by omega
                have hR2 := hR.ent H.out.1 (by rw [H.out.2.1]; exact hlts) hltc
                rw [← hy, show M4 (d.aut.nx s c) = z by rw [hz, ht]; rfl] at hR2
                have hS2 := hS.set s (y || z)
                have HQ4 := Lib.hid (And.intro hS2 hR2)
                clear hS hR hS2 hR2 hy hz ht
                cases y
                · cases z
                  · go_wp2
                    go_roundw
                    case rel => exact ⟨c + 1, _, by omega, by go_num, HQ4.out.1, HQ4.out.2⟩
                    case measure => simp [intOf]; omega
                  · go_wp2
                    go_roundw
                    case rel => exact ⟨c + 1, _, by omega, by go_num, HQ4.out.1, HQ4.out.2⟩
                    case measure => simp [intOf]; omega
                · go_wp2
                  go_roundw
                  case rel => exact ⟨c + 1, _, by omega, by go_num, HQ4.out.1, HQ4.out.2⟩
                  case measure => simp [intOf]; omega
              · obtain rfl : c = 256 := by omega
                have HQ4 := Lib.hid (And.intro hS hR)
                clear hS hR hltc hc
                go_wp2
                go_roundw
                case rel => exact ⟨s + 1, M4, by omega, by go_num, HQ4.out.1, HQ4.out.2.row⟩
                case measure => simp [intOf]; omega
        · obtain rfl : N = s := by omega
          have HQ := Lib.hid (And.intro hS hR)
          clear hS hR hlts hs
          go_wp2
          go_roundw
          case rel => exact ⟨k + 1, M, by omega, by go_num, HQ.out.1, RM.Rch.next H.out.1 HP.out.2 (by rw [H.out.2.1]; exact HQ.out.2)⟩
          case measure => simp [intOf]; omega
    · obtain rfl : k = N + 1 := by omega
      have HP := Lib.hid (And.intro hS hI)
      clear hS hI hlt hk
      go_wp2
      go_ret
      exact ⟨w0.heap.size, rfl, HP.out.1.row.congr fun j hj => by rw [RM.RchInv.done (A := d.aut) (M := M0) (by rw [H.out.2.1]; exact HP.out.2) (by rw [H.out.2.1]; exact hj)], HW.out.2.2.2.trans HP.out.1.ext⟩
end Go.Proofs.YtngbaaiocoobdaaDoor
