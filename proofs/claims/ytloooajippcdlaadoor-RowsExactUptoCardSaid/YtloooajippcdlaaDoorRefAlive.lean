/- bolterref15.alive: of each state, whether some text leads from it to a label of 0 or more. -/
import Derived.Test.YtloooajippcdlaaDoorRch
namespace Go.Proofs.YtloooajippcdlaaDoor
open Go.RowKit
namespace RM
open LM (Aut)
variable {A : Aut} {M0 M : Nat → Bool} {s c : Nat} {l ch : Bool}
theorem Rch.skip (h : Rch A M0 M s l c) (hm : M s = true) : Rch A M0 M (s + 1) false 0 :=
  ⟨h.sound, h.sub, h.how.imp id fun ⟨h1, h2, h3⟩ => ⟨h1, (by
    rintro t (ht | ⟨_, hh⟩) hl
    · by_cases e : t = s
      · subst e; exact hm
      · exact h2 t (.inl (by omega)) hl
    · cases hh), (by
    intro t k ht hk hn
    by_cases e : t = s
    · subst e; exact hm
    · exact h3 t k (.inl (by omega)) hk hn)⟩⟩
/-- whether the pass has set a mark -/
structure Chg (A : Aut) (M0 M : Nat → Bool) (ch : Bool) : Prop where
  no : ch = false → M = M0
  yes : ch = true → dead M A.n < dead M0 A.n
theorem Chg.start : Chg A M M false := ⟨fun _ => rfl, fun h => (by cases h)⟩
theorem Chg.set (h : Chg A M0 M ch) (hs : s < A.n) (h0 : M s = false) : Chg A M0 (put M s true) true := by
  refine ⟨fun h => (by cases h), fun _ => ?_⟩
  rw [put_mk]
  have h1 := dead_lt M h0 A.n hs
  cases e : ch with
  | true => have := h.yes e; omega
  | false => rw [← h.no e]; exact h1
theorem Rch.closed (h : Rch A M0 M A.n false 0) (hA : A.ok) (hc : Chg A M0 M false) : ∀ t, t < A.n → M t = liveB A t := by
  obtain rfl := hc.no rfl
  rcases h.how with h1 | ⟨_, h2, h3⟩
  · omega
  · intro t ht
    exact live_eq hA (fun t ht hl => h2 t (.inl ht) hl) (fun t c ht hc hm => h3 t c (.inl ht) hc hm) h.sound ht
end RM

def RAliveR (d : Dn) (w : World) (e : Ending) (w' : World) : Prop :=
  ∃ g, e = .returned (.slice (some ⟨g, 0, none⟩) d.next.length d.next.length) ∧ w.heap.size ≤ g ∧ w'.rowIs g 4 d.next.length (fun s => .bool (RM.liveB d.aut s)) ∧ Ext w w'

set_option maxRecDepth 100000 in
set_option maxHeartbeats 4000000 in
theorem ralive_c {v : Value} {d : Dn} {w : World} (h : DenseV w v d) (hm : May d) : Calls Tryd.prog 62 #[v] w (RAliveR d w) := by
  obtain ⟨bn, on, cn, bl, ol, cl, rfl, hc⟩ := h.cells hm
  obtain ⟨N, hN⟩ : ∃ N, N = d.next.length := ⟨_, rfl⟩
  have hmost : N ≤ 600 := by rw [hN]; exact hm.most
  have hA := hm.ok
  have hAn : d.aut.n = N := hN.symm
  have hdef : RAliveR d w = fun e w' => ∃ g, e = .returned (.slice (some ⟨g, 0, none⟩) N N) ∧ w.heap.size ≤ g ∧ w'.rowIs g 4 N (fun s => .bool (RM.liveB d.aut s)) ∧ Ext w w' := by funext e w'; unfold RAliveR; rw [← hN]
  rw [hdef, ← hN]
  obtain ⟨w0, hw0⟩ : ∃ w0, w0 = w.alloc (.cells #[.slice (some ⟨bn, on, none⟩) N cn, .slice (some ⟨bl, ol, none⟩) N cl] 25) := ⟨_, rfl⟩
  have b0 : w0.cell? ⟨w.heap.size, 0, none⟩ = some (.slice (some ⟨bn, on, none⟩) N cn) := by rw [hw0]; exact new_cell rfl
  have b1 : w0.cell? ⟨w.heap.size, 1, none⟩ = some (.slice (some ⟨bl, ol, none⟩) N cl) := by rw [hw0]; exact new_cell rfl
  have hx0 : Ext w w0 := by rw [hw0]; exact Ext.box _ _
  have H := Lib.hid (And.intro hA (And.intro hAn (And.intro hN (And.intro (hc.ext hx0) hm))))
  have HW := Lib.hid (And.intro hw0 (And.intro b0 (And.intro b1 hx0)))
  have hmk := run_make_any (P := Tryd.prog) 103 4 (.bool false) 1 1 Tryd.underlying103 bool_info15 .i64 .i64 N (by omega) (by omega)
  clear hA hAn hN hc hm h hdef hw0 hx0
  go_enter Tryd.func62, Tryd.ntmps62
  go_wp2_with fail
  clear hmk
  rw [← HW.out.1]
  have hz : w.heap.size + 1 = w0.heap.size := by rw [HW.out.1]; simp
  try rw [hz]
  have hs0 : AlvS w0 (w0.alloc (.cells (madeCells #[.bool false] N) 4)) N (fun _ => false) :=
    ⟨Ext.box _ _, World.rowIs_made w0 (.bool false) N 4⟩
  have HS0 := Lib.hid hs0
  clear hs0 hz b0 b1
  go_loopg [4] (RM.dead (fun _ => false) N * 2 + 1) (fun g mv wr => ∃ (M : Nat → Bool) (ch : Bool), mv = .bool ch ∧ AlvS w0 wr N M ∧ (∀ t, t < N → M t = true → RM.Live d.aut t) ∧ (ch = false → ∀ s, s < N → M s = RM.liveB d.aut s) ∧ g = RM.dead M N * 2 + RM.b2 ch)
  case atStart => exact ⟨_, true, rfl, HS0.out, fun _ _ e => (by cases e), fun e => (by cases e), rfl⟩
  case round =>
    clear HS0
    obtain ⟨M0, ch0, rfl, hS, hMk, hcl, hg⟩ := hrel
    have HG := Lib.hid hg
    clear hg
    cases ch0 with
    | false =>
      have HE := Lib.hid (And.intro hS hcl)
      clear hS hcl hMk
      go_wp2
      go_ret
      exact ⟨w0.heap.size, rfl, HW.out.2.2.2.size, HE.out.1.row.congr fun j hj => by rw [HE.out.2 trivial j hj], HW.out.2.2.2.trans HE.out.1.ext⟩
    | true =>
      have HP0 := Lib.hid (And.intro hS (RM.Rch.start (A := d.aut) (M := M0) (by rw [H.out.2.1]; exact hMk)))
      clear hS hMk hcl
      go_wp2
      go_loopw [4, 5] (fun mv sv wr => ∃ (s : Nat) (M : Nat → Bool) (ch : Bool), s ≤ N ∧ sv = .int .i64 s ∧ mv = .bool ch ∧ AlvS w0 wr N M ∧ RM.Rch d.aut M0 M s false 0 ∧ RM.Chg d.aut M0 M ch) (fun _ sv _ => N - (intOf sv).toNat)
      case atStart => exact ⟨0, M0, false, Nat.zero_le _, rfl, rfl, HP0.out.1, HP0.out.2, RM.Chg.start⟩
      case round =>
        rename World => w2
        obtain ⟨s, M, ch, hs, rfl, rfl, hS, hR, hC⟩ := hrel
        by_cases hlts : s < N
        · have m0 := hS.row.cell hlts
          have f0 := hS.row.frozen s
          obtain ⟨y, hy⟩ : ∃ y, y = M s := ⟨_, rfl⟩
          rw [← hy] at m0
          have hj2 : (s : Int) < N := by omega
          cases y
          · have k1 := hS.ext.cell HW.out.2.2.1
            have hl := hS.ext.cell (H.out.2.2.2.1.label s (by rw [← H.out.2.2.1]; exact hlts))
            obtain ⟨x, hx⟩ : ∃ x, x = d.lb s := ⟨_, rfl⟩
            rw [← hx] at hl
            have hR2 := hR.lab (by rw [H.out.2.1]; exact hlts)
            rw [← hy, show d.aut.lb s = x from hx.symm, Bool.false_or] at hR2
            have hS2 := hS.set s (decide (0 ≤ x))
            have HQ := Lib.hid (And.intro hS2 (And.intro hR2 (And.intro hC hy)))
            clear hS hR hS2 hR2 hy hx hC
            obtain ⟨br, ro, cr, r0, r1⟩ := H.out.2.2.2.1.row s (by rw [← H.out.2.2.1]; exact hlts)
            have HRW := Lib.hid (And.intro r0 r1)
            clear r0 r1
            go_upto_region 10 with fail
            obtain ⟨w3, hw3⟩ : ∃ w3, w3 = w2.setCell ⟨w0.heap.size, s, none⟩ (.bool (decide (0 ≤ x))) := ⟨_, rfl⟩
            rw [← hw3]
            have hS3 := HQ.out.1
            have hS3' : AlvS w0 w3 N (RM.put M s (decide (0 ≤ x))) := by rw [hw3]; exact hS3
            have HT := Lib.hid (And.intro hS3' (And.intro HQ.out.2.1 HQ.out.2.2))
            clear hS3 hS3' k1 hl m0 f0 hw3
            go_wp2
            go_loopw [6] (fun cv wr => ∃ (c : Nat) (v : Bool), c ≤ 256 ∧ cv = .int .i64 c ∧ AlvS w0 wr N (RM.put M s v) ∧ RM.Rch d.aut M0 (RM.put M s v) s true c) (fun cv _ => 256 - (intOf cv).toNat)
            case atStart => exact ⟨0, _, Nat.zero_le _, rfl, HT.out.1, HT.out.2.1⟩
            case round =>
              rename World => w4
              obtain ⟨c, v, hc, rfl, hS, hR⟩ := hrel
              have m0 := hS.row.cell hlts
              have f0 := hS.row.frozen s
              have hps : RM.put M s v s = v := if_pos rfl
              rw [hps] at m0
              cases v
              · by_cases hltc : c < 256
                · have k0 := hS.ext.cell HW.out.2.1
                  have c0 := hS.ext.cell HRW.out.1
                  have c1 := hS.ext.cell (HRW.out.2 c hltc)
                  have htN := H.out.2.2.2.2.nx_lt (s := s) (c := c) (by rw [← H.out.2.2.1]; exact hlts) hltc
                  obtain ⟨t, ht⟩ : ∃ t, t = d.nx s c := ⟨_, rfl⟩
                  rw [← ht] at c1 htN
                  rw [← H.out.2.2.1] at htN
                  have m1 := hS.row.cell htN
                  obtain ⟨z, hz⟩ : ∃ z, z = RM.put M s false t := ⟨_, rfl⟩
                  rw [← hz] at m1
                  have hj3 : (t : Int) < N := by omega
                  have hj4 : (c : Int) < 256 := by omega
                  have hR2 := hR.ent H.out.1 (by rw [H.out.2.1]; exact hlts) hltc
                  have hpp : ∀ b, RM.put (RM.put M s false) s b = RM.put M s b := fun b => by funext q; unfold RM.put; split <;> simp_all
                  rw [hps, Bool.false_or, show RM.put M s false (d.aut.nx s c) = z by rw [hz, ht]; rfl, hpp] at hR2
                  have hS2 : AlvS w0 (w4.setCell ⟨w0.heap.size, s, none⟩ (.bool z)) N (RM.put M s z) := by rw [← hpp]; exact hS.set s z
                  have HQ4 := Lib.hid (And.intro hS2 hR2)
                  clear hS hR hS2 hR2 hz ht hps hpp
                  go_wp2
                  go_roundw
                  case rel => exact ⟨c + 1, z, by omega, by go_num, HQ4.out.1, HQ4.out.2⟩
                  case measure => simp [intOf]; omega
                · obtain rfl : c = 256 := by omega
                  have hMs : RM.put M s false = M := RM.put_false HT.out.2.2.2.symm
                  rw [hMs] at hS hR
                  have HQ4 := Lib.hid (And.intro hS hR)
                  clear hS hR hltc hc hps hMs
                  rw [show ((256 : Nat) : Int) = 256 from rfl]
                  cases ch
                  all_goals
                    go_wp2
                    go_roundw
                    case rel => exact ⟨s + 1, M, _, by omega, by go_num, rfl, HQ4.out.1, HQ4.out.2.row, HT.out.2.2.1⟩
                    case measure => simp [intOf]; omega
              · have HQ4 := Lib.hid (And.intro hS (And.intro (hR.skip hps) (HT.out.2.2.1.set (s := s) (by rw [H.out.2.1]; exact hlts) HT.out.2.2.2.symm)))
                clear hS hR hps
                by_cases hltc : c < 256
                all_goals
                  have hj4 : (c : Int) < 256 ∨ ¬ (c : Int) < 256 := by omega
                  first
                  | (have hj5 : (c : Int) < 256 := by omega)
                  | (have hj5 : ¬ (c : Int) < 256 := by omega)
                  clear hj4
                  cases ch
                  all_goals
                    go_wp2
                    go_roundw
                    case rel => exact ⟨s + 1, _, true, by omega, by go_num, rfl, HQ4.out.1, HQ4.out.2.1, HQ4.out.2.2⟩
                    case measure => simp [intOf]; omega
          · have HQ := Lib.hid (And.intro hS (And.intro (hR.skip hy.symm) hC))
            clear hS hR hC hy
            go_wp2
            go_roundw
            case rel => exact ⟨s + 1, M, ch, by omega, by go_num, rfl, HQ.out.1, HQ.out.2.1, HQ.out.2.2⟩
            case measure => simp [intOf]; omega
        · obtain rfl : N = s := by omega
          have HP := Lib.hid (And.intro hS (And.intro hR hC))
          clear hS hR hC hlts hs
          go_wp2
          have hlt : RM.dead M N * 2 + RM.b2 ch < gk := by
            rw [HG.out]
            have h2 := H.out.2.1
            cases hch : ch with
            | true => have := HP.out.2.2.yes hch; rw [h2] at this; simp [RM.b2]; omega
            | false => rw [HP.out.2.2.no hch]; simp [RM.b2]
          go_roundg (RM.dead M N * 2 + RM.b2 ch)
          case measure => exact hlt
          case rel => exact ⟨M, ch, rfl, HP.out.1, by have := HP.out.2.1.sound; rw [H.out.2.1] at this; exact this, fun e => by subst e; have := RM.Rch.closed (A := d.aut) (M0 := M0) (M := M) (by rw [H.out.2.1]; exact HP.out.2.1) H.out.1 HP.out.2.2; rw [H.out.2.1] at this; exact this, rfl⟩
end Go.Proofs.YtloooajippcdlaaDoor
