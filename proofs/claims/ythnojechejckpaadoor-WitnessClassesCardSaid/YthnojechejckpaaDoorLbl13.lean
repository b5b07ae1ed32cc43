/- bolterlaw13.label and less. -/
import Derived.Test.YthnojechejckpaaDoorWitF
import Derived.Test.YthnojechejckpaaDoorBytesW
namespace Go.Proofs.YthnojechejckpaaDoor
open Go.RowKit

theorem lex_at : ∀ (i : Nat) (a b : List Nat), a.length = b.length → i < a.length → (∀ j, j < i → a.getD j 0 = b.getD j 0) → a.getD i 0 ≠ b.getD i 0 → CM.lex a b = decide (a.getD i 0 < b.getD i 0)
  | _, [], _, _, h, _, _ => by simp at h
  | _, x :: a, [], hl, _, _, _ => by simp at hl
  | 0, x :: a, y :: b, _, _, _, hne => by
    have hne' : x ≠ y := hne
    rw [CM.lex, if_neg hne']; rfl
  | i + 1, x :: a, y :: b, hl, h, he, hne => by
    have h0 : x = y := he 0 (by omega)
    rw [CM.lex, if_pos h0]
    exact lex_at i a b (by simpa using hl) (by simpa using h) (fun j hj => he (j + 1) (by omega)) hne
theorem lex_same : ∀ (a b : List Nat), a.length = b.length → (∀ j, j < a.length → a.getD j 0 = b.getD j 0) → CM.lex a b = false
  | [], [], _, _ => rfl
  | [], y :: b, h, _ => by simp at h
  | x :: a, [], h, _ => by simp at h
  | x :: a, y :: b, hl, he => by
    have h0 : x = y := he 0 (by simp)
    rw [CM.lex, if_pos h0]
    exact lex_same a b (by simpa using hl) (fun j hj => he (j + 1) (by simp; omega))

/-- does a word stand ahead of another one? -/
def slB (a b : List Nat) : Bool := if a.length = b.length then CM.lex a b else decide (a.length < b.length)
theorem slB_true {a b : List Nat} : slB a b = true ↔ WM.sl a b := by
  unfold slB WM.sl
  by_cases h : a.length = b.length
  · rw [if_pos h]; simp [h]
  · rw [if_neg h]; simp [h]

set_option maxRecDepth 100000 in
set_option maxHeartbeats 1000000 in
theorem less13_c {va vb : Value} {a b : List Nat} {w : World} (ha : BytesW w va a) (hb : BytesW w vb b) :
    Calls Tryd.prog 24 #[va, vb] w fun e w' => e = .returned (.bool (slB a b)) ∧ Ext w w' := by
  obtain ⟨_, aa, ca, rfl, _, hac⟩ := ha.open'
  obtain ⟨_, ab, cb, rfl, _, hbc⟩ := hb.open'
  by_cases hlen : a.length = b.length
  · have hsl : slB a b = CM.lex a b := if_pos hlen
    rw [hsl]
    obtain ⟨n, hn⟩ : ∃ n, n = a.length := ⟨_, rfl⟩
    rw [← hlen]
    rw [← hlen] at hbc
    rw [← hn] at hac hbc ⊢
    have HL := Lib.hid (And.intro hn hlen)
    have hne : ((n : Int) != (n : Int)) = false := by simp
    have hn4 : n ≤ 140737488355328 := by omega
    clear ha hb hsl hn hlen
    go_enter Tryd.func24, Tryd.ntmps24
    go_wp2
    go_loopw [5] (fun iv wr => Ext w wr ∧ ∃ i : Nat, i ≤ n ∧ iv = .int .i64 i ∧ ∀ j, j < i → a.getD j 0 = b.getD j 0) (fun iv _ => n - (intOf iv).toNat)
    case atStart => exact ⟨Ext.refl _, 0, Nat.zero_le _, rfl, fun j hj => by omega⟩
    case round =>
      obtain ⟨hx, i, hi, rfl, he⟩ := hrel
      have HE := Lib.hid he
      clear he
      by_cases hlt : i < n
      · obtain ⟨b1, o1, rfl, h1⟩ := hac (by omega)
        obtain ⟨b2, o2, rfl, h2⟩ := hbc (by omega)
        have c1 := hx.cell (h1 i hlt)
        have c2 := hx.cell (h2 i hlt)
        obtain ⟨x, hx0⟩ : ∃ x, x = a.getD i 0 := ⟨_, rfl⟩
        obtain ⟨y, hy0⟩ : ∃ y, y = b.getD i 0 := ⟨_, rfl⟩
        rw [← hx0] at c1
        rw [← hy0] at c2
        have HV := Lib.hid (And.intro hx0 hy0)
        have hj1 : (i : Int) < n := by omega
        clear h1 h2 hac hbc hx0 hy0
        by_cases hxy : x = y
        · have hxe : ((x : Int) != (y : Int)) = false := by simp [hxy]
          have HXY := Lib.hid hxy
          clear hxy
          go_wp2
          go_quiet (fail)
          go_wp2
          go_roundw
          case rel => exact ⟨hx.drewN _, i + 1, by omega, by go_num, fun j hj => by
            by_cases e : j = i
            · subst e; rw [← HV.out.1, ← HV.out.2]; exact HXY.out
            · exact HE.out j (by omega)⟩
          case measure => simp [intOf]; omega
        · have hxe : ((x : Int) != (y : Int)) = true := by rw [bne_iff_ne]; omega
          have hr : CM.lex a b = decide (x < y) := by
            rw [HV.out.1, HV.out.2]
            exact lex_at i a b HL.out.2 (by rw [← HL.out.1]; exact hlt) HE.out (by rw [← HV.out.1, ← HV.out.2]; exact hxy)
          have HR := Lib.hid hr
          clear hr hxy
          go_wp2
          go_quiet (fail)
          go_wp2
          go_quiet (fail)
          go_wp2
          go_ret
          exact ⟨by rw [HR.out]; simp, (hx.drewN _).drewN _⟩
      · obtain rfl : n = i := by omega
        have hr : CM.lex a b = false := lex_same a b HL.out.2 (by rw [← HL.out.1]; exact HE.out)
        have HR := Lib.hid hr
        clear hr
        go_wp2
        go_ret
        exact ⟨by rw [HR.out]; rfl, hx⟩
  · have hsl : slB a b = decide (a.length < b.length) := if_neg hlen
    rw [hsl]
    obtain ⟨n, hn⟩ : ∃ n, n = a.length := ⟨_, rfl⟩
    obtain ⟨m, hm⟩ : ∃ m, m = b.length := ⟨_, rfl⟩
    rw [← hn, ← hm] at hlen ⊢
    have hne : ((n : Int) != (m : Int)) = true := by rw [bne_iff_ne]; omega
    clear hac hbc ha hb hsl hn hm
    go_enter Tryd.func24, Tryd.ntmps24
    go_wp2
    go_ret
    exact ⟨by simp, Ext.refl _⟩

set_option maxRecDepth 100000 in
set_option maxHeartbeats 1000000 in
theorem label13_c {v bv : Value} {d : Dn} {l : List Nat} {w : World} {s0 : Nat} (h : DenseV w v d) (hm : May d) (hb : BytesW w bv l) (hbytes : ∀ c ∈ l, c < 256) (hs0 : s0 < d.next.length) :
    Calls Tryd.prog 23 #[v, .int .i64 (s0 : Int), bv] w fun e w' => e = .returned (.int .i64 (d.lb (CM.run d.nx s0 l))) ∧ Ext w w' := by
  have HM := Lib.hid hm
  obtain ⟨bn, on, cn, bl, ol, cl, rfl, hc⟩ := h.cells hm
  obtain ⟨_, ab, cb, rfl, _, hbc⟩ := hb.open'
  obtain ⟨L, hL⟩ : ∃ L, L = l.length := ⟨_, rfl⟩
  have HL := Lib.hid hL
  have hlen : L ≤ 140737488355328 := by omega
  obtain ⟨N, hN⟩ : ∃ N, N = d.next.length := ⟨_, rfl⟩
  have HN := Lib.hid hN
  rw [← hN] at h hs0
  rw [← hN, ← hL]
  rw [← hL] at hbc
  obtain ⟨wb, hwb⟩ : ∃ wb, wb = w.alloc (.cells #[.slice (some ⟨bn, on, none⟩) N cn, .slice (some ⟨bl, ol, none⟩) N cl] 25) := ⟨_, rfl⟩
  have b0 : wb.cell? ⟨w.heap.size, 0, none⟩ = some (.slice (some ⟨bn, on, none⟩) N cn) := by rw [hwb]; simp
  have b1 : wb.cell? ⟨w.heap.size, 1, none⟩ = some (.slice (some ⟨bl, ol, none⟩) N cl) := by rw [hwb]; simp
  have hx1' : Ext w wb := by rw [hwb]; exact Ext.box _ _
  clear h hm hN hb hL
  go_enter Tryd.func23, Tryd.ntmps23
  go_upto_region 1 with fail
  rw [← hwb]
  clear hwb
  go_wp2
  go_loopw [1, 7] (fun sv iv wr => Ext w wr ∧ wr.cell? ⟨w.heap.size, 0, none⟩ = some (.slice (some ⟨bn, on, none⟩) N cn) ∧ wr.cell? ⟨w.heap.size, 1, none⟩ = some (.slice (some ⟨bl, ol, none⟩) N cl) ∧ ∃ i s : Nat, i ≤ L ∧ iv = .int .i64 i ∧ sv = .int .i64 s ∧ s < N ∧ s = CM.run d.nx s0 (l.take i)) (fun _ iv _ => L - (intOf iv).toNat)
  case atStart => exact ⟨hx1', b0, b1, 0, s0, Nat.zero_le _, rfl, rfl, hs0, rfl⟩
  case round =>
    clear b0 b1 hx1'
    obtain ⟨hx1', b0, b1, i, s, hi, rfl, rfl, hs, hrun⟩ := hrel
    have HR := Lib.hid hrun
    clear hrun
    by_cases hlt : i < L
    · obtain ⟨br, ro, cr, hr1, hr2⟩ := hc.row s (by rw [← HN.out]; exact hs)
      obtain ⟨bb, ob, rfl, hbb⟩ := hbc (by omega)
      have hr1' := hx1'.cell hr1
      have hbi := hx1'.cell (hbb i hlt)
      have hil : i < l.length := by rw [← HL.out]; exact hlt
      obtain ⟨c, hcc⟩ : ∃ c, c = l.getD i 0 := ⟨_, rfl⟩
      have hc6 : c < 256 := by rw [hcc]; exact getD_lt hbytes hil
      rw [← hcc] at hbi
      have HC := Lib.hid hcc
      have hqc := hx1'.cell (hr2 c hc6)
      have hlt2 := HM.out.nx_lt (s := s) (c := c) (by rw [← HN.out]; exact hs) hc6
      rw [← HN.out] at hlt2
      have hj1 : (s : Int) < N := by omega
      have hj2 : (i : Int) < L := by omega
      have hj3 : (c : Int) < 256 := by omega
      clear hr1 hr2 hbb hbc hcc
      go_wp2
      go_quiet (fail)
      go_wp2
      go_roundw
      case rel => exact ⟨hx1'.drewN _, by simpa using b0, by simpa using b1, i + 1, d.nx s c, by omega, by go_num, rfl, hlt2, by rw [take_snoc hil, CM.run, List.foldl_append, List.foldl_cons, List.foldl_nil, HR.out, HC.out]; rfl⟩
      case measure => simp [intOf]; omega
    · obtain rfl : L = i := by omega
      have hq : s = CM.run d.nx s0 l := by rw [HR.out, HL.out, List.take_length]
      have HQ := Lib.hid hq
      clear hq
      have hlab := hx1'.cell (hc.label s (by rw [← HN.out]; exact hs))
      have hj1 : (s : Int) < N := by omega
      go_wp2
      go_ret
      exact ⟨by rw [← HQ.out]; rfl, hx1'⟩
end Go.Proofs.YthnojechejckpaaDoor
