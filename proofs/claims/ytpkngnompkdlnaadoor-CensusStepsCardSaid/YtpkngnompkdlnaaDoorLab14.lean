/- bolterlaw14.label and ahead. -/
import Derived.Test.YtpkngnompkdlnaaDoorRank
import Derived.Test.YtpkngnompkdlnaaDoorEqs
namespace Go.Proofs.YtpkngnompkdlnaaDoor
open Go.RowKit

theorem bytes_getD (l : List Nat) (i : Nat) : (l.map fun (b : Nat) => (b : Int)).getD i 0 = ((l.getD i 0 : Nat) : Int) := by
  rw [List.getD_eq_getElem?_getD, List.getElem?_map, List.getD_eq_getElem?_getD]
  cases l[i]? <;> rfl

theorem BytesW.open' {w : World} {v : Value} {l : List Nat} (h : BytesW w v l) :
    l.length ≤ 140737488355328 ∧ ∃ a cap, v = .slice a l.length cap ∧ (l.length ≤ cap ∧ (a = none → cap = 0)) ∧ (0 < l.length → ∃ b o, a = some ⟨b, o, none⟩ ∧ ∀ i, i < l.length → w.cell? ⟨b, o + i, none⟩ = some (.int .u8 (l.getD i 0 : Nat))) := by
  obtain ⟨h1, a, cap, h2, h3, h4⟩ := h.open
  rw [List.length_map] at h1 h2 h3 h4
  refine ⟨h1, a, cap, h2, h3, fun h0 => ?_⟩
  obtain ⟨b, o, h5, h6⟩ := h4 h0
  exact ⟨b, o, h5, fun i hi => by rw [h6 i hi, bytes_getD]⟩

theorem getD_lt {l : List Nat} (h : ∀ c ∈ l, c < 256) {i : Nat} (hi : i < l.length) : l.getD i 0 < 256 := by
  rw [List.getD_eq_getElem?_getD, List.getElem?_eq_getElem hi]
  exact h _ (List.getElem_mem _)

set_option maxRecDepth 100000 in
set_option maxHeartbeats 1000000 in
theorem label14_c {v bv : Value} {d : Dn} {l : List Nat} {w : World} (h : DenseV w v d) (hm : May d) (hb : BytesW w bv l) (hbytes : ∀ c ∈ l, c < 256) :
    Calls Tryd.prog 31 #[v, bv] w fun e w' => e = .returned (.int .i64 (d.lb (CM.run d.nx 0 l))) ∧ Ext w w' := by
  have HM := Lib.hid hm
  obtain ⟨bn, on, cn, bl, ol, cl, rfl, hc⟩ := h.cells hm
  obtain ⟨_, ab, cb, rfl, _, hbc⟩ := hb.open'
  obtain ⟨L, hL⟩ : ∃ L, L = l.length := ⟨_, rfl⟩
  have HL := Lib.hid hL
  have hlen : L ≤ 140737488355328 := by omega
  obtain ⟨N, hN⟩ : ∃ N, N = d.next.length := ⟨_, rfl⟩
  have HN := Lib.hid hN
  have hpos : 0 < N := by rw [hN]; exact hm.pos
  rw [← hN, ← hL]
  rw [← hL] at hbc
  clear h hm hN hb hL
  go_enter Tryd.func31, Tryd.ntmps31
  go_wp2
  go_loopw [5, 6] (fun sv iv wr => ∃ i s : Nat, i ≤ L ∧ iv = .int .i64 i ∧ sv = .int .i64 s ∧ s < N ∧ s = CM.run d.nx 0 (l.take i) ∧ Ext w wr ∧ wr.cell? ⟨w.heap.size, 0, none⟩ = some (.slice (some ⟨bn, on, none⟩) N cn) ∧
    wr.cell? ⟨w.heap.size, 1, none⟩ = some (.slice (some ⟨bl, ol, none⟩) N cl)) (fun _ iv _ => L - (intOf iv).toNat)
  case atStart => exact ⟨0, 0, Nat.zero_le _, rfl, rfl, hpos, rfl, Ext.box _ _, by simp, by simp⟩
  case round =>
    obtain ⟨i, s, hi, rfl, rfl, hs, hrun, hx, hb0, hb1⟩ := hrel
    have HR := Lib.hid hrun
    clear hrun
    by_cases hlt : i < L
    · obtain ⟨br, ro, cr, hr1, hr2⟩ := hc.row s (by rw [← HN.out]; exact hs)
      obtain ⟨bb, ob, rfl, hbb⟩ := hbc (by omega)
      have hr1' := hx.cell hr1
      have hbi := hx.cell (hbb i hlt)
      have hil : i < l.length := by rw [← HL.out]; exact hlt
      obtain ⟨c, hcc⟩ : ∃ c, c = l.getD i 0 := ⟨_, rfl⟩
      have hc6 : c < 256 := by rw [hcc]; exact getD_lt hbytes hil
      rw [← hcc] at hbi
      have HC := Lib.hid hcc
      have hqc := hx.cell (hr2 c hc6)
      have hlt2 := HM.out.nx_lt (s := s) (c := c) (by rw [← HN.out]; exact hs) hc6
      rw [← HN.out] at hlt2
      have hj1 : (s : Int) < N := by omega
      have hj2 : (i : Int) < L := by omega
      have hj3 : (c : Int) < 256 := by omega
      clear hr1 hr2 hbb hbc hcc
      go_wp2
      go_quiet (fail)
      go_wp2
      go_roundw
      case rel => exact ⟨i + 1, d.nx s c, by omega, by go_num, rfl, hlt2, by rw [take_snoc hil, CM.run, List.foldl_append, List.foldl_cons, List.foldl_nil, HR.out, HC.out]; rfl, hx.drewN _, hb0, hb1⟩
      case measure => simp [intOf]; omega
    · obtain rfl : L = i := by omega
      have hlab := hx.cell (hc.label s (by rw [← HN.out]; exact hs))
      go_wp2
      go_ret
      exact ⟨ret_int (by rw [HR.out, HL.out, List.take_length]), hx⟩

def aheadB (a b : List Nat) : Bool := if a.length = b.length then CM.lex a b else decide (a.length < b.length)

theorem lex_same : ∀ (a b : List Nat) (i : Nat), a.length = b.length → (∀ j, j < i → a.getD j 0 = b.getD j 0) → i ≤ a.length → CM.lex a b = CM.lex (a.drop i) (b.drop i)
  | _, _, 0, _, _, _ => by simp
  | [], [], _ + 1, _, _, h => by simp at h
  | [], _ :: _, _ + 1, h, _, _ => by simp at h
  | _ :: _, [], _ + 1, h, _, _ => by simp at h
  | x :: a, y :: b, i + 1, hl, h, hi => by
    have h0 := h 0 (by omega)
    simp only [List.getD_cons_zero] at h0
    subst h0
    simp only [CM.lex, if_true, List.drop_succ_cons]
    exact lex_same a b i (by simpa using hl) (fun j hj => by have := h (j + 1) (by omega); simpa using this) (by simpa using hi)

set_option maxRecDepth 100000 in
set_option maxHeartbeats 1000000 in
theorem ahead14_c {va vb : Value} {a b : List Nat} {w : World} (ha : BytesW w va a) (hb : BytesW w vb b) :
    Calls Tryd.prog 32 #[va, vb] w fun e w' => e = .returned (.bool (aheadB a b)) ∧ Ext w w' := by
  obtain ⟨h1, pa, ca, rfl, _, ha2⟩ := ha.open'
  obtain ⟨h2, pb, cb, rfl, _, hb2⟩ := hb.open'
  obtain ⟨n, hn⟩ : ∃ n, n = a.length := ⟨_, rfl⟩
  obtain ⟨m, hm⟩ : ∃ m, m = b.length := ⟨_, rfl⟩
  rw [← hn] at h1 ha2 ⊢
  rw [← hm] at h2 hb2 ⊢
  have HN := Lib.hid hn
  have HM := Lib.hid hm
  clear hn hm ha hb
  by_cases hnm : n = m
  · subst hnm
    have hne : ((n : Int) != (n : Int)) = false := by simp
    go_enter Tryd.func32, Tryd.ntmps32
    go_wp2
    go_loopw [5] (fun i wr => ∃ k : Nat, k ≤ n ∧ i = .int .i64 k ∧ (∀ j, j < k → a.getD j 0 = b.getD j 0) ∧ Ext w wr) (fun i _ => n - (intOf i).toNat)
    case atStart => exact ⟨0, Nat.zero_le _, rfl, fun j hj => by omega, Ext.refl _⟩
    case round =>
      obtain ⟨k, hk, rfl, hj, hx⟩ := hrel
      have HJ := Lib.hid hj
      clear hj
      by_cases hlt : k < n
      · obtain ⟨ba, oa, rfl, hca⟩ := ha2 (by omega)
        obtain ⟨bb, ob, rfl, hcb⟩ := hb2 (by omega)
        have c1 := hx.cell (hca k hlt)
        have c2 := hx.cell (hcb k hlt)
        obtain ⟨x, hx0⟩ : ∃ x, x = a.getD k 0 := ⟨_, rfl⟩
        obtain ⟨y, hy0⟩ : ∃ y, y = b.getD k 0 := ⟨_, rfl⟩
        rw [← hx0] at c1
        rw [← hy0] at c2
        have HX := Lib.hid hx0
        have HY := Lib.hid hy0
        clear hca hcb ha2 hb2 hx0 hy0
        by_cases he : x = y
        · have hee : ((x : Int) != (y : Int)) = false := by simp [he]
          have HE := Lib.hid he
          clear he
          go_wp2
          go_quiet (fail)
          go_wp2
          go_roundw
          case rel => exact ⟨k + 1, by omega, by go_num, fun j hj' => by
              by_cases e : j = k
              · subst e; rw [← HX.out, ← HY.out, HE.out]
              · exact HJ.out j (by omega), hx.drewN _⟩
          case measure => simp [intOf]; omega
        · have hee : ((x : Int) != (y : Int)) = true := by rw [bne_iff_ne]; omega
          have HE := Lib.hid he
          clear he
          go_wp2
          go_quiet (fail)
          go_wp2
          go_quiet (fail)
          go_wp2
          go_ret
          refine ⟨ret_bool ?_, (hx.drewN _).drewN _⟩
          have hka : k < a.length := by rw [← HN.out]; exact hlt
          have hkb : k < b.length := by rw [← HM.out]; exact hlt
          rw [aheadB, if_pos (by rw [← HN.out, ← HM.out]), lex_same a b k (by rw [← HN.out, ← HM.out]) HJ.out (by rw [← HN.out]; exact hk), drop_cons hka, drop_cons hkb, CM.lex, ← HX.out, ← HY.out, if_neg HE.out]
      · obtain rfl : n = k := by omega
        go_wp2
        go_ret
        exact ⟨ret_bool (by rw [aheadB, if_pos (by rw [← HN.out, ← HM.out]), lex_same a b n (by rw [← HN.out, ← HM.out]) HJ.out (by rw [← HN.out]; exact Nat.le_refl _), List.drop_eq_nil_of_le (by rw [← HN.out]; exact Nat.le_refl _)]; rfl), hx⟩
  · have hne : ((n : Int) != (m : Int)) = true := by rw [bne_iff_ne]; omega
    go_enter Tryd.func32, Tryd.ntmps32
    go_wp2
    go_ret
    exact ⟨ret_bool (by rw [aheadB, if_neg (by rw [← HN.out, ← HM.out]; exact hnm), HN.out, HM.out]), Ext.refl _⟩
end Go.Proofs.YtpkngnompkdlnaaDoor
