/- subset.Run, bolterlaw12.label and row. -/
import Derived.Test.YtmacobegnkmmcaaDoorBytesW
import Derived.Test.YtmacobegnkmmcaaDoorRow14
namespace Go.Proofs.YtmacobegnkmmcaaDoor
open Go.RowKit

set_option maxRecDepth 100000 in
set_option maxHeartbeats 1000000 in
theorem run_c {v bv : Value} {d : Dn} {l : List Nat} {w : World} (h : DenseV w v d) (hm : May d) (hb : BytesW w bv l) (hbytes : ∀ c ∈ l, c < 256) :
    Calls Tryd.prog 45 #[v, bv] w fun e w' => e = .returned (.tuple #[.int .i64 (CM.run d.nx 0 l), .nilIface]) ∧ Ext w w' := by
  have HM := Lib.hid hm
  have hmb := mayB_true.2 hm
  obtain ⟨bn, on, cn, bl, ol, cl, rfl, hc⟩ := h.cells hm
  obtain ⟨_, ab, cb, rfl, _, hbc⟩ := hb.open'
  obtain ⟨L, hL⟩ : ∃ L, L = l.length := ⟨_, rfl⟩
  have HL := Lib.hid hL
  have hlen : L ≤ 140737488355328 := by omega
  obtain ⟨N, hN⟩ : ∃ N, N = d.next.length := ⟨_, rfl⟩
  have HN := Lib.hid hN
  have hpos : 0 < N := by rw [hN]; exact hm.pos
  rw [← hN] at h
  rw [← hN, ← hL]
  rw [← hL] at hbc
  have HD := Lib.hid h
  have hb0 := fun W (hx : Ext (w.alloc (.cells #[.slice (some ⟨bn, on, none⟩) N cn, .slice (some ⟨bl, ol, none⟩) N cl] 25)) W) => hx.cell (p := ⟨w.heap.size, 0, none⟩) (v := .slice (some ⟨bn, on, none⟩) N cn) (by simp)
  have HB := Lib.hid hb0
  clear h hm hN hb hL hb0
  go_enter Tryd.func45, Tryd.ntmps45
  go_wp2_with fail
  refine (check_c (HD.out.ext (Ext.box _ _))).mono ?_
  rintro e w1 ⟨rfl, hx1⟩
  have hx1' := (Ext.box w _).trans hx1
  have b0 := HB.out _ hx1
  go_wp2
  go_loopw [6, 15] (fun sv iv wr => wr = w1 ∧ ∃ i s : Nat, i ≤ L ∧ iv = .int .i64 i ∧ sv = .int .i64 s ∧ s < N ∧ s = CM.run d.nx 0 (l.take i)) (fun _ iv _ => L - (intOf iv).toNat)
  case atStart => exact ⟨rfl, 0, 0, Nat.zero_le _, rfl, rfl, hpos, rfl⟩
  case round =>
    obtain ⟨rfl, i, s, hi, rfl, rfl, hs, hrun⟩ := hrel
    have HR := Lib.hid hrun
    clear hrun
    by_cases hlt : i < L
    · obtain ⟨br, ro, cr, hr1, hr2⟩ := hc.row s (by rw [← HN.out]; exact hs)
      obtain ⟨bb, ob, rfl, hbb⟩ := hbc (by omega)
      have hr1' := hx1'.cell hr1
      have hbi := hx1'.cell (hbb i hlt)
      have hil : i < l.length := by rw [← HL.out]; exact hlt
      obtain ⟨c, hcc⟩ : ∃ c, c = l.getD i 0 := ⟨_, rfl⟩
      have hc6 : c < 256 := by rw [hcc]; exact getD_lt hbytes hil
      rw [← hcc] at hbi
      have HC := Lib.hid hcc
      have hqc := hx1'.cell (hr2 c hc6)
      have hlt2 := HM.out.nx_lt (s := s) (c := c) (by rw [← HN.out]; exact hs) hc6
      rw [← HN.out] at hlt2
      have hj1 : (s : Int) < N := by omega
      have hj2 : (i : Int) < L := by omega
      have hj3 : (c : Int) < 256 := by omega
      clear hr1 hr2 hbb hbc hcc
      go_wp2
      go_roundw
      case rel => exact ⟨trivial, i + 1, d.nx s c, by omega, by go_num, rfl, hlt2, by rw [take_snoc hil, CM.run, List.foldl_append, List.foldl_cons, List.foldl_nil, HR.out, HC.out]; rfl⟩
      case measure => simp [intOf]; omega
    · obtain rfl : L = i := by omega
      have hq : s = CM.run d.nx 0 l := by rw [HR.out, HL.out, List.take_length]
      have HQ := Lib.hid hq
      clear hq
      go_wp2
      go_ret2
      exact ⟨by rw [← HQ.out]; rfl, hx1'⟩

theorem run_nat_lt {d : Dn} (hm : May d) (l : List Nat) (hl : ∀ c ∈ l, c < 256) : CM.run d.nx 0 l < d.next.length := run_lt hm l 0 hm.pos hl

set_option maxRecDepth 100000 in
set_option maxHeartbeats 1000000 in
theorem label12_c {v bv : Value} {d : Dn} {l : List Nat} {w : World} (h : DenseV w v d) (hm : May d) (hb : BytesW w bv l) (hbytes : ∀ c ∈ l, c < 256) :
    Calls Tryd.prog 25 #[v, bv] w fun e w' => e = .returned (.int .i64 (d.lb (CM.run d.nx 0 l))) ∧ Ext w w' := by
  have HM := Lib.hid hm
  have HH := Lib.hid h
  have HBy := Lib.hid hb
  obtain ⟨bn, on, cn, bl, ol, cl, rfl, hc⟩ := h.cells hm
  have hlt := run_nat_lt hm l hbytes
  have hlab := hc.label _ hlt
  obtain ⟨s, hs⟩ : ∃ s, s = CM.run d.nx 0 l := ⟨_, rfl⟩
  obtain ⟨N, hN⟩ : ∃ N, N = d.next.length := ⟨_, rfl⟩
  rw [← hN] at HH hlt ⊢
  rw [← hs] at hlt hlab ⊢
  have HS := Lib.hid hs
  have hb0 := fun W (hx : Ext (w.alloc (.cells #[.slice (some ⟨bn, on, none⟩) N cn, .slice (some ⟨bl, ol, none⟩) N cl] 25)) W) => hx.cell (p := ⟨w.heap.size, 1, none⟩) (v := .slice (some ⟨bl, ol, none⟩) N cl) (by simp)
  have HB := Lib.hid hb0
  clear h hm hb hc hs hN hb0
  go_enter Tryd.func25, Tryd.ntmps25
  go_wp2_with fail
  refine (run_c (HH.out.ext (Ext.box _ _)) HM.out (IntsK.ext (Ext.box _ _) HBy.out) hbytes).mono ?_
  rintro e w1 ⟨rfl, hx1⟩
  rw [← HS.out]
  have b1 := HB.out _ hx1
  have c1 := ((Ext.box w _).trans hx1).cell hlab
  have hj : (s : Int) < N := by omega
  go_wp2
  go_ret
  exact ⟨rfl, (Ext.box w _).trans hx1⟩

def row12 (n : Int) : List Int := List.replicate 256 n
theorem row12_get (n : Int) (i : Nat) (h : i < 256) : (row12 n).getD i 0 = n := by
  rw [row12, List.getD_eq_getElem?_getD, List.getElem?_replicate, if_pos h]; rfl
theorem row12_length (n : Int) : (row12 n).length = 256 := List.length_replicate

set_option maxRecDepth 100000 in
set_option maxHeartbeats 1000000 in
theorem row12_c (n : Int) (w : World) :
    Calls Tryd.prog 39 #[.int .i64 n] w fun e w' => e = .returned (.slice (some ⟨w.heap.size, 0, none⟩) 256 256) ∧ Ext w w' ∧ w'.rowIs w.heap.size 3 256 (fun i => .int .i64 ((row12 n).getD i 0)) := by
  have hmk : (Instr.makeSlice 23 (.int .i64 256) (.int .i64 256)).run Tryd.prog w = .ok (.slice (some ⟨w.heap.size, 0, none⟩) 256 256) (w.alloc (.cells (madeCells #[.int .i64 0] 256) 3)) :=
    run_make_any (P := Tryd.prog) 23 3 (.int .i64 0) 1 8 Tryd.underlying23 int_info .i64 .i64 256 (by omega) (by omega) w
  go_enter Tryd.func39, Tryd.ntmps39
  go_wp2
  clear hmk
  go_loopw [4] (fun i wr => ∃ k : Nat, k ≤ 256 ∧ i = .int .i64 k ∧ Ext w wr ∧ wr.rowIs w.heap.size 3 256 (fun i => .int .i64 (if i < k then n else 0))) (fun i _ => 256 - (intOf i).toNat)
  case atStart =>
    refine ⟨0, Nat.zero_le _, rfl, Ext.box _ _, ?_⟩
    exact (World.rowIs_made w _ 256 3).congr (fun j _ => by simp)
  case round =>
    obtain ⟨k, hk, rfl, hx, hr⟩ := hrel
    by_cases hlt : k < 256
    · have c1 := hr.cell hlt
      have f1 := hr.frozen k
      have C1 := Lib.hid c1
      clear c1
      have c2 : ∃ v, wr.cell? ⟨w.heap.size, k, none⟩ = some v := ⟨_, C1.out⟩
      obtain ⟨v0, c3⟩ := c2
      go_wp2
      go_roundw
      case rel => exact ⟨k + 1, by omega, by go_num, hx.setCell (Nat.le_refl _) _, (hr.set k _).congr (fun j _ => by
        by_cases e : j = k
        · rw [if_pos e, if_pos (by omega)]
        · rw [if_neg e]
          by_cases h : j < k
          · rw [if_pos h, if_pos (by omega)]
          · rw [if_neg h, if_neg (by omega)])⟩
      case measure => simp [intOf]; omega
    · obtain rfl : k = 256 := by omega
      go_wp2
      go_ret
      exact ⟨rfl, hx, hr.congr (fun j hj => by rw [row12_get n j hj, if_pos hj])⟩
end Go.Proofs.YtmacobegnkmmcaaDoor
