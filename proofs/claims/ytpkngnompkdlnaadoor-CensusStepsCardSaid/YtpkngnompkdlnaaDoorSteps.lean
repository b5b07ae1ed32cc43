/- The law CensusSteps: for every automaton the call returns true, and what was there is as it was. -/
import Derived.Test.YtpkngnompkdlnaaDoorBegun
import Derived.Test.YtpkngnompkdlnaaDoorWakes14
import Derived.Test.YtpkngnompkdlnaaDoorMay
namespace Go.Proofs.YtpkngnompkdlnaaDoor
open Go.RowKit

theorem u64_info : (Tryd.prog.info? 36).map (fun i => (i.zero, i.size, i.bytes)) = some (some (.int .u64 0), 1, 8) := by kernel_rfl

theorem pow6 (n : Nat) (h : n ≤ 6) : 256 ^ n ≤ 281474976710656 := by
  have : 256 ^ n ≤ 256 ^ 6 := Nat.pow_le_pow_right (by omega) h
  exact Nat.le_trans this (by decide)
theorem ways_small (d : Dn) (label : Int) {n : Nat} (h : n ≤ 6) (s : Nat) : d.ways label n s ≤ 281474976710656 := Nat.le_trans (CM.ways_le _ _ n s) (pow6 n h)
theorem small_sn {x : Nat} (h : x ≤ 281474976710656) : sn x = x ∧ so x = false := by
  refine ⟨by unfold sn; rw [if_pos (by omega)], by unfold so; simp; omega⟩

set_option maxRecDepth 100000 in
set_option maxHeartbeats 1000000 in
theorem steps_skip {v : Value} {d : Dn} {w : World} (h : DenseV w v d) (hno : ¬ (d.next.length ≤ 12 ∧ May d)) :
    Calls Tryd.prog 4 #[v] w fun e w' => e = .returned (.bool true) ∧ Ext w w' := by
  obtain ⟨an, cn, al, cl, rfl, ho⟩ := h.open
  have hn := ho.n
  obtain ⟨n, hnn⟩ : ∃ n, n = d.next.length := ⟨_, rfl⟩
  rw [← hnn] at hn hno h ⊢
  have H := Lib.hid h
  clear hnn ho
  by_cases h40 : 12 < n
  · have h40' : (12 : Int) < n := by omega
    go_enter Tryd.func4, Tryd.ntmps4
    go_wp2_with fail
    refine (wakes14_c _).mono ?_
    rintro e w1 ⟨rfl, hx1⟩
    go_wp2
    go_ret
    exact ⟨rfl, (Ext.box _ _).trans hx1⟩
  · have h40' : ¬ (12 : Int) < n := by omega
    have hm : ¬ May d := fun hm => hno ⟨by omega, hm⟩
    have hmb := mayB_false hm
    clear hno h hm
    go_enter Tryd.func4, Tryd.ntmps4
    go_wp2_with fail
    refine (may_c (H.out.ext (Ext.box _ _))).mono ?_
    rintro e w1 ⟨rfl, hx1⟩
    go_wp2_with fail
    refine (wakes14_c _).mono ?_
    rintro e w2 ⟨rfl, hx2⟩
    go_wp2
    go_ret
    exact ⟨rfl, ((Ext.box _ _).trans hx1).trans hx2⟩

noncomputable def waysV (d : Dn) (m s : Nat) : List Value := (List.range s).map fun q => Value.int .u64 (d.ways 0 m q : Nat)
theorem waysV_snoc (d : Dn) (m s : Nat) : waysV d m (s + 1) = waysV d m s ++ [.int .u64 (d.ways 0 m s : Nat)] := by simp [waysV, List.range_succ]
theorem waysV_get (d : Dn) (m : Nat) {s q : Nat} (h : q < s) : (waysV d m s)[q]? = some (.int .u64 (d.ways 0 m q : Nat)) := by
  rw [waysV, List.getElem?_map, List.getElem?_range h]; rfl

set_option maxRecDepth 100000 in
set_option maxHeartbeats 1000000 in
theorem steps_go {v : Value} {d : Dn} {w : World} (h : DenseV w v d) (h12 : d.next.length ≤ 12) (hm : May d) :
    Calls Tryd.prog 4 #[v] w fun e w' => e = .returned (.bool true) ∧ Ext w w' := by
  have HM := Lib.hid hm
  have hmb := mayB_true.2 hm
  have H := Lib.hid h
  obtain ⟨bn, on, cn, bl, ol, cl, rfl, hc⟩ := h.cells hm
  have HC := Lib.hid hc
  obtain ⟨N, hN⟩ : ∃ N, N = d.next.length := ⟨_, rfl⟩
  have HN := Lib.hid hN
  have hpos : 0 < N := by rw [hN]; exact hm.pos
  rw [← hN] at H h12 ⊢
  obtain ⟨i0, hi, hz0, hz1, hz2⟩ := info_parts u64_info
  obtain ⟨O, hO⟩ : ∃ O, O = (Obj.cells #[.slice (some ⟨bn, on, none⟩) N cn, .slice (some ⟨bl, ol, none⟩) N cl] 25) := ⟨_, rfl⟩
  have hb : ∀ W, Ext (w.alloc O) W → W.cell? ⟨w.heap.size, 0, none⟩ = some (.slice (some ⟨bn, on, none⟩) N cn) ∧ W.cell? ⟨w.heap.size, 1, none⟩ = some (.slice (some ⟨bl, ol, none⟩) N cl) := by
    intro W hx
    subst hO
    exact ⟨hx.cell (by simp), hx.cell (by simp)⟩
  have HB := Lib.hid hb
  have HO := Lib.hid hO
  have h12' : ¬ (12 : Int) < N := by omega
  clear hb h hm hN hO hc
  go_enter Tryd.func4, Tryd.ntmps4
  go_wp2_with fail
  rw [← HO.out]
  refine (may_c (H.out.ext (Ext.box _ _))).mono ?_
  rintro e w1 ⟨rfl, hx1⟩
  go_wp2
  go_loopw [3] (fun nv wr => ∃ m : Nat, m ≤ 6 ∧ nv = .int .i64 ((m : Int) + 1) ∧ Ext (w.alloc O) wr) (fun nv _ => 7 - (intOf nv).toNat)
  case atStart => exact ⟨0, by omega, rfl, hx1⟩
  case round =>
    clear hx1
    obtain ⟨m, hm6, rfl, hx⟩ := hrel
    by_cases hlt : m < 6
    · have hlt' : (m : Int) + 1 < 7 := by omega
      go_wp2
      go_loopw [4, 5] (fun ev sv wi => ∃ s : Nat, s ≤ N ∧ sv = .int .i64 s ∧ Ext (w.alloc O) wi ∧ wi.ownsRow (w.heap.size + 1) 36 1 ev s (waysV d m s)) (fun _ sv _ => N - (intOf sv).toNat)
      case atStart => exact ⟨0, Nat.zero_le _, rfl, hx, World.ownsRow_nil _ _ _ _⟩
      case round =>
        clear hx
        obtain ⟨s, hs, rfl, hx, hown⟩ := hrel
        obtain ⟨k0, k1⟩ := HB.out _ hx
        by_cases hsN : s < N
        · have hE := (Ext.box w O).trans hx
          go_wp2_with fail
          refine (begun14_c (H.out.ext hE) HM.out (s := s) (by rw [← HN.out]; exact hsN)).mono ?_
          rintro e w2 ⟨⟨v2, rfl, hd2⟩, hx2⟩
          have hsm := small_sn (ways_small d 0 (n := m) (by omega) s)
          have HS := Lib.hid hsm
          have hown2 := own_ext hx2 hown
          have hx2' := hx.trans hx2
          clear hown hsm k0 k1
          go_wp2_with fail
          refine (count_c (label := 0) (n := m) hd2 (begun_may HM.out (by rw [← HN.out]; exact hsN)) (by omega) (by omega)).mono ?_
          rintro e w3 ⟨rfl, hx3⟩
          rw [begun_ways HM.out (by rw [← HN.out]; exact hsN), HS.out.1, HS.out.2]
          have hown3 := (own_ext hx3 hown2).alloc (.cells #[.int .u64 (d.ways 0 m s : Nat)] 36)
          have hx3' := hx2'.trans hx3
          have hcell := cell_one_new w3 (.int .u64 (d.ways 0 m s : Nat)) 36
          have h1c : ∀ u ∈ [Value.int .u64 (d.ways 0 m s : Nat)], u.oneCell' = true := by intro u hu; simp at hu; subst hu; rfl
          have hbase : w.heap.size + 1 ≤ (w3.alloc (.cells #[.int .u64 (d.ways 0 m s : Nat)] 36)).heap.size := by have := hx3'.size; simp at this; simp; omega
          have hmax : s + 1 ≤ maxLen := by unfold maxLen; omega
          clear hown2 hx2 hx2' hd2 hE
          go_wp2_with (at_builtin; refine wpList_append_own _ rfl _ _ 26 rfl (w.heap.size + 1) 36 i0 (.int .u64 0) 1 8 Tryd.underlying26 hi hz0 hz1 hz2 rfl (by decide) _ s (waysV d m s) rfl hown3 ⟨w3.heap.size, 0, none⟩ 1 1 [.int .u64 (d.ways 0 m s : Nat)] rfl rfl hcell h1c hmax (by omega) hbase ?_; intro v' W hown' hg _)
          go_roundw
          case rel =>
            refine ⟨s + 1, by omega, by go_num, ?_, by rw [waysV_snoc]; exact hown'⟩
            exact Below.grown (hx3'.alloc _) hg (by simp; have := hx3'.size; simp at this; omega) (fun g hg' => by have := (hown3.lt g hg').1; simp; omega)
          case measure => simp [intOf]; omega
        · obtain rfl : N = s := by omega
          obtain ⟨g, cap, hev, hg1, hg2⟩ := own_slc hown (by omega)
          subst hev
          have hcell : ∀ W, Ext wr W → ∀ q, q < N → W.cell? ⟨g, q, none⟩ = some (.int .u64 (d.ways 0 m q : Nat)) := fun W hW q hq => hW.cell (by rw [hown.cellAt q (by omega)]; exact waysV_get d m hq)
          have HCE := Lib.hid hcell
          have hE := (Ext.box w O).trans hx
          obtain ⟨br, ro, cr, hr1, hr2⟩ := HC.out.row 0 (by rw [← HN.out]; exact hpos)
          have hr1' := hE.cell hr1
          have hr2' := fun c (hc : c < 256) => hE.cell (hr2 c hc)
          have HR2 := Lib.hid hr2'
          rw [Nat.add_zero] at hr1'
          clear hown hcell hr1 hr2 hr2' hsN
          go_wp2
          go_loopw [9, 10] (fun sv cv wi => wi = wr ∧ ∃ c : Nat, c ≤ 256 ∧ cv = .int .i64 c ∧ sv = .int .u64 (CM.sumTo (fun c => d.ways 0 m (d.nx 0 c)) c : Nat)) (fun _ cv _ => 256 - (intOf cv).toNat)
          case atStart => exact ⟨rfl, 0, Nat.zero_le _, rfl, rfl⟩
          case round =>
            obtain ⟨rfl, c, hc, rfl, rfl⟩ := hrel
            by_cases hc256 : c < 256
            · have q1 := HR2.out c hc256
              have hlt2 := HM.out.nx_lt (s := 0) (c := c) (by rw [← HN.out]; exact hpos) hc256
              rw [← HN.out] at hlt2
              have q2 := HCE.out _ (Ext.refl _) (d.nx 0 c) hlt2
              have hle1 : CM.sumTo (fun c => d.ways 0 m (d.nx 0 c)) c + d.ways 0 m (d.nx 0 c) ≤ 281474976710656 := by
                have h1 := CM.sumTo_succ_le (f := fun c => d.ways 0 m (d.nx 0 c)) hc256
                have h2 := ways_small d 0 (n := m + 1) (by omega) 0
                rw [ways_succ] at h2
                exact Nat.le_trans h1 h2
              obtain ⟨y, hy⟩ : ∃ y, y = d.nx 0 c := ⟨_, rfl⟩
              obtain ⟨z, hz⟩ : ∃ z, z = d.ways 0 m (d.nx 0 c) := ⟨_, rfl⟩
              obtain ⟨S, hS⟩ : ∃ S, S = CM.sumTo (fun c => d.ways 0 m (d.nx 0 c)) c := ⟨_, rfl⟩
              rw [← hz, ← hS] at hle1
              rw [← hz] at q2
              rw [← hy] at q1 q2 hlt2
              have hw1 : IntKind.u64.wrap ((S : Int) + z) = ((S + z : Nat) : Int) := (IntWalk.u64_in _ (by omega)).trans (by omega)
              have HSS := Lib.hid (And.intro hz hS)
              rw [← hS]
              have hj1 : (y : Int) < N := by omega
              have hj2 : (c : Int) < 256 := by omega
              clear hy hz hS
              go_wp2
              go_roundw
              case rel => exact ⟨trivial, c + 1, by omega, by go_num, by rw [CM.sumTo, ← HSS.out.1, ← HSS.out.2, Int.natCast_add]⟩
              case measure => simp [intOf]; omega
            · obtain rfl : c = 256 := by omega
              have hsum : CM.sumTo (fun c => d.ways 0 m (d.nx 0 c)) 256 = d.ways 0 (m + 1) 0 := (ways_succ d 0 m 0).symm
              rw [hsum]
              have hsm := small_sn (ways_small d 0 (n := m + 1) (by omega) 0)
              have HS := Lib.hid hsm
              clear hsum hsm hr1'
              go_wp2_with fail
              refine (count_c (label := 0) (n := m + 1) (H.out.ext hE) HM.out (by omega) (by omega)).mono ?_
              rintro e w3 ⟨rfl, hx3⟩
              rw [HS.out.1, HS.out.2]
              go_wp2
              go_roundw
              case rel => exact ⟨m + 1, by omega, by go_num, hx.trans hx3⟩
              case measure => simp [intOf]; omega
    · obtain rfl : m = 6 := by omega
      go_wp2_with fail
      refine (wakes14_c _).mono ?_
      rintro e w2 ⟨rfl, hx2⟩
      go_wp2
      go_ret
      exact ⟨rfl, (Ext.box w O).trans (hx.trans hx2)⟩
end Go.Proofs.YtpkngnompkdlnaaDoor
