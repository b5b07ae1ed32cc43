/- census.Rank. -/
import Derived.Test.YtloooajippcdlaaDoorCount
import Derived.Test.YtloooajippcdlaaDoorBytesW
import Derived.Deep.RegionHeld3
import Derived.StillTailTactics
namespace Go.Proofs.YtloooajippcdlaaDoor
open Go.RowKit

/-- a sum of the call's own, that has come to x -/
structure SumI (w wr : World) (S x : Nat) : Prop where
  ext : Ext w wr
  ge : w.heap.size ≤ S
  lt : S < wr.heap.size
  c0 : wr.cell? ⟨S, 0, none⟩ = some (.int .u64 (sn x))
  c1 : wr.cell? ⟨S, 1, none⟩ = some (.bool (so x))
  f0 : wr.frozen? ⟨S, 0, none⟩ = false
  f1 : wr.frozen? ⟨S, 1, none⟩ = false

theorem SumI.add {w wr W : World} {S x y : Nat} {e : Ending} (h : SumI w wr S x) (ha : Added S 0 (sn (x + y)) (so (x + y)) wr e W) : SumI w W S (x + y) :=
  ⟨ha.2.2.2.ext h.ext (fun k j hs => by have := hs.1; have := h.ge; omega), h.ge, Nat.lt_of_lt_of_le h.lt ha.2.2.2.size, ha.2.1, ha.2.2.1,
    by rw [ha.2.2.2.frozen _ _ h.lt]; exact h.f0, by rw [ha.2.2.2.frozen _ _ h.lt]; exact h.f1⟩

theorem SumI.drew {w wr : World} {S x : Nat} (h : SumI w wr S x) : SumI w wr.drew S x := ⟨h.ext.drew, h.ge, h.lt, h.c0, h.c1, h.f0, h.f1⟩


noncomputable def Dn.total (d : Dn) (label : Int) (l : List Nat) : Nat := CM.sumTo (fun n => d.ways label n 0) l.length + CM.rankB d.nx (fun t => d.lb t == label) l 0

def RankPost (d : Dn) (label : Int) (l : List Nat) (w : World) (e : Ending) (w' : World) : Prop :=
  Ext w w' ∧ ((d.total label l < 18446744073709551616 ∧ d.lb (CM.run d.nx 0 l) = label ∧ e = .returned (.tuple #[.int .u64 (d.total label l : Int), .bool true, .nilIface])) ∨
    (¬ (d.total label l < 18446744073709551616 ∧ d.lb (CM.run d.nx 0 l) = label) ∧ e = .returned (.tuple #[.int .u64 0, .bool false, .nilIface])))

theorem run_lt {d : Dn} (hm : May d) : ∀ (l : List Nat) (s : Nat), s < d.next.length → (∀ c ∈ l, c < 256) → CM.run d.nx s l < d.next.length
  | [], _, hs, _ => hs
  | c :: l, s, hs, hl => run_lt hm l (d.nx s c) (hm.nx_lt hs (hl c (by simp))) (fun x hx => hl x (List.mem_cons_of_mem _ hx))

theorem drop_cons {l : List Nat} {i : Nat} (h : i < l.length) : l.drop i = l.getD i 0 :: l.drop (i + 1) := by
  rw [List.drop_eq_getElem_cons h, List.getD_eq_getElem?_getD, List.getElem?_eq_getElem h]; rfl
set_option maxRecDepth 100000 in
set_option maxHeartbeats 2000000 in
theorem rank_c {v bv : Value} {d : Dn} {l : List Nat} {w : World} (h : DenseV w v d) (hm : May d) {label : Int} (hl : -1 ≤ label) (hb : BytesW w bv l) (hl64 : l.length ≤ 64) (hbytes : ∀ c ∈ l, c < 256) :
    Calls Tryd.prog 47 #[v, .int .i64 label, bv] w (RankPost d label l w) := by
  have hmb := mayB_true.2 hm
  have HM := Lib.hid hm
  obtain ⟨bn, on, cn, bl, ol, cl, rfl, hc⟩ := h.cells hm
  obtain ⟨_, ab, cb, rfl, _, hbc⟩ := hb.open
  rw [List.length_map] at hbc ⊢
  obtain ⟨L, hL⟩ : ∃ L, L = l.length := ⟨_, rfl⟩
  have HL := Lib.hid hL
  rw [← hL] at hl64 hbc ⊢
  obtain ⟨N, hN⟩ : ∃ N, N = d.next.length := ⟨_, rfl⟩
  have HN := Lib.hid hN
  have hpos : 0 < N := by rw [hN]; exact hm.pos
  rw [← hN] at h ⊢
  have hb0 := fun W (hx : Ext (w.alloc (.cells #[.slice (some ⟨bn, on, none⟩) N cn, .slice (some ⟨bl, ol, none⟩) N cl] 25)) W) => hx.cell (p := ⟨w.heap.size, 0, none⟩) (v := .slice (some ⟨bn, on, none⟩) N cn) (by simp)
  have hb1 := fun W (hx : Ext (w.alloc (.cells #[.slice (some ⟨bn, on, none⟩) N cn, .slice (some ⟨bl, ol, none⟩) N cl] 25)) W) => hx.cell (p := ⟨w.heap.size, 1, none⟩) (v := .slice (some ⟨bl, ol, none⟩) N cl) (by simp)
  have hd := fun W (hx : Ext (w.alloc (.cells #[.slice (some ⟨bn, on, none⟩) N cn, .slice (some ⟨bl, ol, none⟩) N cl] 25)) W) => h.ext ((Ext.box w _).trans hx)
  clear h hm hN hb hL
  have hl' : ¬ label < -1 := by omega
  have hL' : ¬ (64 : Int) < L := by omega
  go_enter Tryd.func47, Tryd.ntmps47
  go_wp2_with fail
  refine (check_c (hd _ (Ext.refl _))).mono ?_
  rintro e w1 ⟨rfl, hx1⟩
  have hb0' := hb0 _ hx1
  have hb1' := hb1 _ hx1
  go_wp2_with fail
  refine (counted_v (hd _ hx1) HM.out label L hl64).mono ?_
  rintro e w2 ⟨T, rfl, ht, hx2⟩
  rw [← HN.out] at ht
  have hb0' := hb0 _ (hx1.trans hx2)
  have hb1' := hb1 _ (hx1.trans hx2)
  have hx3 : Ext w w2 := (Ext.box w _).trans (hx1.trans hx2)
  have hc2 := hc.ext hx3
  have hbc2 : 0 < L → ∃ b o, ab = some ⟨b, o, none⟩ ∧ ∀ i, i < L → w2.cell? ⟨b, o + i, none⟩ = some (.int .u8 (l.getD i 0 : Nat)) := fun h0 => by
    obtain ⟨b, o, h1, h2⟩ := hbc h0
    refine ⟨b, o, h1, fun i hi => hx3.cell ?_⟩
    rw [h2 i hi, List.getD_eq_getElem?_getD, List.getElem?_map, List.getD_eq_getElem?_getD]
    cases l[i]? <;> rfl
  clear hb0 hb1 hd hx1 hx2 hc hbc
  have hsz : w.heap.size < w2.heap.size := World.block_lt_of_cell? _ _ hb0'
  go_wp2
  go_loopw [38] (fun iv wr => ∃ n : Nat, n ≤ L ∧ iv = .int .i64 n ∧ SumI w2 wr w2.heap.size (CM.sumTo (fun n => d.ways label n 0) n)) (fun iv _ => L - (intOf iv).toNat)
  case atStart => exact ⟨0, Nat.zero_le _, rfl, Ext.box _ _, Nat.le_refl _, by simp, by simp [CM.sumTo, sn], by simp [CM.sumTo, so], by simp, by simp⟩
  case round =>
    obtain ⟨n, hn, rfl, hS⟩ := hrel
    by_cases hlt : n < L
    · obtain ⟨B, ht1, ht2⟩ := TabV.ext hS.ext ht n (by omega)
      have hs := ht2 0 hpos
      unfold SumAt at hs
      rw [Nat.zero_mul] at hs
      have hs0 := hs.1
      have hs1 := hs.2
      have hn65 : n < 65 := by omega
      clear hs ht2
      go_wp2_with fail
      refine (add_c (x := CM.sumTo (fun n => d.ways label n 0) n) hS.c0 hS.c1 hS.f0 hS.f1).mono ?_
      intro e W ha
      have hS' := hS.add ha
      obtain ⟨rfl, _⟩ := ha
      clear hs0 hs1 ht1 hS
      go_wp2
      go_roundw
      case rel => exact ⟨n + 1, by omega, by go_num, hS'⟩
      case measure => simp [intOf]; omega
    · obtain rfl : L = n := by omega
      clear hlt
      go_wp2
      have hS' := hS
      clear hS
      go_loopw [13, 53] (fun sv iv wi => ∃ i s x : Nat, i ≤ L ∧ iv = .int .i64 i ∧ sv = .int .i64 s ∧ s < N ∧ s = CM.run d.nx 0 (l.take i) ∧ SumI w2 wi w2.heap.size x ∧ x + CM.rankB d.nx (fun t => d.lb t == label) (l.drop i) s = d.total label l) (fun _ iv _ => L - (intOf iv).toNat)
      case atStart => exact ⟨0, 0, _, Nat.zero_le _, rfl, rfl, hpos, by simp [CM.run], hS', by rw [List.drop_zero, HL.out]; rfl⟩
      case round =>
        clear hS'
        obtain ⟨i, s, x, hi, rfl, rfl, hs, hrun, hS, htot⟩ := hrel
        have HR := Lib.hid hrun
        have HT := Lib.hid htot
        clear hrun htot
        by_cases hiL : i < L
        · obtain ⟨bb, ob, rfl, hbc3⟩ := hbc2 (by omega)
          have hbi := hS.ext.cell (hbc3 i hiL)
          obtain ⟨b, hbb⟩ : ∃ b, b = l.getD i 0 := ⟨_, rfl⟩
          rw [← hbb] at hbi
          have hb256 : b < 256 := by
            rw [hbb, List.getD_eq_getElem?_getD, List.getElem?_eq_getElem (by rw [← HL.out]; exact hiL)]
            exact hbytes _ (List.getElem_mem _)
          have HB := Lib.hid hbb
          clear hbb hbc2 hbc3
          go_wp2
          go_loopw [60] (fun cv wi => ∃ c : Nat, c ≤ b ∧ cv = .int .i64 c ∧ SumI w2 wi w2.heap.size (x + CM.sumTo (fun c => d.ways label (L - i - 1) (d.nx s c)) c)) (fun cv _ => b - (intOf cv).toNat)
          case atStart => exact ⟨0, Nat.zero_le _, rfl, hS⟩
          case round =>
            clear hS hbi
            obtain ⟨c, hcb, rfl, hS⟩ := hrel
            by_cases hcl : c < b
            · obtain ⟨br, ro, cr, hr1, hr2⟩ := hc2.row s (by rw [← HN.out]; exact hs)
              have hr1' := hS.ext.cell hr1
              have hqc := hS.ext.cell (hr2 c (by omega))
              have hlt2 := HM.out.nx_lt (s := s) (c := c) (by rw [← HN.out]; exact hs) (by omega)
              rw [← HN.out] at hlt2
              obtain ⟨m, hmm⟩ : ∃ m, m = L - i - 1 := ⟨_, rfl⟩
              obtain ⟨m1, hmm1⟩ : ∃ m1, m1 = L - i := ⟨_, rfl⟩
              obtain ⟨Bp, ht1, ht2⟩ := TabV.ext hS.ext ht m (by omega)
              have hs2 := ht2 (d.nx s c) hlt2
              unfold SumAt at hs2
              have hs0 := hs2.1
              have hs1 := hs2.2
              have hbx := hS.ext.cell hb0'
              have h65 : m < 65 := by omega
              have hc256 : c < 256 := by omega
              have hj1 : (m : Int) < 65 := by omega
              have hj2 : IntKind.i64.wrap ((L : Int) - i) = (m1 : Int) := (IntWalk.i64_in _ (by omega)).trans (by omega)
              have hj3 : IntKind.i64.wrap ((m1 : Int) - 1) = (m : Int) := (IntWalk.i64_in _ (by omega)).trans (by omega)
              have hj8 : (c : Int) < 256 := by omega
              rw [← hmm] at hS ⊢
              have HMM := Lib.hid hmm
              clear hmm hmm1 hr1 hr2 hs2 ht2
              go_wp2
              go_still_tail 20, (by kernel_rfl)
              change wpList _ _ _ _ _ wr.drew
              have hS1 := hS.drew
              go_wp2_with fail
              refine (add_c (x := x + CM.sumTo (fun c => d.ways label m (d.nx s c)) c) hS1.c0 hS1.c1 hS1.f0 hS1.f1).mono ?_
              intro e W ha
              have hS' := hS1.add ha
              obtain ⟨rfl, _⟩ := ha
              clear hs0 hs1 ht1 hS hS1 hr1' hqc hbx
              go_wp2
              go_roundw
              case rel => exact ⟨c + 1, by omega, by go_num, by rw [CM.sumTo, ← Nat.add_assoc]; exact hS'⟩
              case measure => simp [intOf]; omega
            · obtain rfl : c = b := by omega
              obtain ⟨br, ro, cr, hr1, hr2⟩ := hc2.row s (by rw [← HN.out]; exact hs)
              have hr1' := hS.ext.cell hr1
              have hqc := hS.ext.cell (hr2 c hb256)
              have hlt2 := HM.out.nx_lt (s := s) (c := c) (by rw [← HN.out]; exact hs) hb256
              rw [← HN.out] at hlt2
              have hbx := hS.ext.cell hb0'
              clear hr1 hr2
              go_wp2
              go_roundw
              case rel =>
                have hil : i < l.length := by rw [← HL.out]; exact hiL
                refine ⟨i + 1, d.nx s c, _, by omega, by go_num, rfl, hlt2, ?_, hS, ?_⟩
                · rw [take_snoc hil, ← HB.out, CM.run, List.foldl_append, List.foldl_cons, List.foldl_nil, HR.out]; rfl
                · rw [← HT.out, drop_cons hil, ← HB.out, CM.rankB, List.length_drop, ← HL.out, show L - (i + 1) = L - i - 1 from by omega, Nat.add_assoc]; rfl
              case measure => simp [intOf]; omega
        · obtain rfl : L = i := by omega
          have hbx := hS.ext.cell hb1'
          have hlab := hS.ext.cell (hc2.label s (by rw [← HN.out]; exact hs))
          have hrun : s = CM.run d.nx 0 l := by rw [HR.out, HL.out, List.take_length]
          have hx : x = d.total label l := by rw [← HT.out, HL.out, List.drop_length, CM.rankB, Nat.add_zero]
          have HR' := Lib.hid hrun
          have HX := Lib.hid hx
          have h0 := hS.c0
          have h1 := hS.c1
          clear hrun hx
          by_cases hsm : x < 18446744073709551616
          · have e1 : so x = false := by simp [so]; omega
            have e2 : sn x = x := by unfold sn; rw [if_pos hsm]
            by_cases hlb : d.lb s = label
            · have e3 : (d.lb s != label) = false := by simp [hlb]
              have HLB := Lib.hid hlb
              clear hlb
              go_wp2
              all_goals try go_region
              go_ret3
              exact ⟨hx3.trans hS.ext, .inl ⟨by rw [← HX.out]; exact hsm, by rw [← HR'.out]; exact HLB.out, by rw [← HX.out]; rfl⟩⟩
            · have e3 : (d.lb s != label) = true := by simp [hlb]
              have HLB := Lib.hid hlb
              clear hlb
              go_wp2
              all_goals try go_region
              go_ret3
              exact ⟨hx3.trans hS.ext, .inr ⟨fun h => HLB.out (by rw [HR'.out]; exact h.2), rfl⟩⟩
          · have e1 : so x = true := by simp [so]; omega
            have HSM := Lib.hid hsm
            clear hsm
            go_wp2
            all_goals try go_region
            go_ret3
            exact ⟨hx3.trans hS.ext, .inr ⟨fun h => HSM.out (by rw [HX.out]; exact h.1), rfl⟩⟩
end Go.Proofs.YtloooajippcdlaaDoor
