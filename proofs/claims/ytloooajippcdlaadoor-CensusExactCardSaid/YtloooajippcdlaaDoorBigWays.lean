/- bolterref14.Ways: of each length up to the most, from each state, how many words lead to the label. -/
import Derived.Test.YtloooajippcdlaaDoorBigWayS
import Derived.Test.YtloooajippcdlaaDoorCount
import Derived.Test.YtloooajippcdlaaDoorGrow
import Derived.Deep.RegionLaw
import Derived.Deep.RegionHeld3
import Derived.Deep.DeepCutAuto
namespace Go.Proofs.YtloooajippcdlaaDoor
open Go.RowKit

theorem big_info : (Tryd.prog.info? 134).map (fun i => (i.zero, i.size, i.bytes)) = some (some (.slice none 0 0), 1, 24) := by kernel_rfl
theorem bigs_info : (Tryd.prog.info? 135).map (fun i => (i.zero, i.size, i.bytes)) = some (some (.slice none 0 0), 1, 24) := by kernel_rfl
theorem ways_len (d : Dn) (label : Int) {m s : Nat} (hm : m ≤ 64) : (BG.dig (d.ways label m s)).length ≤ 70 := by
  refine BG.dig_le (k := 70) ?_
  have h1 := CM.ways_le d.nx (fun t => d.lb t == label) m s
  have h2 : (256 : Nat) ^ m ≤ 256 ^ 64 := Nat.pow_le_pow_right (by omega) hm
  have h3 : (256 : Nat) ^ 64 < 256 ^ 70 := Nat.pow_lt_pow_right (by omega) (by omega)
  exact Nat.lt_of_le_of_lt (Nat.le_trans h1 h2) h3
theorem key_elimB {G : Option Addr → Nat → World → Prop} {Good : Option Addr → Nat → World → Prop} {Q : Prop} (h : (∀ gg cap W, Good gg cap W → G gg cap W) → Q) (h2 : ∀ gg cap W, Good gg cap W → G gg cap W) : Q := h h2
theorem dig_len_mono {x y : Nat} (h : x ≤ y) : (BG.dig x).length ≤ (BG.dig y).length := by
  rcases Nat.lt_or_ge (BG.dig y).length (BG.dig x).length with h1 | h1
  · have h2 := BG.dig_len.1 h1
    have h3 := BG.hi_mono h (BG.dig y).length
    have h4 := mt (BG.dig_len (n := y) (i := (BG.dig y).length)).2 (Nat.lt_irrefl _)
    omega
  · exact h1
theorem Lst.big {w w' : World} {own : Nat → Nat} {B n : Nat} {v : Value} (h : Lst 4 w own B 3 v (intsV (bI (BG.dig n)))) (hx : Ext w w') (hl : (BG.dig n).length ≤ 1000) : BigV w' v n := by
  have h1 := own_ext hx h.row
  rw [vb_len] at h1
  exact own_big h1 hl
/-- what Ways tells -/
def WaysR (d : Dn) (label : Int) (most : Nat) (w : World) (e : Ending) (w' : World) : Prop :=
  ∃ g c, e = .returned (.slice (some ⟨g, 0, none⟩) (most + 1) c) ∧ Ext w w' ∧ ∀ W, (∀ b, w.heap.size ≤ b → b < w'.heap.size → W.heap[b]? = w'.heap[b]?) → WaysV W g d.next.length most (fun m s => d.ways label m s)

set_option maxRecDepth 100000 in
set_option maxHeartbeats 8000000 in
theorem ways14_c {w : World} {v : Value} {d : Dn} (h : DenseV w v d) (hm : May d) (label : Int) {most : Nat} (hmost : most ≤ 64) :
    Calls Tryd.prog 83 #[v, .int .i64 label, .int .i64 (most : Int)] w (WaysR d label most w) := by
  obtain ⟨bn, on, cn, bl, ol, cl, rfl, hc⟩ := h.cells hm
  obtain ⟨N, hN⟩ : ∃ N, N = d.next.length := ⟨_, rfl⟩
  have hN6 : N ≤ 600 := by rw [hN]; exact hm.most
  obtain ⟨F, hF⟩ : ∃ F : Nat → Nat → Nat, F = fun m s => d.ways label m s := ⟨_, rfl⟩
  have hdef : WaysR d label most w = fun e w' => ∃ g c, e = .returned (.slice (some ⟨g, 0, none⟩) (most + 1) c) ∧ Ext w w' ∧ ∀ W, (∀ b, w.heap.size ≤ b → b < w'.heap.size → W.heap[b]? = w'.heap[b]?) → WaysV W g N most F := by funext e w'; unfold WaysR; rw [← hN, hF]
  rw [hdef, ← hN]
  have hF0 : ∀ s, F 0 s = if d.lb s = label then 1 else 0 := fun s => by rw [hF]; exact ways_zero d label s
  have hFs : ∀ n s, F (n + 1) s = CM.sumTo (fun c => F n (d.nx s c)) 256 := fun n s => by rw [hF]; exact ways_succ d label n s
  have hFl : ∀ m s, m ≤ 64 → (BG.dig (F m s)).length ≤ 70 := fun m s hm => by rw [hF]; exact ways_len d label hm
  obtain ⟨w1, hw1⟩ : ∃ w1, w1 = w.alloc (.cells #[.slice (some ⟨bn, on, none⟩) N cn, .slice (some ⟨bl, ol, none⟩) N cl] 25) := ⟨_, rfl⟩
  have b0 : w1.cell? ⟨w.heap.size, 0, none⟩ = some (.slice (some ⟨bn, on, none⟩) N cn) := by rw [hw1]; exact new_cell rfl
  have b1 : w1.cell? ⟨w.heap.size, 1, none⟩ = some (.slice (some ⟨bl, ol, none⟩) N cl) := by rw [hw1]; exact new_cell rfl
  have hx1 : Ext w w1 := by rw [hw1]; exact Ext.box _ _
  obtain ⟨db, hdb⟩ : ∃ b, b = w.heap.size := ⟨_, rfl⟩
  rw [← hdb] at b0 b1
  have H := Lib.hid (And.intro (hc.ext hx1) (And.intro hm (And.intro hN (And.intro b0 (And.intro b1 (And.intro hx1 (And.intro hF0 (And.intro hFs hFl))))))))
  have HW := Lib.hid (And.intro hw1 hdb)
  clear hc hm hN b0 b1 hx1 hF0 hFs hFl hw1 hdb hdef hF h
  go_enter Tryd.func83, Tryd.ntmps83
  go_wp2_with fail
  rw [← HW.out.1, ← HW.out.2]
  go_loopw [7, 8] (fun av kv wr => ∃ (k : Nat) (own : Nat → Nat) (R : Nat → Nat) (bv : Nat → Nat → Value), k ≤ most + 1 ∧ kv = .int .i64 k ∧ WyS w1 wr own N F av k R bv) (fun _ kv _ => most + 1 - (intOf kv).toNat)
  case atStart => exact ⟨0, fun _ => 9, _, _, Nat.zero_le _, rfl, WyS.nil w1 _ N F⟩
  case round =>
    obtain ⟨k, own, R, bv, hk, rfl, hS⟩ := hrel
    obtain ⟨aa, ac, hav⟩ := own_shpB hS.all.row
    rw [List.length_map, List.length_range] at hav
    subst hav
    by_cases hlt : k ≤ most
    · have hj1 : (k : Int) ≤ most := by omega
      have k0 := hS.ext.cell H.out.2.2.2.1
      have hmk : ∀ w : World, (Instr.makeSlice 135 (.int .i64 (N : Int)) (.int .i64 (N : Int))).run Tryd.prog w = .ok (.slice (some ⟨w.heap.size, 0, none⟩) N N) (w.alloc (.cells (madeCells #[.slice none 0 0] N) 134)) := fun w => by
        have h := run_make_any (P := Tryd.prog) 135 134 (.slice none 0 0) 1 24 Tryd.underlying135 big_info .i64 .i64 N (by omega) (by omega) w
        rwa [Nat.mul_one] at h
      have hB := RwS.begin hS (c := madeCells #[.slice none 0 0] N) (size_madeCells _ _) (fun i hi => made_one _ hi)
      have HB := Lib.hid (And.intro hB hS)
      clear hB hS
      go_wp2_with fail
      clear hmk k0
      obtain ⟨C, hC⟩ : ∃ C, C = wr.heap.size := ⟨_, rfl⟩
      have hB := HB.out.1
      rw [← hC] at hB ⊢
      generalize World.alloc wr _ = W2 at hB ⊢
      obtain ⟨own2, hB2⟩ : ∃ own2, RwS w1 W2 own2 N F (.slice aa k ac) k R bv C (fun _ => .slice none 0 0) (fun s => if s < 0 then F k s else 0) := ⟨_, hB.congr fun s _ => by simp⟩
      have HB2 := Lib.hid hB2
      clear hB hB2 hC HB
      go_loopw [10] (fun iv wr => ∃ (i : Nat) (own : Nat → Nat) (f : Nat → Value), i ≤ N ∧ iv = .int .i64 i ∧ RwS w1 wr own N F (.slice aa k ac) k R bv C f (fun s => if s < i then F k s else 0)) (fun iv _ => N - (intOf iv).toNat)
      case atStart => exact ⟨0, own2, _, Nat.zero_le _, rfl, HB2.out⟩
      case round =>
        clear HB2
        rename World => w3
        obtain ⟨i, own3, f, hi, rfl, hS⟩ := hrel
        by_cases hiN : i < N
        · have hj2 : (i : Int) < N := by omega
          have k0 := hS.wy.ext.cell H.out.2.2.2.1
          have k1 := hS.wy.ext.cell H.out.2.2.2.2.1
          by_cases hk0 : k = 0
          · subst hk0
            have hl := hS.wy.ext.cell (H.out.1.label i (by rw [← H.out.2.2.1]; exact hiN))
            obtain ⟨x, hx⟩ : ∃ x, x = d.lb i := ⟨_, rfl⟩
            rw [← hx] at hl
            have hF0 := H.out.2.2.2.2.2.2.1 i
            rw [← hx] at hF0
            have hcur := hS.cur.row.cell hiN
            have hfr := hS.cur.row.frozen i
            by_cases hxl : x = label
            · have he : (x == label) = true := by simp [hxl]
              rw [if_pos hxl] at hF0
              have hx4 : Ext w3 (w3.alloc (.cells #[.int .i64 1] 3)) := Ext.box _ _
              have hv : (w3.alloc (.cells #[.int .i64 1] 3)).ownsRow w3.heap.size 3 1 (.slice (some ⟨w3.heap.size, 0, none⟩) 1 1) (BG.dig 1).length (intsV (bI (BG.dig 1))) := by
                have e : BG.dig 1 = [1] := by rw [BG.dig_pos (by omega), show 1 / 256 = 0 from rfl, BG.dig_zero]
                rw [e]
                exact ⟨rfl, .inr ⟨w3.heap.size, 1, _, rfl, Nat.le_refl _, heap_alloc_new _ _, Nat.le_refl _, by unfold maxLen; omega, rfl, rfl⟩⟩
              have hP := (hS.put hx4 (i := i) hv).congr (G' := fun s => if s < i + 1 then F 0 s else 0) fun s _ => by
                by_cases e : s = i
                · subst e; simp [hF0]
                · by_cases e2 : s < i
                  · simp [e, e2, show s < i + 1 by omega]
                  · simp [e, e2, show ¬ s < i + 1 by omega]
              have hcur := (Ext.box w3 (.cells #[.int .i64 1] 3)).cell hcur
              have hfr := (Below.frozen (Ext.box w3 (.cells #[.int .i64 1] 3)) (p := ⟨C, i, none⟩) hS.cur.row.lt).trans hfr
              have HP := Lib.hid hP
              clear hS hP hv hx4 hx hxl hF0
              go_wp2_with fail
              go_roundw
              case rel => exact ⟨i + 1, _, _, by omega, by go_num, HP.out⟩
              case measure => simp [intOf]; omega
            · have he : (x == label) = false := by simp [hxl]
              rw [if_neg hxl] at hF0
              have hP := hS.congr (G' := fun s => if s < i + 1 then F 0 s else 0) fun s _ => by
                by_cases e : s = i
                · subst e; simp [hF0]
                · by_cases e2 : s < i
                  · simp [e2, show s < i + 1 by omega]
                  · simp [e2, show ¬ s < i + 1 by omega]
              have HP := Lib.hid hP
              clear hS hP hx hxl hF0 hcur hfr
              go_wp2_with fail
              go_roundw
              case rel => exact ⟨i + 1, _, _, by omega, by go_num, HP.out⟩
              case measure => simp [intOf]; omega
          · obtain ⟨k', hk'⟩ : ∃ k', k' = k - 1 := ⟨_, rfl⟩
            have hz : ((k : Int) == 0) = false := by simp; omega
            have hkk : k = k' + 1 := by omega
            have hS2 := hS.congr (G' := fun s => if s < i then F k s else if s = i then CM.sumTo (fun c => F k' (d.nx i c)) 0 else 0) fun s _ => by
              by_cases e : s = i
              · subst e; simp [CM.sumTo]
              · simp [e]
            have HS := Lib.hid (And.intro hS2 hkk)
            have hkp : 1 ≤ k := by omega
            clear hS hS2 hk' hk0 hkk
            go_wp2_with fail
            clear k0 k1
            go_loopw [11] (fun cv wr => ∃ (c : Nat) (own : Nat → Nat) (f : Nat → Value), c ≤ 256 ∧ cv = .int .i64 c ∧ RwS w1 wr own N F (.slice aa k ac) k R bv C f (fun s => if s < i then F k s else if s = i then CM.sumTo (fun c => F k' (d.nx i c)) c else 0)) (fun cv _ => 256 - (intOf cv).toNat)
            case atStart => exact ⟨0, own3, _, Nat.zero_le _, rfl, HS.out.1⟩
            case round =>
              rename World => w4
              obtain ⟨c, own4, f4, hc, rfl, hS⟩ := hrel
              by_cases hc6 : c < 256
              · have hj3 : (c : Int) < 256 := by omega
                have hkk := HS.out.2
                obtain ⟨ga, ca, hav, _, _, _⟩ := hS.wy.all.slc (by simp; omega)
                rw [List.length_map, List.length_range] at hav
                simp only [Value.slice.injEq, true_and] at hav
                obtain ⟨rfl, rfl⟩ := hav
                have a1 := hS.wy.all.cell (i := k') (x := rowHdr N R k') (by rw [List.getElem?_map, List.getElem?_range (by omega)]; rfl)
                unfold rowHdr at a1
                obtain ⟨br, ro, cr, hr1, hr2⟩ := H.out.1.row i (by rw [← H.out.2.2.1]; exact hiN)
                have k0 := hS.wy.ext.cell H.out.2.2.2.1
                have r1 := hS.wy.ext.cell hr1
                have r2 := hS.wy.ext.cell (hr2 c hc6)
                have htN := H.out.2.1.nx_lt (s := i) (c := c) (by rw [← H.out.2.2.1]; exact hiN) hc6
                rw [← H.out.2.2.1] at htN
                obtain ⟨t, ht⟩ : ∃ t, t = d.nx i c := ⟨_, rfl⟩
                rw [← ht] at r2 htN
                have q1 := (hS.wy.row k' (by omega)).row.cell htN
                have q2 := hS.cur.row.cell hiN
                have q3 := hS.cur.row.frozen i
                have hbt := hS.wy.big k' t (by omega) htN
                have hct := hS.cb i hiN
                have hii : ¬ i < i := Nat.lt_irrefl i
                rw [if_neg hii, if_pos rfl] at hct
                obtain ⟨X, hX⟩ : ∃ X, X = CM.sumTo (fun c => F k' (d.nx i c)) c := ⟨_, rfl⟩
                have hXs : CM.sumTo (fun c => F k' (d.nx i c)) (c + 1) = X + F k' t := by rw [hX, ht]; rfl
                have hXF : X + F k' t ≤ F k i := by rw [← hXs, hkk, H.out.2.2.2.2.2.2.2.1]; exact CM.sumTo_mono (by omega)
                rw [← hX] at hct
                have hl70 := H.out.2.2.2.2.2.2.2.2 k i (by omega)
                have hl71 := dig_len_mono hXF
                have hl72 := dig_len_mono (show X ≤ F k i by omega)
                have hl73 := dig_len_mono (show F k' t ≤ F k i by omega)
                obtain ⟨va, vn, vc, hvb⟩ : ∃ a n c, bv k' t = .slice a n c := by obtain ⟨a, c, e⟩ := own_shpB hbt.row; exact ⟨a, _, c, e⟩
                obtain ⟨fa, fn, fc, hfb⟩ : ∃ a n c, f4 i = .slice a n c := by obtain ⟨a, c, e⟩ := own_shpB hct.row; exact ⟨a, _, c, e⟩
                have hA := add14_c (hct.big (Ext.refl w4).drew (by omega)) (hbt.big (Ext.refl w4).drew (by omega)) (by omega)
                rw [hvb] at q1 hA
                rw [hfb] at q2 hA
                have hw1 : IntKind.i64.wrap ((k : Int) - 1) = (k' : Int) := (IntWalk.i64_in _ (by omega)).trans (by omega)
                have hj4 : (t : Int) < N := by omega
                have hj5 : (k' : Int) < k := by omega
                have HA := Lib.hid (And.intro hA (And.intro hS (And.intro hXs hX)))
                clear hA hS hXs hX hbt hct hvb hfb hl70 hl71 hl72 hl73 hXF hr1 hr2 ht hkk hii
                have hput : ∀ (w5 : World) (a5 : Option Addr) (c5 : Nat), Ext w4 w5 → w5.ownsRow w4.heap.size 3 1 (.slice a5 (BG.dig (X + F k' t)).length c5) (BG.dig (X + F k' t)).length (intsV (bI (BG.dig (X + F k' t)))) →
                    ∃ own9 f9, RwS w1 (w5.setCell ⟨C, i, none⟩ (.slice a5 (BG.dig (X + F k' t)).length c5)) own9 N F (.slice (some ⟨ga, 0, none⟩) k ac) k R bv C f9 (fun s => if s < i then F k s else if s = i then CM.sumTo (fun c => F k' (d.nx i c)) (c + 1) else 0) := fun w5 a5 c5 hx5 hv =>
                  ⟨_, _, (HA.out.2.1.put (w2 := w5) hx5 (i := i) hv).congr (G' := fun s => if s < i then F k s else if s = i then CM.sumTo (fun c => F k' (d.nx i c)) (c + 1) else 0) fun s _ => by
                    by_cases e : s = i
                    · subst e; rw [if_pos rfl, if_neg (Nat.lt_irrefl _), if_pos rfl, HA.out.2.2.1]
                    · rw [if_neg e]
                      by_cases e2 : s < i
                      · rw [if_pos e2, if_pos e2]
                      · rw [if_neg e2, if_neg e, if_neg e2, if_neg e]⟩
                have HPUT := Lib.hid hput
                clear hput
                go_upto_region 15 with fail
                apply key_elimB (Good := fun _ _ W9 => ∃ own9 f9, RwS w1 W9 own9 N F (.slice (some ⟨ga, 0, none⟩) k ac) k R bv C f9 (fun s => if s < i then F k s else if s = i then CM.sumTo (fun c => F k' (d.nx i c)) (c + 1) else 0))
                case h =>
                  intro key
                  go_region_law ((go_simp; go_at_call 87; (with_reducible refine HA.out.1.mono ?_); rintro e w5 ⟨v, rfl, hv, hx5⟩; obtain ⟨va5, vc5, hv5⟩ := own_shpB hv; subst hv5; have e1 := hx5.cell (a := w4.drew) q2; have e2 : w5.frozen? ⟨C, i, none⟩ = false := (Below.frozen hx5 (p := ⟨C, i, none⟩) (lt_of_cell (w := w4) q2)).trans q3))
                  all_goals
                    have hP9 := HPUT.out w5 va5 vc5 ((Ext.refl w4).drew.trans hx5) hv
                    generalize World.setCell _ _ _ = W9 at hP9 ⊢
                    exact key va5 vc5 W9 hP9
                case h2 =>
                  intro va9 vc9 W9 hgood
                  obtain ⟨own9, f9, hS9⟩ := hgood
                  have HS9 := Lib.hid hS9
                  clear hS9 a1 k0 r1 r2 q1 q2 q3 hw1
                  go_wp2
                  go_roundw
                  case rel => exact ⟨c + 1, own9, f9, by omega, by go_num, HS9.out⟩
                  case measure => simp [intOf]; omega
              · obtain rfl : c = 256 := by omega
                have hP := hS.congr (G' := fun s => if s < i + 1 then F k s else 0) fun s _ => by
                  have hFs := H.out.2.2.2.2.2.2.2.1 k' i
                  by_cases e : s = i
                  · subst e; simp [HS.out.2, hFs]
                  · by_cases e2 : s < i
                    · simp [e2, show s < i + 1 by omega]
                    · simp [e2, e, show ¬ s < i + 1 by omega]
                have HP := Lib.hid hP
                clear hS hP hc6 hc
                rw [show ((256 : Nat) : Int) = 256 from rfl]
                go_wp2_with fail
                go_roundw
                case rel => exact ⟨i + 1, _, _, by omega, by go_num, HP.out⟩
                case measure => simp [intOf]; omega
        · obtain rfl : N = i := by omega
          have hown := (hS.wy.all.ext (Ext.box w3 (.cells #[.slice (some ⟨C, 0, none⟩) N N] 135))).row
          rw [List.length_map, List.length_range] at hown
          obtain ⟨j0, hj0, hw0, hw1', hw2⟩ := info_parts bigs_info
          have hcell := cell_one_new w3 (.slice (some ⟨C, 0, none⟩) N N) 135
          have h1c : ∀ u ∈ [Value.slice (some ⟨C, 0, none⟩) N N], u.oneCell' = true := by intro u hu; simp at hu; subst hu; rfl
          have hbase : w1.heap.size ≤ (w3.alloc (.cells #[.slice (some ⟨C, 0, none⟩) N N] 135)).heap.size := by have := hS.wy.ext.size; simp; omega
          have hmax : k + 1 ≤ maxLen := by unfold maxLen; omega
          have HS := Lib.hid hS
          clear hS hiN hi
          go_wp2_with (at_builtin; refine wpList_append_own_at _ rfl _ _ 136 rfl w1.heap.size 135 j0 (.slice none 0 0) 1 24 Tryd.underlying136 hj0 hw0 hw1' hw2 rfl (by decide) _ _ _ rfl hown ⟨w3.heap.size, 0, none⟩ 1 1 [.slice (some ⟨C, 0, none⟩) N N] rfl rfl hcell h1c hmax (by omega) hbase ?_; intro v' W7 hown' hg _ hat)
          obtain ⟨own7, hS7⟩ := HS.out.done (fun s hs => by simp [hs]) (Ext.box _ _) (by rw [List.length_map, List.length_range]; exact hown') hg hat
          have HS7 := Lib.hid hS7
          clear hS7 hown' hg hat hown hcell h1c hbase
          go_roundw
          case rel => exact ⟨k + 1, own7, _, _, by omega, by go_num, HS7.out⟩
          case measure => simp [intOf]; omega
    · have hj1 : ¬ (k : Int) ≤ most := by omega
      obtain rfl : k = most + 1 := by omega
      obtain ⟨g, c, hv, _, _, _⟩ := hS.all.slc (by simp)
      rw [List.length_map, List.length_range] at hv
      simp only [Value.slice.injEq, true_and] at hv
      obtain ⟨rfl, rfl⟩ := hv
      have HS := Lib.hid hS
      clear hS hlt hk
      go_wp2_with fail
      go_ret
      refine ⟨g, ⟨ac, rfl⟩, H.out.2.2.2.2.2.1.trans HS.out.ext, fun W hW => HS.out.read (fun m s hm _ => Nat.le_trans (H.out.2.2.2.2.2.2.2.2 m s (by omega)) (by omega)) fun b h1 h2 => hW b (by have := H.out.2.2.2.2.2.1.size; omega) h2⟩
end Go.Proofs.YtloooajippcdlaaDoor
