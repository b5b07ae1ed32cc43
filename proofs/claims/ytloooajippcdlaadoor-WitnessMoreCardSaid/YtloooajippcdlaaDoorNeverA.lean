/- witness.Never, of any list of automata that may be. (by tools/mknever.py) -/
import Derived.Test.YtloooajippcdlaaDoorMem
import Derived.RangeFuncLeaves
import Derived.RangeFuncBox
import Derived.RangeFuncKeeps
import Derived.RangeFuncRecord
import Derived.Test.YtloooajippcdlaaDoorNever1
import Derived.Test.YtloooajippcdlaaDoorDenses
import Derived.Deep.LoopGhost
namespace Go.Proofs.YtloooajippcdlaaDoor
open Go.RowKit

/-- the marks on an activation's deferred calls -/
def marks (Ds : List Nat) : List Deferred := Ds.map fun D => { target := .collected D, args := #[] }
/-- the blocks of the marks, all open -/
def MarksOn (w : World) (b : Nat) (Ds : List Nat) : Prop := Ds.Nodup ∧ ∀ D ∈ Ds, b ≤ D ∧ w.heap[D]? = some (.deferred (some []))
theorem MarksOn.nil (w : World) (b : Nat) : MarksOn w b [] := ⟨List.nodup_nil, fun _ h => by cases h⟩
theorem MarksOn.block {w w' : World} {b : Nat} {Ds : List Nat} (h : MarksOn w b Ds) (hb : ∀ D ∈ Ds, w'.heap[D]? = w.heap[D]?) : MarksOn w' b Ds :=
  ⟨h.1, fun D hD => ⟨(h.2 D hD).1, (hb D hD).trans (h.2 D hD).2⟩⟩
theorem MarksOn.lt {w : World} {b : Nat} {Ds : List Nat} (h : MarksOn w b Ds) {D : Nat} (hD : D ∈ Ds) : D < w.heap.size := (Array.getElem?_eq_some_iff.1 (h.2 D hD).2).1
theorem MarksOn.cons {w : World} {b : Nat} {Ds : List Nat} (h : MarksOn w b Ds) {D : Nat} (hb : b ≤ D) (hD : w.heap[D]? = some (.deferred (some []))) (hn : D ∉ Ds) : MarksOn w b (D :: Ds) :=
  ⟨List.nodup_cons.2 ⟨hn, h.1⟩, fun E hE => by
    rcases List.mem_cons.1 hE with rfl | hE
    · exact ⟨hb, hD⟩
    · exact h.2 E hE⟩
theorem MarksOn.ext {w w' : World} {b : Nat} {Ds : List Nat} (h : MarksOn w b Ds) (hx : Ext w w') : MarksOn w' b Ds := h.block fun D hD => hx.block D (h.lt hD)

/-- all the marks' blocks shut: what stays -/
theorem leaves_marks {F : Fence} {n : Nat} {P : Program} {fn : Func} {tmps : Array Value} {R : Ending → World → Prop} {b : Nat} : ∀ (Ds : List Nat) (w w0 : World), w0.heap.size ≤ b → Ext w0 w → MarksOn w b Ds →
    (∀ w', Ext w0 w' → (∀ (B : Nat) (e : TypeId) (size k : Nat) (v : Value) (xs : List Value), w.ownsRow B e size v k xs → w'.ownsRow B e size v k xs) → LeavesIn F n P fn tmps R [] .returning w') →
    LeavesInM F n P fn tmps R (marks Ds) .returning w := by
  intro Ds
  induction Ds with
  | nil => exact fun w w0 _ hx _ h => h w hx fun _ _ _ _ _ _ k => k
  | cons D Ds ih =>
    intro w w0 hb hx hO h
    obtain ⟨hn, hO2⟩ := hO
    obtain ⟨hn1, hn2⟩ := List.nodup_cons.1 hn
    obtain ⟨hD1, hD2⟩ := hO2 D (by simp)
    refine ⟨by simp, .inl ⟨D, _, rfl, run_takeDeferred hD2, ?_⟩⟩
    refine ih _ w0 hb (Below.trans hx ((belowK_b (w := w0) (Nat.le_refl _) w D _ (.deferred none) (by omega) hD2 rfl rfl))) ⟨hn2, fun E hE => ⟨(hO2 E (by simp [hE])).1, ?_⟩⟩ fun w' hx' hk => h w' hx' fun B e size k v xs hr => hk B e size k v xs (ownsRow_putObj hr (.deferred none) hD2 rfl)
    have hne : E ≠ D := fun e => hn1 (by rw [← e]; exact hE)
    rw [World.putObj_heap_other hne]
    exact (hO2 E (by simp [hE])).2
end Go.Proofs.YtloooajippcdlaaDoor

namespace Go.Proofs.YtloooajippcdlaaDoor
open Go.RowKit Go.Maps

attribute [local go_sem] Oper.semAt_some

open Classical in
/-- the rules that are no label behind any word that is not empty, in any of the automata -/
noncomputable def neverA (L : List Dn) (k : Nat) : List Nat := (List.range k).filter fun r => decide (∀ d ∈ L, NoRule d r)
theorem neverA_yes {L : List Dn} {k : Nat} (h : ∀ d ∈ L, NoRule d k) : neverA L (k + 1) = neverA L k ++ [k] := by
  classical
  unfold neverA; rw [List.range_succ, List.filter_append]
  congr 1
  rw [List.filter_cons, if_pos (decide_eq_true h)]; rfl
theorem neverA_no {L : List Dn} {k : Nat} (h : ¬ ∀ d ∈ L, NoRule d k) : neverA L (k + 1) = neverA L k := by
  classical
  unfold neverA; rw [List.range_succ, List.filter_append, List.filter_cons, if_neg (by simpa using h)]; simp
theorem neverA_len (L : List Dn) (k : Nat) : (neverA L k).length ≤ k := by
  unfold neverA
  exact Nat.le_trans (List.length_filter_le _ _) (by simp)

def NeverLR (L : List Dn) (rules : Nat) (w : World) (e : Ending) (w' : World) : Prop :=
  ∃ v, e = .returned (.tuple #[v, .nilIface]) ∧ Ints w' v ((neverA L rules).map fun (r : Nat) => (r : Int)) ∧ Ext w w'

/-- the labels told by the first i -/
def NevP (L : List Dn) (i : Nat) (x : Int) : Prop := ∃ d ∈ L.take i, ∃ k ∈ presL (behD d) 200, x = ((k : Nat) : Int)

theorem nevP_snoc {L : List Dn} {i : Nat} {d : Dn} (h : L[i]? = some d) (x : Int) : NevP L (i + 1) x ↔ NevP L i x ∨ ∃ k ∈ presL (behD d) 200, x = ((k : Nat) : Int) := by
  have e : L.take (i + 1) = L.take i ++ [d] := by rw [List.take_add_one, h]; rfl
  unfold NevP
  rw [e]
  constructor
  · rintro ⟨d', hd, hk⟩
    rcases List.mem_append.1 hd with h1 | h1
    · exact .inl ⟨d', h1, hk⟩
    · rw [List.mem_singleton] at h1; subst h1; exact .inr hk
  · rintro (⟨d', hd, hk⟩ | hk)
    · exact ⟨d', List.mem_append.2 (.inl hd), hk⟩
    · exact ⟨d, by simp, hk⟩

theorem nevP_rule {L : List Dn} (hm : ∀ d ∈ L, May d) {k : Nat} (hk : k < 200) : NevP L L.length (k : Int) ↔ ¬ ∀ d ∈ L, NoRule d k := by
  unfold NevP
  rw [List.take_length]
  constructor
  · rintro ⟨d, hd, j, hj, e⟩ h
    obtain rfl : k = j := by omega
    exact h d hd ((behD_reached (hm d hd) (by omega)).1 ((presL_reached hk).2 hj))
  · intro h
    refine Classical.byContradiction fun hn => h fun d hd hz => hn ⟨d, hd, k, ?_, rfl⟩
    exact (presL_reached hk).1 ((behD_reached (hm d hd) (by omega)).2 hz)

/-- the loop over the automata -/
def NevI (rules LN : Nat) (la : Option Addr) (lc gM : Nat) (w : World) (L : List Dn) (m : Nat) (a : Act) (W : World) : Prop :=
  ∃ (i : Nat) (Ds : List Nat) (u0 u2 u3 u4 u5 u6 u7 u8 u10 u11 u12 u13 u14 u15 u16 u17 u18 u19 u20 u21 u22 u23 u24 u25 u26 u27 u28 u29 u30 u31 u32 u33 u34 u35 u36 u37 u38 u41 u42 u43 u44 u45 u46 u47 u48 u49 u50 u51 u52 u53 u54 u55 u56 u57 u58 u59 u60 u61 u62 u63 u64 u65 u66 u67 u68 u69 u70 u71 u72 : Value), i ≤ LN ∧ u41 = .int .i64 (i : Int) ∧ m = LN - i ∧ a = { tmps := #[u0, .int .i64 (rules : Int), u2, u3, u4, u5, u6, u7, u8, .pointer (some ⟨gM + 1, 0, none⟩), u10, u11, u12, u13, u14, u15, u16, u17, u18, u19, u20, u21, u22, u23, u24, u25, u26, u27, u28, u29, u30, u31, u32, u33, u34, u35, u36, u37, u38, .slice la LN lc, .int .i64 (LN : Int), u41, u42, u43, u44, u45, u46, u47, u48, u49, u50, u51, u52, u53, u54, u55, u56, u57, u58, u59, u60, u61, u62, u63, u64, u65, u66, u67, u68, u69, u70, u71, u72], defers := marks Ds } ∧ Ext w W ∧ MarksOn W w.heap.size Ds ∧ gM ∉ Ds ∧ W.cell? ⟨gM + 1, 0, none⟩ = some (.map (some gM)) ∧ ∃ n, n ≤ i * 200 ∧ SomeM W gM n (NevP L i)

set_option maxRecDepth 100000 in
set_option maxHeartbeats 8000000 in
theorem never_c {w : World} {v : Value} {L : List Dn} {rules : Nat} (h : DensesV w v L) (hm : ∀ d ∈ L, May d) (hL : L.length ≤ 1000) (hr : rules ≤ 200) :
    Calls Tryd.prog 17 #[v, .int .i64 (rules : Int)] w (NeverLR L rules w) := by
  have hj1 : ¬ (rules : Int) < 0 := by omega
  have hj2 : ¬ (200 : Int) < (rules : Int) := by omega
  have hmm := @run_makeMap Tryd.prog
  obtain ⟨hl0, la, lc, rfl, _, hlo⟩ := h.open
  obtain ⟨LN, hLN⟩ : ∃ N, N = L.length := ⟨_, rfl⟩
  rw [← hLN] at hl0 hlo hL ⊢
  have H := Lib.hid (And.intro hlo (And.intro hm hLN))
  clear h hm hLN hlo
  refine (callsIn_wide (n := 5)).1 ?_
  refine callsIn_of_wp_marks Tryd.func17 rfl trivial ?_
  simp only [Tryd.ntmps17, List.size_toArray, List.length_cons, List.length_nil, Nat.reduceAdd, Nat.reduceSub, Array.replicate_succ, Array.replicate_zero, List.push_toArray, List.append_toArray, List.nil_append, List.cons_append]
  refine wpIn_wide.2 ?_
  go_wp2_with fail
  go_loopw [6, 25] (fun v6 iv wr => Ext w wr ∧ v6 = .bool false ∧ ∃ i : Nat, i ≤ LN ∧ iv = .int .i64 i) (fun _ iv _ => LN - (intOf iv).toNat)
  case atStart => exact ⟨Ext.refl _, rfl, 0, by omega, rfl⟩
  case round =>
    obtain ⟨hx, rfl, i, hi, rfl⟩ := hrel
    by_cases hlt : i < LN
    · have hj3 : (i : Int) < LN := by omega
      obtain ⟨lb, lo, rfl, hlc⟩ := H.out.1 (by omega)
      obtain ⟨d, hd⟩ : ∃ d, L[i]? = some d := ⟨_, List.getElem?_eq_getElem (by rw [← H.out.2.2]; exact hlt)⟩
      obtain ⟨an, cn, al, cl, c0, c1, hdv⟩ := hlc i d hd
      have hmb := mayB_true.2 (H.out.2.1 d (List.mem_of_getElem? hd))
      have k0 := hx.cell c0
      have k1 := hx.cell c1
      have hck := check_c (hdv.ext (hx.trans (Ext.box wr (.cells #[.slice an d.next.length cn, .slice al d.label.length cl] 25))))
      rw [hmb] at hck
      generalize d.next.length = n1 at *
      generalize d.label.length = n2 at *
      have HX := Lib.hid (And.intro hck hx)
      clear hck hx hdv hlc hd hmb c0 c1
      go_wp2_with fail
      refine HX.out.1.mono ?_
      rintro e w2 ⟨rfl, hx2⟩
      have HX2 := Lib.hid hx2
      clear hx2
      go_wp2_with fail
      go_roundw
      case rel => exact ⟨HX.out.2.trans ((Ext.box _ _).trans HX2.out), rfl, i + 1, by omega, by go_num⟩
      case measure => simp [intOf]; omega
    · obtain rfl : i = LN := by omega
      have hj3 : ¬ (i : Int) < i := by omega
      clear hlt
      go_wp2_with fail
      obtain ⟨gM, hgM⟩ : ∃ g, g = wr.heap.size := ⟨_, rfl⟩
      obtain ⟨W1, hW1⟩ : ∃ W', W' = (wr.alloc (.map #[] 0)).alloc (.cells #[.map (some wr.heap.size)] 99) := ⟨_, rfl⟩
      rw [← hW1]
      have hsM : SomeM W1 gM 0 (NevP L 0) := by
        rw [hW1, hgM]
        exact ((SomeM.made wr).block ((Ext.box _ _).block _ (by simp))).congr fun x => ⟨fun h => h.elim, fun ⟨_, h, _⟩ => by simp at h⟩
      have hbx : W1.cell? ⟨gM + 1, 0, none⟩ = some (.map (some gM)) := by
        have := new_cell (w := wr.alloc (.map #[] 0)) (c := #[.map (some wr.heap.size)]) (t := 99) (i := 0) rfl
        rw [World.size_alloc] at this
        rw [hW1, hgM]; exact this
      have hx1 : Ext w W1 := by rw [hW1]; exact (hx.alloc _).alloc _
      have hgw : w.heap.size ≤ gM := by rw [hgM]; exact hx.size
      rw [← hgM]
      have HM := Lib.hid (And.intro hsM (And.intro hbx hx1))
      clear hW1 hgM hsM hbx hx1 hx hmm hj3
      refine wp_loop_ghost (NevI rules i la lc gM w L) i ?_ ?_
      · exact ⟨0, [], _, _, _, _, _, _, _, _, _, _, _, _, _, _, _, _, _, _, _, _, _, _, _, _, _, _, _, _, _, _, _, _, _, _, _, _, _, _, _, _, _, _, _, _, _, _, _, _, _, _, _, _, _, _, _, _, _, _, _, _, _, _, _, _, _, _, _, _, _, Nat.zero_le _, rfl, by omega, rfl, HM.out.2.2, MarksOn.nil _ _, by simp, HM.out.2.1, 0, Nat.zero_le _, HM.out.1⟩
      · rintro m a W ⟨k, Ds, u0, u2, u3, u4, u5, u6, u7, u8, u10, u11, u12, u13, u14, u15, u16, u17, u18, u19, u20, u21, u22, u23, u24, u25, u26, u27, u28, u29, u30, u31, u32, u33, u34, u35, u36, u37, u38, u41, u42, u43, u44, u45, u46, u47, u48, u49, u50, u51, u52, u53, u54, u55, u56, u57, u58, u59, u60, u61, u62, u63, u64, u65, u66, u67, u68, u69, u70, u71, u72, hk, rfl, rfl, rfl, hx, hO, hgD, hb, n, hn, hS⟩
        by_cases hlt : k < i
        · have hj3 : (k : Int) < i := by omega
          obtain ⟨lb, lo, rfl, hlc⟩ := H.out.1 (by omega)
          obtain ⟨d, hd⟩ : ∃ d, L[k]? = some d := ⟨_, List.getElem?_eq_getElem (by rw [← H.out.2.2]; exact hlt)⟩
          obtain ⟨an, cn, al, cl, c0, c1, hdv⟩ := hlc k d hd
          have hmay := H.out.2.1 d (List.mem_of_getElem? hd)
          have k0 := hx.cell c0
          have k1 := hx.cell c1
          obtain ⟨n1, hn1⟩ : ∃ n, n = d.next.length := ⟨_, rfl⟩
          obtain ⟨n2, hn2⟩ : ∃ n, n = d.label.length := ⟨_, rfl⟩
          rw [← hn1] at k0 hdv
          rw [← hn2] at k1 hdv
          have l1 := lt_of_cell k0
          have HW := Lib.hid (And.intro hx (And.intro hO (And.intro hgD (And.intro hb (And.intro hS (And.intro hd (And.intro hdv hmay)))))))
          clear hx hO hgD hb hS hd hdv hmay hlc hn1 hn2 c0 c1
          go_upto_region 13 with fail
          obtain ⟨W2, hW2⟩ : ∃ W', W' = (W.alloc (.cells #[.int .i64 (k : Int)] 3)).alloc (.cells #[.slice an n1 cn, .slice al n2 cl] 25) := ⟨_, rfl⟩
          rw [← hW2]
          have hx2 : Ext W W2 := by rw [hW2]; exact (Ext.box _ _).alloc _
          have hi0 : W2.cell? ⟨W.heap.size, 0, none⟩ = some (.int .i64 (k : Int)) := by rw [hW2]; exact (Ext.box _ _).cell (new_cell rfl)
          have hd0 : W2.cell? ⟨W.heap.size + 1, 0, none⟩ = some (.slice an n1 cn) ∧ W2.cell? ⟨W.heap.size + 1, 1, none⟩ = some (.slice al n2 cl) := by
            have c0 := new_cell (w := W.alloc (.cells #[.int .i64 (k : Int)] 3)) (c := #[.slice an n1 cn, .slice al n2 cl]) (t := 25) (i := 0) rfl
            have c1 := new_cell (w := W.alloc (.cells #[.int .i64 (k : Int)] 3)) (c := #[.slice an n1 cn, .slice al n2 cl]) (t := 25) (i := 1) rfl
            rw [World.size_alloc] at c0 c1
            rw [hW2]
            exact ⟨c0, c1⟩
          obtain ⟨d0, d1⟩ := hd0
          have hxw2 : Ext w W2 := HW.out.1.trans hx2
          have hbe := behind_c (HW.out.2.2.2.2.2.2.1.ext hxw2) HW.out.2.2.2.2.2.2.2
          have HBe := Lib.hid (And.intro hbe (And.intro hx2 (And.intro hxw2 hi0)))
          clear hbe hx2 hxw2 hW2 hi0 k0 k1
          go_wp2_with fail
          refine HBe.out.1.mono ?_
          rintro e w3 ⟨bn', cn', bl', cl', rfl, hcl, hx3⟩
          obtain ⟨M, hM⟩ : ∃ M, M = d.next.length + 1 := ⟨_, rfl⟩
          rw [← hM]
          have HC := Lib.hid (And.intro hcl (And.intro hx3 hM))
          clear hcl hx3 d0 d1 hM
          go_wp2_with fail
          refine labels_c.mono ?_
          rintro e w4 ⟨rfl, hw4⟩
          have hx4 : Ext w3 w4 := by rw [hw4]; exact Ext.box _ _
          have hlen : (behD d).next.length = M := by rw [behD_len, HC.out.2.2]
          have e0 : w4.cell? ⟨w3.heap.size, 0, none⟩ = some (.slice (some ⟨bn', 0, none⟩) (behD d).next.length cn') := by rw [hlen, hw4]; exact new_cell rfl
          have e1 : w4.cell? ⟨w3.heap.size, 1, none⟩ = some (.slice (some ⟨bl', 0, none⟩) (behD d).next.length cl') := by rw [hlen, hw4]; exact new_cell rfl
          have hst := labs_stops (behD_auto HW.out.2.2.2.2.2.2.2) e0 e1 (HC.out.1.ext hx4) (B := w4.heap.size) (Nat.le_refl _) 4
          have hx14 : Ext W w4 := HBe.out.2.1.trans (HC.out.2.1.trans hx4)
          have i0 : w4.cell? ⟨W.heap.size, 0, none⟩ = some (.int .i64 (k : Int)) := hx4.cell (HC.out.2.1.cell HBe.out.2.2.2)
          have b0 := hx14.cell HW.out.2.2.2.1
          have hM4 := HW.out.2.2.2.2.1.block (hx14.block _ HW.out.2.2.2.2.1.lt)
          have hO4 := HW.out.2.1.ext hx14
          have hgl4 := hM4.lt
          have HST := Lib.hid (And.intro hst (And.intro b0 (And.intro i0 (And.intro hM4 (And.intro (HW.out.1.trans hx14) hO4)))))
          clear hw4 hx4 e0 e1 hst hx14 b0 i0 hM4 hlen hO4
          go_wp2_with fail
          refine (wpIn_wide (n := 5)).1 ?_
          refine' wpIn_rangeFunc_ownG rfl (by omega) (gf := 77) (lb := #[.pointer (some ⟨w3.heap.size, 0, none⟩)]) rfl trivial (enters_of Tryd.func77 (by kernel_rfl) rfl)
            HST.out.1 (fun h k => ⟨fun i es c hi he => k.1 i es c hi (h.1 i es c hi he), fun f => f.elim⟩) (fun W l o o' hl hW hc hw => ⟨fun i es c hi he => ?keep, fun f => f.elim⟩) (Below.refl _ _) (fun _ => rfl)
            (fun pre W' => (W'.cell? ⟨gM + 1, 0, none⟩ = some (.map (some gM)) ∧ W'.cell? ⟨W.heap.size, 0, none⟩ = some (.int .i64 (k : Int)) ∧ SomeM W' gM (n + pre.length) (fun x => NevP L k x ∨ ∃ y ∈ pre, x = (y.1.1 : Int)) ∧ MarksOn W' w.heap.size Ds) ∧ Below w.heap.size w W')
            (fun _ _ _ => False)
            (OwnFrom.and (fun s A B row hs hg hr => ⟨cell_kept hs.1 hg (fun r e => (hr r e).2), cell_kept hs.2.1 hg (fun r e => (hr r e).2), hs.2.2.1.block (hg.block gM hs.2.2.1.lt (fun e => by have := (hr _ e.symm).1; omega)), hs.2.2.2.block fun D hD => hg.block D (hs.2.2.2.lt hD) (fun e => by have := (hr _ e.symm).1; have := HST.out.2.2.2.2.2.lt hD; omega)⟩) (ownFrom_below (Nat.le_refl _) (HST.out.2.2.2.2.1.size)))
            (fun _ _ _ _ _ hs _ _ => hs)
            ⟨⟨HST.out.2.1, HST.out.2.2.1, HST.out.2.2.2.1.congr fun x => ⟨.inl, fun h => h.resolve_right fun ⟨_, h, _⟩ => by cases h⟩, HST.out.2.2.2.2.2⟩, HST.out.2.2.2.2.1⟩ _ ?assign ?body ?done ?stop
          case keep =>
            by_cases e : i = l
            · subst e
              rw [hW] at he
              cases he
              cases hw
            · rw [World.putObj_heap_other e]; exact he
          case assign =>
            intro l x W K hK
            simp only [labE, List.zip_toArray, List.zip_cons_cons, List.zip_nil_right, List.foldl_toArray', List.foldl_cons, List.foldl_nil, List.setIfInBounds_toArray, List.set_cons_succ, List.set_cons_zero]
            gi_wp2
            exact hK
          case body =>
            rintro l pre x W9 ⟨⟨hb, hi, hM, hO⟩, hB⟩ hlt9
            have hxl := x.2
            have hgl0 := HW.out.2.2.2.2.1.lt
            obtain ⟨w', hrun, hM', ht⟩ := hM.store (by unfold maxLen; omega) (x := (x.1.1 : Int)) (y := k) (by omega) (by omega) (by omega)
            have hrun : (Instr.mapUpdate 99 (.map (some gM)) (.int .i64 (x.1.1 : Int)) (.int .i64 (k : Int))).run Tryd.prog W9 = .ok () w' := hrun
            have HML := Lib.hid (And.intro hM (And.intro hM' (And.intro ht hO)))
            clear hM hM' ht hO
            gi_wp2
            have hg := HML.out.2.2.1.grown
            have hc : ∀ {b o : Nat} {v : Value}, W9.cell? ⟨b, o, none⟩ = some v → b ≠ gM → w'.cell? ⟨b, o, none⟩ = some v := fun {b o v} h1 h2 => (World.cell?_of_block (a := ⟨b, o, none⟩) (hg.block b (lt_of_cell h1) (by simp only [ne_eq, Option.some.injEq]; exact h2))).trans h1
            refine ⟨KeepsFrom.of_grownBy hg (fun j e => by cases e; exact hgl4), ⟨fun k es c hk he => ?_, fun f => f.elim⟩, ⟨hc hb (by omega), hc hi (by omega), ?_, ?_⟩, hB.grown hg hB.size (fun k e => by cases e; exact hgw)⟩
            · rw [hg.block k (Array.getElem?_eq_some_iff.1 he).1 (by simp only [ne_eq, Option.some.injEq]; omega)]; exact he
            · rw [List.length_append]
              refine HML.out.2.1.congr fun y => ⟨fun h => ?_, fun h => ?_⟩
              · rcases h with h | h | ⟨z, hz, e⟩
                · exact .inr ⟨x, by simp, h⟩
                · exact .inl h
                · exact .inr ⟨z, by simp [hz], e⟩
              · rcases h with h | ⟨z, hz, e⟩
                · exact .inr (.inl h)
                · rcases List.mem_append.1 hz with h | h
                  · exact .inr (.inr ⟨z, h, e⟩)
                  · rw [List.mem_singleton] at h; subst h; exact .inl e
            · exact HML.out.2.2.2.block fun D hD => hg.block D (HML.out.2.2.2.lt hD) (fun e => by
                simp only [Option.some.injEq] at e
                exact HW.out.2.2.1 (by rw [← e]; exact hD))
          case done =>
            rintro D ys W9 hD hS ⟨⟨hb, hi, hM, hO⟩, hB⟩ hK
            have HD := Lib.hid (And.intro hS (And.intro hM (And.intro hB (And.intro hK (And.intro hD (And.intro hO hb))))))
            clear hS hM hB hK hi hO
            go_wp2_with fail
            have hyl : ys.length ≤ 200 := by
              have := congrArg List.length HD.out.1
              rw [List.length_map] at this
              rw [this]; exact presL_len _ _
            refine ⟨i - (k + 1), by omega, k + 1, D :: Ds, _, _, _, _, _, _, _, _, _, _, _, _, _, _, _, _, _, _, _, _, _, _, _, _, _, _, _, _, _, _, _, _, _, _, _, _, _, _, _, _, _, _, _, _, _, _, _, _, _, _, _, _, _, _, _, _, _, _, _, _, _, _, _, _, _, _, _, _, _, by omega, by go_num, rfl, rfl, HD.out.2.2.1, ?_, ?_, HD.out.2.2.2.2.2.2, n + ys.length, by omega, ?_⟩
            · exact HD.out.2.2.2.2.2.1.cons (by have := HST.out.2.2.2.2.1.size; have := HD.out.2.2.2.2.1; omega) HD.out.2.2.2.1 (fun h => by have := HST.out.2.2.2.2.2.lt h; have := HD.out.2.2.2.2.1; omega)
            · intro h
              rcases List.mem_cons.1 h with e | e
              · have := HD.out.2.2.2.2.1; omega
              · exact HW.out.2.2.1 e
            · refine HD.out.2.1.congr fun x => ?_
              rw [nevP_snoc HW.out.2.2.2.2.2.1, ← HD.out.1]
              constructor
              · rintro (h | ⟨y, hy, e⟩)
                · exact .inl h
                · exact .inr ⟨_, List.mem_map.2 ⟨y, hy, rfl⟩, e⟩
              · rintro (h | ⟨j, hj, e⟩)
                · exact .inl h
                · obtain ⟨y, hy, rfl⟩ := List.mem_map.1 hj
                  exact .inr ⟨y, hy, e⟩
          case stop =>
            rintro D c pre W _ _ h _
            exact h.elim
        · obtain rfl : k = i := by omega
          have hj3 : ¬ (k : Int) < k := by omega
          have hrl := fun (q : Nat) (hq : q < 200) => nevP_rule H.out.2.1 hq
          rw [← H.out.2.2] at hrl
          have HE := Lib.hid (And.intro hx (And.intro hO (And.intro hS (And.intro hb hrl))))
          clear hx hO hS hlt hgD hb hrl
          go_wp2_with fail
          go_loopw [13, 56] (fun ov kv wr => ∃ q : Nat, q ≤ rules ∧ kv = .int .i64 q ∧ Ext W wr ∧ wr.ownsRow W.heap.size 3 1 ov (neverA L q).length (numV (neverA L q))) (fun _ kv _ => rules - (intOf kv).toNat)
          case atStart => exact ⟨0, Nat.zero_le _, rfl, Ext.refl _, World.ownsRow_nil _ _ _ _⟩
          case round =>
            obtain ⟨q, hq, rfl, hx, hown⟩ := hrel
            obtain ⟨ao, co, hov⟩ := own_shp' hown
            subst hov
            by_cases hlt : q < rules
            · have b1 := hx.cell HE.out.2.2.2.1
              have hMk := HE.out.2.2.1.block (hx.block gM HE.out.2.2.1.lt)
              obtain ⟨c, r, hlk, hrr⟩ := hMk.look (x := (q : Int)) (by omega) (by omega)
              have hiff : r = true ↔ ¬ ∀ d ∈ L, NoRule d q := hrr.trans (HE.out.2.2.2.2 q (by omega))
              have hll := neverA_len L q
              obtain ⟨m, hm⟩ : ∃ m, m = (neverA L q).length := ⟨_, rfl⟩
              rw [← hm] at hown hll ⊢
              have HX := Lib.hid (And.intro hx (And.intro hiff (And.intro hown hm)))
              have hj : (q : Int) < rules := by omega
              clear hx hMk hrr hiff hm
              cases r
              · obtain ⟨i0, hi0, hz0, hz1, hz2⟩ := info_parts int_info
                have hown' := hown.alloc (.cells #[.int .i64 (q : Int)] 3)
                have hcell := cell_one_new wr (.int .i64 (q : Int)) 3
                have h1c : ∀ u ∈ [Value.int .i64 (q : Int)], u.oneCell' = true := one_int _ _
                have hbase : W.heap.size ≤ (wr.alloc (.cells #[.int .i64 (q : Int)] 3)).heap.size := by have := HX.out.1.size; rw [World.size_alloc]; omega
                have hmax : m + 1 ≤ maxLen := by unfold maxLen; omega
                clear hown
                go_wp2_with (at_builtin; refine wpList_append_own_at _ rfl _ _ 23 rfl W.heap.size 3 i0 (.int .i64 0) 1 8 Tryd.underlying23 hi0 hz0 hz1 hz2 rfl (by decide) _ _ _ rfl hown' ⟨wr.heap.size, 0, none⟩ 1 1 [.int .i64 (q : Int)] rfl rfl hcell h1c hmax (by omega) hbase ?_; intro v' W4 hown9 hg _ hat)
                go_roundw
                case rel =>
                  have hno : ∀ d ∈ L, NoRule d q := Classical.not_not.1 (fun h => by have := HX.out.2.1.2 h; cases this)
                  refine ⟨q + 1, by omega, by go_num, Below.grown (HX.out.1.trans (Ext.box wr _)) hg hbase (fun g e => (HX.out.2.2.1.lt g e).1), ?_⟩
                  rw [neverA_yes hno, numV_snoc, List.length_append, ← HX.out.2.2.2]
                  exact hown9
                case measure => simp [intOf]; omega
              · have hno : ¬ ∀ d ∈ L, NoRule d q := HX.out.2.1.1 rfl
                have HO := Lib.hid hown
                clear hown
                go_wp2_with fail
                go_roundw
                case rel => exact ⟨q + 1, by omega, by go_num, HX.out.1, by rw [neverA_no hno, ← HX.out.2.2.2]; exact HO.out⟩
                case measure => simp [intOf]; omega
            · obtain rfl : rules = q := by omega
              have HX := Lib.hid (And.intro hx hown)
              clear hx hown
              go_wp2_with fail
              refine leaves_marks Ds _ w (Nat.le_refl _) (HE.out.1.trans HX.out.1) (HE.out.2.1.ext HX.out.1) ?_
              intro w' hx' hk'
              have hle := neverA_len L rules
              have e : numV (neverA L rules) = ((neverA L rules).map fun (r : Nat) => (r : Int)).map (Value.int .i64) := by simp [numV]
              have ho := hk' _ _ _ _ _ _ HX.out.2
              rw [e] at ho
              have hi := own_ints ho (by omega)
              exact ⟨_, results_tmp2 rfl _ _ _, _, rfl, hi, hx'⟩
end Go.Proofs.YtloooajippcdlaaDoor
