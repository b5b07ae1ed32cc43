/- witness.behind: the automaton that begins behind a first byte. -/
import Derived.Test.YtihginaanlcilaaDoorLabS
import Derived.Test.YtihginaanlcilaaDoorCheck
import Derived.Deep.DeepCutAuto
namespace Go.Proofs.YtihginaanlcilaaDoor
open Go.RowKit

/-- the first c entries of row i, each one more -/
def upB (d : Dn) (i c : Nat) : List Int := (List.range c).map fun q => (d.nx i q : Int) + 1
theorem upB_len (d : Dn) (i c : Nat) : (upB d i c).length = c := by simp [upB]
theorem upB_succ (d : Dn) (i c : Nat) : intsV (upB d i (c + 1)) = intsV (upB d i c) ++ [.int .i64 ((d.nx i c : Int) + 1)] := by simp [upB, List.range_succ]
theorem upB_get {d : Dn} {i c n : Nat} (h : c < n) : (upB d i n).getD c 0 = (d.nx i c : Int) + 1 := by
  rw [List.getD_eq_getElem?_getD, upB, List.getElem?_map, List.getElem?_range h]; rfl

def rowsB (d : Dn) (k : Nat) : List (List Int) := upB d 0 256 :: (List.range k).map fun i => upB d i 256
theorem rowsB_len (d : Dn) (k : Nat) : (rowsB d k).length = k + 1 := by simp [rowsB]
theorem rowsB_succ (d : Dn) (k : Nat) : rowsB d (k + 1) = rowsB d k ++ [upB d k 256] := by simp [rowsB, List.range_succ]
def labsB (d : Dn) : List Int := (List.range d.next.length).map d.lb
def behD (d : Dn) : Dn := ⟨rowsB d d.next.length, -1 :: labsB d⟩

theorem behD_len (d : Dn) : (behD d).next.length = d.next.length + 1 := rowsB_len _ _
theorem behD_nx0 {d : Dn} {c : Nat} (hc : c < 256) : (behD d).nx 0 c = d.nx 0 c + 1 := by
  show ((upB d 0 256).getD c 0).toNat = _
  rw [upB_get hc]; omega
theorem behD_row {d : Dn} {i : Nat} (hi : i < d.next.length) : (behD d).next.getD (i + 1) [] = upB d i 256 := by
  show (rowsB d d.next.length).getD (i + 1) [] = _
  simp [rowsB, hi]
theorem behD_nx {d : Dn} {i c : Nat} (hi : i < d.next.length) (hc : c < 256) : (behD d).nx (i + 1) c = d.nx i c + 1 := by
  unfold Dn.nx
  rw [behD_row hi, upB_get hc]
  show ((d.nx i c : Int) + 1).toNat = d.nx i c + 1
  omega
theorem behD_lb0 (d : Dn) : (behD d).lb 0 = -1 := rfl
theorem behD_lb {d : Dn} {i : Nat} (hi : i < d.next.length) : (behD d).lb (i + 1) = d.lb i := by
  show (-1 :: labsB d).getD (i + 1) 0 = _
  simp [labsB, hi]

theorem behD_auto {d : Dn} (hm : May d) : AutoN (behD d) := by
  have hmost := hm.most
  have hpos := hm.pos
  refine ⟨by rw [behD_len]; omega, by rw [behD_len]; omega, fun s c hs hc => ?_, fun s hs => ?_⟩
  · rw [behD_len] at hs ⊢
    cases s with
    | zero => rw [behD_nx0 hc]; have := hm.nx_lt (s := 0) (c := c) (by omega) hc; omega
    | succ s => rw [behD_nx (by omega) hc]; have := hm.nx_lt (s := s) (c := c) (by omega) hc; omega
  · rw [behD_len] at hs
    cases s with
    | zero => rw [behD_lb0]; omega
    | succ s => rw [behD_lb (by omega)]; exact hm.label s (by omega)

theorem behD_run {d : Dn} (hm : May d) : ∀ (w : List Nat) (s : Nat), s < d.next.length → LM.Bytes w → (behD d).aut.run (s + 1) w = d.aut.run s w + 1
  | [], _, _, _ => rfl
  | c :: w, s, hs, hw => by
    have hc := hw c (by simp)
    rw [LM.Aut.run_cons, LM.Aut.run_cons]
    have e : (behD d).aut.nx (s + 1) c = d.aut.nx s c + 1 := behD_nx hs hc
    rw [e]
    exact behD_run hm w _ (hm.nx_lt hs hc) (fun x hx => hw x (List.mem_cons_of_mem _ hx))

/-- a label of 0 or more stands behind some word there just if it stands behind one that is not empty here -/
theorem behD_reached {d : Dn} (hm : May d) {b : Int} (hb : 0 ≤ b) : Reached (behD d) b ↔ ∃ z, LM.Bytes z ∧ z ≠ [] ∧ d.lb (d.aut.run 0 z) = b := by
  have hpos := hm.pos
  have key : ∀ (c : Nat) (w : List Nat), c < 256 → LM.Bytes w → (behD d).lb ((behD d).aut.run 0 (c :: w)) = d.lb (d.aut.run 0 (c :: w)) := fun c w hc hw => by
    rw [LM.Aut.run_cons, LM.Aut.run_cons]
    have e : (behD d).aut.nx 0 c = d.aut.nx 0 c + 1 := behD_nx0 hc
    have h1 : d.aut.nx 0 c < d.next.length := hm.nx_lt (s := 0) hpos hc
    rw [e, behD_run hm w _ h1 hw, behD_lb (LM.Aut.run_lt hm.ok w _ h1 hw)]
  constructor
  · rintro ⟨z, hz, hzb⟩
    cases z with
    | nil =>
      have : (behD d).lb 0 = b := hzb
      rw [behD_lb0] at this; omega
    | cons c w =>
      have hc := hz c (by simp)
      have hw : LM.Bytes w := fun x hx => hz x (List.mem_cons_of_mem _ hx)
      exact ⟨c :: w, hz, by simp, by rw [← key c w hc hw]; exact hzb⟩
  · rintro ⟨z, hz, hne, hzb⟩
    cases z with
    | nil => exact absurd rfl hne
    | cons c w =>
      have hc := hz c (by simp)
      have hw : LM.Bytes w := fun x hx => hz x (List.mem_cons_of_mem _ hx)
      exact ⟨c :: w, hz, by rw [key c w hc hw]; exact hzb⟩

/-- rows and labels of the call's own, as cells -/
theorem behD_cells {w : World} {B : Nat} {own : Nat → Nat} {v lv : Value} {hs : List Value} {d : Dn} (hr : Rows2 w B own v hs (rowsB d d.next.length)) (hl : w.ownsRow B 3 1 lv (d.next.length + 1) (intsV (-1 :: labsB d))) (_hN : d.next.length ≤ 600) :
    ∃ bn cn bl cl, v = .slice (some ⟨bn, 0, none⟩) (d.next.length + 1) cn ∧ lv = .slice (some ⟨bl, 0, none⟩) (d.next.length + 1) cl ∧ Cells w bn 0 bl 0 (behD d) := by
  have ht := hr.top
  rw [rowsB_len] at ht
  obtain ⟨bn, cn, rfl, _, _⟩ := own_slc ht (by omega)
  obtain ⟨bl, cl, rfl, _, _⟩ := own_slc hl (by omega)
  have hhl := hr.hlen
  rw [rowsB_len] at hhl
  refine ⟨bn, cn, bl, cl, rfl, rfl, fun i hi => ?_, fun i hi => ?_⟩
  · rw [behD_len] at hi
    have e1 : hs[i]? = some (hs[i]'(by omega)) := List.getElem?_eq_getElem _
    have e2 : ∃ s, (rowsB d d.next.length)[i]? = some (upB d s 256) ∧ ∀ c, c < 256 → (behD d).nx i c = d.nx s c + 1 := by
      cases i with
      | zero => exact ⟨0, rfl, fun c hc => behD_nx0 hc⟩
      | succ i => exact ⟨i, by simp [rowsB, show i < d.next.length by omega], fun c hc => behD_nx (by omega) hc⟩
    obtain ⟨s, e3, e4⟩ := e2
    obtain ⟨q1, _⟩ := hr.row i _ _ e1 e3
    rw [upB_len] at q1
    obtain ⟨g, c, hv, _, _⟩ := own_slc q1 (by omega)
    rw [hv] at e1 q1
    refine ⟨g, 0, c, ?_, fun q hq => ?_⟩
    · rw [Nat.zero_add, ht.cellAt i (by omega)]; exact e1
    · rw [Nat.zero_add, q1.cellAt q (by omega), List.getElem?_map, e4 q hq]
      have h2 := upB_get (d := d) (i := s) (c := q) (n := 256) hq
      rw [List.getD_eq_getElem?_getD] at h2
      have h3 : q < (upB d s 256).length := by rw [upB_len]; exact hq
      rw [List.getElem?_eq_getElem h3] at h2 ⊢
      simp only [Option.getD_some] at h2
      rw [Option.map_some, h2]
      simp
  · rw [behD_len] at hi
    rw [Nat.zero_add, hl.cellAt i (by omega), List.getElem?_map]
    show ((-1 :: labsB d)[i]?).map (Value.int .i64) = some (.int .i64 ((-1 :: labsB d).getD i 0))
    rw [List.getD_eq_getElem?_getD, List.getElem?_eq_getElem (by simp [labsB]; omega)]
    rfl

theorem Rows2.block' {w w' : World} {B : Nat} {own : Nat → Nat} {v : Value} {hs : List Value} {rows : List (List Int)} (h : Rows2 w B own v hs rows) (hb : ∀ g, B ≤ g → g < w.heap.size → w'.heap[g]? = w.heap[g]?) : Rows2 w' B own v hs rows :=
  ⟨own_block h.top fun g hg hl => hb g (h.top.lt g hg).1 hl, h.topOwn, fun i hv l h1 h2 => ⟨own_block (h.row i hv l h1 h2).1 fun g hg hl => hb g ((h.row i hv l h1 h2).1.lt g hg).1 hl, (h.row i hv l h1 h2).2⟩⟩

theorem app_old {w1 W4 : World} {b g : Nat} {row : Option Nat} (hg : w1.grownBy W4 row) (hrow : row = some g) (hne : b ≠ g) {u0 u1 : Value} (h0 : w1.cell? ⟨b, 0, none⟩ = some u0) (h1 : w1.cell? ⟨b, 1, none⟩ = some u1) (f0 : w1.frozen? ⟨b, 0, none⟩ = false) (f1 : w1.frozen? ⟨b, 1, none⟩ = false) :
    W4.cell? ⟨b, 0, none⟩ = some u0 ∧ W4.cell? ⟨b, 1, none⟩ = some u1 ∧ W4.frozen? ⟨b, 0, none⟩ = false ∧ W4.frozen? ⟨b, 1, none⟩ = false := by
  have hk := hg.block b (lt_of_cell h0) (by rw [hrow]; simp only [ne_eq, Option.some.injEq]; exact hne)
  exact ⟨(World.cell?_of_block (a := ⟨b, 0, none⟩) hk).trans h0, (World.cell?_of_block (a := ⟨b, 1, none⟩) hk).trans h1, (World.frozen?_of_block (a := ⟨b, 0, none⟩) hk).trans f0, (World.frozen?_of_block (a := ⟨b, 1, none⟩) hk).trans f1⟩

/-- an append to a row of the call's own leaves an older cell as it was -/
theorem app_keep {wr W4 : World} {B g3 n size : Nat} {e : TypeId} {lv v' h : Value} {xs ys : List Value} {O : Obj} (hown : wr.ownsRow B e size lv n xs) (hown9 : W4.ownsRow B e size v' (n + 1) ys) (hg : (wr.alloc O).grownBy W4 lv.ownBlock) (hlt : g3 < B) (_ : B ≤ wr.heap.size)
    (k0 : wr.cell? ⟨g3, 0, none⟩ = some h) (f0 : wr.frozen? ⟨g3, 0, none⟩ = false) :
    ∃ g9 c9, v' = .slice (some ⟨g9, 0, none⟩) (n + 1) c9 ∧ g9 ≠ g3 ∧ W4.cell? ⟨g3, 0, none⟩ = some h ∧ W4.frozen? ⟨g3, 0, none⟩ = false ∧ W4.heap[g3]? = (wr.alloc O).heap[g3]? := by
  obtain ⟨g9, c9, rfl, h9, _⟩ := own_slc hown9 (by omega)
  have hl := lt_of_cell k0
  have hk := hg.block g3 (by rw [World.size_alloc]; omega) (fun e => by
    have := (hown.lt g3 e.symm).1
    omega)
  exact ⟨g9, c9, rfl, by omega, (World.cell?_of_block (a := ⟨g3, 0, none⟩) hk).trans ((Ext.box wr O).cell k0), (World.frozen?_of_block (a := ⟨g3, 0, none⟩) hk).trans ((Below.frozen (Ext.box wr O) (p := ⟨g3, 0, none⟩) hl).trans f0), hk⟩

def BehR (d : Dn) (w : World) (e : Ending) (w' : World) : Prop :=
  ∃ bn cn bl cl, e = .returned (.agg #[.slice (some ⟨bn, 0, none⟩) (d.next.length + 1) cn, .slice (some ⟨bl, 0, none⟩) (d.next.length + 1) cl]) ∧ Cells w' bn 0 bl 0 (behD d) ∧ Ext w w'

set_option maxRecDepth 100000 in
set_option maxHeartbeats 2000000 in
theorem behind_c {w : World} {v : Value} {d : Dn} (h : DenseV w v d) (hm : May d) : Calls Tryd.prog 44 #[v] w (BehR d w) := by
  obtain ⟨bn, on, cn, bl, ol, cl, rfl, hc⟩ := h.cells hm
  obtain ⟨N, hN⟩ : ∃ N, N = d.next.length := ⟨_, rfl⟩
  have hpos : 0 < N := by rw [hN]; exact hm.pos
  have hN6 : N ≤ 600 := by rw [hN]; exact hm.most
  have H := Lib.hid (And.intro hm (And.intro hc hN))
  rw [← hN]
  obtain ⟨br, ro, cr, r0, r1⟩ := hc.row 0 (by omega)
  have r1' : ∀ W, Ext w W → ∀ c, c < 256 → W.cell? ⟨br, ro + c, none⟩ = some (.int .i64 (d.nx 0 c : Nat)) := fun W hx c hc => hx.cell (r1 c hc)
  have HR0 := Lib.hid r1'
  rw [Nat.add_zero] at r0
  clear h hm hc hN r1 r1'
  have l1 := lt_of_cell r0
  go_enter Tryd.func44, Tryd.ntmps44
  go_upto_region 2 with fail
  obtain ⟨W, hW⟩ : ∃ W, W = ((w.alloc (.cells #[.slice (some ⟨bn, on, none⟩) N cn, .slice (some ⟨bl, ol, none⟩) N cl] 25)).alloc (.cells #[.slice none 0 0, .slice none 0 0] 25)).alloc (.cells #[.slice none 0 0] 23) := ⟨_, rfl⟩
  rw [← hW]
  have hx : Ext w W := by rw [hW]; exact ((Ext.box _ _).alloc _).alloc _
  have hsz : W.heap.size = w.heap.size + 1 + 1 + 1 := by rw [hW]; simp
  have b0 : W.cell? ⟨w.heap.size, 0, none⟩ = some (.slice (some ⟨bn, on, none⟩) N cn) := by rw [hW]; exact ((Ext.box _ _).alloc _).cell (new_cell rfl)
  have b1 : W.cell? ⟨w.heap.size, 1, none⟩ = some (.slice (some ⟨bl, ol, none⟩) N cl) := by rw [hW]; exact ((Ext.box _ _).alloc _).cell (new_cell rfl)
  have q0 : W.cell? ⟨w.heap.size + 1, 0, none⟩ = some (.slice none 0 0) ∧ W.cell? ⟨w.heap.size + 1, 1, none⟩ = some (.slice none 0 0) ∧ W.frozen? ⟨w.heap.size + 1, 0, none⟩ = false ∧ W.frozen? ⟨w.heap.size + 1, 1, none⟩ = false := by
    have c0 := new_cell (w := w.alloc (.cells #[.slice (some ⟨bn, on, none⟩) N cn, .slice (some ⟨bl, ol, none⟩) N cl] 25)) (c := #[.slice none 0 0, .slice none 0 0]) (t := 25) (i := 0) rfl
    have c1 := new_cell (w := w.alloc (.cells #[.slice (some ⟨bn, on, none⟩) N cn, .slice (some ⟨bl, ol, none⟩) N cl] 25)) (c := #[.slice none 0 0, .slice none 0 0]) (t := 25) (i := 1) rfl
    have f0 := new_frozen (w.alloc (.cells #[.slice (some ⟨bn, on, none⟩) N cn, .slice (some ⟨bl, ol, none⟩) N cl] 25)) #[.slice none 0 0, .slice none 0 0] 25 0
    have f1 := new_frozen (w.alloc (.cells #[.slice (some ⟨bn, on, none⟩) N cn, .slice (some ⟨bl, ol, none⟩) N cl] 25)) #[.slice none 0 0, .slice none 0 0] 25 1
    rw [World.size_alloc] at c0 c1 f0 f1
    rw [hW]
    exact ⟨(Ext.box _ _).cell c0, (Ext.box _ _).cell c1, (Below.frozen (Ext.box _ _) (p := ⟨w.heap.size + 1, 0, none⟩) (lt_of_cell c0)).trans f0, (Below.frozen (Ext.box _ _) (p := ⟨w.heap.size + 1, 1, none⟩) (lt_of_cell c1)).trans f1⟩
  have hg3 : W.rowIs (w.heap.size + 1 + 1) 23 1 (fun _ => .slice none 0 0) := by
    have := World.rowIs_alloc ((w.alloc (.cells #[.slice (some ⟨bn, on, none⟩) N cn, .slice (some ⟨bl, ol, none⟩) N cl] 25)).alloc (.cells #[.slice none 0 0, .slice none 0 0] 25)) #[.slice none 0 0] 23 (fun _ => .slice none 0 0) (fun i hi => by match i, hi with | 0, _ => rfl)
    simp only [World.size_alloc] at this
    rw [hW]; exact this
  obtain ⟨g3, hg3e⟩ : ∃ g, g = w.heap.size + 1 + 1 := ⟨_, rfl⟩
  rw [← hg3e] at hg3 ⊢
  have r0W := hx.cell r0
  have HB := Lib.hid (And.intro hx (And.intro b0 (And.intro b1 (And.intro q0 (And.intro hg3 (And.intro hsz hg3e))))))
  have hlt3 : w.heap.size < g3 := by omega
  clear hW hx b1 q0 hg3 hsz hg3e r0
  go_wp2_with fail
  go_loopw [17] (fun iv wr => ∃ (c : Nat) (h : Value), c ≤ 256 ∧ iv = .int .i64 c ∧ Below g3 W wr ∧ W.heap.size ≤ wr.heap.size ∧ wr.rowIs g3 23 1 (fun _ => h) ∧ wr.ownsRow W.heap.size 3 1 h c (intsV (upB d 0 c))) (fun iv _ => 256 - (intOf iv).toNat)
  case atStart => exact ⟨0, _, Nat.zero_le _, rfl, Below.refl _ _, Nat.le_refl _, HB.out.2.2.2.2.1, World.ownsRow_nil _ _ _ _⟩
  case round =>
    obtain ⟨c, h, hc, rfl, hx, hsz, hr3, hown⟩ := hrel
    by_cases hlc : c < 256
    · obtain ⟨ah, ch, hhv⟩ := own_shp' hown
      subst hhv
      have k0 := hr3.cell (i := 0) (by omega)
      have f0 := hr3.frozen 0
      have k1 : wr.cell? ⟨br, ro + c, none⟩ = some (.int .i64 (d.nx 0 c : Nat)) := by
        have h1 := HR0.out W HB.out.1 c hlc
        have h2 := HR0.out w (Ext.refl w) c hlc
        have h3 := lt_of_cell h2
        rw [hx.cell (p := ⟨br, ro + c, none⟩) (by show br < g3; omega)]; exact h1
      obtain ⟨y, hy⟩ : ∃ y, y = d.nx 0 c := ⟨_, rfl⟩
      have hyN : y < N := by rw [hy, H.out.2.2]; exact H.out.1.nx_lt H.out.1.pos hlc
      rw [← hy] at k1
      obtain ⟨i0, hi, hz0, hz1, hz2⟩ := info_parts int_info
      have hown' := hown.alloc (.cells #[.int .i64 ((y : Int) + 1)] 3)
      have hcell := cell_one_new wr (.int .i64 ((y : Int) + 1)) 3
      have h1c : ∀ u ∈ [Value.int .i64 ((y : Int) + 1)], u.oneCell' = true := one_int _ _
      have hbase : W.heap.size ≤ (wr.alloc (.cells #[.int .i64 ((y : Int) + 1)] 3)).heap.size := by simp; omega
      have hmax : c + 1 ≤ maxLen := by unfold maxLen; omega
      have hj1 : (c : Int) < 256 := by omega
      have l2 := hr3.lt
      have l3 := lt_of_cell k1
      have HX := Lib.hid (And.intro hx (And.intro hsz (And.intro hr3 (And.intro hown hy))))
      clear hx hr3 hown hy hsz
      go_upto_region 5 with fail
      go_wp2_with (at_builtin; refine wpList_append_own_at _ rfl _ _ 23 rfl W.heap.size 3 i0 (.int .i64 0) 1 8 Tryd.underlying23 hi hz0 hz1 hz2 rfl (by decide) _ _ _ rfl hown' ⟨wr.heap.size, 0, none⟩ 1 1 [.int .i64 ((y : Int) + 1)] rfl rfl hcell h1c hmax (by omega) hbase ?_; intro v' W4 hown9 hg _ hat; obtain ⟨g9, c9, rfl, hne9, k9, f9, hk9⟩ := app_keep HX.out.2.2.2.1 hown9 hg HB.out.2.2.2.2.1.lt HX.out.2.1 k0 f0)
      go_roundw
      case rel =>
        have hW3 := HB.out.2.2.2.2.1.lt
        have hxW : Below g3 W W4 := by
          have h1 : Below g3 W (wr.alloc (.cells #[.int .i64 ((y : Int) + 1)] 3)) := HX.out.1.alloc (by omega) _
          exact Below.grown h1 hg (by rw [World.size_alloc]; omega) (fun g e => by have := (HX.out.2.2.2.1.lt g e).1; omega)
        have hs4 := hg.size
        rw [World.size_alloc] at hs4
        refine ⟨c + 1, .slice (some ⟨g9, 0, none⟩) (c + 1) c9, by omega, by go_num, hxW.setCell (Nat.le_refl _) _, ?_, ?_, ?_⟩
        · rw [World.size_setCell]; have := HX.out.2.1; omega
        · exact (((HX.out.2.2.1.alloc (.cells #[.int .i64 ((y : Int) + 1)] 3)).of_block hk9).set 0 _).congr fun i hi => by rw [if_pos (by omega)]
        · rw [upB_succ, ← HX.out.2.2.2.2]
          exact own_block hown9 fun g e _ => Below.heap_setCell _ _ _ _ (by simp [Value.ownBlock] at e; subst e; exact hne9)
      case measure => simp [intOf]; omega
    · obtain rfl : c = 256 := by omega
      rw [show ((256 : Nat) : Int) = 256 from rfl]
      have hr2 : ∃ own, Rows2 wr g3 own (.slice (some ⟨g3, 0, none⟩) 1 1) [h] (rowsB d 0) := by
        have hW3 := HB.out.2.2.2.2.1.lt
        refine ⟨fun g => if g = g3 then 0 else 1, ?_, fun g e => ?_, fun i h' l h1 h2 => ?_⟩
        · obtain ⟨cc, hb, hcs, hci⟩ := hr3
          refine ⟨rfl, .inr ⟨g3, 1, cc, rfl, Nat.le_refl _, hb, Nat.le_refl _, by unfold maxLen; omega, by omega, ?_⟩⟩
          have h0 := hci 0 (by omega)
          have hl : cc.toList.length = 1 := by simpa using hcs
          obtain ⟨x, hxx⟩ : ∃ x, cc.toList = [x] := List.length_eq_one_iff.1 hl
          have : cc.toList[0]? = some h := by simpa using h0
          rw [hxx] at this
          rw [hxx]
          simp at this
          subst this
          rfl
        · simp [Value.ownBlock] at e
          exact if_pos e.symm
        · match i, h1, h2 with
          | 0, h1, h2 =>
            obtain rfl : h = h' := by simpa using h1
            obtain rfl : upB d 0 256 = l := by simpa [rowsB] using h2
            rw [upB_len]
            exact ⟨own_base hown (by omega), fun g e => if_neg (by have := (hown.lt g e).1; omega)⟩
      obtain ⟨own, hr2⟩ := hr2
      have HX := Lib.hid (And.intro hx (And.intro hsz hr2))
      obtain ⟨ah, ch, hhv⟩ := own_shp' hown
      subst hhv
      have k0 : wr.cell? ⟨w.heap.size, 0, none⟩ = some (.slice (some ⟨bn, on, none⟩) N cn) := by rw [hx.cell (p := ⟨w.heap.size, 0, none⟩) hlt3]; exact HB.out.2.1
      clear hx hsz hr3 hown hr2 r0W b0
      go_wp2_with fail
      go_loopw [3, 34] (fun nv iv wq => ∃ (i : Nat) (own : Nat → Nat) (hs : List Value), i ≤ N ∧ iv = .int .i64 i ∧ Below g3 W wq ∧ W.heap.size ≤ wq.heap.size ∧ Rows2 wq g3 own nv hs (rowsB d i)) (fun _ iv _ => N - (intOf iv).toNat)
      case atStart => exact ⟨0, own, [.slice ah 256 ch], Nat.zero_le _, rfl, HX.out.1, HX.out.2.1, HX.out.2.2⟩
      case round =>
        clear k0
        obtain ⟨i, own, hs, hi, rfl, hx, hsz, hr⟩ := hrel
        have hkeep : ∀ {b o : Nat} {v : Value}, w.cell? ⟨b, o, none⟩ = some v → wr.cell? ⟨b, o, none⟩ = some v := fun {b o v} hv => by
          have h1 := lt_of_cell hv
          rw [hx.cell (p := ⟨b, o, none⟩) (by show b < g3; omega)]; exact HB.out.1.cell hv
        have b1 : wr.cell? ⟨w.heap.size, 1, none⟩ = some (.slice (some ⟨bl, ol, none⟩) N cl) := by rw [hx.cell (p := ⟨w.heap.size, 1, none⟩) hlt3]; exact HB.out.2.2.1
        by_cases hlt : i < N
        · obtain ⟨br', ro', cr', s0, s1⟩ := H.out.2.1.row i (by rw [← H.out.2.2]; exact hlt)
          have k0 := hkeep s0
          have hj1 : (i : Int) < N := by omega
          have l3 := lt_of_cell k0
          have HY := Lib.hid (And.intro hx (And.intro hsz (And.intro hr s1)))
          clear hx hsz hr s0 s1 hkeep b1
          obtain ⟨wi, hwi⟩ : ∃ x, x = wr := ⟨_, rfl⟩
          have hE0 : Ext wi wr := by rw [hwi]; exact Ext.refl _
          rw [← hwi] at HY
          have HE0 := Lib.hid (And.intro hE0 hwi)
          clear hE0 hwi
          go_wp2_with fail
          go_loopw [8, 40] (fun lv cv wq => ∃ c : Nat, c ≤ 256 ∧ cv = .int .i64 c ∧ Ext wi wq ∧ wq.ownsRow wi.heap.size 3 1 lv c (intsV (upB d i c))) (fun _ cv _ => 256 - (intOf cv).toNat)
          case atStart => exact ⟨0, Nat.zero_le _, rfl, HE0.out.1, World.ownsRow_nil _ _ _ _⟩
          case round =>
            clear k0
            obtain ⟨c, hc, rfl, hx2, hown⟩ := hrel
            obtain ⟨ah, ch, hhv⟩ := own_shp' hown
            subst hhv
            by_cases hlc : c < 256
            · have k1 : wr.cell? ⟨br', ro' + c, none⟩ = some (.int .i64 (d.nx i c : Nat)) := by
                have h0 := HY.out.2.2.2 c hlc
                have h1 := lt_of_cell h0
                refine hx2.cell ?_
                rw [HY.out.1.cell (p := ⟨br', ro' + c, none⟩) (by show br' < g3; omega)]; exact HB.out.1.cell h0
              obtain ⟨y, hy⟩ : ∃ y, y = d.nx i c := ⟨_, rfl⟩
              have hyN : y < N := by rw [hy, H.out.2.2]; exact H.out.1.nx_lt (by rw [← H.out.2.2]; exact hlt) hlc
              rw [← hy] at k1
              obtain ⟨i0, hi, hz0, hz1, hz2⟩ := info_parts int_info
              have hown' := hown.alloc (.cells #[.int .i64 ((y : Int) + 1)] 3)
              have hcell := cell_one_new wr (.int .i64 ((y : Int) + 1)) 3
              have h1c : ∀ u ∈ [Value.int .i64 ((y : Int) + 1)], u.oneCell' = true := one_int _ _
              have hbase : wi.heap.size ≤ (wr.alloc (.cells #[.int .i64 ((y : Int) + 1)] 3)).heap.size := by have := hx2.size; rw [World.size_alloc]; omega
              have hmax : c + 1 ≤ maxLen := by unfold maxLen; omega
              have hj1 : (c : Int) < 256 := by omega
              have HX2 := Lib.hid (And.intro hx2 (And.intro hown hy))
              clear hx2 hown hy
              go_wp2_with (at_builtin; refine wpList_append_own_at _ rfl _ _ 23 rfl wi.heap.size 3 i0 (.int .i64 0) 1 8 Tryd.underlying23 hi hz0 hz1 hz2 rfl (by decide) _ _ _ rfl hown' ⟨wr.heap.size, 0, none⟩ 1 1 [.int .i64 ((y : Int) + 1)] rfl rfl hcell h1c hmax (by omega) hbase ?_; intro v' W4 hown9 hg _ hat)
              go_roundw
              case rel => exact ⟨c + 1, by omega, by go_num, Below.grown (HX2.out.1.trans (Ext.box wr _)) hg hbase (fun g e => (HX2.out.2.1.lt g e).1), by rw [upB_succ, ← HX2.out.2.2]; exact hown9⟩
              case measure => simp [intOf]; omega
            · obtain rfl : c = 256 := by omega
              rw [show ((256 : Nat) : Int) = 256 from rfl]
              obtain ⟨i0, hi0, hz0, hz1, hz2⟩ := info_parts slice_info
              have hrx := (HY.out.2.2.1.ext hx2).top.alloc (.cells #[.slice ah 256 ch] 23)
              rw [rowsB_len] at hrx
              have hcell := cell_one_new wr (.slice ah 256 ch) 23
              have h1c : ∀ u ∈ [Value.slice ah 256 ch], u.oneCell' = true := by intro u hu; simp at hu; subst hu; rfl
              have hg3W : g3 ≤ W.heap.size := Nat.le_of_lt HB.out.2.2.2.2.1.lt
              have hbase : g3 ≤ (wr.alloc (.cells #[.slice ah 256 ch] 23)).heap.size := by have := hx2.size; have := HY.out.2.1; rw [World.size_alloc]; omega
              have hmax : i + 1 + 1 ≤ maxLen := by unfold maxLen; omega
              have HX2 := Lib.hid (And.intro hx2 hown)
              clear hx2 hown
              go_wp2_with (at_builtin; refine wpList_append_own_at _ rfl _ _ 22 rfl g3 23 i0 (.slice none 0 0) 1 24 Tryd.underlying22 hi0 hz0 hz1 hz2 rfl (by decide) _ _ _ rfl hrx ⟨wr.heap.size, 0, none⟩ 1 1 [.slice ah 256 ch] rfl rfl hcell h1c hmax (by omega) hbase ?_; intro v' W4 hown9 hg _ hat)
              go_roundw
              case rel =>
                have hs4 := hg.size
                rw [World.size_alloc] at hs4
                obtain ⟨own', hr'⟩ := HY.out.2.2.1.snoc (l := upB d i 256) HX2.out.1 (Ext.box wr (.cells #[.slice ah 256 ch] 23)) (by have := HY.out.2.1; omega) (by rw [upB_len]; exact HX2.out.2) (by rw [rowsB_len]; exact hown9) hg hat
                refine ⟨i + 1, own', _, by omega, by go_num, ?_, by have := HX2.out.1.size; have := HY.out.2.1; omega, by rw [rowsB_succ]; exact hr'⟩
                exact Below.grown ((HY.out.1.trans (HX2.out.1.mono (by have := HY.out.2.1; omega))).alloc (by have := HX2.out.1.size; have := HY.out.2.1; omega) _) hg hbase (fun g hg' => (HY.out.2.2.1.top.lt g hg').1)
              case measure => simp [intOf]; omega
        · obtain rfl : N = i := by omega
          obtain ⟨an, cn', hnv⟩ := own_shp' hr.top
          subst hnv
          have hNe : N ≤ d.next.length := by rw [H.out.2.2]; exact Nat.le_refl _
          have hl0 : ∀ j, j < N → wr.cell? ⟨bl, ol + j, none⟩ = some (.int .i64 (d.lb j)) := fun j hj => hkeep (H.out.2.1.label j (by omega))
          have q : wr.cell? ⟨w.heap.size + 1, 0, none⟩ = some (.slice none 0 0) ∧ wr.cell? ⟨w.heap.size + 1, 1, none⟩ = some (.slice none 0 0) ∧ wr.frozen? ⟨w.heap.size + 1, 0, none⟩ = false ∧ wr.frozen? ⟨w.heap.size + 1, 1, none⟩ = false := by
            have h1 : w.heap.size + 1 < g3 := by rw [HB.out.2.2.2.2.2.2]; omega
            obtain ⟨p1, p2, p3, p4⟩ := HB.out.2.2.2.1
            exact ⟨(hx.cell (p := ⟨w.heap.size + 1, 0, none⟩) h1).trans p1, (hx.cell (p := ⟨w.heap.size + 1, 1, none⟩) h1).trans p2, (hx.frozen (p := ⟨w.heap.size + 1, 0, none⟩) h1).trans p3, (hx.frozen (p := ⟨w.heap.size + 1, 1, none⟩) h1).trans p4⟩
          go_upto_region 18 with fail
          have hown1 : (wr.alloc (.cells #[.int .i64 (-1)] 3)).ownsRow wr.heap.size 3 1 (.slice (some ⟨wr.heap.size, 0, none⟩) 1 1) 1 [.int .i64 (-1)] :=
            ⟨rfl, .inr ⟨wr.heap.size, 1, _, rfl, Nat.le_refl _, heap_alloc_new wr _, Nat.le_refl _, by unfold maxLen; omega, rfl, rfl⟩⟩
          have hx1 : Ext wr (wr.alloc (.cells #[.int .i64 (-1)] 3)) := Ext.box _ _
          have hnews := news_ints (k := .i64) (w := wr.alloc (.cells #[.int .i64 (-1)] 3)) (b := bl) (o := ol) (l := (List.range N).map d.lb) (fun j hj => by
            have hj' : j < N := by simpa using hj
            rw [hx1.cell (hl0 j hj')]
            simp [hj'])
          obtain ⟨i0, hi0, hz0, hz1, hz2⟩ := info_parts int_info
          have hlen : (((List.range N).map d.lb).map (Value.int .i64)).length = N * 1 := by simp
          have h1c := one_ints .i64 ((List.range N).map d.lb)
          have hmax : 1 + N ≤ maxLen := by unfold maxLen; omega
          have hb1' := hx1.cell b1
          have hlb := lt_of_cell b1
          have hbe : w.heap.size + 1 < wr.heap.size := lt_of_cell q.1
          have qx : (wr.alloc (.cells #[.int .i64 (-1)] 3)).cell? ⟨w.heap.size + 1, 0, none⟩ = some (.slice none 0 0) ∧ (wr.alloc (.cells #[.int .i64 (-1)] 3)).cell? ⟨w.heap.size + 1, 1, none⟩ = some (.slice none 0 0) ∧ (wr.alloc (.cells #[.int .i64 (-1)] 3)).frozen? ⟨w.heap.size + 1, 0, none⟩ = false ∧ (wr.alloc (.cells #[.int .i64 (-1)] 3)).frozen? ⟨w.heap.size + 1, 1, none⟩ = false :=
            ⟨hx1.cell q.1, hx1.cell q.2.1, (Below.frozen hx1 (p := ⟨w.heap.size + 1, 0, none⟩) hbe).trans q.2.2.1, (Below.frozen hx1 (p := ⟨w.heap.size + 1, 1, none⟩) hbe).trans q.2.2.2⟩
          have HQ := Lib.hid qx
          clear qx
          have HY := Lib.hid (And.intro hx (And.intro hsz (And.intro hr (And.intro q hx1))))
          clear hx hsz hr hl0 q hx1 hkeep
          go_wp2_with (at_builtin; refine wpList_append_own_at _ rfl _ _ 23 rfl wr.heap.size 3 i0 (.int .i64 0) 1 8 Tryd.underlying23 hi0 hz0 hz1 hz2 rfl (by decide) _ _ _ rfl hown1 ⟨bl, ol, none⟩ N cl (((List.range N).map d.lb).map (Value.int .i64)) rfl hlen hnews h1c hmax (by omega) (by rw [World.size_alloc]; omega) ?_; intro v' W4 hown9 hg _ hat; obtain ⟨bq, cq, rfl, hbq, _⟩ := own_slc hown9 (by omega); obtain ⟨e0, e1, g0, g1⟩ := app_old (b := w.heap.size + 1) (g := wr.heap.size) hg rfl (Nat.ne_of_lt hbe) HQ.out.1 HQ.out.2.1 HQ.out.2.2.1 HQ.out.2.2.2)
          rw [Nat.add_comm 1 N] at hown9 ⊢
          have hWf : ∃ bn' cn2 bl' cl2, (Value.slice an (rowsB d N).length cn') = .slice (some ⟨bn', 0, none⟩) (d.next.length + 1) cn2 ∧ (Value.slice (some ⟨bq, 0, none⟩) (N + 1) cq) = .slice (some ⟨bl', 0, none⟩) (d.next.length + 1) cl2 ∧
              Cells ((W4.setCell ⟨w.heap.size + 1, 0, none⟩ (.slice an (rowsB d N).length cn')).setCell ⟨w.heap.size + 1, 1, none⟩ (.slice (some ⟨bq, 0, none⟩) (N + 1) cq)) bn' 0 bl' 0 (behD d) := by
            have hx4 : Ext wr W4 := Below.grown HY.out.2.2.2.2 hg (by rw [World.size_alloc]; omega) (fun g e => by
              have e' : some wr.heap.size = some g := e
              simp at e'; omega)
            have hb : ∀ g, g3 ≤ g → ((W4.setCell ⟨w.heap.size + 1, 0, none⟩ (.slice an (rowsB d N).length cn')).setCell ⟨w.heap.size + 1, 1, none⟩ (.slice (some ⟨bq, 0, none⟩) (N + 1) cq)).heap[g]? = W4.heap[g]? := fun g hg' => by
              have h1 : w.heap.size + 1 < g3 := by rw [HB.out.2.2.2.2.2.2]; omega
              rw [Below.heap_setCell _ _ _ _ (by show g ≠ w.heap.size + 1; omega), Below.heap_setCell _ _ _ _ (by show g ≠ w.heap.size + 1; omega)]
            have hg3w : g3 ≤ wr.heap.size := by have := HB.out.2.2.2.2.1.lt; have := HY.out.2.1; omega
            have hR := (HY.out.2.2.1.ext hx4).block' (fun g h1 _ => hb g h1)
            have hL := own_block (own_base hown9 hg3w) (fun g e _ => hb g (by have := (hown9.lt g e).1; omega))
            have hNd := H.out.2.2
            have e1 : [Value.int .i64 (-1)] ++ ((List.range N).map d.lb).map (Value.int .i64) = intsV (-1 :: labsB d) := by rw [hNd]; rfl
            rw [e1] at hL
            rw [hNd] at hR hL hN6
            rw [hNd]
            obtain ⟨p1, p2, p3, p4, h1, h2, h3⟩ := behD_cells hR hL hN6
            exact ⟨p1, p2, p3, p4, h1, h2, h3⟩
          have hxf : Ext w ((W4.setCell ⟨w.heap.size + 1, 0, none⟩ (.slice an (rowsB d N).length cn')).setCell ⟨w.heap.size + 1, 1, none⟩ (.slice (some ⟨bq, 0, none⟩) (N + 1) cq)) := by
            have h1 : Ext w wr := Below.trans HB.out.1 (HY.out.1.mono (by omega))
            have h2 : Ext w W4 := Below.grown (h1.alloc (.cells #[.int .i64 (-1)] 3)) hg (by have := h1.size; rw [World.size_alloc]; omega) (fun g e => by
              have e' : some wr.heap.size = some g := e
              have := h1.size
              simp at e'; omega)
            exact (Below.setCell (p := ⟨w.heap.size + 1, 0, none⟩) h2 (by show w.heap.size ≤ w.heap.size + 1; omega) _).setCell (p := ⟨w.heap.size + 1, 1, none⟩) (by show w.heap.size ≤ w.heap.size + 1; omega) _
          obtain ⟨bn', cn2, bl', cl2, h1, h2, h3⟩ := hWf
          rw [h1, h2] at h3 hxf ⊢
          exact bodyPost_ret (v := .agg #[.slice (some ⟨bn', 0, none⟩) (d.next.length + 1) cn2, .slice (some ⟨bl', 0, none⟩) (d.next.length + 1) cl2]) (by simp [results, Tryd.results44, go_sem, e0, e1]) rfl ⟨bn', cn2, bl', cl2, rfl, h3, hxf⟩
end Go.Proofs.YtihginaanlcilaaDoor
