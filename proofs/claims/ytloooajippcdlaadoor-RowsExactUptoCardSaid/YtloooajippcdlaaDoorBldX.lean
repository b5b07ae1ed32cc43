/- rows.Build, both ends in one form; bolterlaw15.light of any list. -/
import Derived.Test.YtloooajippcdlaaDoorBuild
import Derived.Test.YtloooajippcdlaaDoorEntry
import Derived.Test.YtloooajippcdlaaDoorSents
namespace Go.Proofs.YtloooajippcdlaaDoor
open Go.RowKit

/-- the table of no rows -/
def zeroTab : Tab := ⟨[], 0, [], [], []⟩
/-- a table in memory of the call's own, from B on -/
def BldX (l : List Dn) (a : Nat → Addr) (w : World) (e : Ending) (w' : World) : Prop :=
  ∃ (ac sa an al : Option Addr) (n1 c1 n2 c2 n3 c3 n4 c4 : Nat) (er : Value) (T : Tab) (own : Nat → Nat) (B : Nat), e = .returned (.tuple #[.agg #[.slice ac n1 c1, .int .i64 (T.count : Int), .slice sa n2 c2, .slice an n3 c3, .slice al n4 c4], er]) ∧ Ext w w' ∧ w.heap.size ≤ B ∧
    TblV w' (.agg #[.slice ac n1 c1, .int .i64 (T.count : Int), .slice sa n2 c2, .slice an n3 c3, .slice al n4 c4]) T.tbl ∧ OwnT w' B own (.slice ac n1 c1) (.slice sa n2 c2) (.slice an n3 c3) (.slice al n4 c4) T ∧
    T.classes.length ≤ 1000 ∧ T.starts.length ≤ 1000 ∧ T.next.length ≤ 1000 ∧ T.label.length ≤ 1000 ∧ T.count ≤ 1000 ∧
    ((MayL l ∧ er = .nilIface ∧ T = built l) ∨ (¬ MayL l ∧ er = .iface 200 (.pointer (some (a 15))) ∧ T = zeroTab))

set_option maxRecDepth 100000 in
set_option maxHeartbeats 4000000 in
theorem build_no {w : World} {v : Value} {l : List Dn} {a : Nat → Addr} (h : DensesV w v l) (hno : ¬ MayL l) (hS : Sents w a) :
    Calls Tryd.prog 28 #[v] w fun e w' => e = .returned (.tuple #[.agg #[.slice none 0 0, .int .i64 0, .slice none 0 0, .slice none 0 0, .slice none 0 0], .iface 200 (.pointer (some (a 15)))]) ∧ Ext w w' := by
  have hmay := rowsMay_c (h.ext (Ext.box w (.cells #[.slice none 0 0, .int .i64 0, .slice none 0 0, .slice none 0 0, .slice none 0 0] 67)))
  rw [mayLB_false hno] at hmay
  have hg := hS.cell 15 (by omega) (by omega)
  rw [show gl 15 = 0 from rfl] at hg
  obtain ⟨W, hW⟩ : ∃ W, W = w.alloc (.cells #[.slice none 0 0, .int .i64 0, .slice none 0 0, .slice none 0 0, .slice none 0 0] 67) := ⟨_, rfl⟩
  have hx : Ext w W := by rw [hW]; exact Ext.box _ _
  have hr : W.rowIs w.heap.size 67 5 (rF (.slice none 0 0) (.int .i64 0) (.slice none 0 0) (.slice none 0 0) (.slice none 0 0)) := by
    rw [hW]
    exact World.rowIs_alloc w #[.slice none 0 0, .int .i64 0, .slice none 0 0, .slice none 0 0, .slice none 0 0] 67 (rF (.slice none 0 0) (.int .i64 0) (.slice none 0 0) (.slice none 0 0) (.slice none 0 0)) (fun i hi => by rcases rF_at hi with rfl | rfl | rfl | rfl | rfl <;> rfl)
  rw [← hW] at hmay
  have H := Lib.hid (And.intro hmay (And.intro hx (And.intro hr (And.intro hg hW))))
  clear h hno hS hmay hg hW hx hr
  go_enter Tryd.func28, Tryd.ntmps28
  go_wp2_with fail
  rw [← H.out.2.2.2.2]
  refine H.out.1.mono ?_
  rintro e w1 ⟨rfl, hx1⟩
  have g0 := (H.out.2.1.trans hx1).cell H.out.2.2.2.1
  have r := rowIs_ext hx1 H.out.2.2.1
  have hxx := H.out.2.1.trans hx1
  obtain ⟨b2, hb2⟩ : ∃ b, b = w.heap.size := ⟨_, rfl⟩
  rw [← hb2] at r ⊢
  have k0 : w1.cell? ⟨b2, 0, none⟩ = some (.slice none 0 0) := r.cell (i := 0) (by omega)
  have k1 : w1.cell? ⟨b2, 1, none⟩ = some (.int .i64 0) := r.cell (i := 1) (by omega)
  have k2 : w1.cell? ⟨b2, 2, none⟩ = some (.slice none 0 0) := r.cell (i := 2) (by omega)
  have k3 : w1.cell? ⟨b2, 3, none⟩ = some (.slice none 0 0) := r.cell (i := 3) (by omega)
  have k4 : w1.cell? ⟨b2, 4, none⟩ = some (.slice none 0 0) := r.cell (i := 4) (by omega)
  have f0 := r.frozen 0
  have f1 := r.frozen 1
  have f2 := r.frozen 2
  have f3 := r.frozen 3
  have f4 := r.frozen 4
  have hlg : 0 ≠ b2 := by have := lt_of_cell H.out.2.2.2.1; omega
  have g9 : (((((w1.setCell ⟨b2, 0, none⟩ (.slice none 0 0)).setCell ⟨b2, 1, none⟩ (.int .i64 0)).setCell ⟨b2, 2, none⟩ (.slice none 0 0)).setCell ⟨b2, 3, none⟩ (.slice none 0 0)).setCell ⟨b2, 4, none⟩ (.slice none 0 0)).cell? ⟨0, 0, none⟩ = some (.iface 200 (.pointer (some (a 15)))) :=
    (World.cell?_of_block (a := ⟨0, 0, none⟩) (heap_set5 hlg)).trans g0
  have HR := Lib.hid (And.intro r (And.intro hxx (Nat.le_of_eq hb2.symm)))
  clear r hxx hb2 hx1 hlg
  go_upto_region 2 with fail
  go_region
  go_wp2_with fail
  have hle := HR.out.2.2
  have hXf : Ext w (((((w1.setCell ⟨b2, 0, none⟩ (.slice none 0 0)).setCell ⟨b2, 1, none⟩ (.int .i64 0)).setCell ⟨b2, 2, none⟩ (.slice none 0 0)).setCell ⟨b2, 3, none⟩ (.slice none 0 0)).setCell ⟨b2, 4, none⟩ (.slice none 0 0)).drew := (((((HR.out.2.1.setCell hle _).setCell hle _).setCell hle _).setCell hle _).setCell hle _).drew
  have hr9 := (rowIs_set5 HR.out.1 (.slice none 0 0) (.int .i64 0) (.slice none 0 0) (.slice none 0 0) (.slice none 0 0))
  have hr9 := rowIs_ext (Ext.drew (Ext.refl _)) hr9
  generalize World.drew _ = Wf at hr9 hXf ⊢
  have z0 : Wf.cell? ⟨b2, 0, none⟩ = some (.slice none 0 0) := hr9.cell (i := 0) (by omega)
  have z1 : Wf.cell? ⟨b2, 1, none⟩ = some (.int .i64 0) := hr9.cell (i := 1) (by omega)
  have z2 : Wf.cell? ⟨b2, 2, none⟩ = some (.slice none 0 0) := hr9.cell (i := 2) (by omega)
  have z3 : Wf.cell? ⟨b2, 3, none⟩ = some (.slice none 0 0) := hr9.cell (i := 3) (by omega)
  have z4 : Wf.cell? ⟨b2, 4, none⟩ = some (.slice none 0 0) := hr9.cell (i := 4) (by omega)
  refine bodyPost_ret (v := .tuple #[.agg #[.slice none 0 0, .int .i64 0, .slice none 0 0, .slice none 0 0, .slice none 0 0], .iface 200 (.pointer (some (a 15)))]) ?_ rfl ⟨rfl, hXf⟩
  rw [results_cell_tmp rfl]
  go_simp
theorem zero_full (w : World) : FullRows w (.slice none 0 0) 0 0 := ⟨⟨_, _, rfl⟩, fun _ _ _ h => absurd h (Nat.lt_irrefl _)⟩
theorem zero_own (w : World) (B : Nat) : OwnT w B (fun _ => 0) (.slice none 0 0) (.slice none 0 0) (.slice none 0 0) (.slice none 0 0) zeroTab := ⟨.nil .., .nil .., .nil .., zero_full w⟩
theorem nil_ints (w : World) (k : IntKind) : IntsK k w (.slice none 0 0) [] := own_ints (B := 0) (e := 3) (n := 0) (World.ownsRow_nil _ _ _ _) (by omega)
theorem nil_rows (w : World) : RowsV w (.slice none 0 0) [] := (Rows2.nil w 0 (fun _ => 0)).read (by simp) (fun l h => by cases h)
theorem zero_tbl (w : World) : TblV w (.agg #[.slice none 0 0, .int .i64 0, .slice none 0 0, .slice none 0 0, .slice none 0 0]) zeroTab.tbl :=
  ⟨_, _, _, _, rfl, nil_ints w _, nil_ints w _, nil_rows w, nil_ints w _⟩

theorem buildXX_c {w : World} {v : Value} {l : List Dn} {a : Nat → Addr} (h : DensesV w v l) (hS : Sents w a) : Calls Tryd.prog 28 #[v] w (BldX l a w) := by
  by_cases hm : MayL l
  · refine (buildX_c h hm).mono ?_
    rintro e w' ⟨cv, sv, nv, lv, rfl, hT, hx, own, B, hB, hO⟩
    have hok := built_ok hm
    obtain ⟨_, ac, c1, e1, _⟩ := hT.classes.open
    obtain ⟨_, sa, c2, e2, _⟩ := hT.starts.open
    obtain ⟨_, an, c3, e3, _⟩ := hT.next.open
    obtain ⟨_, al, c4, e4, _⟩ := hT.label.open
    have h1 : (built l).classes.length ≤ 1000 := by rw [hok.classes]; omega
    have h2 : (built l).starts.length ≤ 1000 := by
      show (nI (allOf l).starts).length ≤ 1000
      rw [nI_len, show (allOf l).starts.length = (auts l).length from (RM.all_lens (auts l)).2, auts_len]
      have := hm.most; omega
    have hbs : baseOf l ≤ 600 := Nat.le_trans (baseOf_le l) hm.sum
    have h3 : (built l).next.length ≤ 1000 := by
      show ((allOf l).rows.map _).length ≤ 1000
      rw [List.length_map, show (allOf l).rows.length = baseOf l from (RM.all_lens (auts l)).1]; omega
    have h4 : (built l).label.length ≤ 1000 := by show (allOf l).labels.length ≤ 1000; exact Nat.le_trans hbs (by omega)
    have h5 : (built l).count ≤ 1000 := Nat.le_trans hok.few (by omega)
    subst e1; subst e2; subst e3; subst e4
    exact ⟨ac, sa, an, al, _, c1, _, c2, _, c3, _, c4, _, built l, own, B, rfl, hx, hB, ⟨_, _, _, _, rfl, hT.classes, hT.starts, hT.next, hT.label⟩, hO, h1, h2, h3, h4, h5, .inl ⟨hm, rfl, rfl⟩⟩
  · refine (build_no h hm hS).mono ?_
    rintro e w' ⟨rfl, hx⟩
    exact ⟨none, none, none, none, 0, 0, 0, 0, 0, 0, 0, 0, _, zeroTab, _, w.heap.size, rfl, hx, Nat.le_refl _, zero_tbl w', zero_own w' _, by simp [zeroTab], by simp [zeroTab], by simp [zeroTab], by simp [zeroTab], by simp [zeroTab], .inr ⟨hm, rfl, rfl⟩⟩

/-- has a list's automata few enough states? -/
def lightX (l : List Dn) : Bool := decide (l.length ≤ 40) && decide (states l ≤ 80)
set_option maxRecDepth 100000 in
theorem states_take_le {l : List Dn} (h : ∀ d ∈ l, d.next.length ≤ 140737488355328) : ∀ i, states (l.take i) ≤ i * 140737488355328 := by
  intro i
  induction i with
  | zero => simp [states]
  | succ i ih =>
    by_cases hi : i < l.length
    · rw [take_get (List.getElem?_eq_getElem hi), states_snoc]
      have := h _ (List.getElem_mem hi)
      omega
    · rw [List.take_of_length_le (by omega)] at ih ⊢
      exact Nat.le_trans ih (Nat.mul_le_mul_right _ (by omega))

set_option maxRecDepth 100000 in
set_option maxHeartbeats 2000000 in
theorem lightX_c {w : World} {v : Value} {l : List Dn} (h : DensesV w v l) : Calls Tryd.prog 25 #[v] w fun e w' => e = .returned (.bool (lightX l)) ∧ Ext w w' := by
  obtain ⟨hlen, a, cap, rfl, _, hop⟩ := h.open
  obtain ⟨L, hL⟩ : ∃ L, L = l.length := ⟨_, rfl⟩
  have hbig : 0 < L → ∀ d ∈ l, d.next.length ≤ 140737488355328 := fun h0 d hd => by
    obtain ⟨b, o, _, hc⟩ := hop (by rw [← hL]; exact h0)
    obtain ⟨i, hi⟩ := List.getElem?_of_mem hd
    obtain ⟨an, cn, al, cl, _, _, ⟨vn, vl, _, hr, _⟩⟩ := hc i d hi
    exact hr.open.1
  rw [← hL] at hlen hop ⊢
  by_cases h40 : L ≤ 40
  · have hst : ∀ i, i ≤ L → states (l.take i) ≤ i * 140737488355328 := fun i hi => by
      by_cases h0 : 0 < L
      · exact states_take_le (hbig h0) i
      · obtain rfl : i = 0 := by omega
        simp [states]
    have hlb : lightX l = decide (states l ≤ 80) := by unfold lightX; rw [← hL]; simp [h40]
    have H := Lib.hid (And.intro hop (And.intro hL (And.intro hst hlb)))
    clear hop hL h hbig hst hlb
    go_enter Tryd.func25, Tryd.ntmps25
    go_wp2
    go_loop [3, 4] (fun nv iv => ∃ i : Nat, i ≤ L ∧ iv = .int .i64 i ∧ nv = .int .i64 (states (l.take i) : Nat)) (fun _ iv => L - (intOf iv).toNat)
    case atStart => exact ⟨0, Nat.zero_le _, rfl, rfl⟩
    case round =>
      obtain ⟨i, hi, rfl, rfl⟩ := hrel
      have hs := H.out.2.2.1 i hi
      by_cases hlt : i < L
      · obtain ⟨b, o, rfl, hcell⟩ := H.out.1 (by omega)
        obtain ⟨d, hd⟩ : ∃ d, l[i]? = some d := ⟨_, List.getElem?_eq_getElem (by rw [← H.out.2.1]; exact hlt)⟩
        obtain ⟨an, cn, al, cl, c0, c1, hdv⟩ := hcell i d hd
        have hs2 := H.out.2.2.1 (i + 1) hlt
        rw [take_get hd, states_snoc] at hs2
        obtain ⟨n, hn⟩ : ∃ n, n = d.next.length := ⟨_, rfl⟩
        rw [← hn] at c0 hs2
        obtain ⟨s, hs'⟩ : ∃ s, s = states (l.take i) := ⟨_, rfl⟩
        rw [← hs'] at hs hs2 ⊢
        have hj1 : (i : Int) < L := by omega
        have hw1 : IntKind.i64.wrap ((s : Int) + n) = ((s + n : Nat) : Int) := (IntWalk.i64_in _ (by omega)).trans (by omega)
        have HC := Lib.hid (And.intro hd (And.intro hn hs'))
        clear hd hn hs' hdv c1 hcell hs2 hs
        go_wp2
        go_round
        case rel => exact ⟨i + 1, by omega, by go_num, by rw [take_get HC.out.1, states_snoc, ← HC.out.2.1, ← HC.out.2.2]; simp⟩
        case measure => simp [intOf]; omega
      · obtain rfl : L = i := by omega
        have hall : l.take L = l := by rw [H.out.2.1]; exact List.take_length
        rw [hall] at hs ⊢
        have hlb := H.out.2.2.2
        obtain ⟨s, hs'⟩ : ∃ s, s = states l := ⟨_, rfl⟩
        rw [← hs'] at hs hlb ⊢
        have HL := Lib.hid hlb
        have hj4 : (L : Int) ≤ 40 := by omega
        clear hlb hs' hall hlt
        by_cases h80 : s ≤ 80
        · have h80' : (s : Int) ≤ 80 := by omega
          go_wp2
          go_ret
          exact ⟨by rw [HL.out]; simp [h80], Ext.refl _⟩
        · have h80' : ¬ (s : Int) ≤ 80 := by omega
          go_wp2
          go_ret
          exact ⟨by rw [HL.out]; simp [h80], Ext.refl _⟩
  · have hlb : lightX l = false := by unfold lightX; rw [← hL]; simp [h40]
    have H := Lib.hid (And.intro hop (And.intro hL hlb))
    clear hop hL h hbig hlb
    go_enter Tryd.func25, Tryd.ntmps25
    go_wp2
    go_loop [3, 4] (fun nv iv => ∃ (i : Nat) (z : Int), i ≤ L ∧ iv = .int .i64 i ∧ nv = .int .i64 z) (fun _ iv => L - (intOf iv).toNat)
    case atStart => exact ⟨0, 0, Nat.zero_le _, rfl, rfl⟩
    case round =>
      obtain ⟨i, z, hi, rfl, rfl⟩ := hrel
      by_cases hlt : i < L
      · obtain ⟨b, o, rfl, hcell⟩ := H.out.1 (by omega)
        obtain ⟨d, hd⟩ : ∃ d, l[i]? = some d := ⟨_, List.getElem?_eq_getElem (by rw [← H.out.2.1]; exact hlt)⟩
        obtain ⟨an, cn, al, cl, c0, c1, hdv⟩ := hcell i d hd
        obtain ⟨n, hn⟩ : ∃ n, n = d.next.length := ⟨_, rfl⟩
        rw [← hn] at c0
        have hj1 : (i : Int) < L := by omega
        obtain ⟨y, hy⟩ : ∃ y, IntKind.i64.wrap (z + (n : Int)) = y := ⟨_, rfl⟩
        clear hd hn hdv c1 hcell
        go_wp2
        go_round
        case rel => exact ⟨i + 1, _, by omega, by go_num, rfl⟩
        case measure => simp [intOf]; omega
      · obtain rfl : L = i := by omega
        have hj4 : ¬ (L : Int) ≤ 40 := by omega
        by_cases h80 : z ≤ 80
        · go_wp2
          go_ret
          exact ⟨by rw [H.out.2.2]; rfl, Ext.refl _⟩
        · go_wp2
          go_ret
          exact ⟨by rw [H.out.2.2]; rfl, Ext.refl _⟩
end Go.Proofs.YtloooajippcdlaaDoor
