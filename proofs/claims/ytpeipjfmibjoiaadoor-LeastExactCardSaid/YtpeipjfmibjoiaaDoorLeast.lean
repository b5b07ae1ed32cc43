/- minimise.Least of an automaton that may be. -/
import Derived.Test.YtpeipjfmibjoiaaDoorLeastS
import Derived.Test.YtpeipjfmibjoiaaDoorClasses
import Derived.Test.YtpeipjfmibjoiaaDoorOverR
namespace Go.Proofs.YtpeipjfmibjoiaaDoor
open Go.RowKit

def LeastR (d : Dn) (w : World) (e : Ending) (w' : World) : Prop :=
  ∃ v P, e = .returned (.tuple #[v, .nilIface]) ∧ LM.Tells d.aut P ∧ DenseV w' v (dnOf (LM.least d.aut P)) ∧ Ext w w' ∧ DenseIn (fun g => w.heap.size ≤ g) w' v (dnOf (LM.least d.aut P))

/-- .. with what is known of its memory: full rows, labels of the call's own -/
def LeastO (d : Dn) (w : World) (e : Ending) (w' : World) : Prop :=
  ∃ an cn al cl n P, e = .returned (.tuple #[.agg #[.slice an n cn, .slice al n cl], .nilIface]) ∧ LM.Tells d.aut P ∧ DenseIn (fun g => w.heap.size ≤ g) w' (.agg #[.slice an n cn, .slice al n cl]) (dnOf (LM.least d.aut P)) ∧ Ext w w' ∧
    n ≤ 600 ∧ FullRows w' (.slice an n cn) n 256 ∧ w'.ownsRow w.heap.size 3 1 (.slice al n cl) n (intsV (LM.least d.aut P).2)
def FullH (hs : List Value) : Prop := ∀ h ∈ hs, ∃ g, h = .slice (some ⟨g, 0, none⟩) 256 256
theorem OutS.full {w : World} {B : Nat} {own : Nat → Nat} {bO n cn : Nat} {an : Option Addr} {lv : Value} {rows : List (List Nat)} {labs : List Int} {hs : List Value} (h : OutS w B own bO (.slice an n cn) lv rows labs hs) (hF : FullH hs) (hn : n = rows.length) (hl : ∀ l ∈ rows, l.length = 256) :
    FullRows w (.slice an n cn) n 256 := by
  subst hn
  refine ⟨⟨_, _, rfl⟩, fun a c hv h0 => ?_⟩
  simp only [Value.slice.injEq, true_and] at hv
  obtain ⟨rfl, rfl⟩ := hv
  have ht := h.top
  obtain ⟨g, cap, hv, _, _⟩ := own_slc ht (by omega)
  simp only [Value.slice.injEq] at hv
  obtain ⟨rfl, -, rfl⟩ := hv
  refine ⟨g, 0, rfl, fun i hi => ?_⟩
  have hhl := h.hlen
  have e1 : hs[i]? = some (hs[i]'(by omega)) := List.getElem?_eq_getElem _
  have e2 : rows[i]? = some (rows[i]'(by omega)) := List.getElem?_eq_getElem _
  obtain ⟨gr, hgr⟩ := hF _ (List.getElem_mem (by omega : i < hs.length))
  obtain ⟨q1, _⟩ := h.row i _ _ e1 e2
  have hl2 := hl _ (List.getElem_mem (by omega : i < rows.length))
  rw [hgr] at e1 q1
  rw [hl2] at q1
  refine ⟨gr, by rw [Nat.zero_add, ht.cellAt i (by omega)]; exact e1, fun k hk => ?_⟩
  rw [q1.cellAt k (by omega), natV_get (by omega)]
  exact ⟨_, rfl⟩

theorem scan_row {A : LM.Aut} {P : Nat → Nat} {reps : List Nat} {s c j : Nat} : ((LM.scan A P reps s (c + 1)).2.getD j 0 : Nat) = if j = c then LM.idx P (LM.scan A P reps s c).1 (A.nx s c) else (LM.scan A P reps s c).2.getD j 0 := by
  have hl := LM.scan_length A P reps s c
  simp only [LM.scan]
  rw [List.getD_eq_getElem?_getD, List.getD_eq_getElem?_getD, List.getElem?_append]
  by_cases e : j = c
  · subst e
    rw [if_neg (by omega), if_pos rfl, hl, Nat.sub_self]; rfl
  · rw [if_neg e]
    split
    · rfl
    · rw [List.getElem?_eq_none (by simp; omega), List.getElem?_eq_none (by omega)]

theorem found_next {A : LM.Aut} {P : Nat → Nat} {i s c : Nat} (h : (LM.found A P i).1[i]? = some s) (hc : c = 256) : LM.found A P (i + 1) = ((LM.scan A P (LM.found A P i).1 s c).1, (LM.found A P i).2 ++ [(LM.scan A P (LM.found A P i).1 s c).2]) := by
  have hc : c = LM.rowLen := by rw [hc, LM.rowLen_eq]
  simp only [LM.found]
  rw [h, hc]
theorem scan_all {A : LM.Aut} (hA : A.ok) {P : Nat → Nat} {i s c : Nat} (h : (LM.found A P i).1[i]? = some s) (hc : c = 256) : (LM.scan A P (LM.found A P i).1 s c).2.length = 256 ∧ (LM.scan A P (LM.found A P i).1 s c).1.length ≤ A.n ∧ (LM.scan A P (LM.found A P i).1 s c).1[i]? = some s ∧ (LM.found A P i).1 <+: (LM.scan A P (LM.found A P i).1 s c).1 := by
  have hpre : (LM.found A P i).1 <+: (LM.scan A P (LM.found A P i).1 s c).1 := LM.scan_prefix A P _ s c
  obtain ⟨h1, h2⟩ := List.getElem?_eq_some_iff.1 h
  refine ⟨by rw [LM.scan_length]; exact hc, (LM.Reps.scan hA (LM.Reps.found hA P i) (s := s) ((LM.Reps.found hA P i).lt s (List.mem_of_getElem? h)) c (by omega)).length_le, ?_, hpre⟩
  rw [List.getElem?_eq_getElem (by have := hpre.length_le; omega), ← hpre.getElem h1, h2]
theorem labs_next {A : LM.Aut} {l l' : List Nat} {i s : Nat} (hp : l <+: l') (hi : i ≤ l.length) (hs : l'[i]? = some s) : (l'.take (i + 1)).map A.lb = (l.take i).map A.lb ++ [A.lb s] := by
  obtain ⟨t, rfl⟩ := hp
  rw [take_snoc' hs, List.map_append, List.take_append_of_le_length hi]; rfl

theorem cell_at {w : World} {c : Array Value} {t : TypeId} {b i : Nat} {x : Value} (hb : b = w.heap.size) (h : c[i]? = some x) : (w.alloc (.cells c t)).cell? ⟨b, i, none⟩ = some x := by subst hb; exact new_cell h
theorem frozen_at {w : World} {c : Array Value} {t : TypeId} {b i : Nat} (hb : b = w.heap.size) : (w.alloc (.cells c t)).frozen? ⟨b, i, none⟩ = false := by subst hb; exact new_frozen _ _ _ _

set_option maxRecDepth 100000 in
theorem lea_start {w w1 : World} {N gc cc : Nat} {P0 : Nat → Nat} (hN6 : N ≤ 600) (hrow : w1.ownsRow (w.heap.size + 2) 3 1 (.slice (some ⟨gc, 0, none⟩) N cc) N (natV ((List.range N).map (LM.num P0)))) (hx : Ext w w1) (hsz : w.heap.size + 2 ≤ w1.heap.size) (hgc : w.heap.size + 2 ≤ gc) (hgc' : gc < w1.heap.size) {W5 : World}
    (hW : W5 = ((((w1.alloc (.cells #[.slice (some ⟨gc, 0, none⟩) N cc] 23)).alloc (.cells #[.slice none 0 0, .slice none 0 0] 25)).alloc (.map #[] 0)).alloc (.cells #[.map (some (w1.heap.size + 1 + 1))] 150)).alloc (.cells #[.slice none 0 0] 23)) :
    ∃ own, LeaS w W5 own W5 w.heap.size own (w1.heap.size + 1 + 1 + 1) w1.heap.size (w1.heap.size + 1 + 1 + 1 + 1) (w1.heap.size + 1 + 1) gc cc (.slice none 0 0) N (LM.num P0) [] (fun _ => none) (w1.heap.size + 1) (.slice none 0 0) (.slice none 0 0) [] [] [] ∧ own w.heap.size = 0 ∧ own (w.heap.size + 1) = 0 ∧ Ext w1 W5 := by
  have hx5 : Ext w1 W5 := by rw [hW]; exact ((((Ext.box _ _).trans (Ext.box _ _)).trans (Ext.box _ _)).trans (Ext.box _ _)).trans (Ext.box _ _)
  refine ⟨fun g => if g = w1.heap.size + 1 + 1 + 1 ∨ g = w1.heap.size ∨ g = gc then 1 else if g = w1.heap.size + 1 + 1 + 1 + 1 then 2 else if g = w1.heap.size + 1 + 1 then 4 else if g = w1.heap.size + 1 then 5 else 0, ⟨⟨?_, ?_, ?_, ?_, fun s hs => ?_, ?_, ?_, ?_, ?_, by omega, World.ownsRow_nil _ _ _ _, fun g hg => (by cases hg), ?_, ?_, by omega, .nil _ _, fun s hs => ?_⟩,
    ⟨?_, ?_, ?_, ?_, ?_, by omega, World.ownsRow_nil _ _ _ _, fun g hg => (by cases hg), fun i h l h1 _ => (by simp at h1), World.ownsRow_nil _ _ _ _, fun g hg => (by cases hg)⟩, .of_ext (hx.trans hx5), Nat.le_refl _, fun g _ h => ⟨rfl, h⟩⟩, ?_, ?_, hx5⟩
  · rw [hW]; exact (Ext.box _ _).cell (cell_at (by simp) rfl)
  · exact if_pos (.inl rfl)
  · rw [hW]; exact ((((Ext.box _ _).trans (Ext.box _ _)).trans (Ext.box _ _)).trans (Ext.box _ _)).cell (cell_at rfl rfl)
  · exact if_pos (.inr (.inl rfl))
  · refine hx5.cell ?_
    rw [hrow.cellAt s (by omega), natV_get (by simp; exact hs)]
    simp [List.getD_eq_getElem?_getD, List.getElem?_range hs]
  · exact if_pos (.inr (.inr rfl))
  · rw [hW]; exact cell_at (by simp) rfl
  · rw [hW]; exact frozen_at (by simp)
  · show (if _ then 1 else if _ then 2 else _) = 2
    rw [if_neg (by omega), if_pos rfl]
  · rw [hW]
    exact (IntM.made ((w1.alloc (.cells #[.slice (some ⟨gc, 0, none⟩) N cc] 23)).alloc (.cells #[.slice none 0 0, .slice none 0 0] 25))).block (((Ext.box _ _).trans (Ext.box _ _)).block _ (by simp)) |> (by simpa using ·)
  · show (if _ then 1 else if _ then 2 else if _ then 4 else _) = 4
    rw [if_neg (by omega), if_neg (by omega), if_pos rfl]
  · have h1 := LM.num_lt P0 hs
    have h2 := LM.cnt_le P0 N
    omega
  · rw [hW]; exact (((Ext.box _ _).trans (Ext.box _ _)).trans (Ext.box _ _)).cell (cell_at (by simp) rfl)
  · rw [hW]; exact (((Ext.box _ _).trans (Ext.box _ _)).trans (Ext.box _ _)).cell (cell_at (by simp) rfl)
  · rw [hW]; exact (Below.frozen (((Ext.box _ _).trans (Ext.box _ _)).trans (Ext.box _ _)) (p := ⟨w1.heap.size + 1, 0, none⟩) (by simp)).trans (frozen_at (by simp))
  · rw [hW]; exact (Below.frozen (((Ext.box _ _).trans (Ext.box _ _)).trans (Ext.box _ _)) (p := ⟨w1.heap.size + 1, 1, none⟩) (by simp)).trans (frozen_at (by simp))
  · show (if _ then 1 else if _ then 2 else if _ then 4 else if _ then 5 else 0) = 5
    rw [if_neg (by omega), if_neg (by omega), if_neg (by omega), if_pos rfl]
  · show (if _ then 1 else if _ then 2 else if _ then 4 else if _ then 5 else 0) = 0
    rw [if_neg (by omega), if_neg (by omega), if_neg (by omega), if_neg (by omega)]
  · show (if _ then 1 else if _ then 2 else if _ then 4 else if _ then 5 else 0) = 0
    rw [if_neg (by omega), if_neg (by omega), if_neg (by omega), if_neg (by omega)]

theorem key_elim {G : Nat → Nat → World → Prop} {Good : Nat → Nat → World → Prop} {Q : Prop} (h : (∀ gg cap W, Good gg cap W → G gg cap W) → Q) (h2 : ∀ gg cap W, Good gg cap W → G gg cap W) : Q := h h2

set_option maxRecDepth 100000 in
set_option maxHeartbeats 8000000 in
theorem leastO_c {v : Value} {d : Dn} {w : World} (h : DenseV w v d) (hm : May d) : Calls Tryd.prog 47 #[v] w (LeastO d w) := by
  have HM := Lib.hid hm
  have HD := Lib.hid h
  obtain ⟨bn, on, cn, bl, ol, cl, rfl, hc⟩ := h.cells hm
  obtain ⟨N, hN⟩ : ∃ N, N = d.next.length := ⟨_, rfl⟩
  have hpos : 0 < N := by rw [hN]; exact hm.pos
  have hN6 : N ≤ 600 := by rw [hN]; exact hm.most
  have HN := Lib.hid (And.intro hN hc)
  rw [← hN] at HD ⊢
  have hmm := @run_makeMap Tryd.prog
  have hmf : ∀ (fn : Fn) (first cap : Array Value) (w : World), (Instr.makeFunc fn first cap).run Tryd.prog w = .ok (.func fn first cap) w := fun _ _ _ _ => rfl
  clear h hm hN hc
  go_enter Tryd.func47, Tryd.ntmps47
  go_wp2_with fail
  have hx0 : Ext w ((w.alloc (.cells #[.slice (some ⟨bn, on, none⟩) N cn, .slice (some ⟨bl, ol, none⟩) N cl] 25)).alloc (.cells #[.slice none 0 0, .slice none 0 0] 25)) := (Ext.box _ _).trans (Ext.box _ _)
  refine (classes_c (HD.out.ext hx0) HM.out).mono ?_
  rintro e w1 ⟨cv, rfl, P0, hT0, hrow0, hx1⟩
  rw [← HN.out.1] at hrow0
  obtain ⟨gc, cc, hcv, hgc, hgc'⟩ := own_slc hrow0 hpos
  subst hcv
  have q0 := hx1.cell (p := ⟨w.heap.size, 0, none⟩) (v := .slice (some ⟨bn, on, none⟩) N cn) (by simp)
  have q1 := hx1.cell (p := ⟨w.heap.size, 1, none⟩) (v := .slice (some ⟨bl, ol, none⟩) N cl) (by simp)
  have p0 := hx1.cell (p := ⟨w.heap.size + 1, 0, none⟩) (v := .slice none 0 0) (by simp)
  have p1 := hx1.cell (p := ⟨w.heap.size + 1, 1, none⟩) (v := .slice none 0 0) (by simp)
  have pf0 : w1.frozen? ⟨w.heap.size + 1, 0, none⟩ = false := (Below.frozen hx1 (p := ⟨w.heap.size + 1, 0, none⟩) (by simp)).trans (by simp)
  have pf1 : w1.frozen? ⟨w.heap.size + 1, 1, none⟩ = false := (Below.frozen hx1 (p := ⟨w.heap.size + 1, 1, none⟩) (by simp)).trans (by simp)
  have hszw : w.heap.size + 2 ≤ w1.heap.size := by have := hx1.size; simp at this; omega
  have HX := Lib.hid (And.intro hT0 (And.intro hrow0 (hx0.trans hx1)))
  clear hT0 hrow0 hx0 hx1 HD
  go_wp2_with fail
  have hrow1 : w1.ownsRow (w.heap.size + 2) 3 1 (.slice (some ⟨gc, 0, none⟩) N cc) N (natV ((List.range N).map (LM.num P0))) := by simpa using HX.out.2.1
  have hgc2 : w.heap.size + 2 ≤ gc := by simpa using hgc
  obtain ⟨W5, hW5⟩ : ∃ W5, W5 = ((((w1.alloc (.cells #[.slice (some ⟨gc, 0, none⟩) N cc] 23)).alloc (.cells #[.slice none 0 0, .slice none 0 0] 25)).alloc (.map #[] 0)).alloc (.cells #[.map (some (w1.heap.size + 1 + 1))] 150)).alloc (.cells #[.slice none 0 0] 23) := ⟨_, rfl⟩
  obtain ⟨own5, hL0, ho1, ho2, hx5⟩ := lea_start hN6 hrow1 HX.out.2.2 hszw hgc2 hgc' hW5
  rw [← hW5]
  have hLsz := hL0.fnd.row
  obtain ⟨bC, hbC⟩ : ∃ b, b = w1.heap.size := ⟨_, rfl⟩
  obtain ⟨bO, hbO⟩ : ∃ b, b = w1.heap.size + 1 := ⟨_, rfl⟩
  obtain ⟨gM, hgM⟩ : ∃ b, b = w1.heap.size + 1 + 1 := ⟨_, rfl⟩
  obtain ⟨bM, hbM⟩ : ∃ b, b = w1.heap.size + 1 + 1 + 1 := ⟨_, rfl⟩
  obtain ⟨bS, hbS⟩ : ∃ b, b = w1.heap.size + 1 + 1 + 1 + 1 := ⟨_, rfl⟩
  rw [← hbS, ← hbM, ← hgM, ← hbO, ← hbC] at hL0
  rw [← hbS, ← hbM]
  try rw [← hbO]
  rw [← hbC]
  obtain ⟨A, hA⟩ : ∃ A, A = d.aut := ⟨_, rfl⟩
  obtain ⟨P, hP⟩ : ∃ P, P = LM.num P0 := ⟨_, rfl⟩
  rw [← hP] at hL0
  have hT : LM.Tells A P := by
    intro s t hs ht
    rw [hP, LM.num_eq_iff, hA]
    exact HX.out.1 s t (by rw [← hA]; exact hs) (by rw [← hA]; exact ht)
  have k0 := hx5.cell q0
  have k1 := hx5.cell q1
  have r0 := hx5.cell p0
  have r1 := hx5.cell p1
  have s0 : W5.frozen? ⟨w.heap.size + 1, 0, none⟩ = false := (Below.frozen hx5 (p := ⟨w.heap.size + 1, 0, none⟩) (by show w.heap.size + 1 < w1.heap.size; omega)).trans pf0
  have s1 : W5.frozen? ⟨w.heap.size + 1, 1, none⟩ = false := (Below.frozen hx5 (p := ⟨w.heap.size + 1, 1, none⟩) (by show w.heap.size + 1 < w1.heap.size; omega)).trans pf1
  have hz5 := hx5.size
  have HZ := Lib.hid (And.intro hA (And.intro hT (And.intro ho1 (And.intro ho2 (And.intro k0 (And.intro k1 (And.intro r0 (And.intro r1 (And.intro s0 s1)))))))))
  have hcall := found_c hL0.fnd hpos (s := 0) hpos hN6 (by simp)
  have HL0 := Lib.hid (And.intro hL0 hcall)
  clear hL0 hcall hA hT ho1 ho2 hx5 q0 q1 p0 p1 pf0 pf1 hW5 hgc hgc2 hrow1 hgc' hLsz hP hmm hmf k0 k1 r0 r1 s0 s1
  refine HL0.out.2.mono ?_
  intro e w6 hf
  obtain ⟨rfl, own6, sv6, F6, hL6, _, _⟩ := HL0.out.1.found hf
  have e1 : LM.addRep P [] 0 = (LM.found A P 0).1 := rfl
  rw [e1] at hL6
  have HL6 := Lib.hid hL6
  clear hf hL6 e1 HL0
  have HAn : A.n = N := by rw [HZ.out.1, HN.out.1]; rfl
  have HAnx : ∀ s c, A.nx s c = d.nx s c := fun s c => by rw [HZ.out.1]; rfl
  have HAok : A.ok := by rw [HZ.out.1]; exact HM.out.ok
  have HB := Lib.hid (And.intro HAn (And.intro HAnx HAok))
  have hmk := run_make_any (P := Tryd.prog) 23 3 (.int .i64 0) 1 8 Tryd.underlying23 int_info .i64 .i64 256 (by omega) (by omega)
  have hnat : ((256 : Nat) : Int) = 256 := rfl
  rw [hnat] at hmk
  clear hbC hbO hgM hbM hbS HAn HAnx HAok hnat
  go_wp2
  go_loopw [10] (fun iv wr => ∃ (i : Nat) (own : Nat → Nat) (sv : Value) (F : Int → Option Nat) (nv lv : Value) (hs : List Value), i ≤ N ∧ i ≤ (LM.found A P i).1.length ∧ iv = .int .i64 i ∧
    LeaS w W5 own5 wr w.heap.size own bM bC bS gM gc cc sv N P (LM.found A P i).1 F bO nv lv (LM.found A P i).2 (((LM.found A P i).1.take i).map A.lb) hs ∧ FullH hs) (fun iv _ => N - (intOf iv).toNat)
  case atStart => exact ⟨0, own6, sv6, F6, _, _, [], Nat.zero_le _, Nat.zero_le _, rfl, HL6.out, fun h hh => by cases hh⟩
  case round =>
    clear HL6
    obtain ⟨i, own, sv, F, nv, lv, hs, hiN, hiR, rfl, hL, hFH⟩ := hrel
    have HFH := Lib.hid hFH
    clear hFH
    obtain ⟨a4, k4, hsv⟩ := own_shp hL.fnd.row
    subst hsv
    have hRN : (LM.found A P i).1.length ≤ N := by rw [← HB.out.1]; exact (LM.Reps.found HB.out.2.2 P i).length_le
    obtain ⟨R, hR⟩ : ∃ R, R = (LM.found A P i).1.length := ⟨_, rfl⟩
    have cS := hL.fnd.cS
    rw [← hR] at cS hRN hiR
    by_cases hlt : i < R
    · obtain ⟨s, hs'⟩ : ∃ s, (LM.found A P i).1[i]? = some s := ⟨_, List.getElem?_eq_getElem (by rw [← hR]; exact hlt)⟩
      have hsN : s < N := by rw [← HB.out.1]; exact (LM.Reps.found HB.out.2.2 P i).lt s (List.mem_of_getElem? hs')
      have hgs : (LM.found A P i).1.getD i 0 = s := by rw [List.getD_eq_getElem?_getD, hs']; rfl
      have hrow := hL.fnd.row
      rw [← hR] at hrow
      obtain ⟨gs, ks, hgs', _, _⟩ := own_slc hrow (by omega)
      have ha4 : a4 = some ⟨gs, 0, none⟩ := by simp only [Value.slice.injEq] at hgs'; exact hgs'.1
      subst ha4
      have cs := hrow.cellAt i (by omega)
      rw [natV_get (by rw [← hR]; exact hlt), hgs] at cs
      have kb1 := hL.kept w.heap.size (by omega) HZ.out.2.2.1
      have cb0 := (World.cell?_of_block (a := ⟨w.heap.size, 0, none⟩) kb1.1).trans HZ.out.2.2.2.2.1
      have hxr : Ext w wr := hL.bl.ext (Ext.refl w) fun g hg => hg
      obtain ⟨br, ro, cr, hcr, hcv⟩ := HN.out.2.row s (by rw [← HN.out.1]; exact hsN)
      have cr0 := hxr.cell hcr
      have hj1 : (s : Int) < N := by omega
      have hj2 : (i : Int) < R := by omega
      have hsz := hL.bl.size
      have hx1 : Ext wr (wr.alloc (.cells (madeCells #[.int .i64 0] 256) 3)) := Ext.box _ _
      have hrowR := World.rowIs_made wr (.int .i64 0) 256 3
      have hL1 := hL.ext hpos hx1 (own' := fun g => if g < wr.heap.size then own g else 8) (fun g hg => if_pos hg)
      have hown8 : (fun g => if g < wr.heap.size then own g else 8) wr.heap.size = 8 := if_neg (by omega)
      have HL := Lib.hid (And.intro hL1 (And.intro hs' (And.intro hR (And.intro hown8 hrowR))))
      have HCV := Lib.hid hcv
      have h5 := hL.size5
      have HV := Lib.hid h5
      have cS1 := hx1.cell cS
      have cs1 := hx1.cell cs
      have cb1 := hx1.cell cb0
      have cr1 := hx1.cell cr0
      clear hL hs' hgs hrow hgs' kb1 hxr hcr hcv hR hx1 hrowR hL1 hown8 h5 cs cb0 cr0
      obtain ⟨gR, hgR⟩ : ∃ g, g = wr.heap.size := ⟨_, rfl⟩
      go_upto_region 13 with fail
      clear cS
      generalize World.alloc wr _ = W1 at cS1 cs1 cb1 cr1 HL ⊢
      rw [← hgR] at HL ⊢
      have hgRB : w.heap.size ≤ gR := by omega
      generalize (fun g => if g < gR then own g else 8) = own1 at HL
      clear hgR hmk
      go_quiet (fail)
      go_wp2
      clear cS1 cs1 cb1 cr1
      go_loopw [43] (fun cv wi => ∃ (c : Nat) (own' : Nat → Nat) (sv' : Value) (F' : Int → Option Nat), c ≤ 256 ∧ cv = .int .i64 c ∧
        LeaS w W5 own5 wi w.heap.size own' bM bC bS gM gc cc sv' N P (LM.scan A P (LM.found A P i).1 s c).1 F' bO nv lv (LM.found A P i).2 (((LM.found A P i).1.take i).map A.lb) hs ∧ own' gR = 8 ∧ wi.rowIs gR 3 256 (fun j => .int .i64 ((LM.scan A P (LM.found A P i).1 s c).2.getD j 0 : Nat))) (fun cv _ => 256 - (intOf cv).toNat)
      case atStart => exact ⟨0, own1, _, F, Nat.zero_le _, rfl, HL.out.1.ext hpos ((Ext.refl _).drewN _) (fun _ _ => rfl), HL.out.2.2.2.1, (rowIs_ext ((Ext.refl _).drewN _) HL.out.2.2.2.2).congr (fun j _ => by simp [LM.scan])⟩
      case round =>
        obtain ⟨c, own', sv', F', hc, rfl, hL, h8, hrow⟩ := hrel
        by_cases hltc : c < 256
        · obtain ⟨t, ht⟩ : ∃ t, t = d.nx s c := ⟨_, rfl⟩
          have htN : t < N := by rw [ht, HN.out.1]; exact HM.out.nx_lt (by rw [← HN.out.1]; exact hsN) hltc
          have hxr : Ext w wr := hL.bl.ext (Ext.refl w) fun g hg => hg
          have ct := hxr.cell (HCV.out c hltc)
          rw [← ht] at ct
          have hreps : (LM.scan A P (LM.found A P i).1 s c).1.length ≤ 600 := by
            have h1 := (LM.Reps.scan HB.out.2.2 (LM.Reps.found HB.out.2.2 P i) (s := s) (by rw [HB.out.1]; exact hsN) c (by omega)).length_le
            rw [HB.out.1] at h1; omega
          have hcall := found_c hL.fnd hpos htN hN6 hreps
          have HC := Lib.hid (And.intro hL (And.intro h8 (And.intro hrow (And.intro ht hcall))))
          have hj3 : (c : Int) < 256 := by omega
          clear hL h8 hrow ht hxr hreps hcall
          go_wp2_with fail
          refine HC.out.2.2.2.2.mono ?_
          intro e w9 hf
          obtain ⟨rfl, own9, sv9, F9, hL9, ho9, hk9⟩ := HC.out.1.found hf
          have hgl := HC.out.2.2.1.lt
          have hrow9 := HC.out.2.2.1.of_block (hk9 gR hgl HC.out.2.1)
          have h89 := (ho9 gR hgl).trans HC.out.2.1
          have htA : t = A.nx s c := by rw [HC.out.2.2.2.1, HB.out.2.1]
          have cR : ∃ v, w9.cell? ⟨gR, c, none⟩ = some v := ⟨_, hrow9.cell hltc⟩
          obtain ⟨vR, cR⟩ := cR
          have fR := hrow9.frozen c
          obtain ⟨ix, hix⟩ : ∃ ix, ix = LM.idx P (LM.scan A P (LM.found A P i).1 s c).1 t := ⟨_, rfl⟩
          rw [← hix]
          have H9 := Lib.hid (And.intro (hL9.setRow hpos h89 hgRB (c := c) (.int .i64 (ix : Int))) (And.intro h89 (And.intro (hrow9.set c (.int .i64 (ix : Int))) (And.intro htA hix))))
          clear hf hL9 ho9 hk9 hrow9 h89 htA hix ct
          go_wp2
          go_roundw
          case rel =>
            obtain ⟨y1, y2, y3, y4, y5⟩ := H9.out
            refine ⟨c + 1, own9, sv9, F9, by omega, by go_num, ?_, y2, y3.congr fun j _ => ?_⟩
            · simp only [LM.scan]; rw [← y4]; exact y1
            · rw [scan_row, ← y4, ← y5]
              by_cases e : j = c
              · rw [if_pos e, if_pos e]
              · rw [if_neg e, if_neg e]
          case measure => simp [intOf]; omega
        · have hcc : c = 256 := by omega
          obtain ⟨hslen, hR2N, hs2, hpre⟩ := scan_all (c := c) HB.out.2.2 HL.out.2.1 hcc
          have hnext := found_next (c := c) HL.out.2.1 hcc
          rw [HB.out.1] at hR2N
          have hcc' : ¬ (c : Int) < 256 := by omega
          generalize LM.scan A P (LM.found A P i).1 s c = Q at hL hrow hslen hR2N hs2 hpre hnext
          obtain ⟨Qr, Qe⟩ := Q
          simp only at hL hrow hslen hR2N hs2 hpre hnext
          have hbo := hL.out.c0
          have hbf := hL.out.f0
          have hbo1 := hL.out.c1
          obtain ⟨an, kn, hnv⟩ := own_shp hL.out.top
          subst hnv
          have hrows := LM.found_rows A P i (by rw [← HL.out.2.2.1]; omega)
          rw [hrows] at hbo
          have hrv := own_of_rowIs (B := w.heap.size) hrow hgRB (by unfold maxLen; omega) hslen (fun j _ => rfl)
          rw [hslen] at hrv
          have htop := hL.out.top
          rw [hrows] at htop
          have hown := htop.alloc (.cells #[.slice (some ⟨gR, 0, none⟩) 256 256] 23)
          obtain ⟨j0, hj, hw0, hw1, hw2⟩ := info_parts slice_info
          have hcell := cell_one_new wr (.slice (some ⟨gR, 0, none⟩) 256 256) 23
          have h1c : ∀ u ∈ [Value.slice (some ⟨gR, 0, none⟩) 256 256], u.oneCell' = true := by intro u hu; simp at hu; subst hu; rfl
          have hbase : w.heap.size ≤ (wr.alloc (.cells #[.slice (some ⟨gR, 0, none⟩) 256 256] 23)).heap.size := by have := hL.bl.size; simp; omega
          have hmax : i + 1 ≤ maxLen := by unfold maxLen; omega
          have hbl := hL.out.bl
          have hnO : (Value.slice an i kn).ownBlock ≠ some bO := fun e => by
            have h1 := hL.out.topT bO (by rw [hrows]; exact e)
            have := hL.out.oT
            omega
          have HQ := Lib.hid (And.intro hL (And.intro h8 (And.intro hrv (And.intro hrows hslen))))
          have HN2 := Lib.hid (And.intro hs2 (And.intro hpre hnext))
          clear hL h8 hrow hrv hrows hslen htop hs2 hpre hnext hcc
          go_wp2_with (at_builtin; refine wpList_append_own_at _ rfl _ _ 22 rfl w.heap.size 23 j0 (.slice none 0 0) 1 24 Tryd.underlying22 hj hw0 hw1 hw2 rfl (by decide) (.slice an i kn) i _ rfl hown ⟨wr.heap.size, 0, none⟩ 1 1 [.slice (some ⟨gR, 0, none⟩) 256 256] rfl rfl hcell h1c hmax (by omega) hbase ?_; intro v' W hown' hg _ hat; obtain ⟨gg, cap, hv', _, _⟩ := own_slc hown' (by omega); subst hv'; have hkO := hg.block bO (by simp; omega) (Ne.symm hnO); have cOW : W.cell? ⟨bO, 0, none⟩ = some (.slice an i kn) := (World.cell?_of_block (a := ⟨bO, 0, none⟩) hkO).trans ((Ext.box wr (.cells #[.slice (some ⟨gR, 0, none⟩) 256 256] 23)).cell hbo); have fOW : W.frozen? ⟨bO, 0, none⟩ = false := (World.frozen?_of_block (a := ⟨bO, 0, none⟩) hkO).trans ((Below.frozen (Ext.box wr (.cells #[.slice (some ⟨gR, 0, none⟩) 256 256] 23)) (p := ⟨bO, 0, none⟩) hbl).trans hbf))
          obtain ⟨y1, y2, y3, y4, y5⟩ := HQ.out
          have hgT : ∀ g, (Value.slice (some ⟨gR, 0, none⟩) 256 256).ownBlock = some g → own' g = 8 := fun g hg' => by
            have hg2 : gR = g := by simpa [Value.ownBlock] using hg'
            subst hg2; exact y2
          have hrv' : wr.ownsRow w.heap.size 3 1 (.slice (some ⟨gR, 0, none⟩) 256 256) Qe.length (natV Qe) := by rw [y5]; exact y3
          obtain ⟨own18, hL18⟩ := y1.addRow hpos hrv' hgT (O := .cells #[.slice (some ⟨gR, 0, none⟩) 256 256] 23) (gg := gg) (cap := cap) (w4 := W) (by rw [y4]; exact hown') (by rw [y4]; exact hg) (by
            rw [y4]
            rcases hat with e | e
            · exact .inl e.symm
            · right; simpa [Value.ownBlock] using e)
          rw [y4] at hL18
          clear y1 y2 y3 y4 y5 hgT hrv' hown' hg hat hkO cOW fOW hbo hbf hbo1 hown hcell h1c hbase hmax hbl hnO hj hw0 hw1 hw2
          generalize World.setCell W _ _ = W2 at hL18 ⊢
          obtain ⟨a4', k4', hsv⟩ := own_shp hL18.fnd.row
          subst hsv
          have hs2 := HN2.out.1
          have hi2 := (List.getElem?_eq_some_iff.1 hs2).1
          obtain ⟨R2, hR2⟩ : ∃ R2, R2 = Qr.length := ⟨_, rfl⟩
          have cS := hL18.fnd.cS
          have hrow := hL18.fnd.row
          rw [← hR2] at cS hrow hi2 hR2N
          obtain ⟨gs2, ks2, hgs', _, hgsl⟩ := own_slc hrow (by omega)
          have ha4 : a4' = some ⟨gs2, 0, none⟩ := by simp only [Value.slice.injEq] at hgs'; exact hgs'.1
          subst ha4
          have cs := hrow.cellAt i (by omega)
          rw [natV_get (by rw [← hR2]; exact hi2), List.getD_eq_getElem?_getD, hs2] at cs
          replace cs : W2.cell? ⟨gs2, i, none⟩ = some (.int .i64 (s : Nat)) := cs
          have kb1 := hL18.kept w.heap.size (by omega) HZ.out.2.2.1
          have cb1 := (World.cell?_of_block (a := ⟨w.heap.size, 1, none⟩) kb1.1).trans HZ.out.2.2.2.2.2.1
          have hxr : Ext w W2 := hL18.bl.ext (Ext.refl w) fun g hg => hg
          obtain ⟨x, hxd⟩ : ∃ x, x = d.lb s := ⟨_, rfl⟩
          have cl0 := hxr.cell (HN.out.2.label s (by rw [← HN.out.1]; exact hsN))
          rw [← hxd] at cl0
          have cO1 := hL18.out.c1
          have fO1 := hL18.out.f1
          have hlen : (((LM.found A P i).1.take i).map A.lb).length = i := by rw [List.length_map, List.length_take]; have := HL.out.2.2.1; omega
          have hown := hL18.out.lab
          rw [hlen] at hown
          have hbl := hL18.out.bl
          have hnO : lv.ownBlock ≠ some bO := fun e => by
            have h1 := hL18.out.labT bO e
            have := hL18.out.oT
            omega
          have hnS : lv.ownBlock ≠ some bS := fun e => by have h1 := hL18.out.labT bS e; have := hL18.fnd.tS; omega
          have hngs : lv.ownBlock ≠ some gs2 := fun e => by have h1 := hL18.out.labT gs2 e; have := hL18.fnd.rT gs2 rfl; omega
          have hnb1 : lv.ownBlock ≠ some w.heap.size := fun e => by have h1 := hL18.out.labT w.heap.size e; have := kb1.2; omega
          have hbll := lt_of_cell cl0
          have hblw : bl < w.heap.size := lt_of_cell (HN.out.2.label s (by rw [← HN.out.1]; exact hsN))
          have hnbl : lv.ownBlock ≠ some bl := fun e => by have h1 := (hL18.out.lab.lt bl e).1; omega
          obtain ⟨i0, hi, hz0, hz1, hz2⟩ := info_parts int_info
          have hszW := hxr.size
          have hbase' : w.heap.size ≤ ((W2.alloc (.cells #[.int .i64 x] 3)).drew).heap.size := by simp; omega
          have hmax : i + 1 ≤ maxLen := by unfold maxLen; omega
          have hj5 : (i : Int) < R2 := by omega
          have hsS := lt_of_cell cS
          have hsb := lt_of_cell cb1
          have HQ2 := Lib.hid (And.intro hL18 (And.intro hR2 (And.intro hs2 (And.intro hxd hlen))))
          clear hL18 hR2 hs2 hxd hlen hrow hgs' kb1 hxr hblw
          go_upto_region 19 with fail
          apply key_elim (Good := fun g7 c7 W9 => ∃ own19, LeaS w W5 own5 W9 w.heap.size own19 bM bC bS gM gc cc (.slice (some ⟨gs2, 0, none⟩) R2 k4') N P Qr F' bO (.slice (some ⟨gg, 0, none⟩) (i + 1) cap) (.slice (some ⟨g7, 0, none⟩) (i + 1) c7) ((LM.found A P i).2 ++ [Qe]) (((LM.found A P i).1.take i).map A.lb ++ [x]) (hs ++ [.slice (some ⟨gR, 0, none⟩) 256 256]))
          case h =>
            intro key
            go_region_law ((refine step_append_lies _ (by rfl) _ _ _ (by rfl) w.heap.size 3 i0 _ 1 8 Tryd.underlying23 hi hz0 hz1 hz2 rfl (by omega) lv i (intsV (((LM.found A P i).1.take i).map A.lb)) (by rfl) ((hown.alloc (.cells #[.int .i64 x] 3)).drew) ⟨W2.heap.size, 0, none⟩ 1 1 [.int .i64 x] (by rfl) (by rfl) (World.news_of_block (cs := #[.int .i64 x]) (t := 3) (fr := (0, 0)) (heap_alloc_new W2 _)) (by simp [Value.oneCell']) (by omega) hmax (by omega) (by simp; omega) (W2.heap.size + 1) (by simp) ?_; intro gg cap w4 hown4 hgrow hat hlt4; have hk4 := hgrow.block bO (by simp; omega) (Ne.symm hnO); have cO4 : w4.cell? ⟨bO, 1, none⟩ = some lv := (World.cell?_of_block (a := ⟨bO, 1, none⟩) hk4).trans (((Ext.box W2 (.cells #[.int .i64 x] 3)).drew).cell cO1); have fO4 : w4.frozen? ⟨bO, 1, none⟩ = false := (World.frozen?_of_block (a := ⟨bO, 1, none⟩) hk4).trans ((Below.frozen ((Ext.box W2 (.cells #[.int .i64 x] 3)).drew) (p := ⟨bO, 1, none⟩) hbl).trans fO1)))
            all_goals
              have hL19 := HQ2.out.1.addLab hpos (x := x) (gg := gg) (cap := cap) (by rw [HQ2.out.2.2.2.2]; exact hown4) hgrow hat
              rw [HQ2.out.2.2.2.2] at hL19
              generalize World.setCell _ _ _ = W9 at hL19 ⊢
              exact key gg cap W9 (by rw [HQ2.out.2.1]; exact hL19)
          case h2 =>
            intro g7 c7 W9 hgood
            obtain ⟨own19, hL19⟩ := hgood
            have HZ9 := Lib.hid hL19
            clear hL19 cS cs cb1 cl0 cO1 fO1 hown hbl hnO hnS hngs hnb1 hbll hnbl hbase' hmax hj5 hsS hsb
            go_wp2
            go_roundw
            case rel =>
              have hnx := HN2.out.2.2
              have hlb : x = A.lb s := by rw [HQ2.out.2.2.2.1, HZ.out.1]; rfl
              have hlen := labs_next (A := A) HN2.out.2.1 (by rw [← HL.out.2.2.1]; exact hiR) HN2.out.1
              refine ⟨i + 1, own19, .slice (some ⟨gs2, 0, none⟩) R2 k4', F', .slice (some ⟨gg, 0, none⟩) (i + 1) cap, .slice (some ⟨g7, 0, none⟩) (i + 1) c7, hs ++ [.slice (some ⟨gR, 0, none⟩) 256 256], by omega, ?_, by go_num, ?_, fun h hh => ?_⟩
              · rw [hnx]; show i + 1 ≤ Qr.length; rw [← HQ2.out.2.1]; omega
              · rw [hnx]
                show LeaS _ _ _ _ _ _ _ _ _ _ _ _ _ _ _ Qr _ _ _ _ _ ((Qr.take (i + 1)).map A.lb) _
                rw [hlen, ← hlb]
                exact HZ9.out
              · rcases List.mem_append.1 hh with hh | hh
                · exact HFH.out h hh
                · simp only [List.mem_singleton] at hh; exact ⟨gR, hh⟩
            case measure => simp [intOf]; omega
    · obtain rfl : R = i := by omega
      have hstay := LM.found_stays A P (m := R) (by rw [← hR]; exact Nat.le_refl _) (N - R)
      rw [show R + (N - R) = N by omega] at hstay
      have hall : (LM.found A P R).1.take R = (LM.found A P R).1 := List.take_of_length_le (by rw [← hR]; exact Nat.le_refl _)
      rw [hall] at hL
      have kb2 := hL.kept (w.heap.size + 1) (by omega) HZ.out.2.2.2.1
      have d0 := (World.cell?_of_block (a := ⟨w.heap.size + 1, 0, none⟩) kb2.1).trans HZ.out.2.2.2.2.2.2.1
      have d1 := (World.cell?_of_block (a := ⟨w.heap.size + 1, 1, none⟩) kb2.1).trans HZ.out.2.2.2.2.2.2.2.1
      have g0 := (World.frozen?_of_block (a := ⟨w.heap.size + 1, 0, none⟩) kb2.1).trans HZ.out.2.2.2.2.2.2.2.2.1
      have g1 := (World.frozen?_of_block (a := ⟨w.heap.size + 1, 1, none⟩) kb2.1).trans HZ.out.2.2.2.2.2.2.2.2.2
      obtain ⟨an, kn, hnv⟩ := own_shp hL.out.top
      obtain ⟨al, kl, hlv⟩ := own_shp hL.out.lab
      subst hnv
      subst hlv
      have o0 := hL.out.c0
      have o1 := hL.out.c1
      obtain ⟨ln, hln⟩ : ∃ ln, ln = (LM.found A P R).2.length := ⟨_, rfl⟩
      obtain ⟨ll, hll⟩ : ∃ ll, ll = ((LM.found A P R).1.map A.lb).length := ⟨_, rfl⟩
      rw [← hln] at o0
      rw [← hll] at o1
      have HLN := Lib.hid (And.intro hln hll)
      have hb2 := lt_of_cell d0
      have hOb := hL.out.bl
      have hne : bO ≠ w.heap.size + 1 := by
        have h1 := hL.out.oT
        have h2 := kb2.2
        rintro rfl; omega
      have HE := Lib.hid (And.intro hL (And.intro hstay (And.intro hR kb2.2)))
      clear hL hstay hall kb2 hR hlt hmk hln hll
      go_wp2
      obtain ⟨e1, e2⟩ := HLN.out
      subst e1
      subst e2
      have hX : Ext w wr := HE.out.1.bl.ext (Ext.refl w) fun g hg => hg
      have z0 : ((wr.setCell ⟨w.heap.size + 1, 0, none⟩ (.slice an (LM.found A P R).2.length kn)).setCell ⟨w.heap.size + 1, 1, none⟩ (.slice al ((LM.found A P R).1.map A.lb).length kl)).cell? ⟨w.heap.size + 1, 0, none⟩ = some (.slice an (LM.found A P R).2.length kn) := by
        rw [World.cell?_setCell_other _ _ _ _ (by simp)]; exact World.cell?_setCell_same _ _ _ d0
      have z1 : ((wr.setCell ⟨w.heap.size + 1, 0, none⟩ (.slice an (LM.found A P R).2.length kn)).setCell ⟨w.heap.size + 1, 1, none⟩ (.slice al ((LM.found A P R).1.map A.lb).length kl)).cell? ⟨w.heap.size + 1, 1, none⟩ = some (.slice al ((LM.found A P R).1.map A.lb).length kl) :=
        World.cell?_setCell_same _ _ _ ((World.cell?_setCell_other _ _ _ _ (by simp)).trans d1)
      have hXf : Ext w ((wr.setCell ⟨w.heap.size + 1, 0, none⟩ (.slice an (LM.found A P R).2.length kn)).setCell ⟨w.heap.size + 1, 1, none⟩ (.slice al ((LM.found A P R).1.map A.lb).length kl)) := (hX.setCell (by simp) _).setCell (by simp) _
      have hOf := HE.out.1.out.keepT (w' := (wr.setCell ⟨w.heap.size + 1, 0, none⟩ (.slice an (LM.found A P R).2.length kn)).setCell ⟨w.heap.size + 1, 1, none⟩ (.slice al ((LM.found A P R).1.map A.lb).length kl)) (own' := own) (fun g _ h5 _ => ⟨(Below.heap_setCell _ _ _ _ (by simp only [ne_eq]; rintro rfl; have := HE.out.2.2.2; omega)).trans (Below.heap_setCell _ _ _ _ (by simp only [ne_eq]; rintro rfl; have := HE.out.2.2.2; omega)), rfl⟩)
      generalize World.setCell (World.setCell wr _ _) _ _ = Wf at z0 z1 hXf hOf ⊢
      (try simp only [Exit.inBlock, Exit.then])
      refine bodyPost_ret (v := .tuple #[.agg #[.slice an (LM.found A P R).2.length kn, .slice al ((LM.found A P R).1.map A.lb).length kl], .nilIface]) ?_ rfl ?_
      · rw [results_cell_tmp rfl]
        go_simp
      have hin : DenseIn (fun g => w.heap.size ≤ g) Wf (.agg #[.slice an (LM.found A P R).2.length kn, .slice al ((LM.found A P R).1.map A.lb).length kl]) (dnOf (LM.least d.aut P)) := by
        have hlst : LM.least d.aut P = ((LM.found A P R).2, (LM.found A P R).1.map A.lb) := by
          unfold LM.least
          rw [← HZ.out.1, HB.out.1, HE.out.2.1]
        rw [hlst]
        have hrl := LM.found_rows A P R (by rw [← HE.out.2.2.1]; exact Nat.le_refl _)
        refine hOf.denseIn (by rw [hrl]; omega) (by rw [List.length_map, ← HE.out.2.2.1]; omega) (fun l hl => ?_)
        obtain ⟨j, hj⟩ := List.getElem?_of_mem hl
        have hjR : j < R := by have := (List.getElem?_eq_some_iff.1 hj).1; omega
        obtain ⟨sj, hsj⟩ : ∃ sj, (LM.found A P R).1[j]? = some sj := ⟨_, List.getElem?_eq_getElem (by rw [← HE.out.2.2.1]; exact hjR)⟩
        obtain ⟨row, h1, h2, _⟩ := LM.found_entry (A := A) (P := P) R j sj hjR hsj (by rw [← HE.out.2.2.1]; exact Nat.le_refl _)
        rw [hj] at h1
        simp only [Option.some.injEq] at h1
        subst h1
        rw [h2, LM.rowLen_eq]; omega
      have hrl := LM.found_rows A P R (by rw [← HE.out.2.2.1]; exact Nat.le_refl _)
      have hl256 : ∀ l ∈ (LM.found A P R).2, l.length = 256 := fun l hl => by
        obtain ⟨j, hj⟩ := List.getElem?_of_mem hl
        have hjR : j < R := by have := (List.getElem?_eq_some_iff.1 hj).1; omega
        obtain ⟨sj, hsj⟩ : ∃ sj, (LM.found A P R).1[j]? = some sj := ⟨_, List.getElem?_eq_getElem (by rw [← HE.out.2.2.1]; exact hjR)⟩
        obtain ⟨row, h1, h2, _⟩ := LM.found_entry (A := A) (P := P) R j sj hjR hsj (by rw [← HE.out.2.2.1]; exact Nat.le_refl _)
        rw [hj] at h1
        simp only [Option.some.injEq] at h1
        subst h1
        rw [h2, LM.rowLen_eq]
      have hfr := hOf.full HFH.out rfl hl256
      have hll : ((LM.found A P R).1.map A.lb).length = R := by rw [List.length_map]; exact HE.out.2.2.1.symm
      have hlb := hOf.lab
      rw [hll] at hlb hin
      rw [hrl] at hin hfr
      have hl2 : (LM.least d.aut P).2 = (LM.found A P R).1.map A.lb := by
        unfold LM.least
        rw [← HZ.out.1, HB.out.1, HE.out.2.1]
      rw [hll, hrl]
      exact ⟨an, kn, al, kl, R, P, rfl, by rw [← HZ.out.1]; exact HZ.out.2.1, hin, hXf, by omega, hfr, by rw [hl2]; exact hlb⟩

theorem least_c {v : Value} {d : Dn} {w : World} (h : DenseV w v d) (hm : May d) : Calls Tryd.prog 47 #[v] w (LeastR d w) :=
  (leastO_c h hm).mono fun _ _ ⟨_, _, _, _, _, P, he, hT, hin, hx, _⟩ => ⟨_, P, he, hT, hin.dense, hx, hin⟩
end Go.Proofs.YtpeipjfmibjoiaaDoor
