/- Least's closure found: the number of a state's class, a new one put behind. -/
import Derived.Test.YtpeipjfmibjoiaaDoorLeastMath
import Derived.Test.YtpeipjfmibjoiaaDoorRefOps
import Derived.Test.YtpeipjfmibjoiaaDoorIntMap
import Derived.Deep.DeepCutAuto
namespace Go.Proofs.YtpeipjfmibjoiaaDoor.LM

/-- F tells of each state below n the place of its class in reps -/
structure FReps (n : Nat) (P : Nat → Nat) (reps : List Nat) (F : Int → Option Nat) : Prop where
  look : ∀ s, s < n → F (P s : Int) = if idx P reps s < reps.length then some (idx P reps s) else none

theorem FReps.nil (n : Nat) (P : Nat → Nat) : FReps n P [] (fun _ => none) := ⟨fun s _ => by simp⟩
theorem FReps.old {n : Nat} {P : Nat → Nat} {reps : List Nat} {F : Int → Option Nat} {s y : Nat} (h : FReps n P reps F) (hs : s < n) (hF : F (P s : Int) = some y) : y = idx P reps s ∧ addRep P reps s = reps := by
  have h1 := h.look s hs
  rw [hF] at h1
  split at h1
  · rename_i h2
    refine ⟨by simpa using h1, if_pos h2⟩
  · cases h1
theorem FReps.new {n : Nat} {P : Nat → Nat} {reps : List Nat} {F : Int → Option Nat} {s : Nat} (h : FReps n P reps F) (hs : s < n) (hF : F (P s : Int) = none) :
    idx P reps s = reps.length ∧ addRep P reps s = reps ++ [s] ∧ FReps n P (reps ++ [s]) (fun x => if x = (P s : Int) then some reps.length else F x) := by
  have h1 := h.look s hs
  rw [hF] at h1
  have h2 : ¬ idx P reps s < reps.length := by
    intro h3; rw [if_pos h3] at h1; cases h1
  have h3 := idx_le P reps s
  have hne := idx_none h2
  refine ⟨by omega, if_neg h2, ⟨fun t ht => ?_⟩⟩
  have hadd : ∀ t, idx P (reps ++ [s]) t = if idx P reps t < reps.length then idx P reps t else if P s = P t then reps.length else reps.length + 1 := by
    intro t
    unfold idx
    rw [List.findIdx_append]
    split
    · rfl
    · rw [List.findIdx_cons]
      by_cases e : P s = P t
      · simp [e]
      · have e' : (P s == P t) = false := by simpa using e
        rw [e', if_neg e]
        simp [List.findIdx_nil, Nat.add_comm]
  rw [hadd t]
  by_cases e : P s = P t
  · have h5 : idx P reps t = idx P reps s := by unfold idx; rw [e]
    rw [h5, if_neg h2, if_pos e, if_pos (by omega), if_pos (by simp)]
  · rw [if_neg (show ¬ ((P t : Int) = (P s : Int)) by omega), h.look t ht]
    by_cases h6 : idx P reps t < reps.length
    · rw [if_pos h6, if_pos h6, if_pos (by simp; omega)]
    · rw [if_neg h6, if_neg h6, if_neg e, if_neg (by simp)]
end Go.Proofs.YtpeipjfmibjoiaaDoor.LM

namespace Go.Proofs.YtpeipjfmibjoiaaDoor
open Go.RowKit

theorem own_shp {w : World} {B : Nat} {e : TypeId} {size n : Nat} {v : Value} {xs : List Value} (h : w.ownsRow B e size v n xs) : ∃ a cap, v = .slice a n cap := by
  rcases h.2 with ⟨h1, h2⟩ | ⟨g, cap, _, hv, _⟩
  · exact ⟨none, 0, by rw [h1, h2]⟩
  · exact ⟨_, cap, hv⟩

/-- the closure's memory: boxes bM (the map gM, tag 4), bC (the classes), bS (the states found, tag 3; its box tag 2) -/
structure FndS (w : World) (B : Nat) (own : Nat → Nat) (bM bC bS gM gc cc : Nat) (sv : Value) (N : Nat) (P : Nat → Nat) (reps : List Nat) (F : Int → Option Nat) : Prop where
  cM : w.cell? ⟨bM, 0, none⟩ = some (.map (some gM))
  tM : own bM = 1
  cC : w.cell? ⟨bC, 0, none⟩ = some (.slice (some ⟨gc, 0, none⟩) N cc)
  tC : own bC = 1
  cls : ∀ s, s < N → w.cell? ⟨gc, s, none⟩ = some (.int .i64 (P s : Nat))
  tc : own gc = 1
  cS : w.cell? ⟨bS, 0, none⟩ = some sv
  fS : w.frozen? ⟨bS, 0, none⟩ = false
  tS : own bS = 2
  bB : B ≤ bS
  row : w.ownsRow B 3 1 sv reps.length (natV reps)
  rT : ∀ g, sv.ownBlock = some g → own g = 3
  map : IntM w gM reps.length F
  mT : own gM = 4
  mB : B ≤ gM
  fr : LM.FReps N P reps F
  bd : ∀ s, s < N → P s < 1000

section
variable {w w' w2 w4 : World} {B : Nat} {own own' : Nat → Nat} {bM bC bS gM gc cc : Nat} {sv : Value} {N : Nat} {P : Nat → Nat} {reps : List Nat} {F : Int → Option Nat}

theorem FndS.keepT (h : FndS w B own bM bC bS gM gc cc sv N P reps F) (hN : 0 < N) (hk : ∀ g, g < w.heap.size → 1 ≤ own g → own g ≤ 4 → w'.heap[g]? = w.heap[g]? ∧ own' g = own g) : FndS w' B own' bM bC bS gM gc cc sv N P reps F := by
  have kM := hk bM (World.block_lt_of_cell? _ _ h.cM) (by rw [h.tM]; omega) (by rw [h.tM]; omega)
  have kC := hk bC (World.block_lt_of_cell? _ _ h.cC) (by rw [h.tC]; omega) (by rw [h.tC]; omega)
  have kc := hk gc (World.block_lt_of_cell? _ _ (h.cls 0 hN)) (by rw [h.tc]; omega) (by rw [h.tc]; omega)
  have kS := hk bS (World.block_lt_of_cell? _ _ h.cS) (by rw [h.tS]; omega) (by rw [h.tS]; omega)
  have km := hk gM h.map.lt (by rw [h.mT]; omega) (by rw [h.mT]; omega)
  exact ⟨(World.cell?_of_block (a := ⟨bM, 0, none⟩) kM.1).trans h.cM, kM.2.trans h.tM, (World.cell?_of_block (a := ⟨bC, 0, none⟩) kC.1).trans h.cC, kC.2.trans h.tC, fun s hs => (World.cell?_of_block (a := ⟨gc, s, none⟩) kc.1).trans (h.cls s hs), kc.2.trans h.tc,
    (World.cell?_of_block (a := ⟨bS, 0, none⟩) kS.1).trans h.cS, (World.frozen?_of_block (a := ⟨bS, 0, none⟩) kS.1).trans h.fS, kS.2.trans h.tS, h.bB,
    own_block h.row fun g hg hl => (hk g hl (by rw [h.rT g hg]; omega) (by rw [h.rT g hg]; omega)).1, fun g hg => (hk g (h.row.lt g hg).2 (by rw [h.rT g hg]; omega) (by rw [h.rT g hg]; omega)).2.trans (h.rT g hg),
    h.map.block km.1, km.2.trans h.mT, h.mB, h.fr, h.bd⟩

theorem FndS.ext (h : FndS w B own bM bC bS gM gc cc sv N P reps F) (hN : 0 < N) (hx : Ext w w') : FndS w' B own bM bC bS gM gc cc sv N P reps F := h.keepT hN fun g hg _ _ => ⟨hx.block g hg, rfl⟩

/-- a new state: the map has its number, the row has it -/
theorem FndS.add (h : FndS w B own bM bC bS gM gc cc sv N P reps F) (hN : 0 < N) {s : Nat} (hs : s < N) (hF : F (P s : Int) = none) {W6 : World} (hm : IntM W6 gM (reps.length + 1) (fun x => if x = (P s : Int) then some reps.length else F x)) (ht : w.mapTurned W6 gM) {O : Obj} {gg cap : Nat}
    (hown : w4.ownsRow B 3 1 (.slice (some ⟨gg, 0, none⟩) (reps.length + 1) cap) (reps.length + 1) (natV reps ++ [.int .i64 (s : Int)])) (hg : (W6.alloc O).grownBy w4 sv.ownBlock) (hat : sv.ownBlock = some gg ∨ gg = (W6.alloc O).heap.size) :
    ∃ own', FndS (w4.setCell ⟨bS, 0, none⟩ (.slice (some ⟨gg, 0, none⟩) (reps.length + 1) cap)) B own' bM bC bS gM gc cc (.slice (some ⟨gg, 0, none⟩) (reps.length + 1) cap) N P (reps ++ [s]) (fun x => if x = (P s : Int) then some reps.length else F x) ∧
      (∀ g, g < w.heap.size → own' g = own g) ∧ (∀ g, g < w.heap.size → own g ≠ 2 → own g ≠ 3 → own g ≠ 4 → (w4.setCell ⟨bS, 0, none⟩ (.slice (some ⟨gg, 0, none⟩) (reps.length + 1) cap)).heap[g]? = w.heap[g]?) ∧
      Bl (fun g => B ≤ g) w (w4.setCell ⟨bS, 0, none⟩ (.slice (some ⟨gg, 0, none⟩) (reps.length + 1) cap)) := by
  have hs6 := ht.grown.size
  have hSl : bS < w.heap.size := World.block_lt_of_cell? _ _ h.cS
  have hMl := h.map.lt
  have k6 : ∀ g, g < w.heap.size → own g ≠ 4 → W6.heap[g]? = w.heap[g]? := fun g hl ho => ht.grown.block g hl (by simp only [ne_eq, Option.some.injEq]; rintro rfl; exact ho h.mT)
  have k4 : ∀ g, g < W6.heap.size → sv.ownBlock ≠ some g → w4.heap[g]? = W6.heap[g]? := fun g hl ho => by
    rw [hg.block g (by simp; omega) (fun e => ho e.symm)]
    exact (Ext.box W6 O).block g hl
  have k4' : ∀ g, g < w.heap.size → own g ≠ 4 → own g ≠ 3 → w4.heap[g]? = w.heap[g]? := fun g hl h1 h2 => (k4 g (by omega) (fun e => h2 (h.rT g e))).trans (k6 g hl h1)
  have kf : ∀ g, g < w.heap.size → own g ≠ 2 → own g ≠ 3 → own g ≠ 4 → (w4.setCell ⟨bS, 0, none⟩ (.slice (some ⟨gg, 0, none⟩) (reps.length + 1) cap)).heap[g]? = w.heap[g]? := fun g hl h1 h2 h3 =>
    (Below.heap_setCell _ _ _ _ (by simp only [ne_eq]; rintro rfl; exact h1 h.tS)).trans (k4' g hl h3 h2)
  have hggS : gg ≠ bS := by
    rintro rfl
    rcases hat with e | e
    · have := h.rT gg e; have := h.tS; omega
    · simp at e; omega
  have hgMS : gM ≠ bS := by
    have := h.mT
    have := h.tS
    rintro rfl; omega
  have km : (w4.setCell ⟨bS, 0, none⟩ (.slice (some ⟨gg, 0, none⟩) (reps.length + 1) cap)).heap[gM]? = W6.heap[gM]? :=
    (Below.heap_setCell _ _ _ _ (by simp only [ne_eq]; exact hgMS)).trans (k4 gM (by omega) (fun e => by have := h.rT gM e; have := h.mT; omega))
  have kS := k4' bS hSl (by rw [h.tS]; omega) (by rw [h.tS]; omega)
  have kM := kf bM (World.block_lt_of_cell? _ _ h.cM) (by rw [h.tM]; omega) (by rw [h.tM]; omega) (by rw [h.tM]; omega)
  have kC := kf bC (World.block_lt_of_cell? _ _ h.cC) (by rw [h.tC]; omega) (by rw [h.tC]; omega) (by rw [h.tC]; omega)
  have kc := kf gc (World.block_lt_of_cell? _ _ (h.cls 0 hN)) (by rw [h.tc]; omega) (by rw [h.tc]; omega) (by rw [h.tc]; omega)
  obtain ⟨_, _, hfr⟩ := h.fr.new hs hF
  let own' := fun g => if g < w.heap.size then own g else 3
  have ho : ∀ g, g < w.heap.size → own' g = own g := fun g hl => if_pos hl
  refine ⟨own', ⟨(World.cell?_of_block (a := ⟨bM, 0, none⟩) kM).trans h.cM, (ho _ (World.block_lt_of_cell? _ _ h.cM)).trans h.tM, (World.cell?_of_block (a := ⟨bC, 0, none⟩) kC).trans h.cC, (ho _ (World.block_lt_of_cell? _ _ h.cC)).trans h.tC,
    fun t ht' => (World.cell?_of_block (a := ⟨gc, t, none⟩) kc).trans (h.cls t ht'), (ho _ (World.block_lt_of_cell? _ _ (h.cls 0 hN))).trans h.tc, World.cell?_setCell_same _ _ _ ((World.cell?_of_block (a := ⟨bS, 0, none⟩) kS).trans h.cS),
    ?_, (ho _ hSl).trans h.tS, h.bB, ?_, ?_, by rw [List.length_append]; exact hm.block km, (ho _ hMl).trans h.mT, h.mB, hfr, h.bd⟩, ho, kf, ?_⟩
  · rw [World.frozen?_setCell]
    exact (World.frozen?_of_block (a := ⟨bS, 0, none⟩) kS).trans h.fS
  · rw [natV_snoc, List.length_append]
    exact own_block hown fun g hg' _ => Below.heap_setCell _ _ _ _ (by
      have hg2 : gg = g := by simpa [Value.ownBlock] using hg'
      subst hg2; exact hggS)
  · intro g hg'
    have hg2 : gg = g := by simpa [Value.ownBlock] using hg'
    subst hg2
    show (if gg < w.heap.size then own gg else 3) = 3
    by_cases e : gg < w.heap.size
    · rw [if_pos e]
      rcases hat with h1 | h1
      · exact h.rT gg h1
      · simp at h1; omega
    · rw [if_neg e]
  · have h1 : Bl (fun g => B ≤ g) w W6 := (Bl.refl _ w).grown ht.grown (fun g e => .inl (by simp only [Option.some.injEq] at e; subst e; exact h.mB))
    exact ((h1.trans (.of_ext (Ext.box W6 O))).grown hg (fun g e => .inl (h.row.lt g e).1)).setCell (.inl h.bB) _
end

def FoundR (w : World) (B : Nat) (own : Nat → Nat) (bM bC bS gM gc cc N : Nat) (P : Nat → Nat) (reps : List Nat) (s : Nat) (e : Ending) (w' : World) : Prop :=
  e = .returned (.int .i64 (LM.idx P reps s : Nat)) ∧ ∃ own' sv' F', FndS w' B own' bM bC bS gM gc cc sv' N P (LM.addRep P reps s) F' ∧ (∀ g, g < w.heap.size → own' g = own g) ∧ (∀ g, g < w.heap.size → own g ≠ 2 → own g ≠ 3 → own g ≠ 4 → w'.heap[g]? = w.heap[g]?) ∧ Bl (fun g => B ≤ g) w w'

set_option maxRecDepth 100000 in
set_option maxHeartbeats 2000000 in
theorem found_c {w : World} {B : Nat} {own : Nat → Nat} {bM bC bS gM gc cc : Nat} {sv : Value} {N : Nat} {P : Nat → Nat} {reps : List Nat} {F : Int → Option Nat} (h : FndS w B own bM bC bS gM gc cc sv N P reps F) (hN : 0 < N) {s : Nat} (hs : s < N) (_hN6 : N ≤ 600) (hr : reps.length ≤ 600) :
    Calls Tryd.prog 99 #[.int .i64 (s : Int), .pointer (some ⟨bM, 0, none⟩), .pointer (some ⟨bC, 0, none⟩), .pointer (some ⟨bS, 0, none⟩)] w (FoundR w B own bM bC bS gM gc cc N P reps s) := by
  have cM := h.cM
  have cC := h.cC
  have cS := h.cS
  have fS := h.fS
  obtain ⟨b, hb⟩ : ∃ b, b = P s := ⟨_, rfl⟩
  have cs := h.cls s hs
  have hb6 := h.bd s hs
  rw [← hb] at cs hb6
  have HB := Lib.hid (And.intro h (And.intro hb (And.intro hN hs)))
  have hj1 : (s : Int) < N := by omega
  obtain ⟨a4, k4, hv4⟩ := own_shp h.row
  subst hv4
  obtain ⟨K, hK⟩ : ∃ K, K = reps.length := ⟨_, rfl⟩
  rw [← hK] at cS hr HB
  have HK := Lib.hid hK
  cases hF : F (b : Int) with
  | some y =>
    have l0 : ∀ n, (Instr.lookup 150 (.map (some gM)) (.int .i64 (b : Int)) true).run Tryd.prog (w.drewN n) = .ok (.tuple #[.int .i64 (y : Int), .bool true]) (w.drewN n) := fun n => by
      have h1 := (h.map.block (((Ext.refl w).drewN n).block gM h.map.lt)).look (x := (b : Int)) (by omega) (by omega)
      rw [hF] at h1; exact h1
    have HF := Lib.hid hF
    clear h hb hK hF hN hs
    go_enter Tryd.func99, Tryd.ntmps99
    go_upto_region 1 with fail
    go_quiet (fail)
    go_wp2
    go_ret
    obtain ⟨h1, h2, h3, h4⟩ := HB.out
    obtain ⟨e1, e2⟩ := h1.fr.old h4 (y := y) (by rw [← h2]; exact HF.out)
    refine ⟨by rw [← e1]; rfl, own, _, F, by rw [e2, HK.out] at *; exact h1.ext h3 ((Ext.refl w).drewN _), fun _ _ => rfl, fun _ _ _ _ _ => rfl, .of_ext ((Ext.refl w).drewN _)⟩
  | none =>
    have l0 : ∀ n, (Instr.lookup 150 (.map (some gM)) (.int .i64 (b : Int)) true).run Tryd.prog (w.drewN n) = .ok (.tuple #[.int .i64 0, .bool false]) (w.drewN n) := fun n => by
      have h1 := (h.map.block (((Ext.refl w).drewN n).block gM h.map.lt)).look (x := (b : Int)) (by omega) (by omega)
      rw [hF] at h1; exact h1
    have HF := Lib.hid hF
    clear h hb hK hF hN hs
    go_enter Tryd.func99, Tryd.ntmps99
    go_upto_region 1 with fail
    go_quiet (fail)
    go_upto_region 4 with fail
    clear l0
    have hxn0 : Ext w (w.drewN nq) := (Ext.refl w).drewN nq
    generalize w.drewN nq = Wn at hxn0 ⊢
    have cMn := hxn0.cell cM
    have cCn := hxn0.cell cC
    have csn := hxn0.cell cs
    have hxn : Ext w Wn.drew := hxn0.drew
    have hW := HB.out.1.ext HB.out.2.2.1 hxn
    have hmap := hW.map
    rw [← HK.out] at hmap
    obtain ⟨W6, hrun, hs6, ht6⟩ := hmap.store (by unfold maxLen; omega) (x := (b : Int)) (by omega) (by omega) HF.out (y := K) (by omega)
    have hk6 : ∀ g, g < w.heap.size → own g ≠ 4 → W6.heap[g]? = w.heap[g]? := fun g hl ho => ((ht6.grown.block g (Nat.lt_of_lt_of_le hl hxn.size) (by simp only [ne_eq, Option.some.injEq]; rintro rfl; exact ho HB.out.1.mT)).trans (hxn.block g hl))
    have hSl := lt_of_cell cS
    have kS := hk6 bS hSl (by rw [HB.out.1.tS]; omega)
    have cS6 := (World.cell?_of_block (a := ⟨bS, 0, none⟩) kS).trans cS
    have fS6 := (World.frozen?_of_block (a := ⟨bS, 0, none⟩) kS).trans fS
    have hrow6 : W6.ownsRow B 3 1 (.slice a4 K k4) K (natV reps) := by
      have h1 := HB.out.1.row
      rw [← HK.out] at h1
      exact own_block h1 fun g hg hl => hk6 g hl (by rw [HB.out.1.rT g hg]; omega)
    have hown := hrow6.alloc (.cells #[.int .i64 (s : Int)] 3)
    have hcell := cell_one_new W6 (.int .i64 (s : Int)) 3
    have h1c : ∀ u ∈ [Value.int .i64 (s : Int)], u.oneCell' = true := by intro u hu; simp at hu; subst hu; rfl
    obtain ⟨i0, hi, hz0, hz1, hz2⟩ := info_parts int_info
    have hbase : B ≤ (W6.alloc (.cells #[.int .i64 (s : Int)] 3)).heap.size := by
      have h1 := HB.out.1.bB
      have h2 : w.heap.size ≤ W6.heap.size := Nat.le_trans hxn.size ht6.grown.size
      have hSl : bS < w.heap.size := hSl
      simp; omega
    have hmax : K + 1 ≤ maxLen := by unfold maxLen; omega
    have hnS : (Value.slice a4 K k4).ownBlock ≠ some bS := fun e => by have := HB.out.1.rT bS e; have := HB.out.1.tS; omega
    have hSl6 : bS < W6.heap.size := lt_of_cell cS6
    have HQ := Lib.hid (And.intro hW (And.intro hs6 (And.intro ht6 hxn)))
    clear hW hmap hs6 ht6 hxn hk6 kS hrow6
    go_wp2_with fail
    go_still_tail 6, (by kernel_rfl)
    change wpList _ _ _ _ _ Wn.drew
    go_wp2_with (at_builtin; refine wpList_append_own_at _ rfl _ _ 23 rfl B 3 i0 (.int .i64 0) 1 8 Tryd.underlying23 hi hz0 hz1 hz2 rfl (by decide) _ _ _ rfl hown ⟨W6.heap.size, 0, none⟩ 1 1 [.int .i64 (s : Int)] rfl rfl hcell h1c hmax (by omega) hbase ?_; intro v' W hown' hg _ hat; obtain ⟨gg, cap, hv', hgg1, hgg2⟩ := own_slc hown' (by omega); subst hv'; have hkS := hg.block bS (by simp; omega) (Ne.symm hnS); have cSW : W.cell? ⟨bS, 0, none⟩ = some (.slice a4 K k4) := (World.cell?_of_block (a := ⟨bS, 0, none⟩) hkS).trans ((Ext.box W6 (.cells #[.int .i64 (s : Int)] 3)).cell cS6); have fSW : W.frozen? ⟨bS, 0, none⟩ = false := (World.frozen?_of_block (a := ⟨bS, 0, none⟩) hkS).trans ((Below.frozen (Ext.box W6 (.cells #[.int .i64 (s : Int)] 3)) (p := ⟨bS, 0, none⟩) hSl6).trans fS6))
    go_ret
    obtain ⟨h1, h2, h3, h4⟩ := HB.out
    have hFn : F (P s : Int) = none := by rw [← h2]; exact HF.out
    obtain ⟨e1, e2, _⟩ := h1.fr.new h4 hFn
    obtain ⟨q1, q2, q3, q4⟩ := HQ.out
    rw [HK.out] at q1 q2 hown' hg hat ⊢
    rw [h2] at q2
    obtain ⟨own', r1, r2, r3, r4⟩ := q1.add h3 h4 hFn q2 q3 hown' hg (by
      rcases hat with e | e
      · exact .inl e.symm
      · right; simpa [Value.ownBlock] using e)
    exact ⟨by rw [e1]; rfl, own', _, _, by rw [e2]; exact r1, fun g hg => r2 g (Nat.lt_of_lt_of_le hg q4.size), fun g hg z1 z2 z3 => (r3 g (Nat.lt_of_lt_of_le hg q4.size) z1 z2 z3).trans (q4.block g hg), (Bl.of_ext q4).trans r4⟩
end Go.Proofs.YtpeipjfmibjoiaaDoor
