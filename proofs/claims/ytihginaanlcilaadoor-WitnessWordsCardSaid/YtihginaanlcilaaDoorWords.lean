/- witness.Words: what it tells: a function over a copy. -/
import Derived.Test.YtihginaanlcilaaDoorCopied
import Derived.Test.YtihginaanlcilaaDoorLabsM
import Derived.Test.YtihginaanlcilaaDoorNever1
import Derived.RangeFuncCalls
import Derived.Shelf.RegionOpen
namespace Go.Proofs.YtihginaanlcilaaDoor
open Go.RowKit

attribute [local go_sem] Oper.semAt_some

/-- what Words tells: a function over a box that holds a copy -/
def WordsR (d : Dn) (w : World) (e : Ending) (w' : World) : Prop :=
  ∃ (b : Nat) (an : Option Addr) (n cn : Nat) (al : Option Addr) (m cl : Nat), e = .returned (.func (.func 30) #[] #[.pointer (some ⟨b, 0, none⟩)]) ∧ w.heap.size ≤ b ∧
    w'.cell? ⟨b, 0, none⟩ = some (.slice an n cn) ∧ w'.cell? ⟨b, 1, none⟩ = some (.slice al m cl) ∧ DenseV w' (.agg #[.slice an n cn, .slice al m cl]) d ∧ Ext w w'

theorem OwnDense.read {w : World} {B : Nat} {own : Nat → Nat} {vn vl : Value} {hs : List Value} {d : Dn} (h : OwnDense w B own vn vl hs d.next d.label) (hr : Reach d) : DenseV w (.agg #[vn, vl]) d :=
  ⟨_, _, rfl, h.tab.read (by have := hr.next; omega) (fun l hl => by have := hr.rows l hl; omega), own_ints h.label (by have := hr.label; omega)⟩

set_option maxRecDepth 100000 in
set_option maxHeartbeats 1000000 in
theorem words_c {v : Value} {d : Dn} {w : World} (h : DenseV w v d) (hr : Reach d) : Calls Tryd.prog 9 #[v] w (WordsR d w) := by
  have hmf : ∀ (fn : Fn) (first cap : Array Value) (w : World), (Instr.makeFunc fn first cap).run Tryd.prog w = .ok (.func fn first cap) w := fun _ _ _ _ => rfl
  have hcp := fun W (hx : Ext w W) => copied_c (w := W) (h.ext hx) hr
  obtain ⟨vn, vl, rfl, hn, hl⟩ := h
  obtain ⟨h1, an, cn, rfl, _, _⟩ := hn.open
  obtain ⟨_, al, cl, rfl, _, _⟩ := hl.open
  obtain ⟨N, hN⟩ : ∃ N, N = d.next.length := ⟨_, rfl⟩
  obtain ⟨L, hL⟩ : ∃ L, L = d.label.length := ⟨_, rfl⟩
  rw [← hN, ← hL] at hcp ⊢
  have HC := Lib.hid (And.intro (hcp _ (Ext.box w (.cells #[.slice an N cn, .slice al L cl] 25))) hr)
  clear hcp hn hl hr hN hL
  go_enter Tryd.func9, Tryd.ntmps9
  go_wp2_with fail
  refine HC.out.1.mono ?_
  rintro e w5 ⟨vn', vl', own, hs, rfl, hD, hx⟩
  obtain ⟨a1, c1, hv1, _⟩ := own_read hD.tab.top
  obtain ⟨a2, c2, hv2, _⟩ := own_read hD.label
  subst hv1
  subst hv2
  obtain ⟨N', hN'⟩ : ∃ N, N = d.next.length := ⟨_, rfl⟩
  obtain ⟨L', hL'⟩ : ∃ L, L = d.label.length := ⟨_, rfl⟩
  have q0 : w5.cell? ⟨w.heap.size, 0, none⟩ = some (.slice an N cn) := hx.cell (new_cell rfl)
  have q1 : w5.cell? ⟨w.heap.size, 1, none⟩ = some (.slice al L cl) := hx.cell (new_cell rfl)
  have f0 : w5.frozen? ⟨w.heap.size, 0, none⟩ = false := (Below.frozen hx (p := ⟨w.heap.size, 0, none⟩) (by simp)).trans (new_frozen _ _ _ _)
  have f1 : w5.frozen? ⟨w.heap.size, 1, none⟩ = false := (Below.frozen hx (p := ⟨w.heap.size, 1, none⟩) (by simp)).trans (new_frozen _ _ _ _)
  rw [← hN', ← hL']
  rw [← hN', ← hL'] at hD
  have HD := Lib.hid (And.intro hD (And.intro hx (And.intro hN' hL')))
  clear hD hx hN' hL'
  go_wp2_with fail
  have hF : Frm (fun a _ => a = w.heap.size) w5 ((w5.setCell ⟨w.heap.size, 0, none⟩ (.slice a1 N' c1)).setCell ⟨w.heap.size, 1, none⟩ (.slice a2 L' c2)) :=
    ((Frm.refl (fun a _ => a = w.heap.size) w5).setCell (.inl rfl) _).setCell (.inl rfl) _
  have hD : DenseV ((w5.setCell ⟨w.heap.size, 0, none⟩ (.slice a1 N' c1)).setCell ⟨w.heap.size, 1, none⟩ (.slice a2 L' c2)) (.agg #[.slice a1 N' c1, .slice a2 L' c2]) d :=
    (HD.out.1.block (fun g hg hl => hF.block g hl (fun j e => by simp at hg; omega))).read HC.out.2
  have hE := hF.ext ((Ext.box w _).trans HD.out.2.1) (fun k j e => by omega)
  have i0 : ((w5.setCell ⟨w.heap.size, 0, none⟩ (.slice a1 N' c1)).setCell ⟨w.heap.size, 1, none⟩ (.slice a2 L' c2)).cell? ⟨w.heap.size, 0, none⟩ = some (.slice a1 N' c1) := by
    rw [World.cell?_setCell_other _ _ _ _ (by simp)]
    exact World.cell?_setCell_same _ _ _ q0
  have i1 : ((w5.setCell ⟨w.heap.size, 0, none⟩ (.slice a1 N' c1)).setCell ⟨w.heap.size, 1, none⟩ (.slice a2 L' c2)).cell? ⟨w.heap.size, 1, none⟩ = some (.slice a2 L' c2) := by
    refine World.cell?_setCell_same _ _ _ (?_ : _ = some (.slice al L cl))
    rw [World.cell?_setCell_other _ _ _ _ (by simp)]
    exact q1
  go_ret
  exact ⟨_, _, _, _, _, _, _, rfl, Nat.le_refl _, i0, i1, hD, hE⟩

/-- of each label that is told: those ahead of it; its word, in memory of its own -/
def WordFx (d : Dn) (L : List Nat) (B : Nat) (pre : List LabX) (x : LabX) (W : World) : Prop :=
  (∃ t, L = pre.map (fun y : LabX => y.1.1) ++ x.1.1 :: t) ∧ ∃ u, FirstW d (x.1.1 : Int) u ∧ W.ownsRow B 5 1 x.1.2 u.length (bytesV u)
/-- what a round must leave as it was: all from the base on, but the word that was told -/
def KeptW (B : Nat) (x : LabX) (W W' : World) : Prop := W.heap.size ≤ W'.heap.size ∧ ∀ k, B ≤ k → k < W.heap.size → x.1.2.ownBlock ≠ some k → W'.heap[k]? = W.heap[k]?

theorem presL_pre {d : Dn} {k n : Nat} (hk : k < n) (hr : Reached d (k : Int)) : ∃ t, presL d n = presL d k ++ k :: t := by
  obtain ⟨m, rfl⟩ : ∃ m, n = k + 1 + m := ⟨n - (k + 1), by omega⟩
  induction m with
  | zero => exact ⟨[], by rw [Nat.add_zero, presL_yes hr]⟩
  | succ m ih =>
    obtain ⟨t, ht⟩ := ih (by omega)
    by_cases h : Reached d ((k + 1 + m : Nat) : Int)
    · exact ⟨t ++ [k + 1 + m], by rw [show k + 1 + (m + 1) = k + 1 + m + 1 from rfl, presL_yes h, ht]; simp⟩
    · exact ⟨t, by rw [show k + 1 + (m + 1) = k + 1 + m + 1 from rfl, presL_no h, ht]⟩

theorem May.autoN {d : Dn} (h : May d) : AutoN d := ⟨h.pos, by have := h.most; omega, fun s c hs hc => h.ok.2 s c hs hc, fun s hs => h.label s hs⟩

theorem ownsRow_grown {W W' : World} {B size n : Nat} {e : TypeId} {v : Value} {xs : List Value} {row : Option Nat} (h : W.ownsRow B e size v n xs) (hg : W.grownBy W' row) (hr : ∀ r, row = some r → ∃ o : Obj, W.heap[r]? = some o ∧ o.isCells = false) : W'.ownsRow B e size v n xs := by
  refine own_block h fun g hgv hl => hg.block g hl fun e => ?_
  obtain ⟨o, ho, hc⟩ := hr g e.symm
  rcases h.2 with ⟨rfl, _⟩ | ⟨g', cap, cur, rfl, _, hb, _⟩
  · cases hgv
  · obtain rfl : g' = g := by simpa [Value.ownBlock] using hgv
    rw [hb] at ho
    cases ho
    cases hc

theorem roundIn_any {n n' l l2 : Nat} {P : Program} {f : FuncId} {tmps : Array Value} {ac bd : Code} {w : World} {R : Ending → World → Prop} (h : RoundIn Fence.wide n P l f tmps ac bd w R) : RoundIn (Fence.wide.inRound l2) n' P l f tmps ac bd w R :=
  ⟨trivial, fun c cs _ => h.2 c cs (room_wide _)⟩

theorem cloneB_w {va : Value} {u : List Nat} {B : Nat} {w : World} (ha : w.ownsRow B 5 1 va u.length (bytesV u)) (hbig : u.length ≤ 1000000) :
    Calls Tryd.prog 33 #[va] w fun e w' => ∃ v, e = .returned v ∧ w'.ownsRow w.heap.size 5 1 v u.length (bytesV u) ∧ Ext w w' := by
  have e : bytesV u = (u.map fun (b : Nat) => (b : Int)).map (Value.int .u8) := by simp [bytesV]
  rw [e] at ha
  refine (cloneB_c (own_ints ha (by omega)) (by simp; omega)).mono ?_
  rintro e' w' ⟨v, rfl, h1, h2⟩
  rw [e]
  rw [List.length_map] at h1
  exact ⟨v, rfl, h1, h2⟩

/-- what the yield of a word tells -/
def Yielded (J Jx : List LabX → World → Prop) (B : Nat) (pre : List LabX) (x : LabX) (w3 : World) (e : Ending) (W' : World) : Prop :=
  ∃ r : Bool, e = .returned (.bool r) ∧ KeptW B x w3 W' ∧ (r = true → J (pre ++ [x]) W') ∧ (r = false → Jx (pre ++ [x]) W')

theorem kept_through {W5 w3 W6 : World} {B n : Nat} {x : LabX} {xs : List Value} (hx : Ext W5 w3) (hown : w3.ownsRow W5.heap.size 5 1 x.1.2 n xs) (hk : KeptW B x w3 W6) :
    W5.heap.size ≤ W6.heap.size ∧ ∀ g, B ≤ g → g < W5.heap.size → W6.heap[g]? = W5.heap[g]? :=
  ⟨Nat.le_trans hx.size hk.1, fun g h1 h2 => (hk.2 g h1 (Nat.lt_of_lt_of_le h2 hx.size) (fun e => by have := (hown.lt g e).1; omega)).trans (hx.block g h2)⟩

theorem KeptL.trans {B : Nat} {x : LabX} {a b c : World} (h : KeptL B x a b) (k : KeptL B x b c) : KeptL B x a c :=
  ⟨Nat.le_trans h.1 k.1, fun i h1 h2 => (k.2 i h1 (Nat.lt_of_lt_of_le h2 h.1)).trans (h.2 i h1 h2)⟩

set_option maxRecDepth 100000 in
set_option maxHeartbeats 4000000 in
theorem wordsM_stops {d : Dn} {w0 : World} {b : Nat} {an : Option Addr} {m cn : Nat} {al : Option Addr} {q cl : Nat} (h0 : w0.cell? ⟨b, 0, none⟩ = some (.slice an m cn)) (h1 : w0.cell? ⟨b, 1, none⟩ = some (.slice al q cl))
    (hD : DenseV w0 (.agg #[.slice an m cn, .slice al q cl]) d) {L : List Nat} (hL : (May d ∧ L = presL d 200) ∨ (¬ May d ∧ L = [])) (n : Nat) (hn : 5 ≤ n) :
    SeqStopsM Fence.wide n Tryd.prog 30 #[.pointer (some ⟨b, 0, none⟩)] labE KeptW (WordFx d L) (fun xs => xs.map (fun x : LabX => x.1.1) = L) (fun _ => True) 200 w0 := by
  intro l J Jx W hW hJ hJx hY hJ0
  have k0 := Ext.cell hW h0
  have k1 := Ext.cell hW h1
  have hD1 := hD.ext hW
  have l0 := lt_of_cell k0
  have HY := Lib.hid (And.intro hJ (And.intro hJx (And.intro hY (And.intro hJ0 (And.intro hD1 hL)))))
  clear h0 h1 hD hL hJ hJx hY hJ0 hD1 hW
  by_cases hm : May d
  · have hmb := mayB_true.2 hm
    obtain ⟨bn, on, cn', bl, ol, cl', he, hc⟩ := HY.out.2.2.2.2.1.cells hm
    simp only [Value.agg.injEq, Array.mk.injEq, List.cons.injEq, Value.slice.injEq, and_true] at he
    obtain ⟨⟨rfl, hm', rfl⟩, rfl, hq', rfl⟩ := he
    have hck := check_c (HY.out.2.2.2.2.1.ext (Ext.box W (.cells #[.func (.yield l) #[] #[]] 72)))
    have HC := Lib.hid (And.intro hck (And.intro hc (And.intro hm (And.intro hm' hq'))))
    clear hck hc hm hm' hq'
    rw [hmb] at HC
    clear hmb
    refine callsIn_of_wp_marks Tryd.func30 rfl trivial ?_
    simp only [Tryd.ntmps30, List.size_toArray, List.length_cons, List.length_nil, Nat.reduceAdd, Nat.reduceSub, Array.replicate_succ, Array.replicate_zero, List.push_toArray, List.append_toArray, List.nil_append, List.cons_append]
    refine wpIn_wide.2 ?_
    go_wp2_with fail
    refine HC.out.1.mono ?_
    rintro e w2 ⟨rfl, hx2⟩
    have j0 := hx2.cell ((Ext.box W (.cells #[.func (.yield l) #[] #[]] 72)).cell k0)
    have j1 := hx2.cell ((Ext.box W (.cells #[.func (.yield l) #[] #[]] 72)).cell k1)
    have jy : w2.cell? ⟨W.heap.size, 0, none⟩ = some (.func (.yield l) #[] #[]) := hx2.cell (new_cell rfl)
    have HX := Lib.hid (And.intro ((Ext.box W (.cells #[.func (.yield l) #[] #[]] 72)).trans hx2) jy)
    clear hx2 jy
    go_wp2_with fail
    refine labels_c.mono ?_
    rintro e w4 ⟨rfl, hw4⟩
    have hx4 : Ext w2 w4 := by rw [hw4]; exact Ext.box _ _
    have e0 : w4.cell? ⟨w2.heap.size, 0, none⟩ = some (.slice (some ⟨bn, on, none⟩) d.next.length cn) := by rw [hw4, ← HC.out.2.2.2.1]; exact new_cell rfl
    have e1 : w4.cell? ⟨w2.heap.size, 1, none⟩ = some (.slice (some ⟨bl, ol, none⟩) d.next.length cl) := by rw [hw4, ← HC.out.2.2.2.2]; exact new_cell rfl
    have hst := labsM_stops HC.out.2.2.1.autoN e0 e1 (HC.out.2.1.ext (HX.out.1.trans hx4)) (n - 1)
    have hJ4 : J [] w4 := HY.out.1 [] W w4 none HY.out.2.2.2.1 (grown_of_ext (HX.out.1.trans hx4)) (fun r e => by cases e)
    have HST := Lib.hid (And.intro hst (And.intro (HX.out.1.trans hx4) (And.intro hJ4 (hx4.cell HX.out.2))))
    have hszW : W.heap.size + 1 ≤ w4.heap.size := by
      have h1 := lt_of_cell HX.out.2
      have h2 := hx4.size
      omega
    clear hw4 hx4 e0 e1 hst hJ4
    go_wp2_with fail
    refine (wpIn_wide (n := n)).1 ?_
    refine' wpIn_rangeFunc_ownM rfl (by omega) (gf := 48) (lb := #[.pointer (some ⟨w2.heap.size, 0, none⟩)]) rfl trivial (enters_of Tryd.func48 (by kernel_rfl) rfl)
      HST.out.1 (fun h k => h.trans k) (fun x W5 l5 o o' h1 h2 hW5 hc hw => ⟨by simp, fun k h3 h4 => World.putObj_heap_other (by omega)⟩) (Below.refl _ _) (fun _ => rfl)
      (fun pre W5 => ∃ pre' : List LabX, pre'.map (fun x : LabX => x.1.1) = pre.map (fun x : LabX => x.1.1) ∧ J pre' W5 ∧ W5.cell? ⟨W.heap.size, 0, none⟩ = some (.func (.yield l) #[] #[]))
      (fun c pre W5 => c = .ret ∧ ∃ pre', Jx pre' W5)
      ?hI ?hIx ⟨[], rfl, HST.out.2.2.1, HST.out.2.2.2⟩ (fun pre x a' W5 => a' = { tmps := #[.func (.yield l) #[] #[], .pointer (some ⟨b, 0, none⟩), .pointer (some ⟨W.heap.size, 0, none⟩), .int .i64 (x.1.1 : Int), x.1.2, .agg #[.slice (some ⟨bn, on, none⟩) m cn, .slice (some ⟨bl, ol, none⟩) q cl], .bool true, .bool false, .agg #[.slice (some ⟨bn, on, none⟩) m cn, .slice (some ⟨bl, ol, none⟩) q cl], .func (.func 48) #[] #[.pointer (some ⟨w2.heap.size, 0, none⟩)], .int .i64 (x.1.1 : Int), x.1.2, undef, undef, undef, undef, undef, undef], defers := [] } ∧ LabFx d (w4.heap.size + 2) pre x W5) ?hAx ?assign ?body ?done ?stop
    case hI =>
      rintro pre A B row ⟨pre', hp, hJ5, hb⟩ hg hr
      exact ⟨pre', hp, HY.out.1 pre' A B row hJ5 hg (fun r e => ⟨by have := (hr r e).1; omega, (hr r e).2⟩), cell_kept hb hg (fun r e => (hr r e).2)⟩
    case hIx =>
      rintro c pre A B row ⟨hc, pre', hJ5⟩ hg hr
      exact ⟨hc, pre', HY.out.2.1 pre' A B row hJ5 hg (fun r e => ⟨by have := (hr r e).1; omega, (hr r e).2⟩)⟩
    case hAx =>
      rintro pre x a' _ A B row ⟨he, hp, u, hu, hown⟩ hg hr
      exact ⟨he, hp, u, hu, ownsRow_grown hown hg (fun r e => (hr r e).2)⟩
    case assign =>
      intro l2 pre x W5 K hI hfx hK
      simp only [labE, List.zip_toArray, List.zip_cons_cons, List.zip_nil_right, List.foldl_toArray', List.foldl_cons, List.foldl_nil, List.setIfInBounds_toArray, List.set_cons_succ, List.set_cons_zero]
      gi_wp2
      exact hK _ _ (KeepsFrom.refl _ _) ⟨Nat.le_refl _, fun k _ _ => rfl⟩ hI ⟨rfl, hfx⟩
    case body =>
      rintro l2 pre ⟨⟨k, v8⟩, hk⟩ a' W5 hl2 hrec ⟨pre', hp, hJ5, hb⟩ ⟨rfl, hpre, u, hu, hown⟩ hlt
      dsimp only at hpre hu hown hk ⊢
      have hu1 : u.length ≤ 1000000 := by have := hu.short; have := HC.out.2.2.1.most; omega
      have hcl := cloneB_w (w := W5.drew) (own_ext ((Ext.refl W5).drew) hown) hu1
      have hplen : pre'.length < 200 := by
        have := congrArg List.length hp
        rw [List.length_map, List.length_map] at this
        omega
      have hLp : ∃ t, L = pre'.map (fun y : LabX => y.1.1) ++ k :: t := by
        rcases HY.out.2.2.2.2.2 with ⟨_, h⟩ | ⟨h, _⟩
        · rw [hp, hpre, h]
          exact presL_pre hk ⟨u, hu.bytes, hu.yes⟩
        · exact absurd HC.out.2.2.1 h
      have hyy : ∀ w3 v3, w3.ownsRow W5.heap.size 5 1 v3 u.length (bytesV u) → Ext W5 w3 → YieldAt Fence.wide (n - 1) Tryd.prog l #[.int .i64 (k : Int), v3] w3 (Yielded J Jx W.heap.size pre' ⟨(k, v3), hk⟩ w3) := by
        intro w3 v3 hown3 hx3
        have hJ3 : J pre' w3 := HY.out.1 pre' W5 w3 none hJ5 (grown_of_ext hx3) (fun r e => by cases e)
        have hW5 : W.heap.size ≤ W5.heap.size := by
          have := lt_of_cell hb
          omega
        obtain ⟨fn, tmps, ac, bd, hy, hR⟩ := HY.out.2.2.1 pre' ⟨(k, v3), hk⟩ w3 hJ3 hplen ⟨hLp, u, hu, own_base hown3 hW5⟩
        refine ⟨fn, tmps, ac, bd, hy, hR.mono ?_⟩
        rintro e W' (⟨rfl, h1, h2⟩ | ⟨rfl, h1, h2⟩)
        · exact ⟨true, rfl, h2, fun _ => h1, fun h => (by cases h)⟩
        · exact ⟨false, rfl, h2, fun h => (by cases h), fun _ => h1⟩
      have HB := Lib.hid (And.intro hcl (And.intro hyy (And.intro hp (And.intro hJ5 hrec))))
      have hmix : (Tryd.prog).follows .mixedOrders = true := by kernel_rfl
      have hlW := lt_of_cell hb
      clear hcl hyy hp hJ5 hrec hLp hplen hpre hu hown
      gi_wp2
      gi_region_with_o (first | (refine ⟨trivial, fun h => (by cases h), (CallsIn.inRound l2 (callsIn_wide.2 HB.out.1)).mono ?_⟩; rintro e w3 ⟨v3, rfl, hown3, hx3⟩; have hx53 := (Ext.drew (Ext.refl W5)).trans hx3; have hb3 := hx53.cell hb; obtain ⟨fn, tmps, ac, bd, hy, hR⟩ := HB.out.2.1 w3 v3 hown3 hx53; have HRd := Lib.hid hR; clear hR) | (refine ⟨fun h => (by cases h), (roundIn_any HRd.out).mono ?_⟩; rintro e W6 ⟨r, rfl, hpost⟩; have HP := Lib.hid hpost; clear hpost))
      all_goals
        have hkt := kept_through (x := ⟨(k, v3), hk⟩) hx53 hown3 HP.out.1
        have hKF : KeepsFrom w4.heap.size W5 W6 := ⟨hkt.1, fun g o h1 h2 _ => (hkt.2 g (by omega) (Array.getElem?_eq_some_iff.1 h2).1).trans h2⟩
        have hKL : KeptL (w4.heap.size + 2) ⟨(k, v8), hk⟩ W5 W6 := ⟨hkt.1, fun g h1 h2 => hkt.2 g (by omega) h2⟩
        have hb6 : W6.cell? ⟨W.heap.size, 0, none⟩ = some (.func (.yield l) #[] #[]) := (World.cell?_of_block (a := ⟨W.heap.size, 0, none⟩) (hkt.2 _ (Nat.le_refl _) hlW)).trans hb
        have HK := Lib.hid (And.intro hKF (And.intro hKL hb6))
        clear hkt hKF hKL hb6 hb3 hx53 hown3 hx3 hy hb
        cases r
        · gi_wp2
          exact ⟨HK.out.1, HK.out.2.1, rfl, _, HP.out.2.2 (by simp)⟩
        · gi_wp2
          exact ⟨HK.out.1, HK.out.2.1, pre' ++ [⟨(k, v3), hk⟩], by rw [List.map_append, List.map_append, HB.out.2.2.1]; rfl, HP.out.2.1 (by simp), HK.out.2.2⟩
    case done =>
      rintro D xs W5 hD hS ⟨pre', hp, hJ5, _⟩ hK
      have HD := Lib.hid (And.intro hS (And.intro hp (And.intro hJ5 hK)))
      clear hS hp hJ5
      go_wp2_with fail
      refine ⟨by simp, .inl ⟨_, _, rfl, run_takeDeferred hK, ?_⟩⟩
      refine ⟨_, results_none rfl _ _ _, ⟨_, rfl⟩, .inl ⟨pre', ?_, HY.out.1.putObj _ HD.out.2.2.1 (by omega) hK rfl⟩⟩
      rw [HD.out.2.1, HD.out.1]
      rcases HY.out.2.2.2.2.2 with ⟨_, h⟩ | ⟨h, _⟩
      · exact h.symm
      · exact absurd HC.out.2.2.1 h
    case stop =>
      rintro D c pre W5 hD _ ⟨rfl, pre', hJ5⟩ hK
      have HD := Lib.hid hJ5
      clear hJ5
      refine wpIn_wide.2 ?_
      go_wp2_with fail
      refine ⟨by simp, .inl ⟨_, _, rfl, run_takeDeferred hK, ?_⟩⟩
      exact ⟨_, results_none rfl _ _ _, ⟨_, rfl⟩, .inr ⟨pre', trivial, HY.out.2.1.putObj _ HD.out (by omega) hK rfl⟩⟩
  · have hmb := mayB_false hm
    have hck := check_c (HY.out.2.2.2.2.1.ext (Ext.box W (.cells #[.func (.yield l) #[] #[]] 72)))
    rw [hmb] at hck
    have HC := Lib.hid (And.intro hck hm)
    clear hck hm hmb
    refine callsIn_of_wp_marks Tryd.func30 rfl trivial ?_
    simp only [Tryd.ntmps30, List.size_toArray, List.length_cons, List.length_nil, Nat.reduceAdd, Nat.reduceSub, Array.replicate_succ, Array.replicate_zero, List.push_toArray, List.append_toArray, List.nil_append, List.cons_append]
    refine wpIn_wide.2 ?_
    go_wp2_with fail
    refine HC.out.1.mono ?_
    rintro e w2 ⟨rfl, hx2⟩
    have HX := Lib.hid ((Ext.box W (.cells #[.func (.yield l) #[] #[]] 72)).trans hx2)
    clear hx2
    go_wp2_with fail
    refine ⟨_, results_none rfl _ _ _, ⟨_, rfl⟩, .inl ⟨[], ?_, HY.out.1 [] W w2 none HY.out.2.2.2.1 (grown_of_ext HX.out) (fun r e => by cases e)⟩⟩
    rcases HY.out.2.2.2.2.2 with ⟨h, _⟩ | ⟨_, h⟩
    · exact absurd h HC.out.2
    · exact h.symm
end Go.Proofs.YtihginaanlcilaaDoor
