/- bolterlaw13.WitnessWords, walked. -/
import Derived.Test.YtihginaanlcilaaDoorWords
import Derived.Test.YtihginaanlcilaaDoorRef13
import Derived.Test.YtihginaanlcilaaDoorOverB
import Derived.Test.YtihginaanlcilaaDoorEqs
import Derived.Test.YtihginaanlcilaaDoorWakes13
import Derived.Test.YtihginaanlcilaaDoorMay
import Derived.Deep.DeepCutAuto
namespace Go.Proofs.YtihginaanlcilaaDoor
open Go.RowKit

attribute [local go_sem] Oper.semAt_some

/-- a round's frame: what is told, in the loop's slots p1, p2 and in its variables q1, q2 -/
def asgn (p1 p2 q1 q2 : Nat) (T : Array Value) (x : LabX) : Act :=
  { tmps := (((T.setIfInBounds p1 (.int .i64 (x.1.1 : Int))).setIfInBounds p2 x.1.2).setIfInBounds q1 (.int .i64 (x.1.1 : Int))).setIfInBounds q2 x.1.2, defers := [] }

theorem wpIn_range2 {F : Fence} {n : Nat} {P : Program} (p1 p2 q1 q2 : Nat) {g : Operand} {assign body : Code} {Q : Exit → Act → World → Prop} {a : Act} {w : World}
    (hro : F.round = none) (h1 : 1 ≤ n) {gf : Nat} {lb : Array Value} (hg : a.eval g = .func (.func gf) #[] lb) (hFg : F.fn gf) (eg : ∀ args w, (callFunc gf args).run P w = .ok (.enter gf args) w)
    {S Sp : List LabX → Prop} {N : Nat} {w0 : World} {Fx : Nat → List LabX → LabX → World → Prop} (hseq : SeqStopsM F (n - 1) P gf lb labE KeptW Fx S Sp N w0) (hb0 : Below w0.heap.size w0 w)
    (hFo : ∀ pre x, OwnFrom w.heap.size (fun (_ : Unit) W => Fx (w.heap.size + 2) pre x W))
    (I : List LabX → World → Prop) (Ix : Code → List LabX → World → Prop) (hI : OwnFrom w.heap.size I) (hIx : ∀ c, OwnFrom w.heap.size (Ix c)) (h0 : I [] w)
    (hassign : ∀ (l : Nat) (x : LabX) (W : World) (K : Act → World → Prop), K (asgn p1 p2 q1 q2 a.tmps x) W →
      assign.wpIn (F.inRound l) (n - 1 - 1) P (Exit.then K (fun _ _ _ => False)) { tmps := (#[p1, p2].zip (labE x)).foldl (fun t (p, v) => t.setIfInBounds p v) a.tmps, defers := [] } W)
    (hbody : ∀ (l : Nat) (pre : List LabX) (x : LabX) (W : World), w.heap.size ≤ l → I pre W → Fx (w.heap.size + 2) pre x W → body.wpIn (F.inRound l) (n - 1 - 1) P (ownPostM w.heap.size (KeptW (w.heap.size + 2) x) I Ix (pre ++ [x]) W) (asgn p1 p2 q1 q2 a.tmps x) W)
    (hdone : ∀ (D : Nat) (xs : List LabX) (W : World), w.heap.size ≤ D → S xs → I xs W → W.heap[D]? = some (.deferred (some [])) → Q .normal { a with defers := { target := .collected D, args := #[] } :: a.defers } W)
    (hstop : ∀ (D : Nat) (c : Code) (pre : List LabX) (W : World), w.heap.size ≤ D → Sp pre → Ix c pre W → W.heap[D]? = some (.deferred (some [])) → c.wpIn F n P Q { a with defers := { target := .collected D, args := #[] } :: a.defers } W) :
    (Code.rangeFunc g #[p1, p2] assign body).wpIn F n P Q a w := by
  refine wpIn_rangeFunc_ownM hro h1 hg hFg eg hseq (fun {x A B C} h k => ⟨Nat.le_trans h.1 k.1, fun g h2 h3 h4 => (k.2 g h2 (Nat.lt_of_lt_of_le h3 h.1) h4).trans (h.2 g h2 h3 h4)⟩)
    (fun x W l o o' h2 h3 h4 h5 h6 => ⟨by simp, fun k h7 h8 h9 => World.putObj_heap_other (by omega)⟩) hb0 (fun _ => rfl) I Ix hI hIx h0
    (fun pre x a' W => a' = asgn p1 p2 q1 q2 a.tmps x ∧ Fx (w.heap.size + 2) pre x W) (fun pre x a' s A B row hs hg hr => ⟨hs.1, hFo pre x () A B row hs.2 hg hr⟩)
    (fun l pre x W K hi hf hK => hassign l x W K (hK _ _ (KeepsFrom.refl _ _) ⟨Nat.le_refl _, fun _ _ _ _ => rfl⟩ hi ⟨rfl, hf⟩))
    (fun l pre x a' W h2 _ hi ha _ => by obtain ⟨rfl, hf⟩ := ha; exact hbody l pre x W h2 hi hf) hdone hstop

/-- the loops over the words: since W1 only n's box has turned -/
structure LpS (W1 W : World) (b8 n : Nat) : Prop where
  gr : W1.grownBy W (some b8)
  lt : b8 < W1.heap.size
  c8 : W.cell? ⟨b8, 0, none⟩ = some (.int .i64 (n : Int))
  f8 : W.frozen? ⟨b8, 0, none⟩ = false

theorem LpS.own {W1 : World} {b8 n B : Nat} (hB : W1.heap.size ≤ B) {α : Type} : OwnFrom B (fun (_ : α) W => LpS W1 W b8 n) := by
  intro s A C row h hg hr
  have hne : some b8 ≠ row := fun e => by have := (hr b8 e.symm).1; have := h.lt; omega
  refine ⟨h.gr.andThen hg (fun j e => ?_), h.lt, hg.cell h.c8 hne, ?_⟩
  · have := (hr j e).1; left; omega
  · have hl := lt_of_cell h.c8
    exact (World.frozen?_of_block (a := ⟨b8, 0, none⟩) (hg.block b8 hl hne)).trans h.f8

theorem round_end {W1 W5 w7 w8 : World} {b8 n m S2 : Nat} {x : LabX} {xs : List Value} (h : LpS W1 W5 b8 n) (hS : W1.heap.size ≤ S2) (hx : Ext W5 w7) (hg : w7.grownBy w8 x.1.2.ownBlock) (ho : W5.ownsRow (S2 + 2) 5 1 x.1.2 m xs) :
    KeepsFrom S2 W5 (w8.setCell ⟨b8, 0, none⟩ (.int .i64 ((n : Int) + 1))) ∧ KeptW (S2 + 2) x W5 (w8.setCell ⟨b8, 0, none⟩ (.int .i64 ((n : Int) + 1))) ∧ LpS W1 (w8.setCell ⟨b8, 0, none⟩ (.int .i64 ((n : Int) + 1))) b8 (n + 1) ∧
    ∀ g, g < S2 → g < W5.heap.size → g ≠ b8 → (w8.setCell ⟨b8, 0, none⟩ (.int .i64 ((n : Int) + 1))).heap[g]? = W5.heap[g]? := by
  have hb := h.lt
  have hsz := h.gr.size
  have h7 := hx.size
  have h8 := hg.size
  have hk : ∀ g, g < W5.heap.size → x.1.2.ownBlock ≠ some g → g ≠ b8 → (w8.setCell ⟨b8, 0, none⟩ (.int .i64 ((n : Int) + 1))).heap[g]? = W5.heap[g]? := fun g hl h1 h2 => by
    rw [Below.heap_setCell _ _ _ _ h2, hg.block g (by omega) (fun e => h1 e.symm), hx.block g hl]
  have hlow : ∀ g, g < S2 + 2 → x.1.2.ownBlock ≠ some g := fun g hg e => by have := (ho.lt g e).1; omega
  have hc8 : w8.cell? ⟨b8, 0, none⟩ = some (.int .i64 (n : Int)) := hg.cell (hx.cell h.c8) (fun e => hlow b8 (by omega) e.symm)
  refine ⟨⟨by simp; omega, fun g o h1 h2 h3 => ?_⟩, ⟨by simp; omega, fun g h1 h2 h3 => hk g h2 h3 (by omega)⟩, ⟨?_, h.lt, ?_, ?_⟩, fun g h1 h2 h3 => hk g h2 (hlow g (by omega)) h3⟩
  · rw [hk g (Array.getElem?_eq_some_iff.1 h2).1 (fun e => ?_) (by omega)]; exact h2
    rcases ho.2 with ⟨e1, _⟩ | ⟨g', cap, cur, e1, _, hb', _⟩
    · rw [e1] at e; cases e
    · rw [e1] at e
      obtain rfl : g' = g := by simpa [Value.ownBlock] using e
      rw [hb'] at h2
      cases h2
      cases h3
  · have hg1 : W1.grownBy w8 (some b8) := by
      refine ((h.gr.andThen (grown_of_ext hx) (fun j e => by cases e)).andThen hg (fun j e => ?_))
      left
      have := (ho.lt j e).1
      omega
    refine hg1.andThen (grownBy_setCell' w8 b8 _) (fun j e => .inr e)
  · have := World.cell?_setCell_same w8 ⟨b8, 0, none⟩ (.int .i64 ((n : Int) + 1)) hc8
    rw [this]; rfl
  · rw [World.frozen?_setCell]
    exact (World.frozen?_of_block (a := ⟨b8, 0, none⟩) (hg.block b8 (by omega) (fun e => hlow b8 (by omega) e.symm))).trans ((Below.frozen hx (p := ⟨b8, 0, none⟩) (show b8 < W5.heap.size by omega)).trans h.f8)

theorem wordFx_own {d : Dn} {L : List Nat} {B S : Nat} (pre : List LabX) (x : LabX) : OwnFrom S (fun (_ : Unit) W => WordFx d L B pre x W) := by
  rintro _ A C row ⟨h1, u, h2, h3⟩ hg hr
  exact ⟨h1, u, h2, ownsRow_grown h3 hg (fun r e => (hr r e).2)⟩

theorem ownB_ints {w : World} {B : Nat} {v : Value} {u : List Nat} (h : w.ownsRow B 5 1 v u.length (bytesV u)) (hn : u.length ≤ 1000000) : IntsK .u8 w v (u.map fun (b : Nat) => (b : Int)) := by
  have e : bytesV u = (u.map fun (b : Nat) => (b : Int)).map (Value.int .u8) := by simp [bytesV]
  rw [e] at h
  exact own_ints h (by omega)

theorem key_elim2 {G Good : Nat → World → Prop} {Q : Prop} (h : (∀ D W, Good D W → G D W) → Q) (h2 : ∀ D W, Good D W → G D W) : Q := h h2

theorem LpS.reset {W1 W : World} {b8 n : Nat} (h : LpS W1 W b8 n) : LpS W1 (W.setCell ⟨b8, 0, none⟩ (.int .i64 0)) b8 0 :=
  ⟨h.gr.andThen (grownBy_setCell' W b8 _) (fun j e => .inr e), h.lt, World.cell?_setCell_same _ _ _ h.c8, by rw [World.frozen?_setCell]; exact h.f8⟩

theorem words_notNil (b : Nat) (w : World) : (binOp .eql 32 (.func (.func 30) #[] #[.pointer (some ⟨b, 0, none⟩)]) .nilFunc).run Tryd.prog w = .ok (.bool false) w := by
  kernel_rfl

theorem FirstW.first_ {d : Dn} {k : Int} {u : List Nat} (h : FirstW d k u) : First d.aut oneD.aut 0 0 (fun i _ => d.lb i == k) u :=
  ⟨h.bytes, by simp [h.yes], fun z hz hp => h.first z hz (by simpa using hp), by have := h.short; show u.length + 1 ≤ d.next.length * 1; omega⟩
theorem reached_first {d : Dn} {k : Int} {u : List Nat} (h : First d.aut oneD.aut 0 0 (fun i _ => d.lb i == k) u) : Reached d k := ⟨u, h.bytes, by simpa using h.yes⟩
theorem nowhere_not {d : Dn} {k : Int} (h : Nowhere d.aut oneD.aut 0 0 (fun i _ => d.lb i == k)) : ¬ Reached d k := by
  rintro ⟨z, hz, e⟩
  have := h z hz
  simp [e] at this

/-- the law's own memory: its parameter's box, its result's, its list of labels' -/
structure WlS (w wr : World) (b1 bL S0 : Nat) (c0 c1 lv : Value) (xs : List Nat) : Prop where
  ext : Ext w wr
  size : S0 ≤ wr.heap.size
  pos : w.heap.size = b1 ∧ b1 + 3 = S0 ∧ b1 + 2 = bL
  d0 : wr.cell? ⟨b1, 0, none⟩ = some c0
  d1 : wr.cell? ⟨b1, 1, none⟩ = some c1
  r0 : wr.cell? ⟨b1 + 1, 0, none⟩ = some (.bool false)
  rf : wr.frozen? ⟨b1 + 1, 0, none⟩ = false
  l0 : wr.cell? ⟨bL, 0, none⟩ = some lv
  lf : wr.frozen? ⟨bL, 0, none⟩ = false
  own : wr.ownsRow S0 3 1 lv xs.length (numV xs)

theorem WlS.keep {w wr w1 : World} {b1 bL S0 : Nat} {c0 c1 lv : Value} {xs : List Nat} (h : WlS w wr b1 bL S0 c0 c1 lv xs) (hE : Ext w w1) (hs : wr.heap.size ≤ w1.heap.size) (hk : ∀ g, b1 ≤ g → g < S0 → w1.heap[g]? = wr.heap[g]?)
    (ho : w1.ownsRow S0 3 1 lv xs.length (numV xs)) : WlS w w1 b1 bL S0 c0 c1 lv xs := by
  obtain ⟨p1, p2, p3⟩ := h.pos
  have hc : ∀ {b j : Nat} {v : Value}, b1 ≤ b → b < S0 → wr.cell? ⟨b, j, none⟩ = some v → w1.cell? ⟨b, j, none⟩ = some v := fun {b j v} h1 h2 hv => (World.cell?_of_block (a := ⟨b, j, none⟩) (hk b h1 h2)).trans hv
  have hf : ∀ {b j : Nat}, b1 ≤ b → b < S0 → wr.frozen? ⟨b, j, none⟩ = false → w1.frozen? ⟨b, j, none⟩ = false := fun {b j} h1 h2 hv => (World.frozen?_of_block (a := ⟨b, j, none⟩) (hk b h1 h2)).trans hv
  exact ⟨hE, Nat.le_trans h.size hs, h.pos, hc (by omega) (by omega) h.d0, hc (by omega) (by omega) h.d1, hc (by omega) (by omega) h.r0, hf (by omega) (by omega) h.rf, hc (by omega) (by omega) h.l0, hf (by omega) (by omega) h.lf, ho⟩

theorem WlS.more {w wr w1 : World} {b1 bL S0 : Nat} {c0 c1 lv : Value} {xs : List Nat} (h : WlS w wr b1 bL S0 c0 c1 lv xs) (hx : Ext wr w1) : WlS w w1 b1 bL S0 c0 c1 lv xs :=
  h.keep (h.ext.trans hx) hx.size (fun g _ h2 => hx.block g (Nat.lt_of_lt_of_le h2 h.size)) (own_ext hx h.own)

theorem WlS.add {w wr w1 W4 : World} {b1 bL S0 : Nat} {c0 c1 lv v' : Value} {xs : List Nat} {k : Nat} {o : Obj} (h : WlS w wr b1 bL S0 c0 c1 lv xs) (hx : Ext wr w1) (hg : (w1.alloc o).grownBy W4 lv.ownBlock)
    (hown : W4.ownsRow S0 3 1 v' (xs.length + 1) (numV xs ++ [.int .i64 (k : Int)])) : WlS w (W4.setCell ⟨bL, 0, none⟩ v') b1 bL S0 c0 c1 v' (xs ++ [k]) := by
  obtain ⟨p1, p2, p3⟩ := h.pos
  have h1 := (h.more hx)
  have hs1 := h1.size
  have hs4 := hg.size
  rw [World.size_alloc] at hs4
  have hk : ∀ g, b1 ≤ g → g < S0 → W4.heap[g]? = w1.heap[g]? := fun g _ hl => by
    rw [hg.block g (by rw [World.size_alloc]; omega) (fun e => by have := (h.own.lt g e.symm).1; omega)]
    exact (Ext.box w1 o).block g (by omega)
  have hE : Ext w W4 := Below.grown (h1.ext.alloc o) hg (by have := h1.ext.size; rw [World.size_alloc]; omega) (fun g e => by have := (h.own.lt g e).1; omega)
  have hc : ∀ {b j : Nat} {v : Value}, b1 ≤ b → b < S0 → w1.cell? ⟨b, j, none⟩ = some v → W4.cell? ⟨b, j, none⟩ = some v := fun {b j v} h1 h2 hv => (World.cell?_of_block (a := ⟨b, j, none⟩) (hk b h1 h2)).trans hv
  have hf : ∀ {b j : Nat}, b1 ≤ b → b < S0 → w1.frozen? ⟨b, j, none⟩ = false → W4.frozen? ⟨b, j, none⟩ = false := fun {b j} h1 h2 hv => (World.frozen?_of_block (a := ⟨b, j, none⟩) (hk b h1 h2)).trans hv
  have hF : Frm (fun a _ => a = bL) W4 (W4.setCell ⟨bL, 0, none⟩ v') := (Frm.refl (fun a _ => a = bL) W4).setCell (.inl rfl) _
  refine ⟨hF.ext hE (fun k j e => by omega), by simp; omega, h.pos, hF.cell_some (hc (by omega) (by omega) h1.d0) (by omega), hF.cell_some (hc (by omega) (by omega) h1.d1) (by omega), hF.cell_some (hc (by omega) (by omega) h1.r0) (by omega), by rw [World.frozen?_setCell]; exact hf (by omega) (by omega) h1.rf,
    World.cell?_setCell_same _ _ _ (hc (by omega) (by omega) h1.l0), by rw [World.frozen?_setCell]; exact hf (by omega) (by omega) h1.lf, ?_⟩
  rw [List.length_append, numV_snoc]
  exact own_block hown fun g hg' hl => hF.block g hl (fun j e => by have := (hown.lt g hg').1; omega)

theorem LpS.wl {w W1 W : World} {b1 bL S0 b8 n : Nat} {c0 c1 lv : Value} {xs : List Nat} (h : LpS W1 W b8 n) (hS : WlS w W1 b1 bL S0 c0 c1 lv xs) (h8 : S0 ≤ b8) (hlv : lv.ownBlock ≠ some b8) : WlS w W b1 bL S0 c0 c1 lv xs := by
  obtain ⟨p1, p2, p3⟩ := hS.pos
  have hsz := hS.size
  exact hS.keep (Below.grown hS.ext h.gr hS.ext.size (fun g e => by simp only [Option.some.injEq] at e; omega)) h.gr.size (fun g _ h2 => h.gr.block g (by omega) (fun e => by simp only [Option.some.injEq] at e; omega)) (hS.own.kept h.gr (.inr hlv))

open Classical in
noncomputable def labsOf (d : Dn) : List Nat := if May d then presL d 200 else []
theorem labsOf_or (d : Dn) : (May d ∧ labsOf d = presL d 200) ∨ (¬ May d ∧ labsOf d = []) := by
  unfold labsOf
  by_cases h : May d
  · rw [if_pos h]; exact .inl ⟨h, rfl⟩
  · rw [if_neg h]; exact .inr ⟨h, rfl⟩

theorem labsOf_len (d : Dn) : (labsOf d).length ≤ 200 := by
  rcases labsOf_or d with ⟨_, h⟩ | ⟨_, h⟩
  · rw [h]; exact presL_len d 200
  · rw [h]; simp

set_option maxRecDepth 100000 in
set_option maxHeartbeats 8000000 in
theorem words_law {v : Value} {d : Dn} {w : World} (h : DenseV w v d) (hr : Reach d) : Calls Tryd.prog 3 #[v] w fun e w' => e = .returned (.bool true) ∧ Ext w w' := by
  have hD0 := h
  obtain ⟨vn, vl, rfl, hn, hl⟩ := h
  obtain ⟨h1, an, cn, rfl, _, _⟩ := hn.open
  obtain ⟨_, al, cl, rfl, _, _⟩ := hl.open
  obtain ⟨N, hN⟩ : ∃ N, N = d.next.length := ⟨_, rfl⟩
  obtain ⟨M, hM⟩ : ∃ L, L = d.label.length := ⟨_, rfl⟩
  rw [← hN, ← hM] at hD0 ⊢
  have H := Lib.hid (And.intro hD0 (And.intro hr (And.intro hN hM)))
  clear hD0 hr hN hM hn hl
  refine (callsIn_wide (n := 20)).1 ?_
  refine callsIn_of_wp_marks Tryd.func3 rfl trivial ?_
  simp only [Tryd.ntmps3, List.size_toArray, List.length_cons, List.length_nil, Nat.reduceAdd, Nat.reduceSub, Array.replicate_succ, Array.replicate_zero, List.push_toArray, List.append_toArray, List.nil_append, List.cons_append]
  refine wpIn_wide.2 ?_
  obtain ⟨b1, hb1⟩ : ∃ b, b = w.heap.size := ⟨_, rfl⟩
  by_cases h40 : N ≤ 40
  · have hj1 : ¬ (40 : Int) < N := by omega
    obtain ⟨S0, hS0⟩ : ∃ s, s = b1 + 3 := ⟨_, rfl⟩
    obtain ⟨bL, hbL⟩ : ∃ s, s = b1 + 1 + 1 := ⟨_, rfl⟩
    obtain ⟨W0, hW0⟩ : ∃ W, W = ((w.alloc (.cells #[.slice an N cn, .slice al M cl] 25)).alloc (.cells #[.bool false] 4)).alloc (.cells #[.slice none 0 0] 23) := ⟨_, rfl⟩
    have hw0 : WlS w W0 b1 bL S0 (.slice an N cn) (.slice al M cl) (.slice none 0 0) [] := by
      refine ⟨by rw [hW0]; exact ((Ext.box _ _).alloc _).alloc _, by rw [hS0, hW0, hb1]; simp, ⟨hb1.symm, hS0.symm, hbL.symm⟩, ?_, ?_, ?_, ?_, ?_, ?_, World.ownsRow_nil _ _ _ _⟩
      all_goals (subst hW0; subst hbL; subst hb1; first | exact ((Ext.box _ _).alloc _).cell (new_cell rfl) | (simp [World.cell?_alloc_at, World.cell?_alloc_past, World.frozen?_alloc_at, World.frozen?_alloc_past]; done) | (simp; omega))
    have HW := Lib.hid (And.intro hw0 (And.intro hW0 (And.intro hb1 hbL)))
    clear hw0 hW0 hb1 hS0 hbL
    go_wp2_with fail
    rw [← HW.out.2.1]
    rw [← HW.out.2.2.1, ← HW.out.2.2.2]
    refine (may_c (H.out.1.ext HW.out.1.ext)).mono ?_
    rintro e w1 ⟨rfl, hx1⟩
    have HX1 := Lib.hid (HW.out.1.more hx1)
    clear hx1
    go_upto_if 23 with fail
    go_cut [4, 5, 6] from 23 to 38 (fun _ _ _ wx => ∃ (a : Option Addr) (c : Nat), WlS w wx b1 bL S0 (.slice an N cn) (.slice al M cl) (.slice a (labsOf d).length c) (labsOf d))
    case first =>
      by_cases hm : May d
      · have hmb := mayB_true.2 hm
        have hL : labsOf d = presL d 200 := by unfold labsOf; rw [if_pos hm]
        have Hm := Lib.hid (And.intro hm hL)
        rw [hmb]
        clear hmb hm hL
        go_wp2_with fail
        go_loopw [4] (fun iv wr => ∃ (k : Nat) (a : Option Addr) (c : Nat), k ≤ 200 ∧ iv = .int .i64 k ∧ WlS w wr b1 bL S0 (.slice an N cn) (.slice al M cl) (.slice a (presL d k).length c) (presL d k)) (fun iv _ => 200 - (intOf iv).toNat)
        case atStart => exact ⟨0, none, 0, Nat.zero_le _, rfl, HX1.out⟩
        case round =>
          obtain ⟨k, a, c, hk, rfl, hS⟩ := hrel
          by_cases hlt : k < 200
          · have hj2 : (k : Int) < 200 := by omega
            have d0 := hS.d0
            have d1 := hS.d1
            have hw := refWord_c (label := (k : Int)) (H.out.1.ext hS.ext) Hm.out.1
            have hlen := presL_len d k
            obtain ⟨n, hn⟩ : ∃ n, n = (presL d k).length := ⟨_, rfl⟩
            rw [← hn] at hS hlen
            have HS := Lib.hid (And.intro hw (And.intro hS hn))
            clear hw hS hn
            go_wp2_with fail
            refine HS.out.1.mono ?_
            rintro e w3 ⟨hsr, _⟩
            obtain ⟨v3, b3, rfl, hx3, hres⟩ := SearchR.form hsr
            have hS3 := HS.out.2.1.more hx3
            have l0 := hS3.l0
            have lf := hS3.lf
            have HR := Lib.hid (And.intro hres (And.intro hx3 hS3))
            clear hres hx3 hS3 hsr d0 d1
            cases b3
            · have hno : ¬ Reached d (k : Int) := by
                rcases HR.out.1 with ⟨h, _⟩ | ⟨_, _, h⟩
                · cases h
                · exact nowhere_not h
              have HN := Lib.hid hno
              clear hno l0 lf
              go_wp2_with fail
              go_roundw
              case rel => exact ⟨k + 1, a, c, by omega, by go_num, by rw [presL_no HN.out, ← HS.out.2.2]; exact HR.out.2.2⟩
              case measure => simp [intOf]; omega
            · have hyes : Reached d (k : Int) := by
                rcases HR.out.1 with ⟨_, u, h, _⟩ | ⟨h, _⟩
                · exact reached_first h
                · cases h
              have HY := Lib.hid hyes
              obtain ⟨i0, hi0, hz0, hz1, hz2⟩ := info_parts int_info
              have hown := HR.out.2.2.own.alloc (.cells #[.int .i64 (k : Int)] 3)
              rw [← HS.out.2.2] at hown
              have hcell := cell_one_new w3 (.int .i64 (k : Int)) 3
              have h1c : ∀ u ∈ [Value.int .i64 (k : Int)], u.oneCell' = true := one_int _ _
              have hbase : S0 ≤ (w3.alloc (.cells #[.int .i64 (k : Int)] 3)).heap.size := by have := HR.out.2.2.size; rw [World.size_alloc]; omega
              have hmax : n + 1 ≤ maxLen := by unfold maxLen; omega
              have hnL : bL < S0 := by have := HR.out.2.2.pos; omega
              have hbL3 := lt_of_cell l0
              clear hyes
              go_wp2_with (at_builtin; refine wpList_append_own_at _ rfl _ _ 23 rfl S0 3 i0 (.int .i64 0) 1 8 Tryd.underlying23 hi0 hz0 hz1 hz2 rfl (by decide) _ _ _ rfl hown ⟨w3.heap.size, 0, none⟩ 1 1 [.int .i64 (k : Int)] rfl rfl hcell h1c hmax (by omega) hbase ?_; intro v' W4 hown9 hg _ hat; obtain ⟨gg, cap', hv', -, -⟩ := own_slc hown9 (by omega); subst hv'; have m0 := hg.cell (a := ⟨bL, 0, none⟩) ((Ext.box w3 (.cells #[.int .i64 (k : Int)] 3)).cell l0) (fun e => Nat.lt_irrefl bL (Nat.lt_of_lt_of_le hnL (hown.lt bL e.symm).1)); have m1 : W4.frozen? ⟨bL, 0, none⟩ = false := (World.frozen?_of_block (a := ⟨bL, 0, none⟩) (hg.block bL (by rw [World.size_alloc]; omega) (fun e => Nat.lt_irrefl bL (Nat.lt_of_lt_of_le hnL (hown.lt bL e.symm).1)))).trans ((Below.frozen (Ext.box w3 (.cells #[.int .i64 (k : Int)] 3)) (p := ⟨bL, 0, none⟩) hbL3).trans lf))
              go_roundw
              case rel =>
                have h9 := HR.out.2.2.add (Ext.refl w3) (k := k) hg (by rw [← HS.out.2.2]; exact hown9)
                refine ⟨k + 1, some ⟨gg, 0, none⟩, cap', by omega, by go_num, ?_⟩
                rw [presL_yes HY.out, List.length_append, ← HS.out.2.2]
                exact h9
              case measure => simp [intOf]; omega
          · obtain rfl : k = 200 := by omega
            rw [show ((200 : Nat) : Int) = 200 from rfl]
            have HS := Lib.hid hS
            clear hS
            go_wp2_with fail
            go_meet
            rw [Hm.out.2]
            exact ⟨a, c, HS.out⟩
      · have hmb := mayB_false hm
        have hL : labsOf d = [] := by unfold labsOf; rw [if_neg hm]
        rw [hmb]
        clear hmb
        go_wp2_with fail
        go_meet
        rw [hL]
        exact ⟨none, 0, HX1.out⟩
    case rest =>
      obtain ⟨a, c, hS⟩ := hcut
      obtain ⟨n, hn⟩ : ∃ n, n = (labsOf d).length := ⟨_, rfl⟩
      rw [← hn] at hS
      have d0 := hS.d0
      have d1 := hS.d1
      have hwd := words_c (H.out.1.ext hS.ext) H.out.2.1
      have HS := Lib.hid (And.intro hwd (And.intro hS hn))
      clear hwd hS hn
      go_wp2_with fail
      refine HS.out.1.mono ?_
      rintro e w3 ⟨b, an', n', cn', al', m', cl', rfl, hbs, q0, q1, hD3, hx3⟩
      have hS3 := HS.out.2.1.more hx3
      have HQ := Lib.hid (And.intro hS3 (And.intro hbs (And.intro q0 (And.intro q1 (And.intro hD3 hx3)))))
      clear hS3 hbs q0 q1 hD3 hx3 d0 d1
      have keq := words_notNil
      go_wp2_with fail
      obtain ⟨b8, hb8⟩ : ∃ b, b = w3.heap.size := ⟨_, rfl⟩
      obtain ⟨W1, hW1⟩ : ∃ W', W' = w3.alloc (.cells #[.int .i64 0] 3) := ⟨_, rfl⟩
      rw [← hW1, ← hb8]
      have hsz1 : W1.heap.size = b8 + 1 := by rw [hW1, hb8]; simp
      have hx31 : Ext w3 W1 := by rw [hW1]; exact Ext.box _ _
      have hlp : LpS W1 W1 b8 0 := by
        refine ⟨World.grownBy.refl _ _, by omega, ?_, ?_⟩
        · rw [hW1, hb8]; exact new_cell rfl
        · rw [hW1, hb8]; exact new_frozen _ _ _ _
      have hst := wordsM_stops HQ.out.2.2.1 HQ.out.2.2.2.1 HQ.out.2.2.2.2.1 (labsOf_or d) 19 (by omega)
      have HL := Lib.hid (And.intro hst (And.intro hx31 (And.intro hlp (And.intro hb8 (HQ.out.1.more hx31)))))
      clear hst hx31 hlp hb8 hW1
      apply key_elim2 (Good := fun D W6 => W1.heap.size ≤ D ∧ (∃ q, LpS W1 W6 b8 q) ∧ W6.heap[D]? = some (.deferred (some [])))
      case h =>
        intro key
        refine (wpIn_wide (n := 20)).1 ?_
        refine' wpIn_range2 44 45 9 10 rfl (by omega) (gf := 30) (lb := #[.pointer (some ⟨b, 0, none⟩)]) rfl trivial (enters_of Tryd.func30 (by kernel_rfl) rfl)
          HL.out.1 (HL.out.2.1) (fun pre x => wordFx_own pre x) (fun pre W => pre = [] ∧ LpS W1 W b8 0) (fun cd pre W => cd = .exit 2 ∧ LpS W1 W b8 1) ?hI ?hIx ⟨rfl, HL.out.2.2.1⟩ ?assign ?body ?done ?stop
        case hI => exact OwnFrom.and (ownFrom_pure _ _) (LpS.own (Nat.le_refl _))
        case hIx => exact fun cd => OwnFrom.and (ownFrom_pure _ _) (LpS.own (Nat.le_refl _))
        case assign =>
          intro l x W K hK
          simp only [labE, asgn, List.zip_toArray, List.zip_cons_cons, List.zip_nil_right, List.foldl_toArray', List.foldl_cons, List.foldl_nil, List.setIfInBounds_toArray, List.set_cons_succ, List.set_cons_zero] at hK ⊢
          gi_wp2
          exact hK
        case body =>
          clear key
          rintro l pre ⟨⟨k, v8⟩, hk⟩ W5 hl ⟨rfl, hlp⟩ ⟨⟨t, hLt⟩, u, hu, hown⟩
          simp only [asgn, List.setIfInBounds_toArray, List.set_cons_succ, List.set_cons_zero]
          dsimp only at hu hown hLt
          have hm : May d := by
            rcases labsOf_or d with ⟨h, _⟩ | ⟨_, h⟩
            · exact h
            · rw [h] at hLt; simp at hLt
          have h8S : S0 ≤ b8 := by rw [HL.out.2.2.2.1]; exact HQ.out.1.size
          have hn8 : (Value.slice a n c).ownBlock ≠ some b8 := fun e => by have := (HQ.out.1.own.lt b8 e).2; have := HL.out.2.2.2.1; omega
          have hwl := hlp.wl HL.out.2.2.2.2 h8S hn8
          have hlen : 0 < n := by rw [HS.out.2.2, hLt]; simp
          have hown5 := hwl.own
          rw [← HS.out.2.2] at hown5
          obtain ⟨g, cap, hv, -, -⟩ := own_slc hown5 hlen
          simp only [Value.slice.injEq, true_and] at hv
          obtain ⟨rfl, rfl⟩ := hv
          have hk0 := hown5.cellAt 0 (by omega)
          have e0 : (numV (labsOf d))[0]? = some (.int .i64 (k : Int)) := by rw [hLt]; rfl
          rw [e0] at hk0
          have l0 := hwl.l0
          have d0 := hwl.d0
          have d1 := hwl.d1
          have c8 := hlp.c8
          have f8 := hlp.f8
          have hj3 : (0 : Int) < n := by omega
          have hj4 : ((n : Int) == 0) = false := by simp; omega
          have hw := refWord_c (label := (k : Int)) (H.out.1.ext hwl.ext) hm
          have HB := Lib.hid (And.intro hw (And.intro hlp (And.intro hwl (And.intro hu (And.intro hown (And.intro hLt hm))))))
          clear hw hlp hwl hu hown hLt hm e0 hown5
          gi_wp2
          refine ⟨trivial, (CallsIn.inRound l (callsIn_wide.2 HB.out.1)).mono ?_⟩
          rintro e w6 ⟨hsr, hlim⟩
          obtain ⟨v6, b6, rfl, hx6, hres⟩ := SearchR.form hsr
          have hul := hlim u HB.out.2.2.2.1.first_
          obtain ⟨rfl, ho6⟩ : b6 = true ∧ w6.ownsRow W5.heap.size 5 1 v6 u.length (bytesV u) := by
            rcases hres with ⟨h, u', h2, h3⟩ | ⟨_, _, h⟩
            · rw [h2.uniq HB.out.2.2.2.1.first_] at h3
              exact ⟨h, h3⟩
            · exact (HB.out.2.2.2.1.first_.some h).elim
          have heq := eqBytes_b (w := w6) (r := true) (ownB_ints (own_ext hx6 HB.out.2.2.2.2.1) hul) (ownB_ints ho6 hul) (by simp)
          have HE := Lib.hid (And.intro heq (And.intro hx6 hul))
          have c86 := hx6.cell c8
          have f86 : w6.frozen? ⟨b8, 0, none⟩ = false := (Below.frozen hx6 (p := ⟨b8, 0, none⟩) (lt_of_cell c8)).trans f8
          clear heq hx6 hul hsr hlim hres ho6 c8 f8 l0 d0 d1 hk0
          gi_wp2
          refine ⟨trivial, (CallsIn.inRound l (callsIn_wide.2 HE.out.1)).mono ?_⟩
          rintro e w7 ⟨rfl, hx7⟩
          have ho7 := own_base (own_ext (HE.out.2.1.trans hx7) HB.out.2.2.2.2.1) (show W1.heap.size ≤ W1.heap.size + 2 by omega)
          have c87 := hx7.cell c86
          have f87 : w7.frozen? ⟨b8, 0, none⟩ = false := (Below.frozen hx7 (p := ⟨b8, 0, none⟩) (lt_of_cell c86)).trans f86
          have hsz5 : W1.heap.size ≤ w7.heap.size := by
            have h1 := HB.out.2.1.gr.size
            have h2 := HE.out.2.1.size
            have h3 := hx7.size
            omega
          have hov := over_c ho7 (fun y hy => by obtain ⟨z, _, rfl⟩ := List.mem_map.1 hy; exact ⟨_, rfl⟩) hsz5 HE.out.2.2
          have HO := Lib.hid (And.intro hov (HE.out.2.1.trans hx7))
          clear hov hx7 ho7 c86 f86
          gi_wp2
          refine ⟨trivial, (CallsIn.inRound l (callsIn_wide.2 HO.out.1)).mono ?_⟩
          rintro e w8 ⟨rfl, hg8⟩
          have hlow : some b8 ≠ v8.ownBlock := fun e => by have := (HB.out.2.2.2.2.1.lt b8 e.symm).1; omega
          have c88 := hg8.cell c87 hlow
          have f88 : w8.frozen? ⟨b8, 0, none⟩ = false := (World.frozen?_of_block (a := ⟨b8, 0, none⟩) (hg8.block b8 (lt_of_cell c87) hlow)).trans f87
          have hend := round_end (x := ⟨(k, v8), hk⟩) HB.out.2.1 (Nat.le_refl W1.heap.size) HO.out.2 hg8 HB.out.2.2.2.2.1
          have hend : KeepsFrom W1.heap.size W5 (w8.setCell ⟨b8, 0, none⟩ (.int .i64 1)) ∧ KeptW (W1.heap.size + 2) ⟨(k, v8), hk⟩ W5 (w8.setCell ⟨b8, 0, none⟩ (.int .i64 1)) ∧ LpS W1 (w8.setCell ⟨b8, 0, none⟩ (.int .i64 1)) b8 1 := ⟨hend.1, hend.2.1, hend.2.2.1⟩
          have HEnd := Lib.hid hend
          clear hend hg8 hlow c87 f87 hsz5
          gi_wp2
          exact ⟨HEnd.out.1, HEnd.out.2.1, rfl, HEnd.out.2.2⟩
        case done =>
          rintro D xs W5 hD _ ⟨rfl, hlp⟩ hK
          exact key D W5 ⟨hD, ⟨_, hlp⟩, hK⟩
        case stop =>
          rintro D cd pre W5 hD _ ⟨rfl, hlp⟩ hK
          refine wpIn_exit ?_
          exact key D W5 ⟨hD, ⟨_, hlp⟩, hK⟩
      case h2 =>
        rintro D W5 ⟨hD, ⟨q, hlp⟩, hK⟩
        have c8 := hlp.c8
        have f8 := hlp.f8
        have hne : D ≠ b8 := by have := hlp.lt; omega
        have HK := Lib.hid (And.intro hlp.reset (Eq.trans (Below.heap_setCell W5 ⟨b8, 0, none⟩ (.int .i64 0) D hne) hK))
        clear hlp hK hne
        go_wp2_with fail
        generalize World.setCell _ _ _ = W6 at HK ⊢
        have hW16 : W1.heap.size ≤ W6.heap.size := HK.out.1.gr.size
        have hDl : D < W6.heap.size := (Array.getElem?_eq_some_iff.1 HK.out.2).1
        have hne : D ≠ b8 := by have := HK.out.1.lt; omega
        have hbl : Below w3.heap.size w3 W6 := Below.grown HL.out.2.1 HK.out.1.gr HL.out.2.1.size (fun g e => by have := HL.out.2.2.2.1; simp only [Option.some.injEq] at e; omega)
        refine (wpIn_wide (n := 20)).1 ?_
        refine' wpIn_range2 75 76 13 14 rfl (by omega) (gf := 30) (lb := #[.pointer (some ⟨b, 0, none⟩)]) rfl trivial (enters_of Tryd.func30 (by kernel_rfl) rfl)
          HL.out.1 hbl (fun pre x => wordFx_own pre x) (fun pre W => LpS W1 W b8 pre.length ∧ W.heap[D]? = some (.deferred (some []))) (fun _ _ _ => False) ?hI ?hIx ⟨HK.out.1, HK.out.2⟩ ?assign ?body ?done ?stop
        case hI =>
          rintro pre A C row ⟨h1, h2⟩ hg hr
          exact ⟨LpS.own (α := Unit) hW16 () A C row h1 hg hr, (hg.block D (Array.getElem?_eq_some_iff.1 h2).1 (fun e => by have := (hr D e.symm).1; omega)).trans h2⟩
        case hIx => exact fun _ _ _ _ _ h _ _ => h
        case assign =>
          intro l x W K hK
          simp only [labE, asgn, List.zip_toArray, List.zip_cons_cons, List.zip_nil_right, List.foldl_toArray', List.foldl_cons, List.foldl_nil, List.setIfInBounds_toArray, List.set_cons_succ, List.set_cons_zero] at hK ⊢
          gi_wp2
          exact hK
        case body =>
          rintro l pre ⟨⟨k, v8⟩, hk⟩ W5 hl ⟨hlp, hKD⟩ ⟨⟨t, hLt⟩, u, hu, hown⟩
          simp only [asgn, List.setIfInBounds_toArray, List.set_cons_succ, List.set_cons_zero]
          dsimp only at hu hown hLt
          have hm : May d := by
            rcases labsOf_or d with ⟨h, _⟩ | ⟨_, h⟩
            · exact h
            · rw [h] at hLt; simp at hLt
          have h8S : S0 ≤ b8 := by rw [HL.out.2.2.2.1]; exact HQ.out.1.size
          have hn8 : (Value.slice a n c).ownBlock ≠ some b8 := fun e => by have := (HQ.out.1.own.lt b8 e).2; have := HL.out.2.2.2.1; omega
          have hwl := hlp.wl HL.out.2.2.2.2 h8S hn8
          obtain ⟨m, hm'⟩ : ∃ m, m = pre.length := ⟨_, rfl⟩
          rw [← hm'] at hlp
          have hlen : m < n := by rw [HS.out.2.2, hLt]; simp; omega
          have hown5 := hwl.own
          rw [← HS.out.2.2] at hown5
          obtain ⟨g, cap, hv, -, -⟩ := own_slc hown5 (by omega)
          simp only [Value.slice.injEq, true_and] at hv
          obtain ⟨rfl, rfl⟩ := hv
          have hk0 := hown5.cellAt m (by omega)
          have e0 : (numV (labsOf d))[m]? = some (.int .i64 (k : Int)) := by
            rw [hLt, hm']
            simp [numV]
          rw [e0] at hk0
          have l0 := hwl.l0
          have d0 := hwl.d0
          have d1 := hwl.d1
          have c8 := hlp.c8
          have f8 := hlp.f8
          have hj3 : (m : Int) < n := by omega
          have hj4 : ¬ (n : Int) ≤ m := by omega
          have hmb : (m : Int) + 1 ≤ 1000 := by have h3 := labsOf_len d; rw [← HS.out.2.2] at h3; omega
          have hw := refWord_c (label := (k : Int)) (H.out.1.ext hwl.ext) hm
          have HB := Lib.hid (And.intro hw (And.intro hlp (And.intro hwl (And.intro hu (And.intro hown (And.intro hLt (And.intro hm (And.intro hKD hm'))))))))
          clear hw hlp hwl hu hown hLt hm e0 hown5 hKD hm'
          gi_wp2
          refine ⟨trivial, (CallsIn.inRound l (callsIn_wide.2 HB.out.1)).mono ?_⟩
          rintro e w6 ⟨hsr, hlim⟩
          obtain ⟨v6, b6, rfl, hx6, hres⟩ := SearchR.form hsr
          have hul := hlim u HB.out.2.2.2.1.first_
          obtain ⟨rfl, ho6⟩ : b6 = true ∧ w6.ownsRow W5.heap.size 5 1 v6 u.length (bytesV u) := by
            rcases hres with ⟨h, u', h2, h3⟩ | ⟨_, _, h⟩
            · rw [h2.uniq HB.out.2.2.2.1.first_] at h3
              exact ⟨h, h3⟩
            · exact (HB.out.2.2.2.1.first_.some h).elim
          have heq := eqBytes_b (w := w6) (r := true) (ownB_ints (own_ext hx6 HB.out.2.2.2.2.1) hul) (ownB_ints ho6 hul) (by simp)
          have HE := Lib.hid (And.intro heq (And.intro hx6 hul))
          have c86 := hx6.cell c8
          have f86 : w6.frozen? ⟨b8, 0, none⟩ = false := (Below.frozen hx6 (p := ⟨b8, 0, none⟩) (lt_of_cell c8)).trans f8
          clear heq hx6 hul hsr hlim hres ho6 c8 f8 l0 d0 d1 hk0
          gi_wp2
          refine ⟨trivial, (CallsIn.inRound l (callsIn_wide.2 HE.out.1)).mono ?_⟩
          rintro e w7 ⟨rfl, hx7⟩
          have ho7 := own_base (own_ext (HE.out.2.1.trans hx7) HB.out.2.2.2.2.1) (show W1.heap.size ≤ W6.heap.size + 2 by omega)
          have c87 := hx7.cell c86
          have f87 : w7.frozen? ⟨b8, 0, none⟩ = false := (Below.frozen hx7 (p := ⟨b8, 0, none⟩) (lt_of_cell c86)).trans f86
          have hsz5 : W1.heap.size ≤ w7.heap.size := by
            have h1 := HB.out.2.1.gr.size
            have h2 := HE.out.2.1.size
            have h3 := hx7.size
            omega
          have hov := over_c ho7 (fun y hy => by obtain ⟨z, _, rfl⟩ := List.mem_map.1 hy; exact ⟨_, rfl⟩) hsz5 HE.out.2.2
          have HO := Lib.hid (And.intro hov (HE.out.2.1.trans hx7))
          clear hov hx7 ho7 c86 f86
          gi_wp2
          refine ⟨trivial, (CallsIn.inRound l (callsIn_wide.2 HO.out.1)).mono ?_⟩
          rintro e w8 ⟨rfl, hg8⟩
          have hlow : some b8 ≠ v8.ownBlock := fun e => by have := (HB.out.2.2.2.2.1.lt b8 e.symm).1; omega
          have c88 := hg8.cell c87 hlow
          have f88 : w8.frozen? ⟨b8, 0, none⟩ = false := (World.frozen?_of_block (a := ⟨b8, 0, none⟩) (hg8.block b8 (lt_of_cell c87) hlow)).trans f87
          have hend := round_end (x := ⟨(k, v8), hk⟩) HB.out.2.1 (show W1.heap.size ≤ W6.heap.size from hW16) HO.out.2 hg8 HB.out.2.2.2.2.1
          have HEnd := Lib.hid hend
          clear hend hg8 hlow c87 f87 hsz5
          gi_wp2
          exact ⟨HEnd.out.1, HEnd.out.2.1, by rw [List.length_append, ← HB.out.2.2.2.2.2.2.2.2]; exact HEnd.out.2.2.1, (HEnd.out.2.2.2 D hDl (Array.getElem?_eq_some_iff.1 HB.out.2.2.2.2.2.2.2.1).1 hne).trans HB.out.2.2.2.2.2.2.2.1⟩
        case done =>
          rintro D2 xs W5 hD2 hxs ⟨hlp, hKD⟩ hK2
          have h8S : S0 ≤ b8 := by rw [HL.out.2.2.2.1]; exact HQ.out.1.size
          have hn8 : (Value.slice a n c).ownBlock ≠ some b8 := fun e => by have := (HQ.out.1.own.lt b8 e).2; have := HL.out.2.2.2.1; omega
          have hwl := hlp.wl HL.out.2.2.2.2 h8S hn8
          have hxl : xs.length = n := by
            have := congrArg List.length hxs
            rw [List.length_map] at this
            rw [HS.out.2.2]; exact this
          rw [hxl] at hlp
          have c8 := hlp.c8
          have l0 := hwl.l0
          have hwk := wakes13_c W5
          have HD := Lib.hid (And.intro hwk (And.intro hlp (And.intro hwl (And.intro hKD hK2))))
          clear hwk hlp hwl hKD hK2 hxl hxs
          go_wp2_with fail
          refine HD.out.1.mono ?_
          rintro e w9 ⟨rfl, hx9⟩
          have r0 := hx9.cell HD.out.2.2.1.r0
          have rf : w9.frozen? ⟨b1 + 1, 0, none⟩ = false := (Below.frozen hx9 (p := ⟨b1 + 1, 0, none⟩) (lt_of_cell HD.out.2.2.1.r0)).trans HD.out.2.2.1.rf
          have HX := Lib.hid hx9
          clear hx9 c8 l0
          go_wp2_with fail
          obtain ⟨p1, p2, p3⟩ := HD.out.2.2.1.pos
          have hS0 := HL.out.2.2.2.2.size
          have hne2 : D2 ≠ b1 + 1 := by omega
          have hne1 : D ≠ b1 + 1 := by omega
          have hDD : D ≠ D2 := by omega
          have k2 : (w9.setCell ⟨b1 + 1, 0, none⟩ (.bool true)).heap[D2]? = some (.deferred (some [])) := (Below.heap_setCell _ ⟨b1 + 1, 0, none⟩ _ D2 hne2).trans ((HX.out.block D2 (Array.getElem?_eq_some_iff.1 HD.out.2.2.2.2).1).trans HD.out.2.2.2.2)
          have k1 : (w9.setCell ⟨b1 + 1, 0, none⟩ (.bool true)).heap[D]? = some (.deferred (some [])) := (Below.heap_setCell _ ⟨b1 + 1, 0, none⟩ _ D hne1).trans ((HX.out.block D (Array.getElem?_eq_some_iff.1 HD.out.2.2.2.1).1).trans HD.out.2.2.2.1)
          have hEE : Ext w (w9.setCell ⟨b1 + 1, 0, none⟩ (.bool true)) := (Frm.refl (fun a _ => a = b1 + 1) w9).setCell (.inl rfl) _ |>.ext (HD.out.2.2.1.ext.trans HX.out) (fun k j e => by omega)
          have hcc : (w9.setCell ⟨b1 + 1, 0, none⟩ (.bool true)).cell? ⟨b1 + 1, 0, none⟩ = some (.bool true) := World.cell?_setCell_same _ _ _ r0
          generalize World.setCell _ _ _ = W10 at k1 k2 hEE hcc ⊢
          refine ⟨by simp, .inl ⟨_, _, rfl, run_takeDeferred k2, ?_⟩⟩
          refine ⟨by simp, .inl ⟨_, _, rfl, run_takeDeferred ((World.putObj_heap_other hDD).trans k1), ?_⟩⟩
          have hc1 : ((W10.putObj D2 (.deferred none)).putObj D (.deferred none)).cell? ⟨b1 + 1, 0, none⟩ = some (.bool true) :=
            (World.cell?_of_block (a := ⟨b1 + 1, 0, none⟩) (World.putObj_heap_other (Ne.symm hne1))).trans ((World.cell?_of_block (a := ⟨b1 + 1, 0, none⟩) (World.putObj_heap_other (Ne.symm hne2))).trans hcc)
          refine ⟨.bool true, by simp [results, Tryd.results3, go_sem, hc1], rfl, ?_⟩
          exact Below.trans hEE (Below.trans (belowK_b (w := w) (Nat.le_refl _) W10 D2 _ (.deferred none) (by omega) k2 rfl rfl) (belowK_b (w := w) (Nat.le_refl _) _ D _ _ (by omega) ((World.putObj_heap_other hDD).trans k1) rfl rfl))
        case stop => exact fun _ _ _ _ _ _ h _ => h.elim
  · have hj1 : (40 : Int) < N := by omega
    go_wp2_with fail
    refine (wakes13_c _).mono ?_
    rintro e w1 ⟨rfl, hx1⟩
    have q2 : w1.cell? ⟨w.heap.size + 1, 0, none⟩ = some (.bool false) := hx1.cell (by simp)
    have f2 : w1.frozen? ⟨w.heap.size + 1, 0, none⟩ = false := (Below.frozen hx1 (p := ⟨w.heap.size + 1, 0, none⟩) (by simp)).trans (by simp)
    have HX := Lib.hid hx1
    clear hx1
    go_wp2_with fail
    exact ⟨.bool true, by simp [results, Tryd.results3, go_sem, q2], rfl, (Frm.refl (fun a _ => a = w.heap.size + 1) w1).setCell (.inl rfl) _ |>.ext (((Ext.box _ _).alloc _).trans HX.out) (fun k j e => by omega)⟩
end Go.Proofs.YtihginaanlcilaaDoor
