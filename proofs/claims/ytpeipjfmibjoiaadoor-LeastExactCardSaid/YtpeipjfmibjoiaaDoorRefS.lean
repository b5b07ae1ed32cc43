/- The refiner's state in memory: each block that it owns bears a tag, so that nothing is shared. -/
import Derived.Test.YtpeipjfmibjoiaaDoorPush
import Derived.Test.YtpeipjfmibjoiaaDoorBegMath
namespace Go.Proofs.YtpeipjfmibjoiaaDoor
open Go.RowKit

def natV (l : List Nat) : List Value := l.map fun (s : Nat) => Value.int .i64 (s : Int)
theorem natV_length (l : List Nat) : (natV l).length = l.length := by simp [natV]
theorem natV_snoc (l : List Nat) (x : Nat) : natV (l ++ [x]) = natV l ++ [.int .i64 (x : Int)] := by simp [natV]
theorem natV_get {l : List Nat} {i : Nat} (h : i < l.length) : (natV l)[i]? = some (.int .i64 (l.getD i 0 : Nat)) := by
  rw [natV, List.getElem?_map, List.getD_eq_getElem?_getD, List.getElem?_eq_getElem h]; rfl

/-- numbers that are only read; their block is in Z -/
def ReadN (w : World) (Z : Nat → Prop) (v : Value) (l : List Nat) : Prop :=
  ∃ a cap, v = .slice a l.length cap ∧ (0 < l.length → ∃ g, a = some ⟨g, 0, none⟩ ∧ Z g ∧ ∀ i, i < l.length → w.cell? ⟨g, i, none⟩ = some (.int .i64 (l.getD i 0 : Nat)))
/-- of each state and byte those that lead to it: only read -/
def FromS (w : World) (Z : Nat → Prop) (fv : Value) (N : Nat) (pre : Nat → Nat → List Nat) : Prop :=
  ∃ F cap, fv = .slice (some ⟨F, 0, none⟩) N cap ∧ Z F ∧ ∀ s a, s < N → a < 256 → ∃ v, w.cell? ⟨F, s * 256 + a, none⟩ = some v ∧ ReadN w Z v (pre s a)

theorem ReadN.kept {w w' : World} {Z Z' : Nat → Prop} {v : Value} {l : List Nat} (h : ReadN w Z v l) (hk : ∀ g, g < w.heap.size → Z g → w'.heap[g]? = w.heap[g]? ∧ Z' g) : ReadN w' Z' v l := by
  obtain ⟨a, cap, h1, h2⟩ := h
  refine ⟨a, cap, h1, fun h0 => ?_⟩
  obtain ⟨g, h3, h4, h5⟩ := h2 h0
  have hg := hk g (World.block_lt_of_cell? _ _ (h5 0 h0)) h4
  exact ⟨g, h3, hg.2, fun i hi => (World.cell?_of_block (a := ⟨g, i, none⟩) hg.1).trans (h5 i hi)⟩
theorem FromS.kept {w w' : World} {Z Z' : Nat → Prop} {fv : Value} {N : Nat} {pre : Nat → Nat → List Nat} (hN : 0 < N) (h : FromS w Z fv N pre) (hk : ∀ g, g < w.heap.size → Z g → w'.heap[g]? = w.heap[g]? ∧ Z' g) : FromS w' Z' fv N pre := by
  obtain ⟨F, cap, h1, h2, h3⟩ := h
  obtain ⟨v0, h4, _⟩ := h3 0 0 hN (by omega)
  have hg := hk F (World.block_lt_of_cell? _ _ h4) h2
  refine ⟨F, cap, h1, hg.2, fun s a hs ha => ?_⟩
  obtain ⟨v, h5, h6⟩ := h3 s a hs ha
  exact ⟨v, (World.cell?_of_block (a := ⟨F, s * 256 + a, none⟩) hg.1).trans h5, h6.kept hk⟩

/-- the refiner: f tells the struct's cells, own whose each block is -/
structure RefS (w : World) (rb B : Nat) (own : Nat → Nat) (f : Nat → Value) (N : Nat) (P : Nat → Nat) (Bs : List (List Nat)) (hs : List Value) (L : List (Nat × Nat)) (mb n : Nat) (pre : Nat → Nat → List Nat) : Prop where
  pos : 0 < N
  row : w.rowIs rb 160 7 f
  rbB : B ≤ rb
  rbT : own rb = 5
  from_ : FromS w (fun g => own g = 0) (f 2) N pre
  block : w.ownsRow B 3 1 (f 3) N (natV ((List.range N).map P))
  blockT : ∀ g, (f 3).ownBlock = some g → own g = 1
  tab : w.ownsRow B 23 1 (f 4) Bs.length hs
  tabT : ∀ g, (f 4).ownBlock = some g → own g = 2
  rows : ∀ (i : Nat) (h : Value) (l : List Nat), hs[i]? = some h → Bs[i]? = some l → w.ownsRow B 3 1 h l.length (natV l) ∧ ∀ g, h.ownBlock = some g → own g = i + 10
  wt : Wt w B (f 5) L mb n
  f6 : f 6 = .map (some mb)
  wtT : ∀ g, (f 5).ownBlock = some g → own g = 3
  mbT : own mb = 4
  mbB : B ≤ mb

section
variable {w w' : World} {rb B : Nat} {own own' : Nat → Nat} {f : Nat → Value} {N : Nat} {P : Nat → Nat} {Bs : List (List Nat)} {hs : List Value} {L : List (Nat × Nat)} {mb n : Nat} {pre : Nat → Nat → List Nat}

theorem Wt.kept {wv : Value} (h : Wt w B wv L mb n) (h1 : ∀ g, g < w.heap.size → wv.ownBlock = some g → w'.heap[g]? = w.heap[g]?) (h2 : w'.heap[mb]? = w.heap[mb]?) : Wt w' B wv L mb n :=
  ⟨own_block h.row fun g hg hl => h1 g hl hg, h.set.block h2, h.bd, h.ne, h.nd⟩

/-- nothing of the refiner's is touched -/
theorem RefS.keep (h : RefS w rb B own f N P Bs hs L mb n pre) (hk : ∀ g, g < w.heap.size → (own g ≠ 0 → B ≤ g) → w'.heap[g]? = w.heap[g]?) : RefS w' rb B own f N P Bs hs L mb n pre where
  pos := h.pos
  row := h.row.of_block (hk rb h.row.lt fun _ => h.rbB)
  rbB := h.rbB
  rbT := h.rbT
  from_ := h.from_.kept h.pos fun g hg hz => ⟨hk g hg fun e => absurd hz e, hz⟩
  block := own_block h.block fun g hg hl => hk g hl fun _ => (h.block.lt g hg).1
  blockT := h.blockT
  tab := own_block h.tab fun g hg hl => hk g hl fun _ => (h.tab.lt g hg).1
  tabT := h.tabT
  rows := fun i hv l h1 h2 => ⟨own_block (h.rows i hv l h1 h2).1 fun g hg hl => hk g hl fun _ => ((h.rows i hv l h1 h2).1.lt g hg).1, (h.rows i hv l h1 h2).2⟩
  wt := h.wt.kept (fun g hl hg => hk g hl fun _ => (h.wt.row.lt g hg).1) (hk mb h.wt.set.lt fun _ => h.mbB)
  f6 := h.f6
  wtT := h.wtT
  mbT := h.mbT
  mbB := h.mbB

theorem RefS.ext (h : RefS w rb B own f N P Bs hs L mb n pre) (hx : Ext w w') : RefS w' rb B own f N P Bs hs L mb n pre := h.keep fun g hg _ => hx.block g hg

/-- the tags of blocks that are not there yet may be told otherwise -/
theorem RefS.retag (h : RefS w rb B own f N P Bs hs L mb n pre) (ho : ∀ g, g < w.heap.size → own' g = own g) : RefS w rb B own' f N P Bs hs L mb n pre where
  pos := h.pos
  row := h.row
  rbB := h.rbB
  rbT := (ho rb h.row.lt).trans h.rbT
  from_ := h.from_.kept h.pos fun g hg hz => ⟨rfl, (ho g hg).trans hz⟩
  block := h.block
  blockT := fun g hg => (ho g (h.block.lt g hg).2).trans (h.blockT g hg)
  tab := h.tab
  tabT := fun g hg => (ho g (h.tab.lt g hg).2).trans (h.tabT g hg)
  rows := fun i hv l h1 h2 => ⟨(h.rows i hv l h1 h2).1, fun g hg => (ho g ((h.rows i hv l h1 h2).1.lt g hg).2).trans ((h.rows i hv l h1 h2).2 g hg)⟩
  wt := h.wt
  f6 := h.f6
  wtT := fun g hg => (ho g (h.wt.row.lt g hg).2).trans (h.wtT g hg)
  mbT := (ho mb h.wt.set.lt).trans h.mbT
  mbB := h.mbB

/-- a splitter has been pushed -/
theorem RefS.pushed (h : RefS w rb B own f N P Bs hs L mb n pre) {x y : Nat} {e : Ending} (hp : Pushed rb B mb n f (f 5) L x y w e w') :
    e = .returned (.tuple #[]) ∧ ∃ own' f', RefS w' rb B own' f' N P Bs hs (L ++ [(x, y)]) mb (n + 1) pre ∧ (∀ i, i ≠ 5 → f' i = f i) ∧ (∀ g, g < w.heap.size → own' g = own g) ∧ Bl (fun g => B ≤ g) w w' ∧ (∀ g, g < w.heap.size → 6 ≤ own g → w'.heap[g]? = w.heap[g]?) := by
  obtain ⟨rfl, wv', hrow, hwt, hbl, hat⟩ := hp
  have hlt := h.row.lt
  let own' := fun g => if g < w.heap.size then own g else if wv'.ownBlock = some g then 3 else 0
  have ho : ∀ g, g < w.heap.size → own' g = own g := fun g hg => if_pos hg
  have hk : ∀ g, g < w.heap.size → own g ≠ 3 → own g ≠ 4 → own g ≠ 5 → w'.heap[g]? = w.heap[g]? := fun g hg h3 h4 h5 => hbl.block g hg (by
    rintro (rfl | rfl | e)
    · exact h5 h.rbT
    · exact h4 h.mbT
    · exact h3 (h.wtT g e))
  refine ⟨rfl, own', fun i => if i = 5 then wv' else f i, ?_, fun i hi => if_neg hi, ho, hbl.mono fun k hk e => ?_, fun g hg h6 => hk g hg (by omega) (by omega) (by omega)⟩
  · have h2 := h.retag ho
    refine ⟨h.pos, hrow, h.rbB, h2.rbT, ?_, ?_, ?_, ?_, ?_, ?_, ?_, ?_, ?_, h2.mbT, h.mbB⟩
    · show FromS w' _ (f 2) N pre
      refine h.from_.kept h.pos fun g hg hz => ⟨hk g hg (by omega) (by omega) (by omega), (ho g hg).trans hz⟩
    · show w'.ownsRow B _ 1 (f 3) N _
      exact own_block h.block fun g hg hl => hk g hl (by rw [h.blockT g hg]; omega) (by rw [h.blockT g hg]; omega) (by rw [h.blockT g hg]; omega)
    · exact h2.blockT
    · show w'.ownsRow B _ 1 (f 4) _ _
      exact own_block h.tab fun g hg hl => hk g hl (by rw [h.tabT g hg]; omega) (by rw [h.tabT g hg]; omega) (by rw [h.tabT g hg]; omega)
    · exact h2.tabT
    · intro i hv l h3 h4
      have h5 := h.rows i hv l h3 h4
      exact ⟨own_block h5.1 fun g hg hl => hk g hl (by rw [h5.2 g hg]; omega) (by rw [h5.2 g hg]; omega) (by rw [h5.2 g hg]; omega), (h2.rows i hv l h3 h4).2⟩
    · exact hwt
    · exact h.f6
    · intro g hg
      have hg : wv'.ownBlock = some g := hg
      show (if g < w.heap.size then own g else if wv'.ownBlock = some g then 3 else 0) = 3
      by_cases e : g < w.heap.size
      · rw [if_pos e]
        rcases hat with h3 | ⟨g', h3, h4⟩
        · exact h.wtT g (by rw [← h3]; exact hg)
        · rw [h3] at hg; simp at hg; omega
      · rw [if_neg e, if_pos hg]
  · rcases e with rfl | rfl | e
    · exact h.rbB
    · exact h.mbB
    · exact (h.wt.row.lt k e).1

/-- what a push leaves -/
def PushR (w : World) (rb B : Nat) (own : Nat → Nat) (f : Nat → Value) (N : Nat) (P : Nat → Nat) (Bs : List (List Nat)) (hs : List Value) (L : List (Nat × Nat)) (mb n : Nat) (pre : Nat → Nat → List Nat) (x y : Nat) (e : Ending) (w' : World) : Prop :=
  e = .returned (.tuple #[]) ∧ ∃ own' f' L', RefS w' rb B own' f' N P Bs hs L' mb (n + 1) pre ∧ (∀ i, i ≠ 5 → f' i = f i) ∧ (∀ g, g < w.heap.size → own' g = own g) ∧ Bl (fun g => B ≤ g) w w' ∧
    (x, y) ∈ L' ∧ (∀ p, p ∈ L → p ∈ L') ∧ (∀ p, p ∈ L' → p ∈ L ∨ p = (x, y)) ∧ L'.length ≤ L.length + 1 ∧ (∀ g, g < w.heap.size → 6 ≤ own g → w'.heap[g]? = w.heap[g]?)

theorem push_r (h : RefS w rb B own f N P Bs hs L mb n pre) {x y : Nat} (hx : x < 1000000) (hy : y < 1000000) (hn : n < 1000000) (hL : L.length < 1000000) :
    Calls Tryd.prog 134 #[.pointer (some ⟨rb, 0, none⟩), splV x y] w (PushR w rb B own f N P Bs hs L mb n pre x y) := by
  by_cases hin : (x, y) ∈ L
  · refine (push_has h.row h.f6 h.wt hx hy hin).mono ?_
    rintro e w' ⟨rfl, hxw⟩
    have h2 := h.ext hxw
    refine ⟨rfl, own, f, L, { h2 with wt := ⟨h2.wt.row, h2.wt.set.mono (by omega), h2.wt.bd, h2.wt.ne, h2.wt.nd⟩ }, fun _ _ => rfl, fun _ _ => rfl, .of_ext hxw, hin, fun p hp => hp, fun p hp => .inl hp, by omega, fun g hg _ => hxw.block g hg⟩
  · refine (push_new h.row rfl h.f6 h.wt hx hy hin hn hL ?_ ?_ ?_).mono ?_
    · have := h.row.lt; have := h.rbB; omega
    · intro e
      have h1 := h.rbT
      have h2 := h.mbT
      rw [e] at h1; omega
    · intro e
      have h1 := h.wtT rb e
      have h2 := h.rbT
      omega
    · intro e w' hp
      obtain ⟨he, own', f', h1, h2, h3, h4, h5⟩ := h.pushed hp
      exact ⟨he, own', f', _, h1, h2, h3, h4, by simp, fun p hp => List.mem_append_left _ hp, fun p hp => by simpa using hp, by simp, h5⟩
end
end Go.Proofs.YtpeipjfmibjoiaaDoor
