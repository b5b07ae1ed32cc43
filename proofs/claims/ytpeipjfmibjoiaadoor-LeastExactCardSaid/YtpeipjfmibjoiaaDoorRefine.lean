/- refiner.refine: splits till nothing waits. -/
import Derived.Test.YtpeipjfmibjoiaaDoorSplit
import Derived.Test.YtpeipjfmibjoiaaDoorIntMap
namespace Go.Proofs.YtpeipjfmibjoiaaDoor
open Go.RowKit

/-- tags of blocks that are none of the refiner's may be told otherwise -/
theorem RefS.retagT {w : World} {rb B : Nat} {own own' : Nat → Nat} {f : Nat → Value} {N : Nat} {P : Nat → Nat} {Bs : List (List Nat)} {hs : List Value} {L : List (Nat × Nat)} {mb n : Nat} {pre : Nat → Nat → List Nat}
    (h : RefS w rb B own f N P Bs hs L mb n pre) (ho : ∀ g, g < w.heap.size → (own g ≤ 5 ∨ 10 ≤ own g) → own' g = own g) : RefS w rb B own' f N P Bs hs L mb n pre where
  pos := h.pos
  row := h.row
  rbB := h.rbB
  rbT := (ho rb h.row.lt (by have := h.rbT; omega)).trans h.rbT
  from_ := h.from_.kept h.pos fun g hg hz => ⟨rfl, (ho g hg (by omega)).trans hz⟩
  block := h.block
  blockT := fun g hg => (ho g (h.block.lt g hg).2 (by have := h.blockT g hg; omega)).trans (h.blockT g hg)
  tab := h.tab
  tabT := fun g hg => (ho g (h.tab.lt g hg).2 (by have := h.tabT g hg; omega)).trans (h.tabT g hg)
  rows := fun i hv l h1 h2 => ⟨(h.rows i hv l h1 h2).1, fun g hg => (ho g ((h.rows i hv l h1 h2).1.lt g hg).2 (by have := (h.rows i hv l h1 h2).2 g hg; omega)).trans ((h.rows i hv l h1 h2).2 g hg)⟩
  wt := h.wt
  f6 := h.f6
  wtT := fun g hg => (ho g (h.wt.row.lt g hg).2 (by have := h.wtT g hg; omega)).trans (h.wtT g hg)
  mbT := (ho mb h.wt.set.lt (by have := h.mbT; omega)).trans h.mbT
  mbB := h.mbB

/-- the memory in the marking loops: hit (tag 6, block G), seen (tag 9, block gM), touched (tag 7) -/
structure Mark0 (w W0 : World) (own0 : Nat → Nat) (wr : World) (rb B : Nat) (own : Nat → Nat) (f : Nat → Value) (N : Nat) (P : Nat → Nat) (Bs : List (List Nat)) (hs : List Value) (L : List (Nat × Nat)) (mb n : Nat) (pre : Nat → Nat → List Nat)
    (G gM : Nat) (tv : Value) (tl : List Nat) (hit : Nat → Bool) (F : Int → Option Nat) (m : Nat) : Prop where
  ref : RefS wr rb B own f N P Bs hs L mb n pre
  gT : own G = 6
  gB : B ≤ G
  hit : ∀ s, s < N → wr.cell? ⟨G, s, none⟩ = some (.bool (hit s))
  frz : ∀ s, wr.frozen? ⟨G, s, none⟩ = false
  mT : own gM = 9
  mB : B ≤ gM
  seen : IntM wr gM m F
  tou : Loc wr B own 7 tv tl
  bl : Bl (fun g => B ≤ g) w wr
  size0 : W0.heap.size ≤ wr.heap.size
  kept0 : ∀ g, g < W0.heap.size → own0 g = 0 → wr.heap[g]? = W0.heap[g]? ∧ own g = 0

section
variable {w wr W0 W2 W3 : World} {own0 : Nat → Nat} {rb B : Nat} {own : Nat → Nat} {f : Nat → Value} {N : Nat} {P : Nat → Nat} {Bs : List (List Nat)} {hs : List Value} {L : List (Nat × Nat)} {mb n : Nat} {pre : Nat → Nat → List Nat}
  {G gM : Nat} {tv : Value} {tl : List Nat} {hit : Nat → Bool} {F : Int → Option Nat} {m : Nat}

theorem Mark0.start (h : RefS W2 rb B own f N P Bs hs L mb n pre) (hx : Ext W2 W3) (hG : W2.heap.size ≤ G) (hM : W2.heap.size ≤ gM) (hne : G ≠ gM) (hcells : ∀ s, s < N → W3.cell? ⟨G, s, none⟩ = some (.bool false))
    (hfrz : ∀ s, W3.frozen? ⟨G, s, none⟩ = false) (hseen : IntM W3 gM 0 (fun _ => none)) (hbl : Bl (fun g => B ≤ g) w W2) :
    ∃ own3, Mark0 w W3 own3 W3 rb B own3 f N P Bs hs L mb n pre G gM (.slice none 0 0) [] (fun _ => false) (fun _ => none) 0 ∧ ∀ g, g < W2.heap.size → own3 g = own g := by
  have h1 := h.row.lt
  have h2 := h.rbB
  refine ⟨fun g => if g < W2.heap.size then own g else if g = G then 6 else if g = gM then 9 else 0, ⟨?_, ?_, by omega, hcells, hfrz, ?_, by omega, hseen, Loc.nil _ _ _ _, hbl.trans (.of_ext hx), Nat.le_refl _, fun g _ h => ⟨rfl, h⟩⟩, fun g hg => if_pos hg⟩
  · exact (h.retag (own' := fun g => if g < W2.heap.size then own g else if g = G then 6 else if g = gM then 9 else 0) fun g hg => if_pos hg).ext hx
  · show (if G < W2.heap.size then own G else if G = G then 6 else _) = 6
    rw [if_neg (by omega), if_pos rfl]
  · show (if gM < W2.heap.size then own gM else if gM = G then 6 else if gM = gM then 9 else 0) = 9
    rw [if_neg (by omega), if_neg (fun e => hne e.symm), if_pos rfl]

theorem Mark0.ext (h : Mark0 w W0 own0 wr rb B own f N P Bs hs L mb n pre G gM tv tl hit F m) (hx : Ext wr W2) : Mark0 w W0 own0 W2 rb B own f N P Bs hs L mb n pre G gM tv tl hit F m :=
  ⟨h.ref.ext hx, h.gT, h.gB, fun s hs => hx.cell (h.hit s hs), fun s => (Below.frozen hx (p := ⟨G, s, none⟩) (World.block_lt_of_cell? wr ⟨G, 0, none⟩ (h.hit 0 h.ref.pos) : G < wr.heap.size)).trans (h.frz s), h.mT, h.mB, h.seen.block (hx.block gM h.seen.lt), h.tou.ext hx, h.bl.trans (.of_ext hx), Nat.le_trans h.size0 hx.size, fun g h1 h2 => ⟨(hx.block g (Nat.lt_of_lt_of_le h1 h.size0)).trans (h.kept0 g h1 h2).1, (h.kept0 g h1 h2).2⟩⟩

/-- a state is hit -/
theorem Mark0.mark (h : Mark0 w W0 own0 wr rb B own f N P Bs hs L mb n pre G gM tv tl hit F m) {p : Nat} (_ : p < N) :
    Mark0 w W0 own0 (wr.setCell ⟨G, p, none⟩ (.bool true)) rb B own f N P Bs hs L mb n pre G gM tv tl (fun s => decide (s = p) || hit s) F m := by
  have hk : ∀ g, own g ≠ 6 → (wr.setCell ⟨G, p, none⟩ (.bool true)).heap[g]? = wr.heap[g]? := fun g hg => Below.heap_setCell _ _ _ _ (by simp only [ne_eq]; rintro rfl; exact hg h.gT)
  refine ⟨h.ref.keepT fun g _ hg => hk g (by omega), h.gT, h.gB, fun s hs => ?_, fun s => by rw [World.frozen?_setCell]; exact h.frz s, h.mT, h.mB, h.seen.block (hk gM (by rw [h.mT]; omega)), h.tou.kept fun g _ hg => hk g (by omega), h.bl.setCell (.inl h.gB) _, by rw [World.size_setCell]; exact h.size0, fun g h1 h2 => ⟨(hk g (by have := (h.kept0 g h1 h2).2; omega)).trans (h.kept0 g h1 h2).1, (h.kept0 g h1 h2).2⟩⟩
  by_cases e : s = p
  · subst e
    rw [World.cell?_setCell_same _ _ _ (h.hit s hs)]
    simp
  · rw [World.cell?_setCell_other _ _ _ _ (by simp only [ne_eq, Addr.mk.injEq, true_and, and_true]; exact fun e' => e e'.symm), h.hit s hs]
    simp [e]

/-- a block is seen -/
theorem Mark0.see (h : Mark0 w W0 own0 wr rb B own f N P Bs hs L mb n pre G gM tv tl hit F m) {F' : Int → Option Nat} (hs' : IntM W2 gM (m + 1) F') (ht : wr.mapTurned W2 gM) :
    Mark0 w W0 own0 W2 rb B own f N P Bs hs L mb n pre G gM tv tl hit F' (m + 1) := by
  have hg := ht.grown
  have hk : ∀ g, g < wr.heap.size → own g ≠ 9 → W2.heap[g]? = wr.heap[g]? := fun g hl ho => hg.block g hl (by simp only [ne_eq, Option.some.injEq]; rintro rfl; exact ho h.mT)
  have hGl : G < wr.heap.size := World.block_lt_of_cell? _ _ (h.hit 0 h.ref.pos)
  have hGk := hk G hGl (by rw [h.gT]; omega)
  refine ⟨h.ref.keepT fun g hl ho => hk g hl (by omega), h.gT, h.gB, fun s hs => (World.cell?_of_block (a := ⟨G, s, none⟩) hGk).trans (h.hit s hs), fun s => (World.frozen?_of_block (a := ⟨G, s, none⟩) hGk).trans (h.frz s), h.mT, h.mB, hs', h.tou.kept fun g hl ho => hk g hl (by omega),
    h.bl.grown hg (fun g e => .inl (by simp only [Option.some.injEq] at e; subst e; exact h.mB)), Nat.le_trans h.size0 hg.size, fun g h1 h2 => ⟨(hk g (Nat.lt_of_lt_of_le h1 h.size0) (by have := (h.kept0 g h1 h2).2; omega)).trans (h.kept0 g h1 h2).1, (h.kept0 g h1 h2).2⟩⟩

/-- a block is told to be touched -/
theorem Mark0.touch (h : Mark0 w W0 own0 wr rb B own f N P Bs hs L mb n pre G gM tv tl hit F m) {W2 W : World} (hx : Ext wr W2) {v' : Value} {x : Nat} (hown : W.ownsRow B 3 1 v' (tl.length + 1) (natV tl ++ [.int .i64 (x : Int)])) (hg : W2.grownBy W tv.ownBlock)
    (hat : v'.ownBlock = tv.ownBlock ∨ v'.ownBlock = some W2.heap.size) :
    ∃ own', Mark0 w W0 own0 W rb B own' f N P Bs hs L mb n pre G gM v' (tl ++ [x]) hit F m := by
  obtain ⟨own', h1, h2, h3⟩ := h.tou.append hx hown hg hat
  have h2' : ∀ g, g < W0.heap.size → own' g = own g := fun g hg => h2 g (Nat.lt_of_lt_of_le hg h.size0)
  have hGl : G < wr.heap.size := World.block_lt_of_cell? _ _ (h.hit 0 h.ref.pos)
  have hGk := h3 G hGl (by rw [h.gT]; omega)
  refine ⟨own', (h.ref.retag h2).keepT fun g hl ho => h3 g hl (by rw [h2 g hl] at ho; omega), (h2 G hGl).trans h.gT, h.gB, fun s hs => (World.cell?_of_block (a := ⟨G, s, none⟩) hGk).trans (h.hit s hs), fun s => (World.frozen?_of_block (a := ⟨G, s, none⟩) hGk).trans (h.frz s), (h2 gM h.seen.lt).trans h.mT, h.mB,
    h.seen.block (h3 gM h.seen.lt (by rw [h.mT]; omega)), h1, (h.bl.trans (.of_ext hx)).grown hg (fun g e => .inl (h.tou.1.lt g e).1), Nat.le_trans h.size0 (Nat.le_trans hx.size hg.size), fun g h1 h2 => ⟨(h3 g (Nat.lt_of_lt_of_le h1 h.size0) (by have := (h.kept0 g h1 h2).2; omega)).trans (h.kept0 g h1 h2).1, (h2' g h1).trans (h.kept0 g h1 h2).2⟩⟩

theorem Mark0.congr (h : Mark0 w W0 own0 wr rb B own f N P Bs hs L mb n pre G gM tv tl hit F m) {hit' : Nat → Bool} (e : ∀ s, s < N → hit' s = hit s) : Mark0 w W0 own0 wr rb B own f N P Bs hs L mb n pre G gM tv tl hit' F m :=
  { h with hit := fun s hs => by rw [e s hs]; exact h.hit s hs }

/-- the states of a list -/
def hitD (D : List Nat) (s : Nat) : Bool := decide (s ∈ D)

/-- what is marked, seen and touched, told of the states D that have been marked -/
structure MarkM (P : Nat → Nat) (K : Nat) (tl : List Nat) (D : List Nat) (F : Int → Option Nat) : Prop where
  link : ∀ b : Nat, (F (b : Int)).isSome = decide (b ∈ tl)
  nodup : tl.Nodup
  lt : ∀ b ∈ tl, b < K
  all : ∀ p ∈ D, P p ∈ tl

theorem MarkM.nil (P : Nat → Nat) (K : Nat) : MarkM P K [] [] (fun _ => none) := ⟨fun b => by simp, by simp, fun b hb => (by cases hb), fun p hp => (by cases hp)⟩
theorem MarkM.old {K : Nat} {D : List Nat} (h : MarkM P K tl D F) {p : Nat} (hp : P p ∈ tl) : MarkM P K tl (D ++ [p]) F :=
  ⟨h.link, h.nodup, h.lt, fun q hq => by
    rcases List.mem_append.1 hq with hq | hq
    · exact h.all q hq
    · rw [List.mem_singleton] at hq; subst hq; exact hp⟩
theorem MarkM.new {K : Nat} {D : List Nat} (h : MarkM P K tl D F) {p y : Nat} (hp : P p ∉ tl) (hK : P p < K) : MarkM P K (tl ++ [P p]) (D ++ [p]) (fun x => if x = (P p : Int) then some y else F x) :=
  ⟨fun b => by
    by_cases e : b = P p
    · subst e; simp
    · rw [if_neg (by omega), h.link b]; simp [e],
   List.nodup_append.2 ⟨h.nodup, by simp, fun a ha b hb e => by rw [List.mem_singleton] at hb; subst hb; subst e; exact hp ha⟩,
   fun b hb => by
    rcases List.mem_append.1 hb with hb | hb
    · exact h.lt b hb
    · rw [List.mem_singleton] at hb; subst hb; exact hK,
   fun q hq => by
    rcases List.mem_append.1 hq with hq | hq
    · exact List.mem_append_left _ (h.all q hq)
    · rw [List.mem_singleton] at hq; subst hq; simp⟩

/-- in the loop that splits: T have been split -/
structure SplS (w wr : World) (rb B : Nat) (f0 : Nat → Value) (N : Nat) (P0 : Nat → Nat) (K : Nat) (L0 : List (Nat × Nat)) (mb : Nat) (pre : Nat → Nat → List Nat) (hv tv : Value) (tl : List Nat) (hit : Nat → Bool) (T : List Nat)
    (own : Nat → Nat) (f : Nat → Value) (P : Nat → Nat) (Bs : List (List Nat)) (hs : List Value) (L : List (Nat × Nat)) (n : Nat) : Prop where
  ref : RefS wr rb B own f N P Bs hs L mb n pre
  f3 : ∀ i, i < 3 → f i = f0 i
  bl : Bl (fun g => B ≤ g) w wr
  hitS : HitS wr B own hv N hit
  tou : Loc wr B own 6 tv tl
  prog : LM.Prog N P0 K hit T P Bs
  sub : ∀ p, p ∈ L0 → p ∈ L
  new : ∀ b a, K ≤ b → b < Bs.length → a < 256 → (b, a) ∈ L
  bd : ∀ p, p ∈ L → p.1 < Bs.length ∧ p.2 < 256
  nle : n ≤ 256 * Bs.length
  len : L.length ≤ n
  meas : L.length + 256 * K ≤ L0.length + 256 * Bs.length

theorem SplS.start (h : Mark0 w W0 own0 wr rb B own f N P Bs hs L mb n pre G gM tv tl hit F m) {f0 : Nat → Value} (hf : ∀ i, i < 3 → f i = f0 i) (hB : LM.Blk N P Bs) (hbd : ∀ p, p ∈ L → p.1 < Bs.length ∧ p.2 < 256) (hn : n ≤ 256 * Bs.length) (hl : L.length ≤ n) (c : Nat) :
    ∃ own', SplS w wr rb B f0 N P Bs.length L mb pre (.slice (some ⟨G, 0, none⟩) N c) tv tl hit [] own' f P Bs hs L n := by
  refine ⟨fun g => if own g = 7 then 6 else own g, h.ref.retagT fun g _ ho => if_neg (by omega), hf, h.bl, ⟨G, c, rfl, ?_, h.hit⟩, ⟨h.tou.1, fun g hg => ?_⟩, .start hB hit, fun p hp => hp, fun b a h1 h2 _ => by omega, hbd, hn, hl, Nat.le_refl _⟩
  · show (if own G = 7 then 6 else own G) = 6
    rw [h.gT]; rfl
  · show (if own g = 7 then 6 else own g) = 6
    rw [if_pos (h.tou.2 g hg)]

theorem SplS.step {f0 : Nat → Value} {P0 : Nat → Nat} {K : Nat} {L0 : List (Nat × Nat)} {hv : Value} {T : List Nat} {w' : World} {e : Ending} (h : SplS w wr rb B f0 N P0 K L0 mb pre hv tv tl hit T own f P Bs hs L n) {b : Nat} (hb : b < K) (hT : b ∉ T) {l : List Nat} (hl : Bs[b]? = some l)
    (hr : SplitR wr rb B own f N P Bs L mb n pre hit b l e w') : e = .returned (.tuple #[]) ∧ ∃ own' f' P' Bs' hs' L' n', SplS w w' rb B f0 N P0 K L0 mb pre hv tv tl hit (T ++ [b]) own' f' P' Bs' hs' L' n' := by
  obtain ⟨rfl, own', f', P', Bs', hs', L', n', h1, h2, h3, h4, h5⟩ := hr
  refine ⟨rfl, own', f', ?_⟩
  have hh := h.hitS.kept h4 h.ref.pos
  have ht : Loc w' B own' 6 tv tl := ⟨own_block h.tou.1 fun g hg hl => (h4 g hl (h.tou.2 g hg)).1, fun g hg => (h4 g (h.tou.1.lt g hg).2 (h.tou.2 g hg)).2⟩
  rcases h5 with ⟨h6, rfl, rfl, rfl, rfl⟩ | ⟨h6, h7, h8, rfl, h9, h10, h11, h12, rfl⟩
  · exact ⟨P', Bs', hs', L', n', h1, fun i hi => (h2 i hi).trans (h.f3 i hi), h.bl.trans h3, hh, ht, h.prog.stays hb hT hl h6, h.sub, h.new, h.bd, h.nle, h.len, h.meas⟩
  · have hp := h.prog.splits hb hT hl h6 h7
    have hlen : (Bs.set b (LM.parts hit l).1 ++ [(LM.parts hit l).2]).length = Bs.length + 1 := by simp
    have hnle := h.nle
    have hlen' := h.len
    have hme := h.meas
    refine ⟨LM.moved P (LM.parts hit l).2 Bs.length, _, hs', L', _, { h1 with block := ?_ }, fun i hi => (h2 i hi).trans (h.f3 i hi), h.bl.trans h3, hh, ht, hp, fun p hp' => h10 p (h.sub p hp'), fun b' a q1 q2 q3 => ?_, fun p hp' => ?_, ?_, ?_, ?_⟩
    · rw [show (List.range N).map (LM.moved P (LM.parts hit l).2 Bs.length) = (List.range N).map P' from List.map_congr_left fun s hs => (h8 s (by simpa using hs)).symm]
      exact h1.block
    · rw [hlen] at q2
      by_cases e : b' = Bs.length
      · subst e; exact h9 a q3
      · exact h10 _ (h.new b' a q1 (by omega) q3)
    · rw [hlen]
      rcases h11 p hp' with q1 | q1
      · have := h.bd p q1; omega
      · omega
    · rw [hlen]; omega
    · omega
    · rw [hlen]; omega
end
end Go.Proofs.YtpeipjfmibjoiaaDoor

namespace Go.Proofs.YtpeipjfmibjoiaaDoor
open Go.RowKit

theorem bool_info12 : (Tryd.prog.info? 4).map (fun i => (i.zero, i.size, i.bytes)) = some (some (.bool false), 1, 1) := by kernel_rfl
theorem own_shrink {w : World} {B : Nat} {e : TypeId} {size g n cap m : Nat} {xs : List Value} (h : w.ownsRow B e size (.slice (some ⟨g, 0, none⟩) n cap) n xs) (hm : m ≤ n) : w.ownsRow B e size (.slice (some ⟨g, 0, none⟩) m cap) m (xs.take (m * size)) := by
  obtain ⟨h1, h2⟩ := h
  have hmn : m * size ≤ n * size := Nat.mul_le_mul_right size hm
  refine ⟨by rw [List.length_take, h1]; omega, .inr ?_⟩
  rcases h2 with ⟨h3, _⟩ | ⟨g', c', cur, hv, hg, hh, hn, hml, hs, hx⟩
  · cases h3
  · simp only [Value.slice.injEq, Option.some.injEq, Addr.mk.injEq, true_and, and_true] at hv
    obtain ⟨rfl, rfl⟩ := hv
    exact ⟨_, _, cur, rfl, hg, hh, by omega, hml, hs, by rw [← hx, List.take_take, Nat.min_eq_left hmn]⟩

theorem own_shape {w : World} {B : Nat} {e : TypeId} {size n : Nat} {v : Value} {xs : List Value} (h : w.ownsRow B e size v n xs) : ∃ a cap, v = .slice a n cap := by
  rcases h.2 with ⟨h1, h2⟩ | ⟨g, cap, _, hv, _⟩
  · exact ⟨none, 0, by rw [h1, h2]⟩
  · exact ⟨_, cap, hv⟩

theorem splCells_length (L : List (Nat × Nat)) : (splCells L).length = L.length * 2 := by
  unfold splCells
  induction L with
  | nil => rfl
  | cons q L ih => simp only [List.flatMap_cons, List.length_append, List.length_cons, List.length_nil, ih]; omega
theorem splCells_last (L : List (Nat × Nat)) (x y : Nat) : (splCells (L ++ [(x, y)]))[L.length * 2]? = some (.int .i64 (x : Int)) ∧ (splCells (L ++ [(x, y)]))[L.length * 2 + 1]? = some (.int .i64 (y : Int)) := by
  have h := splCells_length L
  rw [splCells_snoc]
  constructor
  · rw [List.getElem?_append_right (by omega), h, Nat.sub_self]; rfl
  · rw [List.getElem?_append_right (by omega), h, Nat.add_sub_cancel_left]; rfl

theorem splCells_take (L : List (Nat × Nat)) (p : Nat × Nat) : (splCells (L ++ [p])).take (L.length * 2) = splCells L := by
  have h : (splCells L).length = L.length * 2 := by
    unfold splCells
    induction L with
    | nil => rfl
    | cons q L ih => simp only [List.flatMap_cons, List.length_append, List.length_cons, List.length_nil, ih]; omega
  rw [splCells_snoc, ← h, List.take_left]

/-- the last splitter has been taken -/
theorem RefS.pop {w W1 W2 : World} {rb B : Nat} {own : Nat → Nat} {f : Nat → Value} {N : Nat} {P : Nat → Nat} {Bs : List (List Nat)} {hs : List Value} {L : List (Nat × Nat)} {mb n x y g5 c5 : Nat} {pre : Nat → Nat → List Nat}
    (h : RefS w rb B own f N P Bs hs (L ++ [(x, y)]) mb n pre) (h5 : f 5 = .slice (some ⟨g5, 0, none⟩) (L.length + 1) c5) (hk1 : ∀ k, k < w.heap.size → k ≠ rb → W1.heap[k]? = w.heap[k]?)
    (r1 : W1.rowIs rb 160 7 (fun i => if i = 5 then .slice (some ⟨g5, 0, none⟩) L.length c5 else f i)) (hk2 : ∀ k, k < w.heap.size → k ≠ mb → W2.heap[k]? = W1.heap[k]?)
    (hset : SetM W2 mb n (fun x' y' => ¬ (x' = x ∧ y' = y) ∧ (x', y') ∈ L ++ [(x, y)])) :
    RefS W2 rb B own (fun i => if i = 5 then .slice (some ⟨g5, 0, none⟩) L.length c5 else f i) N P Bs hs L mb n pre := by
  have hrl := h.row.lt
  have hrm : rb ≠ mb := by have := h.rbT; have := h.mbT; rintro rfl; omega
  have hk : ∀ k, k < w.heap.size → own k ≠ 4 → own k ≠ 5 → W2.heap[k]? = w.heap[k]? := fun k h1 h2 h3 =>
    (hk2 k h1 (by rintro rfl; exact h2 h.mbT)).trans (hk1 k h1 (by rintro rfl; exact h3 h.rbT))
  have hrow := h.wt.row
  rw [h5, List.length_append] at hrow
  have hnd := List.nodup_append.1 h.wt.nd
  refine ⟨h.pos, r1.of_block (hk2 rb hrl hrm), h.rbB, h.rbT, ?_, ?_, h.blockT, ?_, h.tabT, fun i hv l h1 h2 => ?_, ⟨?_, ?_, fun p hp => h.wt.bd p (List.mem_append_left _ hp), ?_, hnd.1⟩, h.f6, fun g hg => ?_, h.mbT, h.mbB⟩
  · show FromS W2 _ (f 2) N pre
    exact h.from_.kept h.pos fun g hg hz => ⟨hk g hg (by omega) (by omega), hz⟩
  · show W2.ownsRow B _ 1 (f 3) N _
    exact own_block h.block fun g hg hl => hk g hl (by rw [h.blockT g hg]; omega) (by rw [h.blockT g hg]; omega)
  · show W2.ownsRow B _ 1 (f 4) _ _
    exact own_block h.tab fun g hg hl => hk g hl (by rw [h.tabT g hg]; omega) (by rw [h.tabT g hg]; omega)
  · have h3 := h.rows i hv l h1 h2
    exact ⟨own_block h3.1 fun g hg hl => hk g hl (by rw [h3.2 g hg]; omega) (by rw [h3.2 g hg]; omega), h3.2⟩
  · show W2.ownsRow B _ 2 (.slice (some ⟨g5, 0, none⟩) L.length c5) _ _
    have h3 := own_shrink hrow (m := L.length) (by simp)
    rw [splCells_take] at h3
    refine own_block h3 fun g hg hl => ?_
    have hg : g5 = g := by simpa [Value.ownBlock] using hg
    subst hg
    have h4 := h.wtT g5 (by rw [h5]; rfl)
    exact hk g5 hl (by omega) (by omega)
  · refine hset.congr fun x' y' => ?_
    rw [List.mem_append, List.mem_singleton, Prod.mk.injEq]
    constructor
    · intro hm
      refine ⟨?_, .inl hm⟩
      rintro ⟨rfl, rfl⟩
      exact hnd.2.2 _ hm _ (by simp) rfl
    · rintro ⟨h1, h2 | h2⟩
      · exact h2
      · exact absurd h2 h1
  · show Value.ownBlock (.slice (some ⟨g5, 0, none⟩) L.length c5) ≠ some mb
    have h4 := h.wtT g5 (by rw [h5]; rfl)
    have h6 := h.mbT
    simp only [Value.ownBlock, ne_eq, Option.some.injEq]; rintro rfl; omega
  · have hg : g5 = g := by simpa [Value.ownBlock] using hg
    subst hg
    exact h.wtT g5 (by rw [h5]; rfl)

/-- what stands between two rounds -/
structure RfI (w wr : World) (rb B : Nat) (f : Nat → Value) (N : Nat) (A : LM.Aut) (mb : Nat) (pre : Nat → Nat → List Nat) (own' : Nat → Nat) (f' : Nat → Value) (P : Nat → Nat) (Bs : List (List Nat)) (hs : List Value) (L : List (Nat × Nat)) (n : Nat) : Prop where
  ref : RefS wr rb B own' f' N P Bs hs L mb n pre
  f3 : ∀ i, i < 3 → f' i = f i
  bl : Bl (fun g => B ≤ g) w wr
  blk : LM.Blk N P Bs
  hop : LM.Hop A P (fun b a => (b, a) ∈ L)
  bd : ∀ p, p ∈ L → p.1 < Bs.length ∧ p.2 < 256
  nle : n ≤ 256 * Bs.length
  len : L.length ≤ n

def Refined (w : World) (rb B : Nat) (f : Nat → Value) (N : Nat) (A : LM.Aut) (mb : Nat) (pre : Nat → Nat → List Nat) (e : Ending) (w' : World) : Prop :=
  e = .returned (.tuple #[]) ∧ ∃ own' f' P Bs hs n, RefS w' rb B own' f' N P Bs hs [] mb n pre ∧ (∀ i, i < 3 → f' i = f i) ∧ Bl (fun g => B ≤ g) w w' ∧ LM.Tells A P ∧ ∀ s, s < N → P s < 1000

theorem refined_next {w wr wq : World} {rb B : Nat} {f : Nat → Value} {N : Nat} {A : LM.Aut} {mb : Nat} {pre : Nat → Nat → List Nat} {own own' : Nat → Nat} {f1 f' : Nat → Value} {P P' : Nat → Nat} {Bs Bs' : List (List Nat)} {hs hs' : List Value} {L0 L' : List (Nat × Nat)} {n n' x y : Nat}
    {hv tv : Value} {tl D l : List Nat} {F : Int → Option Nat} (hR : RfI w wr rb B f N A mb pre own f1 P Bs hs (L0 ++ [(x, y)]) n) (hA : A.ok) (hAN : A.n = N) (hpre : ∀ s a p, s < N → a < 256 → (p ∈ pre s a ↔ p < N ∧ A.nx p a = s)) (hy : y < 256) (hl : Bs[x]? = some l) (hD : D = l.flatMap fun t => pre t y)
    (hF : MarkM P Bs.length tl D F) (hS : SplS w wq rb B f N P Bs.length L0 mb pre hv tv tl (hitD D) tl own' f' P' Bs' hs' L' n') :
    RfI w wq rb B f N A mb pre own' f' P' Bs' hs' L' n' ∧ L'.length + 257 * (N - Bs'.length) < (L0 ++ [(x, y)]).length + 257 * (N - Bs.length) := by
  have hm := hR.blk.mem x l hl
  have hmem : ∀ s, s ∈ D ↔ s < N ∧ A.nx s y < N ∧ P (A.nx s y) = x := by
    intro s
    rw [hD, List.mem_flatMap]
    constructor
    · rintro ⟨t, ht, hs⟩
      obtain ⟨h1, h2⟩ := (hm t).1 ht
      obtain ⟨h3, h4⟩ := (hpre t y s h1 hy).1 hs
      rw [h4]; exact ⟨h3, h1, h2⟩
    · rintro ⟨h1, h2, h3⟩
      exact ⟨_, (hm _).2 ⟨h2, h3⟩, (hpre _ y s h2 hy).2 ⟨h1, rfl⟩⟩
  have hmeas := hS.meas
  have hc := hS.prog.blk.count
  have hle := hS.prog.le
  refine ⟨⟨hS.ref, hS.f3, hS.bl, hS.prog.blk, ?_, hS.bd, hS.nle, hS.len⟩, by simp only [List.length_append, List.length_cons, List.length_nil]; omega⟩
  refine hR.hop.step hA (B := x) (a0 := y) (K := Bs.length) hy (hit := hitD D) (fun s hs => ?_) ?_ ?_ (fun b a hb hne => ?_) (fun s a hs ha hK => ?_)
  · rw [hAN] at hs
    have h1 := hA.2 s y (by omega) hy
    rw [hAN] at h1
    unfold hitD
    rw [decide_eq_true_iff, hmem]
    exact ⟨fun h => h.2.2, fun h => ⟨hs, h1, h⟩⟩
  · rw [hAN]
    exact hS.prog.all fun s hs hh => hF.all s (by simpa [hitD] using hh)
  · rw [hAN]; exact hS.prog.r3
  · rcases List.mem_append.1 hb with h1 | h1
    · exact hS.sub _ h1
    · rw [List.mem_singleton, Prod.mk.injEq] at h1
      exact absurd h1 hne
  · exact hS.new _ a hK (hS.prog.blk.lt s (by omega)) ha

set_option maxRecDepth 100000 in
set_option maxHeartbeats 1000000 in
theorem refine_c {w : World} {rb B : Nat} {own : Nat → Nat} {f : Nat → Value} {N : Nat} {P : Nat → Nat} {Bs : List (List Nat)} {hs : List Value} {L : List (Nat × Nat)} {mb n : Nat} {pre : Nat → Nat → List Nat} {A : LM.Aut}
    (h : RfI w w rb B f N A mb pre own f P Bs hs L n) (hA : A.ok) (hAN : A.n = N) (hN : N ≤ 600) (hpre : ∀ s a p, s < N → a < 256 → (p ∈ pre s a ↔ p < N ∧ A.nx p a = s)) (hplen : ∀ s a, s < N → a < 256 → (pre s a).length ≤ 600) :
    Calls Tryd.prog 101 #[.pointer (some ⟨rb, 0, none⟩)] w (Refined w rb B f N A mb pre) := by
  have H := Lib.hid h
  have HP := Lib.hid (And.intro hA (And.intro hAN (And.intro hpre hplen)))
  clear h hA hAN hpre hplen
  go_enter Tryd.func101, Tryd.ntmps101
  go_wp2_with fail
  go_loopg [2] (L.length + 257 * (N - Bs.length)) (fun g _ wr => ∃ own' f' P' Bs' hs' L' n', RfI w wr rb B f N A mb pre own' f' P' Bs' hs' L' n' ∧ g = L'.length + 257 * (N - Bs'.length))
  case atStart => exact ⟨own, f, P, Bs, hs, L, n, H.out, rfl⟩
  case round =>
    clear H
    obtain ⟨own, f1, P, Bs, hs, L, n, hR, hg⟩ := hrel
    have HR := Lib.hid hR
    have HG := Lib.hid hg
    have c5 := hR.ref.row.cell (i := 5) (by omega)
    rcases List.eq_nil_or_concat L with rfl | ⟨L0, ⟨x, y⟩, rfl⟩
    · obtain ⟨a5, k5, hv5⟩ := own_shape hR.ref.wt.row
      rw [hv5, List.length_nil] at c5
      clear hR hg hv5
      go_wp2
      go_end0
      refine ⟨rfl, own, f1, P, Bs, hs, n, HR.out.ref, HR.out.f3, HR.out.bl, HR.out.hop.done HP.out.1 (fun b a hm => ?_), fun s hs => ?_⟩
      · cases hm
      · have h1 := HR.out.blk.lt s hs
        have h2 := HR.out.blk.count
        omega
    · rw [List.concat_eq_append] at HR HG hR
      have hwr := hR.ref.wt.row
      rw [List.length_append] at hwr
      obtain ⟨n0, hn0⟩ : ∃ n0, n0 = L0.length := ⟨_, rfl⟩
      have hwr : wr.ownsRow B 220 2 (f1 5) (n0 + 1) (splCells (L0 ++ [(x, y)])) := by rw [hn0]; exact hwr
      obtain ⟨g5, k5, hv5, hg5, hg5'⟩ := own_slc hwr (by omega)
      rw [hv5] at c5 hwr
      have hl := splCells_last L0 x y
      rw [← hn0] at hl
      have e1 := (hwr.cellAt (n0 * 2) (by omega)).trans hl.1
      have e2 := (hwr.cellAt (n0 * 2 + 1) (by omega)).trans hl.2
      have hf5 := hR.ref.row.frozen 5
      have hk5 := own_caps hwr
      have hnk : (n0 : Int) ≤ k5 := by omega
      have hrl := hR.ref.row.lt
      have hbd := hR.ref.wt.bd (x, y) (by simp)
      have hlen := hR.len
      have hnle := hR.nle
      have hcnt := hR.blk.count
      rw [List.length_append, ← hn0] at hlen
      have hn0b : n0 ≤ 200000 := by simp at hlen; omega
      have HN0 := Lib.hid (And.intro hn0 hv5)
      clear hR hg hwr hl hn0 hv5 hlen hnle hcnt
      go_upto_region 1 with fail
      go_cut [2] (fun s2 wx => s2 = .pointer (some ⟨wr.heap.size, 0, none⟩) ∧ Ext wr wx ∧ wx.cell? ⟨wr.heap.size, 0, none⟩ = some (.int .i64 (x : Int)) ∧ wx.cell? ⟨wr.heap.size, 1, none⟩ = some (.int .i64 (y : Int)))
      case first =>
        go_region
        all_goals (go_wp2_with fail; go_meet; exact ⟨rfl, (Ext.box _ _).drew, by simp, by simp⟩)
      case rest =>
        obtain ⟨rfl, hx1, s0, s1⟩ := hcut
        have d5 := hx1.cell c5
        have df5 := (Below.frozen hx1 (p := ⟨rb, 5, none⟩) hrl).trans hf5
        have hwl : wr.heap.size < wc.heap.size := lt_of_cell s0
        clear c5 hf5 e1 e2
        rename World => w1
        go_upto_region 2 with fail
        go_cut [2] (fun s2 wx => s2 = .pointer (some ⟨wr.heap.size, 0, none⟩) ∧ wx = (w1.setCell ⟨rb, 5, none⟩ (.slice (some ⟨g5, 0, none⟩) n0 k5)).drew)
        case first =>
          go_region
          all_goals (go_wp2_with fail; go_meet; exact ⟨rfl, rfl⟩)
        case rest =>
          obtain ⟨rfl, hW1⟩ := hcut
          have hk1 : ∀ k, k < wr.heap.size → k ≠ rb → wc.heap[k]? = wr.heap[k]? := fun k h1 h2 => by
            rw [hW1]
            exact (Below.heap_setCell _ _ _ _ (by simpa using h2)).trans (hx1.block k h1)
          have r1 : wc.rowIs rb 160 7 (fun i => if i = 5 then .slice (some ⟨g5, 0, none⟩) n0 k5 else f1 i) := by
            rw [hW1]
            exact ((HR.out.ref.row.of_block (hx1.block rb hrl)).set 5 _)
          have hbl1 : Bl (fun g => B ≤ g) w wc := by
            rw [hW1]
            exact ((HR.out.bl.trans (.of_ext hx1)).setCell (.inl HR.out.ref.rbB) _).trans (.of_ext (Ext.drew (Ext.refl _)))
          have hsb : wc.heap[wr.heap.size]? = w1.heap[wr.heap.size]? := by
            rw [hW1]
            exact Below.heap_setCell _ _ _ _ (by simp; omega)
          have t0 := (World.cell?_of_block (a := ⟨wr.heap.size, 0, none⟩) hsb).trans s0
          have t1 := (World.cell?_of_block (a := ⟨wr.heap.size, 1, none⟩) hsb).trans s1
          have hrm : rb ≠ mb := by
            have h1 := HR.out.ref.rbT
            have h2 := HR.out.ref.mbT
            rintro rfl; omega
          have c6 := r1.cell (i := 6) (by omega)
          simp only [show ¬ (6 : Nat) = 5 by omega, if_false] at c6
          rw [HR.out.ref.f6] at c6
          obtain ⟨W3, hrun, hset3, hturn⟩ := (HR.out.ref.wt.set.block (w' := wc.drew) (hk1 mb HR.out.ref.wt.set.lt (Ne.symm hrm))).drop hbd.1 hbd.2 0
          unfold splV at hrun
          have hszc : wr.heap.size < wc.heap.size := lt_of_cell t0
          have hg3 := hturn.grown
          have hk2 : ∀ k, k < wr.heap.size → k ≠ mb → W3.heap[k]? = wc.heap[k]? := fun k h1 h2 => hg3.block k (by show k < wc.heap.size; omega) (by simpa using h2)
          have hbl3 : Bl (fun g => B ≤ g) w W3 := (hbl1.trans (.of_ext (Ext.drew (Ext.refl _)))).grown hg3 (fun g e => .inl (by simp only [Option.some.injEq] at e; subst e; exact HR.out.ref.mbB))
          have hsb3 : W3.heap[wr.heap.size]? = wc.heap[wr.heap.size]? := hg3.block _ (by show _ < wc.heap.size; omega) (by have := HR.out.ref.wt.set.lt; simp; omega)
          have v0 := (World.cell?_of_block (a := ⟨wr.heap.size, 0, none⟩) hsb3).trans t0
          have v1 := (World.cell?_of_block (a := ⟨wr.heap.size, 1, none⟩) hsb3).trans t1
          obtain ⟨f2, hf2⟩ : ∃ f2 : Nat → Value, f2 = (fun i => if i = 5 then .slice (some ⟨g5, 0, none⟩) n0 k5 else f1 i) := ⟨_, rfl⟩
          obtain ⟨own8, h8, h8z⟩ : ∃ own8 : Nat → Nat, (∀ g, g < wr.heap.size → own8 g = own g) ∧ own8 wr.heap.size = 0 := ⟨fun g => if g < wr.heap.size then own g else 0, fun g hg => if_pos hg, if_neg (by omega)⟩
          have hR3 : RefS W3 rb B own8 f2 N P Bs hs L0 mb n pre := by
            rw [hf2, HN0.out.1]
            exact RefS.pop (HR.out.ref.retag h8) (by rw [← HN0.out.1]; exact HN0.out.2) hk1 (by rw [← HN0.out.1]; exact r1) hk2 hset3
          have hf23 : ∀ i, i < 3 → f2 i = f i := fun i hi => by
            rw [hf2]
            exact (if_neg (by omega)).trans (HR.out.f3 i hi)
          have hx4 : Ext W3 ((W3.alloc (.cells (madeCells #[.bool false] N) 4)).alloc (.map #[] 0)) := (Ext.box _ _).trans (Ext.box _ _)
          obtain ⟨own3, hM4, ho3⟩ := Mark0.start (w := w) hR3 hx4 (G := W3.heap.size) (gM := W3.heap.size + 1) (Nat.le_refl _) (by omega) (by omega) (fun s hs => (Ext.box _ _).cell (new_cell (made_one _ hs)))
            (fun s => (Below.frozen (Ext.box _ _) (p := ⟨W3.heap.size, s, none⟩) (by simp)).trans (new_frozen _ _ _ _)) (by have := IntM.made (W3.alloc (.cells (madeCells #[.bool false] N) 4)); simpa using this) hbl3
          have hb0 : own3 wr.heap.size = 0 := (ho3 _ (lt_of_cell v0)).trans h8z
          have w0 := hx4.cell v0
          have w1' := hx4.cell v1
          have c3 := hR3.row.cell (i := 3) (by omega)
          obtain ⟨g1, c1, hf3, hg1, hg1'⟩ := own_slc hR3.block hR3.pos
          rw [hf3] at c3
          have HF3 := Lib.hid (And.intro hf3 (And.intro hf23 hf2))
          have hmk := run_make_any (P := Tryd.prog) 152 4 (.bool false) 1 1 Tryd.underlying152 bool_info12 .i64 .i64 N (by omega) (by omega)
          have hmm := @run_makeMap Tryd.prog
          have hxK := (HR.out.bd (x, y) (by simp)).1
          have hyK : y < 256 := (HR.out.bd (x, y) (by simp)).2
          obtain ⟨l, hl⟩ : ∃ l, Bs[x]? = some l := ⟨_, List.getElem?_eq_getElem hxK⟩
          have hhl : hs.length = Bs.length := by have := hM4.ref.tab.1; omega
          obtain ⟨hv, hhv⟩ : ∃ hv, hs[x]? = some hv := ⟨_, List.getElem?_eq_getElem (by rw [hhl]; exact hxK)⟩
          have hl0 : 0 < l.length := by
            have := HR.out.blk.ne x l hl
            cases l with
            | nil => exact absurd rfl this
            | cons _ _ => simp
          obtain ⟨gr, cr, hgr, hgr1, hgr2⟩ := own_slc (hM4.ref.rows x hv l hhv hl).1 hl0
          subst hgr
          obtain ⟨g4, k4, hf4, hg4, hg4'⟩ := own_slc hM4.ref.tab (Nat.lt_of_le_of_lt (Nat.zero_le _) hxK)
          have c4 := hM4.ref.row.cell (i := 4) (by omega)
          rw [hf4] at c4
          have htab := hM4.ref.tab
          rw [hf4] at htab
          have ch := (htab.cellAt x (by have h := hxK; simp only at h; omega)).trans hhv
          have hcnt := HR.out.blk.count
          have hll := HR.out.blk.len hl
          obtain ⟨K, hK⟩ : ∃ K, K = Bs.length := ⟨_, rfl⟩
          rw [← hK] at c4 hxK hcnt
          obtain ⟨Ln, hLn⟩ : ∃ Ln, Ln = l.length := ⟨_, rfl⟩
          rw [← hLn] at ch hl0 hll
          have hHL := Lib.hid (And.intro hK (And.intro hLn (And.intro hl (And.intro hhv (And.intro hx4 (And.intro hb0 hM4))))))
          have hj1 : (x : Int) < K := by omega
          clear hset3 hturn hg3 hk1 hk2 r1 hbl1 hsb hsb3 hW1 hR3 hf23 hbl3 hf2 hf3 s0 s1 d5 df5 hx1 hM4 ho3 hb0 htab hhl hl hhv hf4 hx4 h8 h8z hLn hK hgr2 hg4' hg1' hwr
          go_wp2_with fail
          go_still_tail 5, (by kernel_rfl)
          change wpList _ _ _ _ _ wc.drew
          go_upto_region 7 with fail
          generalize (W3.alloc (.cells (madeCells #[.bool false] N) 4)).alloc (.map #[] 0) = W4 at hHL c4 ch w0 w1' ⊢
          obtain ⟨G, hG⟩ : ∃ G, G = W3.heap.size := ⟨_, rfl⟩
          obtain ⟨bx, hbx⟩ : ∃ bx, bx = wr.heap.size := ⟨_, rfl⟩
          have e4 : (World.alloc W3 (.cells (madeCells #[.bool false] N) 4)).heap.size = G + 1 := by rw [hG]; simp
          try rw [e4]
          rw [← hG, ← hbx] at hHL ⊢
          rw [← hbx] at w0 w1'
          have HM4 := Lib.hid hHL
          clear hHL hG hbx e4 hmk hmm hrun v0 v1 t0 t1 c6 c3 hwl hszc w1
          go_quiet (fail)
          go_wp2
          clear c4 ch
          go_loopw [4, 67] (fun tv kv wk => ∃ (k : Nat) (own' : Nat → Nat) (tl : List Nat) (F : Int → Option Nat), k ≤ Ln ∧ kv = .int .i64 k ∧
            Mark0 w W4 own3 wk rb B own' f2 N P Bs hs L0 mb n pre G (G + 1) tv tl (hitD ((l.take k).flatMap fun s => pre s y)) F tl.length ∧ MarkM P Bs.length tl ((l.take k).flatMap fun s => pre s y) F) (fun _ kv _ => Ln - (intOf kv).toNat)
          case atStart => exact ⟨0, own3, [], fun _ => none, Nat.zero_le _, rfl, (HM4.out.2.2.2.2.2.2.ext ((Ext.refl _).drewN _)).congr (fun s _ => by simp [hitD]), by simpa using MarkM.nil P Bs.length⟩
          case round =>
            obtain ⟨k, own', tl, F, hk, rfl, hM, hF⟩ := hrel
            by_cases hlt : k < Ln
            · obtain ⟨s, hs'⟩ : ∃ s, l[k]? = some s := ⟨_, List.getElem?_eq_getElem (by rw [← HM4.out.2.1]; exact hlt)⟩
              have hsN : s < N := ((HR.out.blk.mem x l HM4.out.2.2.1 s).1 (List.mem_of_getElem? hs')).1
              have hgs : l.getD k 0 = s := by rw [List.getD_eq_getElem?_getD, hs']; rfl
              have hrow := (hM.ref.rows x _ l HM4.out.2.2.2.1 HM4.out.2.2.1).1
              have c9 : wr.cell? ⟨gr, k, none⟩ = some (.int .i64 (s : Nat)) := by
                rw [hrow.cellAt k (by rw [← HM4.out.2.1]; omega), natV_get (by rw [← HM4.out.2.1]; exact hlt), hgs]
              obtain ⟨F0, cF, hf2, hF0, hFc⟩ := HM4.out.2.2.2.2.2.2.ref.from_
              obtain ⟨hv0, hh0, hrd⟩ := hFc s y hsN hyK
              have hkF := hM.kept0 F0 (lt_of_cell hh0) hF0
              have cH := (World.cell?_of_block (a := ⟨F0, s * 256 + y, none⟩) hkF.1).trans hh0
              have hbk := hM.kept0 bx (lt_of_cell w1') HM4.out.2.2.2.2.2.1
              have cB := (World.cell?_of_block (a := ⟨bx, 1, none⟩) hbk.1).trans w1'
              have c2 := hM.ref.row.cell (i := 2) (by omega)
              rw [hf2] at c2
              obtain ⟨pa, pc, rfl, hpa⟩ := hrd
              have hplen := HP.out.2.2.2 s y hsN hyK
              obtain ⟨Lp, hLp⟩ : ∃ Lp, Lp = (pre s y).length := ⟨_, rfl⟩
              rw [← hLp] at cH hpa hplen
              have HK := Lib.hid (And.intro hM (And.intro hF (And.intro hs' (And.intro hLp hpa))))
              have hj2 : (s : Int) < N := by omega
              have hj3 : (y : Int) < 256 := by omega
              clear hM hF hs' hgs hrow hf2 hh0 hFc hkF hbk hLp hpa hF0 w0
              go_wp2
              go_quiet (fail)
              go_wp2
              clear c9 cB c2 cH
              go_loopw [4, 82] (fun tv jv wj => ∃ (j : Nat) (own' : Nat → Nat) (tl : List Nat) (F : Int → Option Nat), j ≤ Lp ∧ jv = .int .i64 j ∧
                Mark0 w W4 own3 wj rb B own' f2 N P Bs hs L0 mb n pre G (G + 1) tv tl (hitD ((l.take k).flatMap (fun s => pre s y) ++ (pre s y).take j)) F tl.length ∧ MarkM P Bs.length tl ((l.take k).flatMap (fun s => pre s y) ++ (pre s y).take j) F) (fun _ jv _ => Lp - (intOf jv).toNat)
              case atStart => exact ⟨0, own', tl, F, Nat.zero_le _, rfl, by simpa using HK.out.1.ext ((Ext.refl _).drewN _), by simpa using HK.out.2.1⟩
              case round =>
                obtain ⟨j, own', tl, F, hj, rfl, hM, hF⟩ := hrel
                by_cases hlt2 : j < Lp
                · obtain ⟨p, hp⟩ : ∃ p, (pre s y)[j]? = some p := ⟨_, List.getElem?_eq_getElem (by rw [← HK.out.2.2.2.1]; exact hlt2)⟩
                  have hpN : p < N := ((HP.out.2.2.1 s y p hsN hyK).1 (List.mem_of_getElem? hp)).1
                  have hgp : (pre s y).getD j 0 = p := by rw [List.getD_eq_getElem?_getD, hp]; rfl
                  obtain ⟨gp, hpa, hgp0, hcp⟩ := HK.out.2.2.2.2 (by omega)
                  subst hpa
                  have hcp1 := hcp j hlt2
                  rw [hgp] at hcp1
                  have cP := (World.cell?_of_block (a := ⟨gp, j, none⟩) (hM.kept0 gp (lt_of_cell hcp1) hgp0).1).trans hcp1
                  have cG := hM.hit p hpN
                  have fG := hM.frz p
                  have htk : (pre s y).take (j + 1) = (pre s y).take j ++ [p] := take_snoc' hp
                  have HQ := Lib.hid (And.intro hM (And.intro hF htk))
                  have hj4 : (p : Int) < N := by omega
                  clear hM hF hp hgp hgp0 hcp hcp1 htk
                  go_upto_region 14 with fail
                  have hM1 := HQ.out.1.mark hpN
                  generalize World.setCell _ _ _ = W5 at hM1 ⊢
                  clear cP cG fG
                  have c3 := hM1.ref.row.cell (i := 3) (by omega)
                  rw [HF3.out.1] at c3
                  have hbl := hM1.ref.block
                  rw [HF3.out.1] at hbl
                  obtain ⟨b, hb⟩ : ∃ b, b = P p := ⟨_, rfl⟩
                  have cp : W5.cell? ⟨g1, p, none⟩ = some (.int .i64 (b : Nat)) := by
                    rw [hbl.cellAt p (by omega), natV_get (by simp; exact hpN), hb]
                    simp [List.getD_eq_getElem?_getD, List.getElem?_range hpN]
                  have hbK : b < Bs.length := by rw [hb]; exact HR.out.blk.lt p hpN
                  have hbK' : b < K := by rw [HM4.out.1]; exact hbK
                  have hlook := hM1.seen.look (x := (b : Int)) (by omega) (by omega)
                  have hlink := HQ.out.2.1.link b
                  by_cases hin : b ∈ tl
                  · rw [hlink, decide_eq_true hin] at hlook
                    generalize (F (b : Int)).getD 0 = y0 at hlook
                    have HB := Lib.hid (And.intro hb (And.intro hin (And.intro hM1 hlink)))
                    clear hb hin hM1 hlink hbl
                    go_wp2
                    go_roundw
                    case rel =>
                      refine ⟨j + 1, own', tl, F, by omega, by go_num, HB.out.2.2.1.congr (fun q _ => ?_), ?_⟩
                      · rw [HQ.out.2.2, ← List.append_assoc]
                        simp [hitD, or_comm, or_assoc]
                      · rw [HQ.out.2.2, ← List.append_assoc]
                        exact HQ.out.2.1.old (by rw [← HB.out.1]; exact HB.out.2.1)
                    case measure => simp [intOf]; omega
                  · rw [hlink, decide_eq_false hin] at hlook
                    have hFn : F (b : Int) = none := by
                      cases hf : F (b : Int) with
                      | none => rfl
                      | some _ => rw [hf, decide_eq_false hin] at hlink; cases hlink
                    have htlen : tl.length ≤ K := by
                      rw [HM4.out.1]
                      exact LM.length_le_of_inj _ tl HQ.out.2.1.lt HQ.out.2.1.nodup
                    obtain ⟨at_, ct, rfl, _, hct, _⟩ := own_read hM1.tou.1
                    obtain ⟨tn, htn⟩ : ∃ tn, tn = tl.length := ⟨_, rfl⟩
                    have hs1 := hM1.seen
                    rw [← htn] at hs1 htlen
                    obtain ⟨W6, hrun, hs6, ht6⟩ := hs1.store (by unfold maxLen; omega) (x := (b : Int)) (by omega) (by omega) hFn (y := tn) (by omega)
                    rw [htn] at hs6
                    have hM2 := hM1.see hs6 ht6
                    have c36 := hM2.ref.row.cell (i := 3) (by omega)
                    rw [HF3.out.1] at c36
                    have hbl6 := hM2.ref.block
                    rw [HF3.out.1] at hbl6
                    have cp6 : W6.cell? ⟨g1, p, none⟩ = some (.int .i64 (b : Nat)) := by
                      rw [hbl6.cellAt p (by omega), natV_get (by simp; exact hpN), hb]
                      simp [List.getD_eq_getElem?_getD, List.getElem?_range hpN]
                    rw [← htn]
                    have hown := hM2.tou.1.alloc (.cells #[.int .i64 (b : Int)] 3)
                    rw [← htn] at hown
                    have hbase : B ≤ (W6.alloc (.cells #[.int .i64 (b : Int)] 3)).heap.size := by have h1 := hM2.ref.row.lt; have h2 := hM2.ref.rbB; simp; omega
                    have hcell := cell_one_new W6 (.int .i64 (b : Int)) 3
                    have h1c : ∀ u ∈ [Value.int .i64 (b : Int)], u.oneCell' = true := by intro u hu; simp at hu; subst hu; rfl
                    have hmax : tn + 1 ≤ maxLen := by unfold maxLen; omega
                    have hmax2 : (tn + 1) * 8 ≤ 140737488355328 := by omega
                    obtain ⟨i0, hi, hz0, hz1, hz2⟩ := info_parts int_info
                    have HB := Lib.hid (And.intro hb (And.intro hin (And.intro hM2 (And.intro htn hbK))))
                    clear hb hin hM1 hM2 hlink hbl hbl6 htn hFn hs1 hs6 ht6 hct
                    go_wp2_with (at_builtin; refine wpList_append_own_at _ rfl _ _ 23 rfl B 3 i0 (.int .i64 0) 1 8 Tryd.underlying23 hi hz0 hz1 hz2 rfl (by decide) _ _ _ rfl hown ⟨W6.heap.size, 0, none⟩ 1 1 [.int .i64 (b : Int)] rfl rfl hcell h1c hmax hmax2 hbase ?_; intro v' W hown' hg _ hat)
                    rw [HB.out.2.2.2.1] at hown' hg hat
                    obtain ⟨own'', hM3⟩ := HB.out.2.2.1.touch (Ext.box W6 _) hown' hg hat
                    go_roundw
                    case rel =>
                      refine ⟨j + 1, own'', tl ++ [b], fun x => if x = (b : Int) then some tl.length else F x, by omega, by go_num, ?_, ?_⟩
                      rotate_left
                      · rw [HQ.out.2.2, ← List.append_assoc, HB.out.1]
                        exact HQ.out.2.1.new (y := tl.length) (by rw [← HB.out.1]; exact HB.out.2.1) (by rw [← HB.out.1]; exact HB.out.2.2.2.2)
                      · rw [HQ.out.2.2, ← List.append_assoc, List.length_append]
                        refine hM3.congr (fun q _ => ?_)
                        simp [hitD, or_comm, or_assoc]
                    case measure => simp [intOf]; omega
                · obtain rfl : Lp = j := by omega
                  have HQ := Lib.hid (And.intro hM hF)
                  clear hM hF
                  go_wp2
                  go_roundw
                  case rel =>
                    have e : (l.take (k + 1)).flatMap (fun s => pre s y) = (l.take k).flatMap (fun s => pre s y) ++ (pre s y).take Lp := by
                      rw [take_snoc' HK.out.2.2.1, List.flatMap_append, HK.out.2.2.2.1, List.take_length]
                      simp
                    refine ⟨k + 1, own', tl, F, by omega, by go_num, ?_, ?_⟩
                    · rw [e]; exact HQ.out.1
                    · rw [e]; exact HQ.out.2
                  case measure => simp [intOf]; omega
            · obtain rfl : Ln = k := by omega
              rw [HM4.out.2.1, List.take_length] at hM hF
              obtain ⟨at_, ct, htv, _, hct, _⟩ := own_read hM.tou.1
              subst htv
              obtain ⟨D, hD⟩ : ∃ D, D = l.flatMap fun s => pre s y := ⟨_, rfl⟩
              rw [← hD] at hM hF
              have hL0 : (L0 ++ [(x, y)]).length = L0.length + 1 := by simp
              obtain ⟨own4, hS⟩ := SplS.start hM (f0 := f) HF3.out.2.1 HR.out.blk (fun p hp => HR.out.bd p (List.mem_append_left _ hp)) HR.out.nle (by have := HR.out.len; omega) N
              have htlK : tl.length ≤ K := by
                rw [HM4.out.1]
                exact LM.length_le_of_inj _ tl hF.lt hF.nodup
              obtain ⟨tn, htn⟩ : ∃ tn, tn = tl.length := ⟨_, rfl⟩
              rw [← htn] at htlK hS ⊢
              have HS := Lib.hid (And.intro hS (And.intro htn (And.intro hF hD)))
              clear hM hF hD hct hL0 hS htn hlt hk
              go_wp2
              go_loopw [127] (fun qv wq => ∃ (q : Nat) (own' : Nat → Nat) (f' : Nat → Value) (P' : Nat → Nat) (Bs' : List (List Nat)) (hs' : List Value) (L' : List (Nat × Nat)) (n' : Nat), q ≤ tn ∧ qv = .int .i64 q ∧
                SplS w wq rb B f N P Bs.length L0 mb pre (.slice (some ⟨G, 0, none⟩) N N) (.slice at_ tn ct) tl (hitD D) (tl.take q) own' f' P' Bs' hs' L' n') (fun qv _ => tn - (intOf qv).toNat)
              case atStart => exact ⟨0, own4, f2, P, Bs, hs, L0, n, Nat.zero_le _, rfl, by simpa using HS.out.1⟩
              case round =>
                obtain ⟨q, own', f', P', Bs', hs', L', n', hq, rfl, hS⟩ := hrel
                by_cases hlt : q < tn
                · have hqt : q < tl.length := by rw [← HS.out.2.1]; exact hlt
                  obtain ⟨b, hb⟩ : ∃ b, tl[q]? = some b := ⟨_, List.getElem?_eq_getElem hqt⟩
                  have hbK := HS.out.2.2.1.lt b (List.mem_of_getElem? hb)
                  have hbT : b ∉ tl.take q := by
                    intro hm
                    obtain ⟨i, hi, he⟩ := List.mem_take_iff_getElem.1 hm
                    obtain ⟨h1, h2⟩ := List.getElem?_eq_some_iff.1 hb
                    exact List.pairwise_iff_getElem.1 HS.out.2.2.1.nodup i q (by omega) hqt (by omega) (he.trans h2.symm)
                  have hgb : tl.getD q 0 = b := by rw [List.getD_eq_getElem?_getD, hb]; rfl
                  obtain ⟨l', hl'⟩ : ∃ l', Bs'[b]? = some l' := ⟨_, List.getElem?_eq_getElem (Nat.lt_of_lt_of_le hbK hS.prog.le)⟩
                  have hown := hS.tou.1
                  rw [HS.out.2.1] at hown
                  obtain ⟨gt, kt, hgt, _, _⟩ := own_slc hown (by omega)
                  have hat : at_ = some ⟨gt, 0, none⟩ := by simp only [Value.slice.injEq] at hgt; exact hgt.1
                  subst hat
                  have cq : wr.cell? ⟨gt, q, none⟩ = some (.int .i64 (b : Nat)) := by
                    rw [hown.cellAt q (by omega), natV_get hqt, hgb]
                  have hcn := hS.prog.blk.count
                  have hsp := split_c hS.ref hS.hitS hS.prog.blk hN (by have := hS.nle; omega) (by have := hS.len; have := hS.nle; omega) hl'
                  have HT := Lib.hid (And.intro hS (And.intro hb (And.intro hbK (And.intro hbT (And.intro hl' hsp)))))
                  clear hS hb hbK hbT hgb hl' hown hgt hcn hsp hqt
                  go_wp2_with fail
                  refine HT.out.2.2.2.2.2.mono ?_
                  intro e w9 hr
                  obtain ⟨rfl, own9, f9, P9, Bs9, hs9, L9, n9, hS9⟩ := HT.out.1.step HT.out.2.2.1 HT.out.2.2.2.1 HT.out.2.2.2.2.1 hr
                  rw [← take_snoc' HT.out.2.1] at hS9
                  have HS9 := Lib.hid hS9
                  clear hr hS9
                  go_wp2
                  go_roundw
                  case rel => exact ⟨q + 1, own9, f9, P9, Bs9, hs9, L9, n9, by omega, by go_num, HS9.out⟩
                  case measure => simp [intOf]; omega
                · obtain rfl : tn = q := by omega
                  have hS' := hS
                  rw [HS.out.2.1, List.take_length] at hS'
                  have hnx := refined_next HR.out HP.out.1 HP.out.2.1 HP.out.2.2.1 hyK HM4.out.2.2.1 HS.out.2.2.2 HS.out.2.2.1 hS'
                  have HX := Lib.hid hnx
                  clear hS hS' hnx hlt
                  go_wp2
                  go_roundg (L'.length + 257 * (N - Bs'.length))
                  case rel => exact ⟨own', f', P', Bs', hs', L', n', HX.out.1, rfl⟩
                  case measure => rw [HG.out]; exact HX.out.2
end Go.Proofs.YtpeipjfmibjoiaaDoor
