/- What the marking loops of refine keep, and the loop that splits. -/
import Derived.Test.YthnojechejckpaaDoorSplit
import Derived.Test.YthnojechejckpaaDoorIntMap
namespace Go.Proofs.YthnojechejckpaaDoor
open Go.RowKit

/-- tags of blocks that are none of the refiner's may be told otherwise -/
theorem RefS.retagT {w : World} {rb B : Nat} {own own' : Nat → Nat} {f : Nat → Value} {N : Nat} {P : Nat → Nat} {Bs : List (List Nat)} {hs : List Value} {L : List (Nat × Nat)} {mb n : Nat} {pre : Nat → Nat → List Nat}
    (h : RefS w rb B own f N P Bs hs L mb n pre) (ho : ∀ g, g < w.heap.size → (own g ≤ 5 ∨ 10 ≤ own g) → own' g = own g) : RefS w rb B own' f N P Bs hs L mb n pre where
  pos := h.pos
  row := h.row
  rbB := h.rbB
  rbT := (ho rb h.row.lt (by have := h.rbT; omega)).trans h.rbT
  from_ := h.from_.kept h.pos fun g hg hz => ⟨rfl, (ho g hg (by omega)).trans hz⟩
  block := h.block
  blockT := fun g hg => (ho g (h.block.lt g hg).2 (by have := h.blockT g hg; omega)).trans (h.blockT g hg)
  tab := h.tab
  tabT := fun g hg => (ho g (h.tab.lt g hg).2 (by have := h.tabT g hg; omega)).trans (h.tabT g hg)
  rows := fun i hv l h1 h2 => ⟨(h.rows i hv l h1 h2).1, fun g hg => (ho g ((h.rows i hv l h1 h2).1.lt g hg).2 (by have := (h.rows i hv l h1 h2).2 g hg; omega)).trans ((h.rows i hv l h1 h2).2 g hg)⟩
  wt := h.wt
  f6 := h.f6
  wtT := fun g hg => (ho g (h.wt.row.lt g hg).2 (by have := h.wtT g hg; omega)).trans (h.wtT g hg)
  mbT := (ho mb h.wt.set.lt (by have := h.mbT; omega)).trans h.mbT
  mbB := h.mbB

/-- the memory in the marking loops: hit (tag 6, block G), seen (tag 9, block gM), touched (tag 7) -/
structure Mark0 (w W0 : World) (own0 : Nat → Nat) (wr : World) (rb B : Nat) (own : Nat → Nat) (f : Nat → Value) (N : Nat) (P : Nat → Nat) (Bs : List (List Nat)) (hs : List Value) (L : List (Nat × Nat)) (mb n : Nat) (pre : Nat → Nat → List Nat)
    (G gM : Nat) (tv : Value) (tl : List Nat) (hit : Nat → Bool) (F : Int → Option Nat) (m : Nat) : Prop where
  ref : RefS wr rb B own f N P Bs hs L mb n pre
  gT : own G = 6
  gB : B ≤ G
  hit : ∀ s, s < N → wr.cell? ⟨G, s, none⟩ = some (.bool (hit s))
  frz : ∀ s, wr.frozen? ⟨G, s, none⟩ = false
  mT : own gM = 9
  mB : B ≤ gM
  seen : IntM wr gM m F
  tou : Loc wr B own 7 tv tl
  bl : Bl (fun g => B ≤ g) w wr
  size0 : W0.heap.size ≤ wr.heap.size
  kept0 : ∀ g, g < W0.heap.size → own0 g = 0 → wr.heap[g]? = W0.heap[g]? ∧ own g = 0

section
variable {w wr W0 W2 W3 : World} {own0 : Nat → Nat} {rb B : Nat} {own : Nat → Nat} {f : Nat → Value} {N : Nat} {P : Nat → Nat} {Bs : List (List Nat)} {hs : List Value} {L : List (Nat × Nat)} {mb n : Nat} {pre : Nat → Nat → List Nat}
  {G gM : Nat} {tv : Value} {tl : List Nat} {hit : Nat → Bool} {F : Int → Option Nat} {m : Nat}

theorem Mark0.start (h : RefS W2 rb B own f N P Bs hs L mb n pre) (hx : Ext W2 W3) (hG : W2.heap.size ≤ G) (hM : W2.heap.size ≤ gM) (hne : G ≠ gM) (hcells : ∀ s, s < N → W3.cell? ⟨G, s, none⟩ = some (.bool false))
    (hfrz : ∀ s, W3.frozen? ⟨G, s, none⟩ = false) (hseen : IntM W3 gM 0 (fun _ => none)) (hbl : Bl (fun g => B ≤ g) w W2) :
    ∃ own3, Mark0 w W3 own3 W3 rb B own3 f N P Bs hs L mb n pre G gM (.slice none 0 0) [] (fun _ => false) (fun _ => none) 0 ∧ ∀ g, g < W2.heap.size → own3 g = own g := by
  have h1 := h.row.lt
  have h2 := h.rbB
  refine ⟨fun g => if g < W2.heap.size then own g else if g = G then 6 else if g = gM then 9 else 0, ⟨?_, ?_, by omega, hcells, hfrz, ?_, by omega, hseen, Loc.nil _ _ _ _, hbl.trans (.of_ext hx), Nat.le_refl _, fun g _ h => ⟨rfl, h⟩⟩, fun g hg => if_pos hg⟩
  · exact (h.retag (own' := fun g => if g < W2.heap.size then own g else if g = G then 6 else if g = gM then 9 else 0) fun g hg => if_pos hg).ext hx
  · show (if G < W2.heap.size then own G else if G = G then 6 else _) = 6
    rw [if_neg (by omega), if_pos rfl]
  · show (if gM < W2.heap.size then own gM else if gM = G then 6 else if gM = gM then 9 else 0) = 9
    rw [if_neg (by omega), if_neg (fun e => hne e.symm), if_pos rfl]

theorem Mark0.ext (h : Mark0 w W0 own0 wr rb B own f N P Bs hs L mb n pre G gM tv tl hit F m) (hx : Ext wr W2) : Mark0 w W0 own0 W2 rb B own f N P Bs hs L mb n pre G gM tv tl hit F m :=
  ⟨h.ref.ext hx, h.gT, h.gB, fun s hs => hx.cell (h.hit s hs), fun s => (Below.frozen hx (p := ⟨G, s, none⟩) (World.block_lt_of_cell? wr ⟨G, 0, none⟩ (h.hit 0 h.ref.pos) : G < wr.heap.size)).trans (h.frz s), h.mT, h.mB, h.seen.block (hx.block gM h.seen.lt), h.tou.ext hx, h.bl.trans (.of_ext hx), Nat.le_trans h.size0 hx.size, fun g h1 h2 => ⟨(hx.block g (Nat.lt_of_lt_of_le h1 h.size0)).trans (h.kept0 g h1 h2).1, (h.kept0 g h1 h2).2⟩⟩

/-- a state is hit -/
theorem Mark0.mark (h : Mark0 w W0 own0 wr rb B own f N P Bs hs L mb n pre G gM tv tl hit F m) {p : Nat} (_ : p < N) :
    Mark0 w W0 own0 (wr.setCell ⟨G, p, none⟩ (.bool true)) rb B own f N P Bs hs L mb n pre G gM tv tl (fun s => decide (s = p) || hit s) F m := by
  have hk : ∀ g, own g ≠ 6 → (wr.setCell ⟨G, p, none⟩ (.bool true)).heap[g]? = wr.heap[g]? := fun g hg => Below.heap_setCell _ _ _ _ (by simp only [ne_eq]; rintro rfl; exact hg h.gT)
  refine ⟨h.ref.keepT fun g _ hg => hk g (by omega), h.gT, h.gB, fun s hs => ?_, fun s => by rw [World.frozen?_setCell]; exact h.frz s, h.mT, h.mB, h.seen.block (hk gM (by rw [h.mT]; omega)), h.tou.kept fun g _ hg => hk g (by omega), h.bl.setCell (.inl h.gB) _, by rw [World.size_setCell]; exact h.size0, fun g h1 h2 => ⟨(hk g (by have := (h.kept0 g h1 h2).2; omega)).trans (h.kept0 g h1 h2).1, (h.kept0 g h1 h2).2⟩⟩
  by_cases e : s = p
  · subst e
    rw [World.cell?_setCell_same _ _ _ (h.hit s hs)]
    simp
  · rw [World.cell?_setCell_other _ _ _ _ (by simp only [ne_eq, Addr.mk.injEq, true_and, and_true]; exact fun e' => e e'.symm), h.hit s hs]
    simp [e]

/-- a block is seen -/
theorem Mark0.see (h : Mark0 w W0 own0 wr rb B own f N P Bs hs L mb n pre G gM tv tl hit F m) {F' : Int → Option Nat} (hs' : IntM W2 gM (m + 1) F') (ht : wr.mapTurned W2 gM) :
    Mark0 w W0 own0 W2 rb B own f N P Bs hs L mb n pre G gM tv tl hit F' (m + 1) := by
  have hg := ht.grown
  have hk : ∀ g, g < wr.heap.size → own g ≠ 9 → W2.heap[g]? = wr.heap[g]? := fun g hl ho => hg.block g hl (by simp only [ne_eq, Option.some.injEq]; rintro rfl; exact ho h.mT)
  have hGl : G < wr.heap.size := World.block_lt_of_cell? _ _ (h.hit 0 h.ref.pos)
  have hGk := hk G hGl (by rw [h.gT]; omega)
  refine ⟨h.ref.keepT fun g hl ho => hk g hl (by omega), h.gT, h.gB, fun s hs => (World.cell?_of_block (a := ⟨G, s, none⟩) hGk).trans (h.hit s hs), fun s => (World.frozen?_of_block (a := ⟨G, s, none⟩) hGk).trans (h.frz s), h.mT, h.mB, hs', h.tou.kept fun g hl ho => hk g hl (by omega),
    h.bl.grown hg (fun g e => .inl (by simp only [Option.some.injEq] at e; subst e; exact h.mB)), Nat.le_trans h.size0 hg.size, fun g h1 h2 => ⟨(hk g (Nat.lt_of_lt_of_le h1 h.size0) (by have := (h.kept0 g h1 h2).2; omega)).trans (h.kept0 g h1 h2).1, (h.kept0 g h1 h2).2⟩⟩

/-- a block is told to be touched -/
theorem Mark0.touch (h : Mark0 w W0 own0 wr rb B own f N P Bs hs L mb n pre G gM tv tl hit F m) {W2 W : World} (hx : Ext wr W2) {v' : Value} {x : Nat} (hown : W.ownsRow B 3 1 v' (tl.length + 1) (natV tl ++ [.int .i64 (x : Int)])) (hg : W2.grownBy W tv.ownBlock)
    (hat : v'.ownBlock = tv.ownBlock ∨ v'.ownBlock = some W2.heap.size) :
    ∃ own', Mark0 w W0 own0 W rb B own' f N P Bs hs L mb n pre G gM v' (tl ++ [x]) hit F m := by
  obtain ⟨own', h1, h2, h3⟩ := h.tou.append hx hown hg hat
  have h2' : ∀ g, g < W0.heap.size → own' g = own g := fun g hg => h2 g (Nat.lt_of_lt_of_le hg h.size0)
  have hGl : G < wr.heap.size := World.block_lt_of_cell? _ _ (h.hit 0 h.ref.pos)
  have hGk := h3 G hGl (by rw [h.gT]; omega)
  refine ⟨own', (h.ref.retag h2).keepT fun g hl ho => h3 g hl (by rw [h2 g hl] at ho; omega), (h2 G hGl).trans h.gT, h.gB, fun s hs => (World.cell?_of_block (a := ⟨G, s, none⟩) hGk).trans (h.hit s hs), fun s => (World.frozen?_of_block (a := ⟨G, s, none⟩) hGk).trans (h.frz s), (h2 gM h.seen.lt).trans h.mT, h.mB,
    h.seen.block (h3 gM h.seen.lt (by rw [h.mT]; omega)), h1, (h.bl.trans (.of_ext hx)).grown hg (fun g e => .inl (h.tou.1.lt g e).1), Nat.le_trans h.size0 (Nat.le_trans hx.size hg.size), fun g h1 h2 => ⟨(h3 g (Nat.lt_of_lt_of_le h1 h.size0) (by have := (h.kept0 g h1 h2).2; omega)).trans (h.kept0 g h1 h2).1, (h2' g h1).trans (h.kept0 g h1 h2).2⟩⟩

theorem Mark0.congr (h : Mark0 w W0 own0 wr rb B own f N P Bs hs L mb n pre G gM tv tl hit F m) {hit' : Nat → Bool} (e : ∀ s, s < N → hit' s = hit s) : Mark0 w W0 own0 wr rb B own f N P Bs hs L mb n pre G gM tv tl hit' F m :=
  { h with hit := fun s hs => by rw [e s hs]; exact h.hit s hs }

/-- the states of a list -/
def hitD (D : List Nat) (s : Nat) : Bool := decide (s ∈ D)

/-- what is marked, seen and touched, told of the states D that have been marked -/
structure MarkM (P : Nat → Nat) (K : Nat) (tl : List Nat) (D : List Nat) (F : Int → Option Nat) : Prop where
  link : ∀ b : Nat, (F (b : Int)).isSome = decide (b ∈ tl)
  nodup : tl.Nodup
  lt : ∀ b ∈ tl, b < K
  all : ∀ p ∈ D, P p ∈ tl

theorem MarkM.nil (P : Nat → Nat) (K : Nat) : MarkM P K [] [] (fun _ => none) := ⟨fun b => by simp, by simp, fun b hb => (by cases hb), fun p hp => (by cases hp)⟩
theorem MarkM.old {K : Nat} {D : List Nat} (h : MarkM P K tl D F) {p : Nat} (hp : P p ∈ tl) : MarkM P K tl (D ++ [p]) F :=
  ⟨h.link, h.nodup, h.lt, fun q hq => by
    rcases List.mem_append.1 hq with hq | hq
    · exact h.all q hq
    · rw [List.mem_singleton] at hq; subst hq; exact hp⟩
theorem MarkM.new {K : Nat} {D : List Nat} (h : MarkM P K tl D F) {p y : Nat} (hp : P p ∉ tl) (hK : P p < K) : MarkM P K (tl ++ [P p]) (D ++ [p]) (fun x => if x = (P p : Int) then some y else F x) :=
  ⟨fun b => by
    by_cases e : b = P p
    · subst e; simp
    · rw [if_neg (by omega), h.link b]; simp [e],
   List.nodup_append.2 ⟨h.nodup, by simp, fun a ha b hb e => by rw [List.mem_singleton] at hb; subst hb; subst e; exact hp ha⟩,
   fun b hb => by
    rcases List.mem_append.1 hb with hb | hb
    · exact h.lt b hb
    · rw [List.mem_singleton] at hb; subst hb; exact hK,
   fun q hq => by
    rcases List.mem_append.1 hq with hq | hq
    · exact List.mem_append_left _ (h.all q hq)
    · rw [List.mem_singleton] at hq; subst hq; simp⟩

/-- in the loop that splits: T have been split -/
structure SplS (w wr : World) (rb B : Nat) (f0 : Nat → Value) (N : Nat) (P0 : Nat → Nat) (K : Nat) (L0 : List (Nat × Nat)) (mb : Nat) (pre : Nat → Nat → List Nat) (hv tv : Value) (tl : List Nat) (hit : Nat → Bool) (T : List Nat)
    (own : Nat → Nat) (f : Nat → Value) (P : Nat → Nat) (Bs : List (List Nat)) (hs : List Value) (L : List (Nat × Nat)) (n : Nat) : Prop where
  ref : RefS wr rb B own f N P Bs hs L mb n pre
  f3 : ∀ i, i < 3 → f i = f0 i
  bl : Bl (fun g => B ≤ g) w wr
  hitS : HitS wr B own hv N hit
  tou : Loc wr B own 6 tv tl
  prog : LM.Prog N P0 K hit T P Bs
  sub : ∀ p, p ∈ L0 → p ∈ L
  new : ∀ b a, K ≤ b → b < Bs.length → a < 256 → (b, a) ∈ L
  bd : ∀ p, p ∈ L → p.1 < Bs.length ∧ p.2 < 256
  nle : n ≤ 256 * Bs.length
  len : L.length ≤ n
  meas : L.length + 256 * K ≤ L0.length + 256 * Bs.length

theorem SplS.start (h : Mark0 w W0 own0 wr rb B own f N P Bs hs L mb n pre G gM tv tl hit F m) {f0 : Nat → Value} (hf : ∀ i, i < 3 → f i = f0 i) (hB : LM.Blk N P Bs) (hbd : ∀ p, p ∈ L → p.1 < Bs.length ∧ p.2 < 256) (hn : n ≤ 256 * Bs.length) (hl : L.length ≤ n) (c : Nat) :
    ∃ own', SplS w wr rb B f0 N P Bs.length L mb pre (.slice (some ⟨G, 0, none⟩) N c) tv tl hit [] own' f P Bs hs L n := by
  refine ⟨fun g => if own g = 7 then 6 else own g, h.ref.retagT fun g _ ho => if_neg (by omega), hf, h.bl, ⟨G, c, rfl, ?_, h.hit⟩, ⟨h.tou.1, fun g hg => ?_⟩, .start hB hit, fun p hp => hp, fun b a h1 h2 _ => by omega, hbd, hn, hl, Nat.le_refl _⟩
  · show (if own G = 7 then 6 else own G) = 6
    rw [h.gT]; rfl
  · show (if own g = 7 then 6 else own g) = 6
    rw [if_pos (h.tou.2 g hg)]

theorem SplS.step {f0 : Nat → Value} {P0 : Nat → Nat} {K : Nat} {L0 : List (Nat × Nat)} {hv : Value} {T : List Nat} {w' : World} {e : Ending} (h : SplS w wr rb B f0 N P0 K L0 mb pre hv tv tl hit T own f P Bs hs L n) {b : Nat} (hb : b < K) (hT : b ∉ T) {l : List Nat} (hl : Bs[b]? = some l)
    (hr : SplitR wr rb B own f N P Bs L mb n pre hit b l e w') : e = .returned (.tuple #[]) ∧ ∃ own' f' P' Bs' hs' L' n', SplS w w' rb B f0 N P0 K L0 mb pre hv tv tl hit (T ++ [b]) own' f' P' Bs' hs' L' n' := by
  obtain ⟨rfl, own', f', P', Bs', hs', L', n', h1, h2, h3, h4, h5⟩ := hr
  refine ⟨rfl, own', f', ?_⟩
  have hh := h.hitS.kept h4 h.ref.pos
  have ht : Loc w' B own' 6 tv tl := ⟨own_block h.tou.1 fun g hg hl => (h4 g hl (h.tou.2 g hg)).1, fun g hg => (h4 g (h.tou.1.lt g hg).2 (h.tou.2 g hg)).2⟩
  rcases h5 with ⟨h6, rfl, rfl, rfl, rfl⟩ | ⟨h6, h7, h8, rfl, h9, h10, h11, h12, rfl⟩
  · exact ⟨P', Bs', hs', L', n', h1, fun i hi => (h2 i hi).trans (h.f3 i hi), h.bl.trans h3, hh, ht, h.prog.stays hb hT hl h6, h.sub, h.new, h.bd, h.nle, h.len, h.meas⟩
  · have hp := h.prog.splits hb hT hl h6 h7
    have hlen : (Bs.set b (LM.parts hit l).1 ++ [(LM.parts hit l).2]).length = Bs.length + 1 := by simp
    have hnle := h.nle
    have hlen' := h.len
    have hme := h.meas
    refine ⟨LM.moved P (LM.parts hit l).2 Bs.length, _, hs', L', _, { h1 with block := ?_ }, fun i hi => (h2 i hi).trans (h.f3 i hi), h.bl.trans h3, hh, ht, hp, fun p hp' => h10 p (h.sub p hp'), fun b' a q1 q2 q3 => ?_, fun p hp' => ?_, ?_, ?_, ?_⟩
    · rw [show (List.range N).map (LM.moved P (LM.parts hit l).2 Bs.length) = (List.range N).map P' from List.map_congr_left fun s hs => (h8 s (by simpa using hs)).symm]
      exact h1.block
    · rw [hlen] at q2
      by_cases e : b' = Bs.length
      · subst e; exact h9 a q3
      · exact h10 _ (h.new b' a q1 (by omega) q3)
    · rw [hlen]
      rcases h11 p hp' with q1 | q1
      · have := h.bd p q1; omega
      · omega
    · rw [hlen]; omega
    · omega
    · rw [hlen]; omega
end
end Go.Proofs.YthnojechejckpaaDoor
