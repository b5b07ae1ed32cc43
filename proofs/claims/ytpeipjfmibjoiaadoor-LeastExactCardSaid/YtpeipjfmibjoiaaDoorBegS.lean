/- The refiner's state while refiner.begin makes it. -/
import Derived.Test.YtpeipjfmibjoiaaDoorRefOps
import Derived.Test.YtpeipjfmibjoiaaDoorIntMap
import Derived.Test.YtpeipjfmibjoiaaDoorBegMath
namespace Go.Proofs.YtpeipjfmibjoiaaDoor
open Go.RowKit

/-- blocks by labels, in the making: the labels' map bears tag 6 -/
structure BegS (w : World) (rb B : Nat) (own : Nat → Nat) (f : Nat → Value) (k : Nat) (P : Nat → Nat) (Bs : List (List Nat)) (hs : List Value) (mb gM m : Nat) (F : Int → Option Nat) : Prop where
  row : w.rowIs rb 160 7 f
  rbB : B ≤ rb
  rbT : own rb = 5
  block : w.ownsRow B 3 1 (f 3) k (natV ((List.range k).map P))
  blockT : ∀ g, (f 3).ownBlock = some g → own g = 1
  tab : w.ownsRow B 23 1 (f 4) Bs.length hs
  tabT : ∀ g, (f 4).ownBlock = some g → own g = 2
  rows : ∀ (i : Nat) (h : Value) (l : List Nat), hs[i]? = some h → Bs[i]? = some l → w.ownsRow B 3 1 h l.length (natV l) ∧ ∀ g, h.ownBlock = some g → own g = i + 10
  set : SetM w mb 0 (fun _ _ => False)
  f5 : f 5 = .slice none 0 0
  f6 : f 6 = .map (some mb)
  mbT : own mb = 4
  mbB : B ≤ mb
  seen : IntM w gM m F
  seenT : own gM = 6
  seenB : B ≤ gM

theorem ne_of_own {gg rb n c : Nat} {g : Nat} (h : Value.ownBlock (.slice (some ⟨gg, 0, none⟩) n c) = some g) (hne : gg ≠ rb) : g ≠ rb := by
  have hg2 : gg = g := by simpa [Value.ownBlock] using h
  subst hg2; exact hne

section
variable {w w' w2 w4 : World} {rb B : Nat} {own own' : Nat → Nat} {f : Nat → Value} {k : Nat} {P : Nat → Nat} {Bs : List (List Nat)} {hs : List Value} {mb gM m : Nat} {F : Int → Option Nat}

theorem BegS.hlen (h : BegS w rb B own f k P Bs hs mb gM m F) : hs.length = Bs.length := by have := h.tab.1; omega

/-- blocks of other tags may change, and those that are not there yet may have any tag -/
theorem BegS.keepT (h : BegS w rb B own f k P Bs hs mb gM m F) (hlen : Bs.length ≤ 900) (hk : ∀ g, g < w.heap.size → (own g ≤ 6 ∨ (10 ≤ own g ∧ own g < 1000)) → w'.heap[g]? = w.heap[g]? ∧ own' g = own g) : BegS w' rb B own' f k P Bs hs mb gM m F where
  row := h.row.of_block (hk rb h.row.lt (by have := h.rbT; omega)).1
  rbB := h.rbB
  rbT := (hk rb h.row.lt (by have := h.rbT; omega)).2.trans h.rbT
  block := own_block h.block fun g hg hl => (hk g hl (by have := h.blockT g hg; omega)).1
  blockT := fun g hg => (hk g (h.block.lt g hg).2 (by have := h.blockT g hg; omega)).2.trans (h.blockT g hg)
  tab := own_block h.tab fun g hg hl => (hk g hl (by have := h.tabT g hg; omega)).1
  tabT := fun g hg => (hk g (h.tab.lt g hg).2 (by have := h.tabT g hg; omega)).2.trans (h.tabT g hg)
  rows := fun i hv l h1 h2 => by
    have h3 := h.rows i hv l h1 h2
    have h4 := (List.getElem?_eq_some_iff.1 h2).1
    exact ⟨own_block h3.1 fun g hg hl => (hk g hl (by have := h3.2 g hg; omega)).1, fun g hg => (hk g (h3.1.lt g hg).2 (by have := h3.2 g hg; omega)).2.trans (h3.2 g hg)⟩
  set := h.set.block (hk mb h.set.lt (by have := h.mbT; omega)).1
  f5 := h.f5
  f6 := h.f6
  mbT := (hk mb h.set.lt (by have := h.mbT; omega)).2.trans h.mbT
  mbB := h.mbB
  seen := h.seen.block (hk gM h.seen.lt (by have := h.seenT; omega)).1
  seenT := (hk gM h.seen.lt (by have := h.seenT; omega)).2.trans h.seenT
  seenB := h.seenB

theorem BegS.ext (h : BegS w rb B own f k P Bs hs mb gM m F) (hlen : Bs.length ≤ 900) (hx : Ext w w') : BegS w' rb B own f k P Bs hs mb gM m F := h.keepT hlen fun g hg _ => ⟨hx.block g hg, rfl⟩

/-- a label is stored -/
theorem BegS.see (h : BegS w rb B own f k P Bs hs mb gM m F) {F' : Int → Option Nat} (hs' : IntM w' gM (m + 1) F') (ht : w.mapTurned w' gM) : BegS w' rb B own f k P Bs hs mb gM (m + 1) F' := by
  have hk : ∀ g, g < w.heap.size → own g ≠ 6 → w'.heap[g]? = w.heap[g]? := fun g hl ho => ht.grown.block g hl (by simp only [ne_eq, Option.some.injEq]; rintro rfl; exact ho h.seenT)
  exact ⟨h.row.of_block (hk rb h.row.lt (by have := h.rbT; omega)), h.rbB, h.rbT, own_block h.block fun g hg hl => hk g hl (by have := h.blockT g hg; omega), h.blockT,
    own_block h.tab fun g hg hl => hk g hl (by have := h.tabT g hg; omega), h.tabT, fun i hv l h1 h2 => ⟨own_block (h.rows i hv l h1 h2).1 fun g hg hl => hk g hl (by have := (h.rows i hv l h1 h2).2 g hg; omega), (h.rows i hv l h1 h2).2⟩,
    h.set.block (hk mb h.set.lt (by have := h.mbT; omega)), h.f5, h.f6, h.mbT, h.mbB, hs', h.seenT, h.seenB⟩

/-- the refiner's cell i gets the row that an append has told: what all steps share -/
theorem BegS.grow (_h : BegS w rb B own f k P Bs hs mb gM m F) (hx : Ext w w2) {rv : Value} {t : Nat} (hrT : ∀ g, rv.ownBlock = some g → own g = t) {gg : Nat} (hg : w2.grownBy w4 rv.ownBlock) (hat : rv.ownBlock = some gg ∨ w.heap.size ≤ gg)
    {ga ca : Nat} {v : Value} (hga : own ga = 5 ∨ own ga = 2) (hgl : ga < w.heap.size) :
    ∃ own' : Nat → Nat, (∀ g, g < w.heap.size → own' g = own g) ∧ own' gg = t ∧ ∀ g, g < w.heap.size → own g ≠ t → own g ≠ own ga → (w4.setCell ⟨ga, ca, none⟩ v).heap[g]? = w.heap[g]? := by
  refine ⟨fun g => if g < w.heap.size then own g else t, fun g hg' => if_pos hg', ?_, fun g hg' h1 h2 => ?_⟩
  · show (if gg < w.heap.size then own gg else t) = t
    by_cases e : gg < w.heap.size
    · rw [if_pos e]
      rcases hat with h1 | h1
      · exact hrT gg h1
      · omega
    · rw [if_neg e]
  · have := hx.size
    rw [show (w4.setCell ⟨ga, ca, none⟩ v).heap[g]? = w4.heap[g]? from Below.heap_setCell _ _ _ _ (by simp only [ne_eq]; rintro rfl; exact h2 rfl), hg.block g (by omega) (fun e => h1 (hrT g e.symm)), hx.block g hg']

/-- a state's number is put behind -/
theorem BegS.addBlock (h : BegS w rb B own f k P Bs hs mb gM m F) (hx : Ext w w2) {x gg cap : Nat} (hown : w4.ownsRow B 3 1 (.slice (some ⟨gg, 0, none⟩) (k + 1) cap) (k + 1) (natV ((List.range k).map P) ++ [.int .i64 (x : Int)]))
    (hg : w2.grownBy w4 (f 3).ownBlock) (hat : (f 3).ownBlock = some gg ∨ w.heap.size ≤ gg) :
    ∃ own', BegS (w4.setCell ⟨rb, 3, none⟩ (.slice (some ⟨gg, 0, none⟩) (k + 1) cap)) rb B own' (fun i => if i = 3 then .slice (some ⟨gg, 0, none⟩) (k + 1) cap else f i) (k + 1) (fun s => if s = k then x else P s) Bs hs mb gM m F ∧ ∀ g, g < w.heap.size → own' g = own g := by
  have hrl := h.row.lt
  obtain ⟨own', ho, hot, hk⟩ := h.grow (ga := rb) (ca := 3) (v := .slice (some ⟨gg, 0, none⟩) (k + 1) cap) hx h.blockT hg hat (.inl h.rbT) hrl
  rw [h.rbT] at hk
  have hne : gg ≠ rb := by
    rintro rfl
    have h1 := ho gg hrl
    rw [hot, h.rbT] at h1; cases h1
  have r4 : w4.rowIs rb 160 7 f := h.row.of_block (by
    have := hx.size
    rw [hg.block rb (by omega) (fun e => by have := h.blockT rb e.symm; have := h.rbT; omega), hx.block rb hrl])
  refine ⟨own', ⟨r4.set 3 _, h.rbB, (ho rb hrl).trans h.rbT, ?_, ?_, ?_, ?_, ?_, ?_, h.f5, h.f6, ?_, h.mbB, ?_, ?_, h.seenB⟩, ho⟩
  · have e : natV ((List.range (k + 1)).map fun s => if s = k then x else P s) = natV ((List.range k).map P) ++ [.int .i64 (x : Int)] := by
      rw [List.range_succ, List.map_append, ← natV_snoc]
      congr 2
      · exact List.map_congr_left fun s hs => if_neg (by have := List.mem_range.1 hs; omega)
      · simp
    rw [e]
    exact own_block hown fun g hg' _ => Below.heap_setCell _ _ _ _ (ne_of_own hg' hne)
  · intro g hg'
    have hg' : gg = g := by simpa [Value.ownBlock] using hg'
    subst hg'; exact hot
  · exact own_block h.tab fun g hg' hl => hk g hl (by have := h.tabT g hg'; omega) (by have := h.tabT g hg'; omega)
  · intro g hg'
    have hg' : (f 4).ownBlock = some g := hg'
    exact (ho g (h.tab.lt g hg').2).trans (h.tabT g hg')
  · intro i hv l h1 h2
    have h3 := h.rows i hv l h1 h2
    exact ⟨own_block h3.1 fun g hg' hl => hk g hl (by have := h3.2 g hg'; omega) (by have := h3.2 g hg'; omega), fun g hg' => (ho g (h3.1.lt g hg').2).trans (h3.2 g hg')⟩
  · exact h.set.block (hk mb h.set.lt (by have := h.mbT; omega) (by have := h.mbT; omega))
  · exact (ho mb h.set.lt).trans h.mbT
  · exact h.seen.block (hk gM h.seen.lt (by have := h.seenT; omega) (by have := h.seenT; omega))
  · exact (ho gM h.seen.lt).trans h.seenT

/-- an empty block is put behind -/
theorem BegS.addRow (h : BegS w rb B own f k P Bs hs mb gM m F) (hx : Ext w w2) {gg cap : Nat} (hown : w4.ownsRow B 23 1 (.slice (some ⟨gg, 0, none⟩) (Bs.length + 1) cap) (Bs.length + 1) (hs ++ [.slice none 0 0]))
    (hg : w2.grownBy w4 (f 4).ownBlock) (hat : (f 4).ownBlock = some gg ∨ w.heap.size ≤ gg) :
    ∃ own', BegS (w4.setCell ⟨rb, 4, none⟩ (.slice (some ⟨gg, 0, none⟩) (Bs.length + 1) cap)) rb B own' (fun i => if i = 4 then .slice (some ⟨gg, 0, none⟩) (Bs.length + 1) cap else f i) k P (Bs ++ [[]]) (hs ++ [.slice none 0 0]) mb gM m F ∧ ∀ g, g < w.heap.size → own' g = own g := by
  have hrl := h.row.lt
  have hhl := h.hlen
  obtain ⟨own', ho, hot, hk⟩ := h.grow (ga := rb) (ca := 4) (v := .slice (some ⟨gg, 0, none⟩) (Bs.length + 1) cap) hx h.tabT hg hat (.inl h.rbT) hrl
  rw [h.rbT] at hk
  have hne : gg ≠ rb := by
    rintro rfl
    have h1 := ho gg hrl
    rw [hot, h.rbT] at h1; cases h1
  have r4 : w4.rowIs rb 160 7 f := h.row.of_block (by
    have := hx.size
    rw [hg.block rb (by omega) (fun e => by have := h.tabT rb e.symm; have := h.rbT; omega), hx.block rb hrl])
  refine ⟨own', ⟨r4.set 4 _, h.rbB, (ho rb hrl).trans h.rbT, ?_, ?_, ?_, ?_, ?_, ?_, h.f5, h.f6, ?_, h.mbB, ?_, ?_, h.seenB⟩, ho⟩
  · exact own_block h.block fun g hg' hl => hk g hl (by have := h.blockT g hg'; omega) (by have := h.blockT g hg'; omega)
  · intro g hg'
    have hg' : (f 3).ownBlock = some g := hg'
    exact (ho g (h.block.lt g hg').2).trans (h.blockT g hg')
  · rw [List.length_append]
    exact own_block hown fun g hg' _ => Below.heap_setCell _ _ _ _ (ne_of_own hg' hne)
  · intro g hg'
    have hg' : gg = g := by simpa [Value.ownBlock] using hg'
    subst hg'; exact hot
  · intro i hv l h1 h2
    rw [List.getElem?_append] at h1 h2
    split at h1
    · rename_i hi
      rw [if_pos (by omega)] at h2
      have h3 := h.rows i hv l h1 h2
      exact ⟨own_block h3.1 fun g hg' hl => hk g hl (by have := h3.2 g hg'; omega) (by have := h3.2 g hg'; omega), fun g hg' => (ho g (h3.1.lt g hg').2).trans (h3.2 g hg')⟩
    · rename_i hi
      rw [if_neg (by omega)] at h2
      have h3 := (List.getElem?_eq_some_iff.1 h1).1
      simp at h3
      have e : i = Bs.length := by omega
      subst e
      rw [show Bs.length - hs.length = 0 by omega] at h1
      rw [Nat.sub_self] at h2
      simp at h1 h2
      subst h1; subst h2
      exact ⟨World.ownsRow_nil _ _ _ _, fun g hg' => by cases hg'⟩
  · exact h.set.block (hk mb h.set.lt (by have := h.mbT; omega) (by have := h.mbT; omega))
  · exact (ho mb h.set.lt).trans h.mbT
  · exact h.seen.block (hk gM h.seen.lt (by have := h.seenT; omega) (by have := h.seenT; omega))
  · exact (ho gM h.seen.lt).trans h.seenT

/-- a state is put into block b -/
theorem BegS.addTo (h : BegS w rb B own f k P Bs hs mb gM m F) (hx : Ext w w2) {b : Nat} {l : List Nat} {hv v' : Value} (hb : Bs[b]? = some l) (hhb : hs[b]? = some hv) {x gg : Nat} (hv' : v'.ownBlock = some gg)
    (hown : w4.ownsRow B 3 1 v' (l.length + 1) (natV l ++ [.int .i64 (x : Int)])) (hg : w2.grownBy w4 hv.ownBlock) (hat : hv.ownBlock = some gg ∨ w.heap.size ≤ gg) {g4 c4 : Nat} (h4 : f 4 = .slice (some ⟨g4, 0, none⟩) Bs.length c4) :
    ∃ own', BegS (w4.setCell ⟨g4, b, none⟩ v') rb B own' f k P (Bs.set b (l ++ [x])) (hs.set b v') mb gM m F ∧ ∀ g, g < w.heap.size → own' g = own g := by
  have hrl := h.row.lt
  have hhl := h.hlen
  have hbl := (List.getElem?_eq_some_iff.1 hb).1
  have hg4 : own g4 = 2 := h.tabT g4 (by rw [h4]; rfl)
  have hg4l := (h.tab.lt g4 (by rw [h4]; rfl)).2
  have hrow := h.rows b hv l hhb hb
  obtain ⟨own', ho, hot, hk⟩ := h.grow (ga := g4) (ca := b) (v := v') hx hrow.2 hg hat (.inr hg4) hg4l
  rw [hg4] at hk
  have hne : gg ≠ g4 := by
    rintro rfl
    have h1 := ho gg hg4l
    rw [hot, hg4] at h1; omega
  refine ⟨own', ⟨h.row.of_block (hk rb hrl (by have := h.rbT; omega) (by have := h.rbT; omega)), h.rbB, (ho rb hrl).trans h.rbT, ?_, ?_, ?_, ?_, ?_, ?_, h.f5, h.f6, ?_, h.mbB, ?_, ?_, h.seenB⟩, ho⟩
  · exact own_block h.block fun g hg' hl => hk g hl (by have := h.blockT g hg'; omega) (by have := h.blockT g hg'; omega)
  · intro g hg'
    exact (ho g (h.block.lt g hg').2).trans (h.blockT g hg')
  · have htab := h.tab
    rw [h4] at htab
    have h5 : w4.ownsRow B 23 1 (.slice (some ⟨g4, 0, none⟩) Bs.length c4) Bs.length hs := own_block htab fun g hg' hl => by
      have hg' : g4 = g := by simpa [Value.ownBlock] using hg'
      subst hg'
      have := hx.size
      rw [hg.block g4 (by omega) (fun e => by have := hrow.2 g4 e.symm; omega), hx.block g4 hl]
    have h6 := (h5.stored b v').1
    rw [h4, List.length_set]
    exact h6
  · intro g hg'
    exact (ho g (h.tab.lt g hg').2).trans (h.tabT g hg')
  · intro i hv2 l2 h1 h2
    rw [List.getElem?_set] at h1 h2
    by_cases e : b = i
    · subst e
      rw [if_pos rfl, if_pos (by omega)] at h1
      rw [if_pos rfl, if_pos hbl] at h2
      simp at h1 h2
      subst h1; subst h2
      refine ⟨?_, fun g hg' => ?_⟩
      · rw [natV_snoc, List.length_append]
        exact own_block hown fun g hg' _ => Below.heap_setCell _ _ _ _ (by rw [hv'] at hg'; simp only [Option.some.injEq] at hg'; simp only [ne_eq]; omega)
      · rw [hv'] at hg'
        have hg' : gg = g := by simpa using hg'
        subst hg'; exact hot
    · rw [if_neg e] at h1 h2
      have h3 := h.rows i hv2 l2 h1 h2
      exact ⟨own_block h3.1 fun g hg' hl => hk g hl (by have := h3.2 g hg'; omega) (by have := h3.2 g hg'; omega), fun g hg' => (ho g (h3.1.lt g hg').2).trans (h3.2 g hg')⟩
  · exact h.set.block (hk mb h.set.lt (by have := h.mbT; omega) (by have := h.mbT; omega))
  · exact (ho mb h.set.lt).trans h.mbT
  · exact h.seen.block (hk gM h.seen.lt (by have := h.seenT; omega) (by have := h.seenT; omega))
  · exact (ho gM h.seen.lt).trans h.seenT

/-- of each state and byte (number q) those that lead to it, in the making: block G bears tag 7, row q tag q + 1000 -/
structure FroS (w : World) (B : Nat) (own : Nat → Nat) (G N : Nat) (hd : Nat → Value) (pr : Nat → List Nat) : Prop where
  gT : own G = 7
  gB : B ≤ G
  cell : ∀ q, q < N * 256 → w.cell? ⟨G, q, none⟩ = some (hd q)
  frz : ∀ q, w.frozen? ⟨G, q, none⟩ = false
  rows : ∀ q, q < N * 256 → w.ownsRow B 3 1 (hd q) (pr q).length (natV (pr q)) ∧ ∀ g, (hd q).ownBlock = some g → own g = q + 1000

theorem FroS.keepT {G N : Nat} {hd : Nat → Value} {pr : Nat → List Nat} (h : FroS w B own G N hd pr) (hN : 0 < N) (hk : ∀ g, g < w.heap.size → (own g = 7 ∨ 1000 ≤ own g) → w'.heap[g]? = w.heap[g]? ∧ own' g = own g) : FroS w' B own' G N hd pr := by
  have hGl : G < w.heap.size := World.block_lt_of_cell? _ _ (h.cell 0 (by omega))
  have hG := hk G hGl (.inl h.gT)
  exact ⟨hG.2.trans h.gT, h.gB, fun q hq => (World.cell?_of_block (a := ⟨G, q, none⟩) hG.1).trans (h.cell q hq), fun q => (World.frozen?_of_block (a := ⟨G, q, none⟩) hG.1).trans (h.frz q),
    fun q hq => ⟨own_block (h.rows q hq).1 fun g hg hl => (hk g hl (.inr (by have := (h.rows q hq).2 g hg; omega))).1, fun g hg => (hk g ((h.rows q hq).1.lt g hg).2 (.inr (by have := (h.rows q hq).2 g hg; omega))).2.trans ((h.rows q hq).2 g hg)⟩⟩

theorem FroS.start (h : BegS w rb B own f k P Bs hs mb gM m F) (hlen : Bs.length ≤ 900) (hx : Ext w w') {G N : Nat} (hG : w.heap.size ≤ G) (hcell : ∀ q, q < N * 256 → w'.cell? ⟨G, q, none⟩ = some (.slice none 0 0)) (hfrz : ∀ q, w'.frozen? ⟨G, q, none⟩ = false) :
    ∃ own', BegS w' rb B own' f k P Bs hs mb gM m F ∧ FroS w' B own' G N (fun _ => .slice none 0 0) (fun _ => []) := by
  have h1 := h.row.lt
  have h2 := h.rbB
  refine ⟨fun g => if g < w.heap.size then own g else 7, h.keepT hlen fun g hg _ => ⟨hx.block g hg, if_pos hg⟩, if_neg (by omega), by omega, hcell, hfrz, fun q _ => ⟨World.ownsRow_nil _ _ _ _, fun g hg => by cases hg⟩⟩

/-- a state is put behind those of number q -/
theorem FroS.add {G N : Nat} {hd : Nat → Value} {pr : Nat → List Nat} (h : BegS w rb B own f k P Bs hs mb gM m F) (hF : FroS w B own G N hd pr) (hlen : Bs.length ≤ 900) (hx : Ext w w2) {q x gg : Nat} (hq : q < N * 256) {v' : Value} (hv' : v'.ownBlock = some gg)
    (hown : w4.ownsRow B 3 1 v' ((pr q).length + 1) (natV (pr q) ++ [.int .i64 (x : Int)])) (hg : w2.grownBy w4 (hd q).ownBlock) (hat : (hd q).ownBlock = some gg ∨ w.heap.size ≤ gg) :
    ∃ own', BegS (w4.setCell ⟨G, q, none⟩ v') rb B own' f k P Bs hs mb gM m F ∧ FroS (w4.setCell ⟨G, q, none⟩ v') B own' G N (fun q' => if q' = q then v' else hd q') (fun q' => if q' = q then pr q ++ [x] else pr q') := by
  have hs2 := hx.size
  have hrow := hF.rows q hq
  have hGl : G < w.heap.size := World.block_lt_of_cell? _ _ (hF.cell q hq)
  let own' := fun g => if g < w.heap.size then own g else q + 1000
  have ho : ∀ g, g < w.heap.size → own' g = own g := fun g hg' => if_pos hg'
  have hot : own' gg = q + 1000 := by
    show (if gg < w.heap.size then own gg else q + 1000) = q + 1000
    by_cases e : gg < w.heap.size
    · rw [if_pos e]
      rcases hat with h1 | h1
      · exact hrow.2 gg h1
      · omega
    · rw [if_neg e]
  have hk4 : ∀ g, g < w.heap.size → own g ≠ q + 1000 → w4.heap[g]? = w.heap[g]? := fun g hl h1 => by
    rw [hg.block g (by omega) (fun e => h1 (hrow.2 g e.symm)), hx.block g hl]
  have hk : ∀ g, g < w.heap.size → own g ≠ q + 1000 → own g ≠ 7 → (w4.setCell ⟨G, q, none⟩ v').heap[g]? = w.heap[g]? := fun g hl h1 h2 =>
    (Below.heap_setCell _ _ _ _ (by simp only [ne_eq]; rintro rfl; exact h2 hF.gT)).trans (hk4 g hl h1)
  have hne : gg ≠ G := by
    rintro rfl
    have h1 := ho gg hGl
    rw [hot, hF.gT] at h1; omega
  have hG4 := hk4 G hGl (by rw [hF.gT]; omega)
  refine ⟨own', h.keepT hlen fun g hl h1 => ⟨hk g hl (by omega) (by omega), ho g hl⟩, (ho G hGl).trans hF.gT, hF.gB, fun q' hq' => ?_, fun q' => ?_, fun q' hq' => ?_⟩
  · by_cases e : q' = q
    · subst e
      rw [if_pos rfl]
      exact World.cell?_setCell_same _ _ _ ((World.cell?_of_block (a := ⟨G, q', none⟩) hG4).trans (hF.cell q' hq'))
    · rw [if_neg e, World.cell?_setCell_other _ _ _ _ (by simp only [ne_eq, Addr.mk.injEq, true_and, and_true]; exact fun e' => e e'.symm)]
      exact (World.cell?_of_block (a := ⟨G, q', none⟩) hG4).trans (hF.cell q' hq')
  · rw [World.frozen?_setCell]
    exact (World.frozen?_of_block (a := ⟨G, q', none⟩) hG4).trans (hF.frz q')
  · by_cases e : q' = q
    · subst e
      simp only [if_true]
      refine ⟨?_, fun g hg' => ?_⟩
      · rw [natV_snoc, List.length_append]
        exact own_block hown fun g hg' _ => Below.heap_setCell _ _ _ _ (by rw [hv'] at hg'; simp only [Option.some.injEq] at hg'; simp only [ne_eq]; omega)
      · rw [hv'] at hg'
        have hg' : gg = g := by simpa using hg'
        subst hg'; exact hot
    · simp only [if_neg e]
      have h3 := hF.rows q' hq'
      exact ⟨own_block h3.1 fun g hg' hl => hk g hl (by have := h3.2 g hg'; omega) (by have := h3.2 g hg'; omega), fun g hg' => (ho g (h3.1.lt g hg').2).trans (h3.2 g hg')⟩

theorem readN_of {Z : Nat → Prop} {v : Value} {l : List Nat} (h : w.ownsRow B 3 1 v l.length (natV l)) (hZ : ∀ g, v.ownBlock = some g → Z g) : ReadN w Z v l := by
  obtain ⟨a, cap, h1, _, _, h2⟩ := own_read h
  refine ⟨a, cap, h1, fun h0 => ?_⟩
  obtain ⟨g, hg, _, h3⟩ := h2 h0
  exact ⟨g, hg, hZ g (by rw [h1, hg]; rfl), fun i hi => (h3 i hi).trans (natV_get hi)⟩

/-- the refiner, begun, but for what waits -/
theorem BegS.done {G cG N : Nat} {hd : Nat → Value} {pr : Nat → List Nat} (h : BegS w rb B own f N P Bs hs mb gM m F) (hF : FroS w B own G N hd pr) (hN : 0 < N) (hlen : Bs.length ≤ 900) (h2 : f 2 = .slice (some ⟨G, 0, none⟩) N cG) {pre : Nat → Nat → List Nat} (hpre : ∀ s a, s < N → a < 256 → pr (s * 256 + a) = pre s a) :
    ∃ own', RefS w rb B own' f N P Bs hs [] mb 0 pre := by
  let own' := fun g => if own g = 7 ∨ 1000 ≤ own g then 0 else own g
  have hA := h.keepT (w' := w) (own' := own') hlen (fun g _ h1 => ⟨rfl, if_neg (by omega)⟩)
  refine ⟨own', hN, hA.row, hA.rbB, hA.rbT, ⟨G, cG, h2, if_pos (.inl hF.gT), fun s a hs ha => ?_⟩, hA.block, hA.blockT, hA.tab, hA.tabT, hA.rows, ⟨?_, hA.set.congr fun x y => by simp, fun p hp => (by cases hp), ?_, by simp⟩, hA.f6, ?_, hA.mbT, hA.mbB⟩
  · have hq : s * 256 + a < N * 256 := by omega
    refine ⟨_, hF.cell _ hq, ?_⟩
    have h3 := hF.rows _ hq
    rw [hpre s a hs ha] at h3
    exact readN_of h3.1 fun g hg => if_pos (.inr (by have := h3.2 g hg; omega))
  · rw [hA.f5]; exact World.ownsRow_nil _ _ _ _
  · rw [hA.f5]; simp [Value.ownBlock]
  · rw [hA.f5]; intro g hg; cases hg

/-- the refiner's cell 2 is set -/
theorem BegS.setFrom (h : BegS w rb B own f k P Bs hs mb gM m F) (v : Value) : BegS (w.setCell ⟨rb, 2, none⟩ v) rb B own (fun i => if i = 2 then v else f i) k P Bs hs mb gM m F := by
  have hk : ∀ g, own g ≠ 5 → (w.setCell ⟨rb, 2, none⟩ v).heap[g]? = w.heap[g]? := fun g ho => Below.heap_setCell _ _ _ _ (by simp only [ne_eq]; rintro rfl; exact ho h.rbT)
  exact ⟨h.row.set 2 _, h.rbB, h.rbT, own_block h.block fun g hg _ => hk g (by have := h.blockT g hg; omega), h.blockT,
    own_block h.tab fun g hg _ => hk g (by have := h.tabT g hg; omega), h.tabT, fun i hv l h1 h2 => ⟨own_block (h.rows i hv l h1 h2).1 fun g hg _ => hk g (by have := (h.rows i hv l h1 h2).2 g hg; omega), (h.rows i hv l h1 h2).2⟩,
    h.set.block (hk mb (by have := h.mbT; omega)), h.f5, h.f6, h.mbT, h.mbB, h.seen.block (hk gM (by have := h.seenT; omega)), h.seenT, h.seenB⟩

theorem BegS.start {Z : World} (hrow : w.rowIs rb 160 7 f) (hB : B ≤ rb) (hm : B ≤ mb) (hne : rb ≠ mb) (hset : SetM w mb 0 (fun _ _ => False)) (h3 : f 3 = .slice none 0 0) (h4 : f 4 = .slice none 0 0) (h5 : f 5 = .slice none 0 0) (h6 : f 6 = .map (some mb)) (hx : Ext w Z) (hM : w.heap.size ≤ gM)
    (hseen : IntM Z gM 0 (fun _ => none)) (P : Nat → Nat) : ∃ own, BegS Z rb B own f 0 P [] [] mb gM 0 (fun _ => none) := by
  have h1 := hrow.lt
  have h2 := hset.lt
  refine ⟨fun g => if g = rb then 5 else if g = mb then 4 else 6, hrow.of_block (hx.block rb h1), hB, if_pos rfl, ?_, ?_, ?_, ?_, fun i h l h1 _ => (by simp at h1), hset.block (hx.block mb h2), h5, h6, ?_, hm, hseen, ?_, by omega⟩
  · rw [h3]; exact World.ownsRow_nil _ _ _ _
  · rw [h3]; intro g hg; cases hg
  · rw [h4]; exact World.ownsRow_nil _ _ _ _
  · rw [h4]; intro g hg; cases hg
  · show (if mb = rb then 5 else if mb = mb then 4 else 6) = 4
    rw [if_neg (fun e => hne e.symm), if_pos rfl]
  · show (if gM = rb then 5 else if gM = mb then 4 else 6) = 6
    rw [if_neg (by omega), if_neg (by omega)]
end
end Go.Proofs.YtpeipjfmibjoiaaDoor
