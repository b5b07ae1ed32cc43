/- The memory of witness.labels: the search's steps, and a map from labels to first words. No function of the program in sight. -/
import Derived.Test.YtihginaanlcilaaDoorWitS
import Derived.Test.YtihginaanlcilaaDoorBytMap
namespace Go.Proofs.YtihginaanlcilaaDoor
open Go.RowKit

/-- an automaton of up to 1000 states, as functions: a start of its own may stand ahead of others -/
structure AutoN (d : Dn) : Prop where
  pos : 0 < d.next.length
  most : d.next.length ≤ 1000
  nxt : ∀ s c, s < d.next.length → c < 256 → d.nx s c < d.next.length
  label : ∀ s, s < d.next.length → -1 ≤ d.lb s ∧ d.lb s < 200

theorem AutoN.ok {d : Dn} (h : AutoN d) : d.aut.ok := ⟨h.pos, h.nxt⟩

/-- the map tells, of each label that one of the first i entries has, the word of the first such one -/
structure LbF (W wr : World) (d : Dn) (gS gM i : Nat) (lv : Value) (L : List (Nat × List Nat)) (F : Int → Option Value) : Prop where
  no : ∀ b, F b = none → ∀ j k u, j < i → L[j]? = some (k, u) → d.lb k ≠ b
  yes : ∀ b v, F b = some v → ∃ j k u, j < i ∧ L[j]? = some (k, u) ∧ d.lb k = b ∧ (∀ j' k' u', j' < j → L[j']? = some (k', u') → d.lb k' ≠ b) ∧ wr.ownsRow W.heap.size 5 1 v u.length (bytesV u) ∧ (∀ g, v.ownBlock = some g → g ≠ gS ∧ g ≠ gM ∧ lv.ownBlock ≠ some g)

structure LbS (W wr : World) (d : Dn) (gS gM N nM i : Nat) (lv : Value) (S : List St) (L : List (Nat × List Nat)) (F : Int → Option Value) : Prop where
  sr : SrS W wr gS N 1 lv S L
  map : BytM wr gM nM F
  mB : W.heap.size ≤ gM
  mS : gM ≠ gS
  mR : lv.ownBlock ≠ some gM
  fs : LbF W wr d gS gM i lv L F

section
variable {W wr w' Wm W4 : World} {d : Dn} {gS gM N nM i : Nat} {lv v' : Value} {S : List St} {L : List (Nat × List Nat)} {F : Int → Option Value}

theorem LbF.keep (h : LbF W wr d gS gM i lv L F) (hk : ∀ g, g < wr.heap.size → g ≠ gS → g ≠ gM → lv.ownBlock ≠ some g → w'.heap[g]? = wr.heap[g]?) : LbF W w' d gS gM i lv L F :=
  ⟨h.no, fun b v e => by
    obtain ⟨j, k, u, h1, h2, h3, h4, h5, h6⟩ := h.yes b v e
    exact ⟨j, k, u, h1, h2, h3, h4, own_block h5 fun g hg hl => hk g hl (h6 g hg).1 (h6 g hg).2.1 (h6 g hg).2.2, h6⟩⟩

theorem LbS.more (h : LbS W wr d gS gM N nM i lv S L F) (hx : Ext wr w') : LbS W w' d gS gM N nM i lv S L F :=
  ⟨h.sr.more hx, h.map.block (hx.block _ h.map.lt), h.mB, h.mS, h.mR, h.fs.keep fun g hg _ _ _ => hx.block g hg⟩

/-- a state is marked, and put behind -/
theorem LbS.add {n i0 : Nat} (h : LbS W wr d gS gM N nM i lv S L F) {ki a c : Nat} {wi : List Nat} (hn : n = S.length) (hii : i ≤ L.length) (hi : L[i0]? = some (ki, wi))
    (hm : Ext (wr.setCell ⟨gS, a, none⟩ (.bool true)) Wm) (hown : W4.ownsRow W.heap.size 90 4 v' (n + 1) (stsV S ++ stV ⟨a, 0, (i0 : Int), c⟩)) (hg : Wm.grownBy W4 lv.ownBlock)
    (hat : v'.ownBlock = lv.ownBlock ∨ ∀ g, v'.ownBlock = some g → wr.heap.size ≤ g) :
    LbS W W4 d gS gM N nM i v' (S ++ [⟨a, 0, (i0 : Int), c⟩]) (L ++ [(a, wi ++ [c])]) F := by
  have hs := hm.size
  rw [World.size_setCell] at hs
  have hk : ∀ g, g < wr.heap.size → g ≠ gS → lv.ownBlock ≠ some g → W4.heap[g]? = wr.heap[g]? := fun g hl h1 h2 => by
    rw [hg.block g (by omega) (fun e => h2 e.symm), hm.block g (by rw [World.size_setCell]; exact hl), Below.heap_setCell _ _ _ _ h1]
  have hnew : ∀ g, g < wr.heap.size → lv.ownBlock ≠ some g → v'.ownBlock ≠ some g := fun g hl h1 e => by
    rcases hat with h2 | h2
    · exact h1 (by rw [← h2]; exact e)
    · have := h2 g e; omega
  have hml := h.map.lt
  refine ⟨h.sr.add hn (by omega) (by omega) hi hm hown hg (fun g e => ?_), h.map.block (hk gM hml h.mS h.mR), h.mB, h.mS, hnew gM hml h.mR, ?_⟩
  · rcases hat with h2 | h2
    · left; rw [← h2]; exact e
    · right; exact h2 g e
  · refine ⟨fun b hb j k u hj hL => ?_, fun b v hb => ?_⟩
    · rcases WM.getElem?_snoc hL with ⟨_, hL⟩ | ⟨e, _⟩
      · exact h.fs.no b hb j k u hj hL
      · omega
    · obtain ⟨j, k, u, h1, h2, h3, h4, h5, h6⟩ := h.fs.yes b v hb
      refine ⟨j, k, u, h1, WM.getElem?_old h2, h3, fun j' k' u' hj hL => ?_, own_block h5 fun g hg hl => hk g hl (h6 g hg).1 (h6 g hg).2.2, fun g hg => ⟨(h6 g hg).1, (h6 g hg).2.1, hnew g (h5.lt g hg).2 (h6 g hg).2.2⟩⟩
      rcases WM.getElem?_snoc hL with ⟨_, hL⟩ | ⟨e, _⟩
      · exact h4 j' k' u' hj hL
      · have := WM.lt_of_get h2; omega

/-- entry i has a label that the map has not yet: its word is stored -/
theorem LbS.store (h : LbS W wr d gS gM N nM i lv S L F) {ki : Nat} {wi : List Nat} (hi : L[i]? = some (ki, wi)) (hF : F (d.lb ki) = none) {v : Value} {w1 : World} (hx : Ext wr w1) (hv : w1.ownsRow wr.heap.size 5 1 v wi.length (bytesV wi))
    (hmap : BytM W4 gM (nM + 1) (fun x => if x = d.lb ki then some v else F x)) (ht : w1.mapTurned W4 gM) : LbS W W4 d gS gM N (nM + 1) (i + 1) lv S L (fun x => if x = d.lb ki then some v else F x) := by
  have hg := ht.grown
  have h1 := h.more hx
  have hSl := h1.sr.seen.lt
  have hk : ∀ g, g < w1.heap.size → g ≠ gM → W4.heap[g]? = w1.heap[g]? := fun g hl h1 => hg.block g hl (by simp only [ne_eq, Option.some.injEq]; exact h1)
  refine ⟨⟨?_, h1.sr.seen.of_block (hk gS hSl (Ne.symm h.mS)), own_block h1.sr.row fun g hg' hl => hk g hl (by rintro rfl; exact h.mR hg'), h.sr.off, h.sr.gB, h.sr.tr⟩, hmap, h.mB, h.mS, h.mR, ⟨fun b hb j k u hj hL => ?_, fun b u hb => ?_⟩⟩
  · exact Below.grown h1.sr.ext hg h1.sr.ext.size (fun g e => by simp only [Option.some.injEq] at e; subst e; exact h.mB)
  · by_cases e : b = d.lb ki
    · rw [if_pos e] at hb; cases hb
    · rw [if_neg e] at hb
      rcases Nat.lt_succ_iff_lt_or_eq.1 hj with h2 | h2
      · exact h.fs.no b hb j k u h2 hL
      · subst h2
        rw [hi] at hL
        simp at hL
        rw [← hL.1]; exact fun h => e h.symm
  · by_cases e : b = d.lb ki
    · rw [if_pos e] at hb
      obtain rfl : v = u := by simpa using hb
      refine ⟨i, ki, wi, by omega, hi, e.symm, fun j' k' u' hj hL => by rw [e]; exact h.fs.no _ hF j' k' u' hj hL, own_block (own_base hv h.sr.ext.size) fun g hg' hl => hk g hl ?_, fun g hg' => ?_⟩
      · have := (hv.lt g hg').1
        have := h.map.lt
        omega
      · have h2 := (hv.lt g hg').1
        have h3 := h.map.lt
        have h4 := h.sr.seen.lt
        refine ⟨by omega, by omega, fun e => ?_⟩
        have := (h.sr.row.lt g e).2
        omega
    · rw [if_neg e] at hb
      obtain ⟨j, k, u', h2, h3, h4, h5, h6, h7⟩ := h1.fs.yes b u hb
      exact ⟨j, k, u', by omega, h3, h4, h5, own_block h6 fun g hg' hl => hk g hl (h7 g hg').2.1, h7⟩

/-- .. one that it has: nothing is stored -/
theorem LbS.pass (h : LbS W wr d gS gM N nM i lv S L F) {ki : Nat} {wi : List Nat} (hi : L[i]? = some (ki, wi)) {v : Value} (hF : F (d.lb ki) = some v) : LbS W wr d gS gM N nM (i + 1) lv S L F := by
  refine ⟨h.sr, h.map, h.mB, h.mS, h.mR, ⟨fun b hb j k u hj hL => ?_, fun b u hb => ?_⟩⟩
  · rcases Nat.lt_succ_iff_lt_or_eq.1 hj with h2 | h2
    · exact h.fs.no b hb j k u h2 hL
    · subst h2
      rw [hi] at hL
      simp at hL
      rintro rfl
      rw [← hL.1, hF] at hb
      cases hb
  · obtain ⟨j, k, u', h2, h3⟩ := h.fs.yes b u hb
    exact ⟨j, k, u', by omega, h3⟩
end

theorem grown_of_ext {w w' : World} (h : Ext w w') : w.grownBy w' none := ⟨h.os, h.tape, h.output, h.size, fun k hk _ => h.block k hk⟩
theorem BytM.keptMap {w w' : World} {b n : Nat} {F : Int → Option Value} (h : BytM w b n F) (hk : ∀ es c, w.heap[b]? = some (.map es c) → w'.heap[b]? = some (.map es c)) : BytM w' b n F := by
  obtain ⟨D, ⟨es, clock, hb, r⟩, h2⟩ := h
  exact ⟨D, ⟨es, clock, hk _ _ hb, r⟩, h2⟩

/-- a label that some word has, from the start on -/
def Reached (d : Dn) (b : Int) : Prop := ∃ z, LM.Bytes z ∧ d.lb (d.aut.run 0 z) = b
/-- its first word -/
structure FirstW (d : Dn) (b : Int) (u : List Nat) : Prop where
  bytes : LM.Bytes u
  yes : d.lb (d.aut.run 0 u) = b
  first : ∀ z, LM.Bytes z → d.lb (d.aut.run 0 z) = b → ¬ WM.sl z u
  short : u.length < d.next.length

theorem single_nx (d : Dn) : ∀ (w : List Nat) (s : Nat), WM.run d.nx s w = d.aut.run s w := fun _ _ => rfl

/-- when all is gone over, the map tells all labels, each with its first word -/
theorem LbF.all {W wr : World} {d : Dn} {gS gM i : Nat} {lv : Value} {L : List (Nat × List Nat)} {F : Int → Option Value} (h : LbF W wr d gS gM i lv L F) (hB : WM.Bfs d.nx d.next.length 0 (fun _ => false) i 0 L) (hi : L.length ≤ i) (b : Int) :
    (F b = none → ¬ Reached d b) ∧ (∀ v, F b = some v → ∃ u, FirstW d b u ∧ wr.ownsRow W.heap.size 5 1 v u.length (bytesV u)) := by
  have key := fun x hx => hB.least (w0 := []) (.inr hi) x hx (.inl hi)
  refine ⟨fun hb => ?_, fun v hv => ?_⟩
  · rintro ⟨z, hz, hzb⟩
    obtain ⟨j, k, w, h1, h2, h3, _⟩ := key z hz
    exact h.no b hb j k w h1 h2 (by rw [h3]; exact hzb)
  · obtain ⟨j, k, u, h1, h2, h3, h4, h5, _⟩ := h.yes b v hv
    obtain ⟨_, hu, hk⟩ := hB.node j k u h2
    refine ⟨u, ⟨hu, by rw [← single_nx, ← hk]; exact h3, fun z hz hzb hs => ?_, by have := hB.short j k u h2; have := WM.lt_of_get h2; have := hB.length_le; omega⟩, h5⟩
    obtain ⟨j', k', w', q1, q2, q3, q4⟩ := key z hz
    have hb' : d.lb k' = b := by rw [q3]; exact hzb
    rcases Nat.lt_trichotomy j' j with e | e | e
    · exact h4 j' k' w' e q2 hb'
    · subst e
      rw [h2] at q2
      simp at q2
      obtain ⟨_, rfl⟩ := q2
      exact WM.sl_irrefl _ (WM.sle_sl q4 hs)
    · exact WM.sl_asymm (hB.sorted j j' k k' u w' h2 q2 e) (WM.sle_sl q4 hs)
end Go.Proofs.YtihginaanlcilaaDoor
