/- bolterref13.spread's own memory: reaches of four cells, and the words that they stand for. -/
import Derived.Test.YtihginaanlcilaaDoorWitS
namespace Go.Proofs.YtihginaanlcilaaDoor
open Go.RowKit

def rcV (s : St) : List Value := [.int .i64 (s.a : Int), .int .i64 (s.b : Int), .int .i64 s.from_, .int .i64 (s.by_ : Int)]
def rcsV (S : List St) : List Value := S.flatMap rcV

theorem rcsV_snoc (S : List St) (s : St) : rcsV (S ++ [s]) = rcsV S ++ rcV s := by simp [rcsV]
theorem rcsV_length (S : List St) : (rcsV S).length = S.length * 4 := by
  induction S with
  | nil => rfl
  | cons s S ih => rw [rcsV, List.flatMap_cons, List.length_append]; show 4 + (rcsV S).length = _; rw [ih]; simp; omega
theorem rcsV_get {S : List St} {j : Nat} {s : St} (h : S[j]? = some s) : (rcsV S)[j * 4]? = some (.int .i64 (s.a : Int)) ∧ (rcsV S)[j * 4 + 1]? = some (.int .i64 (s.b : Int)) ∧ (rcsV S)[j * 4 + 2]? = some (.int .i64 s.from_) ∧ (rcsV S)[j * 4 + 3]? = some (.int .i64 (s.by_ : Int)) := by
  induction S generalizing j with
  | nil => simp at h
  | cons t S ih =>
    have e : rcsV (t :: S) = rcV t ++ rcsV S := by simp [rcsV]
    rw [e]
    cases j with
    | zero =>
      obtain rfl : t = s := by simpa using h
      exact ⟨rfl, rfl, rfl, rfl⟩
    | succ j =>
      have h' : S[j]? = some s := by simpa using h
      obtain ⟨h1, h2, h3, h4⟩ := ih h'
      have k : ∀ m, (rcV t ++ rcsV S)[(j + 1) * 4 + m]? = (rcsV S)[j * 4 + m]? := fun m => by
        rw [List.getElem?_append_right (by show 4 ≤ _; omega)]
        congr 1
        show (j + 1) * 4 + m - 4 = _
        omega
      exact ⟨(k 0).trans h1, (k 1).trans h2, (k 2).trans h3, (k 3).trans h4⟩

/-- the steps' cells, from block g on -/
def RcAt (w : World) (g : Nat) (S : List St) : Prop := ∀ j s, S[j]? = some s → w.cell? ⟨g, j * 4, none⟩ = some (.int .i64 (s.a : Int)) ∧ w.cell? ⟨g, j * 4 + 1, none⟩ = some (.int .i64 (s.b : Int)) ∧ w.cell? ⟨g, j * 4 + 2, none⟩ = some (.int .i64 s.from_) ∧ w.cell? ⟨g, j * 4 + 3, none⟩ = some (.int .i64 (s.by_ : Int))

theorem own_rc {w : World} {B g n cap : Nat} {e : TypeId} {S : List St} (h : w.ownsRow B e 4 (.slice (some ⟨g, 0, none⟩) n cap) n (rcsV S)) (hn : n = S.length) : RcAt w g S := fun j s hj => by
  have hl := (List.getElem?_eq_some_iff.1 hj).1
  obtain ⟨h1, h2, h3, h4⟩ := rcsV_get hj
  exact ⟨(h.cellAt _ (by omega)).trans h1, (h.cellAt _ (by omega)).trans h2, (h.cellAt _ (by omega)).trans h3, (h.cellAt _ (by omega)).trans h4⟩
theorem RcAt.ext {w w' : World} {g : Nat} {S : List St} (h : RcAt w g S) (hx : Ext w w') : RcAt w' g S := fun j s hj => by
  obtain ⟨h1, h2, h3, h4⟩ := h j s hj
  exact ⟨hx.cell h1, hx.cell h2, hx.cell h3, hx.cell h4⟩

structure SpS (w wr : World) (gS NN NB : Nat) (lv : Value) (S : List St) (L : List (Nat × List Nat)) : Prop where
  ext : Ext w wr
  seen : wr.rowIs gS 4 NN (fun k => .bool (seenB L k))
  row : wr.ownsRow w.heap.size 70 4 lv S.length (rcsV S)
  off : ∀ g, lv.ownBlock = some g → g ≠ gS
  gB : w.heap.size ≤ gS
  tr : Trail NB S L

theorem SpS.more {w wr w' : World} {gS NN NB : Nat} {lv : Value} {S : List St} {L : List (Nat × List Nat)} (h : SpS w wr gS NN NB lv S L) (hx : Ext wr w') : SpS w w' gS NN NB lv S L :=
  ⟨h.ext.trans hx, h.seen.of_block (hx.block _ h.seen.lt), own_ext hx h.row, h.off, h.gB, h.tr⟩

/-- a pair is marked, and put behind -/
theorem SpS.add {w wr Wm W : World} {gS NN NB k n : Nat} {lv v' : Value} {S : List St} {L : List (Nat × List Nat)} (h : SpS w wr gS NN NB lv S L) {i ki a b c : Nat} {wi : List Nat} (hn : n = S.length) (hk : k = a * NB + b) (hb : b < NB) (hi : L[i]? = some (ki, wi))
    (hm : Ext (wr.setCell ⟨gS, k, none⟩ (.bool true)) Wm) (hown : W.ownsRow w.heap.size 70 4 v' (n + 1) (rcsV S ++ rcV ⟨a, b, (i : Int), c⟩)) (hg : Wm.grownBy W lv.ownBlock)
    (hat : ∀ g, v'.ownBlock = some g → lv.ownBlock = some g ∨ wr.heap.size ≤ g) :
    SpS w W gS NN NB v' (S ++ [⟨a, b, (i : Int), c⟩]) (L ++ [(k, wi ++ [c])]) := by
  have hl := h.seen.lt
  have hs := hm.size
  rw [World.size_setCell] at hs
  have h1 := (h.seen.set k (.bool true)).of_block (hm.block gS (by rw [World.size_setCell]; exact hl))
  refine ⟨?_, ?_, by rw [rcsV_snoc, List.length_append, ← hn]; exact hown, fun g e => ?_, h.gB, by rw [hk]; exact h.tr.add hi hb⟩
  · have hs1 : Ext w (wr.setCell ⟨gS, k, none⟩ (.bool true)) := h.ext.setCell (p := ⟨gS, k, none⟩) h.gB _
    exact Below.grown (hs1.trans hm) hg (by have := h.ext.size; omega) (fun g e => (h.row.lt g e).1)
  · refine (h1.of_block (hg.block gS (by omega) (fun e => h.off gS e.symm rfl))).congr fun j _ => ?_
    rw [seenB_snoc]
    split <;> rfl
  · rcases hat g e with h2 | h2
    · exact h.off g h2
    · omega

theorem SpS.marked {w wr Wm : World} {gS NN NB k : Nat} {lv : Value} {S : List St} {L : List (Nat × List Nat)} (h : SpS w wr gS NN NB lv S L) (hm : Ext (wr.setCell ⟨gS, k, none⟩ (.bool true)) Wm) : Wm.ownsRow w.heap.size 70 4 lv S.length (rcsV S) :=
  own_ext hm (own_block h.row fun g hg _ => Below.heap_setCell _ _ _ _ (h.off g hg))
end Go.Proofs.YtihginaanlcilaaDoor
