/- The search's own memory: steps of four cells, and the words that they stand for. No function of the program in sight. -/
import Derived.Test.YtihginaanlcilaaDoorWitMath
import Derived.Test.YtihginaanlcilaaDoorOwn
namespace Go.Proofs.YtihginaanlcilaaDoor
open Go.RowKit

theorem own_shp' {w : World} {B : Nat} {e : TypeId} {size n : Nat} {v : Value} {xs : List Value} (h : w.ownsRow B e size v n xs) : ∃ a cap, v = .slice a n cap := by
  rcases h.2 with ⟨h1, h2⟩ | ⟨g, cap, _, hv, _⟩
  · exact ⟨none, 0, by rw [h1, h2]⟩
  · exact ⟨_, cap, hv⟩

structure St where
  a : Nat
  b : Nat
  from_ : Int
  by_ : Nat

def stV (s : St) : List Value := [.int .i64 (s.a : Int), .int .i64 (s.b : Int), .int .i64 s.from_, .int .u8 (s.by_ : Int)]
def stsV (S : List St) : List Value := S.flatMap stV

theorem stsV_snoc (S : List St) (s : St) : stsV (S ++ [s]) = stsV S ++ stV s := by simp [stsV]
theorem stsV_length (S : List St) : (stsV S).length = S.length * 4 := by
  induction S with
  | nil => rfl
  | cons s S ih => rw [stsV, List.flatMap_cons, List.length_append]; show 4 + (stsV S).length = _; rw [ih]; simp; omega
theorem stsV_get {S : List St} {j : Nat} {s : St} (h : S[j]? = some s) : (stsV S)[j * 4]? = some (.int .i64 (s.a : Int)) ∧ (stsV S)[j * 4 + 1]? = some (.int .i64 (s.b : Int)) ∧ (stsV S)[j * 4 + 2]? = some (.int .i64 s.from_) ∧ (stsV S)[j * 4 + 3]? = some (.int .u8 (s.by_ : Int)) := by
  induction S generalizing j with
  | nil => simp at h
  | cons t S ih =>
    have e : stsV (t :: S) = stV t ++ stsV S := by simp [stsV]
    rw [e]
    cases j with
    | zero =>
      obtain rfl : t = s := by simpa using h
      exact ⟨rfl, rfl, rfl, rfl⟩
    | succ j =>
      have h' : S[j]? = some s := by simpa using h
      obtain ⟨h1, h2, h3, h4⟩ := ih h'
      have k : ∀ m, (stV t ++ stsV S)[(j + 1) * 4 + m]? = (stsV S)[j * 4 + m]? := fun m => by
        rw [List.getElem?_append_right (by show 4 ≤ _; omega)]
        congr 1
        show (j + 1) * 4 + m - 4 = _
        omega
      exact ⟨(k 0).trans h1, (k 1).trans h2, (k 2).trans h3, (k 3).trans h4⟩

/-- the steps' cells, from block g on -/
def StAt (w : World) (g : Nat) (S : List St) : Prop := ∀ j s, S[j]? = some s → w.cell? ⟨g, j * 4, none⟩ = some (.int .i64 (s.a : Int)) ∧ w.cell? ⟨g, j * 4 + 1, none⟩ = some (.int .i64 (s.b : Int)) ∧ w.cell? ⟨g, j * 4 + 2, none⟩ = some (.int .i64 s.from_) ∧ w.cell? ⟨g, j * 4 + 3, none⟩ = some (.int .u8 (s.by_ : Int))

theorem own_st {w : World} {B g n cap : Nat} {e : TypeId} {S : List St} (h : w.ownsRow B e 4 (.slice (some ⟨g, 0, none⟩) n cap) n (stsV S)) (hn : n = S.length) : StAt w g S := fun j s hj => by
  have hl := (List.getElem?_eq_some_iff.1 hj).1
  obtain ⟨h1, h2, h3, h4⟩ := stsV_get hj
  exact ⟨(h.cellAt _ (by omega)).trans h1, (h.cellAt _ (by omega)).trans h2, (h.cellAt _ (by omega)).trans h3, (h.cellAt _ (by omega)).trans h4⟩
theorem StAt.ext {w w' : World} {g : Nat} {S : List St} (h : StAt w g S) (hx : Ext w w') : StAt w' g S := fun j s hj => by
  obtain ⟨h1, h2, h3, h4⟩ := h j s hj
  exact ⟨hx.cell h1, hx.cell h2, hx.cell h3, hx.cell h4⟩

/-- entry j of L is the pair k, come to by the word w; step j tells the pair, and the entry that it was come to from -/
structure Trail (NB : Nat) (S : List St) (L : List (Nat × List Nat)) : Prop where
  len : S.length = L.length
  at_ : ∀ (j : Nat) (s : St) (k : Nat) (w : List Nat), S[j]? = some s → L[j]? = some (k, w) → k = s.a * NB + s.b ∧ s.b < NB
  back : ∀ (j : Nat) (s : St) (k : Nat) (w : List Nat), S[j]? = some s → L[j]? = some (k, w) → (s.from_ = -1 ∧ w = []) ∨ (∃ (f kf : Nat) (wf : List Nat), s.from_ = (f : Int) ∧ f < j ∧ L[f]? = some (kf, wf) ∧ w = wf ++ [s.by_])

theorem Trail.one {NB x y : Nat} (h : y < NB) : Trail NB [⟨x, y, -1, 0⟩] [(x * NB + y, [])] := by
  refine ⟨rfl, fun j s k w h1 h2 => ?_, fun j s k w h1 h2 => ?_⟩
  · match j, h1, h2 with
    | 0, h1, h2 =>
      simp at h1 h2
      obtain ⟨rfl, rfl⟩ := h2
      subst h1
      exact ⟨rfl, h⟩
  · match j, h1, h2 with
    | 0, h1, h2 =>
      simp at h1 h2
      obtain ⟨rfl, rfl⟩ := h2
      subst h1
      exact .inl ⟨rfl, rfl⟩

theorem Trail.add {NB : Nat} {S : List St} {L : List (Nat × List Nat)} (h : Trail NB S L) {i ki c a b : Nat} {wi : List Nat} (hi : L[i]? = some (ki, wi)) (hb : b < NB) : Trail NB (S ++ [⟨a, b, (i : Int), c⟩]) (L ++ [(a * NB + b, wi ++ [c])]) := by
  have hil := WM.lt_of_get hi
  refine ⟨by simp [h.len], fun j s k w h1 h2 => ?_, fun j s k w h1 h2 => ?_⟩
  · rcases WM.getElem?_snoc h1 with ⟨l1, h1⟩ | ⟨e1, h1⟩ <;> rcases WM.getElem?_snoc h2 with ⟨l2, h2⟩ | ⟨e2, h2⟩
    · exact h.at_ j s k w h1 h2
    · have := h.len; omega
    · have := h.len; omega
    · simp at h2
      obtain ⟨rfl, rfl⟩ := h2
      subst h1
      exact ⟨rfl, hb⟩
  · rcases WM.getElem?_snoc h1 with ⟨l1, h1⟩ | ⟨e1, h1⟩ <;> rcases WM.getElem?_snoc h2 with ⟨l2, h2⟩ | ⟨e2, h2⟩
    · rcases h.back j s k w h1 h2 with h3 | ⟨f, kf, wf, h3, h4, h5, h6⟩
      · exact .inl h3
      · exact .inr ⟨f, kf, wf, h3, h4, WM.getElem?_old h5, h6⟩
    · have := h.len; omega
    · have := h.len; omega
    · simp at h2
      obtain ⟨rfl, rfl⟩ := h2
      subst h1
      exact .inr ⟨i, ki, wi, rfl, by omega, WM.getElem?_old hi, rfl⟩

/-- two automata gone through side by side -/
def pairNx (A B : LM.Aut) (k c : Nat) : Nat := A.nx (k / B.n) c * B.n + B.nx (k % B.n) c
def pairIs (NB : Nat) (P : Nat → Nat → Bool) (k : Nat) : Bool := P (k / NB) (k % NB)

theorem pair_div' {NB a b : Nat} (hb : b < NB) : (a * NB + b) / NB = a ∧ (a * NB + b) % NB = b := by
  constructor
  · rw [Nat.mul_comm, Nat.mul_add_div (by omega), Nat.div_eq_of_lt hb]; omega
  · rw [Nat.mul_comm, Nat.mul_add_mod, Nat.mod_eq_of_lt hb]
theorem pair_lt' {NA NB a b : Nat} (ha : a < NA) (hb : b < NB) : a * NB + b < NA * NB := by
  have : (a + 1) * NB ≤ NA * NB := Nat.mul_le_mul_right NB ha
  rw [Nat.add_mul] at this; omega
theorem pairNx_eq {A B : LM.Aut} {a b c : Nat} (hb : b < B.n) : pairNx A B (a * B.n + b) c = A.nx a c * B.n + B.nx b c := by
  unfold pairNx; rw [(pair_div' hb).1, (pair_div' hb).2]
theorem pairIs_eq {NB a b : Nat} {P : Nat → Nat → Bool} (hb : b < NB) : pairIs NB P (a * NB + b) = P a b := by
  unfold pairIs; rw [(pair_div' hb).1, (pair_div' hb).2]
theorem pair_run {A B : LM.Aut} (hB : B.ok) : ∀ (w : List Nat) (a b : Nat), b < B.n → LM.Bytes w → WM.run (pairNx A B) (a * B.n + b) w = A.run a w * B.n + B.run b w
  | [], _, _, _, _ => rfl
  | c :: w, a, b, hb, hw => by
    show WM.run (pairNx A B) (pairNx A B (a * B.n + b) c) w = _
    rw [pairNx_eq hb, LM.Aut.run_cons, LM.Aut.run_cons]
    exact pair_run hB w _ _ (hB.2 b c hb (hw c (by simp))) (fun d hd => hw d (List.mem_cons_of_mem _ hd))

/-- the first word behind which P holds -/
structure First (A B : LM.Aut) (x y : Nat) (P : Nat → Nat → Bool) (u : List Nat) : Prop where
  bytes : LM.Bytes u
  yes : P (A.run x u) (B.run y u) = true
  first : ∀ z, LM.Bytes z → P (A.run x z) (B.run y z) = true → ¬ WM.sl z u
  short : u.length + 1 ≤ A.n * B.n
def Nowhere (A B : LM.Aut) (x y : Nat) (P : Nat → Nat → Bool) : Prop := ∀ z, LM.Bytes z → P (A.run x z) (B.run y z) = false

theorem first_of {A B : LM.Aut} (_ : A.ok) (hB : B.ok) {x y : Nat} (_hx : x < A.n) (hy : y < B.n) {P : Nat → Nat → Bool} {i k : Nat} {L : List (Nat × List Nat)} {u : List Nat}
    (h : WM.Bfs (pairNx A B) (A.n * B.n) (x * B.n + y) (pairIs B.n P) i 0 L) (hi : L[i]? = some (k, u)) (hk : pairIs B.n P k = true) : First A B x y P u := by
  have key : ∀ z, LM.Bytes z → pairIs B.n P (WM.run (pairNx A B) (x * B.n + y) z) = P (A.run x z) (B.run y z) := fun z hz => by
    rw [pair_run hB z x y hy hz, pairIs_eq (LM.Aut.run_lt hB z y hy hz)]
  have hn := h.node i k u hi
  refine ⟨hn.2.1, by rw [← key u hn.2.1, ← hn.2.2]; exact hk, fun z hz hp => h.found hi hz (by rw [key z hz]; exact hp), ?_⟩
  have h1 := h.short i k u hi
  have h2 := WM.lt_of_get hi
  have h3 := h.length_le
  omega
theorem nowhere_of {A B : LM.Aut} (hB : B.ok) {x y : Nat} (hy : y < B.n) {P : Nat → Nat → Bool} {i : Nat} {L : List (Nat × List Nat)}
    (h : WM.Bfs (pairNx A B) (A.n * B.n) (x * B.n + y) (pairIs B.n P) i 0 L) (hi : L.length ≤ i) : Nowhere A B x y P := fun z hz => by
  have := h.lost hi hz
  rw [pair_run hB z x y hy hz, pairIs_eq (LM.Aut.run_lt hB z y hy hz)] at this
  exact this

def seenB (L : List (Nat × List Nat)) (k : Nat) : Bool := L.any fun p => p.1 == k
theorem seenB_true {L : List (Nat × List Nat)} {k : Nat} (h : seenB L k = true) : ∃ (j : Nat) (w : List Nat), L[j]? = some (k, w) := by
  obtain ⟨p, hp, he⟩ := List.any_eq_true.1 h
  obtain ⟨j, hj⟩ := List.getElem?_of_mem hp
  exact ⟨j, p.2, by rw [hj]; rw [beq_iff_eq] at he; rw [← he]⟩
theorem seenB_false {L : List (Nat × List Nat)} {k : Nat} (h : seenB L k = false) (j : Nat) (w : List Nat) : L[j]? ≠ some (k, w) := fun hj => by
  have h1 : seenB L k = true := List.any_eq_true.2 ⟨(k, w), List.mem_of_getElem? hj, beq_self_eq_true k⟩
  rw [h] at h1; cases h1
theorem seenB_snoc (L : List (Nat × List Nat)) (k k' : Nat) (w : List Nat) : seenB (L ++ [(k, w)]) k' = (if k' = k then true else seenB L k') := by
  unfold seenB
  rw [List.any_append]
  by_cases e : k' = k
  · subst e; simp
  · rw [if_neg e]; simp [show ¬ k = k' from fun h => e h.symm]

structure SrS (w wr : World) (gS NN NB : Nat) (lv : Value) (S : List St) (L : List (Nat × List Nat)) : Prop where
  ext : Ext w wr
  seen : wr.rowIs gS 4 NN (fun k => .bool (seenB L k))
  row : wr.ownsRow w.heap.size 90 4 lv S.length (stsV S)
  off : ∀ g, lv.ownBlock = some g → g ≠ gS
  gB : w.heap.size ≤ gS
  tr : Trail NB S L

theorem SrS.more {w wr w' : World} {gS NN NB : Nat} {lv : Value} {S : List St} {L : List (Nat × List Nat)} (h : SrS w wr gS NN NB lv S L) (hx : Ext wr w') : SrS w w' gS NN NB lv S L :=
  ⟨h.ext.trans hx, h.seen.of_block (hx.block _ h.seen.lt), own_ext hx h.row, h.off, h.gB, h.tr⟩

/-- a pair is marked, and put behind -/
theorem SrS.add {w wr Wm W : World} {gS NN NB k n : Nat} {lv v' : Value} {S : List St} {L : List (Nat × List Nat)} (h : SrS w wr gS NN NB lv S L) {i ki a b c : Nat} {wi : List Nat} (hn : n = S.length) (hk : k = a * NB + b) (hb : b < NB) (hi : L[i]? = some (ki, wi))
    (hm : Ext (wr.setCell ⟨gS, k, none⟩ (.bool true)) Wm) (hown : W.ownsRow w.heap.size 90 4 v' (n + 1) (stsV S ++ stV ⟨a, b, (i : Int), c⟩)) (hg : Wm.grownBy W lv.ownBlock)
    (hat : ∀ g, v'.ownBlock = some g → lv.ownBlock = some g ∨ wr.heap.size ≤ g) :
    SrS w W gS NN NB v' (S ++ [⟨a, b, (i : Int), c⟩]) (L ++ [(k, wi ++ [c])]) := by
  have hl := h.seen.lt
  have hs := hm.size
  rw [World.size_setCell] at hs
  have h1 := (h.seen.set k (.bool true)).of_block (hm.block gS (by rw [World.size_setCell]; exact hl))
  refine ⟨?_, ?_, by rw [stsV_snoc, List.length_append, ← hn]; exact hown, fun g e => ?_, h.gB, by rw [hk]; exact h.tr.add hi hb⟩
  · have hs1 : Ext w (wr.setCell ⟨gS, k, none⟩ (.bool true)) := h.ext.setCell (p := ⟨gS, k, none⟩) h.gB _
    exact Below.grown (hs1.trans hm) hg (by have := h.ext.size; omega) (fun g e => (h.row.lt g e).1)
  · refine (h1.of_block (hg.block gS (by omega) (fun e => h.off gS e.symm rfl))).congr fun j _ => ?_
    rw [seenB_snoc]
    split <;> rfl
  · rcases hat g e with h2 | h2
    · exact h.off g h2
    · omega

theorem SrS.marked {w wr Wm : World} {gS NN NB k : Nat} {lv : Value} {S : List St} {L : List (Nat × List Nat)} (h : SrS w wr gS NN NB lv S L) (hm : Ext (wr.setCell ⟨gS, k, none⟩ (.bool true)) Wm) : Wm.ownsRow w.heap.size 90 4 lv S.length (stsV S) :=
  own_ext hm (own_block h.row fun g hg _ => Below.heap_setCell _ _ _ _ (h.off g hg))
end Go.Proofs.YtihginaanlcilaaDoor
