/- What a first word is told to be, as the law tries it. -/
import Derived.Test.YthnojechejckpaaDoorLbl13
import Derived.Test.YthnojechejckpaaDoorMay
import Derived.Test.YthnojechejckpaaDoorDenseForm
import Derived.Test.YthnojechejckpaaDoorGrow
namespace Go.Proofs.YthnojechejckpaaDoor
open Go.RowKit

/-- a word that is told: where there is one it does F, and no text that does F stands ahead of it; else no text does F -/
structure Told (w : World) (v : Value) (b : Bool) (u : List Nat) (F : List Nat → Prop) : Prop where
  row : BytesW w v u
  bytes : ∀ c ∈ u, c < 256
  yes : b = true → F u
  no : ∀ x, (∀ c ∈ x, c < 256) → F x → b = true ∧ slB x u = false

theorem Told.ext {w w' : World} {v : Value} {b : Bool} {u : List Nat} {F : List Nat → Prop} (h : Told w v b u F) (hx : Ext w w') : Told w' v b u F := ⟨IntsK.ext hx h.row, h.bytes, h.yes, h.no⟩

theorem bytes_none (w : World) : BytesW w (.slice none 0 0) [] := ⟨Nat.zero_le _, none, 0, rfl, ⟨Nat.le_refl _, fun _ => rfl⟩, fun h => by cases h⟩

/-- what the search tells, in this form -/
theorem WitR.told {w w' : World} {A B : LM.Aut} {x y : Nat} {P : Nat → Nat → Bool} {e : Ending} (h : WitR w A B x y P e w') (hL : A.n * B.n ≤ 140737488355328) :
    ∃ v b u, e = .returned (.tuple #[v, .bool b, .nilIface]) ∧ Ext w w' ∧ Told w' v b u (fun z => P (A.run x z) (B.run y z) = true) ∧ ((b = false ∧ u = []) ∨ (b = true ∧ First A B x y P u)) := by
  obtain ⟨hx, ⟨u, v, he, hF, hown⟩ | ⟨he, hN⟩⟩ := h
  · refine ⟨v, true, u, he, hx, ⟨?_, hF.bytes, fun _ => hF.yes, fun z hz hp => ⟨rfl, ?_⟩⟩, .inr ⟨rfl, hF⟩⟩
    · have e : bytesV u = (u.map fun (b : Nat) => (b : Int)).map (Value.int .u8) := by simp [bytesV]
      rw [e] at hown
      exact own_ints hown (by have := hF.short; omega)
    · have := hF.first z hz hp
      rw [← slB_true] at this
      simpa using this
  · refine ⟨_, false, [], he, hx, ⟨bytes_none _, fun c hc => (by cases hc), fun h => (by cases h), fun z hz hp => ?_⟩, .inl ⟨rfl, rfl⟩⟩
    rw [hN z hz] at hp
    cases hp

/-- how long a first word may be that tells two automata apart -/
theorem First.short2 {A B : LM.Aut} (hA : A.ok) (hB : B.ok) {x y : Nat} (hx : x < A.n) (hy : y < B.n) {u : List Nat} (h : First A B x y (fun i k => A.lb i != B.lb k) u) : u.length + 2 ≤ A.n + B.n := by
  have hne : ¬ LM.xeq A B x y := fun he => by
    have h1 := h.yes
    simp only [bne_iff_ne, ne_eq] at h1
    exact h1 (he u h.bytes)
  obtain ⟨z, hz, hl, hd⟩ := WM.moore2 hA hB hx hy hne
  have h2 := h.first z hz (by simpa using hd)
  have h3 : ¬ z.length < u.length := fun h => h2 (.inl h)
  omega

theorem told_word {w w' : World} {a : Dn} (hm : May a) {e : Ending} (h : WitR w a.aut oneD.aut 0 0 (fun i _ => a.lb i == 0) e w') :
    ∃ v b u, e = .returned (.tuple #[v, .bool b, .nilIface]) ∧ Ext w w' ∧ Told w' v b u (fun z => a.lb (CM.run a.nx 0 z) = 0) ∧ u.length < a.next.length := by
  have hp := hm.pos
  have h6 := hm.most
  have e1 : a.aut.n = a.next.length := rfl
  have e2 : oneD.aut.n = 1 := rfl
  obtain ⟨v, b, u, he, hx, ht, hu⟩ := h.told (by rw [e1, e2]; omega)
  refine ⟨v, b, u, he, hx, ⟨ht.row, ht.bytes, fun hb => eq_of_beq (ht.yes hb), fun z hz hp => ht.no z hz (beq_iff_eq.2 hp)⟩, ?_⟩
  rcases hu with ⟨_, rfl⟩ | ⟨_, hF⟩
  · exact hp
  · have := hF.short
    rw [e1, e2] at this
    omega
theorem told_two {w w' : World} {a b : Dn} (ha : May a) (hb : May b) {x y : Nat} (hx : x < a.next.length) (hy : y < b.next.length) {e : Ending} (h : WitR w a.aut b.aut x y (fun i k => a.lb i != b.lb k) e w') :
    ∃ v t u, e = .returned (.tuple #[v, .bool t, .nilIface]) ∧ Ext w w' ∧ Told w' v t u (fun z => a.lb (CM.run a.nx x z) ≠ b.lb (CM.run b.nx y z)) ∧ u.length + 2 ≤ a.next.length + b.next.length := by
  have h1 := ha.pos
  have h2 := hb.pos
  have h3 := ha.most
  have h4 := hb.most
  have e1 : a.aut.n = a.next.length := rfl
  have e2 : b.aut.n = b.next.length := rfl
  obtain ⟨v, t, u, he, hxt, ht, hu⟩ := h.told (by
    rw [e1, e2]
    have := Nat.mul_le_mul h3 h4
    omega)
  refine ⟨v, t, u, he, hxt, ⟨ht.row, ht.bytes, fun hb => bne_iff_ne.1 (ht.yes hb), fun z hz hp => ht.no z hz (bne_iff_ne.2 hp)⟩, ?_⟩
  rcases hu with ⟨_, rfl⟩ | ⟨_, hF⟩
  · simp; omega
  · exact First.short2 ha.ok hb.ok hx hy hF
/-- .. and two states of one -/
theorem First.short1 {A : LM.Aut} (hA : A.ok) {x y : Nat} (hx : x < A.n) (hy : y < A.n) {u : List Nat} (h : First A A x y (fun i k => A.lb i != A.lb k) u) : u.length + 2 ≤ A.n := by
  have hne : ¬ LM.xeq A A x y := fun he => by
    have h1 := h.yes
    simp only [bne_iff_ne, ne_eq] at h1
    exact h1 (he u h.bytes)
  obtain ⟨z, hz, hl, hd⟩ := WM.moore hA hx hy hne
  have h2 := h.first z hz (by simpa using hd)
  have h3 : ¬ z.length < u.length := fun h => h2 (.inl h)
  omega
theorem told_one {w w' : World} {a : Dn} (ha : May a) {x y : Nat} (hx : x < a.next.length) (hy : y < a.next.length) {e : Ending} (h : WitR w a.aut a.aut x y (fun i k => a.lb i != a.lb k) e w') :
    ∃ v t u, e = .returned (.tuple #[v, .bool t, .nilIface]) ∧ Ext w w' ∧ Told w' v t u (fun z => a.lb (CM.run a.nx x z) ≠ a.lb (CM.run a.nx y z)) ∧ u.length ≤ a.next.length := by
  have h3 := ha.most
  have e1 : a.aut.n = a.next.length := rfl
  obtain ⟨v, t, u, he, hxt, ht, hu⟩ := h.told (by
    rw [e1]
    have := Nat.mul_le_mul h3 h3
    omega)
  refine ⟨v, t, u, he, hxt, ⟨ht.row, ht.bytes, fun hb => bne_iff_ne.1 (ht.yes hb), fun z hz hp => ht.no z hz (bne_iff_ne.2 hp)⟩, ?_⟩
  rcases hu with ⟨_, rfl⟩ | ⟨_, hF⟩
  · exact Nat.zero_le _
  · have := First.short1 ha.ok hx hy hF
    rw [e1] at this
    omega
abbrev Wakes13 : Prop := ∀ w, Calls Tryd.prog 19 #[] w fun e w' => e = .returned (.bool true) ∧ Ext w w'

/-- the argument's cells, in its box -/
theorem box5 {w : World} {a b c d e : Value} {t : TypeId} : ∀ W, Ext (w.alloc (.cells #[a, b, c, d, e] t)) W →
    W.cell? ⟨w.heap.size, 0, none⟩ = some a ∧ W.cell? ⟨w.heap.size, 1, none⟩ = some b ∧ W.cell? ⟨w.heap.size, 2, none⟩ = some c ∧ W.cell? ⟨w.heap.size, 3, none⟩ = some d ∧ W.cell? ⟨w.heap.size, 4, none⟩ = some e :=
  fun _ hx => ⟨hx.cell (new_cell rfl), hx.cell (new_cell rfl), hx.cell (new_cell rfl), hx.cell (new_cell rfl), hx.cell (new_cell rfl)⟩
end Go.Proofs.YthnojechejckpaaDoor
