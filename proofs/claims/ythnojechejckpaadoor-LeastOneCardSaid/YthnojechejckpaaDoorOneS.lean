/- The memory of LeastOne: an automaton filled row by row. No function of the program in sight. -/
import Derived.Test.YthnojechejckpaaDoorOneMath
import Derived.Test.YthnojechejckpaaDoorRefS
namespace Go.Proofs.YthnojechejckpaaDoor
open Go.RowKit

/-- headers in gX, labels in gL, N of each; those of S are filled -/
structure Fill (W1 wr : World) (B gX gL N : Nat) (hd : Nat → Value) (R : Nat → List Nat) (L : Nat → Int) (S : Nat → Prop) (d : Dn) (cs : List Nat) (p : Nat → Nat) : Prop where
  frm : Frm (fun a _ => a = gX ∨ a = gL) W1 wr
  hdr : wr.rowIs gX 23 N hd
  lab : wr.rowIs gL 3 N (fun y => .int .i64 (L y))
  row : ∀ y, y < N → S y → wr.ownsRow B 3 1 (hd y) 256 (natV (R y))
  off : ∀ y, y < N → S y → ∀ g, (hd y).ownBlock = some g → g ≠ gX ∧ g ≠ gL
  st : ∀ y, y < N → S y → ∃ t, Stands d cs p y t (R y) (L y)

section
variable {W1 wr w1 : World} {B gX gL N : Nat} {hd : Nat → Value} {R : Nat → List Nat} {L : Nat → Int} {S : Nat → Prop} {d : Dn} {cs : List Nat} {p : Nat → Nat}

theorem Fill.start (hX : W1.rowIs gX 23 N (fun _ => .slice none 0 0)) (hL : W1.rowIs gL 3 N (fun _ => .int .i64 0)) : Fill W1 W1 B gX gL N (fun _ => .slice none 0 0) (fun _ => []) (fun _ => 0) (fun _ => False) d cs p :=
  ⟨Frm.refl _ _, hX, hL, fun _ _ h => h.elim, fun _ _ h => h.elim, fun _ _ h => h.elim⟩

theorem Fill.ext (h : Fill W1 wr B gX gL N hd R L S d cs p) (hx : Ext wr w1) : Fill W1 w1 B gX gL N hd R L S d cs p :=
  ⟨h.frm.trans (.of_ext hx), rowIs_ext hx h.hdr, rowIs_ext hx h.lab, fun y hy hs => own_ext hx (h.row y hy hs), h.off, h.st⟩

theorem keep_set {w : World} {b o g y : Nat} {u : Value} (h : w.cell? ⟨b, o, none⟩ = some u) (hne : b ≠ g) (v : Value) : (w.setCell ⟨g, y, none⟩ v).cell? ⟨b, o, none⟩ = some u := by
  rw [World.cell?_setCell_other _ _ _ _ (by simp only [ne_eq, Addr.mk.injEq]; rintro ⟨e, _⟩; exact hne (by first | exact e | exact e.symm))]; exact h

def upd {α : Type} (f : Nat → α) (i : Nat) (x : α) (j : Nat) : α := if j = i then x else f j
theorem upd_same {α : Type} (f : Nat → α) (i : Nat) (x : α) : upd f i x i = x := if_pos rfl
theorem upd_other {α : Type} (f : Nat → α) {i j : Nat} (x : α) (h : j ≠ i) : upd f i x j = f j := if_neg h

theorem Fill.push (h : Fill W1 wr B gX gL N hd R L S d cs p) (hne : gX ≠ gL) {y t : Nat} (hS : ¬ S y) {v : Value} {r : List Nat} {x : Int} (hs : Stands d cs p y t r x) (hr : wr.ownsRow B 3 1 v 256 (natV r)) (ho : ∀ g, v.ownBlock = some g → g ≠ gX ∧ g ≠ gL) :
    Fill W1 ((wr.setCell ⟨gX, y, none⟩ v).setCell ⟨gL, y, none⟩ (.int .i64 x)) B gX gL N (upd hd y v) (upd R y r) (upd L y x) (fun j => S j ∨ j = y) d cs p := by
  have hX := h.hdr.lt
  have hL := h.lab.lt
  have hk : ∀ g, g ≠ gX ∧ g ≠ gL → ((wr.setCell ⟨gX, y, none⟩ v).setCell ⟨gL, y, none⟩ (.int .i64 x)).heap[g]? = wr.heap[g]? := fun g hg => by
    rw [Below.heap_setCell _ _ _ _ hg.2]
    rw [Below.heap_setCell _ _ _ _ hg.1]
  have h0 := h.hdr.set y v
  have h1 : (wr.setCell ⟨gX, y, none⟩ v).rowIs gX 23 N (fun j => if j = y then v else hd j) := h0
  refine ⟨(h.frm.setCell (.inl (.inl rfl)) _).setCell (.inl (.inr rfl)) _, ?_, ?_, fun j hj hs' => ?_, fun j hj hs' => ?_, fun j hj hs' => ?_⟩
  · exact (h1.setOther (a := ⟨gL, y, none⟩) hne _).congr fun j _ => rfl
  · have h2 : (wr.setCell ⟨gX, y, none⟩ v).rowIs gL 3 N (fun y => .int .i64 (L y)) := h.lab.setOther (a := ⟨gX, y, none⟩) (Ne.symm hne) _
    exact (h2.set y _).congr fun j _ => by unfold upd; split <;> rfl
  · by_cases e : j = y
    · subst e
      rw [upd_same, upd_same]
      exact own_block hr fun g hg _ => hk g (ho g hg)
    · have hsj := hs'.resolve_right e
      rw [upd_other _ _ e, upd_other _ _ e]
      exact own_block (h.row j hj hsj) fun g hg _ => hk g (h.off j hj hsj g hg)
  · by_cases e : j = y
    · subst e; rw [upd_same]; exact ho
    · rw [upd_other _ _ e]; exact h.off j hj (hs'.resolve_right e)
  · by_cases e : j = y
    · subst e
      rw [upd_same, upd_same]; exact ⟨t, hs⟩
    · rw [upd_other _ _ e, upd_other _ _ e]; exact h.st j hj (hs'.resolve_right e)

theorem Fill.congr (h : Fill W1 wr B gX gL N hd R L S d cs p) {S' : Nat → Prop} (hS : ∀ y, y < N → S' y → S y) : Fill W1 wr B gX gL N hd R L S' d cs p :=
  ⟨h.frm, h.hdr, h.lab, fun y hy hs => h.row y hy (hS y hy hs), fun y hy hs => h.off y hy (hS y hy hs), fun y hy hs => h.st y hy (hS y hy hs)⟩

theorem Fill.dense (h : Fill W1 wr B gX gL N hd R L S d cs p) (hS : ∀ y, y < N → S y) (hN : N ≤ 600) : DenseV wr (.agg #[.slice (some ⟨gX, 0, none⟩) N N, .slice (some ⟨gL, 0, none⟩) N N]) (turnD N R L) := by
  have hl := turnD_len N R L
  refine ⟨_, _, rfl, rowIs_rows h.hdr hl.1 (by omega) N (Nat.le_refl _) fun i hi => ?_, rowIs_ints (l := (turnD N R L).label) (h.lab.congr fun i hi => ?_) hl.2 (by omega) N (Nat.le_refl _)⟩
  · rw [turnD_row hi]
    have h1 := h.row i hi (hS i hi)
    have e : natV (R i) = ((R i).map fun (n : Nat) => (n : Int)).map (Value.int .i64) := by simp [natV]
    rw [e] at h1
    exact own_ints h1 (by omega)
  · rw [turnD_lb hi]
end

/-- what all rounds read -/
structure Konst (W : World) (bP bX gX gL gN n N bn on cn bl ol cl : Nat) (d : Dn) (cs : List Nat) (p : Nat → Nat) (ca : Option Addr) : Prop where
  p0 : W.cell? ⟨bP, 0, none⟩ = some (.slice (some ⟨bn, on, none⟩) n cn)
  p1 : W.cell? ⟨bP, 1, none⟩ = some (.slice (some ⟨bl, ol, none⟩) n cl)
  x0 : W.cell? ⟨bX, 0, none⟩ = some (.slice (some ⟨gX, 0, none⟩) N N)
  x1 : W.cell? ⟨bX, 1, none⟩ = some (.slice (some ⟨gL, 0, none⟩) N N)
  row : ∀ i, i < n → ∃ br ro cr, W.cell? ⟨bn, on + i, none⟩ = some (.slice (some ⟨br, ro, none⟩) 256 cr) ∧ (br ≠ gX ∧ br ≠ gL) ∧ ∀ c, c < 256 → W.cell? ⟨br, ro + c, none⟩ = some (.int .i64 (d.nx i c : Nat))
  lab : ∀ i, i < n → W.cell? ⟨bl, ol + i, none⟩ = some (.int .i64 (d.lb i))
  num : ∀ i, i < n → W.cell? ⟨gN, i, none⟩ = some (.int .i64 (p i : Nat))
  cop : 0 < cs.length → ∃ g, ca = some ⟨g, 0, none⟩ ∧ (g ≠ gX ∧ g ≠ gL) ∧ ∀ k, k < cs.length → W.cell? ⟨g, k, none⟩ = some (.int .i64 (cs.getD k 0 : Nat))
  off : (bP ≠ gX ∧ bP ≠ gL) ∧ (bX ≠ gX ∧ bX ≠ gL) ∧ (gN ≠ gX ∧ gN ≠ gL) ∧ (bn ≠ gX ∧ bn ≠ gL) ∧ (bl ≠ gX ∧ bl ≠ gL)

theorem Konst.frm {W W' : World} {bP bX gX gL gN n N bn on cn bl ol cl : Nat} {d : Dn} {cs : List Nat} {p : Nat → Nat} {ca : Option Addr} (h : Konst W bP bX gX gL gN n N bn on cn bl ol cl d cs p ca) (hf : Frm (fun a _ => a = gX ∨ a = gL) W W') :
    Konst W' bP bX gX gL gN n N bn on cn bl ol cl d cs p ca := by
  have no : ∀ {b : Nat}, b ≠ gX ∧ b ≠ gL → ¬ (b = gX ∨ b = gL) := fun h e => e.elim h.1 h.2
  refine ⟨hf.cell_some h.p0 (no h.off.1), hf.cell_some h.p1 (no h.off.1), hf.cell_some h.x0 (no h.off.2.1), hf.cell_some h.x1 (no h.off.2.1), fun i hi => ?_, fun i hi => hf.cell_some (h.lab i hi) (no h.off.2.2.2.2), fun i hi => hf.cell_some (h.num i hi) (no h.off.2.2.1), fun hc => ?_, h.off⟩
  · obtain ⟨br, ro, cr, h1, h2, h3⟩ := h.row i hi
    exact ⟨br, ro, cr, hf.cell_some h1 (no h.off.2.2.2.1), h2, fun c hc => hf.cell_some (h3 c hc) (no h2)⟩
  · obtain ⟨g, h1, h2, h3⟩ := h.cop hc
    exact ⟨g, h1, h2, fun k hk => hf.cell_some (h3 k hk) (no h2)⟩
theorem Konst.ext {W W' : World} {bP bX gX gL gN n N bn on cn bl ol cl : Nat} {d : Dn} {cs : List Nat} {p : Nat → Nat} {ca : Option Addr} (h : Konst W bP bX gX gL gN n N bn on cn bl ol cl d cs p ca) (hx : Ext W W') :
    Konst W' bP bX gX gL gN n N bn on cn bl ol cl d cs p ca := h.frm (.of_ext hx)
end Go.Proofs.YthnojechejckpaaDoor
