/- What make and a new block hold. No program in sight. -/
import Derived.Test.YtihginaanlcilaaDoorFrm
import Derived.Deep.OwnRows
namespace Go.Proofs.YtihginaanlcilaaDoor
open Go.RowKit

section
variable {P : Program}

theorem run_make_any (t e : TypeId) (z : Value) (size bytes : Nat) (ht : P.underlying t = some (.slice e)) (hinfo : (P.info? e).map (fun i => (i.zero, i.size, i.bytes)) = some (some z, size, bytes))
    (kl kc : IntKind) (n : Nat) (hbytes : bytes * n ≤ 281474976710656) (h63 : n ≤ 9223372036854775807) (w : World) :
    (Instr.makeSlice t (.int kl (n : Int)) (.int kc (n : Int))).run P w = .ok (.slice (some ⟨w.heap.size, 0, none⟩) n n) (w.alloc (.cells (madeCells z.cells (n * size)) e)) := by
  obtain ⟨i, hi, hzz⟩ := Option.map_eq_some_iff.1 hinfo
  simp only [Prod.mk.injEq] at hzz
  obtain ⟨hz, hs, hb⟩ := hzz
  have hb' : (i.bytes : Int) * (n : Int) ≤ 281474976710656 := by
    have h : ((i.bytes * n : Nat) : Int) ≤ 281474976710656 := by rw [hb]; omega
    rwa [Int.natCast_mul] at h
  have hr := run_make (P := P) w t e i z ht hi hz kl kc n n (by omega) (Int.le_refl _) hb' (by omega)
  simp only [Int.toNat_natCast, hs] at hr
  exact hr
end

theorem made_one (z : Value) {n i : Nat} (h : i < n) : (madeCells #[z] n)[i]? = some z := by simp [madeCells, h, Nat.mod_one]
theorem made_two (a b : Value) {n s : Nat} (h : s < n) : (madeCells #[a, b] (n * 2))[s * 2]? = some a ∧ (madeCells #[a, b] (n * 2))[s * 2 + 1]? = some b := by
  have h1 : s * 2 < n * 2 := by omega
  have h2 : s * 2 + 1 < n * 2 := by omega
  have h3 : (s * 2 + 1) % 2 = 1 := by omega
  constructor
  · simp [madeCells, h1]
  · simp [madeCells, h2, h3]

theorem new_cell {w : World} {c : Array Value} {t : TypeId} {i : Nat} {x : Value} (h : c[i]? = some x) : (w.alloc (.cells c t)).cell? ⟨w.heap.size, i, none⟩ = some x := by
  rw [World.cell?_alloc_new]; exact h
theorem new_frozen (w : World) (c : Array Value) (t : TypeId) (i : Nat) : (w.alloc (.cells c t)).frozen? ⟨w.heap.size, i, none⟩ = false := World.frozen?_alloc_new _ _ _ _


theorem lt_of_cell {w : World} {b o : Nat} {v : Value} (h : w.cell? ⟨b, o, none⟩ = some v) : b < w.heap.size := World.block_lt_of_cell? _ _ h

theorem news_one {w : World} {b : Nat} {x : Value} (h : w.cell? ⟨b, 0, none⟩ = some x) : ∀ j u, [x][j]? = some u → w.cell? ((⟨b, 0, none⟩ : Addr).add j) = some u := by
  intro j u hj
  match j, hj with
  | 0, hj => simp at hj; subst hj; simpa [Addr.add] using h
theorem one_int (k : IntKind) (x : Int) : ∀ u ∈ [Value.int k x], u.oneCell' = true := by
  intro u hu; simp at hu; subst hu; rfl

theorem own_base {w : World} {B B' : Nat} {e : TypeId} {size : Nat} {v : Value} {n : Nat} {xs : List Value} (h : w.ownsRow B e size v n xs) (hB : B' ≤ B) : w.ownsRow B' e size v n xs := by
  obtain ⟨h1, h2⟩ := h
  refine ⟨h1, ?_⟩
  rcases h2 with h2 | ⟨g, cap, cur, hv, hg, r⟩
  · exact .inl h2
  · exact .inr ⟨g, cap, cur, hv, by omega, r⟩

theorem own_block {w w' : World} {B : Nat} {e : TypeId} {size : Nat} {v : Value} {n : Nat} {xs : List Value} (h : w.ownsRow B e size v n xs) (hb : ∀ g, v.ownBlock = some g → g < w.heap.size → w'.heap[g]? = w.heap[g]?) :
    w'.ownsRow B e size v n xs := by
  have hlt := h.lt
  obtain ⟨h1, h2⟩ := h
  refine ⟨h1, ?_⟩
  rcases h2 with h2 | ⟨g, cap, cur, hv, hg, hh, r⟩
  · exact .inl h2
  · have := hlt g (by rw [hv]; rfl)
    exact .inr ⟨g, cap, cur, hv, hg, by rw [hb g (by rw [hv]; rfl) this.2]; exact hh, r⟩

theorem own_ext {w w' : World} (hx : Ext w w') {B : Nat} {e : TypeId} {size : Nat} {v : Value} {n : Nat} {xs : List Value} (h : w.ownsRow B e size v n xs) : w'.ownsRow B e size v n xs :=
  own_block h fun g _ hg => hx.block g hg

theorem own_frm {w w' : World} {S : Nat → Nat → Prop} (hf : Frm S w w') {B : Nat} {e : TypeId} {size : Nat} {v : Value} {n : Nat} {xs : List Value} (h : w.ownsRow B e size v n xs) (hS : ∀ g j, v.ownBlock = some g → ¬ S g j) : w'.ownsRow B e size v n xs :=
  own_block h fun g hg hl => hf.block g hl (fun j => hS g j hg)

/-- what a call owns can be read by all -/
theorem own_read {w : World} {B : Nat} {e : TypeId} {v : Value} {n : Nat} {xs : List Value} (h : w.ownsRow B e 1 v n xs) : ∃ a cap, v = .slice a n cap ∧ n = xs.length ∧ (n ≤ cap ∧ (a = none → cap = 0)) ∧ (0 < n → ∃ g, a = some ⟨g, 0, none⟩ ∧ B ≤ g ∧ ∀ i, i < n → w.cell? ⟨g, i, none⟩ = xs[i]?) := by
  have hc := fun g hg => World.ownsRow.cells h (g := g) hg
  obtain ⟨h1, h2⟩ := h
  rcases h2 with ⟨rfl, rfl⟩ | ⟨g, cap, cur, rfl, hg, hh, hn, hm, hs, hx⟩
  · exact ⟨none, 0, rfl, by omega, ⟨Nat.le_refl _, fun _ => rfl⟩, fun h => absurd h (Nat.lt_irrefl _)⟩
  · refine ⟨some ⟨g, 0, none⟩, cap, rfl, by omega, ⟨hn, fun h => by cases h⟩, fun _ => ⟨g, rfl, hg, fun i hi => ?_⟩⟩
    have h3 : i < xs.length := by omega
    have h4 := hc g rfl i xs[i] (List.getElem?_eq_getElem h3)
    rw [List.getElem?_eq_getElem h3, ← h4]
    unfold Addr.add
    by_cases e0 : i = 0
    · subst e0; simp
    · rw [if_neg e0]; simp

theorem own_ints {k : IntKind} {w : World} {B : Nat} {e : TypeId} {v : Value} {n : Nat} {l : List Int} (h : w.ownsRow B e 1 v n (l.map (Value.int k))) (hl : n ≤ 140737488355328) : IntsK k w v l := by
  obtain ⟨a, cap, rfl, hn, hc, h2⟩ := own_read h
  rw [List.length_map] at hn
  subst hn
  refine ⟨hl, a, cap, rfl, hc, fun h0 => ?_⟩
  obtain ⟨g, rfl, _, h3⟩ := h2 h0
  refine ⟨g, 0, rfl, fun i x hx => ?_⟩
  have hi := (List.getElem?_eq_some_iff.1 hx).1
  rw [Nat.mul_one, Nat.zero_add]
  unfold IntAt
  rw [h3 i hi, List.getElem?_map, hx]
  rfl

end Go.Proofs.YtihginaanlcilaaDoor
