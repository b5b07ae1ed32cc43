/- Rows that are full, and a table in memory of its own. No function of the program in sight. -/
import Derived.Test.YtloooajippcdlaaDoorTab
import Derived.Test.YtloooajippcdlaaDoorBldE
namespace Go.Proofs.YtloooajippcdlaaDoor
open Go.RowKit

/-- rows that are full -/
structure FullRows (w : World) (v : Value) (n L : Nat) : Prop where
  shape : ∃ a c, v = .slice a n c
  rows : ∀ a c, v = .slice a n c → 0 < n → ∃ b o, a = some ⟨b, o, none⟩ ∧ ∀ i, i < n → ∃ g, w.cell? ⟨b, o + i, none⟩ = some (.slice (some ⟨g, 0, none⟩) L L) ∧ ∀ k, k < L → ∃ x, w.cell? ⟨g, k, none⟩ = some (.int .i64 x)
theorem FullRows.ext {w w' : World} {v : Value} {n L : Nat} (h : FullRows w v n L) (hx : Ext w w') : FullRows w' v n L :=
  ⟨h.shape, fun a c hv hn => by
    obtain ⟨b, o, e, hr⟩ := h.rows a c hv hn
    refine ⟨b, o, e, fun i hi => ?_⟩
    obtain ⟨g, h1, h2⟩ := hr i hi
    exact ⟨g, hx.cell h1, fun k hk => by obtain ⟨x, h3⟩ := h2 k hk; exact ⟨x, hx.cell h3⟩⟩⟩

/-- a table whose lists are the call's own, each in blocks of its own -/
structure OwnT (w : World) (B : Nat) (own : Nat → Nat) (cv sv nv lv : Value) (T : Tab) : Prop where
  classes : Lst 5 w own B 3 cv (intsV T.classes)
  starts : Lst 1 w own B 3 sv (intsV T.starts)
  labels : Lst 2 w own B 3 lv (intsV T.label)
  full : FullRows w nv T.next.length T.count

theorem ShS.ownT {w wr w' : World} {own : Nat → Nat} {rb K : Nat} {cv sv lv nv xv : Value} {hs xs : List Value} {starts : List Nat} {labels classes : List Int} {rows shorts : List (List Int)} (h : ShS w wr own rb cv K sv lv nv xv hs xs starts labels classes rows shorts)
    (hb : ∀ g, w.heap.size ≤ g → w'.heap[g]? = wr.heap[g]?) (hf : ∀ u ∈ xs, ∃ b, u = .slice (some ⟨b, 0, none⟩) K K) (hK : ∀ l ∈ shorts, l.length = K) :
    OwnT w' w.heap.size own cv sv xv lv ⟨classes, K, nI starts, shorts, labels⟩ := by
  have hx := h.xhdr.far hb
  have hs := h.shorts.far hb
  refine ⟨h.classes.far hb, h.starts.far hb, h.labels.far hb, ?_⟩
  obtain ⟨a, c, hv, hn, hc, h2⟩ := own_read hx.row
  have hlen := hs.len
  refine ⟨⟨a, c, by rw [hv, hlen]⟩, fun a' c' hv' h0 => ?_⟩
  rw [hv] at hv'
  simp only [Value.slice.injEq] at hv'
  obtain ⟨rfl, hn', rfl⟩ := hv'
  obtain ⟨g, rfl, _, h3⟩ := h2 (by show 0 < xs.length; have : 0 < shorts.length := h0; omega)
  refine ⟨g, 0, rfl, fun i hi => ?_⟩
  have hi' : i < shorts.length := hi
  obtain ⟨u, hu⟩ : ∃ u, xs[i]? = some u := ⟨_, List.getElem?_eq_getElem (by omega)⟩
  obtain ⟨l, hl⟩ : ∃ l, shorts[i]? = some l := ⟨_, List.getElem?_eq_getElem hi'⟩
  obtain ⟨b, rfl⟩ := hf u (List.mem_of_getElem? hu)
  have hrow := hs.row i _ l hu hl
  have hlK := hK l (List.mem_of_getElem? hl)
  refine ⟨b, by rw [Nat.zero_add]; rw [h3 i (by omega)]; exact hu, fun k hk => ?_⟩
  have hk2 : k < l.length := by show k < l.length; have : k < K := hk; omega
  exact ⟨l[k], hrow.cell (by unfold intsV; rw [List.getElem?_map, List.getElem?_eq_getElem hk2]; rfl)⟩
end Go.Proofs.YtloooajippcdlaaDoor
