/- The table that is built, opened: all its cells. -/
import Derived.Test.YtngbaaiocoobdaaDoorWakes15
namespace Go.Proofs.YtngbaaiocoobdaaDoor
open Go.RowKit

structure BT (w : World) (bc oc bs os bn on bl ol K n : Nat) (l : List Dn) : Prop where
  cls : ∀ b, b < 256 → w.cell? ⟨bc, oc + b, none⟩ = some (.int .i64 ((clsOf l b : Nat) : Int))
  low : ∀ b, b < 256 → clsOf l b < K
  start : ∀ m d, l[m]? = some d → w.cell? ⟨bs, os + m, none⟩ = some (.int .i64 ((baseOf (l.take m) : Nat) : Int))
  row : ∀ s, s < n → ∃ br ro cr, w.cell? ⟨bn, on + s, none⟩ = some (.slice (some ⟨br, ro, none⟩) K cr) ∧ ∀ b, b < 256 → w.cell? ⟨br, ro + clsOf l b, none⟩ = some (.int .i64 (entOf l s b))
  lab : ∀ s, s < n → w.cell? ⟨bl, ol + s, none⟩ = some (.int .i64 ((built l).label.getD s 0))
theorem BT.ext {w w' : World} {bc oc bs os bn on bl ol K n : Nat} {l : List Dn} (h : BT w bc oc bs os bn on bl ol K n l) (hx : Ext w w') : BT w' bc oc bs os bn on bl ol K n l :=
  ⟨fun b hb => hx.cell (h.cls b hb), h.low, fun m d hm => hx.cell (h.start m d hm), fun s hs => by
    obtain ⟨br, ro, cr, h1, h2⟩ := h.row s hs
    exact ⟨br, ro, cr, hx.cell h1, fun b hb => hx.cell (h2 b hb)⟩, fun s hs => hx.cell (h.lab s hs)⟩

theorem BuiltR.open {l : List Dn} {w w' : World} {e : Ending} (h : BuiltR l w e w') (hm : MayL l) : ∃ bc oc cc bs os sc bn on nc bl ol lc K n,
    e = .returned (.tuple #[.agg #[.slice (some ⟨bc, oc, none⟩) 256 cc, .int .i64 ((K : Nat) : Int), .slice (some ⟨bs, os, none⟩) l.length sc, .slice (some ⟨bn, on, none⟩) n nc, .slice (some ⟨bl, ol, none⟩) n lc], .nilIface]) ∧
    n = baseOf l ∧ 1 ≤ n ∧ n ≤ 600 ∧ K ≤ 256 ∧ BT w' bc oc bs os bn on bl ol K n l ∧
    TblV w' (.agg #[.slice (some ⟨bc, oc, none⟩) 256 cc, .int .i64 ((K : Nat) : Int), .slice (some ⟨bs, os, none⟩) l.length sc, .slice (some ⟨bn, on, none⟩) n nc, .slice (some ⟨bl, ol, none⟩) n lc]) (built l).tbl ∧ Ext w w' := by
  obtain ⟨cv, sv, nv, lv, rfl, hT, hx⟩ := h
  have hmt := built_may hm
  have hok := built_ok hm
  obtain ⟨g1, g2, g3, g4⟩ := built_len l
  have hT2 := hT.tbl
  obtain ⟨_, ac, cc, rfl, _, hc⟩ := hT.classes.open
  obtain ⟨_, sa, sc, rfl, _, hs⟩ := hT.starts.open
  obtain ⟨_, an, nc, rfl, _, hn⟩ := hT.next.open
  obtain ⟨_, al, lc, rfl, _, hl⟩ := hT.label.open
  rw [g4] at hc hT2 ⊢
  rw [g3] at hs hT2 ⊢
  rw [g1] at hn hT2 ⊢
  rw [g2] at hl hT2 ⊢
  have hp := hok.pos
  obtain ⟨bc, oc, rfl, gc⟩ := hc (by omega)
  obtain ⟨bs, os, rfl, gs⟩ := hs hm.pos
  obtain ⟨bn, on, rfl, gn⟩ := hn (by omega)
  obtain ⟨bl, ol, rfl, gl⟩ := hl (by omega)
  have hlow : ∀ b, b < 256 → clsOf l b < (built l).count := fun b hb => RM.cls_lt hb
  refine ⟨bc, oc, cc, bs, os, sc, bn, on, nc, bl, ol, lc, (built l).count, baseOf l, rfl, rfl, hp, hok.most, hok.few, ⟨fun b hb => ?_, hlow, fun m d hd => ?_, fun s hs => ?_, fun s hs => gl s hs⟩, hT2, hx⟩
  · rw [gc b hb, show (built l).classes.getD b 0 = ((clsOf l b : Nat) : Int) from getD_of (built_class l hb)]
  · rw [gs m (List.getElem?_eq_some_iff.1 hd).1, start_at hd]
  · obtain ⟨r, hr, hi⟩ := gn s hs
    obtain ⟨_, ar, cr, rfl, _, hrr⟩ := hi.open
    have hlr := hok.row s hs
    rw [hlr] at hr hrr
    obtain ⟨br, ro, rfl, grr⟩ := hrr (by have := hlow 0 (by omega); omega)
    exact ⟨br, ro, cr, hr, fun b hb => grr _ (hlow b hb)⟩
end Go.Proofs.YtngbaaiocoobdaaDoor
