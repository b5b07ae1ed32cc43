/- bolterref14.Ways: its own memory, in blocks by tags: 1 the list of rows, 2 rows, 3 the row that is being filled, 4 numbers. No walk here. -/
import Derived.Test.YtloooajippcdlaaDoorBigAdd
import Derived.Test.YtloooajippcdlaaDoorTags
namespace Go.Proofs.YtloooajippcdlaaDoor
open Go.RowKit

def rowHdr (N : Nat) (R : Nat → Nat) (m : Nat) : Value := .slice (some ⟨R m, 0, none⟩) N N
structure WyS (w wr : World) (own : Nat → Nat) (N : Nat) (F : Nat → Nat → Nat) (av : Value) (k : Nat) (R : Nat → Nat) (bv : Nat → Nat → Value) : Prop where
  ext : Ext w wr
  all : Lst 1 wr own w.heap.size 135 av ((List.range k).map (rowHdr N R))
  row : ∀ m, m < k → Blk 2 wr own w.heap.size (R m) 134 N (bv m)
  big : ∀ m s, m < k → s < N → Lst 4 wr own w.heap.size 3 (bv m s) (intsV (bI (BG.dig (F m s))))
/-- with the row that is being filled -/
structure RwS (w wr : World) (own : Nat → Nat) (N : Nat) (F : Nat → Nat → Nat) (av : Value) (k : Nat) (R : Nat → Nat) (bv : Nat → Nat → Value) (C : Nat) (f : Nat → Value) (G : Nat → Nat) : Prop where
  wy : WyS w wr own N F av k R bv
  cur : Blk 3 wr own w.heap.size C 134 N f
  cb : ∀ s, s < N → Lst 4 wr own w.heap.size 3 (f s) (intsV (bI (BG.dig (G s))))

section
variable {w wr w' w2 w4 : World} {own own' : Nat → Nat} {N k C : Nat} {F : Nat → Nat → Nat} {av v v' : Value} {R : Nat → Nat} {bv : Nat → Nat → Value} {f : Nat → Value} {G : Nat → Nat}
theorem WyS.nil (w : World) (own : Nat → Nat) (N : Nat) (F : Nat → Nat → Nat) : WyS w w own N F (.slice none 0 0) 0 (fun _ => 0) (fun _ _ => .slice none 0 0) :=
  ⟨Ext.refl _, .nil .., fun m hm => by omega, fun m s hm => by omega⟩
theorem WyS.keep (h : WyS w wr own N F av k R bv) (hx : Ext w w') (hk : Keeps (fun t => t ≤ 2 ∨ t = 4) wr own w' own') : WyS w w' own' N F av k R bv :=
  ⟨hx, h.all.keep hk (by omega), fun m hm => (h.row m hm).keep hk (by omega), fun m s hm hs => (h.big m s hm hs).keep hk (by omega)⟩
theorem RwS.keep (h : RwS w wr own N F av k R bv C f G) (hx : Ext w w') (hk : Keeps (fun t => t ≤ 4) wr own w' own') : RwS w w' own' N F av k R bv C f G :=
  ⟨h.wy.keep hx (hk.mono fun _ h => by omega), h.cur.keep hk (by omega), fun s hs => (h.cb s hs).keep hk (by omega)⟩
theorem RwS.more (h : RwS w wr own N F av k R bv C f G) (hx : Ext wr w') : RwS w w' own N F av k R bv C f G := h.keep (h.wy.ext.trans hx) (.ext hx)
theorem nil_big (w : World) (own : Nat → Nat) (B : Nat) : Lst 4 w own B 3 (.slice none 0 0) (intsV (bI (BG.dig 0))) := by rw [BG.dig_zero]; exact .nil ..
/-- a row is begun -/
theorem RwS.begin (h : WyS w wr own N F av k R bv) {c : Array Value} (hc : c.size = N) (hz : ∀ i, i < N → c[i]? = some (.slice none 0 0)) :
    RwS w (wr.alloc (.cells c 134)) (newTag wr own 3) N F av k R bv wr.heap.size (fun _ => .slice none 0 0) (fun _ => 0) :=
  ⟨h.keep (h.ext.trans (Ext.box _ _)) (.new (Ext.box _ _) 3), Blk.made wr own 3 h.ext.size _ _ hc _ hz, fun _ _ => nil_big _ _ _⟩
/-- a number is made, and put into the row -/
theorem RwS.put (h : RwS w wr own N F av k R bv C f G) (hx : Ext wr w2) {n i : Nat} (hv : w2.ownsRow wr.heap.size 3 1 v (BG.dig n).length (intsV (bI (BG.dig n)))) :
    RwS w (w2.setCell ⟨C, i, none⟩ v) (newTag wr own 4) N F av k R bv C (fun s => if s = i then v else f s) (fun s => if s = i then n else G s) := by
  have h2 : RwS w w2 (newTag wr own 4) N F av k R bv C f G := h.keep (h.wy.ext.trans hx) (.new hx 4)
  have hv2 : Lst 4 w2 (newTag wr own 4) w.heap.size 3 v (intsV (bI (BG.dig n))) := ⟨own_base (by rw [vb_len]; exact hv) h.wy.ext.size, fun g hg => newTag_new (hv.lt g hg).1⟩
  obtain ⟨c1, c2⟩ := h2.cur.set i v
  refine ⟨h2.wy.keep (h2.cur.set_ext h2.wy.ext (Nat.le_refl _) i v) (c2.mono fun t ht => by omega), c1, fun s hs => ?_⟩
  by_cases e : s = i
  · subst e; simp only [if_pos]; exact hv2.keep c2 (by omega)
  · simp only [if_neg e]; exact (h2.cb s hs).keep c2 (by omega)
theorem RwS.congr (h : RwS w wr own N F av k R bv C f G) {G' : Nat → Nat} (e : ∀ s, s < N → G s = G' s) : RwS w wr own N F av k R bv C f G' :=
  { h with cb := fun s hs => by rw [← e s hs]; exact h.cb s hs }
/-- the row is full -/
theorem RwS.done (h : RwS w wr own N F av k R bv C f G) (hG : ∀ s, s < N → G s = F k s) (hx : Ext wr w2) (hown : w4.ownsRow w.heap.size 135 1 v' (((List.range k).map (rowHdr N R)).length + 1) ((List.range k).map (rowHdr N R) ++ [.slice (some ⟨C, 0, none⟩) N N]))
    (hg : w2.grownBy w4 av.ownBlock) (hat : v'.ownBlock = av.ownBlock ∨ v'.ownBlock = some w2.heap.size) :
    ∃ own', WyS w w4 own' N F v' (k + 1) (fun m => if m = k then C else R m) (fun m => if m = k then f else bv m) := by
  obtain ⟨h1, h2⟩ := h.wy.all.push hx hown hg hat
  have hj := Keeps.join w4 (newTag wr own 1) 3 2
  have e : (List.range (k + 1)).map (rowHdr N (fun m => if m = k then C else R m)) = (List.range k).map (rowHdr N R) ++ [.slice (some ⟨C, 0, none⟩) N N] := by
    rw [List.range_succ, List.map_append]
    congr 1
    · refine List.map_congr_left fun j hj => ?_
      have : j ≠ k := by have := List.mem_range.1 hj; omega
      simp only [rowHdr, if_neg this]
    · simp only [rowHdr, List.map_cons, List.map_nil, if_pos]
  refine ⟨joinTag (newTag wr own 1) 3 2, ⟨h.wy.all.push_ext h.wy.ext (Nat.le_refl _) hx hg, by rw [e]; exact h1.keep hj (by omega), fun m hm => ?_, fun m s hm hs => ?_⟩⟩
  · by_cases em : m = k
    · subst em
      simp only [if_pos]
      have h3 := h.cur.keep h2 (by omega)
      exact ⟨h3.row, by unfold joinTag; rw [if_pos h3.tag], h3.low⟩
    · simp only [if_neg em]
      exact ((h.wy.row m (by omega)).keep h2 (by omega)).keep hj (by omega)
  · by_cases em : m = k
    · subst em
      simp only [if_pos]
      rw [← hG s hs]
      exact ((h.cb s hs).keep h2 (by omega)).keep hj (by omega)
    · simp only [if_neg em]
      exact ((h.wy.big m s (by omega) hs).keep h2 (by omega)).keep hj (by omega)
end

/-- the rows, as they can be read -/
def WaysV (w : World) (g N most : Nat) (F : Nat → Nat → Nat) : Prop :=
  ∀ m, m ≤ most → ∃ r, w.cell? ⟨g, m, none⟩ = some (.slice (some ⟨r, 0, none⟩) N N) ∧ ∀ s, s < N → ∃ v, w.cell? ⟨r, s, none⟩ = some v ∧ BigV w v (F m s)
theorem WaysV.ext {w w' : World} {g N most : Nat} {F : Nat → Nat → Nat} (h : WaysV w g N most F) (hx : Ext w w') : WaysV w' g N most F := fun m hm => by
  obtain ⟨r, h1, h2⟩ := h m hm
  refine ⟨r, hx.cell h1, fun s hs => ?_⟩
  obtain ⟨v, h3, h4⟩ := h2 s hs
  exact ⟨v, hx.cell h3, IntsK.ext hx h4⟩
theorem WyS.read {w wr : World} {own : Nat → Nat} {N k g n c : Nat} {F : Nat → Nat → Nat} {R : Nat → Nat} {bv : Nat → Nat → Value} (h : WyS w wr own N F (.slice (some ⟨g, 0, none⟩) n c) (k + 1) R bv) (hF : ∀ m s, m ≤ k → s < N → (BG.dig (F m s)).length ≤ 1000) {W : World}
    (hW : ∀ g, w.heap.size ≤ g → g < wr.heap.size → W.heap[g]? = wr.heap[g]?) : WaysV W g N k F := fun m hm => by
  have hg : ∀ {b o : Nat} {v : Value}, w.heap.size ≤ b → wr.cell? ⟨b, o, none⟩ = some v → W.cell? ⟨b, o, none⟩ = some v := fun hb hc => (World.cell?_of_block (hW _ hb (lt_of_cell hc))).trans hc
  refine ⟨R m, hg (h.all.row.lt g rfl).1 (h.all.cell (i := m) (by rw [List.getElem?_map, List.getElem?_range (by omega)]; rfl)), fun s hs => ?_⟩
  refine ⟨bv m s, hg (h.row m (by omega)).low ((h.row m (by omega)).row.cell hs), ?_⟩
  have hb := (h.big m s (by omega) hs).row
  rw [vb_len] at hb
  exact own_big (own_block hb fun g' hg' hl => hW g' (hb.lt g' hg').1 hl) (hF m s hm hs)
end Go.Proofs.YtloooajippcdlaaDoor
