/- An automaton that may be, as functions on numbers. -/
import Derived.Test.YtihginaanlcilaaDoorBase
import Derived.Test.YtihginaanlcilaaDoorCensusMath
import Derived.Test.YtihginaanlcilaaDoorLeastMath
namespace Go.Proofs.YtihginaanlcilaaDoor

def Dn.nx (d : Dn) (s c : Nat) : Nat := ((d.next.getD s []).getD c 0).toNat
def Dn.lb (d : Dn) (s : Nat) : Int := d.label.getD s 0
def Dn.n (d : Dn) : Nat := d.next.length
def Dn.aut (d : Dn) : LM.Aut := { n := d.next.length, nx := d.nx, lb := d.lb }

theorem May.nx_lt {d : Dn} (h : May d) {s c : Nat} (hs : s < d.next.length) (hc : c < 256) : d.nx s c < d.next.length := by
  have := h.to s c hs hc
  unfold Dn.nx; omega
theorem May.nx_int {d : Dn} (h : May d) {s c : Nat} (hs : s < d.next.length) (hc : c < 256) : (d.next.getD s []).getD c 0 = (d.nx s c : Int) := by
  have := h.to s c hs hc
  unfold Dn.nx; omega
theorem May.ok {d : Dn} (h : May d) : d.aut.ok := ⟨h.pos, fun _ _ hs hc => h.nx_lt hs hc⟩

/-- how many words of n bytes lead from s to the label -/
noncomputable def Dn.ways (d : Dn) (label : Int) (n s : Nat) : Nat := CM.ways d.nx (fun t => d.lb t == label) n s

/-- what a walk takes of an automaton that may be: its rows' and labels' cells, whatever grows -/
structure Cells (w : World) (bn on bl ol : Nat) (d : Dn) : Prop where
  row : ∀ i, i < d.next.length → ∃ br ro cr, w.cell? ⟨bn, on + i, none⟩ = some (.slice (some ⟨br, ro, none⟩) 256 cr) ∧ ∀ c, c < 256 → w.cell? ⟨br, ro + c, none⟩ = some (.int .i64 (d.nx i c))
  label : ∀ i, i < d.next.length → w.cell? ⟨bl, ol + i, none⟩ = some (.int .i64 (d.lb i))

theorem DenseV.cells {w : World} {v : Value} {d : Dn} (h : DenseV w v d) (hm : May d) :
    ∃ bn on cn bl ol cl, v = .agg #[.slice (some ⟨bn, on, none⟩) d.next.length cn, .slice (some ⟨bl, ol, none⟩) d.next.length cl] ∧ Cells w bn on bl ol d := by
  obtain ⟨vn, vl, rfl, hn, hl⟩ := h
  obtain ⟨h1, an, cn, rfl, _, h2⟩ := hn.open
  obtain ⟨h3, al, cl, rfl, _, h4⟩ := hl.open
  have hp := hm.pos
  obtain ⟨bn, on, rfl, h5⟩ := h2 (by omega)
  obtain ⟨bl, ol, rfl, h6⟩ := h4 (by rw [hm.labels]; omega)
  refine ⟨bn, on, cn, bl, ol, cl, by rw [hm.labels], fun i hi => ?_, fun i hi => h6 i (by rw [hm.labels]; exact hi)⟩
  obtain ⟨r, h7, h8⟩ := h5 i hi
  obtain ⟨_, ar, cr, rfl, _, h9⟩ := h8.open
  have hr := hm.row i hi
  rw [hr] at h7 h9
  obtain ⟨br, ro, rfl, h10⟩ := h9 (by omega)
  exact ⟨br, ro, cr, h7, fun c hc => by rw [h10 c hc, hm.nx_int hi hc]⟩

theorem Cells.ext {w w' : World} (hx : Ext w w') {bn on bl ol : Nat} {d : Dn} (h : Cells w bn on bl ol d) : Cells w' bn on bl ol d :=
  ⟨fun i hi => by obtain ⟨br, ro, cr, h1, h2⟩ := h.row i hi; exact ⟨br, ro, cr, hx.cell h1, fun c hc => hx.cell (h2 c hc)⟩, fun i hi => hx.cell (h.label i hi)⟩
end Go.Proofs.YtihginaanlcilaaDoor
