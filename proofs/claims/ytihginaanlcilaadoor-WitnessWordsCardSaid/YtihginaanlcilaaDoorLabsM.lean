/- witness.labels$1 as an iterator that tells of each word's memory. -/
import Derived.Test.YtihginaanlcilaaDoorSeqM
import Derived.Test.YtihginaanlcilaaDoorLabs
namespace Go.Proofs.YtihginaanlcilaaDoor
open Go.RowKit

/-- what a label's word is: the first word, in memory from the base on -/
def LabFx (d : Dn) (B : Nat) (pre : List LabX) (x : LabX) (W : World) : Prop := pre.map (fun y : LabX => y.1.1) = presL d x.1.1 ∧ ∃ u, FirstW d (x.1.1 : Int) u ∧ W.ownsRow B 5 1 x.1.2 u.length (bytesV u)

/-- what a round must leave as it was: all from the base on -/
def KeptL (B : Nat) (_ : LabX) (W W' : World) : Prop := W.heap.size ≤ W'.heap.size ∧ ∀ k, B ≤ k → k < W.heap.size → W'.heap[k]? = W.heap[k]?

theorem labsM_stops {d : Dn} (hA : AutoN d) {w0 : World} {bD bn on cn bl ol cl : Nat} (hb0 : w0.cell? ⟨bD, 0, none⟩ = some (.slice (some ⟨bn, on, none⟩) d.next.length cn)) (hb1 : w0.cell? ⟨bD, 1, none⟩ = some (.slice (some ⟨bl, ol, none⟩) d.next.length cl)) (hc : Cells w0 bn on bl ol d)
    (n : Nat) :
    SeqStopsM Fence.wide n Tryd.prog 48 #[.pointer (some ⟨bD, 0, none⟩)] labE KeptL (LabFx d) (fun xs => xs.map (fun x : LabX => x.1.1) = presL d 200) (fun _ => True) 200 w0 := by
  intro l J Jx W hW hJ hJx hY h0
  refine callsIn_wide.2 ((labs1_c n l bD bn on cn bl ol cl True hA (Ext.cell hW hb0) (Ext.cell hW hb1) (hc.ext hW) J Jx (fun s A C row hs hg hr => hJ s A C row hs hg fun r e => ⟨(hr r e).1, by obtain ⟨o, ho, hw⟩ := (hr r e).2; exact ⟨o, ho, Obj.not_cells_of_walk hw⟩⟩) (fun pre x W1 hJ1 hlt hfx => ?_) h0).mono ?_)
  · obtain ⟨fn, tmps, assign, body, hy, hR⟩ := hY pre x W1 hJ1 hlt (hfx trivial)
    refine ⟨fn, tmps, assign, body, hy, hR.mono ?_⟩
    rintro e W' (⟨h1, h2, h3⟩ | h1)
    · exact .inl ⟨h1, h2, fun k es c hk he => (h3.2 k hk (Array.getElem?_eq_some_iff.1 he).1).trans he, fun _ k hk hl => h3.2 k hk hl⟩
    · exact .inr ⟨h1.1, h1.2.1⟩
  · rintro e W' ⟨h1, ⟨xs, h2, h3⟩ | ⟨pre, h2⟩⟩
    · exact ⟨h1, .inl ⟨xs, h2, h3⟩⟩
    · exact ⟨h1, .inr ⟨pre, trivial, h2⟩⟩
end Go.Proofs.YtihginaanlcilaaDoor
