/- What an automaton looks like, as a value; what wakes tells. -/
import Derived.Test.YtpeipjfmibjoiaaDoorOwn
import Derived.Test.YtpeipjfmibjoiaaDoorDn
namespace Go.Proofs.YtpeipjfmibjoiaaDoor
open Go.RowKit

theorem DenseV.form {w : World} {v : Value} {d : Dn} (h : DenseV w v d) : ∃ an cn al cl, v = .agg #[.slice an d.next.length cn, .slice al d.label.length cl] := by
  obtain ⟨vn, vl, rfl, h1, h2⟩ := h
  obtain ⟨_, an, cn, rfl, _⟩ := h1.open
  obtain ⟨_, al, cl, rfl, _⟩ := h2.open
  exact ⟨an, cn, al, cl, rfl⟩

def Wakes12 : Prop := ∀ w : World, Calls Tryd.prog 51 #[] w fun e w' => e = .returned (.bool true) ∧ Ext w w'
end Go.Proofs.YtpeipjfmibjoiaaDoor
