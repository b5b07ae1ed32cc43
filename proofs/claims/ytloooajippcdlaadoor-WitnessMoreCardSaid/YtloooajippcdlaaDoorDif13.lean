/- witness.Differ, both ends in one form. -/
import Derived.Test.YtloooajippcdlaaDoorRef13
import Derived.Test.YtloooajippcdlaaDoorNo13
import Derived.Test.YtloooajippcdlaaDoorOverB
import Derived.Test.YtloooajippcdlaaDoorCopyRows
import Derived.Test.YtloooajippcdlaaDoorEqDense
import Derived.Test.YtloooajippcdlaaDoorBytesW
import Derived.Test.YtloooajippcdlaaDoorWakes13
import Derived.Test.YtloooajippcdlaaDoorMay
namespace Go.Proofs.YtloooajippcdlaaDoor
open Go.RowKit

/-- what the program's search tells, refusals too, in one form -/
def WitX (ok : Prop) (a : Nat → Addr) (A B : LM.Aut) (x y : Nat) (P : Nat → Nat → Bool) (w : World) (e : Ending) (w' : World) : Prop :=
  ∃ sa n sc b er, e = .returned (.tuple #[.slice sa n sc, .bool b, er]) ∧ Ext w w' ∧
    ((ok ∧ er = .nilIface ∧ ((b = true ∧ ∃ u, First A B x y P u ∧ n = u.length ∧ w'.ownsRow w.heap.size 5 1 (.slice sa n sc) n (bytesV u)) ∨ (b = false ∧ n = 0 ∧ w'.ownsRow w.heap.size 5 1 (.slice sa n sc) n [] ∧ Nowhere A B x y P))) ∨
     (¬ ok ∧ er = .iface 200 (.pointer (some (a 15))) ∧ b = false ∧ n = 0))
theorem WitR.x {ok : Prop} {a : Nat → Addr} {w w' : World} {A B : LM.Aut} {x y : Nat} {P : Nat → Nat → Bool} {e : Ending} (hok : ok) (h : WitR w A B x y P e w') : WitX ok a A B x y P w e w' := by
  obtain ⟨hx, ⟨u, v, rfl, hF, hown⟩ | ⟨rfl, hN⟩⟩ := h
  · obtain ⟨sa, sc, rfl⟩ := own_shp' hown
    exact ⟨sa, _, sc, true, _, rfl, hx, .inl ⟨hok, rfl, .inl ⟨rfl, u, hF, rfl, hown⟩⟩⟩
  · exact ⟨none, 0, 0, false, _, rfl, hx, .inl ⟨hok, rfl, .inr ⟨rfl, rfl, World.ownsRow_nil _ _ _ _, hN⟩⟩⟩
theorem wordX_c {w : World} {v : Value} {d : Dn} {label : Int} {a : Nat → Addr} (h : DenseV w v d) (hS : Sents w a) : Calls Tryd.prog 34 #[v, .int .i64 label] w (WitX (May d ∧ -1 ≤ label) a d.aut oneD.aut 0 0 (fun i _ => d.lb i == label) w) := by
  by_cases hok : May d ∧ -1 ≤ label
  · exact (wordOf_c h hok.1 hok.2).mono fun e w' hr => WitR.x hok hr
  · refine (word_no h hok hS).mono ?_
    rintro e w' ⟨rfl, hx⟩
    exact ⟨none, 0, 0, false, _, rfl, hx, .inr ⟨hok, rfl, rfl, rfl⟩⟩
theorem apartX_c {w : World} {v : Value} {d : Dn} {x y : Int} {a : Nat → Addr} (h : DenseV w v d) (hS : Sents w a) : Calls Tryd.prog 35 #[v, .int .i64 x, .int .i64 y] w (WitX (May d ∧ 0 ≤ x ∧ x < d.next.length ∧ 0 ≤ y ∧ y < d.next.length) a d.aut d.aut x.toNat y.toNat (fun i k => d.lb i != d.lb k) w) := by
  by_cases hok : May d ∧ 0 ≤ x ∧ x < d.next.length ∧ 0 ≤ y ∧ y < d.next.length
  · obtain ⟨hm, h1, h2, h3, h4⟩ := hok
    obtain ⟨i, rfl⟩ : ∃ i : Nat, x = i := ⟨x.toNat, by omega⟩
    obtain ⟨k, rfl⟩ : ∃ k : Nat, y = k := ⟨y.toNat, by omega⟩
    exact (apart_c h hm (x := i) (y := k) (by omega) (by omega)).mono fun e w' hr => WitR.x ⟨hm, h1, h2, h3, h4⟩ hr
  · refine (apart_no h hok hS).mono ?_
    rintro e w' ⟨rfl, hx⟩
    exact ⟨none, 0, 0, false, _, rfl, hx, .inr ⟨hok, rfl, rfl, rfl⟩⟩
theorem bytesV_ints (u : List Nat) : bytesV u = (u.map fun (b : Nat) => (b : Int)).map (Value.int .u8) := by simp [bytesV]
theorem own_bytes {w : World} {B n : Nat} {v : Value} {u : List Nat} (h : w.ownsRow B 5 1 v n (bytesV u)) (hn : n ≤ 140737488355328) : IntsK .u8 w v (u.map fun (b : Nat) => (b : Int)) := by
  rw [bytesV_ints] at h; exact own_ints h hn

/-- an array of two numbers among others in a list -/
def PairAt (w : World) (b o : Nat) (p : Int × Int) : Prop := w.cell? ⟨b, o, none⟩ = some (.int .i64 p.1) ∧ w.cell? ⟨b, o + 1, none⟩ = some (.int .i64 p.2)
abbrev PairsV (w : World) (v : Value) (l : List (Int × Int)) : Prop := SliceV 2 PairAt w v l

theorem copied_dense13 {w : World} {B : Nat} {own : Nat → Nat} {vn vl : Value} {hs : List Value} {d : Dn} (h : OwnDense w B own vn vl hs d.next d.label) (hr : Reach d) : DenseV w (.agg #[vn, vl]) d :=
  ⟨vn, vl, rfl, h.tab.read (by have := hr.next; omega) (fun l hl => by have := hr.rows l hl; omega), own_ints h.label (by have := hr.label; omega)⟩
theorem eqD_same13 (d : Dn) : eqD d d = true := by rw [eqD_and]; simp
theorem over_ext13 {w0 w w' : World} {u : Value} (h : Ext w0 w) (hg : w.grownBy w' u.ownBlock) (hu : ∀ g, u.ownBlock = some g → w0.heap.size ≤ g) : Ext w0 w' :=
  Below.grown h hg h.size (fun g ee => hu g ee)
theorem bytes_of13 {l : List Nat} : ∀ u ∈ bytesV l, ∃ x, u = .int .u8 x := by
  intro u hu
  obtain ⟨x, _, rfl⟩ := List.mem_map.1 hu
  exact ⟨_, rfl⟩

/-- both tell the same -/
theorem both13 {A B : LM.Aut} {x y : Nat} {P : Nat → Nat → Bool} {w w1 w2 w3 : World} {n : Nat} {sv v2 : Value} {b b2 : Bool} (h : (b = true ∧ ∃ u, First A B x y P u ∧ n = u.length ∧ w1.ownsRow w.heap.size 5 1 sv n (bytesV u)) ∨ (b = false ∧ n = 0 ∧ w1.ownsRow w.heap.size 5 1 sv n [] ∧ Nowhere A B x y P))
    (h2 : Res w2 w3 A B x y P v2 b2) (hx : Ext w1 w3) (hl : Lim A B x y P) : b = b2 ∧ ∃ u : List Nat, IntsK .u8 w3 sv (u.map fun (b : Nat) => (b : Int)) ∧ IntsK .u8 w3 v2 (u.map fun (b : Nat) => (b : Int)) ∧ w3.ownsRow w.heap.size 5 1 sv n (bytesV u) ∧ n ≤ 1000000 := by
  rcases h with ⟨rfl, u, hF, hnu, hown⟩ | ⟨rfl, rfl, hown, hN⟩
  · have := hl u hF
    rcases h2 with ⟨rfl, u2, hF2, hown2⟩ | ⟨_, _, hN2⟩
    · obtain rfl := hF.uniq hF2
      exact ⟨rfl, u, own_bytes (own_ext hx hown) (by omega), own_bytes hown2 (by omega), own_ext hx hown, by omega⟩
    · exact absurd hN2 (fun h => hF.some h)
  · rcases h2 with ⟨_, u2, hF2, _⟩ | ⟨rfl, rfl, _⟩
    · exact absurd hN (fun h => hF2.some h)
    · exact ⟨rfl, [], own_bytes (u := []) (own_ext hx hown) (by omega), own_bytes (B := 0) (u := []) (World.ownsRow_nil _ _ _ _) (by omega), own_ext hx hown, by omega⟩
end Go.Proofs.YtloooajippcdlaaDoor

namespace Go.Proofs.YtloooajippcdlaaDoor
open Go.RowKit

theorem differX_c {w : World} {va vb : Value} {d f : Dn} {a : Nat → Addr} (h : DenseV w va d) (h' : DenseV w vb f) (hS : Sents w a) : Calls Tryd.prog 22 #[va, vb] w (WitX (May d ∧ May f) a d.aut f.aut 0 0 (fun i k => d.lb i != f.lb k) w) := by
  by_cases hok : May d ∧ May f
  · exact (differ_c h h' hok.1 hok.2).mono fun e w' hr => WitR.x hok hr
  · refine (differ_no h h' hok hS).mono ?_
    rintro e w' ⟨rfl, hx⟩
    exact ⟨none, 0, 0, false, _, rfl, hx, .inr ⟨hok, rfl, rfl, rfl⟩⟩
end Go.Proofs.YtloooajippcdlaaDoor
