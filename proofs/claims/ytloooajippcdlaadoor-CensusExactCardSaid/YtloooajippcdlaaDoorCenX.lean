/- census and its reference, in one form. -/
import Derived.Test.YtloooajippcdlaaDoorCenNo
import Derived.Test.YtloooajippcdlaaDoorCenNth
namespace Go.Proofs.YtloooajippcdlaaDoor
open Go.RowKit

abbrev arg15V (a : Nat → Addr) : Value := .iface 200 (.pointer (some (a 15)))

theorem countX (d : Dn) (label n : Int) (a : Nat → Addr) : ∃ (c : Int) (b : Bool) (er : Value),
    (∀ w v, DenseV w v d → Sents w a → Calls Tryd.prog 44 #[v, .int .i64 label, .int .i64 n] w fun e w' => e = .returned (.tuple #[.int .u64 c, .bool b, er]) ∧ Ext w w') ∧
    (((May d ∧ -1 ≤ label) ∧ (0 ≤ n ∧ n ≤ 64) ∧ er = .nilIface ∧ ∀ w v, DenseV w v d → Calls Tryd.prog 50 #[v, .int .i64 label, .int .i64 n] w fun e w' => e = .returned (.tuple #[.int .u64 c, .bool b]) ∧ Ext w w') ∨
      (¬ ((May d ∧ -1 ≤ label) ∧ (0 ≤ n ∧ n ≤ 64)) ∧ c = 0 ∧ b = false ∧ er = arg15V a)) := by
  by_cases hc : (May d ∧ -1 ≤ label) ∧ 0 ≤ n ∧ n ≤ 64
  · obtain ⟨k, rfl⟩ : ∃ k : Nat, n = k := ⟨n.toNat, by omega⟩
    exact ⟨_, _, _, fun w v h _ => count_c h hc.1.1 hc.1.2 (by omega), .inl ⟨hc.1, hc.2, rfl, fun w v h => refCount_c h hc.1.1 label (by omega)⟩⟩
  · exact ⟨0, false, _, fun w v h hS => count_no h (fun h => hc ⟨⟨h.1, h.2.1⟩, h.2.2⟩) hS, .inr ⟨hc, rfl, rfl, rfl⟩⟩

theorem rankX (d : Dn) (label : Int) (l : List Nat) (a : Nat → Addr) (hby : ∀ c ∈ l, c < 256) : ∃ (c : Int) (b : Bool) (er : Value),
    (∀ w v bv, DenseV w v d → BytesW w bv l → Sents w a → Calls Tryd.prog 47 #[v, .int .i64 label, bv] w fun e w' => e = .returned (.tuple #[.int .u64 c, .bool b, er]) ∧ Ext w w') ∧
    (((May d ∧ -1 ≤ label) ∧ l.length ≤ 64 ∧ er = .nilIface ∧ ∀ w v bv, DenseV w v d → BytesW w bv l → Calls Tryd.prog 54 #[v, .int .i64 label, bv] w fun e w' => e = .returned (.tuple #[.int .u64 c, .bool b]) ∧ Ext w w') ∨
      (¬ ((May d ∧ -1 ≤ label) ∧ l.length ≤ 64) ∧ c = 0 ∧ b = false ∧ er = arg15V a)) := by
  by_cases hc : (May d ∧ -1 ≤ label) ∧ l.length ≤ 64
  · by_cases hT : d.total label l < 18446744073709551616 ∧ d.lb (CM.run d.nx 0 l) = label
    · refine ⟨(d.total label l : Int), true, .nilIface, fun w v bv h hb _ => (rank_c h hc.1.1 hc.1.2 hb hc.2 hby).mono ?_, .inl ⟨hc.1, hc.2, rfl, fun w v bv h hb => (refRank_c h hc.1.1 label hb hc.2 hby).mono ?_⟩⟩
      · rintro e w' ⟨hx, ⟨_, _, rfl⟩ | ⟨hno, _⟩⟩
        · exact ⟨rfl, hx⟩
        · exact absurd hT hno
      · rintro e w' ⟨hx, ⟨_, _, rfl⟩ | ⟨hno, _⟩⟩
        · exact ⟨rfl, hx⟩
        · exact absurd hT hno
    · refine ⟨0, false, .nilIface, fun w v bv h hb _ => (rank_c h hc.1.1 hc.1.2 hb hc.2 hby).mono ?_, .inl ⟨hc.1, hc.2, rfl, fun w v bv h hb => (refRank_c h hc.1.1 label hb hc.2 hby).mono ?_⟩⟩
      · rintro e w' ⟨hx, ⟨h1, h2, _⟩ | ⟨_, rfl⟩⟩
        · exact absurd ⟨h1, h2⟩ hT
        · exact ⟨rfl, hx⟩
      · rintro e w' ⟨hx, ⟨h1, h2, _⟩ | ⟨_, rfl⟩⟩
        · exact absurd ⟨h1, h2⟩ hT
        · exact ⟨rfl, hx⟩
  · exact ⟨0, false, _, fun w v bv h hb hS => rank_no h hb (fun h => hc ⟨⟨h.1, h.2.1⟩, h.2.2⟩) hS, .inr ⟨hc, rfl, rfl, rfl⟩⟩

theorem own_bytesW {w : World} {B n : Nat} {v : Value} {u : List Nat} (h : w.ownsRow B 5 1 v n (bytesV u)) (hn : n ≤ 140737488355328) : BytesW w v u := by
  have h2 : bytesV u = (u.map fun (b : Nat) => (b : Int)).map (Value.int .u8) := by simp [bytesV]
  rw [h2] at h
  exact own_ints h hn
noncomputable def nthB (d : Dn) (label : Int) (k : Nat) : Bool := decide ((d.nthLen label k).1 < 65)
noncomputable def nthU (d : Dn) (label : Int) (k : Nat) : List Nat := if (d.nthLen label k).1 < 65 then d.nth label (d.nthLen label k).1 0 (d.nthLen label k).2 else []

theorem nth_form {d : Dn} {label : Int} {k : Nat} {w : World} {v : Value} (h : DenseV w v d) (hm : May d) (hl : -1 ≤ label) (hk : k < 18446744073709551616) :
    Calls Tryd.prog 46 #[v, .int .i64 label, .int .u64 k] w fun e w' => ∃ sa n sc, e = .returned (.tuple #[.slice sa n sc, .bool (nthB d label k), .nilIface]) ∧ Ext w w' ∧ n = (nthU d label k).length ∧ n ≤ 64 ∧ w'.ownsRow w.heap.size 5 1 (.slice sa n sc) n (bytesV (nthU d label k)) := by
  refine (nth_c h hm hl hk).mono ?_
  rintro e w' ⟨hx, ⟨h1, rfl⟩ | ⟨h1, v, rfl, ho⟩⟩
  · have e1 : nthB d label k = false := decide_eq_false (by omega)
    have e2 : nthU d label k = [] := if_neg (by omega)
    rw [e1, e2]
    exact ⟨none, 0, 0, rfl, hx, rfl, by omega, World.ownsRow_nil _ _ _ _⟩
  · have e1 : nthB d label k = true := decide_eq_true h1
    have e2 : nthU d label k = _ := if_pos h1
    rw [e1, e2]
    obtain ⟨va, vc, rfl⟩ := own_shpB ho
    have hl9 := ho.1
    simp [bytesV] at hl9
    exact ⟨va, _, vc, rfl, hx, hl9.symm, by omega, ho⟩
theorem refNth_form {d : Dn} {label : Int} {k : Nat} {w : World} {v : Value} (h : DenseV w v d) (hm : May d) (hk : k < 18446744073709551616) :
    Calls Tryd.prog 51 #[v, .int .i64 label, .int .u64 k] w fun e w' => ∃ sa n sc, e = .returned (.tuple #[.slice sa n sc, .bool (nthB d label k)]) ∧ Ext w w' ∧ BytesW w' (.slice sa n sc) (nthU d label k) := by
  refine (refNth_c h hm label hk).mono ?_
  rintro e w' ⟨hx, ⟨h1, rfl⟩ | ⟨h1, v, rfl, ho⟩⟩
  · have e1 : nthB d label k = false := decide_eq_false (by omega)
    have e2 : nthU d label k = [] := if_neg (by omega)
    rw [e1, e2]
    exact ⟨none, 0, 0, rfl, hx, own_ints (B := 0) (e := 5) (n := 0) (l := []) (World.ownsRow_nil _ _ _ _) (by omega)⟩
  · have e1 : nthB d label k = true := decide_eq_true h1
    have e2 : nthU d label k = _ := if_pos h1
    rw [e1, e2]
    obtain ⟨va, vc, rfl⟩ := own_shpB ho
    refine ⟨va, _, vc, rfl, hx, own_ints (e := 5) (B := w.heap.size) (n := (d.nthLen label k).1) ?_ (by omega)⟩
    have h2 : ∀ l : List Nat, bytesV l = (l.map fun (b : Nat) => (b : Int)).map (Value.int .u8) := fun l => by simp [bytesV]
    rw [← h2]
    exact ho
end Go.Proofs.YtloooajippcdlaaDoor
