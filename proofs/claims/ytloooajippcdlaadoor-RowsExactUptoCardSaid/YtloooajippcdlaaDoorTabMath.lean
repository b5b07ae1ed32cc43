/- What the statements on tables ask, told of the table that is built; the table of the automaton of the word a. No function of the program in sight. -/
import Derived.Test.YtloooajippcdlaaDoorTab
namespace Go.Proofs.YtloooajippcdlaaDoor
open Go.RowKit

/-- the class of a byte in the table of l -/
noncomputable def clsOf (l : List Dn) (b : Nat) : Nat := RM.cls (allOf l).rows b
/-- the entry of a state by a byte -/
noncomputable def entOf (l : List Dn) (s b : Nat) : Int := ((built l).next.getD s []).getD (clsOf l b) 0

theorem built_row (l : List Dn) {i : Nat} (hi : i < baseOf l) : ∃ r, (allOf l).rows[i]? = some r ∧ ∀ b, b < 256 → entOf l i b = r.getD b 0 := by
  have hi2 : i < (allOf l).rows.length := by rw [show (allOf l).rows.length = baseOf l from (RM.all_lens (auts l)).1]; exact hi
  have hr := List.getElem?_eq_getElem hi2
  refine ⟨_, hr, fun b hb => ?_⟩
  have hn : (built l).next.getD i [] = RM.short (allOf l).rows ((allOf l).rows[i]'hi2) := getD_of (by
    show ((allOf l).rows.map (RM.short (allOf l).rows))[i]? = _
    rw [List.getElem?_map, hr]; rfl)
  unfold entOf
  rw [hn]
  exact getD_of (RM.short_get (List.mem_of_getElem? hr) hb)

theorem classes_same (l : List Dn) {a b : Nat} (ha : a < 256) (hb : b < 256) : (∀ s, s < baseOf l → entOf l s a = entOf l s b) ↔ clsOf l a = clsOf l b := by
  constructor
  · intro h
    refine RM.cls_eq.2 (RM.same_iff.2 fun r hr => ?_)
    obtain ⟨i, hi, hri⟩ := List.getElem_of_mem hr
    have hi2 : i < baseOf l := by rw [show (allOf l).rows.length = baseOf l from (RM.all_lens (auts l)).1] at hi; exact hi
    obtain ⟨r', h1, h2⟩ := built_row l hi2
    rw [List.getElem?_eq_getElem hi, hri] at h1
    obtain rfl := Option.some.inj h1
    rw [← h2 a ha, ← h2 b hb]; exact h i hi2
  · intro h s _
    unfold entOf
    rw [h]

theorem kept_some {A : LM.Aut} {j : Nat} (hj : j < RM.kcnt A A.n) : ∃ s, (RM.kept A A.n)[j]? = some s := ⟨_, List.getElem?_eq_getElem (by rw [RM.kept_len]; exact hj)⟩
theorem ent_at {l : List Dn} {m : Nat} {d : Dn} (hd : l[m]? = some d) {j s : Nat} (hj : (RM.kept d.aut d.aut.n)[j]? = some s) :
    (built l).label.getD (baseOf (l.take m) + j) 0 = d.lb s ∧ ∀ b, b < 256 → entOf l (baseOf (l.take m) + j) b = RM.entry d.aut (baseOf (l.take m)) (d.nx s b) := by
  obtain ⟨h1, row, h2, h3⟩ := built_at hd hj
  refine ⟨getD_of h1, fun b hb => ?_⟩
  unfold entOf
  rw [getD_of h2]
  exact getD_of (h3 b hb)
theorem baseOf_one (d : Dn) : baseOf [d] = RM.kcnt d.aut d.aut.n := by
  have h : ([d] : List Dn)[0]? = some d := rfl
  have := baseOf_succ h
  rw [show ([d] : List Dn).take 1 = [d] from rfl, show ([d] : List Dn).take 0 = [] from rfl] at this
  rw [this, show baseOf [] = 0 from rfl, Nat.zero_add]
/-- alone, each has the same labels and entries, moved -/
theorem apart_moved {l : List Dn} {m : Nat} {d : Dn} (hd : l[m]? = some d) {j : Nat} (hj : j < baseOf [d]) :
    (built [d]).label.getD j 0 = (built l).label.getD (baseOf (l.take m) + j) 0 ∧
    ∀ b, b < 256 → (entOf [d] j b < 0 → entOf l (baseOf (l.take m) + j) b = -1) ∧ (0 ≤ entOf [d] j b → entOf l (baseOf (l.take m) + j) b = entOf [d] j b + baseOf (l.take m)) := by
  rw [baseOf_one] at hj
  obtain ⟨s, hs⟩ := kept_some hj
  have h1 := ent_at hd hs
  have h2 := ent_at (l := [d]) (m := 0) rfl hs
  rw [show ([d] : List Dn).take 0 = [] from rfl, show baseOf [] = 0 from rfl, Nat.zero_add] at h2
  refine ⟨h2.1.trans h1.1.symm, fun b hb => ?_⟩
  rw [h1.2 b hb, h2.2 b hb]
  exact RM.entry_moved _ _ _
theorem start_at {l : List Dn} {m : Nat} {d : Dn} (hd : l[m]? = some d) : (built l).starts.getD m 0 = (baseOf (l.take m) : Nat) := getD_of (built_start hd)

/-- the place of a state that is kept -/
theorem kept_ent {l : List Dn} {m : Nat} {d : Dn} (hd : l[m]? = some d) {s : Nat} (hs : s < d.next.length) (hk : RM.keep d.aut s = true) :
    (built l).label.getD (baseOf (l.take m) + RM.kcnt d.aut s) 0 = d.lb s ∧ ∀ b, b < 256 → entOf l (baseOf (l.take m) + RM.kcnt d.aut s) b = RM.entry d.aut (baseOf (l.take m)) (d.nx s b) := ent_at hd (RM.kept_get hs hk)
theorem kept_in {l : List Dn} {m : Nat} {d : Dn} (hd : l[m]? = some d) {s : Nat} (hs : s < d.next.length) (hk : RM.keep d.aut s = true) : baseOf (l.take m) + RM.kcnt d.aut s < baseOf l := by
  have h1 := baseOf_at hd
  have h2 := RM.kcnt_lt (A := d.aut) (m := d.aut.n) hs hk
  omega

/- ---- the automaton of the word a ---- -/
def row15 (n : Int) (b : Nat) (m : Int) : List Int := (List.range 256).map fun i => if i = b then m else n
theorem row15_get (n : Int) (b : Nat) (m : Int) {i : Nat} (h : i < 256) : (row15 n b m).getD i 0 = if i = b then m else n := by
  rw [List.getD_eq_getElem?_getD, row15, List.getElem?_map, List.getElem?_range h]; rfl
theorem row15_len (n : Int) (b : Nat) (m : Int) : (row15 n b m).length = 256 := by simp [row15]
def wD : Dn := { next := [row15 1 97 2, row15 1 97 1, row15 1 97 1], label := [-1, -1, 0] }
theorem wD_row {i : Nat} (hi : i < 3) : ∃ m, (m = 1 ∨ m = 2) ∧ wD.next.getD i [] = row15 1 97 m := by
  rcases (by omega : i = 0 ∨ i = 1 ∨ i = 2) with rfl | rfl | rfl
  · exact ⟨2, .inr rfl, rfl⟩
  · exact ⟨1, .inl rfl, rfl⟩
  · exact ⟨1, .inl rfl, rfl⟩
theorem wD_may : May wD where
  pos := by simp [wD]
  most := by simp [wD]
  labels := rfl
  row i hi := by
    obtain ⟨m, _, h⟩ := wD_row hi
    rw [h, row15_len]
  label i hi := by
    have hi' : i < 3 := hi
    rcases (by omega : i = 0 ∨ i = 1 ∨ i = 2) with rfl | rfl | rfl <;> simp [wD]
  «to» i c hi hc := by
    obtain ⟨m, hm, h⟩ := wD_row hi
    rw [h, row15_get _ _ _ hc]
    show _ ∧ _ < ((3 : Nat) : Int)
    split <;> omega
theorem wD_mayL : MayL [wD] where
  each d hd := by rw [List.mem_singleton.1 hd]; exact wD_may
  pos := by simp
  most := by simp
  sum := by simp [states, wD]
theorem wD_nx0 {c : Nat} (hc : c < 256) : wD.nx 0 c = if c = 97 then 2 else 1 := by
  show ((row15 1 97 2).getD c 0).toNat = _
  rw [row15_get _ _ _ hc]; split <;> rfl
theorem wD_nx1 {c : Nat} (hc : c < 256) : wD.nx 1 c = 1 := by
  show ((row15 1 97 1).getD c 0).toNat = _
  rw [row15_get _ _ _ hc]; split <;> rfl
theorem wD_nx2 {c : Nat} (hc : c < 256) : wD.nx 2 c = 1 := by
  show ((row15 1 97 1).getD c 0).toNat = _
  rw [row15_get _ _ _ hc]; split <;> rfl
theorem wD_dead : ∀ z, LM.Bytes z → wD.aut.run 1 z = 1
  | [], _ => rfl
  | c :: z, h => by
    rw [LM.Aut.run_cons, show wD.aut.nx 1 c = 1 from wD_nx1 (h c (List.mem_cons_self ..))]
    exact wD_dead z fun x hx => h x (List.mem_cons_of_mem _ hx)
theorem wD_live2 : RM.liveB wD.aut 2 = true := RM.liveB_iff.2 (RM.live_label (by show (0 : Int) ≤ 0; omega))
theorem wD_live0 : RM.liveB wD.aut 0 = true := RM.liveB_iff.2 (RM.live_step (c := 97) (by omega) (by
  rw [show wD.aut.nx 0 97 = 2 from (wD_nx0 (by omega)).trans (if_pos rfl)]; exact RM.liveB_iff.1 wD_live2))
theorem wD_live1 : RM.liveB wD.aut 1 = false := by
  rw [Bool.eq_false_iff]
  intro h
  obtain ⟨z, h1, h2⟩ := RM.liveB_iff.1 h
  rw [wD_dead z h1] at h2
  exact absurd h2 (by show ¬ (0 : Int) ≤ -1; omega)
theorem wD_kept : RM.kept wD.aut wD.aut.n = [0, 2] := by
  show RM.kept wD.aut 3 = _
  simp only [RM.kept, RM.keep, wD_live0, wD_live1, wD_live2]
  simp
theorem wD_k1 : RM.kcnt wD.aut 1 = 1 := by simp only [RM.kcnt, RM.keep, wD_live0]; simp
theorem wD_k2 : RM.kcnt wD.aut 2 = 1 := by simp only [RM.kcnt, RM.keep, wD_live0, wD_live1]; simp
def wR : List (List Int) := [row15 (-1) 97 1, row15 (-1) 97 (-1)]
theorem wD_rows : (allOf [wD]).rows = wR ∧ (allOf [wD]).labels = [-1, 0] := by
  have h : allOf [wD] = RM.All.nil.add wD.aut := rfl
  rw [h]
  simp only [RM.All.add, wD_kept]
  refine ⟨?_, rfl⟩
  show [RM.rowOf wD.aut 0 0, RM.rowOf wD.aut 0 2] = _
  unfold wR
  congr 1
  · refine List.ext_getElem (by rw [RM.rowOf_len, row15_len]) fun i h1 h2 => ?_
    have hi : i < 256 := by rw [row15_len] at h2; exact h2
    have e1 := RM.rowOf_getD (A := wD.aut) (n := 0) (s := 0) hi
    have e2 := row15_get (-1) 97 1 hi
    rw [List.getD_eq_getElem?_getD, List.getElem?_eq_getElem h1] at e1
    rw [List.getD_eq_getElem?_getD, List.getElem?_eq_getElem h2] at e2
    simp only [Option.getD_some] at e1 e2
    rw [e1, e2, show wD.aut.nx 0 i = _ from wD_nx0 hi]
    by_cases e : i = 97
    · rw [if_pos e, if_pos e]; unfold RM.entry; rw [if_pos wD_live2, wD_k2]; rfl
    · rw [if_neg e, if_neg e]; unfold RM.entry; rw [if_neg (by rw [wD_live1]; simp)]
  · congr 1
    refine List.ext_getElem (by rw [RM.rowOf_len, row15_len]) fun i h1 h2 => ?_
    have hi : i < 256 := by rw [row15_len] at h2; exact h2
    have e1 := RM.rowOf_getD (A := wD.aut) (n := 0) (s := 2) hi
    have e2 := row15_get (-1) 97 (-1) hi
    rw [List.getD_eq_getElem?_getD, List.getElem?_eq_getElem h1] at e1
    rw [List.getD_eq_getElem?_getD, List.getElem?_eq_getElem h2] at e2
    simp only [Option.getD_some] at e1 e2
    rw [e1, e2, show wD.aut.nx 2 i = _ from wD_nx2 hi, ite_self]
    unfold RM.entry; rw [if_neg (by rw [wD_live1]; simp)]
theorem wR_same {a b : Nat} (ha : a < 256) (hb : b < 256) : RM.same wR a b = true ↔ (a = 97 ↔ b = 97) := by
  rw [RM.same_iff]
  unfold wR
  constructor
  · intro h
    have := h _ (List.mem_cons_self ..)
    rw [row15_get _ _ _ ha, row15_get _ _ _ hb] at this
    by_cases e1 : a = 97 <;> by_cases e2 : b = 97 <;> simp [e1, e2] at this ⊢
  · intro h r hr
    have h2 : r = row15 (-1) 97 1 ∨ r = row15 (-1) 97 (-1) := by simpa using hr
    rcases h2 with rfl | rfl
    · rw [row15_get _ _ _ ha, row15_get _ _ _ hb]
      by_cases e1 : a = 97
      · rw [if_pos e1, if_pos (h.1 e1)]
      · rw [if_neg e1, if_neg fun e => e1 (h.2 e)]
    · rw [row15_get _ _ _ ha, row15_get _ _ _ hb, ite_self, ite_self]
theorem wR_leader {s : Nat} (hs : s < 256) : LM.leader (RM.col wR) s = if s = 97 then 97 else 0 := by
  have h1 := LM.leader_le (RM.col wR) s
  have h2 := LM.leader_val (RM.col wR) s
  have h3 := (wR_same (by omega) hs).1 (RM.col_eq.1 h2)
  by_cases e : s = 97
  · rw [if_pos e]; exact h3.2 e
  · rw [if_neg e]
    have := LM.leader_least (RM.col wR) s 0 (RM.col_eq.2 ((wR_same (by omega) hs).2 (by omega)))
    omega
theorem wR_firsts : ∀ m, m ≤ 256 → RM.firsts wR m = if m = 0 then [] else if m ≤ 97 then [0] else [0, 97]
  | 0, _ => rfl
  | m + 1, h => by
    simp only [RM.firsts]
    rw [wR_firsts m (by omega), wR_leader (by omega)]
    by_cases e0 : m = 0
    · subst e0; simp
    · by_cases e1 : m < 97
      · rw [if_neg e0, if_pos (by omega), if_neg (by omega : m ≠ 97), if_neg (by omega), if_neg (by omega), if_pos (by omega), List.append_nil]
      · by_cases e2 : m = 97
        · subst e2; simp
        · rw [if_neg e0, if_neg (by omega), if_neg e2, if_neg (by omega), if_neg (by omega), if_neg (by omega), List.append_nil]
theorem wD_count : (built [wD]).count = 2 := by
  show RM.ncls (allOf [wD]).rows = 2
  rw [wD_rows.1]
  unfold RM.ncls
  rw [LM.rowLen_eq, ← RM.firsts_len, wR_firsts 256 (by omega)]; rfl
theorem wD_next : (built [wD]).next = [[-1, 1], [-1, -1]] := by
  show (allOf [wD]).rows.map (RM.short (allOf [wD]).rows) = _
  rw [wD_rows.1]
  have h : RM.firsts wR LM.rowLen = [0, 97] := by rw [LM.rowLen_eq, wR_firsts 256 (by omega)]; rfl
  show [RM.short wR (row15 (-1) 97 1), RM.short wR (row15 (-1) 97 (-1))] = _
  unfold RM.short
  rw [h]
  simp only [List.map_cons, List.map_nil, row15_get _ _ _ (show 0 < 256 by omega), row15_get _ _ _ (show 97 < 256 by omega)]
  rfl
theorem wD_label : (built [wD]).label = [-1, 0] := wD_rows.2
theorem wD_base : baseOf [wD] = 2 := by rw [← (built_len [wD]).1, wD_next]; rfl
theorem wD_ent : entOf [wD] 0 97 = 1 := by
  have h := (ent_at (l := [wD]) (m := 0) (d := wD) rfl (j := 0) (s := 0) (by rw [wD_kept]; rfl)).2 97 (by omega)
  rw [show ([wD] : List Dn).take 0 = [] from rfl, show baseOf [] = 0 from rfl, Nat.zero_add] at h
  rw [h, show wD.nx 0 97 = 2 from (wD_nx0 (by omega)).trans (if_pos rfl)]
  unfold RM.entry; rw [if_pos wD_live2, wD_k2]; rfl
end Go.Proofs.YtloooajippcdlaaDoor
