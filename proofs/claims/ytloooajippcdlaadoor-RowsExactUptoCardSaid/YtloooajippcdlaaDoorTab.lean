/- Tables as data and as they lie in memory; the table that is built of automata that may be is one that may be. No function of the program in sight. -/
import Derived.Test.YtloooajippcdlaaDoorGrouped
import Derived.Test.YtloooajippcdlaaDoorDenses
import Derived.Test.YtloooajippcdlaaDoorLeastMath
namespace Go.Proofs.YtloooajippcdlaaDoor
open Go.RowKit

/-- a table, as data -/
structure Tab where
  classes : List Int
  count : Nat
  starts : List Int
  next : List (List Int)
  label : List Int

/-- a table, as it is handed over -/
structure TableV (w : World) (cv sv nv lv : Value) (T : Tab) : Prop where
  classes : Ints w cv T.classes
  starts : Ints w sv T.starts
  next : RowsV w nv T.next
  label : Ints w lv T.label
theorem TableV.ext {w w' : World} {cv sv nv lv : Value} {T : Tab} (h : TableV w cv sv nv lv T) (hx : Ext w w') : TableV w' cv sv nv lv T :=
  ⟨IntsK.ext hx h.classes, IntsK.ext hx h.starts, RowsV.ext hx h.next, IntsK.ext hx h.label⟩
def tabV (cv sv nv lv : Value) (n : Nat) : Value := .agg #[cv, .int .i64 n, sv, nv, lv]

/-- may a table be? f tells how many classes the first bytes have -/
structure TabOk (T : Tab) (f : Nat → Nat) (g : Nat → Nat) (n : Nat) : Prop where
  classes : T.classes.length = 256
  zero : f 0 = 0
  all : f 256 = T.count
  few : T.count ≤ 256
  step : ∀ i, i < 256 → T.classes.getD i 0 = (g i : Int) ∧ g i ≤ f i ∧ f (i + 1) = if g i = f i then f i + 1 else f i
  low : ∀ i, i < 256 → g i < T.count
  low2 : ∀ i, i ≤ 256 → f i ≤ T.count
  pos : 1 ≤ n
  most : n ≤ 600
  len : T.next.length = n
  labels : T.label.length = n
  some : 1 ≤ T.starts.length
  most2 : T.starts.length ≤ 16
  start : ∀ i, i < T.starts.length → 0 ≤ T.starts.getD i 0 ∧ T.starts.getD i 0 < n
  row : ∀ i, i < n → (T.next.getD i []).length = T.count
  label : ∀ i, i < n → -1 ≤ T.label.getD i 0 ∧ T.label.getD i 0 < 200
  dest : ∀ i k, i < n → k < T.count → -1 ≤ (T.next.getD i []).getD k 0 ∧ (T.next.getD i []).getD k 0 < n

def auts (l : List Dn) : List LM.Aut := l.map Dn.aut
noncomputable def allOf (l : List Dn) : RM.All := RM.all (auts l)
noncomputable def built (l : List Dn) : Tab :=
  ⟨nI ((List.range LM.rowLen).map (RM.cls (allOf l).rows)), RM.ncls (allOf l).rows, nI (allOf l).starts, (allOf l).rows.map (RM.short (allOf l).rows), (allOf l).labels⟩
noncomputable def baseOf (l : List Dn) : Nat := RM.base (auts l)

theorem getD_of {α : Type} {l : List α} {i : Nat} {x z : α} (h : l[i]? = some x) : l.getD i z = x := by rw [List.getD_eq_getElem?_getD, h]; rfl
theorem getD_at {α : Type} {l : List α} {i : Nat} (z : α) (h : i < l.length) : l[i]? = some (l.getD i z) := by rw [List.getD_eq_getElem?_getD, List.getElem?_eq_getElem h]; rfl

theorem baseOf_le (l : List Dn) : baseOf l ≤ states l := by
  induction l using RM.snoc_ind with
  | h0 => exact Nat.le_refl _
  | h1 l d ih =>
    unfold baseOf auts at *
    rw [List.map_append, List.map_cons, List.map_nil, RM.base_snoc, states_snoc]
    have : RM.kcnt d.aut d.aut.n ≤ d.next.length := RM.kcnt_le _ _
    omega
theorem auts_at {l : List Dn} {m : Nat} {d : Dn} (h : l[m]? = some d) : (auts l)[m]? = some d.aut := by unfold auts; rw [List.getElem?_map, h]; rfl
theorem auts_of {l : List Dn} {m : Nat} {A : LM.Aut} (h : (auts l)[m]? = some A) : ∃ d, l[m]? = some d ∧ A = d.aut := by
  unfold auts at h
  rw [List.getElem?_map, Option.map_eq_some_iff] at h
  obtain ⟨d, h1, rfl⟩ := h
  exact ⟨d, h1, rfl⟩
theorem auts_take (l : List Dn) (m : Nat) : (auts l).take m = auts (l.take m) := by unfold auts; rw [List.map_take]
theorem auts_len (l : List Dn) : (auts l).length = l.length := by simp [auts]
theorem auts_ok {l : List Dn} (h : ∀ d ∈ l, May d) : ∀ A ∈ auts l, A.ok := by
  intro A hA
  obtain ⟨d, hd, rfl⟩ := List.mem_map.1 hA
  exact (h d hd).ok

theorem built_len (l : List Dn) : (built l).next.length = baseOf l ∧ (built l).label.length = baseOf l ∧ (built l).starts.length = l.length ∧ (built l).classes.length = 256 := by
  obtain ⟨h1, h2⟩ := RM.all_lens (auts l)
  refine ⟨?_, rfl, ?_, ?_⟩
  · exact (List.length_map _).trans h1
  · exact (nI_len _).trans (h2.trans (auts_len l))
  · refine (nI_len _).trans ?_
    rw [List.length_map, List.length_range, LM.rowLen_eq]
theorem built_class (l : List Dn) {b : Nat} (h : b < 256) : (built l).classes[b]? = some ((RM.cls (allOf l).rows b : Nat) : Int) := by
  show (nI ((List.range LM.rowLen).map (RM.cls (allOf l).rows)))[b]? = _
  unfold nI
  rw [List.getElem?_map, List.getElem?_map, List.getElem?_range (by rw [LM.rowLen_eq]; exact h)]; rfl

/-- what the table says for mode m's state that stands at place j -/
theorem built_at {l : List Dn} {m : Nat} {d : Dn} (hd : l[m]? = some d) {j s : Nat} (hj : (RM.kept d.aut d.aut.n)[j]? = some s) :
    (built l).label[baseOf (l.take m) + j]? = some (d.lb s) ∧ ∃ row, (built l).next[baseOf (l.take m) + j]? = some row ∧ ∀ b, b < 256 → row[RM.cls (allOf l).rows b]? = some (RM.entry d.aut (baseOf (l.take m)) (d.nx s b)) := by
  have h := (RM.all_at (auts_at hd)).2.2 j s hj
  rw [auts_take] at h
  refine ⟨h.2, RM.short (allOf l).rows (RM.rowOf d.aut (baseOf (l.take m)) s), ?_, fun b hb => ?_⟩
  · show ((allOf l).rows.map (RM.short (allOf l).rows))[_]? = _
    rw [List.getElem?_map]
    unfold allOf baseOf
    rw [h.1]; rfl
  · refine (RM.short_get (rows := (allOf l).rows) (r := RM.rowOf d.aut (baseOf (l.take m)) s) (List.mem_of_getElem? h.1) hb).trans ?_
    exact congrArg some (RM.rowOf_getD hb)
theorem built_start {l : List Dn} {m : Nat} {d : Dn} (hd : l[m]? = some d) : (built l).starts[m]? = some ((baseOf (l.take m) : Nat) : Int) := by
  have h := (RM.all_at (auts_at hd)).1
  rw [auts_take] at h
  show (nI (allOf l).starts)[m]? = _
  unfold nI allOf
  rw [List.getElem?_map, h]; rfl
theorem baseOf_succ {l : List Dn} {m : Nat} {d : Dn} (hd : l[m]? = some d) : baseOf (l.take (m + 1)) = baseOf (l.take m) + RM.kcnt d.aut d.aut.n := by
  unfold baseOf
  rw [← auts_take, ← auts_take]
  exact RM.base_take_succ (auts_at hd)
theorem baseOf_at {l : List Dn} {m : Nat} {d : Dn} (hd : l[m]? = some d) : baseOf (l.take m) + RM.kcnt d.aut d.aut.n ≤ baseOf l := by
  have h := (RM.all_at (auts_at hd)).2.1
  rw [auts_take] at h
  exact h
theorem baseOf_of {l : List Dn} {i : Nat} (hi : i < baseOf l) : ∃ m d j s, l[m]? = some d ∧ (RM.kept d.aut d.aut.n)[j]? = some s ∧ i = baseOf (l.take m) + j := by
  obtain ⟨m, A, j, s, h1, h2, h3⟩ := RM.all_of (auts l) i hi
  obtain ⟨d, h4, rfl⟩ := auts_of h1
  rw [auts_take] at h3
  exact ⟨m, d, j, s, h4, h2, h3⟩
theorem mem_getD {α : Type} {l : List α} {i : Nat} {z : α} (h : i < l.length) : l.getD i z ∈ l := List.mem_of_getElem? (getD_at z h)

theorem built_ok {l : List Dn} (h : MayL l) : TabOk (built l) (LM.cnt (RM.col (allOf l).rows)) (RM.cls (allOf l).rows) (baseOf l) := by
  obtain ⟨h1, h2, h3, h4⟩ := built_len l
  have hb : baseOf l ≤ 600 := Nat.le_trans (baseOf_le l) h.sum
  have hal := auts_ok h.each
  have h256 : (built l).count = LM.cnt (RM.col (allOf l).rows) 256 := by show RM.ncls _ = _; unfold RM.ncls; rw [LM.rowLen_eq]
  refine ⟨h4, rfl, h256.symm, ?_, fun i hi => ?_, fun i hi => RM.cls_lt hi, fun i hi => ?_, ?_, hb, h1, h2, ?_, ?_, fun i hi => ?_, fun i hi => ?_, fun i hi => ?_, fun i k hi hk => ?_⟩
  · rw [h256]; exact LM.cnt_le _ _
  · exact ⟨getD_of (built_class l hi), LM.num_step _ i⟩
  · rw [h256]; exact LM.cnt_mono _ hi
  · have hd := List.getElem?_eq_getElem h.pos
    have h5 := baseOf_at hd
    have h6 : 0 < RM.kcnt (l[0]'h.pos).aut (l[0]'h.pos).aut.n := RM.kcnt_pos (h.each _ (List.mem_of_getElem? hd)).pos
    omega
  · rw [h3]; exact h.pos
  · rw [h3]; exact h.most
  · rw [h3] at hi
    have hd := List.getElem?_eq_getElem hi
    rw [getD_of (built_start hd)]
    have h5 := baseOf_at hd
    have h6 : 0 < RM.kcnt (l[i]'hi).aut (l[i]'hi).aut.n := RM.kcnt_pos (h.each _ (List.mem_of_getElem? hd)).pos
    omega
  · have hm := mem_getD (z := []) (l := (built l).next) (by rw [h1]; exact hi)
    obtain ⟨r, _, h5⟩ := List.mem_map.1 (show (built l).next.getD i [] ∈ (allOf l).rows.map (RM.short (allOf l).rows) from hm)
    rw [← h5]; exact RM.short_len _ _
  · obtain ⟨m, d, j, s, h5, h6, rfl⟩ := baseOf_of hi
    rw [getD_of (built_at h5 h6).1]
    exact (h.each d (List.mem_of_getElem? h5)).label s (RM.kept_of h6).1
  · have hi2 : i < (allOf l).rows.length := by rw [show (allOf l).rows.length = baseOf l from (RM.all_lens (auts l)).1]; exact hi
    have hr := List.getElem?_eq_getElem hi2
    have hn : (built l).next.getD i [] = RM.short (allOf l).rows ((allOf l).rows[i]'hi2) := getD_of (by
      show ((allOf l).rows.map (RM.short (allOf l).rows))[i]? = _
      rw [List.getElem?_map, hr]; rfl)
    rw [hn]
    have hk2 : k < (RM.short (allOf l).rows ((allOf l).rows[i]'hi2)).length := by rw [RM.short_len]; exact hk
    obtain ⟨a, ha, hx⟩ := RM.short_of (getD_at 0 hk2)
    rw [hx]
    exact RM.all_range hal hr ha
end Go.Proofs.YtloooajippcdlaaDoor
