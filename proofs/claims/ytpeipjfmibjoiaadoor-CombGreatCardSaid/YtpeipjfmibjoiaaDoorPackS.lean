/- Pack's list of rows in memory, while it is made, and sorted. No function of the program in sight. -/
import Derived.Test.YtpeipjfmibjoiaaDoorLayS
import Derived.Test.YtpeipjfmibjoiaaDoorSortS
namespace Go.Proofs.YtpeipjfmibjoiaaDoor
open Go.RowKit

def reV (x : RowE) : List Value := [.int .i64 x.s, .int .i64 x.d, .slice x.a x.n x.c]
def rsV (l : List RowE) : List Value := l.flatMap reV
theorem rsV_snoc (l : List RowE) (x : RowE) : rsV (l ++ [x]) = rsV l ++ reV x := by simp [rsV]
theorem rsV_get {l : List RowE} {j : Nat} {x : RowE} (h : l[j]? = some x) : (rsV l)[j * 3]? = some (.int .i64 x.s) ∧ (rsV l)[j * 3 + 1]? = some (.int .i64 x.d) ∧ (rsV l)[j * 3 + 2]? = some (.slice x.a x.n x.c) := by
  induction l generalizing j with
  | nil => simp at h
  | cons t l ih =>
    have e : rsV (t :: l) = reV t ++ rsV l := by simp [rsV]
    rw [e]
    cases j with
    | zero =>
      obtain rfl : t = x := by simpa using h
      exact ⟨rfl, rfl, rfl⟩
    | succ j =>
      have h' : l[j]? = some x := by simpa using h
      obtain ⟨h1, h2, h3⟩ := ih h'
      have k : ∀ m, (reV t ++ rsV l)[(j + 1) * 3 + m]? = (rsV l)[j * 3 + m]? := fun m => by
        rw [List.getElem?_append_right (by show 3 ≤ _; omega)]
        congr 1
        show (j + 1) * 3 + m - 3 = _
        omega
      exact ⟨(k 0).trans h1, (k 1).trans h2, (k 2).trans h3⟩

theorem own_elts {w : World} {B g n cap : Nat} {e : TypeId} {l : List RowE} (h : w.ownsRow B e 3 (.slice (some ⟨g, 0, none⟩) n cap) n (rsV l)) (hn : n = l.length) : Elts w g l :=
  ⟨fun i x hi => (h.cellAt _ (by have := (List.getElem?_eq_some_iff.1 hi).1; omega)).trans (rsV_get hi).1, fun i x hi => (h.cellAt _ (by have := (List.getElem?_eq_some_iff.1 hi).1; omega)).trans (rsV_get hi).2.1,
    fun i x hi => (h.cellAt _ (by have := (List.getElem?_eq_some_iff.1 hi).1; omega)).trans (rsV_get hi).2.2, fun i => h.frozenAt i⟩

/-- what a row of the list says -/
structure RowOk (T : Tbl) (w : World) (B : Nat) (x : RowE) (j : Nat) : Prop where
  s : x.s = (j : Int)
  lo : -1 ≤ x.d
  hi : x.d < j
  len : x.n = (CB.liveL T j x.d).length
  own : w.ownsRow B 3 1 (.slice x.a x.n x.c) x.n (intsV (nI (CB.liveL T j x.d)))

structure RowsS (T : Tbl) (W wr : World) (lv : Value) (l : List RowE) : Prop where
  ext : Ext W wr
  row : wr.ownsRow W.heap.size 125 3 lv l.length (rsV l)
  each : ∀ (j : Nat) (x : RowE), l[j]? = some x → RowOk T wr W.heap.size x j
  apart : ∀ (j : Nat) (x : RowE) (g : Nat), l[j]? = some x → (Value.slice x.a x.n x.c).ownBlock = some g → lv.ownBlock ≠ some g
theorem RowsS.nil (T : Tbl) (W : World) : RowsS T W W (.slice none 0 0) [] := ⟨Ext.refl _, World.ownsRow_nil _ _ _ _, fun j x h => (by simp at h), fun j x g h => (by simp at h)⟩
theorem RowsS.more {T : Tbl} {W wr w' : World} {lv : Value} {l : List RowE} (h : RowsS T W wr lv l) (hx : Ext wr w') : RowsS T W w' lv l :=
  ⟨h.ext.trans hx, own_ext hx h.row, fun j x hj => { h.each j x hj with own := own_ext hx (h.each j x hj).own }, h.apart⟩
theorem RowsS.push {T : Tbl} {W wr w2 w3 w4 : World} {lv lv' : Value} {l : List RowE} {x : RowE} (h : RowsS T W wr lv l) (hx : Ext wr w2) (hr : RowOk T w2 wr.heap.size x l.length) (hx2 : Ext w2 w3)
    (hown : w4.ownsRow W.heap.size 125 3 lv' (l.length + 1) (rsV l ++ reV x)) (hg : w3.grownBy w4 lv.ownBlock) (hat : lv'.ownBlock = lv.ownBlock ∨ lv'.ownBlock = some w3.heap.size) :
    RowsS T W w4 lv' (l ++ [x]) := by
  have s1 := h.ext.size
  have s2 := hx.size
  have s3 := hx2.size
  have hsplit : ∀ (j : Nat) (y : RowE), (l ++ [x])[j]? = some y → (l[j]? = some y) ∨ (j = l.length ∧ y = x) := fun j y hj => by
    rw [List.getElem?_append] at hj
    split at hj
    · exact .inl hj
    · rename_i hlt
      have h3 := (List.getElem?_eq_some_iff.1 hj).1
      simp at h3
      have e : j = l.length := by omega
      subst e
      simp at hj
      exact .inr ⟨rfl, hj.symm⟩
  refine ⟨Below.grown (h.ext.trans (hx.trans hx2)) hg (h.ext.trans (hx.trans hx2)).size (fun g e => (h.row.lt g e).1), by rw [List.length_append, rsV_snoc]; exact hown, fun j y hj => ?_, fun j y g hj hb => ?_⟩
  · rcases hsplit j y hj with hj | ⟨rfl, rfl⟩
    · have hk := h.each j y hj
      refine { hk with own := (own_ext (hx.trans hx2) hk.own).kept hg ?_ }
      cases hb : (Value.slice y.a y.n y.c).ownBlock with
      | none => exact .inl rfl
      | some g =>
        right
        intro e
        exact h.apart j y g hj hb e.symm
    · refine { hr with own := (own_base (own_ext hx2 hr.own) (by omega)).kept hg ?_ }
      cases hb : (Value.slice y.a y.n y.c).ownBlock with
      | none => exact .inl rfl
      | some g =>
        right
        intro e
        have h1 := (hr.own.lt g hb).1
        have h2 := (h.row.lt g e.symm).2
        omega
  · rcases hsplit j y hj with hj | ⟨rfl, rfl⟩
    · rcases hat with e | e
      · rw [e]; exact h.apart j y g hj hb
      · rw [e]
        have := ((h.each j y hj).own.lt g hb).2
        intro e2
        obtain rfl : w3.heap.size = g := by simpa using e2
        omega
    · have h1 := hr.own.lt g hb
      rcases hat with e | e
      · rw [e]
        intro e2
        have := (h.row.lt g e2).2
        omega
      · rw [e]
        intro e2
        obtain rfl : w3.heap.size = g := by simpa using e2
        omega

/-- a row of the sorted list can still be read -/
structure RowIn (T : Tbl) (w : World) (n : Nat) (x : RowE) (s : Nat) : Prop where
  st : x.s = (s : Int)
  lt : s < n
  lo : -1 ≤ x.d
  hi : x.d < s
  len : x.n = (CB.liveL T s x.d).length
  read : Ints w (.slice x.a x.n x.c) (nI (CB.liveL T s x.d))

/-- the sorted list: each state once -/
structure Sorted (T : Tbl) (w : World) (g n : Nat) (l : List RowE) : Prop where
  len : l.length = n
  elts : Elts w g l
  row : ∀ (i : Nat) (x : RowE), l[i]? = some x → RowIn T w n x x.s.toNat
  all : ∀ s, s < n → ∃ (i : Nat) (x : RowE), l[i]? = some x ∧ x.s = (s : Int)
  once : ∀ (i j : Nat) (x y : RowE), l[i]? = some x → l[j]? = some y → x.s = y.s → i = j

theorem RowsS.sorted {T : Tbl} {W wr w' : World} {g n cap : Nat} {l : List RowE} (h : RowsS T W wr (.slice (some ⟨g, 0, none⟩) n cap) l) (hn : l.length = n) (hc : T.count ≤ 256) (hp : Perm3 wr g l w') : ∃ l', Sorted T w' g n l' ∧ Ext W w' := by
  obtain ⟨⟨l', hperm, he⟩, hF⟩ := hp
  have hmap : (l.map (·.s)) = (List.range n).map (fun (i : Nat) => (i : Int)) := by
    refine List.ext_getElem? fun i => ?_
    rw [List.getElem?_map, List.getElem?_map]
    by_cases hi : i < n
    · rw [List.getElem?_range hi, List.getElem?_eq_getElem (by omega : i < l.length)]
      exact congrArg some (h.each i _ (List.getElem?_eq_getElem (by omega))).s
    · rw [List.getElem?_eq_none (by omega), List.getElem?_eq_none (by simp; omega)]; rfl
  have hnd : (l'.map (·.s)).Nodup := by
    rw [(hperm.map (·.s)).nodup_iff, hmap]
    exact List.Pairwise.map _ (fun a b (h : a ≠ b) => fun e => h (by omega)) List.nodup_range
  have hge := fun g' (e : (Value.slice (some ⟨g, 0, none⟩) n cap).ownBlock = some g') => (h.row.lt g' e).1
  have hWg : W.heap.size ≤ g := hge g rfl
  have hlen : l'.length = n := by rw [hperm.length_eq]; exact hn
  refine ⟨l', ⟨hlen, he, fun i x hi => ?_, fun s hs => ?_, fun i j x y hi hj e => ?_⟩, hF.ext h.ext (fun k j (e : k = g) => by omega)⟩
  · obtain ⟨j, hj⟩ := List.getElem?_of_mem (hperm.mem_iff.1 (List.mem_of_getElem? hi))
    have hr := h.each j x hj
    have hjn := (List.getElem?_eq_some_iff.1 hj).1
    have e : x.s.toNat = j := by rw [hr.s]; simp
    rw [e]
    refine ⟨hr.s, by omega, hr.lo, hr.hi, hr.len, ?_⟩
    have ho := own_frm hF hr.own (fun g' j' hb (e : g' = g) => h.apart j x g' hj hb (by rw [e]; rfl))
    have h256 : x.n ≤ 140737488355328 := by
      rw [hr.len]
      have := CB.liveN_len T j x.d T.count.toNat
      unfold CB.liveL
      omega
    have := own_ints (k := .i64) (l := nI (CB.liveL T j x.d)) ho h256
    exact this
  · have hm : (s : Int) ∈ l'.map (·.s) := by
      rw [(hperm.map (·.s)).mem_iff, hmap]
      exact List.mem_map.2 ⟨s, List.mem_range.2 hs, rfl⟩
    obtain ⟨x, hx, e⟩ := List.mem_map.1 hm
    obtain ⟨i, hi⟩ := List.getElem?_of_mem hx
    exact ⟨i, x, hi, e⟩
  · have hi' := (List.getElem?_eq_some_iff.1 hi)
    have hj' := (List.getElem?_eq_some_iff.1 hj)
    obtain ⟨h1, e1⟩ := hi'
    obtain ⟨h2, e2⟩ := hj'
    have hq := List.pairwise_iff_getElem.1 hnd
    rcases Nat.lt_trichotomy i j with hlt | rfl | hlt
    · exact absurd (by rw [List.getElem_map, List.getElem_map, e1, e2]; exact e) (hq i j (by simpa using h1) (by simpa using h2) hlt)
    · rfl
    · exact absurd (by rw [List.getElem_map, List.getElem_map, e1, e2]; exact e.symm) (hq j i (by simpa using h2) (by simpa using h1) hlt)
namespace CB
theorem Laid.congr {T : Tbl} {D D' : Nat → Prop} {C : Cmb} (h : Laid T D C) (e : ∀ s, D s ↔ D' s) : Laid T D' C := by
  have : D = D' := funext fun s => propext (e s)
  rw [← this]; exact h
end CB

/- ---- three new blocks, in whatever order ---- -/
section
variable {w : World} {c : Array Value} {t : TypeId} {n : Nat} {f : Nat → Value}
theorem new_a (o1 o2 : Obj) (hn : c.size = n) (hc : ∀ i, i < n → c[i]? = some (f i)) : ((((w.alloc (.cells c t)).alloc o1).alloc o2).drew).rowIs w.heap.size t n f := by
  subst hn; exact ((World.rowIs_alloc w c t f hc).alloc o1).alloc o2
theorem new_b (o0 o2 : Obj) (hn : c.size = n) (hc : ∀ i, i < n → c[i]? = some (f i)) : ((((w.alloc o0).alloc (.cells c t)).alloc o2).drew).rowIs (w.heap.size + 1) t n f := by
  subst hn
  have h := (World.rowIs_alloc (w.alloc o0) c t f hc).alloc o2
  rw [World.size_alloc] at h; exact h
theorem new_c (o0 o1 : Obj) (hn : c.size = n) (hc : ∀ i, i < n → c[i]? = some (f i)) : ((((w.alloc o0).alloc o1).alloc (.cells c t)).drew).rowIs (w.heap.size + 1 + 1) t n f := by
  subst hn
  have h := World.rowIs_alloc ((w.alloc o0).alloc o1) c t f hc
  rw [World.size_alloc, World.size_alloc] at h; exact h
end
theorem zeros_get (n i : Nat) : (List.replicate n (0 : Int)).getD i 0 = 0 := by
  rw [List.getD_eq_getElem?_getD, List.getElem?_replicate]
  split <;> rfl
theorem CombS.made {W0 Wx : World} {gb gd cb n : Nat} (hx : Ext W0 Wx) (hc : Wx.rowIs cb 40 4 (cF (.slice (some ⟨gb, 0, none⟩) n n) (.slice (some ⟨gd, 0, none⟩) n n) (.slice none 0 0) (.slice none 0 0)))
    (hb : Wx.rowIs gb 3 n (fun _ => .int .i64 0)) (hd : Wx.rowIs gd 3 n (fun _ => .int .i64 0)) (h1 : gb ≠ gd) (h2 : gb ≠ cb) (h3 : gd ≠ cb) (l1 : W0.heap.size ≤ gb) (l2 : W0.heap.size ≤ gd) (l3 : W0.heap.size ≤ cb) :
    CombS W0 Wx (fun g => if g = cb then 0 else if g = gb then 1 else 2) cb gb gd n (.slice none 0 0) (.slice none 0 0) ⟨List.replicate n 0, List.replicate n 0, [], []⟩ :=
  ⟨hx, ⟨hc, if_pos rfl, l3⟩, ⟨hb.congr fun i _ => by show _ = Value.int .i64 ((List.replicate n (0 : Int)).getD i 0); rw [zeros_get], by rw [if_neg h2, if_pos rfl], l1⟩,
    ⟨hd.congr fun i _ => by show _ = Value.int .i64 ((List.replicate n (0 : Int)).getD i 0); rw [zeros_get], by rw [if_neg h3, if_neg (Ne.symm h1)], l2⟩, .nil .., .nil .., by simp, by simp⟩
end Go.Proofs.YtpeipjfmibjoiaaDoor
