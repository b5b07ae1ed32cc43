/- Memory of a call's own: rows of ints, slices of rows, copies. No function of the program in sight. -/
import Derived.Test.YtihginaanlcilaaDoorRows
import Derived.Test.YtihginaanlcilaaDoorMem
import Derived.Test.YtihginaanlcilaaDoorDn
import Derived.Laws.AppendOwnNone
import Derived.Maps.AppendAt
namespace Go.Proofs.YtihginaanlcilaaDoor
open Go.RowKit

def bytesV (l : List Nat) : List Value := l.map fun (b : Nat) => Value.int .u8 (b : Int)

/-- the length of the word at place k, and its place among those of that length -/
noncomputable def Dn.nthLen (d : Dn) (label : Int) (k : Nat) : Nat × Nat := CM.pick (fun n => d.ways label n 0) 65 0 k
noncomputable def Dn.nth (d : Dn) (label : Int) (n s k : Nat) : List Nat := CM.nthB d.nx (fun t => d.lb t == label) n s k

theorem byte_info : (Tryd.prog.info? 5).map (fun i => (i.zero, i.size, i.bytes)) = some (some (.int .u8 0), 1, 1) := by kernel_rfl

theorem int_info : (Tryd.prog.info? 3).map (fun i => (i.zero, i.size, i.bytes)) = some (some (.int .i64 0), 1, 8) := by kernel_rfl

theorem rowIs_ints {w : World} {b : Nat} {t : TypeId} {n : Nat} {l : List Int} (h : w.rowIs b t n (fun i => .int .i64 (l.getD i 0))) (hl : l.length = n) (hn : n ≤ 140737488355328) (cap : Nat) (hcap : n ≤ cap) : Ints w (.slice (some ⟨b, 0, none⟩) n cap) l := by
  subst hl
  refine ⟨hn, _, cap, rfl, ⟨hcap, fun h => by cases h⟩, fun _ => ⟨b, 0, rfl, fun i x hx => ?_⟩⟩
  have hi := (List.getElem?_eq_some_iff.1 hx).1
  have := h.cell hi
  rw [List.getD_eq_getElem?_getD, hx] at this
  rw [Nat.mul_one, Nat.zero_add]
  exact this

theorem rowIs_ext {w w' : World} (hx : Ext w w') {b : Nat} {t : TypeId} {n : Nat} {f : Nat → Value} (h : w.rowIs b t n f) : w'.rowIs b t n f := h.of_block (hx.block b h.lt)

/-- a slice of slices of ints, out of a block of headers -/
theorem rowIs_rows {w : World} {b : Nat} {t : TypeId} {n : Nat} {f : Nat → Value} {l : List (List Int)} (h : w.rowIs b t n f) (hl : l.length = n) (hn : n ≤ 140737488355328) (cap : Nat) (hcap : n ≤ cap)
    (hr : ∀ i, i < n → Ints w (f i) (l.getD i [])) : RowsV w (.slice (some ⟨b, 0, none⟩) n cap) l := by
  subst hl
  refine ⟨hn, _, cap, rfl, ⟨hcap, fun h => by cases h⟩, fun _ => ⟨b, 0, rfl, fun i x hx => ?_⟩⟩
  have hi := (List.getElem?_eq_some_iff.1 hx).1
  have := hr i hi
  rw [List.getD_eq_getElem?_getD, hx] at this
  rw [Nat.mul_one, Nat.zero_add]
  exact ⟨f i, h.cell hi, this⟩

/-- two blocks, newly laid -/
theorem two_new (w : World) (c1 c2 : Array Value) (t1 t2 : TypeId) {n1 n2 : Nat} {f1 f2 : Nat → Value} (h1 : ∀ i, i < n1 → c1[i]? = some (f1 i)) (h2 : ∀ i, i < n2 → c2[i]? = some (f2 i)) (hn1 : c1.size = n1) (hn2 : c2.size = n2) {s : Nat} (hs : w.heap.size = s) :
    ((w.alloc (.cells c1 t1)).alloc (.cells c2 t2)).rowIs s t1 n1 f1 ∧ ((w.alloc (.cells c1 t1)).alloc (.cells c2 t2)).rowIs (s + 1) t2 n2 f2 := by
  subst hn1; subst hn2; subst hs
  refine ⟨(World.rowIs_alloc w c1 t1 f1 h1).alloc _, ?_⟩
  have := World.rowIs_alloc (w.alloc (.cells c1 t1)) c2 t2 f2 h2
  rw [World.size_alloc] at this
  exact this

theorem news_ints {k : IntKind} {w : World} {b o : Nat} {l : List Int} (h : ∀ i, i < l.length → w.cell? ⟨b, o + i, none⟩ = some (.int k (l.getD i 0))) : ∀ j u, (l.map (Value.int k))[j]? = some u → w.cell? ((⟨b, o, none⟩ : Addr).add j) = some u := by
  intro j u hj
  rw [List.getElem?_map, Option.map_eq_some_iff] at hj
  obtain ⟨x, hx, rfl⟩ := hj
  have hi := (List.getElem?_eq_some_iff.1 hx).1
  have := h j hi
  rw [List.getD_eq_getElem?_getD, hx] at this
  unfold Addr.add
  by_cases e : j = 0
  · subst e; rw [if_pos rfl]; exact this
  · rw [if_neg e]; exact this
theorem one_ints (k : IntKind) (l : List Int) : ∀ u ∈ l.map (Value.int k), u.oneCell' = true := by
  intro u hu
  obtain ⟨x, _, rfl⟩ := List.mem_map.1 hu
  rfl

def Copied (E : TypeId) (k : IntKind) (l : List Int) (w : World) (e : Ending) (w' : World) : Prop :=
  ∃ v, e = .returned v ∧ w'.ownsRow w.heap.size E 1 v l.length (l.map (Value.int k)) ∧ Ext w w'

abbrev intsV (l : List Int) : List Value := l.map (Value.int .i64)

/-- rows that the call itself made: own tells of each block whose it is: 0 the headers, i + 1 row i -/
structure Rows2 (w : World) (B : Nat) (own : Nat → Nat) (v : Value) (hs : List Value) (rows : List (List Int)) : Prop where
  top : w.ownsRow B 23 1 v rows.length hs
  topOwn : ∀ g, v.ownBlock = some g → own g = 0
  row : ∀ (i : Nat) (h : Value) (l : List Int), hs[i]? = some h → rows[i]? = some l → w.ownsRow B 3 1 h l.length (intsV l) ∧ ∀ g, h.ownBlock = some g → own g = i + 1

theorem Rows2.nil (w : World) (B : Nat) (own : Nat → Nat) : Rows2 w B own (.slice none 0 0) [] [] :=
  ⟨World.ownsRow_nil _ _ _ _, fun g h => (by cases h), fun i h l hi => (by cases hi)⟩

theorem Rows2.hlen {w : World} {B : Nat} {own : Nat → Nat} {v : Value} {hs : List Value} {rows : List (List Int)} (h : Rows2 w B own v hs rows) : hs.length = rows.length := by
  have := h.top.1; omega

theorem Rows2.ext {w w' : World} (hx : Ext w w') {B : Nat} {own : Nat → Nat} {v : Value} {hs : List Value} {rows : List (List Int)} (h : Rows2 w B own v hs rows) : Rows2 w' B own v hs rows :=
  ⟨own_ext hx h.top, h.topOwn, fun i hv l h1 h2 => ⟨own_ext hx (h.row i hv l h1 h2).1, (h.row i hv l h1 h2).2⟩⟩

theorem Rows2.base {w : World} {B B' : Nat} (hB : B' ≤ B) {own : Nat → Nat} {v : Value} {hs : List Value} {rows : List (List Int)} (h : Rows2 w B own v hs rows) : Rows2 w B' own v hs rows :=
  ⟨own_base h.top hB, h.topOwn, fun i hv l h1 h2 => ⟨own_base (h.row i hv l h1 h2).1 hB, (h.row i hv l h1 h2).2⟩⟩

theorem Rows2.snoc {wr w1 w2 W : World} {B : Nat} {own : Nat → Nat} {v v' h : Value} {hs : List Value} {rows : List (List Int)} {l : List Int} (hr : Rows2 wr B own v hs rows) (hx : Ext wr w1) (hx2 : Ext w1 w2) (hB : B ≤ wr.heap.size)
    (hn : w1.ownsRow wr.heap.size 3 1 h l.length (intsV l)) (hown : W.ownsRow B 23 1 v' (rows.length + 1) (hs ++ [h])) (hg : w2.grownBy W v.ownBlock) (hat : v'.ownBlock = v.ownBlock ∨ v'.ownBlock = some w2.heap.size) :
    ∃ own', Rows2 W B own' v' (hs ++ [h]) (rows ++ [l]) := by
  have hhl := hr.hlen
  have hs1 := hx.size
  have hs2 := hx2.size
  refine ⟨fun g => if g < wr.heap.size then own g else if h.ownBlock = some g then rows.length + 1 else 0, by simpa using hown, fun g hg' => ?_, fun i hv l' h1 h2 => ?_⟩
  · rcases hat with ha | ha
    · rw [ha] at hg'
      have := (hr.top.lt g hg').2
      show (if g < wr.heap.size then own g else _) = 0
      rw [if_pos this]
      exact hr.topOwn g hg'
    · rw [ha] at hg'
      obtain rfl : w2.heap.size = g := by simpa using hg'
      show (if w2.heap.size < wr.heap.size then own w2.heap.size else if h.ownBlock = some w2.heap.size then rows.length + 1 else 0) = 0
      rw [if_neg (by omega), if_neg]
      intro e
      have := (hn.lt _ e).2
      omega
  · rw [List.getElem?_append] at h1 h2
    split at h1
    · rename_i hi
      rw [if_pos (by omega)] at h2
      obtain ⟨q1, q2⟩ := hr.row i hv l' h1 h2
      refine ⟨(own_ext (hx.trans hx2) q1).kept hg ?_, fun g hg' => ?_⟩
      · cases hb : hv.ownBlock with
        | none => exact .inl rfl
        | some g =>
          right
          intro e
          have e1 := q2 g hb
          have e2 := hr.topOwn g e.symm
          omega
      · have := (q1.lt g hg').2
        show (if g < wr.heap.size then own g else _) = i + 1
        rw [if_pos this]
        exact q2 g hg'
    · rename_i hi
      rw [if_neg (by omega)] at h2
      have h3 := (List.getElem?_eq_some_iff.1 h1).1
      have h4 := (List.getElem?_eq_some_iff.1 h2).1
      simp at h3 h4
      have e : i = rows.length := by omega
      subst e
      rw [show rows.length - hs.length = 0 from by omega] at h1
      rw [Nat.sub_self] at h2
      simp at h1 h2
      subst h1; subst h2
      refine ⟨(own_base (own_ext hx2 hn) hB).kept hg ?_, fun g hg' => ?_⟩
      · cases hb : h.ownBlock with
        | none => exact .inl rfl
        | some g =>
          right
          intro e
          have e1 := (hn.lt g hb).1
          have e2 := (hr.top.lt g e.symm).2
          omega
      · have := (hn.lt g hg').1
        show (if g < wr.heap.size then own g else if h.ownBlock = some g then rows.length + 1 else 0) = rows.length + 1
        rw [if_neg (by omega), if_pos hg']

theorem Rows2.read {w : World} {B : Nat} {own : Nat → Nat} {v : Value} {hs : List Value} {rows : List (List Int)} (h : Rows2 w B own v hs rows) (hn : rows.length ≤ 140737488355328) (hl : ∀ l ∈ rows, l.length ≤ 140737488355328) : RowsV w v rows := by
  have hhl := h.hlen
  obtain ⟨a, cap, rfl, _, hc, h2⟩ := own_read h.top
  refine ⟨hn, a, cap, rfl, hc, fun h0 => ?_⟩
  obtain ⟨g, rfl, _, h3⟩ := h2 h0
  refine ⟨g, 0, rfl, fun i l hi => ?_⟩
  have hlt := (List.getElem?_eq_some_iff.1 hi).1
  have hi2 : hs[i]? = some (hs[i]'(by omega)) := List.getElem?_eq_getElem _
  have h4 := h3 i hlt
  rw [hi2] at h4
  rw [Nat.mul_one, Nat.zero_add]
  exact ⟨_, h4, own_ints (h.row i _ l hi2 hi).1 (hl l (List.mem_of_getElem? hi))⟩

theorem slice_info : (Tryd.prog.info? 23).map (fun i => (i.zero, i.size, i.bytes)) = some (some (.slice none 0 0), 1, 24) := by kernel_rfl

def CopiedRows (la : List (List Int)) (w : World) (e : Ending) (w' : World) : Prop :=
  ∃ v own hs, e = .returned v ∧ Rows2 w' w.heap.size own v hs la ∧ Ext w w'

theorem take_snoc' {α : Type} {l : List α} {k : Nat} {x : α} (h : l[k]? = some x) : l.take (k + 1) = l.take k ++ [x] := by
  rw [List.take_add_one, h]; rfl

theorem own_slc {w : World} {B : Nat} {e : TypeId} {size : Nat} {v : Value} {n : Nat} {xs : List Value} (h : w.ownsRow B e size v n xs) (hn : 0 < n) : ∃ g cap, v = .slice (some ⟨g, 0, none⟩) n cap ∧ B ≤ g ∧ g < w.heap.size := by
  have hlt := h.lt
  obtain ⟨_, h2⟩ := h
  rcases h2 with ⟨_, rfl⟩ | ⟨g, cap, cur, hv, hg, _⟩
  · omega
  · exact ⟨g, cap, hv, hg, (hlt g (by rw [hv]; rfl)).2⟩
theorem own_caps {w : World} {B : Nat} {e : TypeId} {size : Nat} {a : Option Addr} {n m cap : Nat} {xs : List Value} (h : w.ownsRow B e size (.slice a n cap) m xs) : m ≤ cap := by
  obtain ⟨_, h2⟩ := h
  rcases h2 with ⟨hv, rfl⟩ | ⟨g, c, cur, hv, _, _, hc, _⟩
  · omega
  · simp only [Value.slice.injEq] at hv
    omega

/-- an automaton in memory of its own: the labels\' block bears the tag n + 1 -/
structure OwnDense (w : World) (B : Nat) (own : Nat → Nat) (vn vl : Value) (hs : List Value) (rows : List (List Int)) (label : List Int) : Prop where
  tab : Rows2 w B own vn hs rows
  label : w.ownsRow B 3 1 vl label.length (intsV label)
  labelOwn : ∀ g, vl.ownBlock = some g → own g = rows.length + 1

theorem OwnDense.of {w w' : World} {B : Nat} {own : Nat → Nat} {vn vl : Value} {hs : List Value} {rows : List (List Int)} {label : List Int} (hr : Rows2 w B own vn hs rows) (hx : Ext w w') (hB : B ≤ w.heap.size)
    (hl : w'.ownsRow w.heap.size 3 1 vl label.length (intsV label)) : ∃ own', OwnDense w' B own' vn vl hs rows label := by
  refine ⟨fun g => if g < w.heap.size then own g else rows.length + 1, ⟨own_ext hx hr.top, fun g hg => ?_, fun i h l h1 h2 => ?_⟩, own_base hl hB, fun g hg => ?_⟩
  · show (if g < w.heap.size then own g else _) = 0
    rw [if_pos (hr.top.lt g hg).2]; exact hr.topOwn g hg
  · obtain ⟨q1, q2⟩ := hr.row i h l h1 h2
    refine ⟨own_ext hx q1, fun g hg => ?_⟩
    show (if g < w.heap.size then own g else _) = i + 1
    rw [if_pos (q1.lt g hg).2]; exact q2 g hg
  · show (if g < w.heap.size then own g else _) = rows.length + 1
    have := (hl.lt g hg).1
    rw [if_neg (by omega)]

theorem OwnDense.ext {w w' : World} (hx : Ext w w') {B : Nat} {own : Nat → Nat} {vn vl : Value} {hs : List Value} {rows : List (List Int)} {label : List Int} (h : OwnDense w B own vn vl hs rows label) : OwnDense w' B own vn vl hs rows label :=
  ⟨h.tab.ext hx, own_ext hx h.label, h.labelOwn⟩

theorem OwnDense.block {w w' : World} {B : Nat} {own : Nat → Nat} {vn vl : Value} {hs : List Value} {rows : List (List Int)} {label : List Int} (h : OwnDense w B own vn vl hs rows label) (hb : ∀ g, B ≤ g → g < w.heap.size → w'.heap[g]? = w.heap[g]?) : OwnDense w' B own vn vl hs rows label :=
  ⟨⟨own_block h.tab.top fun g hg hl => hb g (h.tab.top.lt g hg).1 hl, h.tab.topOwn, fun i hv l h1 h2 => ⟨own_block (h.tab.row i hv l h1 h2).1 fun g hg hl => hb g ((h.tab.row i hv l h1 h2).1.lt g hg).1 hl, (h.tab.row i hv l h1 h2).2⟩⟩,
    own_block h.label fun g hg hl => hb g (h.label.lt g hg).1 hl, h.labelOwn⟩
theorem OwnDense.base {w : World} {B B' : Nat} (hB : B' ≤ B) {own : Nat → Nat} {vn vl : Value} {hs : List Value} {rows : List (List Int)} {label : List Int} (h : OwnDense w B own vn vl hs rows label) : OwnDense w B' own vn vl hs rows label :=
  ⟨h.tab.base hB, own_base h.label hB, h.labelOwn⟩

def CopiedDense (d : Dn) (w : World) (e : Ending) (w' : World) : Prop :=
  ∃ vn vl own hs, e = .returned (.agg #[vn, vl]) ∧ OwnDense w' w.heap.size own vn vl hs d.next d.label ∧ Ext w w'

/-- an automaton that can be read fits these bounds -/
structure Reach (d : Dn) : Prop where
  next : d.next.length * 24 ≤ 140737488355328
  rows : ∀ l ∈ d.next, l.length * 8 ≤ 140737488355328
  label : d.label.length * 8 ≤ 140737488355328

theorem May.reach {d : Dn} (h : May d) : Reach d where
  next := by have := h.most; omega
  rows := fun l hl => by
    obtain ⟨i, hi⟩ := List.getElem?_of_mem hl
    have h1 := (List.getElem?_eq_some_iff.1 hi).1
    have h2 := h.row i h1
    rw [List.getD_eq_getElem?_getD, hi] at h2
    simp only [Option.getD_some] at h2
    omega
  label := by have := h.most; rw [h.labels]; omega

end Go.Proofs.YtihginaanlcilaaDoor
