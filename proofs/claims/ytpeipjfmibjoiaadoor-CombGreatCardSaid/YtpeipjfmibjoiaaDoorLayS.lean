/- A comb that is being made, in blocks by tags; slots that are put into it. No function of the program in sight. -/
import Derived.Test.YtpeipjfmibjoiaaDoorBldS
import Derived.Test.YtpeipjfmibjoiaaDoorBest
namespace Go.Proofs.YtpeipjfmibjoiaaDoor
open Go.RowKit

def cF (bv dv nv cv : Value) (i : Nat) : Value := if i = 0 then bv else if i = 1 then dv else if i = 2 then nv else cv
theorem cF_at {bv dv nv cv : Value} {i : Nat} (h : i < 4) : #[bv, dv, nv, cv][i]? = some (cF bv dv nv cv i) := by
  match i, h with
  | 0, _ => rfl
  | 1, _ => rfl
  | 2, _ => rfl
  | 3, _ => rfl

section
variable {w wr w' w2 w4 : World} {own own' : Nat → Nat}
theorem Lst.set {k B g n cap : Nat} {e : TypeId} {xs : List Value} (h : Lst k w own B e (.slice (some ⟨g, 0, none⟩) n cap) xs) (i : Nat) (u : Value) :
    Lst k (w.setCell ⟨g, i, none⟩ u) own B e (.slice (some ⟨g, 0, none⟩) n cap) (xs.set i u) ∧ Keeps (· ≠ k) w own (w.setCell ⟨g, i, none⟩ u) own := by
  obtain ⟨a, c, hv, hn, _⟩ := own_read h.row
  simp only [Value.slice.injEq] at hv
  obtain ⟨-, rfl, -⟩ := hv
  have h1 := (h.row.stored i u).1
  refine ⟨⟨by rw [List.length_set]; exact h1, h.tag⟩, .setCell (h.tag g rfl) (by simp)⟩
theorem intsV_set (l : List Int) (i : Nat) (x : Int) : (intsV l).set i (.int .i64 x) = intsV (l.set i x) := by simp [intsV, List.map_set]
theorem intsV_push (l : List Int) (x : Int) : intsV (l ++ [x]) = intsV l ++ [.int .i64 x] := by simp [intsV]
theorem intsV_len (l : List Int) : (intsV l).length = l.length := by simp [intsV]
theorem intsV_get {l : List Int} {i : Nat} (h : i < l.length) : (intsV l)[i]? = some (.int .i64 (l.getD i 0)) := by
  unfold intsV; rw [List.getElem?_map, List.getD_eq_getElem?_getD, List.getElem?_eq_getElem h]; rfl

structure CombS (W0 wr : World) (own : Nat → Nat) (cb gb gd n : Nat) (nv cv : Value) (C : Cmb) : Prop where
  ext : Ext W0 wr
  box : Blk 0 wr own W0.heap.size cb 40 4 (cF (.slice (some ⟨gb, 0, none⟩) n n) (.slice (some ⟨gd, 0, none⟩) n n) nv cv)
  base : Blk 1 wr own W0.heap.size gb 3 n (fun i => .int .i64 (C.base.getD i 0))
  dflt : Blk 2 wr own W0.heap.size gd 3 n (fun i => .int .i64 (C.dflt.getD i 0))
  next : Lst 3 wr own W0.heap.size 3 nv (intsV C.next)
  check : Lst 4 wr own W0.heap.size 3 cv (intsV C.check)
  bl : C.base.length = n
  dl : C.dflt.length = n

variable {W0 : World} {cb gb gd n g cap : Nat} {nv cv v' : Value} {C : Cmb}
theorem CombS.more (h : CombS W0 wr own cb gb gd n nv cv C) (hx : Ext wr w') : CombS W0 w' own cb gb gd n nv cv C :=
  ⟨h.ext.trans hx, h.box.ext hx, h.base.ext hx, h.dflt.ext hx, h.next.ext hx, h.check.ext hx, h.bl, h.dl⟩
theorem CombS.pushC (h : CombS W0 wr own cb gb gd n nv cv C) (hx : Ext wr w2) {x : Int} (hown : w4.ownsRow W0.heap.size 3 1 v' (C.check.length + 1) (intsV C.check ++ [.int .i64 x])) (hg : w2.grownBy w4 cv.ownBlock) (hat : v'.ownBlock = cv.ownBlock ∨ v'.ownBlock = some w2.heap.size) :
    ∃ own', CombS W0 (w4.setCell ⟨cb, 3, none⟩ v') own' cb gb gd n nv v' { C with check := C.check ++ [x] } ∧ Keeps (5 ≤ ·) wr own (w4.setCell ⟨cb, 3, none⟩ v') own' := by
  obtain ⟨h1, h2, h3, h4⟩ := h.box.grow h.check (by omega) hx (by rw [intsV_len]; exact hown) hg hat 3
  refine ⟨_, ⟨h4 W0 h.ext (Nat.le_refl _), h1.congr fun i hi => ?_, h.base.keep h3 (by omega), h.dflt.keep h3 (by omega), h.next.keep h3 (by omega), by rw [intsV_push]; exact h2, h.bl, h.dl⟩, h3.mono fun k (hk : 5 ≤ k) => ⟨by omega, by omega⟩⟩
  match i, hi with
  | 0, _ => rfl
  | 1, _ => rfl
  | 2, _ => rfl
  | 3, _ => rfl
theorem CombS.pushN (h : CombS W0 wr own cb gb gd n nv cv C) (hx : Ext wr w2) {x : Int} (hown : w4.ownsRow W0.heap.size 3 1 v' (C.next.length + 1) (intsV C.next ++ [.int .i64 x])) (hg : w2.grownBy w4 nv.ownBlock) (hat : v'.ownBlock = nv.ownBlock ∨ v'.ownBlock = some w2.heap.size) :
    ∃ own', CombS W0 (w4.setCell ⟨cb, 2, none⟩ v') own' cb gb gd n v' cv { C with next := C.next ++ [x] } ∧ Keeps (5 ≤ ·) wr own (w4.setCell ⟨cb, 2, none⟩ v') own' := by
  obtain ⟨h1, h2, h3, h4⟩ := h.box.grow h.next (by omega) hx (by rw [intsV_len]; exact hown) hg hat 2
  refine ⟨_, ⟨h4 W0 h.ext (Nat.le_refl _), h1.congr fun i hi => ?_, h.base.keep h3 (by omega), h.dflt.keep h3 (by omega), by rw [intsV_push]; exact h2, h.check.keep h3 (by omega), h.bl, h.dl⟩, h3.mono fun k (hk : 5 ≤ k) => ⟨by omega, by omega⟩⟩
  match i, hi with
  | 0, _ => rfl
  | 1, _ => rfl
  | 2, _ => rfl
  | 3, _ => rfl
theorem Lst.set_ext {k B : Nat} {e : TypeId} {xs : List Value} {w0 : World} (h : Lst k w own B e (.slice (some ⟨g, 0, none⟩) n cap) xs) (h0 : Ext w0 w) (hB : w0.heap.size ≤ B) (i : Nat) (u : Value) : Ext w0 (w.setCell ⟨g, i, none⟩ u) :=
  Below.setCell h0 (Nat.le_trans hB (h.row.lt g rfl).1) _
theorem CombS.setC {m : Nat} (h : CombS W0 wr own cb gb gd n nv (.slice (some ⟨g, 0, none⟩) m cap) C) (i : Nat) (x : Int) :
    CombS W0 (wr.setCell ⟨g, i, none⟩ (.int .i64 x)) own cb gb gd n nv (.slice (some ⟨g, 0, none⟩) m cap) { C with check := C.check.set i x } ∧ Keeps (5 ≤ ·) wr own (wr.setCell ⟨g, i, none⟩ (.int .i64 x)) own := by
  obtain ⟨h1, h2⟩ := h.check.set i (.int .i64 x)
  exact ⟨⟨h.check.set_ext h.ext (Nat.le_refl _) i _, h.box.keep h2 (by omega), h.base.keep h2 (by omega), h.dflt.keep h2 (by omega), h.next.keep h2 (by omega), by rw [← intsV_set]; exact h1, h.bl, h.dl⟩, h2.mono fun k (hk : 5 ≤ k) => (by omega : k ≠ 4)⟩
theorem CombS.setN {m : Nat} (h : CombS W0 wr own cb gb gd n (.slice (some ⟨g, 0, none⟩) m cap) cv C) (i : Nat) (x : Int) :
    CombS W0 (wr.setCell ⟨g, i, none⟩ (.int .i64 x)) own cb gb gd n (.slice (some ⟨g, 0, none⟩) m cap) cv { C with next := C.next.set i x } ∧ Keeps (5 ≤ ·) wr own (wr.setCell ⟨g, i, none⟩ (.int .i64 x)) own := by
  obtain ⟨h1, h2⟩ := h.next.set i (.int .i64 x)
  exact ⟨⟨h.next.set_ext h.ext (Nat.le_refl _) i _, h.box.keep h2 (by omega), h.base.keep h2 (by omega), h.dflt.keep h2 (by omega), by rw [← intsV_set]; exact h1, h.check.keep h2 (by omega), h.bl, h.dl⟩, h2.mono fun k (hk : 5 ≤ k) => (by omega : k ≠ 3)⟩
theorem CombS.setB (h : CombS W0 wr own cb gb gd n nv cv C) {i : Nat} (hi : i < n) (x : Int) :
    CombS W0 (wr.setCell ⟨gb, i, none⟩ (.int .i64 x)) own cb gb gd n nv cv { C with base := C.base.set i x } := by
  obtain ⟨h1, h2⟩ := h.base.set i (.int .i64 x)
  refine ⟨h.base.set_ext h.ext (Nat.le_refl _) i _, h.box.keep h2 (by omega), h1.congr fun j hj => ?_, h.dflt.keep h2 (by omega), h.next.keep h2 (by omega), h.check.keep h2 (by omega), by rw [List.length_set]; exact h.bl, h.dl⟩
  show (if j = i then Value.int .i64 x else _) = .int .i64 ((C.base.set i x).getD j 0)
  by_cases e : j = i
  · subst e; rw [if_pos rfl, CB.getD_set_self (by rw [h.bl]; exact hi)]
  · rw [if_neg e, CB.getD_set_ne e]
theorem CombS.setD (h : CombS W0 wr own cb gb gd n nv cv C) {i : Nat} (hi : i < n) (x : Int) :
    CombS W0 (wr.setCell ⟨gd, i, none⟩ (.int .i64 x)) own cb gb gd n nv cv { C with dflt := C.dflt.set i x } := by
  obtain ⟨h1, h2⟩ := h.dflt.set i (.int .i64 x)
  refine ⟨h.dflt.set_ext h.ext (Nat.le_refl _) i _, h.box.keep h2 (by omega), h.base.keep h2 (by omega), h1.congr fun j hj => ?_, h.next.keep h2 (by omega), h.check.keep h2 (by omega), h.bl, by rw [List.length_set]; exact h.dl⟩
  show (if j = i then Value.int .i64 x else _) = .int .i64 ((C.dflt.set i x).getD j 0)
  by_cases e : j = i
  · subst e; rw [if_pos rfl, CB.getD_set_self (by rw [h.dl]; exact hi)]
  · rw [if_neg e, CB.getD_set_ne e]
theorem CombS.tags (h : CombS W0 wr own cb gb gd n nv cv C) (hk : Keeps (· ≤ 4) wr own w' own') (hx : Ext wr w') : CombS W0 w' own' cb gb gd n nv cv C :=
  ⟨h.ext.trans hx, h.box.keep hk (by omega), h.base.keep hk (by omega), h.dflt.keep hk (by omega), h.next.keep hk (by omega), h.check.keep hk (by omega), h.bl, h.dl⟩

/-- .. while a row is laid: the boxes of lay's parameters -/
structure LayW (W0 wr : World) (own : Nat → Nat) (cb gb gd n : Nat) (nv cv : Value) (C : Cmb) (tb : Nat) (ft : Nat → Value) (xb : Nat) (fx : Nat → Value) : Prop where
  comb : CombS W0 wr own cb gb gd n nv cv C
  tbox : Blk 5 wr own W0.heap.size tb 37 5 ft
  xbox : Blk 6 wr own W0.heap.size xb 125 3 fx
theorem LayW.of {tb xb : Nat} {ft fx : Nat → Value} {nv' cv' : Value} {C' : Cmb} (h : LayW W0 wr own cb gb gd n nv cv C tb ft xb fx) (hc : CombS W0 w' own' cb gb gd n nv' cv' C' ∧ Keeps (5 ≤ ·) wr own w' own') : LayW W0 w' own' cb gb gd n nv' cv' C' tb ft xb fx :=
  ⟨hc.1, h.tbox.keep hc.2 (by omega), h.xbox.keep hc.2 (by omega)⟩
theorem LayW.more {tb xb : Nat} {ft fx : Nat → Value} (h : LayW W0 wr own cb gb gd n nv cv C tb ft xb fx) (hx : Ext wr w') : LayW W0 w' own cb gb gd n nv cv C tb ft xb fx :=
  ⟨h.comb.more hx, h.tbox.ext hx, h.xbox.ext hx⟩
theorem LayW.begin {w : World} {tc xc : Array Value} {ft fx : Nat → Value} (h : CombS W0 w own cb gb gd n nv cv C) (ht : tc.size = 5) (hft : ∀ i, i < 5 → tc[i]? = some (ft i)) (hx : xc.size = 3) (hfx : ∀ i, i < 3 → xc[i]? = some (fx i)) :
    ∃ own', LayW W0 ((w.alloc (.cells tc 37)).alloc (.cells xc 125)) own' cb gb gd n nv cv C w.heap.size ft (w.heap.size + 1) fx := by
  have b5 := Blk.made w own 5 h.ext.size tc 37 ht ft hft
  have hx1 : Ext w (w.alloc (.cells tc 37)) := Ext.box _ _
  have hx2 : Ext (w.alloc (.cells tc 37)) ((w.alloc (.cells tc 37)).alloc (.cells xc 125)) := Ext.box _ _
  have b6 := Blk.made (w.alloc (.cells tc 37)) (newTag w own 5) 6 (B := W0.heap.size) (by have := h.ext.size; simp; omega) xc 125 hx fx hfx
  have e : (w.alloc (.cells tc 37)).heap.size = w.heap.size + 1 := by simp
  refine ⟨newTag (w.alloc (.cells tc 37)) (newTag w own 5) 6, (h.tags (.new hx1 5) hx1).tags (.new hx2 6) hx2, b5.keep (S := fun _ => True) (.new hx2 6) trivial, ?_⟩
  rw [← e]; exact b6
/-- what can be read of the whole -/
theorem CombS.read (h : CombS W0 wr own cb gb gd n nv cv C) (hb : ∀ g, W0.heap.size ≤ g → w'.heap[g]? = wr.heap[g]?) (hn : n ≤ 600) (h1 : C.next.length ≤ 140737488355328) (h2 : C.check.length ≤ 140737488355328) :
    CmbV w' (.agg #[.slice (some ⟨gb, 0, none⟩) n n, .slice (some ⟨gd, 0, none⟩) n n, nv, cv]) C := by
  have far : ∀ {k : Nat} {v : Value} {xs : List Value}, Lst k wr own W0.heap.size 3 v xs → Lst k w' own W0.heap.size 3 v xs := fun hl =>
    ⟨own_block hl.row fun g hg _ => hb g (hl.row.lt g hg).1, hl.tag⟩
  refine ⟨_, _, _, _, rfl, ?_, ?_, (far h.next).ints h1, (far h.check).ints h2⟩
  · exact rowIs_ints (h.base.row.of_block (hb _ h.base.low)) h.bl (by omega) n (Nat.le_refl _)
  · exact rowIs_ints (h.dflt.row.of_block (hb _ h.dflt.low)) h.dl (by omega) n (Nat.le_refl _)
end

namespace CB
/-- a slot is put in: marks are put behind till there is room for it -/
theorem Put.step {l l1 l2 : List Int} {L : List Nat} {b k q : Nat} {x : Nat → Int} (h : Put l l1 L b x) (hq : (q = 0 ∧ b + k < l1.length) ∨ l1.length + q = b + k + 1) (h2 : l2 = (l1 ++ List.replicate q (-1)).set (b + k) (x k)) :
    Put l l2 (L ++ [k]) b x := by
  have hlen : l2.length = l1.length + q := by rw [h2, List.length_set, List.length_append, List.length_replicate]
  have hm := h.more
  have hbk : b + k < l1.length + q := by omega
  have hself : l2.getD (b + k) 0 = x k := by rw [h2, getD_set_self (by rw [List.length_append, List.length_replicate]; exact hbk)]
  have hne : ∀ i, i ≠ b + k → l2.getD i 0 = (l1 ++ List.replicate q (-1)).getD i 0 := fun i hi => by rw [h2, getD_set_ne hi]
  have hlo : ∀ i, i ≠ b + k → i < l1.length → l2.getD i 0 = l1.getD i 0 := fun i hi hl => by
    rw [hne i hi, List.getD_eq_getElem?_getD, List.getElem?_append_left hl, ← List.getD_eq_getElem?_getD]
  refine ⟨by omega, ?_, ?_, ?_, ?_, ?_⟩
  · intro j hj
    rcases List.mem_append.1 hj with hj | hj
    · have := h.all j hj; omega
    · obtain rfl := List.mem_singleton.1 hj; omega
  · rcases hq with ⟨rfl, _⟩ | e
    · rcases h.len with e | ⟨j, hj, e⟩
      · exact .inl (by omega)
      · exact .inr ⟨j, List.mem_append_left _ hj, by omega⟩
    · exact .inr ⟨k, by simp, by omega⟩
  · intro j hj
    by_cases e : j = k
    · subst e; exact hself
    · rcases List.mem_append.1 hj with hj | hj
      · rw [hlo (b + j) (by omega) (h.all j hj)]; exact h.new j hj
      · exact absurd (List.mem_singleton.1 hj) e
  · intro i hi hno
    have h1 := hno k (by simp)
    rw [hlo i h1 (by omega)]
    exact h.old i hi fun j hj => hno j (List.mem_append_left _ hj)
  · intro i hi hl hno
    have h1 := hno k (by simp)
    by_cases hi1 : i < l1.length
    · rw [hlo i h1 hi1]
      exact h.gap i hi hi1 fun j hj => hno j (List.mem_append_left _ hj)
    · rw [hne i h1, List.getD_eq_getElem?_getD, List.getElem?_append_right (by omega), List.getElem?_replicate, if_pos (by omega)]; rfl
theorem Put.len_le {l l' : List Int} {L : List Nat} {b : Nat} {x : Nat → Int} (h : Put l l' L b x) {K : Nat} (hL : ∀ k ∈ L, k < K) : l'.length ≤ max l.length (b + K) := by
  rcases h.len with e | ⟨k, hk, e⟩
  · omega
  · have := hL k hk; omega
end CB
end Go.Proofs.YtpeipjfmibjoiaaDoor
