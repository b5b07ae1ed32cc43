/- bolterref0.EqDenses of two equal lists; bolterref0.CopyDenses. -/
import Derived.Test.YtloooajippcdlaaDoorOwn
import Derived.Test.YtloooajippcdlaaDoorDenses
import Derived.Test.YtloooajippcdlaaDoorEqDense
import Derived.Test.YtloooajippcdlaaDoorCopyRows
import Derived.Test.YtloooajippcdlaaDoorGrow
import Derived.BigRegion
import Derived.Deep.AppendLies
namespace Go.Proofs.YtloooajippcdlaaDoor
open Go.RowKit

theorem dense_infoN : (Tryd.prog.info? 25).map (fun i => (i.zero, i.size, i.bytes)) = some (some (.agg #[.slice none 0 0, .slice none 0 0]), 2, 48) := by kernel_rfl

/-- an automaton that no change outside of Z can touch -/
def DenIn (Z : Nat → Prop) (w : World) (v : Value) (d : Dn) : Prop := ∀ w' : World, (∀ g, g < w.heap.size → Z g → w'.heap[g]? = w.heap[g]?) → DenseV w' v d
theorem DenIn.dense {Z : Nat → Prop} {w : World} {v : Value} {d : Dn} (h : DenIn Z w v d) : DenseV w v d := h w fun _ _ _ => rfl
theorem DenIn.mono {Z Z' : Nat → Prop} {w : World} {v : Value} {d : Dn} (h : DenIn Z w v d) (hZ : ∀ g, g < w.heap.size → Z g → Z' g) : DenIn Z' w v d := fun w' hk => h w' fun g h1 h2 => hk g h1 (hZ g h1 h2)
theorem DenIn.kept {Z : Nat → Prop} {w w2 : World} {v : Value} {d : Dn} (h : DenIn Z w v d) (hs : w.heap.size ≤ w2.heap.size) (hk : ∀ g, g < w.heap.size → Z g → w2.heap[g]? = w.heap[g]?) : DenIn Z w2 v d :=
  fun w' hk' => h w' fun g h1 h2 => (hk' g (Nat.lt_of_lt_of_le h1 hs) h2).trans (hk g h1 h2)
theorem DenIn.ext {Z : Nat → Prop} {w w2 : World} {v : Value} {d : Dn} (h : DenIn Z w v d) (hx : Ext w w2) : DenIn Z w2 v d := h.kept hx.size fun g h1 _ => hx.block g h1
theorem copied_in {w : World} {B : Nat} {own : Nat → Nat} {vn vl : Value} {hs : List Value} {d : Dn} (h : OwnDense w B own vn vl hs d.next d.label) (hr : Reach d) : DenIn (fun g => B ≤ g) w (.agg #[vn, vl]) d := fun w' hk => by
  have h' := h.block (w' := w') fun g h1 h2 => hk g h2 h1
  exact ⟨vn, vl, rfl, h'.tab.read (by have := hr.next; omega) (fun l hl => by have := hr.rows l hl; omega), own_ints h'.label (by have := hr.label; omega)⟩

def prCells (hs : List (Value × Value)) : List Value := hs.flatMap fun p => [p.1, p.2]
theorem prCells_len (hs : List (Value × Value)) : (prCells hs).length = hs.length * 2 := by
  unfold prCells
  induction hs with
  | nil => rfl
  | cons q L ih => simp only [List.flatMap_cons, List.length_append, List.length_cons, List.length_nil, ih]; omega
theorem prCells_snoc (hs : List (Value × Value)) (p : Value × Value) : prCells (hs ++ [p]) = prCells hs ++ [p.1, p.2] := by simp [prCells]
theorem prCells_get {hs : List (Value × Value)} {j : Nat} {p : Value × Value} (h : hs[j]? = some p) : (prCells hs)[j * 2]? = some p.1 ∧ (prCells hs)[j * 2 + 1]? = some p.2 := by
  induction hs generalizing j with
  | nil => simp at h
  | cons q L ih =>
    cases j with
    | zero => simp at h; subst h; exact ⟨rfl, rfl⟩
    | succ j =>
      have h1 := ih (j := j) (by simpa using h)
      have e : prCells (q :: L) = q.1 :: q.2 :: prCells L := rfl
      rw [e, show (j + 1) * 2 = j * 2 + 1 + 1 by omega, show j * 2 + 1 + 1 + 1 = (j * 2 + 1) + 1 + 1 by omega]
      simpa using h1

/-- copies of the first i automata, in a row of the call's own -/
structure OwnDs (w wr : World) (fv : Value) (i : Nat) (hs : List (Value × Value)) (L : List Dn) : Prop where
  ext : Ext w wr
  row : wr.ownsRow w.heap.size 25 2 fv i (prCells hs)
  len : hs.length = i
  llen : L.length = i
  ds : ∀ (j : Nat) (p : Value × Value) (d : Dn), hs[j]? = some p → L[j]? = some d → DenIn (fun g => fv.ownBlock ≠ some g) wr (.agg #[p.1, p.2]) d

theorem OwnDs.nil (w : World) : OwnDs w w (.slice none 0 0) 0 [] [] :=
  ⟨Ext.refl _, World.ownsRow_nil _ _ _ _, rfl, rfl, fun j p l h => by simp at h⟩
theorem OwnDs.more {w wr w2 : World} {fv : Value} {i : Nat} {hs : List (Value × Value)} {L : List Dn} (h : OwnDs w wr fv i hs L) (hx : Ext wr w2) : OwnDs w w2 fv i hs L :=
  ⟨h.ext.trans hx, own_ext hx h.row, h.len, h.llen, fun j p l h1 h2 => (h.ds j p l h1 h2).ext hx⟩
theorem OwnDs.push {w wr w4 : World} {fv v' : Value} {i : Nat} {hs : List (Value × Value)} {L : List Dn} (h : OwnDs w wr fv i hs L) {vn vl : Value} {d : Dn}
    (hd : DenIn (fun g => fv.ownBlock ≠ some g) wr (.agg #[vn, vl]) d) (hown : w4.ownsRow w.heap.size 25 2 v' (i + 1) (prCells hs ++ [vn, vl])) (hg : wr.grownBy w4 fv.ownBlock) (hat : v'.ownBlock = fv.ownBlock ∨ v'.ownBlock = some wr.heap.size) :
    OwnDs w w4 v' (i + 1) (hs ++ [(vn, vl)]) (L ++ [d]) := by
  have hmove : ∀ (p : Value × Value) (l : Dn), DenIn (fun g => fv.ownBlock ≠ some g) wr (.agg #[p.1, p.2]) l → DenIn (fun g => v'.ownBlock ≠ some g) w4 (.agg #[p.1, p.2]) l := by
    intro p l hp
    rcases hat with e | e
    · rw [e]
      exact hp.kept hg.size fun g h1 h2 => hg.block g h1 (fun e => h2 e.symm)
    · intro w' hk
      refine hp w' fun g h1 h2 => ?_
      rw [hk g (Nat.lt_of_lt_of_le h1 hg.size) (by rw [e]; simp; omega), hg.block g h1 (fun e => h2 e.symm)]
  have hl1 := h.len
  have hl2 := h.llen
  refine ⟨Below.grown h.ext hg h.ext.size (fun g e => (h.row.lt g e).1), by rw [prCells_snoc]; exact hown, by simp [hl1], by simp [hl2], fun j p l' h1 h2 => ?_⟩
  rw [List.getElem?_append] at h1 h2
  by_cases e : j < i
  · rw [if_pos (by omega)] at h1 h2
    exact hmove p l' (h.ds j p l' h1 h2)
  · rw [if_neg (by omega)] at h1 h2
    have h3 := (List.getElem?_eq_some_iff.1 h1).1
    simp at h3
    have e2 : j = i := by omega
    subst e2
    rw [hl1, Nat.sub_self] at h1
    rw [hl2, Nat.sub_self] at h2
    simp at h1 h2
    subst h1; subst h2
    exact hmove (vn, vl) _ hd
theorem own_shpD {w : World} {B : Nat} {e : TypeId} {size n : Nat} {v : Value} {xs : List Value} (h : w.ownsRow B e size v n xs) : ∃ a cap, v = .slice a n cap := by
  rcases h.2 with ⟨h1, h2⟩ | ⟨g, cap, _, hv, _⟩
  · exact ⟨none, 0, by rw [h1, h2]⟩
  · exact ⟨_, cap, hv⟩
/-- what stands in the row can be read as a list of automata -/
theorem OwnDs.read {w wr : World} {fv : Value} {i : Nat} {hs : List (Value × Value)} {L : List Dn} (h : OwnDs w wr fv i hs L) (hi : i ≤ 140737488355328) : DensesV wr fv L := by
  have hl := h.llen
  have hr := h.row
  have hr2 := h.row
  obtain ⟨h1, h2⟩ := hr
  rcases h2 with ⟨rfl, h2⟩ | ⟨g, cap, cur, rfl, hg, hh, hn, hm, hs', hx⟩
  · obtain rfl : L = [] := by cases L with | nil => rfl | cons _ _ => simp at hl; omega
    exact ⟨by simp, none, 0, rfl, ⟨Nat.le_refl _, fun _ => rfl⟩, fun h => by simp at h⟩
  · subst hl
    refine ⟨hi, some ⟨g, 0, none⟩, cap, rfl, ⟨hn, fun h => by cases h⟩, fun _ => ⟨g, 0, rfl, fun j d hj => ?_⟩⟩
    have hlt := (List.getElem?_eq_some_iff.1 hj).1
    obtain ⟨p, hp⟩ : ∃ p, hs[j]? = some p := ⟨_, List.getElem?_eq_getElem (by rw [h.len]; exact hlt)⟩
    obtain ⟨q1, q2⟩ := prCells_get hp
    obtain ⟨vn, vl, hv, r1, r2⟩ := (h.ds j p d hp hj).dense
    simp only [Value.agg.injEq, Array.mk.injEq, List.cons.injEq, and_true] at hv
    obtain ⟨rfl, rfl⟩ := hv
    rw [Nat.zero_add]
    exact ⟨⟨_, (hr2.cellAt _ (by omega)).trans q1, r1⟩, ⟨_, (hr2.cellAt _ (by omega)).trans q2, r2⟩⟩
end Go.Proofs.YtloooajippcdlaaDoor

namespace Go.Proofs.YtloooajippcdlaaDoor
open Go.RowKit

theorem eqD_self (d : Dn) : eqD d d = true := by rw [eqD_and]; simp

set_option maxRecDepth 100000 in
set_option maxHeartbeats 1000000 in
theorem eqDenses_c {w : World} {va vb : Value} {L : List Dn} (ha : DensesV w va L) (hb : DensesV w vb L) :
    Calls Tryd.prog 24 #[va, vb] w fun e w' => e = .returned (.bool true) ∧ Ext w w' := by
  obtain ⟨h0, aa, ca, rfl, _, hao⟩ := ha.open
  obtain ⟨_, ab, cb, rfl, _, hbo⟩ := hb.open
  obtain ⟨N, hN⟩ : ∃ N, N = L.length := ⟨_, rfl⟩
  rw [← hN] at h0 hao hbo ⊢
  have hne : ((N : Int) != (N : Int)) = false := by simp
  have H := Lib.hid (And.intro hao (And.intro hbo hN))
  clear ha hb hao hbo hN
  go_enter Tryd.func24, Tryd.ntmps24
  go_wp2_with fail
  go_loopw [5] (fun iv wr => Ext w wr ∧ ∃ i : Nat, i ≤ N ∧ iv = .int .i64 i) (fun iv _ => N - (intOf iv).toNat)
  case atStart => exact ⟨Ext.refl _, 0, Nat.zero_le _, rfl⟩
  case round =>
    obtain ⟨hx, i, hi, rfl⟩ := hrel
    by_cases hlt : i < N
    · have hj1 : (i : Int) < N := by omega
      obtain ⟨b1, o1, rfl, h1⟩ := H.out.1 (by omega)
      obtain ⟨b2, o2, rfl, h2⟩ := H.out.2.1 (by omega)
      obtain ⟨d, hd⟩ : ∃ d, L[i]? = some d := ⟨_, List.getElem?_eq_getElem (by rw [← H.out.2.2]; exact hlt)⟩
      obtain ⟨an, cn, al, cl, c0, c1, hdv⟩ := h1 i d hd
      obtain ⟨bn, dn, bl, dl, e0, e1, hev⟩ := h2 i d hd
      have hcl := fun z => eqDense_b (r := true) (hdv.ext (hx.trans (grow_ext wr z))) (hev.ext (hx.trans (grow_ext wr z))) (eqD_self d)
      generalize d.next.length = n1 at *
      generalize d.label.length = n2 at *
      have y0 := fun z => (hx.trans (grow_ext wr z)).cell c0
      have y1 := fun z => (hx.trans (grow_ext wr z)).cell c1
      have x0 := fun z => (hx.trans (grow_ext wr z)).cell e0
      have x1 := fun z => (hx.trans (grow_ext wr z)).cell e1
      have HE := Lib.hid (And.intro hcl hx)
      clear hcl hx c0 c1 e0 e1 hdv hev h1 h2 hd
      go_wp2_with fail
      refine wp_region_grow (by kernel_rfl) (by kernel_rfl) ?_
      repeat (go_big_quiet_step ((go_at_call 16; with_reducible exact calls_grow (HE.out.1 _))))
      refine wpQuiet_nil ?_
      rintro _ ⟨z, rfl⟩
      have HX := Lib.hid (HE.out.2.trans (grow_ext wr z))
      clear y0 y1 x0 x1
      go_wp2
      go_roundw
      case rel => first | exact ⟨HX.out, i + 1, by omega, by go_num⟩ | ((repeat apply Exists.intro); exact ⟨⟨HX.out, i + 1, by omega, by go_num⟩, rfl⟩)
      case measure => simp [intOf]; omega
    · obtain rfl : N = i := by omega
      have HX := Lib.hid hx
      clear hx hlt
      go_wp2
      go_ret
      exact ⟨rfl, HX.out⟩

set_option maxRecDepth 100000 in
set_option maxHeartbeats 2000000 in
theorem copyDenses_c {w : World} {v : Value} {L : List Dn} (h : DensesV w v L) (hf : ∀ d ∈ L, Reach d) (hL : L.length * 48 ≤ 140737488355328) :
    Calls Tryd.prog 26 #[v] w fun e w' => ∃ fv hs, e = .returned fv ∧ OwnDs w w' fv L.length hs L := by
  obtain ⟨h0, aa, ca, rfl, _, hao⟩ := h.open
  obtain ⟨N, hN⟩ : ∃ N, N = L.length := ⟨_, rfl⟩
  rw [← hN] at h0 hao hL ⊢
  have H := Lib.hid (And.intro hao (And.intro hf hN))
  clear h hao hf hN
  go_enter Tryd.func26, Tryd.ntmps26
  go_wp2_with fail
  go_loopw [3, 4] (fun fv iv wr => ∃ (i : Nat) (hs : List (Value × Value)), i ≤ N ∧ iv = .int .i64 i ∧ OwnDs w wr fv i hs (L.take i)) (fun _ iv _ => N - (intOf iv).toNat)
  case atStart => exact ⟨0, [], Nat.zero_le _, rfl, OwnDs.nil w⟩
  case round =>
    obtain ⟨i, hs, hi, rfl, hO⟩ := hrel
    obtain ⟨ao, co, hov⟩ := own_shpD hO.row
    subst hov
    by_cases hlt : i < N
    · have hj1 : (i : Int) < N := by omega
      obtain ⟨b1, o1, rfl, h1⟩ := H.out.1 (by omega)
      obtain ⟨d, hd⟩ : ∃ d, L[i]? = some d := ⟨_, List.getElem?_eq_getElem (by rw [← H.out.2.2]; exact hlt)⟩
      obtain ⟨an, cn, al, cl, c0, c1, hdv⟩ := h1 i d hd
      have hrd := H.out.2.1 d (List.mem_of_getElem? hd)
      have k0 := hO.ext.cell c0
      have k1 := hO.ext.cell c1
      have hcp := copyDense_c (hdv.ext hO.ext) hrd
      unfold CopiedDense at hcp
      have htk := take_snoc' hd
      generalize d.next.length = n1 at *
      generalize d.label.length = n2 at *
      have HC := Lib.hid (And.intro hcp (And.intro hO (And.intro htk hrd)))
      clear hcp hO htk hrd c0 c1 hdv h1 hd
      go_wp2_with fail
      refine HC.out.1.mono ?_
      rintro e w2 ⟨xn, xl, own, hs2, rfl, hOd, hx2⟩
      have hin := copied_in hOd HC.out.2.2.2
      obtain ⟨rn, sn, rl, sl, hxv, _⟩ := hin.dense.open
      simp only [Value.agg.injEq, Array.mk.injEq, List.cons.injEq, and_true] at hxv
      obtain ⟨rfl, rfl⟩ := hxv
      generalize d.next.length = m1 at *
      generalize d.label.length = m2 at *
      have hx3 : Ext w2 (w2.alloc (.cells #[.slice rn m1 sn, .slice rl m2 sl] 25)) := Ext.box _ _
      have hO3 := HC.out.2.1.more (hx2.trans hx3)
      have hin3 := (hin.ext hx3).mono (Z' := fun g => (Value.slice ao i co).ownBlock ≠ some g) (fun g _ hz e => by
        have h1 := (HC.out.2.1.row.lt g e).2
        omega)
      obtain ⟨j0, hj, hw0, hw1, hw2⟩ := info_parts dense_infoN
      have hown := hO3.row
      have hnews := World.news_of_block (heap_alloc_new w2 (.cells #[.slice rn m1 sn, .slice rl m2 sl] 25))
      have h1c : ∀ u ∈ [Value.slice rn m1 sn, .slice rl m2 sl], u.oneCell' = true := by intro u hu; simp at hu; rcases hu with rfl | rfl <;> rfl
      have hbase : w.heap.size ≤ (w2.alloc (.cells #[.slice rn m1 sn, .slice rl m2 sl] 25)).heap.size := hO3.ext.size
      have hmax : i + 1 ≤ maxLen := by unfold maxLen; omega
      have HO3 := Lib.hid (And.intro hO3 hin3)
      clear hx3 hx2 hO3 hin3 hin hOd k0 k1
      go_wp2_with (at_builtin; refine wpList_append_own_at _ rfl _ _ 44 rfl w.heap.size 25 j0 (.agg #[.slice none 0 0, .slice none 0 0]) 2 48 Tryd.underlying44 hj hw0 hw1 hw2 rfl (by decide) _ _ _ rfl hown ⟨w2.heap.size, 0, none⟩ 1 1 [.slice rn m1 sn, .slice rl m2 sl] rfl rfl hnews h1c hmax (by omega) hbase ?_; intro v' W hown' hg _ hat)
      have h7 := HO3.out.1.push HO3.out.2 hown' hg hat
      rw [← HC.out.2.2.1] at h7
      have H7 := Lib.hid h7
      clear h7 hown' hg hat hown hnews h1c hbase
      go_roundw
      case rel => exact ⟨i + 1, _, by omega, by go_num, H7.out⟩
      case measure => simp [intOf]; omega
    · obtain rfl : N = i := by omega
      have HX := Lib.hid hO
      clear hO hlt
      go_wp2
      go_ret
      have := HX.out
      rw [H.out.2.2, List.take_length] at this
      rw [H.out.2.2]
      exact ⟨_, _, rfl, this⟩
end Go.Proofs.YtloooajippcdlaaDoor
