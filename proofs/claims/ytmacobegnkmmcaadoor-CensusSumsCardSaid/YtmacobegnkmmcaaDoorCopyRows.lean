/- bolterref0.CopyInts, CopyRows, CopyDense: copies that share nothing; each row in a block of its own. -/
import Derived.Test.YtmacobegnkmmcaaDoorCopied
import Derived.Maps.AppendAt
import Derived.Deep.RegionHeld3
namespace Go.Proofs.YtmacobegnkmmcaaDoor
open Go.RowKit

abbrev intsV (l : List Int) : List Value := l.map (Value.int .i64)

set_option maxHeartbeats 1000000 in
theorem copyInts_c {va : Value} {la : List Int} {w : World} (ha : IntsK .i64 w va la) (hb8 : la.length * 8 ≤ 140737488355328) :
    Calls Tryd.prog 56 #[va] w (Copied 3 .i64 la w) := by
  obtain ⟨h1, a, ca, rfl, hca, ha2⟩ := ha.open
  obtain ⟨i0, hi, hz0, hz1, hz2⟩ := info_parts int_info
  cases a with
  | none =>
    have hn : la = [] := by
      cases la with
      | nil => rfl
      | cons x l => obtain ⟨b, o, h, _⟩ := ha2 (by simp); cases h
    subst hn
    obtain rfl := hca.2 rfl
    go_enter Tryd.func56, Tryd.ntmps56
    go_wp2_with (at_builtin; refine wpList_append_own_none rfl _ _ 23 rfl w.heap.size 3 i0 1 Tryd.underlying23 hi _ _ _ rfl (World.ownsRow_nil _ _ _ _) rfl ?_)
    go_ret
    exact ⟨_, rfl, World.ownsRow_nil _ _ _ _, Ext.refl _⟩
  | some ad =>
    by_cases h0 : 0 < la.length
    · obtain ⟨b, o, h, h2⟩ := ha2 h0
      obtain rfl : ad = ⟨b, o, none⟩ := by simpa using h
      have h3 : 0 + la.length ≤ maxLen := by unfold maxLen; omega
      have h4 : (0 + la.length) * 8 ≤ 140737488355328 := by omega
      have h5 := news_ints (k := .i64) h2
      clear h2 ha2 ha
      go_enter Tryd.func56, Tryd.ntmps56
      go_wp2_with (at_builtin; refine wpList_append_own _ rfl _ _ 23 rfl w.heap.size 3 i0 (.int .i64 0) 1 8 Tryd.underlying23 hi hz0 hz1 hz2 rfl (by decide) _ _ _ rfl (World.ownsRow_nil _ _ _ _) ⟨b, o, none⟩ la.length ca (la.map (Value.int .i64)) rfl (by simp) h5 (one_ints _ _) h3 h4 (Nat.le_refl _) ?_; intro v' W hown hg _)
      go_ret
      rw [Nat.zero_add, List.nil_append] at hown
      exact ⟨_, rfl, hown, Below.grown (Ext.refl _) hg (Nat.le_refl _) (fun k hk => by cases hk)⟩
    · have hn : la = [] := List.eq_nil_of_length_eq_zero (by omega)
      subst hn
      go_enter Tryd.func56, Tryd.ntmps56
      go_wp2_with (at_builtin; refine wpList_append_own _ rfl _ _ 23 rfl w.heap.size 3 i0 (.int .i64 0) 1 8 Tryd.underlying23 hi hz0 hz1 hz2 rfl (by decide) _ _ _ rfl (World.ownsRow_nil _ _ _ _) ad 0 ca [] rfl rfl (fun j u h => by simp at h) (fun u h => by simp at h) (by unfold maxLen; omega) (by omega) (Nat.le_refl _) ?_; intro v' W hown hg _)
      go_ret
      exact ⟨_, rfl, hown, Below.grown (Ext.refl _) hg (Nat.le_refl _) (fun k hk => by cases hk)⟩

/-- rows that the call itself made: own tells of each block whose it is: 0 the headers, i + 1 row i -/
structure Rows2 (w : World) (B : Nat) (own : Nat → Nat) (v : Value) (hs : List Value) (rows : List (List Int)) : Prop where
  top : w.ownsRow B 23 1 v rows.length hs
  topOwn : ∀ g, v.ownBlock = some g → own g = 0
  row : ∀ (i : Nat) (h : Value) (l : List Int), hs[i]? = some h → rows[i]? = some l → w.ownsRow B 3 1 h l.length (intsV l) ∧ ∀ g, h.ownBlock = some g → own g = i + 1

theorem Rows2.nil (w : World) (B : Nat) (own : Nat → Nat) : Rows2 w B own (.slice none 0 0) [] [] :=
  ⟨World.ownsRow_nil _ _ _ _, fun g h => (by cases h), fun i h l hi => (by cases hi)⟩

theorem Rows2.hlen {w : World} {B : Nat} {own : Nat → Nat} {v : Value} {hs : List Value} {rows : List (List Int)} (h : Rows2 w B own v hs rows) : hs.length = rows.length := by
  have := h.top.1; omega

theorem Rows2.ext {w w' : World} (hx : Ext w w') {B : Nat} {own : Nat → Nat} {v : Value} {hs : List Value} {rows : List (List Int)} (h : Rows2 w B own v hs rows) : Rows2 w' B own v hs rows :=
  ⟨own_ext hx h.top, h.topOwn, fun i hv l h1 h2 => ⟨own_ext hx (h.row i hv l h1 h2).1, (h.row i hv l h1 h2).2⟩⟩

theorem Rows2.base {w : World} {B B' : Nat} (hB : B' ≤ B) {own : Nat → Nat} {v : Value} {hs : List Value} {rows : List (List Int)} (h : Rows2 w B own v hs rows) : Rows2 w B' own v hs rows :=
  ⟨own_base h.top hB, h.topOwn, fun i hv l h1 h2 => ⟨own_base (h.row i hv l h1 h2).1 hB, (h.row i hv l h1 h2).2⟩⟩

theorem Rows2.snoc {wr w1 w2 W : World} {B : Nat} {own : Nat → Nat} {v v' h : Value} {hs : List Value} {rows : List (List Int)} {l : List Int} (hr : Rows2 wr B own v hs rows) (hx : Ext wr w1) (hx2 : Ext w1 w2) (hB : B ≤ wr.heap.size)
    (hn : w1.ownsRow wr.heap.size 3 1 h l.length (intsV l)) (hown : W.ownsRow B 23 1 v' (rows.length + 1) (hs ++ [h])) (hg : w2.grownBy W v.ownBlock) (hat : v'.ownBlock = v.ownBlock ∨ v'.ownBlock = some w2.heap.size) :
    ∃ own', Rows2 W B own' v' (hs ++ [h]) (rows ++ [l]) := by
  have hhl := hr.hlen
  have hs1 := hx.size
  have hs2 := hx2.size
  refine ⟨fun g => if g < wr.heap.size then own g else if h.ownBlock = some g then rows.length + 1 else 0, by simpa using hown, fun g hg' => ?_, fun i hv l' h1 h2 => ?_⟩
  · rcases hat with ha | ha
    · rw [ha] at hg'
      have := (hr.top.lt g hg').2
      show (if g < wr.heap.size then own g else _) = 0
      rw [if_pos this]
      exact hr.topOwn g hg'
    · rw [ha] at hg'
      obtain rfl : w2.heap.size = g := by simpa using hg'
      show (if w2.heap.size < wr.heap.size then own w2.heap.size else if h.ownBlock = some w2.heap.size then rows.length + 1 else 0) = 0
      rw [if_neg (by omega), if_neg]
      intro e
      have := (hn.lt _ e).2
      omega
  · rw [List.getElem?_append] at h1 h2
    split at h1
    · rename_i hi
      rw [if_pos (by omega)] at h2
      obtain ⟨q1, q2⟩ := hr.row i hv l' h1 h2
      refine ⟨(own_ext (hx.trans hx2) q1).kept hg ?_, fun g hg' => ?_⟩
      · cases hb : hv.ownBlock with
        | none => exact .inl rfl
        | some g =>
          right
          intro e
          have e1 := q2 g hb
          have e2 := hr.topOwn g e.symm
          omega
      · have := (q1.lt g hg').2
        show (if g < wr.heap.size then own g else _) = i + 1
        rw [if_pos this]
        exact q2 g hg'
    · rename_i hi
      rw [if_neg (by omega)] at h2
      have h3 := (List.getElem?_eq_some_iff.1 h1).1
      have h4 := (List.getElem?_eq_some_iff.1 h2).1
      simp at h3 h4
      have e : i = rows.length := by omega
      subst e
      rw [show rows.length - hs.length = 0 from by omega] at h1
      rw [Nat.sub_self] at h2
      simp at h1 h2
      subst h1; subst h2
      refine ⟨(own_base (own_ext hx2 hn) hB).kept hg ?_, fun g hg' => ?_⟩
      · cases hb : h.ownBlock with
        | none => exact .inl rfl
        | some g =>
          right
          intro e
          have e1 := (hn.lt g hb).1
          have e2 := (hr.top.lt g e.symm).2
          omega
      · have := (hn.lt g hg').1
        show (if g < wr.heap.size then own g else if h.ownBlock = some g then rows.length + 1 else 0) = rows.length + 1
        rw [if_neg (by omega), if_pos hg']

theorem Rows2.read {w : World} {B : Nat} {own : Nat → Nat} {v : Value} {hs : List Value} {rows : List (List Int)} (h : Rows2 w B own v hs rows) (hn : rows.length ≤ 140737488355328) (hl : ∀ l ∈ rows, l.length ≤ 140737488355328) : RowsV w v rows := by
  have hhl := h.hlen
  obtain ⟨a, cap, rfl, _, hc, h2⟩ := own_read h.top
  refine ⟨hn, a, cap, rfl, hc, fun h0 => ?_⟩
  obtain ⟨g, rfl, _, h3⟩ := h2 h0
  refine ⟨g, 0, rfl, fun i l hi => ?_⟩
  have hlt := (List.getElem?_eq_some_iff.1 hi).1
  have hi2 : hs[i]? = some (hs[i]'(by omega)) := List.getElem?_eq_getElem _
  have h4 := h3 i hlt
  rw [hi2] at h4
  rw [Nat.mul_one, Nat.zero_add]
  exact ⟨_, h4, own_ints (h.row i _ l hi2 hi).1 (hl l (List.mem_of_getElem? hi))⟩

theorem slice_info : (Tryd.prog.info? 23).map (fun i => (i.zero, i.size, i.bytes)) = some (some (.slice none 0 0), 1, 24) := by kernel_rfl

def CopiedRows (la : List (List Int)) (w : World) (e : Ending) (w' : World) : Prop :=
  ∃ v own hs, e = .returned v ∧ Rows2 w' w.heap.size own v hs la ∧ Ext w w'

theorem take_snoc' {α : Type} {l : List α} {k : Nat} {x : α} (h : l[k]? = some x) : l.take (k + 1) = l.take k ++ [x] := by
  rw [List.take_add_one, h]; rfl

set_option maxRecDepth 100000 in
set_option maxHeartbeats 1000000 in
theorem copyRows_c {va : Value} {la : List (List Int)} {w : World} (ha : RowsV w va la) (hb24 : la.length * 24 ≤ 140737488355328) (hb8 : ∀ l ∈ la, l.length * 8 ≤ 140737488355328) :
    Calls Tryd.prog 55 #[va] w (CopiedRows la w) := by
  obtain ⟨h1, a, ca, rfl, hca, ha2⟩ := ha.open
  obtain ⟨i0, hi, hz0, hz1, hz2⟩ := info_parts slice_info
  obtain ⟨n, hn⟩ : ∃ n, n = la.length := ⟨_, rfl⟩
  rw [← hn] at h1 ha2 hb24 ⊢
  have HN := Lib.hid hn
  have HB := Lib.hid hb8
  clear hn ha hb8 hca
  go_enter Tryd.func55, Tryd.ntmps55
  go_wp2
  go_loopw [3, 4] (fun ov iv wr => ∃ (k : Nat) (own : Nat → Nat) (hs : List Value), k ≤ n ∧ iv = .int .i64 k ∧ Ext w wr ∧ Rows2 wr w.heap.size own ov hs (la.take k)) (fun _ iv _ => n - (intOf iv).toNat)
  case atStart => exact ⟨0, fun _ => 0, [], Nat.zero_le _, rfl, Ext.refl _, Rows2.nil _ _ _⟩
  case round =>
    obtain ⟨k, own, hs, hk, rfl, hx, hr⟩ := hrel
    by_cases hlt : k < n
    · obtain ⟨b, o, rfl, hcell⟩ := ha2 (by omega)
      obtain ⟨r, hrc, hri⟩ := hcell k hlt
      have hl8 := HB.out (la.getD k []) (by
        rw [List.getD_eq_getElem?_getD, List.getElem?_eq_getElem (by rw [← HN.out]; exact hlt)]; exact List.getElem_mem _)
      have c1 := hx.cell hrc
      have hri1 := IntsK.ext hx hri
      obtain ⟨l, hlk⟩ : ∃ l, l = la.getD k [] := ⟨_, rfl⟩
      rw [← hlk] at hri hri1 hl8
      have HL := Lib.hid hlk
      clear hcell hrc hri hlk ha2
      go_wp2_with fail
      refine (copyInts_c hri1 hl8).mono ?_
      rintro e w1 ⟨v, rfl, hown, hx1⟩
      have hrx := (hr.ext hx1).top.alloc (.cells #[v] 23)
      obtain ⟨va, vcap, hval, _, hvc, _⟩ := own_read hown
      obtain ⟨Ln, hLn⟩ : ∃ Ln, Ln = l.length := ⟨_, rfl⟩
      rw [← hLn] at hval hown
      have HLn := Lib.hid hLn
      clear hvc hLn
      subst hval
      have hcell := cell_one_new w1 (.slice va Ln vcap) 23
      have h1c : ∀ u ∈ [Value.slice va Ln vcap], u.oneCell' = true := by intro u hu; simp at hu; subst hu; rfl
      have hbase : w.heap.size ≤ (w1.alloc (.cells #[.slice va Ln vcap] 23)).heap.size := by have := hx.size; have := hx1.size; simp; omega
      have hmax : k + 1 ≤ maxLen := by unfold maxLen; omega
      rw [List.length_take, Nat.min_eq_left (by rw [← HN.out]; exact hk)] at hrx
      go_wp2_with (at_builtin; refine wpList_append_own_at _ rfl _ _ 22 rfl w.heap.size 23 i0 (.slice none 0 0) 1 24 Tryd.underlying22 hi hz0 hz1 hz2 rfl (by decide) _ k hs rfl hrx ⟨w1.heap.size, 0, none⟩ 1 1 [.slice va Ln vcap] rfl rfl hcell h1c hmax (by omega) hbase ?_; intro v' W hown' hg _ hat)
      go_roundw
      case rel =>
        have hlen : (la.take k).length = k := by rw [List.length_take, Nat.min_eq_left (by rw [← HN.out]; exact hk)]
        have hlk : la[k]? = some l := by
          have hk' : k < la.length := by rw [← HN.out]; exact hlt
          rw [HL.out, List.getD_eq_getElem?_getD, List.getElem?_eq_getElem hk']; rfl
        obtain ⟨own', hr'⟩ := hr.snoc (l := l) hx1 (Ext.box w1 (.cells #[.slice va Ln vcap] 23)) hx.size (by rw [← HLn.out]; exact hown) (by rw [hlen]; exact hown') hg hat
        refine ⟨k + 1, own', _, by omega, by go_num, ?_, by rw [take_snoc' hlk]; exact hr'⟩
        exact Below.grown ((hx.trans hx1).alloc _) hg (by simp; have := hx.size; have := hx1.size; omega) (fun g hg' => (hr.top.lt g hg').1)
      case measure => simp [intOf]; omega
    · obtain rfl : k = n := by omega
      go_wp2
      go_ret
      rw [HN.out, List.take_length] at hr
      exact ⟨_, own, hs, rfl, hr, hx⟩

theorem copyInts_s {va : Value} {la : List Int} {w : World} (ha : IntsK .i64 w va la) (hb8 : la.length * 8 ≤ 140737488355328) :
    Calls Tryd.prog 56 #[va] w fun e w' => ∃ a n cap, e = .returned (.slice a n cap) ∧ w'.ownsRow w.heap.size 3 1 (.slice a n cap) la.length (intsV la) ∧ Ext w w' := by
  refine (copyInts_c ha hb8).mono ?_
  rintro e w' ⟨v, rfl, hown, hx⟩
  obtain ⟨a, cap, rfl, _⟩ := own_read hown
  exact ⟨a, _, cap, rfl, hown, hx⟩

theorem copyRows_s {va : Value} {la : List (List Int)} {w : World} (ha : RowsV w va la) (hb24 : la.length * 24 ≤ 140737488355328) (hb8 : ∀ l ∈ la, l.length * 8 ≤ 140737488355328) :
    Calls Tryd.prog 55 #[va] w fun e w' => ∃ a n cap own hs, e = .returned (.slice a n cap) ∧ Rows2 w' w.heap.size own (.slice a n cap) hs la ∧ Ext w w' := by
  refine (copyRows_c ha hb24 hb8).mono ?_
  rintro e w' ⟨v, own, hs, rfl, hr, hx⟩
  obtain ⟨a, cap, rfl, _⟩ := own_read hr.top
  exact ⟨a, _, cap, own, hs, rfl, hr, hx⟩

theorem own_slc {w : World} {B : Nat} {e : TypeId} {size : Nat} {v : Value} {n : Nat} {xs : List Value} (h : w.ownsRow B e size v n xs) (hn : 0 < n) : ∃ g cap, v = .slice (some ⟨g, 0, none⟩) n cap ∧ B ≤ g ∧ g < w.heap.size := by
  have hlt := h.lt
  obtain ⟨_, h2⟩ := h
  rcases h2 with ⟨_, rfl⟩ | ⟨g, cap, cur, hv, hg, _⟩
  · omega
  · exact ⟨g, cap, hv, hg, (hlt g (by rw [hv]; rfl)).2⟩
theorem own_caps {w : World} {B : Nat} {e : TypeId} {size : Nat} {a : Option Addr} {n m cap : Nat} {xs : List Value} (h : w.ownsRow B e size (.slice a n cap) m xs) : m ≤ cap := by
  obtain ⟨_, h2⟩ := h
  rcases h2 with ⟨hv, rfl⟩ | ⟨g, c, cur, hv, _, _, hc, _⟩
  · omega
  · simp only [Value.slice.injEq] at hv
    omega

/-- an automaton in memory of its own: the labels\' block bears the tag n + 1 -/
structure OwnDense (w : World) (B : Nat) (own : Nat → Nat) (vn vl : Value) (hs : List Value) (rows : List (List Int)) (label : List Int) : Prop where
  tab : Rows2 w B own vn hs rows
  label : w.ownsRow B 3 1 vl label.length (intsV label)
  labelOwn : ∀ g, vl.ownBlock = some g → own g = rows.length + 1

theorem OwnDense.of {w w' : World} {B : Nat} {own : Nat → Nat} {vn vl : Value} {hs : List Value} {rows : List (List Int)} {label : List Int} (hr : Rows2 w B own vn hs rows) (hx : Ext w w') (hB : B ≤ w.heap.size)
    (hl : w'.ownsRow w.heap.size 3 1 vl label.length (intsV label)) : ∃ own', OwnDense w' B own' vn vl hs rows label := by
  refine ⟨fun g => if g < w.heap.size then own g else rows.length + 1, ⟨own_ext hx hr.top, fun g hg => ?_, fun i h l h1 h2 => ?_⟩, own_base hl hB, fun g hg => ?_⟩
  · show (if g < w.heap.size then own g else _) = 0
    rw [if_pos (hr.top.lt g hg).2]; exact hr.topOwn g hg
  · obtain ⟨q1, q2⟩ := hr.row i h l h1 h2
    refine ⟨own_ext hx q1, fun g hg => ?_⟩
    show (if g < w.heap.size then own g else _) = i + 1
    rw [if_pos (q1.lt g hg).2]; exact q2 g hg
  · show (if g < w.heap.size then own g else _) = rows.length + 1
    have := (hl.lt g hg).1
    rw [if_neg (by omega)]

theorem OwnDense.ext {w w' : World} (hx : Ext w w') {B : Nat} {own : Nat → Nat} {vn vl : Value} {hs : List Value} {rows : List (List Int)} {label : List Int} (h : OwnDense w B own vn vl hs rows label) : OwnDense w' B own vn vl hs rows label :=
  ⟨h.tab.ext hx, own_ext hx h.label, h.labelOwn⟩

theorem OwnDense.block {w w' : World} {B : Nat} {own : Nat → Nat} {vn vl : Value} {hs : List Value} {rows : List (List Int)} {label : List Int} (h : OwnDense w B own vn vl hs rows label) (hb : ∀ g, B ≤ g → g < w.heap.size → w'.heap[g]? = w.heap[g]?) : OwnDense w' B own vn vl hs rows label :=
  ⟨⟨own_block h.tab.top fun g hg hl => hb g (h.tab.top.lt g hg).1 hl, h.tab.topOwn, fun i hv l h1 h2 => ⟨own_block (h.tab.row i hv l h1 h2).1 fun g hg hl => hb g ((h.tab.row i hv l h1 h2).1.lt g hg).1 hl, (h.tab.row i hv l h1 h2).2⟩⟩,
    own_block h.label fun g hg hl => hb g (h.label.lt g hg).1 hl, h.labelOwn⟩
theorem OwnDense.base {w : World} {B B' : Nat} (hB : B' ≤ B) {own : Nat → Nat} {vn vl : Value} {hs : List Value} {rows : List (List Int)} {label : List Int} (h : OwnDense w B own vn vl hs rows label) : OwnDense w B' own vn vl hs rows label :=
  ⟨h.tab.base hB, own_base h.label hB, h.labelOwn⟩

def CopiedDense (d : Dn) (w : World) (e : Ending) (w' : World) : Prop :=
  ∃ vn vl own hs, e = .returned (.agg #[vn, vl]) ∧ OwnDense w' w.heap.size own vn vl hs d.next d.label ∧ Ext w w'

/-- an automaton that can be read fits these bounds -/
structure Reach (d : Dn) : Prop where
  next : d.next.length * 24 ≤ 140737488355328
  rows : ∀ l ∈ d.next, l.length * 8 ≤ 140737488355328
  label : d.label.length * 8 ≤ 140737488355328

theorem May.reach {d : Dn} (h : May d) : Reach d where
  next := by have := h.most; omega
  rows := fun l hl => by
    obtain ⟨i, hi⟩ := List.getElem?_of_mem hl
    have h1 := (List.getElem?_eq_some_iff.1 hi).1
    have h2 := h.row i h1
    rw [List.getD_eq_getElem?_getD, hi] at h2
    simp only [Option.getD_some] at h2
    omega
  label := by have := h.most; rw [h.labels]; omega

set_option maxRecDepth 100000 in
set_option maxHeartbeats 1000000 in
theorem copyDense_c {v : Value} {d : Dn} {w : World} (h : DenseV w v d) (hr : Reach d) : Calls Tryd.prog 44 #[v] w (CopiedDense d w) := by
  obtain ⟨vn, vl, rfl, hn, hl⟩ := h
  have HN := Lib.hid hn
  have HL := Lib.hid hl
  obtain ⟨_, an, cn, rfl, _, _⟩ := hn.open
  obtain ⟨_, al, cl, rfl, _, _⟩ := hl.open
  have HR := Lib.hid hr
  clear hn hl hr
  go_enter Tryd.func44, Tryd.ntmps44
  obtain ⟨N, hN⟩ : ∃ N, N = d.next.length := ⟨_, rfl⟩
  obtain ⟨L, hL⟩ : ∃ L, L = d.label.length := ⟨_, rfl⟩
  rw [← hN] at HN ⊢
  rw [← hL] at HL ⊢
  clear hN hL
  go_wp2_with fail
  obtain ⟨W, hW⟩ : ∃ W, W = ((w.alloc (.cells #[.slice an N cn, .slice al L cl] 25)).alloc (.cells #[.slice none 0 0, .slice none 0 0] 25)) := ⟨_, rfl⟩
  rw [← hW]
  have hE : Ext w W := by rw [hW]; exact (Ext.box w _).alloc _
  have k0 : W.cell? ⟨w.heap.size, 0, none⟩ = some (.slice an N cn) := by rw [hW]; simp
  have k1 : W.cell? ⟨w.heap.size, 1, none⟩ = some (.slice al L cl) := by rw [hW]; simp
  have k2 : W.cell? ⟨w.heap.size + 1, 0, none⟩ = some (.slice none 0 0) := by rw [hW]; simp
  have k3 : W.cell? ⟨w.heap.size + 1, 1, none⟩ = some (.slice none 0 0) := by rw [hW]; simp
  have f2 : W.frozen? ⟨w.heap.size + 1, 0, none⟩ = false := by rw [hW]; simp
  have f3 : W.frozen? ⟨w.heap.size + 1, 1, none⟩ = false := by rw [hW]; simp
  have hsz : w.heap.size + 1 < W.heap.size := by rw [hW]; simp
  clear hW
  go_region_held3 (fun W => W.cell? ⟨w.heap.size, 0, none⟩ = some (.slice an N cn) ∧ W.cell? ⟨w.heap.size, 1, none⟩ = some (.slice al L cl))
    (first | exact ⟨k0, k1⟩ | exact ⟨j0, j1⟩ | exact ⟨i0, i1⟩ | go_keep)
    ((first | (go_at_call 55; refine (copyRows_s (RowsV.ext hE.drew HN.out) HR.out.next HR.out.rows).mono ?_; rintro e w1 ⟨a1, n1, c1, own, hs, rfl, hrows, hx1⟩; have j0 := hx1.cell (a := W.drew) k0; have j1 := hx1.cell (a := W.drew) k1; have j2 := hx1.cell (a := W.drew) k2; have j3 := hx1.cell (a := W.drew) k3) | (go_at_call 56; refine (copyInts_s (IntsK.ext (hE.drew.trans hx1) HL.out) HR.out.label).mono ?_; rintro e w2 ⟨a2, n2, c2, rfl, hlab, hx2⟩; have i0 := hx2.cell j0; have i1 := hx2.cell j1; have i2 := hx2.cell j2; have i3 := hx2.cell j3; have hX := Ext.trans (Ext.drew (Ext.refl W)) (hx1.trans hx2); have g2 := (Below.frozen hX (p := ⟨w.heap.size + 1, 0, none⟩) hsz).trans f2; have g3 := (Below.frozen hX (p := ⟨w.heap.size + 1, 1, none⟩) hsz).trans f3)))
  obtain ⟨own', hD⟩ := OwnDense.of hrows hx2 hx1.size hlab
  have hF : Frm (fun a _ => a = w.heap.size + 1) w2 ((w2.setCell ⟨w.heap.size + 1, 0, none⟩ (.slice a1 n1 c1)).setCell ⟨w.heap.size + 1, 1, none⟩ (.slice a2 n2 c2)) := ((Frm.refl (fun a _ => a = w.heap.size + 1) w2).setCell (.inl rfl) _).setCell (.inl rfl) _
  have hD2 := (hD.block (fun g hg hl => hF.block g hl (fun j e => by simp at hg; omega))).base (B' := w.heap.size) (by simp; omega)
  have hEE : Ext w ((w2.setCell ⟨w.heap.size + 1, 0, none⟩ (.slice a1 n1 c1)).setCell ⟨w.heap.size + 1, 1, none⟩ (.slice a2 n2 c2)) := hF.ext (hE.trans hX) (fun k j e => by omega)
  clear hF hD hrows hlab
  go_wp2
  exact bodyPost_ret (v := .agg #[.slice a1 n1 c1, .slice a2 n2 c2]) (by simp [results, Tryd.results44, go_sem, i2, i3]) rfl ⟨_, _, own', hs, rfl, hD2, hEE⟩
end Go.Proofs.YtmacobegnkmmcaaDoor
