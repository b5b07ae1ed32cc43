/- bolterlaw14.between. -/
import Derived.Test.YtpkngnompkdlnaaDoorCopy
import Derived.Test.YtpkngnompkdlnaaDoorGrow
import Derived.Laws.OwnMore
namespace Go.Proofs.YtpkngnompkdlnaaDoor
open Go.RowKit

theorem bytesV_set (l : List Nat) (i c : Nat) : (bytesV l).set i (.int .u8 (c : Int)) = bytesV (l.set i c) := by simp [bytesV, List.map_set]
theorem bytesV_get (l : List Nat) (i : Nat) (h : i < l.length) : (bytesV l)[i]? = some (.int .u8 ((l.getD i 0 : Nat) : Int)) := by
  rw [bytesV, List.getElem?_map, List.getD_eq_getElem?_getD, List.getElem?_eq_getElem h]; rfl

theorem nat_list_eq {a b : List Nat} (hl : a.length = b.length) (h : ∀ j, j < a.length → a.getD j 0 = b.getD j 0) : a = b := by
  refine List.ext_getElem hl fun i h1 h2 => ?_
  have := h i h1
  rw [List.getD_eq_getElem?_getD, List.getD_eq_getElem?_getD, List.getElem?_eq_getElem h1, List.getElem?_eq_getElem h2] at this
  exact this

theorem succB_append : ∀ (a b : List Nat), (CM.succB b).2 = false → CM.succB (a ++ b) = (a ++ (CM.succB b).1, false)
  | [], b, h => by simp only [List.nil_append]; rw [← h]
  | x :: a, b, h => by
    have ih := succB_append a b h
    simp only [List.cons_append, CM.succB, ih]; rfl
theorem succB_all : ∀ n, CM.succB (List.replicate n 255) = (List.replicate n 0, true)
  | 0 => rfl
  | n + 1 => by
    have ih := succB_all n
    rw [List.replicate_succ, CM.succB, ih]
    rfl

/-- the last bytes are 255, the one ahead of them is not -/
theorem succB_mid (l : List Nat) (p : Nat) (hp : p < l.length) (hc : l.getD p 0 < 255) (h : ∀ j, p < j → j < l.length → l.getD j 0 = 255) :
    (CM.succB l).1 = l.take p ++ (l.getD p 0 + 1) :: List.replicate (l.length - (p + 1)) 0 := by
  have e1 : l.drop (p + 1) = List.replicate (l.length - (p + 1)) 255 := by
    refine nat_list_eq (by simp) fun j hj => ?_
    rw [List.length_drop] at hj
    have h1 := h (p + 1 + j) (by omega) (by omega)
    rw [List.getD_eq_getElem?_getD, List.getElem?_drop, List.getD_eq_getElem?_getD, List.getElem?_replicate, if_pos hj]
    rw [List.getD_eq_getElem?_getD] at h1
    exact h1
  have e2 : l = l.take p ++ l.getD p 0 :: List.replicate (l.length - (p + 1)) 255 := by
    rw [← e1, ← drop_cons hp, List.take_append_drop]
  have e3 : (CM.succB (l.getD p 0 :: List.replicate (l.length - (p + 1)) 255)) = ((l.getD p 0 + 1) :: List.replicate (l.length - (p + 1)) 0, false) := by
    rw [CM.succB, succB_all]
    simp only [if_true]
    rw [if_pos hc]
  have e4 := succB_append (l.take p) (l.getD p 0 :: List.replicate (l.length - (p + 1)) 255) (by rw [e3])
  rw [← e2, e3] at e4
  rw [e4]

theorem succB_none (l : List Nat) (h : ∀ j, j < l.length → l.getD j 0 = 255) : (CM.succB l).1 = List.replicate l.length 0 := by
  have e1 : l = List.replicate l.length 255 := by
    refine nat_list_eq (by simp) fun j hj => ?_
    have h1 := h j hj
    rw [h1, List.getD_eq_getElem?_getD, List.getElem?_replicate, if_pos hj]; rfl
  have := succB_all l.length
  rw [← e1] at this
  rw [this]

theorem take_eq {a b : List Nat} {p : Nat} (ha : p ≤ a.length) (hb : p ≤ b.length) (h : ∀ j, j < p → a.getD j 0 = b.getD j 0) : a.take p = b.take p := by
  refine nat_list_eq (by rw [List.length_take, List.length_take]; omega) fun j hj => ?_
  rw [List.length_take] at hj
  have := h j (by omega)
  simp only [List.getD_eq_getElem?_getD, List.getElem?_take] at this ⊢
  rw [if_pos (by omega), if_pos (by omega)]; exact this
theorem drop_zeros {a : List Nat} {p : Nat} (h : ∀ j, p ≤ j → j < a.length → a.getD j 0 = 0) : a.drop p = List.replicate (a.length - p) 0 := by
  refine nat_list_eq (by simp) fun j hj => ?_
  rw [List.length_drop] at hj
  have := h (p + j) (by omega) (by omega)
  simp only [List.getD_eq_getElem?_getD, List.getElem?_drop, List.getElem?_replicate] at this ⊢
  rw [if_pos hj, this]; rfl
theorem set_split {l : List Nat} {p v : Nat} (hp : p < l.length) : l.set p v = l.take p ++ v :: l.drop (p + 1) := by
  rw [List.set_eq_take_append_cons_drop, if_pos hp]

theorem cast_inj {a b : List Nat} (h : a.map (fun (b : Nat) => (b : Int)) = b.map (fun (b : Nat) => (b : Int))) : a = b :=
  (List.map_inj_right (fun x y e => by exact Int.ofNat.inj e)).1 h

theorem own_slice {w : World} {B : Nat} {e : TypeId} {size : Nat} {v : Value} {n : Nat} {xs : List Value} (h : w.ownsRow B e size v n xs) (hn : 0 < n) : ∃ g cap, v = .slice (some ⟨g, 0, none⟩) n cap ∧ B ≤ g ∧ g < w.heap.size := by
  have hlt := h.lt
  obtain ⟨_, h2⟩ := h
  rcases h2 with ⟨_, rfl⟩ | ⟨g, cap, cur, hv, hg, _⟩
  · omega
  · exact ⟨g, cap, hv, hg, (hlt g (by rw [hv]; rfl)).2⟩

theorem own_bytes {w : World} {B : Nat} {e : TypeId} {v : Value} {n : Nat} {l : List Nat} (h : w.ownsRow B e 1 v n (bytesV l)) (hl : n ≤ 140737488355328) : BytesW w v l := by
  refine own_ints (B := B) (e := e) (n := n) ?_ hl
  have : (l.map fun (b : Nat) => (b : Int)).map (Value.int .u8) = bytesV l := by simp [bytesV]
  rw [this]; exact h

theorem set_getD (l : List Nat) (i c j : Nat) (hi : i < l.length) : (l.set i c).getD j 0 = if j = i then c else l.getD j 0 := by
  rw [List.getD_eq_getElem?_getD, List.getElem?_set, List.getD_eq_getElem?_getD]
  by_cases e : i = j
  · subst e; simp [hi]
  · rw [if_neg e, if_neg (fun h => e h.symm)]

set_option maxRecDepth 100000 in
set_option maxHeartbeats 2000000 in
theorem between_c {vn vl vk vw vv : Value} {d : Dn} {label : Int} {lw lv : List Nat} {w : World} (h : DenseV w (.agg #[vn, vl]) d) (hm : May d) (hw : BytesW w vw lw) (hv : BytesW w vv lv) (hl : lw.length ≤ 64) (hb : ∀ c ∈ lw, c < 256) :
    Calls Tryd.prog 33 #[.agg #[vn, vl, .int .i64 label, vk], vw, vv] w fun e w' =>
      e = .returned (.bool (decide ((CM.succB lw).1 = lv) || (d.lb (CM.run d.nx 0 (CM.succB lw).1) != label))) ∧ Ext w w' := by
  have HM := Lib.hid hm
  have HH := Lib.hid h
  have HV := Lib.hid hv
  have hx0 := Ext.box w (.cells #[vn, vl, .int .i64 label, vk] 28)
  have hb0 := fun W (hx : Ext (w.alloc (.cells #[vn, vl, .int .i64 label, vk] 28)) W) => hx.cell (p := ⟨w.heap.size, 0, none⟩) (v := vn) (by simp)
  have hb1 := fun W (hx : Ext (w.alloc (.cells #[vn, vl, .int .i64 label, vk] 28)) W) => hx.cell (p := ⟨w.heap.size, 1, none⟩) (v := vl) (by simp)
  have hb2 := fun W (hx : Ext (w.alloc (.cells #[vn, vl, .int .i64 label, vk] 28)) W) => hx.cell (p := ⟨w.heap.size, 2, none⟩) (v := .int .i64 label) (by simp)
  have HB := Lib.hid (And.intro hb0 (And.intro hb1 hb2))
  have hwx := IntsK.ext hx0 hw
  clear hm h hv hb0 hb1 hb2 hw
  go_enter Tryd.func33, Tryd.ntmps33
  go_wp2_with fail
  refine (copyBytes_c hwx).mono ?_
  rintro e w1 ⟨v, rfl, hown, hx1⟩
  have hxe : (lw.map fun (b : Nat) => (b : Int)).map (Value.int .u8) = bytesV lw := by simp [bytesV]
  rw [List.length_map, hxe] at hown
  obtain ⟨L, hL⟩ : ∃ L, L = lw.length := ⟨_, rfl⟩
  have HL := Lib.hid hL
  rw [← hL] at hl hown
  obtain ⟨a, cap, hval, hdrop⟩ := own_read hown
  clear hdrop hL hxe hwx hx0
  subst hval
  go_wp2
  go_loopw [8] (fun iv wr => ∃ (m : Nat) (xs : List Nat), m ≤ L ∧ iv = .int .i64 ((m : Int) - 1) ∧ xs.length = L ∧ (∀ j, j < m → xs.getD j 0 = lw.getD j 0) ∧ (∀ j, m ≤ j → j < L → xs.getD j 0 = 0 ∧ lw.getD j 0 = 255) ∧
    Below (w.heap.size + 1) w1 wr ∧ wr.ownsRow (w.heap.size + 1) 5 1 (.slice a L cap) L (bytesV xs)) (fun iv _ => (intOf iv + 1).toNat)
  case atStart => exact ⟨L, lw, Nat.le_refl _, rfl, HL.out.symm, fun j hj => rfl, fun j h1 h2 => by omega, Below.refl _ _, by have := hown; rw [World.size_alloc] at this; exact this⟩
  case round =>
    clear hown
    obtain ⟨m, xs, hm, rfl, hxl, hlo, hhi, hx, hown⟩ := hrel
    have HLO := Lib.hid hlo
    have HHI := Lib.hid hhi
    have HXL := Lib.hid hxl
    clear hlo hhi hxl
    have hsz1 : w1.heap.size ≤ w1.heap.size := Nat.le_refl _
    by_cases hm0 : m = 0
    · subst hm0
      have hq : xs = (CM.succB lw).1 := by
        rw [succB_none lw (fun j hj => (HHI.out j (Nat.zero_le _) (by rw [HL.out]; exact hj)).2)]
        refine nat_list_eq (by rw [List.length_replicate, HXL.out, HL.out]) fun j hj => ?_
        rw [(HHI.out j (Nat.zero_le _) (by rw [← HXL.out]; exact hj)).1, List.getD_eq_getElem?_getD, List.getElem?_replicate]
        split <;> rfl
      have HQ := Lib.hid hq
      clear hq
      go_wp2
      have hX : BytesW wr (.slice a L cap) xs := own_bytes hown (by omega)
      have hE : Ext (w.alloc (.cells #[vn, vl, .int .i64 label, vk] 28)) wr := Below.trans hx1 (Below.mono hx (Nat.le_of_eq (by simp)))
      have hEE := (Ext.box w _).trans hE
      have hV := IntsK.ext hEE HV.out
      have hD0 := HH.out.ext hEE
      have HX := Lib.hid (And.intro hX (And.intro hV hD0))
      have k0 := fun z => HB.out.1 _ (hE.trans (grow_ext wr z))
      have k1 := fun z => HB.out.2.1 _ (hE.trans (grow_ext wr z))
      have k2 := fun z => HB.out.2.2 _ (hE.trans (grow_ext wr z))
      clear hX hV hD0 hown hx
      obtain ⟨r, hr⟩ : ∃ r, decide (xs.map (fun (b : Nat) => (b : Int)) = lv.map (fun (b : Nat) => (b : Int))) = r := ⟨_, rfl⟩
      have HR := Lib.hid hr
      clear hr
      cases r
      all_goals
        refine wp_region_grow (by kernel_rfl) (by kernel_rfl) ?_
        repeat (go_big_quiet_step ((first | (go_at_call 37; exact calls_grow (eqBytes_b (IntsK.ext (grow_ext wr _) HX.out.1) (IntsK.ext (grow_ext wr _) HX.out.2.1) HR.out)) | (go_at_call 31; exact calls_grow (label14_c (HX.out.2.2.ext (grow_ext wr _)) HM.out (IntsK.ext (grow_ext wr _) HX.out.1) (by rw [HQ.out]; exact CM.succB_bytes lw hb))))))
        refine wpQuiet_nil ?_
        rintro _ ⟨z, rfl⟩
        go_wp2
        go_ret
      · refine ⟨ret_bool ?_, hEE.trans (grow_ext wr z)⟩
        have hne := of_decide_eq_false HR.out
        rw [← HQ.out, decide_eq_false (fun h => hne (by rw [h])), Bool.false_or]
      · refine ⟨ret_bool ?_, hEE.trans (grow_ext wr z)⟩
        have hne := cast_inj (of_decide_eq_true HR.out)
        rw [← HQ.out, decide_eq_true hne, Bool.true_or]
    · obtain ⟨p, rfl⟩ : ∃ p, m = p + 1 := ⟨m - 1, by omega⟩
      rw [show ((p + 1 : Nat) : Int) - 1 = (p : Int) from by omega]
      obtain ⟨g, cap', hval, hg1, hg2⟩ := own_slice hown (by omega)
      obtain ⟨rfl, rfl⟩ : a = some ⟨g, 0, none⟩ ∧ cap' = cap := by simp only [Value.slice.injEq] at hval; exact ⟨hval.1, hval.2.2.symm⟩
      clear hval
      have hpL : p < L := by omega
      have hxlen : p < xs.length := by rw [HXL.out]; exact hpL
      have c1 := hown.cellAt p (by omega)
      rw [bytesV_get xs p hxlen] at c1
      have f1 := hown.frozenAt p
      obtain ⟨c, hcc⟩ : ∃ c, c = xs.getD p 0 := ⟨_, rfl⟩
      rw [← hcc] at c1
      have hcl : c = lw.getD p 0 := by rw [hcc]; exact HLO.out p (by omega)
      have hc6 : c < 256 := by rw [hcl]; exact getD_lt hb (by rw [← HL.out]; exact hpL)
      have HC := Lib.hid hcl
      clear hcc hcl hm0
      by_cases hc5 : c < 255
      · have hst := hown.stored p (.int .u8 ((c + 1 : Nat) : Int))
        rw [bytesV_set, show ((c + 1 : Nat) : Int) = (c : Int) + 1 from by omega] at hst
        have hq : xs.set p (c + 1) = (CM.succB lw).1 := by
          rw [succB_mid lw p (by rw [← HL.out]; exact hpL) (by rw [← HC.out]; exact hc5) (fun j h1 h2 => (HHI.out j (by omega) (by rw [HL.out]; exact h2)).2)]
          rw [set_split hxlen, take_eq (Nat.le_of_lt hxlen) (by rw [← HL.out]; omega) (fun j hj => HLO.out j (by omega)), drop_zeros (fun j h1 h2 => (HHI.out j h1 (by rw [← HXL.out]; exact h2)).1), ← HC.out, HXL.out, ← HL.out]
        have HQ := Lib.hid hq
        have hnW : Below (w.heap.size + 1) w1 (wr.setCell ⟨g, p, none⟩ (.int .u8 ((c : Int) + 1))) := hx.setCell hg1 _
        clear hq
        go_wp2
        obtain ⟨W, hW⟩ : ∃ W, W = wr.setCell ⟨g, p, none⟩ (.int .u8 ((c : Int) + 1)) := ⟨_, rfl⟩
        rw [← hW] at hst hnW ⊢
        have hown := hst.1
        have hx := hnW
        clear hW hst hnW c1 f1
        have hX : BytesW W (.slice (some ⟨g, 0, none⟩) L cap') (xs.set p (c + 1)) := own_bytes hown (by omega)
        have hE : Ext (w.alloc (.cells #[vn, vl, .int .i64 label, vk] 28)) W := Below.trans hx1 (Below.mono hx (Nat.le_of_eq (by simp)))
        have hEE := (Ext.box w _).trans hE
        have hV := IntsK.ext hEE HV.out
        have hD0 := HH.out.ext hEE
        have HX := Lib.hid (And.intro hX (And.intro hV hD0))
        have k0 := fun z => HB.out.1 _ (hE.trans (grow_ext W z))
        have k1 := fun z => HB.out.2.1 _ (hE.trans (grow_ext W z))
        have k2 := fun z => HB.out.2.2 _ (hE.trans (grow_ext W z))
        clear hX hV hD0 hown hx
        obtain ⟨r, hr⟩ : ∃ r, decide ((xs.set p (c + 1)).map (fun (b : Nat) => (b : Int)) = lv.map (fun (b : Nat) => (b : Int))) = r := ⟨_, rfl⟩
        have HR := Lib.hid hr
        clear hr
        cases r
        all_goals
          refine wp_region_grow (by kernel_rfl) (by kernel_rfl) ?_
          repeat (go_big_quiet_step ((first | (go_at_call 37; exact calls_grow (eqBytes_b (IntsK.ext (grow_ext W _) HX.out.1) (IntsK.ext (grow_ext W _) HX.out.2.1) HR.out)) | (go_at_call 31; exact calls_grow (label14_c (HX.out.2.2.ext (grow_ext W _)) HM.out (IntsK.ext (grow_ext W _) HX.out.1) (by rw [HQ.out]; exact CM.succB_bytes lw hb))))))
          refine wpQuiet_nil ?_
          rintro _ ⟨z, rfl⟩
          go_wp2
          go_ret
        · refine ⟨ret_bool ?_, hEE.trans (grow_ext W z)⟩
          have hne := of_decide_eq_false HR.out
          rw [← HQ.out, decide_eq_false (fun h => hne (by rw [h])), Bool.false_or]
        · refine ⟨ret_bool ?_, hEE.trans (grow_ext W z)⟩
          have hne := cast_inj (of_decide_eq_true HR.out)
          rw [← HQ.out, decide_eq_true hne, Bool.true_or]
      · have hce : (c : Int) = 255 := by omega
        have hst := hown.stored p (.int .u8 ((0 : Nat) : Int))
        rw [bytesV_set] at hst
        have hc5' : ¬ (c : Int) < 255 := by omega
        go_wp2
        go_roundw
        case rel => exact ⟨p, xs.set p 0, by omega, rfl, by rw [List.length_set, HXL.out], fun j hj => by
            rw [set_getD _ _ _ _ hxlen, if_neg (by omega)]; exact HLO.out j (by omega), fun j h1 h2 => by
            rw [set_getD _ _ _ _ hxlen]
            by_cases e : j = p
            · rw [if_pos e]; exact ⟨rfl, by rw [e, ← HC.out]; omega⟩
            · rw [if_neg e]; exact HHI.out j (by omega) h2, hx.setCell hg1 _, hst.1⟩
        case measure => simp [intOf]
end Go.Proofs.YtpkngnompkdlnaaDoor
