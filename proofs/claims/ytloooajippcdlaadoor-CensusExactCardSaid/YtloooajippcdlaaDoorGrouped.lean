/- rows.grouped: of alike columns one class, numbered as they come first. -/
import Derived.Test.YtloooajippcdlaaDoorColumn
import Derived.ChangeKeysEq
import Derived.Test.YtloooajippcdlaaDoorTags
namespace Go.Proofs.YtloooajippcdlaaDoor
open Go.RowKit

theorem items_ints {P : Program} {e : TypeId} (he : P.underlying e = some (.int .i64)) {d : Nat} {xs ys : Array Value} {a b : Nat → Int} (w : World) : ∀ is : List Nat, (∀ i ∈ is, xs[i]? = some (.int .i64 (a i)) ∧ ys[i]? = some (.int .i64 (b i))) →
    (Op.eqItems (d + 1) e 1 xs ys is).run P w = .ok (is.all fun i => a i == b i) w
  | [], _ => by simp [Op.eqItems]
  | i :: is, h => by
    obtain ⟨h1, h2⟩ := h i (List.mem_cons_self ..)
    have ih := items_ints (d := d) he w is fun j hj => h j (List.mem_cons_of_mem _ hj)
    have p1 : (part e xs (i * 1)).run P w = .ok (.int .i64 (a i)) w := by simp [part, isAgg, run_underlying he, h1]
    have p2 : (part e ys (i * 1)).run P w = .ok (.int .i64 (b i)) w := by simp [part, isAgg, run_underlying he, h2]
    simp only [Op.eqItems, Sem.run_bind, p1, p2, Result.andThen_ok, run_equalIn_int w d e .i64 .i64 (a i) (b i) he, List.all_cons]
    cases (a i == b i)
    · simp
    · simpa using ih

/-- are the first n numbers the same? -/
def alike (a b : Nat → Int) (n : Nat) : Bool := (List.range n).all fun k => a k == b k
theorem alike_iff {a b : Nat → Int} {n : Nat} : alike a b n = true ↔ ∀ k, k < n → a k = b k := by unfold alike; simp [List.all_eq_true]

theorem piece_eq' {a b : Nat → Int} (d : Nat) (w : World) : (Op.equalIn (d + 1 + 1) 163 (.agg #[.int .i64 (a 0), .int .i64 (a 1), .int .i64 (a 2), .int .i64 (a 3), .int .i64 (a 4), .int .i64 (a 5), .int .i64 (a 6), .int .i64 (a 7)])
    (.agg #[.int .i64 (b 0), .int .i64 (b 1), .int .i64 (b 2), .int .i64 (b 3), .int .i64 (b 4), .int .i64 (b 5), .int .i64 (b 6), .int .i64 (b 7)])).run Tryd.prog w = .ok (alike a b 8) w := by
  have hu := Tryd.underlying163
  obtain ⟨i, hi, _⟩ := Option.map_eq_some_iff.1 int_info
  rw [run_equalIn_array w (d + 1) _ _ hu hi, show Tryd.prog.cellsOf 3 = 1 by kernel_rfl]
  refine (items_ints (a := a) (b := b) Tryd.underlying3 w _ ?_).trans rfl
  intro j hj
  have : j < 8 := by simpa using hj
  rcases (by omega : j = 0 ∨ j = 1 ∨ j = 2 ∨ j = 3 ∨ j = 4 ∨ j = 5 ∨ j = 6 ∨ j = 7) with rfl | rfl | rfl | rfl | rfl | rfl | rfl | rfl <;> exact ⟨rfl, rfl⟩
theorem piece_eq {a b : Nat → Int} (w : World) : (Op.equalIn 10000 163 (.agg #[.int .i64 (a 0), .int .i64 (a 1), .int .i64 (a 2), .int .i64 (a 3), .int .i64 (a 4), .int .i64 (a 5), .int .i64 (a 6), .int .i64 (a 7)])
    (.agg #[.int .i64 (b 0), .int .i64 (b 1), .int .i64 (b 2), .int .i64 (b 3), .int .i64 (b 4), .int .i64 (b 5), .int .i64 (b 6), .int .i64 (b 7)])).run Tryd.prog w = .ok (alike a b 8) w := piece_eq' 9998 w

set_option maxRecDepth 100000 in
set_option maxHeartbeats 1000000 in
theorem equal_c {ga gb m : Nat} {fa fb : Nat → Int} {w : World} (hm : m ≤ 100) (ha : w.rowIs ga 163 (m * 8) (fun j => .int .i64 (fa j))) (hb : w.rowIs gb 163 (m * 8) (fun j => .int .i64 (fb j))) :
    Calls Tryd.prog 68 #[.slice (some ⟨ga, 0, none⟩) m m, .slice (some ⟨gb, 0, none⟩) m m] w fun e w' => e = .returned (.bool (alike fa fb (m * 8))) ∧ Ext w w' := by
  have H := Lib.hid (And.intro ha hb)
  clear ha hb
  go_enter Tryd.func68, Tryd.ntmps68
  go_wp2_with fail
  go_loopw [8] (fun iv wr => ∃ i : Nat, i ≤ m ∧ iv = .int .i64 i ∧ Ext w wr ∧ ∀ j, j < i * 8 → fa j = fb j) (fun iv _ => m - (intOf iv).toNat)
  case atStart => exact ⟨0, Nat.zero_le _, rfl, Ext.refl _, fun j hj => by omega⟩
  case round =>
    obtain ⟨i, hi, rfl, hx, he⟩ := hrel
    by_cases hlt : i < m
    · have ca := fun k (hk : k < 8) => (rowIs_ext hx H.out.1).cell (i := i * 8 + k) (by omega)
      have cb := fun k (hk : k < 8) => (rowIs_ext hx H.out.2).cell (i := i * 8 + k) (by omega)
      have a0 := ca 0 (by omega)
      have a1 := ca 1 (by omega)
      have a2 := ca 2 (by omega)
      have a3 := ca 3 (by omega)
      have a4 := ca 4 (by omega)
      have a5 := ca 5 (by omega)
      have a6 := ca 6 (by omega)
      have a7 := ca 7 (by omega)
      have b0 := cb 0 (by omega)
      have b1 := cb 1 (by omega)
      have b2 := cb 2 (by omega)
      have b3 := cb 3 (by omega)
      have b4 := cb 4 (by omega)
      have b5 := cb 5 (by omega)
      have b6 := cb 6 (by omega)
      have b7 := cb 7 (by omega)
      have hp := fun W => piece_eq (a := fun k => fa (i * 8 + k)) (b := fun k => fb (i * 8 + k)) W
      obtain ⟨r, hr⟩ : ∃ r, r = alike (fun k => fa (i * 8 + k)) (fun k => fb (i * 8 + k)) 8 := ⟨_, rfl⟩
      rw [← hr] at hp
      rw [Nat.add_zero] at a0 b0 hp
      have hj1 : (i : Int) < m := by omega
      have HR := Lib.hid (And.intro hr (And.intro hx he))
      clear ca cb hr hx he
      cases r
      · go_upto_region 4 with fail
        go_quiet (fail)
        go_wp2
        go_ret
        refine ⟨?_, HR.out.2.1.drewN _⟩
        have h2 : alike fa fb (m * 8) = false := by
          rw [Bool.eq_false_iff]
          intro h
          have := alike_iff (a := fun k => fa (i * 8 + k)) (b := fun k => fb (i * 8 + k)) (n := 8) |>.2 fun k hk => alike_iff.1 h (i * 8 + k) (by omega)
          rw [← HR.out.1] at this
          cases this
        rw [h2]; rfl
      · go_upto_region 4 with fail
        go_quiet (fail)
        go_wp2
        go_roundw
        case rel => exact ⟨i + 1, by omega, by go_num, HR.out.2.1.drewN _, fun j hj => by
          by_cases e : j < i * 8
          · exact HR.out.2.2 j e
          · have := alike_iff.1 HR.out.1.symm (j - i * 8) (by omega)
            rw [show i * 8 + (j - i * 8) = j by omega] at this
            exact this⟩
        case measure => simp [intOf]; omega
    · obtain rfl : m = i := by omega
      have HR := Lib.hid (And.intro hx he)
      clear hx he
      go_wp2
      go_ret
      refine ⟨?_, HR.out.1⟩
      rw [alike_iff.2 HR.out.2]; rfl
end Go.Proofs.YtloooajippcdlaaDoor

namespace Go.Proofs.YtloooajippcdlaaDoor
open Go.RowKit

theorem piece1_info : (Tryd.prog.info? 112).map (fun i => (i.zero, i.size, i.bytes)) = some (some (.slice none 0 0), 1, 24) := by kernel_rfl

/-- the columns that are handed in: a list of 256 headers, a block for each -/
structure ColsIn (w : World) (gL m : Nat) (G : Nat → Nat) (F : Nat → Nat → Int) : Prop where
  hdr : ∀ j, j < 256 → w.cell? ⟨gL, j, none⟩ = some (.slice (some ⟨G j, 0, none⟩) m m)
  col : ∀ j, j < 256 → w.rowIs (G j) 163 (m * 8) (fun x => .int .i64 (F j x))
theorem ColsIn.ext {w w' : World} {gL m : Nat} {G : Nat → Nat} {F : Nat → Nat → Int} (h : ColsIn w gL m G F) (hx : Ext w w') : ColsIn w' gL m G F :=
  ⟨fun j hj => hx.cell (h.hdr j hj), fun j hj => rowIs_ext hx (h.col j hj)⟩

def nI (l : List Nat) : List Int := l.map fun (n : Nat) => (n : Int)
theorem nI_snoc (l : List Nat) (x : Nat) : nI (l ++ [x]) = nI l ++ [(x : Int)] := by simp [nI]
theorem nI_len (l : List Nat) : (nI l).length = l.length := by simp [nI]

def hdrV (m : Nat) (G : Nat → Nat) (a : Nat) : Value := .slice (some ⟨G a, 0, none⟩) m m
theorem hdrV_one (m : Nat) (G : Nat → Nat) (a : Nat) : (hdrV m G a).oneCell' = true := rfl

/-- what is kept: the classes (tag 1), the first columns (tag 2) -/
structure GrpS (w wr : World) (own : Nat → Nat) (m : Nat) (G : Nat → Nat) (rows : List (List Int)) (b : Nat) (cv fv : Value) : Prop where
  ext : Ext w wr
  cls : Lst 1 wr own w.heap.size 3 cv (intsV (nI ((List.range b).map (RM.cls rows))))
  fst : Lst 2 wr own w.heap.size 112 fv ((RM.firsts rows b).map (hdrV m G))

theorem GrpS.more {w wr w' : World} {own : Nat → Nat} {m : Nat} {G : Nat → Nat} {rows : List (List Int)} {b : Nat} {cv fv : Value} (h : GrpS w wr own m G rows b cv fv) (hx : Ext wr w') : GrpS w w' own m G rows b cv fv := ⟨h.ext.trans hx, h.cls.ext hx, h.fst.ext hx⟩
theorem range_snoc {α : Type} (f : Nat → α) (b : Nat) : (List.range (b + 1)).map f = (List.range b).map f ++ [f b] := by rw [List.range_succ, List.map_append]; rfl
/-- a class is put behind -/
theorem GrpS.cls_push {w wr w2 w4 : World} {own : Nat → Nat} {m : Nat} {G : Nat → Nat} {rows : List (List Int)} {b : Nat} {cv cv' fv : Value} (h1 : Ext w wr) (hc : Lst 1 wr own w.heap.size 3 cv (intsV (nI ((List.range b).map (RM.cls rows)))))
    (hf : Lst 2 wr own w.heap.size 112 fv ((RM.firsts rows (b + 1)).map (hdrV m G))) (hx : Ext wr w2) (hown : w4.ownsRow w.heap.size 3 1 cv' (b + 1) (intsV (nI ((List.range b).map (RM.cls rows))) ++ [.int .i64 (RM.cls rows b : Nat)]))
    (hg : w2.grownBy w4 cv.ownBlock) (hat : cv'.ownBlock = cv.ownBlock ∨ cv'.ownBlock = some w2.heap.size) : ∃ own', GrpS w w4 own' m G rows (b + 1) cv' fv := by
  have hl : (intsV (nI ((List.range b).map (RM.cls rows)))).length = b := by simp [intsV, nI]
  obtain ⟨h2, h3⟩ := hc.push hx (by rw [hl]; exact hown) hg hat
  refine ⟨_, hc.push_ext h1 (Nat.le_refl _) hx hg, ?_, hf.keep h3 (by simp)⟩
  rw [range_snoc, nI_snoc]
  have e : intsV (nI ((List.range b).map (RM.cls rows)) ++ [(RM.cls rows b : Int)]) = intsV (nI ((List.range b).map (RM.cls rows))) ++ [.int .i64 (RM.cls rows b : Nat)] := by simp [intsV]
  rw [e]; exact h2

def GroupedR (rows : List (List Int)) (w : World) (e : Ending) (w' : World) : Prop :=
  ∃ cv, e = .returned (.tuple #[cv, .int .i64 (RM.ncls rows : Nat)]) ∧ w'.ownsRow w.heap.size 3 1 cv (intsV (nI ((List.range LM.rowLen).map (RM.cls rows)))).length (intsV (nI ((List.range LM.rowLen).map (RM.cls rows)))) ∧ Ext w w'

set_option maxRecDepth 100000 in
set_option maxHeartbeats 1000000 in
theorem grouped_c {w : World} {gL cap m : Nat} {G : Nat → Nat} {F : Nat → Nat → Int} {rows : List (List Int)} (h : ColsIn w gL m G F) (hm : m ≤ 100) (hF : ∀ a b, a < 256 → b < 256 → alike (F a) (F b) (m * 8) = RM.same rows a b) :
    Calls Tryd.prog 67 #[.slice (some ⟨gL, 0, none⟩) 256 cap, .func (.func 68) #[] #[]] w (GroupedR rows w) := by
  have H := Lib.hid (And.intro h hF)
  clear h hF
  go_enter Tryd.func67, Tryd.ntmps67
  go_wp2_with fail
  go_loopw [6, 7, 13] (fun cv fv iv wr => ∃ (b : Nat) (own : Nat → Nat), b ≤ 256 ∧ iv = .int .i64 b ∧ GrpS w wr own m G rows b cv fv) (fun _ _ iv _ => 256 - (intOf iv).toNat)
  case atStart => exact ⟨0, fun _ => 0, Nat.zero_le _, rfl, Ext.refl _, Lst.nil _ _ _ _ _, Lst.nil _ _ _ _ _⟩
  case round =>
    obtain ⟨b, own, hb, rfl, hS⟩ := hrel
    by_cases hlt : b < 256
    · have c0 := hS.ext.cell (H.out.1.hdr b hlt)
      obtain ⟨K, hK⟩ : ∃ K, K = LM.cnt (RM.col rows) b := ⟨_, rfl⟩
      have hKb : K ≤ b := by rw [hK]; exact LM.cnt_le _ _
      have hfl := RM.firsts_len rows b
      rw [← hK] at hfl
      obtain ⟨af, cf, hfv⟩ : ∃ a c, u7 = .slice a K c := by
        obtain ⟨a, c, e, _⟩ := own_read hS.fst.row
        rw [List.length_map, hfl] at e
        exact ⟨a, c, e⟩
      subst hfv
      have hj1 : (b : Int) < 256 := by omega
      have HS := Lib.hid (And.intro hS (And.intro hK hfl))
      clear hS hK hfl
      go_wp2
      have hend : ∀ k wi, k ≤ K → Ext wr wi → (∀ j a, j < k → (RM.firsts rows b)[j]? = some a → RM.same rows a b = false) → (k = K ∨ ∃ a, (RM.firsts rows b)[k]? = some a ∧ RM.same rows a b = true) →
          k = RM.cls rows b ∧ RM.firsts rows (b + 1) = (if k = K then RM.firsts rows b ++ [b] else RM.firsts rows b) := fun k _ h1 _ h2 h3 => by
        have hK := HS.out.2.1
        rw [hK] at h1 h3 ⊢
        exact RM.found_cls h1 h2 h3
      have HE := Lib.hid hend
      clear hend
      go_loopw [10] (fun kv wi => Ext wr wi ∧ ∃ k : Nat, k ≤ K ∧ kv = .int .i64 k ∧ ∀ j a, j < k → (RM.firsts rows b)[j]? = some a → RM.same rows a b = false) (fun kv _ => K - (intOf kv).toNat)
      case atStart => exact ⟨Ext.refl _, 0, Nat.zero_le _, rfl, fun j a hj => by omega⟩
      case round =>
        rename World => wr0
        obtain ⟨hx, k, hk, rfl, hn⟩ := hrel
        by_cases hkK : k < K
        · obtain ⟨a, ha⟩ : ∃ a, (RM.firsts rows b)[k]? = some a := ⟨_, List.getElem?_eq_getElem (by rw [HS.out.2.2]; exact hkK)⟩
          obtain ⟨hab, _, _⟩ := RM.firsts_of ha
          have hfs := HS.out.1.fst.ext hx
          obtain ⟨gf, cf', hfv, _, _, _⟩ := hfs.slc (by rw [List.length_map, HS.out.2.2]; omega)
          rw [List.length_map, HS.out.2.2] at hfv
          simp only [Value.slice.injEq, true_and] at hfv
          obtain ⟨rfl, rfl⟩ := hfv
          have cf := hfs.cell (i := k) (x := hdrV m G a) (by rw [List.getElem?_map, ha]; rfl)
          unfold hdrV at cf
          have hw := HS.out.1.ext.trans hx
          have heq := equal_c hm (rowIs_ext hw (H.out.1.col a (by omega))) (rowIs_ext hw (H.out.1.col b hlt))
          rw [H.out.2 a b (by omega) hlt] at heq
          obtain ⟨r, hr⟩ : ∃ r, r = RM.same rows a b := ⟨_, rfl⟩
          rw [← hr] at heq
          have hj2 : (k : Int) < K := by omega
          have HQ := Lib.hid (And.intro heq (And.intro hr (And.intro ha (And.intro hx hn))))
          clear heq hr ha hx hn hfs hw
          go_wp2_with fail
          refine HQ.out.1.mono ?_
          rintro e w5 ⟨rfl, hx5⟩
          have HX5 := Lib.hid (HQ.out.2.2.2.1.trans hx5)
          clear hx5 cf
          cases r
          · go_wp2
            go_roundw
            case rel => exact ⟨HX5.out, k + 1, by omega, by go_num, fun j a' hj ha' => by
              by_cases e : j = k
              · subst e
                have := HQ.out.2.2.1
                rw [this] at ha'
                obtain rfl := Option.some.inj ha'
                exact HQ.out.2.1.symm
              · exact HQ.out.2.2.2.2 j a' (by omega) ha'⟩
            case measure => simp [intOf]; omega
          · obtain ⟨hkc, hfb⟩ := HE.out k w5 hk HX5.out HQ.out.2.2.2.2 (.inr ⟨a, HQ.out.2.2.1, HQ.out.2.1.symm⟩)
            rw [if_neg (by omega)] at hfb
            have hne : ((k : Int) == (K : Int)) = false := by simp; omega
            have hS5 := HS.out.1.more HX5.out
            have hl : (intsV (nI ((List.range b).map (RM.cls rows)))).length = b := by simp [intsV, nI]
            obtain ⟨i0, hi0, hz0, hz1, hz2⟩ := info_parts int_info
            have hown := (hS5.cls.ext (Ext.box w5 (.cells #[.int .i64 (k : Int)] 3))).row
            rw [hl] at hown
            have hcell := cell_one_new w5 (.int .i64 (k : Int)) 3
            have h1c : ∀ u ∈ [Value.int .i64 (k : Int)], u.oneCell' = true := by intro u hu; simp at hu; subst hu; rfl
            have hbase : w.heap.size ≤ (w5.alloc (.cells #[.int .i64 (k : Int)] 3)).heap.size := by have := hS5.ext.size; simp; omega
            have hmax : b + 1 ≤ maxLen := by unfold maxLen; omega
            have HS5 := Lib.hid (And.intro hS5 (And.intro hkc hfb))
            clear hS5 hkc hfb
            go_wp2_with (at_builtin; refine wpList_append_own_at _ rfl _ _ 23 rfl w.heap.size 3 i0 (.int .i64 0) 1 8 Tryd.underlying23 hi0 hz0 hz1 hz2 rfl (by decide) _ _ _ rfl hown ⟨w5.heap.size, 0, none⟩ 1 1 [.int .i64 (k : Int)] rfl rfl hcell h1c hmax (by omega) hbase ?_; intro v' W hown' hg _ hat)
            rw [HS5.out.2.1] at hown' hg hat
            have hf2 := HS5.out.1.fst
            rw [← HS5.out.2.2] at hf2
            obtain ⟨own2, h7⟩ := GrpS.cls_push HS5.out.1.ext HS5.out.1.cls hf2 (Ext.box _ _) hown' hg hat
            go_roundw
            case rel => exact ⟨b + 1, own2, by omega, by go_num, h7⟩
            case measure => simp [intOf]; omega
        · obtain rfl : K = k := by omega
          obtain ⟨hkc, hfb⟩ := HE.out K wr0 hk hx hn (.inl rfl)
          rw [if_pos rfl] at hfb
          have hne : ((K : Int) == (K : Int)) = true := by simp
          have hS5 := HS.out.1.more hx
          have hl2 : ((RM.firsts rows b).map (hdrV m G)).length = K := by rw [List.length_map]; exact HS.out.2.2
          obtain ⟨j0, hj0, hw0, hw1, hw2⟩ := info_parts piece1_info
          have hown := (hS5.fst.ext (Ext.box wr0 (.cells #[.slice (some ⟨G b, 0, none⟩) m m] 112))).row
          rw [hl2] at hown
          have hcell := cell_one_new wr0 (.slice (some ⟨G b, 0, none⟩) m m) 112
          have h1c : ∀ u ∈ [Value.slice (some ⟨G b, 0, none⟩) m m], u.oneCell' = true := by intro u hu; simp at hu; subst hu; rfl
          have hbase : w.heap.size ≤ (wr0.alloc (.cells #[.slice (some ⟨G b, 0, none⟩) m m] 112)).heap.size := by have := hS5.ext.size; simp; omega
          have hmax : K + 1 ≤ maxLen := by unfold maxLen; omega
          have HS5 := Lib.hid (And.intro hS5 (And.intro hkc (And.intro hfb hl2)))
          clear hS5 hkc hfb hx hn hl2
          have hl : (intsV (nI ((List.range b).map (RM.cls rows)))).length = b := by simp [intsV, nI]
          obtain ⟨i0, hi0, hz0, hz1, hz2⟩ := info_parts int_info
          have h1d : ∀ u ∈ [Value.int .i64 (K : Int)], u.oneCell' = true := by intro u hu; simp at hu; subst hu; rfl
          have hmax2 : b + 1 ≤ maxLen := by unfold maxLen; omega
          have HL := Lib.hid hl
          clear hl
          go_wp2_with (at_builtin; first | (refine wpList_append_own_at _ rfl _ _ 111 rfl w.heap.size 112 j0 (.slice none 0 0) 1 24 Tryd.underlying111 hj0 hw0 hw1 hw2 rfl (by decide) _ _ _ rfl hown ⟨wr0.heap.size, 0, none⟩ 1 1 [.slice (some ⟨G b, 0, none⟩) m m] rfl rfl hcell h1c hmax (by omega) hbase ?_; intro v1 W1 hown1 hg1 _ hat1; have hq := Lst.push HS5.out.1.fst (Ext.box _ _) (by rw [HS5.out.2.2.2]; exact hown1) hg1 hat1; have hx1 := Lst.push_ext HS5.out.1.fst HS5.out.1.ext (Nat.le_refl _) (Ext.box _ _) hg1; have hc1 := HS5.out.1.cls.keep hq.2 (by simp); have hownC := (hc1.ext (Ext.box W1 (.cells #[.int .i64 (K : Int)] 3))).row; rw [HL.out] at hownC; have hcellC := cell_one_new W1 (.int .i64 (K : Int)) 3; have hbaseC : w.heap.size ≤ (W1.alloc (.cells #[.int .i64 (K : Int)] 3)).heap.size := by (have := hx1.size; simp; omega)) | (refine wpList_append_own_at _ rfl _ _ 23 rfl w.heap.size 3 i0 (.int .i64 0) 1 8 Tryd.underlying23 hi0 hz0 hz1 hz2 rfl (by decide) _ _ _ rfl hownC ⟨W1.heap.size, 0, none⟩ 1 1 [.int .i64 (K : Int)] rfl rfl hcellC h1d hmax2 (by omega) hbaseC ?_; intro v2 W2 hown2 hg2 _ hat2))
          have hf2 := hq.1
          rw [show (RM.firsts rows b).map (hdrV m G) ++ [.slice (some ⟨G b, 0, none⟩) m m] = (RM.firsts rows (b + 1)).map (hdrV m G) by rw [HS5.out.2.2.1, List.map_append]; rfl] at hf2
          rw [HS5.out.2.1] at hown2 hg2 hat2
          obtain ⟨own2, h7⟩ := GrpS.cls_push hx1 hc1 hf2 (Ext.box _ _) hown2 hg2 hat2
          go_roundw
          case rel => exact ⟨b + 1, own2, by omega, by go_num, h7⟩
          case measure => simp [intOf]; omega
    · obtain rfl : b = 256 := by omega
      obtain ⟨K, hK⟩ : ∃ K, K = LM.cnt (RM.col rows) 256 := ⟨_, rfl⟩
      obtain ⟨af, cf, hfv⟩ : ∃ a c, u7 = .slice a K c := by
        obtain ⟨a, c, e, _⟩ := own_read hS.fst.row
        rw [List.length_map, RM.firsts_len, ← hK] at e
        exact ⟨a, c, e⟩
      subst hfv
      have HS := Lib.hid (And.intro hS hK)
      clear hS hK hlt
      go_wp2
      go_ret2
      refine ⟨u6, ?_, ?_, HS.out.1.ext⟩
      · unfold RM.ncls; rw [LM.rowLen_eq, ← HS.out.2]; rfl
      · rw [LM.rowLen_eq]; exact HS.out.1.cls.row
end Go.Proofs.YtloooajippcdlaaDoor
