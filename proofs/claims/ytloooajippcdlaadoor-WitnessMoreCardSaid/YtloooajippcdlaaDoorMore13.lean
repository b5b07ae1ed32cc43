/- bolterlaw13.WitnessMore. -/
import Derived.Test.YtloooajippcdlaaDoorDif13
import Derived.Test.YtloooajippcdlaaDoorRefNever
import Derived.Test.YtloooajippcdlaaDoorNevNo
import Derived.Test.YtloooajippcdlaaDoorEqDs
import Derived.Test.YtloooajippcdlaaDoorWakes13
import Derived.Deep.CutBlock
namespace Go.Proofs.YtloooajippcdlaaDoor
open Go.RowKit

theorem DensesV.take {w : World} {a : Option Addr} {n c m : Nat} {L : List Dn} (h : DensesV w (.slice a n c) L) (hm : m ≤ L.length) : DensesV w (.slice a m c) (L.take m) := by
  obtain ⟨h1, a', c', hv, h3, h4⟩ := h
  simp only [Value.slice.injEq] at hv
  obtain ⟨rfl, rfl, rfl⟩ := hv
  have hl : (L.take m).length = m := by rw [List.length_take]; omega
  refine ⟨by omega, a, c, by rw [hl], ⟨by omega, h3.2⟩, fun h0 => ?_⟩
  obtain ⟨b, o, h5, h6⟩ := h4 (by omega)
  exact ⟨b, o, h5, fun i x hx => h6 i x (by
    have hlt := (List.getElem?_eq_some_iff.1 hx).1
    rw [List.getElem?_take_of_lt (by omega)] at hx
    exact hx)⟩

theorem allMay_snoc {L : List Dn} {i : Nat} {d : Dn} (h : L[i]? = some d) : (∀ x ∈ L.take (i + 1), May x) ↔ (∀ x ∈ L.take i, May x) ∧ May d := by
  rw [take_snoc' h]
  constructor
  · intro h1
    exact ⟨fun x hx => h1 x (List.mem_append.2 (.inl hx)), h1 d (by simp)⟩
  · rintro ⟨h1, h2⟩ x hx
    rcases List.mem_append.1 hx with h3 | h3
    · exact h1 x h3
    · rw [List.mem_singleton] at h3; subst h3; exact h2

set_option maxRecDepth 100000 in
set_option maxHeartbeats 16000000 in
theorem more13_c {w : World} {v0 : Value} {L : List Dn} {rules : Int} {a : Nat → Addr} (h : DensesV w v0 L) (hf : ∀ d ∈ L, Reach d) (hS : Sents w a) :
    Calls Tryd.prog 5 #[.agg #[v0, .int .i64 rules]] w fun e w' => e = .returned (.bool true) ∧ Ext w w' := by
  have hDL := h
  obtain ⟨h0, la, lc, rfl, hlc0, hlo⟩ := h.open
  obtain ⟨LN, hLN⟩ : ∃ N, N = L.length := ⟨_, rfl⟩
  rw [← hLN] at h0 hlo hlc0 hDL ⊢
  obtain ⟨W, hW⟩ : ∃ W, W = w.alloc (.cells #[.slice la LN lc, .int .i64 rules] 46) := ⟨_, rfl⟩
  have hx : Ext w W := by rw [hW]; exact Ext.box _ _
  obtain ⟨pb, hpb⟩ : ∃ b, b = w.heap.size := ⟨_, rfl⟩
  have hb : ∀ W', Ext W W' → W'.cell? ⟨pb, 0, none⟩ = some (.slice la LN lc) ∧ W'.cell? ⟨pb, 1, none⟩ = some (.int .i64 rules) := fun W' hx' => by
    refine ⟨hx'.cell ?_, hx'.cell ?_⟩ <;> (rw [hW, hpb]; simp)
  have hloW : 0 < LN → ∃ b o, la = some ⟨b, o, none⟩ ∧ ∀ i d, L[i]? = some d → ∃ an cn al cl, (∀ W', Ext W W' → W'.cell? ⟨b, o + i * 2, none⟩ = some (.slice an d.next.length cn) ∧ W'.cell? ⟨b, o + i * 2 + 1, none⟩ = some (.slice al d.label.length cl)) ∧ DenseV W (.agg #[.slice an d.next.length cn, .slice al d.label.length cl]) d := fun hp => by
    obtain ⟨b, o, e, h1⟩ := hlo hp
    refine ⟨b, o, e, fun i d hd => ?_⟩
    obtain ⟨an, cn, al, cl, c0, c1, hdv⟩ := h1 i d hd
    exact ⟨an, cn, al, cl, fun W' hx' => ⟨(hx.trans hx').cell c0, (hx.trans hx').cell c1⟩, hdv.ext hx⟩
  have H := Lib.hid (And.intro hloW (And.intro hf (And.intro hLN (And.intro (hS.ext hx) (And.intro hb (And.intro hx (And.intro (hDL.ext hx) hlc0)))))))
  have HW := Lib.hid hW
  clear h hlo hf hS hLN hb hx hloW hDL hlc0 hW
  go_enter Tryd.func5, Tryd.ntmps5
  go_upto_block 0 with fail
  rw [← HW.out]
  rw [← hpb]
  clear hpb
  go_cut [3, 4] (fun fv mv wx => ∃ (i : Nat) (hs : List (Value × Value)) (m : Bool), i ≤ LN ∧ i ≤ 6 ∧ mv = .bool m ∧ (m = true ↔ ∀ d ∈ L.take i, May d) ∧ OwnDs W wx fv i hs (L.take i))
  case first =>
    go_wp2_with fail
    go_loopw [3, 4, 5] (fun fv mv iv wr => ∃ (i : Nat) (hs : List (Value × Value)) (m : Bool), i ≤ LN ∧ i ≤ 6 ∧ iv = .int .i64 i ∧ mv = .bool m ∧ (m = true ↔ ∀ d ∈ L.take i, May d) ∧ OwnDs W wr fv i hs (L.take i)) (fun _ _ iv _ => LN - (intOf iv).toNat)
    case atStart => exact ⟨0, [], true, Nat.zero_le _, by omega, rfl, rfl, by simp, OwnDs.nil W⟩
    case round =>
      obtain ⟨i, hs, m, hi, hi6, rfl, rfl, hm, hO⟩ := hrel
      obtain ⟨ao, co, hov⟩ := own_shpD hO.row
      subst hov
      obtain ⟨p0, p1⟩ := H.out.2.2.2.2.1 _ hO.ext
      by_cases hgo : i < LN ∧ i < 6
      · obtain ⟨g1, g2⟩ := hgo
        have hj1 : (i : Int) < LN := by omega
        have hj2 : (i : Int) < 6 := by omega
        obtain ⟨lb, lo, rfl, hlc⟩ := H.out.1 (by omega)
        obtain ⟨d, hd⟩ : ∃ d, L[i]? = some d := ⟨_, List.getElem?_eq_getElem (by rw [← H.out.2.2.1]; exact g1)⟩
        obtain ⟨an, cn, al, cl, hcc, hdv⟩ := hlc i d hd
        obtain ⟨c0, c1⟩ := hcc _ hO.ext
        have hrd := H.out.2.1 d (List.mem_of_getElem? hd)
        have hcp := copyDense_c (hdv.ext hO.ext) hrd
        unfold CopiedDense at hcp
        have hmy := fun W' (hx' : Ext W W') => may_c (hdv.ext hx')
        have htk := take_snoc' hd
        have hms := allMay_snoc hd
        generalize d.next.length = n1 at *
        generalize d.label.length = n2 at *
        have HC := Lib.hid (And.intro hcp (And.intro hO (And.intro htk (And.intro hrd (And.intro hmy (And.intro hcc (And.intro hm hms)))))))
        clear hcp hO htk hrd hmy hcc hdv hlc hd hm hms
        by_cases h40 : 40 < n1
        · have hj3 : (40 : Int) < n1 := by omega
          go_wp2_with fail
          refine (wakes13_c _).mono ?_
          rintro e w1 ⟨rfl, hx1⟩
          have HX := Lib.hid (H.out.2.2.2.2.2.1.trans (HC.out.2.1.ext.trans hx1))
          clear hx1
          go_wp2
          go_ret
          exact ⟨rfl, HX.out⟩
        · have hj3 : ¬ (40 : Int) < n1 := by omega
          go_wp2_with fail
          refine HC.out.1.mono ?_
          rintro e w2 ⟨xn, xl, own, hs2, rfl, hOd, hx2⟩
          have hin := copied_in hOd HC.out.2.2.2.1
          obtain ⟨rn, sn, rl, sl, hxv, _⟩ := hin.dense.open
          simp only [Value.agg.injEq, Array.mk.injEq, List.cons.injEq, and_true] at hxv
          obtain ⟨rfl, rfl⟩ := hxv
          generalize d.next.length = m1 at *
          generalize d.label.length = m2 at *
          have hx3 : Ext w2 (w2.alloc (.cells #[.slice rn m1 sn, .slice rl m2 sl] 25)) := Ext.box _ _
          have hO3 := HC.out.2.1.more (hx2.trans hx3)
          have hin3 := (hin.ext hx3).mono (Z' := fun g => (Value.slice ao i co).ownBlock ≠ some g) (fun g _ hz e => by
            have h1 := (HC.out.2.1.row.lt g e).2
            omega)
          obtain ⟨j0, hj, hw0, hw1, hw2⟩ := info_parts dense_infoN
          have hown := hO3.row
          have hnews := World.news_of_block (heap_alloc_new w2 (.cells #[.slice rn m1 sn, .slice rl m2 sl] 25))
          have h1c : ∀ u ∈ [Value.slice rn m1 sn, .slice rl m2 sl], u.oneCell' = true := by intro u hu; simp at hu; rcases hu with rfl | rfl <;> rfl
          have hbase : W.heap.size ≤ (w2.alloc (.cells #[.slice rn m1 sn, .slice rl m2 sl] 25)).heap.size := hO3.ext.size
          have hmax : i + 1 ≤ maxLen := by unfold maxLen; omega
          have HO3 := Lib.hid (And.intro hO3 hin3)
          clear hx3 hx2 hO3 hin3 hin hOd p0 p1 c0 c1
          go_upto_region 9 with (at_builtin; refine wpList_append_own_at _ rfl _ _ 44 rfl W.heap.size 25 j0 (.agg #[.slice none 0 0, .slice none 0 0]) 2 48 Tryd.underlying44 hj hw0 hw1 hw2 rfl (by decide) _ _ _ rfl hown ⟨w2.heap.size, 0, none⟩ 1 1 [.slice rn m1 sn, .slice rl m2 sl] rfl rfl hnews h1c hmax (by omega) hbase ?_; intro v' W4 hown' hg _ hat)
          have h7 := HO3.out.1.push HO3.out.2 hown' hg hat
          rw [← HC.out.2.2.1] at h7
          obtain ⟨p0, p1⟩ := H.out.2.2.2.2.1 _ h7.ext
          obtain ⟨c0, c1⟩ := HC.out.2.2.2.2.2.1 _ h7.ext
          have H7 := Lib.hid h7
          clear h7 hown' hg hat hown hnews h1c hbase hj hw0 hw1 hw2
          cases m
          · go_wp2_with fail
            go_roundw
            case rel => exact ⟨i + 1, _, false, by omega, by omega, by go_num, rfl, by
              have h1 := HC.out.2.2.2.2.2.2.1
              have h2 := HC.out.2.2.2.2.2.2.2
              rw [h2]
              constructor
              · intro h; cases h
              · rintro ⟨h, _⟩; exact h1.2 h, H7.out⟩
            case measure => simp [intOf]; omega
          · go_wp2_with fail
            refine (HC.out.2.2.2.2.1 _ H7.out.ext).mono ?_
            rintro e w5 ⟨rfl, hx5⟩
            have H8 := Lib.hid (H7.out.more hx5)
            clear hx5 p0 p1 c0 c1
            obtain ⟨mb, hmb⟩ : ∃ b, b = mayB d := ⟨_, rfl⟩
            rw [← hmb]
            have HM := Lib.hid hmb
            clear hmb
            go_wp2_with fail
            go_roundw
            case rel => exact ⟨i + 1, _, mb, by omega, by omega, by go_num, rfl, by
              have h1 := HC.out.2.2.2.2.2.2.1
              have h2 := HC.out.2.2.2.2.2.2.2
              rw [h2, HM.out, mayB_true]
              exact ⟨fun h => ⟨h1.1 (by simp), h⟩, fun h => h.2⟩, H8.out⟩
            case measure => simp [intOf]; omega
      · have hguard : (¬ (i : Int) < LN) ∨ ((i : Int) < LN ∧ ¬ (i : Int) < 6) := by omega
        have HO := Lib.hid (And.intro hm hO)
        clear hO hm hgo
        rcases hguard with hj1 | ⟨hj1, hj2⟩
        all_goals
          go_wp2_with fail
          go_meet
          exact ⟨i, hs, m, hi, hi6, rfl, HO.out.1, HO.out.2⟩
  case rest =>
    rename World => w3
    obtain ⟨i, hs, m, hi, hi6, rfl, hm, hO⟩ := hcut
    obtain ⟨ao, co, hov⟩ := own_shpD hO.row
    subst hov
    obtain ⟨p0, p1⟩ := H.out.2.2.2.2.1 _ hO.ext
    have hD := hO.read (by omega)
    have hxW3 := hO.ext
    have hl6 : (L.take i).length ≤ 6 := by rw [hO.llen]; exact hi6
    have HO := Lib.hid (And.intro hD (And.intro hO.ext (And.intro hO.llen hm)))
    clear hO hm
    go_upto_region 10 with fail
    go_cut [6, 7] (fun nv ev wx => Ext w3 wx ∧ (((∀ d ∈ L.take i, May d) ∧ (∃ r : Nat, rules = r ∧ r ≤ 200 ∧ ∃ na nn nc, nv = .slice na nn nc ∧ Ints wx (.slice na nn nc) ((neverA (L.take i) r).map fun (r : Nat) => (r : Int))) ∧ ev = .nilIface) ∨ (¬ ((∀ d ∈ L.take i, May d) ∧ 0 ≤ rules ∧ rules ≤ 200) ∧ nv = .slice none 0 0 ∧ ev = .iface 200 (.pointer (some (a 15))))))
    case first =>
      by_cases hok : (∀ d ∈ L.take i, May d) ∧ 0 ≤ rules ∧ rules ≤ 200
      · obtain ⟨r, rfl⟩ : ∃ r : Nat, rules = r := ⟨rules.toNat, by omega⟩
        have hr2 : r ≤ 200 := by omega
        have hnc := never_c (rules := r) hD hok.1 (by omega) hr2
        have HN := Lib.hid (And.intro hnc hok.1)
        clear hnc hD hok hxW3
        go_wp2_with fail
        refine HN.out.1.mono ?_
        rintro e w4 ⟨nv, rfl, hiv, hx4⟩
        obtain ⟨_, na, nc, rfl, _⟩ := hiv.open
        have H4 := Lib.hid (And.intro hiv hx4)
        clear hiv hx4 p0 p1
        go_wp2_with fail
        go_meet
        exact ⟨H4.out.2, .inl ⟨HN.out.2, ⟨r, rfl, hr2, _, _, _, rfl, by have h9 := H4.out.1; rw [List.length_map] at h9; exact h9⟩, rfl⟩⟩
      · have hnc := never_no hD hok (H.out.2.2.2.1.ext hxW3)
        have HN := Lib.hid (And.intro hnc hok)
        clear hnc hD hok hxW3
        go_wp2_with fail
        refine HN.out.1.mono ?_
        rintro e w4 ⟨rfl, hx4⟩
        have H4 := Lib.hid hx4
        clear hx4 p0 p1
        go_wp2_with fail
        go_meet
        exact ⟨H4.out, .inr ⟨HN.out.2, rfl, rfl⟩⟩
    case rest =>
      rename World => w4
      obtain ⟨hx4, hcs⟩ := hcut
      have hxW4 := hxW3.trans hx4
      obtain ⟨p0, p1⟩ := H.out.2.2.2.2.1 _ hxW4
      have HC := Lib.hid (And.intro hcs (And.intro hx4 hxW4))
      clear hcs hx4 hxW4 hxW3 hD
      go_upto_region 11 with fail
      go_cut [70] (fun bv wx => wx = w4 ∧ ∃ b : Bool, bv = .bool b ∧ (b = false ↔ (∀ d ∈ L.take i, May d) ∧ 0 ≤ rules ∧ rules ≤ 200))
      case first =>
        cases m
        · go_wp2_with fail
          go_meet
          exact ⟨rfl, true, rfl, by simp only [Bool.true_eq_false, false_iff]; rintro ⟨h, _⟩; exact absurd (HO.out.2.2.2.2 h) (by simp)⟩
        · by_cases h1 : rules < 0
          · go_wp2_with fail
            go_meet
            exact ⟨rfl, true, rfl, by simp only [Bool.true_eq_false, false_iff]; rintro ⟨_, h, _⟩; omega⟩
          · by_cases h2 : 200 < rules
            · go_wp2_with fail
              go_meet
              exact ⟨rfl, true, rfl, by simp only [Bool.true_eq_false, false_iff]; rintro ⟨_, _, h⟩; omega⟩
            · go_wp2_with fail
              go_meet
              exact ⟨rfl, false, rfl, ⟨fun _ => ⟨HO.out.2.2.2.1 (by simp), by omega, by omega⟩, fun _ => rfl⟩⟩
      case rest =>
        obtain ⟨rfl, b, rfl, hb⟩ := hcut
        rename World => w4
        go_upto_if 70 with fail
        go_cut [] (fun wx => Ext w4 wx)
        case first =>
          rcases HC.out.1 with ⟨hmy, ⟨r, hr, hr2, na, nn, nc, rfl, hi1⟩, rfl⟩ | ⟨hno, rfl, rfl⟩
          · obtain rfl : b = false := hb.2 ⟨hmy, by omega, by omega⟩
            have hrn := refNever_c (rules := r) (HO.out.1.ext HC.out.2.1) hmy (by omega) hr2
            subst hr
            have HR := Lib.hid (And.intro hrn hi1)
            clear hrn hi1
            go_wp2_with fail
            refine HR.out.1.mono ?_
            rintro e w5 ⟨rv, rfl, hi2, hx5⟩
            have heq := eqInts_b (r := true) (IntsK.ext hx5 HR.out.2) hi2 (by simp)
            have H5 := Lib.hid (And.intro heq hx5)
            clear heq hi2 hx5 p0 p1
            go_wp2_with fail
            refine H5.out.1.mono ?_
            rintro e w6 ⟨rfl, hx6⟩
            have HX := Lib.hid (H5.out.2.trans hx6)
            clear hx6
            go_wp2_with fail
            go_meet
            exact HX.out
          · obtain rfl : b = true := by
              cases b
              · exact absurd (hb.1 rfl) hno
              · rfl
            go_wp2_with fail
            refine (isFault_c 15 _).mono ?_
            rintro e w8 ⟨rfl, hx8⟩
            have hsm := same_arg (H.out.2.2.2.1.ext (HC.out.2.2.trans hx8))
            have H8 := Lib.hid (And.intro hsm hx8)
            clear hsm hx8
            unfold faultV at H8 ⊢
            go_wp2_with fail
            refine H8.out.1.mono ?_
            rintro e w9 ⟨rfl, hx9⟩
            have HX := Lib.hid (H8.out.2.trans hx9)
            clear hx9
            go_wp2_with fail
            go_meet
            exact HX.out
        case rest =>
          rename World => w5
          have hx5 : Ext w4 w5 := hcut
          have hx35 := HC.out.2.1.trans hx5
          have hxW5 := HC.out.2.2.trans hx5
          clear hcut hx5 p0 p1 hb
          have hD5 := HO.out.1.ext hx35
          obtain ⟨_, aoD, coD, hvD, _, hopen⟩ := hD5.open
          simp only [Value.slice.injEq] at hvD
          obtain ⟨rfl, -, rfl⟩ := hvD
          rw [HO.out.2.2.1] at hopen
          have HL := Lib.hid (And.intro hopen (And.intro hD5 (And.intro hxW5 hx35)))
          clear hopen hD5 hxW5 hx35
          go_wp2_with fail
          go_loopw [8] (fun kv wr => Ext w5 wr ∧ ∃ j : Nat, (j + 1 ≤ i ∨ j = 0) ∧ kv = .int .i64 ((j + 1 : Nat) : Int)) (fun kv _ => i + 1 - (intOf kv).toNat)
          case atStart => exact ⟨Ext.refl _, 0, .inr rfl, rfl⟩
          case round =>
            obtain ⟨hx, j, hj, rfl⟩ := hrel
            obtain ⟨k, hk⟩ : ∃ k, k = j + 1 := ⟨_, rfl⟩
            rw [← hk]
            by_cases hlt : k < i
            · have hj1 : (k : Int) < i := by omega
              have hj2 : IntKind.i64.wrap ((k : Int) - 1) = (j : Int) := (IntWalk.i64_in _ (by omega)).trans (by omega)
              have hj3 : (j : Int) < i := by omega
              have hk6 : k ≤ 6 := by omega
              obtain ⟨b, o, rfl, hlc⟩ := HL.out.1 (by omega)
              obtain ⟨d, hd⟩ : ∃ d, (L.take i)[j]? = some d := ⟨_, List.getElem?_eq_getElem (by rw [HO.out.2.2.1]; omega)⟩
              obtain ⟨f, hf⟩ : ∃ f, (L.take i)[k]? = some f := ⟨_, List.getElem?_eq_getElem (by rw [HO.out.2.2.1]; exact hlt)⟩
              obtain ⟨an, cn, al, cl, c0, c1, hdv⟩ := hlc j d hd
              obtain ⟨bn, en, bl, el, d0, d1, hfv⟩ := hlc k f hf
              have hdL : L[j]? = some d := by rw [← List.getElem?_take_of_lt (show j < i by omega)]; exact hd
              have hfL : L[k]? = some f := by rw [← List.getElem?_take_of_lt hlt]; exact hf
              obtain ⟨lb, lo, rfl, hlo⟩ := H.out.1 (by rw [H.out.2.2.1]; exact Nat.lt_of_le_of_lt (Nat.zero_le _) (List.getElem?_eq_some_iff.1 hdL).1)
              obtain ⟨gn, gc, gl, gd, hg, hgv⟩ := hlo j d hdL
              obtain ⟨kn, kc, kl, kd, hh, hhv⟩ := hlo k f hfL
              have hcel : ∀ W', Ext w5 W' → (W'.cell? ⟨b, o + j * 2, none⟩ = some (.slice an d.next.length cn) ∧ W'.cell? ⟨b, o + j * 2 + 1, none⟩ = some (.slice al d.label.length cl)) ∧ W'.cell? ⟨b, o + k * 2, none⟩ = some (.slice bn f.next.length en) ∧ W'.cell? ⟨b, o + k * 2 + 1, none⟩ = some (.slice bl f.label.length el) := fun W' hx' => ⟨⟨hx'.cell c0, hx'.cell c1⟩, hx'.cell d0, hx'.cell d1⟩
              have hdf := fun W' (hx' : Ext w5 W') => differX_c (hdv.ext hx') (hfv.ext hx') (H.out.2.2.2.1.ext (HL.out.2.2.1.trans hx'))
              have hrf := fun W' (hx' : Ext w5 W') (hmd : May d) (hmf : May f) => refDiffer_c (hgv.ext (HL.out.2.2.1.trans hx')) (hhv.ext (HL.out.2.2.1.trans hx')) hmd hmf
              have hmy := fun W' (hx' : Ext w5 W') => may_c (hdv.ext hx')
              have hmz := fun W' (hx' : Ext w5 W') => may_c (hfv.ext hx')
              have hcg : ∀ W', Ext w5 W' → W'.cell? ⟨pb, 0, none⟩ = some (.slice (some ⟨lb, lo, none⟩) LN lc) ∧ (W'.cell? ⟨lb, lo + j * 2, none⟩ = some (.slice gn d.next.length gc) ∧ W'.cell? ⟨lb, lo + j * 2 + 1, none⟩ = some (.slice gl d.label.length gd)) ∧ W'.cell? ⟨lb, lo + k * 2, none⟩ = some (.slice kn f.next.length kc) ∧ W'.cell? ⟨lb, lo + k * 2 + 1, none⟩ = some (.slice kl f.label.length kd) := fun W' hx' => ⟨(H.out.2.2.2.2.1 _ (HL.out.2.2.1.trans hx')).1, hg _ (HL.out.2.2.1.trans hx'), hh _ (HL.out.2.2.1.trans hx')⟩
              generalize d.next.length = n1 at *
              generalize d.label.length = n2 at *
              generalize f.next.length = m1 at *
              generalize f.label.length = m2 at *
              unfold WitX at hdf
              have hjL : j < LN := by have := (List.getElem?_eq_some_iff.1 hdL).1; rw [← H.out.2.2.1] at this; exact this
              have hkL : k < LN := by have := (List.getElem?_eq_some_iff.1 hfL).1; rw [← H.out.2.2.1] at this; exact this
              have hj4 : (j : Int) < LN := by omega
              have hj5 : (k : Int) < LN := by omega
              have HK := Lib.hid (And.intro hcel (And.intro hdf (And.intro hrf (And.intro hmy (And.intro hmz (And.intro hcg (And.intro hx hk)))))))
              obtain ⟨⟨y0, y1⟩, y2, y3⟩ := hcel _ hx
              have hdr := hdf _ hx.drew
              have HDR := Lib.hid hdr
              clear hcel hdf hrf hmy hmz hcg hx hk hd hf hdL hfL c0 c1 d0 d1 hdv hfv hlc hlo hg hh hgv hhv hdr hjL hkL hj
              go_wp2_with fail
              go_region_held3 (fun W => W.cell? ⟨b, o + j * 2, none⟩ = some (.slice an n1 cn) ∧ W.cell? ⟨b, o + j * 2 + 1, none⟩ = some (.slice al n2 cl) ∧ W.cell? ⟨b, o + k * 2, none⟩ = some (.slice bn m1 en) ∧ W.cell? ⟨b, o + k * 2 + 1, none⟩ = some (.slice bl m2 el)) (first | (with_reducible exact ⟨y0, y1, y2, y3⟩) | (with_reducible exact ⟨i0, i1, i2, i3⟩) | go_keep) ((first | (go_at_call 22; (with_reducible refine HDR.out.mono ?_); rintro e w6 ⟨sa, n9, sc, b9, er, rfl, hx6, hres⟩; have i0 := hx6.cell (a := wr.drew) y0; have i1 := hx6.cell (a := wr.drew) y1; have i2 := hx6.cell (a := wr.drew) y2; have i3 := hx6.cell (a := wr.drew) y3)))
              all_goals
                have hx56 : Ext wr w6 := (Ext.drew (Ext.refl wr)).trans hx6
                have hx5' : Ext w5 w6 := HK.out.2.2.2.2.2.2.1.trans hx56
                clear y0 y1 y2 y3 i0 i1 i2 i3
                obtain ⟨⟨y0, y1⟩, y2, y3⟩ := HK.out.1 _ hx5'
                have hq2 : (k : Int) - 1 = (j : Int) := by have := HK.out.2.2.2.2.2.2.2; omega
                have HW := Lib.hid (And.intro hj2 (And.intro hx5' hres))
                obtain ⟨md, hmd⟩ : ∃ b, b = mayB d := ⟨_, rfl⟩
                obtain ⟨mf, hmf⟩ : ∃ b, b = mayB f := ⟨_, rfl⟩
                have HM := Lib.hid (And.intro hmd hmf)
                clear hj2 hx5' hx56 hx6 hres hmd hmf
                go_wp2_with fail
                refine (HK.out.2.2.2.1 _ HW.out.2.1).mono ?_
                rintro e w7 ⟨rfl, hx7⟩
                rw [← HM.out.1]
                have H7 := Lib.hid (And.intro (HW.out.2.1.trans hx7) hx7)
                clear hx7 y0 y1 y2 y3
                obtain ⟨_, y2, y3⟩ := HK.out.1 _ H7.out.1
                cases md
                · rcases HW.out.2.2 with ⟨⟨hd9, _⟩, _⟩ | ⟨_, rfl, rfl, rfl⟩
                  · exact absurd (mayB_true.2 hd9) (by rw [← HM.out.1]; simp)
                  clear y2 y3 hq2
                  go_wp2_with fail
                  refine (isFault_c 15 _).mono ?_
                  rintro e w8 ⟨rfl, hx8⟩
                  have hsm := same_arg (H.out.2.2.2.1.ext (HL.out.2.2.1.trans (H7.out.1.trans hx8)))
                  have H8 := Lib.hid (And.intro hsm (H7.out.1.trans hx8))
                  clear hsm hx8
                  unfold faultV at H8 ⊢
                  go_wp2_with fail
                  refine H8.out.1.mono ?_
                  rintro e w9 ⟨rfl, hx9⟩
                  have HX := Lib.hid (H8.out.2.trans hx9)
                  clear hx9
                  go_wp2
                  go_roundw
                  case rel => exact ⟨HX.out, k, .inl (by omega), by go_num⟩
                  case measure => simp [intOf]; omega
                · go_wp2_with fail
                  refine (HK.out.2.2.2.2.1 _ H7.out.1).mono ?_
                  rintro e w8 ⟨rfl, hx8⟩
                  rw [← HM.out.2]
                  have H8 := Lib.hid (And.intro (H7.out.1.trans hx8) (H7.out.2.trans hx8))
                  clear hx8 y2 y3 hq2
                  cases mf
                  · rcases HW.out.2.2 with ⟨⟨_, hd9⟩, _⟩ | ⟨_, rfl, rfl, rfl⟩
                    · exact absurd (mayB_true.2 hd9) (by rw [← HM.out.2]; simp)
                    go_wp2_with fail
                    refine (isFault_c 15 _).mono ?_
                    rintro e w9 ⟨rfl, hx9⟩
                    have hsm := same_arg (H.out.2.2.2.1.ext (HL.out.2.2.1.trans (H8.out.1.trans hx9)))
                    have H9 := Lib.hid (And.intro hsm (H8.out.1.trans hx9))
                    clear hsm hx9
                    unfold faultV at H9 ⊢
                    go_wp2_with fail
                    refine H9.out.1.mono ?_
                    rintro e w10 ⟨rfl, hx10⟩
                    have HX := Lib.hid (H9.out.2.trans hx10)
                    clear hx10
                    go_wp2
                    go_roundw
                    case rel => exact ⟨HX.out, k, .inl (by omega), by go_num⟩
                    case measure => simp [intOf]; omega
                  · have hd9 := mayB_true.1 HM.out.1.symm
                    have hf9 := mayB_true.1 HM.out.2.symm
                    rcases HW.out.2.2 with ⟨_, rfl, hbr⟩ | ⟨hno, _⟩
                    · have hrw := HK.out.2.2.1 _ H8.out.1.drew hd9 hf9
                      obtain ⟨p0, ⟨z0, z1⟩, z2, z3⟩ := HK.out.2.2.2.2.2.1 _ H8.out.1
                      have hj2 := HW.out.1
                      have HRW := Lib.hid (And.intro hrw hbr)
                      clear hrw hbr hd9 hf9
                      go_wp2_with fail
                      go_region_held3 (fun W => W.cell? ⟨pb, 0, none⟩ = some (.slice (some ⟨lb, lo, none⟩) LN lc) ∧ W.cell? ⟨lb, lo + j * 2, none⟩ = some (.slice gn n1 gc) ∧ W.cell? ⟨lb, lo + j * 2 + 1, none⟩ = some (.slice gl n2 gd) ∧ W.cell? ⟨lb, lo + k * 2, none⟩ = some (.slice kn m1 kc) ∧ W.cell? ⟨lb, lo + k * 2 + 1, none⟩ = some (.slice kl m2 kd)) (first | (with_reducible exact ⟨p0, z0, z1, z2, z3⟩) | (with_reducible exact ⟨i9, i0, i1, i2, i3⟩) | go_keep) ((first | (go_at_call 23; (with_reducible refine HRW.out.1.mono ?_); rintro e w9 ⟨hs9, hlim⟩; obtain ⟨v2, b2, rfl, hx9, hres9⟩ := SearchR.form hs9; have i9 := hx9.cell (a := w8.drew) p0; have i0 := hx9.cell (a := w8.drew) z0; have i1 := hx9.cell (a := w8.drew) z1; have i2 := hx9.cell (a := w8.drew) z2; have i3 := hx9.cell (a := w8.drew) z3)))
                      all_goals
                        have hx89 : Ext w8 w9 := (Ext.drew (Ext.refl w8)).trans hx9
                        have hx69 := H8.out.2.trans hx89
                        obtain ⟨rfl, u, q1, q2, _, _⟩ := both13 HRW.out.2 hres9 hx69 hlim
                        have hbb : (b9 != b9) = false := by simp
                        have heq := eqBytes_b q1 q2 (r := true) (by simp)
                        have H9 := Lib.hid (And.intro heq (H8.out.1.trans hx89))
                        clear heq hx89 hx69 q1 q2 hres9 hs9 hlim hx9 p0 z0 z1 z2 z3 i9 i0 i1 i2 i3 hj2
                        go_wp2_with fail
                        refine H9.out.1.mono ?_
                        rintro e w10 ⟨rfl, hx10⟩
                        have HX := Lib.hid (H9.out.2.trans hx10)
                        clear hx10
                        go_wp2
                        go_roundw
                        case rel => exact ⟨HX.out, k, .inl (by omega), by go_num⟩
                        case measure => simp [intOf]; omega
                    · exact absurd ⟨hd9, hf9⟩ hno
            · have hj1 : ¬ (k : Int) < i := by omega
              obtain ⟨p0, _⟩ := H.out.2.2.2.2.1 _ (HL.out.2.2.1.trans hx)
              have hiL : i ≤ L.length := by rw [← H.out.2.2.1]; exact hi
              have hd2 := DensesV.take (m := i) H.out.2.2.2.2.2.2.1 hiL
              have heq := eqDenses_c (HL.out.2.1.ext hx) (hd2.ext (HL.out.2.2.1.trans hx))
              have hcap : i ≤ lc := Nat.le_trans hi H.out.2.2.2.2.2.2.2.1
              have hj2 : (i : Int) ≤ lc := by omega
              have HE := Lib.hid (And.intro heq (HL.out.2.2.1.trans hx))
              clear heq hd2 hx hj
              go_wp2_with fail
              refine HE.out.1.mono ?_
              rintro e w9 ⟨rfl, hx9⟩
              have H9 := Lib.hid (HE.out.2.trans hx9)
              clear hx9 p0
              go_wp2_with fail
              refine (wakes13_c _).mono ?_
              rintro e w10 ⟨rfl, hx10⟩
              have HX := Lib.hid (H.out.2.2.2.2.2.1.trans (H9.out.trans hx10))
              clear hx10
              go_wp2
              go_ret
              exact ⟨rfl, HX.out⟩
end Go.Proofs.YtloooajippcdlaaDoor
