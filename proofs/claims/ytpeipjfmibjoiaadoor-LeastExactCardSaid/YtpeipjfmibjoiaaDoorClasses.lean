/- minimise.Classes of an automaton that may be: the classes, numbered as they come first. -/
import Derived.Test.YtpeipjfmibjoiaaDoorBegin
import Derived.Test.YtpeipjfmibjoiaaDoorCheck
import Derived.Deep.DeepCutAuto
namespace Go.Proofs.YtpeipjfmibjoiaaDoor
open Go.RowKit

/-- the numbers of the first k states' classes, in a map -/
structure NumM (P : Nat → Nat) (k : Nat) (F : Int → Option Nat) : Prop where
  look : ∀ s, s < k → F (P s : Int) = some (LM.num P s)
  back : ∀ x y, F x = some y → ∃ s, s < k ∧ x = (P s : Int)

theorem NumM.nil (P : Nat → Nat) : NumM P 0 (fun _ => none) := ⟨fun s hs => by omega, fun x y h => by cases h⟩
theorem NumM.old {P : Nat → Nat} {k : Nat} {F : Int → Option Nat} (h : NumM P k F) {y : Nat} (hF : F (P k : Int) = some y) : NumM P (k + 1) F ∧ y = LM.num P k ∧ LM.cnt P (k + 1) = LM.cnt P k := by
  obtain ⟨s, hs, he⟩ := h.back _ _ hF
  have he : P s = P k := by omega
  have h1 := h.look s hs
  rw [he, hF] at h1
  have h2 : y = LM.num P k := by rw [← (LM.num_eq_iff P).2 he]; simpa using h1
  refine ⟨⟨fun t ht => ?_, fun x y h3 => ?_⟩, h2, ?_⟩
  · by_cases e : t = k
    · subst e; rw [hF, h2]
    · exact h.look t (by omega)
  · obtain ⟨t, ht, hx⟩ := h.back x y h3
    exact ⟨t, by omega, hx⟩
  · simp only [LM.cnt]
    rw [if_neg (by have := LM.leader_least P k s he; omega), Nat.add_zero]
theorem NumM.new {P : Nat → Nat} {k : Nat} {F : Int → Option Nat} (h : NumM P k F) (hF : F (P k : Int) = none) :
    NumM P (k + 1) (fun x => if x = (P k : Int) then some (LM.cnt P k) else F x) ∧ LM.num P k = LM.cnt P k ∧ LM.cnt P (k + 1) = LM.cnt P k + 1 := by
  have hl : LM.leader P k = k := by
    have h1 := LM.leader_le P k
    have h2 := LM.leader_val P k
    by_cases e : LM.leader P k = k
    · exact e
    · have h3 := h.look (LM.leader P k) (by omega)
      rw [h2, hF] at h3; cases h3
  have hn : LM.num P k = LM.cnt P k := by unfold LM.num; rw [hl]
  refine ⟨⟨fun t ht => ?_, fun x y h3 => ?_⟩, hn, by simp only [LM.cnt]; rw [if_pos hl]⟩
  · by_cases e : t = k
    · subst e; rw [if_pos rfl, hn]
    · have h4 := h.look t (by omega)
      rw [if_neg (by intro e2; rw [e2, hF] at h4; cases h4)]
      exact h4
  · by_cases e : x = (P k : Int)
    · exact ⟨k, by omega, e⟩
    · simp only [if_neg e] at h3
      obtain ⟨t, ht, hx⟩ := h.back x y h3
      exact ⟨t, by omega, hx⟩

/-- the state in the loop that numbers -/
structure NumS (w5 wr : World) (B gM : Nat) (P : Nat → Nat) (k j : Nat) (F : Int → Option Nat) (lv : Value) : Prop where
  ext : Ext w5 wr
  seen : IntM wr gM (LM.cnt P k) F
  num : NumM P k F
  row : wr.ownsRow B 3 1 lv j (natV ((List.range j).map (LM.num P)))
  ne : lv.ownBlock ≠ some gM
  gM : w5.heap.size ≤ gM
  hB : B ≤ w5.heap.size
  fresh : ∀ g, lv.ownBlock = some g → w5.heap.size ≤ g

theorem NumS.see {w5 wr w' : World} {B gM : Nat} {P : Nat → Nat} {k : Nat} {F : Int → Option Nat} {lv : Value} (h : NumS w5 wr B gM P k k F lv) (hF : F (P k : Int) = none) {F' : Int → Option Nat} (hF' : F' = fun x => if x = (P k : Int) then some (LM.cnt P k) else F x) (hs : IntM w' gM (LM.cnt P k + 1) F') (ht : wr.mapTurned w' gM) :
    NumS w5 w' B gM P (k + 1) k F' lv := by
  obtain ⟨h1, h2, h3⟩ := h.num.new hF
  refine ⟨Below.grown h.ext ht.grown h.ext.size (fun g e => by simp only [Option.some.injEq] at e; subst e; exact h.gM), by rw [h3]; exact hs, by rw [hF']; exact h1, own_block h.row fun g hg hl => ht.grown.block g hl (by simp only [ne_eq, Option.some.injEq]; rintro rfl; exact h.ne hg), h.ne, h.gM, h.hB, h.fresh⟩

theorem NumS.push {w5 wr w4 : World} {B gM : Nat} {P : Nat → Nat} {k : Nat} {F : Int → Option Nat} {lv v' : Value} (h : NumS w5 wr B gM P (k + 1) k F lv) {O : Obj} (hown : w4.ownsRow B 3 1 v' (k + 1) (natV ((List.range k).map (LM.num P)) ++ [.int .i64 (LM.num P k : Int)])) (hg : (wr.alloc O).grownBy w4 lv.ownBlock)
    (hat : v'.ownBlock = lv.ownBlock ∨ v'.ownBlock = some (wr.alloc O).heap.size) : NumS w5 w4 B gM P (k + 1) (k + 1) F v' := by
  have hs := h.ext.size
  have hm := h.seen.lt
  have hx : Ext w5 (wr.alloc O) := h.ext.trans (Ext.box _ _)
  refine ⟨Below.grown hx hg hx.size (fun g e => h.fresh g e), h.seen.block ?_, h.num, ?_, ?_, h.gM, h.hB, ?_⟩
  · rw [hg.block gM (by simp; omega) (fun e => h.ne e.symm)]
    exact (Ext.box wr O).block gM hm
  · rw [List.range_succ, List.map_append, List.map_cons, List.map_nil, natV_snoc]; exact hown
  · rcases hat with e | e
    · rw [e]; exact h.ne
    · rw [e]; simp; omega
  · intro g hg'
    rcases hat with e | e
    · exact h.fresh g (by rw [← e]; exact hg')
    · rw [e] at hg'; simp at hg'; omega

def ClassesR (d : Dn) (w : World) (e : Ending) (w' : World) : Prop :=
  ∃ cv, e = .returned (.tuple #[cv, .nilIface]) ∧ ∃ P, LM.Tells d.aut P ∧ w'.ownsRow w.heap.size 3 1 cv d.next.length (natV ((List.range d.next.length).map (LM.num P))) ∧ Ext w w'

set_option maxRecDepth 100000 in
set_option maxHeartbeats 1000000 in
theorem classes_c {v : Value} {d : Dn} {w : World} (h : DenseV w v d) (hm : May d) : Calls Tryd.prog 48 #[v] w (ClassesR d w) := by
  have HM := Lib.hid hm
  have HD := Lib.hid h
  obtain ⟨bn, on, cn, bl, ol, cl, rfl, hc⟩ := h.cells hm
  obtain ⟨N, hN⟩ : ∃ N, N = d.next.length := ⟨_, rfl⟩
  have hpos : 0 < N := by rw [hN]; exact hm.pos
  have hN6 : N ≤ 600 := by rw [hN]; exact hm.most
  have HN := Lib.hid (And.intro hN hc)
  rw [← hN] at HD ⊢
  have hmm := @run_makeMap Tryd.prog
  clear h hm hN hc
  go_enter Tryd.func48, Tryd.ntmps48
  go_wp2_with fail
  have hD1 : DenseV (w.alloc (.cells #[.slice (some ⟨bn, on, none⟩) N cn, .slice (some ⟨bl, ol, none⟩) N cl] 25)) (.agg #[.slice (some ⟨bn, on, none⟩) N cn, .slice (some ⟨bl, ol, none⟩) N cl]) d := HD.out.ext (Ext.box _ _)
  refine (check_c hD1).mono ?_
  rintro e w1 ⟨rfl, hx1⟩
  rw [mayB_true.2 HM.out]
  have hxw : Ext w w1 := (Ext.box _ _).trans hx1
  have q0 := hx1.cell (p := ⟨w.heap.size, 0, none⟩) (v := .slice (some ⟨bn, on, none⟩) N cn) (by simp)
  have q1 := hx1.cell (p := ⟨w.heap.size, 1, none⟩) (v := .slice (some ⟨bl, ol, none⟩) N cl) (by simp)
  have hw1 := hxw.size
  have HX := Lib.hid hxw
  clear hD1 hx1 hxw HD
  go_wp2_with fail
  obtain ⟨f, hf⟩ : ∃ f : Nat → Value, f = fun i => (#[.slice (some ⟨bn, on, none⟩) N cn, .slice (some ⟨bl, ol, none⟩) N cl, .slice none 0 0, .slice none 0 0, .slice none 0 0, .slice none 0 0, .map (some w1.heap.size)] : Array Value).getD i .nilIface := ⟨_, rfl⟩
  have hrow0 := World.rowIs_alloc (w1.alloc (.map #[] 0)) #[.slice (some ⟨bn, on, none⟩) N cn, .slice (some ⟨bl, ol, none⟩) N cl, .slice none 0 0, .slice none 0 0, .slice none 0 0, .slice none 0 0, .map (some w1.heap.size)] 160 f (by
    intro i hi
    rw [hf]
    simp only [Array.getD_eq_getD_getElem?]
    rw [Array.getElem?_eq_getElem hi]; rfl)
  rw [World.size_alloc] at hrow0
  have hx2 : Ext w1 ((w1.alloc (.map #[] 0)).alloc (.cells #[.slice (some ⟨bn, on, none⟩) N cn, .slice (some ⟨bl, ol, none⟩) N cl, .slice none 0 0, .slice none 0 0, .slice none 0 0, .slice none 0 0, .map (some w1.heap.size)] 160)) := (Ext.box _ _).trans (Ext.box _ _)
  have hset0 := (SetM.made w1 (fun _ _ => False) (fun _ _ h => h)).block (w' := (w1.alloc (.map #[] 0)).alloc (.cells #[.slice (some ⟨bn, on, none⟩) N cn, .slice (some ⟨bl, ol, none⟩) N cl, .slice none 0 0, .slice none 0 0, .slice none 0 0, .slice none 0 0, .map (some w1.heap.size)] 160)) ((Ext.box (w1.alloc (.map #[] 0)) _).block _ (by simp))
  generalize World.alloc (World.alloc w1 _) _ = w2 at hrow0 hx2 hset0 ⊢
  have hxw2 : Ext w w2 := HX.out.trans hx2
  have hbeg := begin_c (w0 := w) (mb := w1.heap.size) HM.out hxw2 HN.out.2 (f := f) hrow0 (by rw [hf, ← HN.out.1]; rfl) (by rw [hf, ← HN.out.1]; rfl) (by rw [hf]; rfl) (by rw [hf]; rfl) (by rw [hf]; rfl) (by rw [hf]; rfl) (by rw [hf]; rfl) (by omega) (by omega) (by omega) hset0
  have HBe := Lib.hid (And.intro hbeg hxw2)
  have hrl := hrow0.lt
  clear hbeg hxw2 hrow0 hx2 hset0 hf q0 q1
  refine HBe.out.1.mono ?_
  rintro e w3 ⟨rfl, own, f3, P, Bs, hs, L, n, hI, _, hbl3, _⟩
  rw [← HN.out.1] at hI
  have href := refine_c hI HM.out.ok HN.out.1.symm hN6 (fun s a p _ _ => LM.mem_preL) (fun s a _ _ => Nat.le_trans (LM.preL_len _ _ _ _) hN6)
  have HRf := Lib.hid (And.intro href hbl3)
  clear href hI hbl3
  go_wp2_with fail
  refine HRf.out.1.mono ?_
  rintro e w4 ⟨rfl, own4, f4, P, Bs4, hs4, n4, hR, _, hbl4, htell, hPb⟩
  have hxw4 : Ext w w4 := (HRf.out.2.trans hbl4).ext HBe.out.2 fun g hg => hg
  obtain ⟨g1, c1, hf3, hg1, hg1'⟩ := own_slc hR.block hR.pos
  have c3 := hR.row.cell (i := 3) (by omega)
  rw [hf3] at c3
  have hrl4 := hR.row.lt
  have hbk := hR.block
  rw [hf3] at hbk
  have HQ := Lib.hid (And.intro hxw4 (And.intro hbk (And.intro htell hPb)))
  have hw4 := hxw4.size
  clear hxw4 hbk htell hPb hR hbl4 hf3
  go_wp2
  clear c3 hmm
  obtain ⟨gM, hgM⟩ : ∃ gM, gM = w4.heap.size := ⟨_, rfl⟩
  rw [← hgM]
  have hS0 : NumS w4 (w4.alloc (.map #[] 0)) w.heap.size gM P 0 0 (fun _ => none) (.slice none 0 0) :=
    ⟨Ext.box _ _, by rw [hgM]; exact IntM.made w4, .nil P, World.ownsRow_nil _ _ _ _, by simp [Value.ownBlock], by omega, hw4, fun g hg => by cases hg⟩
  have HG := Lib.hid hgM
  have HS0 := Lib.hid hS0
  clear hgM hS0
  go_loopw [6, 29] (fun lv kv wr => ∃ (k : Nat) (F : Int → Option Nat), k ≤ N ∧ kv = .int .i64 k ∧ NumS w4 wr w.heap.size gM P k k F lv) (fun _ kv _ => N - (intOf kv).toNat)
  case atStart => exact ⟨0, _, Nat.zero_le _, rfl, HS0.out⟩
  case round =>
    clear HS0
    obtain ⟨k, F, hk, rfl, hS⟩ := hrel
    by_cases hlt : k < N
    · obtain ⟨b, hb⟩ : ∃ b, b = P k := ⟨_, rfl⟩
      have hb6 : b < 1000 := by rw [hb]; exact HQ.out.2.2.2 k hlt
      have cb : wr.cell? ⟨g1, k, none⟩ = some (.int .i64 (b : Nat)) := by
        refine hS.ext.cell ?_
        rw [HQ.out.2.1.cellAt k (by omega), natV_get (by simp; exact hlt), hb]
        simp [List.getD_eq_getElem?_getD, List.getElem?_range hlt]
      have hcle := LM.cnt_le P k
      obtain ⟨cn', hcn⟩ : ∃ c, c = LM.cnt P k := ⟨_, rfl⟩
      rw [← hcn] at hcle
      have hseen := hS.seen
      rw [← hcn] at hseen
      have hlook := hseen.look (x := (b : Int)) (by omega) (by omega)
      have hlen := hseen.len
      obtain ⟨nk, hnk⟩ : ∃ nk, nk = LM.num P k := ⟨_, rfl⟩
      have HS := Lib.hid (And.intro hS (And.intro hb (And.intro hcn hnk)))
      obtain ⟨q, hq⟩ : ∃ q, q = (F (b : Int)).isSome := ⟨_, rfl⟩
      obtain ⟨y0, hy0⟩ : ∃ y0, y0 = (F (b : Int)).getD 0 := ⟨_, rfl⟩
      rw [← hq, ← hy0] at hlook
      have HF := Lib.hid (And.intro hq (And.intro hy0 hseen))
      clear hS hb hcn hq hy0 hseen hnk
      go_upto_if 40 with fail
      go_cut [9] (fun v9 wx => ∃ F', v9 = .int .i64 (nk : Nat) ∧ NumS w4 wx w.heap.size gM P (k + 1) k F' u6)
      case first =>
        cases q with
        | true =>
          go_wp2_with fail
          go_meet
          cases hF : F (b : Int) with
          | none => have h := HF.out.1; rw [hF] at h; cases h
          | some y =>
            obtain ⟨e1, e2, e3⟩ := HS.out.1.num.old (y := y) (by rw [← HS.out.2.1]; exact hF)
            have h1 := HS.out.1
            exact ⟨F, by rw [HF.out.2.1, hF, HS.out.2.2.2, ← e2]; rfl, h1.ext, by rw [e3]; exact h1.seen, e1, h1.row, h1.ne, h1.gM, h1.hB, h1.fresh⟩
        | false =>
          have hFn : F (b : Int) = none := by
            have h := HF.out.1
            cases hF : F (b : Int) with
            | none => rfl
            | some y => rw [hF] at h; cases h
          obtain ⟨W6, hrun, hs6, ht6⟩ := HF.out.2.2.store (by unfold maxLen; omega) (x := (b : Int)) (by omega) (by omega) hFn (y := cn') (by omega)
          have HW := Lib.hid (And.intro hFn (And.intro hs6 ht6))
          clear hFn hs6 ht6
          go_wp2_with fail
          go_meet
          obtain ⟨h1, h2, h3, h4⟩ := HS.out
          obtain ⟨z1, z2, z3⟩ := HW.out
          rw [h2] at z1 z2
          rw [h3] at z2
          exact ⟨_, by rw [h4, h3, (h1.num.new z1).2.1], h1.see z1 rfl z2 z3⟩
      case rest =>
        clear cb hlook hlen HF
        obtain ⟨F', rfl, hS⟩ := hcut
        obtain ⟨i0, hi, hz0, hz1, hz2⟩ := info_parts int_info
        have hown := hS.row.alloc (.cells #[.int .i64 (nk : Int)] 3)
        have hcell := cell_one_new wc (.int .i64 (nk : Int)) 3
        have h1c : ∀ u ∈ [Value.int .i64 (nk : Int)], u.oneCell' = true := by intro u hu; simp at hu; subst hu; rfl
        have hbase : w.heap.size ≤ (wc.alloc (.cells #[.int .i64 (nk : Int)] 3)).heap.size := by have := hS.ext.size; simp; omega
        have hmax : k + 1 ≤ maxLen := by unfold maxLen; omega
        have HS' := Lib.hid hS
        clear hS
        go_wp2_with (at_builtin; refine wpList_append_own_at _ rfl _ _ 23 rfl w.heap.size 3 i0 (.int .i64 0) 1 8 Tryd.underlying23 hi hz0 hz1 hz2 rfl (by decide) _ _ _ rfl hown ⟨wc.heap.size, 0, none⟩ 1 1 [.int .i64 (nk : Int)] rfl rfl hcell h1c hmax (by omega) hbase ?_; intro v' W hown' hg _ hat)
        rw [HS.out.2.2.2] at hown' hg hat
        have h7 := HS'.out.push hown' hg hat
        go_roundw
        case rel => exact ⟨k + 1, F', by omega, by go_num, h7⟩
        case measure => simp [intOf]; omega
    · obtain rfl : N = k := by omega
      have HS := Lib.hid hS
      clear hS hlt
      go_wp2
      go_ret2
      refine ⟨_, rfl, P, HQ.out.2.2.1, ?_, HQ.out.1.trans HS.out.ext⟩
      rw [← HN.out.1]; exact HS.out.row
end Go.Proofs.YtpeipjfmibjoiaaDoor
