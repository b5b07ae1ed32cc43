/- witness.Never, of one automaton. -/
import Derived.Test.YtihginaanlcilaaDoorLabs
import Derived.Test.YtihginaanlcilaaDoorBehind
import Derived.Handy
import Derived.Deep.DeepCutAuto
namespace Go.Proofs.YtihginaanlcilaaDoor
open Go.RowKit Go.Maps

attribute [local go_sem] Oper.semAt_some

set_option maxRecDepth 100000 in
set_option maxHeartbeats 1000000 in
theorem labels_c {w : World} {an al : Option Addr} {n m cn cl : Nat} : Calls Tryd.prog 32 #[.agg #[.slice an n cn, .slice al m cl]] w fun e w' => e = .returned (.func (.func 48) #[] #[.pointer (some ⟨w.heap.size, 0, none⟩)]) ∧ w' = w.alloc (.cells #[.slice an n cn, .slice al m cl] 25) := by
  have hmf : ∀ (fn : Fn) (first cap : Array Value) (w : World), (Instr.makeFunc fn first cap).run Tryd.prog w = .ok (.func fn first cap) w := fun _ _ _ _ => rfl
  go_enter Tryd.func32, Tryd.ntmps32
  go_wp2
  go_ret
  exact ⟨rfl, rfl⟩

/-- a map of numbers: which keys it has -/
def SomeM (w : World) (b n : Nat) (P : Int → Prop) : Prop :=
  ∃ D : DataW Unit, w.ownsMap Tryd.prog 3 (plainElem Tryd.prog 3) b n D ∧ ∀ x : Int, -1000000 < x → x < 1000000 → (Maps.has D (.int .i64 x) = true ↔ P x)

theorem SomeM.made (w : World) : SomeM (w.alloc (.map #[] 0)) w.heap.size 0 (fun _ => False) :=
  ⟨.map [], World.ownsMap_made _ _ _ _, fun x _ _ => ⟨fun h => by simp [Maps.has] at h, fun h => h.elim⟩⟩
theorem SomeM.block {w w' : World} {b n : Nat} {P : Int → Prop} (h : SomeM w b n P) (e : w'.heap[b]? = w.heap[b]?) : SomeM w' b n P := by
  obtain ⟨D, ⟨es, clock, hb, r⟩, h2⟩ := h
  exact ⟨D, ⟨es, clock, by rw [e]; exact hb, r⟩, h2⟩
theorem SomeM.lt {w : World} {b n : Nat} {P : Int → Prop} (h : SomeM w b n P) : b < w.heap.size := by
  obtain ⟨D, h1, _⟩ := h
  exact h1.lt
theorem SomeM.congr {w : World} {b n : Nat} {P Q : Int → Prop} (h : SomeM w b n P) (hPQ : ∀ x, P x ↔ Q x) : SomeM w b n Q := by
  obtain ⟨D, h1, h2⟩ := h
  exact ⟨D, h1, fun x h3 h4 => (h2 x h3 h4).trans (hPQ x)⟩
theorem SomeM.look {w : World} {b n : Nat} {P : Int → Prop} (h : SomeM w b n P) {x : Int} (h1 : -1000000 < x) (h2 : x < 1000000) :
    ∃ (c : Int) (r : Bool), (Instr.lookup 84 (.map (some b)) (.int .i64 x) true).run Tryd.prog w = .ok (.tuple #[.int .i64 c, .bool r]) w ∧ (r = true ↔ P x) := by
  obtain ⟨D, hD, hF⟩ := h
  obtain ⟨v, ps, hrun, hv⟩ := hD.look_ok int_law Tryd.underlying84 (int_zeroV w) (plainElem_int (H := Unit) Tryd.underlying3 (WalkArith.wf_i64 (by omega))) (int_key h1 h2)
  obtain ⟨c, rfl, _, _⟩ := plainElem_int_inv Tryd.underlying3 hv
  exact ⟨c, _, hrun, hF x h1 h2⟩
theorem SomeM.store {w : World} {b n : Nat} {P : Int → Prop} (h : SomeM w b n P) (hn : n < maxLen) {x : Int} (h1 : -1000000 < x) (h2 : x < 1000000) {y : Nat} (hy : y < 1000000) :
    ∃ w', (Instr.mapUpdate 84 (.map (some b)) (.int .i64 x) (.int .i64 (y : Int))).run Tryd.prog w = .ok () w' ∧ SomeM w' b (n + 1) (fun x' => x' = x ∨ P x') ∧ w.mapTurned w' b := by
  obtain ⟨D, hD, hF⟩ := h
  obtain ⟨w', hrun, hown, ht⟩ := hD.store int_law Tryd.underlying84 hn (int_key h1 h2) (plainElem_int (H := Unit) Tryd.underlying3 (a := (y : Int)) (WalkArith.wf_i64 (by omega)))
  refine ⟨w', hrun, ⟨_, hown, fun x' h3 h4 => ?_⟩, ht⟩
  by_cases e : x' = x
  · subst e
    exact ⟨fun _ => .inl rfl, fun _ => Maps.has_put_same hD.isMap (int_law.key (int_key h1 h2)) _⟩
  · have hne : (Lit.int .i64 x') ≠ .int .i64 x := by intro e'; exact e (by simpa using e')
    rw [Maps.has_put_other hne]
    exact (hF x' h3 h4).trans ⟨.inr, fun h => h.resolve_left e⟩

/-- what may be ranged over, of the automaton behind a first byte -/
theorem labs_stops {d : Dn} (hA : AutoN d) {w0 : World} {bD bn on cn bl ol cl B : Nat} (hb0 : w0.cell? ⟨bD, 0, none⟩ = some (.slice (some ⟨bn, on, none⟩) d.next.length cn)) (hb1 : w0.cell? ⟨bD, 1, none⟩ = some (.slice (some ⟨bl, ol, none⟩) d.next.length cl)) (hc : Cells w0 bn on bl ol d)
    (hB : B ≤ w0.heap.size) (n : Nat) :
    SeqStopsK Fence.wide n Tryd.prog 48 #[.pointer (some ⟨bD, 0, none⟩)] labE (KeptFrom False B) (fun xs => xs.map (fun x : LabX => x.1.1) = presL d 200) (fun _ => True) 200 w0 := by
  intro l J Jx W hW hJ hJx hY h0
  refine callsIn_wide.2 ((labs1_c n l bD bn on cn bl ol cl False hA (Ext.cell hW hb0) (Ext.cell hW hb1) (hc.ext hW) J Jx hJ (fun pre x W1 hJ1 hlt _ => ?_) h0).mono ?_)
  · obtain ⟨fn, tmps, assign, body, hy, hR⟩ := hY pre x W1 hJ1 hlt
    refine ⟨fn, tmps, assign, body, hy, hR.mono ?_⟩
    rintro e W' (⟨h1, h2, h3⟩ | h1)
    · exact .inl ⟨h1, h2, fun k es c hk he => h3.1 k es c (by have := hW.size; omega) he, fun h => h.elim⟩
    · exact .inr h1
  · rintro e W' ⟨h1, ⟨xs, h2, h3⟩ | ⟨pre, h2⟩⟩
    · exact ⟨h1, .inl ⟨xs, h2, h3⟩⟩
    · exact ⟨h1, .inr ⟨pre, trivial, h2⟩⟩

/-- the rules that are the label behind no word that is not empty -/
def NoRule (d : Dn) (r : Nat) : Prop := ¬ ∃ z, LM.Bytes z ∧ z ≠ [] ∧ d.lb (d.aut.run 0 z) = (r : Int)
open Classical in
noncomputable def neverL (d : Dn) (k : Nat) : List Nat := (List.range k).filter fun r => decide (NoRule d r)

def numV (l : List Nat) : List Value := l.map fun (r : Nat) => Value.int .i64 (r : Int)
theorem numV_snoc (l : List Nat) (r : Nat) : numV (l ++ [r]) = numV l ++ [.int .i64 (r : Int)] := by simp [numV]
theorem neverL_yes {d : Dn} {k : Nat} (h : NoRule d k) : neverL d (k + 1) = neverL d k ++ [k] := by
  unfold neverL; rw [List.range_succ, List.filter_append]; simp [h]
theorem neverL_no {d : Dn} {k : Nat} (h : ¬ NoRule d k) : neverL d (k + 1) = neverL d k := by
  unfold neverL; rw [List.range_succ, List.filter_append]; simp [h]
theorem neverL_len (d : Dn) (k : Nat) : (neverL d k).length ≤ k := by
  unfold neverL
  exact Nat.le_trans (List.length_filter_le _ _) (by simp)
theorem presL_reached {d : Dn} {k n : Nat} (hk : k < n) : Reached d (k : Int) ↔ k ∈ presL d n := by
  unfold presL
  rw [List.mem_filter]
  simp [hk]

def NeverR (d : Dn) (rules : Nat) (w : World) (e : Ending) (w' : World) : Prop :=
  ∃ v, e = .returned (.tuple #[v, .nilIface]) ∧ Ints w' v ((neverL d rules).map fun (r : Nat) => (r : Int)) ∧ Ext w w'

set_option maxRecDepth 100000 in
set_option maxHeartbeats 4000000 in
theorem never1_c {w : World} {bS oS cS bn on cn bl ol cl : Nat} {d : Dn} {rules : Nat} (h : DenseV w (.agg #[.slice (some ⟨bn, on, none⟩) d.next.length cn, .slice (some ⟨bl, ol, none⟩) d.next.length cl]) d) (hm : May d) (hr : rules ≤ 200)
    (h0 : w.cell? ⟨bS, oS, none⟩ = some (.slice (some ⟨bn, on, none⟩) d.next.length cn)) (h1 : w.cell? ⟨bS, oS + 1, none⟩ = some (.slice (some ⟨bl, ol, none⟩) d.next.length cl)) :
    Calls Tryd.prog 19 #[.slice (some ⟨bS, oS, none⟩) 1 cS, .int .i64 (rules : Int)] w (NeverR d rules w) := by
  have hmb := mayB_true.2 hm
  have hj1 : ¬ (rules : Int) < 0 := by omega
  have hj2 : ¬ (200 : Int) < (rules : Int) := by omega
  have hmm := @run_makeMap Tryd.prog
  obtain ⟨N, hN⟩ : ∃ N, N = d.next.length := ⟨_, rfl⟩
  have H := Lib.hid (And.intro h hm)
  have HN := Lib.hid hN
  rw [← hN] at h0 h1 H
  have l0 := lt_of_cell h0
  clear h hm hN
  refine (callsIn_wide (n := 5)).1 ?_
  refine callsIn_of_wp_marks Tryd.func19 rfl trivial ?_
  simp only [Tryd.ntmps19, List.size_toArray, List.length_cons, List.length_nil, Nat.reduceAdd, Nat.reduceSub, Array.replicate_succ, Array.replicate_zero, List.push_toArray, List.append_toArray, List.nil_append, List.cons_append]
  refine wpIn_wide.2 ?_
  go_wp2_with fail
  go_loopw [6, 25] (fun v6 iv wr => Ext w wr ∧ v6 = .bool false ∧ ∃ i : Nat, i ≤ 1 ∧ iv = .int .i64 i) (fun _ iv _ => 1 - (intOf iv).toNat)
  case atStart => exact ⟨Ext.refl _, rfl, 0, by omega, rfl⟩
  case round =>
    obtain ⟨hx, rfl, i, hi, rfl⟩ := hrel
    by_cases hlt : i = 0
    · subst hlt
      have k0 := hx.cell h0
      have k1 := hx.cell h1
      have hck := check_c (H.out.1.ext (hx.trans (Ext.box wr (.cells #[.slice (some ⟨bn, on, none⟩) N cn, .slice (some ⟨bl, ol, none⟩) N cl] 25))))
      rw [hmb] at hck
      have HX := Lib.hid (And.intro hck hx)
      clear hck hx
      go_wp2_with fail
      refine HX.out.1.mono ?_
      rintro e w2 ⟨rfl, hx2⟩
      have HX2 := Lib.hid hx2
      clear hx2
      go_wp2_with fail
      go_roundw
      case rel => exact ⟨HX.out.2.trans ((Ext.box _ _).trans HX2.out), rfl, 1, by omega, by go_num⟩
      case measure => simp [intOf]
    · obtain rfl : i = 1 := by omega
      clear hmb hlt
      rw [show ((1 : Nat) : Int) = 1 from rfl]
      go_wp2_with fail
      obtain ⟨gM, hgM⟩ : ∃ g, g = wr.heap.size := ⟨_, rfl⟩
      obtain ⟨W1, hW1⟩ : ∃ W', W' = (wr.alloc (.map #[] 0)).alloc (.cells #[.map (some wr.heap.size)] 84) := ⟨_, rfl⟩
      rw [← hW1]
      have hsM : SomeM W1 gM 0 (fun _ => False) := by
        rw [hW1, hgM]
        exact (SomeM.made wr).block ((Ext.box _ _).block _ (by simp))
      have hbx : W1.cell? ⟨gM + 1, 0, none⟩ = some (.map (some gM)) := by
        have := new_cell (w := wr.alloc (.map #[] 0)) (c := #[.map (some wr.heap.size)]) (t := 84) (i := 0) rfl
        rw [World.size_alloc] at this
        rw [hW1, hgM]; exact this
      have hx1 : Ext w W1 := by rw [hW1]; exact (hx.alloc _).alloc _
      have hs1 : W1.heap.size = gM + 2 := by rw [hW1, hgM]; simp
      have hgw : w.heap.size ≤ gM := by rw [hgM]; exact hx.size
      rw [← hgM]
      have k0 := hx1.cell h0
      have k1 := hx1.cell h1
      have HM := Lib.hid (And.intro hsM (And.intro hbx (And.intro hx1 (And.intro hs1 hgw))))
      have l1 := lt_of_cell k0
      clear hW1 hgM hsM hbx hx1 hs1 hx hmm
      refine wp_loop_rounds 2 ?_
      rw [rounds_succ]
      go_upto_region 13 with fail
      obtain ⟨W2, hW2⟩ : ∃ W', W' = (W1.alloc (.cells #[.int .i64 0] 3)).alloc (.cells #[.slice (some ⟨bn, on, none⟩) N cn, .slice (some ⟨bl, ol, none⟩) N cl] 25) := ⟨_, rfl⟩
      rw [← hW2]
      have hx2 : Ext W1 W2 := by rw [hW2]; exact (Ext.box _ _).alloc _
      have hi0 : W2.cell? ⟨W1.heap.size, 0, none⟩ = some (.int .i64 0) := by rw [hW2]; exact (Ext.box _ _).cell (new_cell rfl)
      have hd0 : W2.cell? ⟨W1.heap.size + 1, 0, none⟩ = some (.slice (some ⟨bn, on, none⟩) N cn) ∧ W2.cell? ⟨W1.heap.size + 1, 1, none⟩ = some (.slice (some ⟨bl, ol, none⟩) N cl) := by
        have c0 := new_cell (w := W1.alloc (.cells #[.int .i64 0] 3)) (c := #[.slice (some ⟨bn, on, none⟩) N cn, .slice (some ⟨bl, ol, none⟩) N cl]) (t := 25) (i := 0) rfl
        have c1 := new_cell (w := W1.alloc (.cells #[.int .i64 0] 3)) (c := #[.slice (some ⟨bn, on, none⟩) N cn, .slice (some ⟨bl, ol, none⟩) N cl]) (t := 25) (i := 1) rfl
        rw [World.size_alloc] at c0 c1
        rw [hW2]
        exact ⟨c0, c1⟩
      obtain ⟨d0, d1⟩ := hd0
      have hxw2 : Ext w W2 := HM.out.2.2.1.trans hx2
      have hbe := behind_c (H.out.1.ext hxw2) H.out.2
      have HBe := Lib.hid (And.intro hbe (And.intro hx2 (And.intro hxw2 hi0)))
      clear hbe hx2 hxw2 hW2 hi0 k0 k1
      go_wp2_with fail
      refine HBe.out.1.mono ?_
      rintro e w3 ⟨bn', cn', bl', cl', rfl, hcl, hx3⟩
      obtain ⟨M, hM⟩ : ∃ M, M = d.next.length + 1 := ⟨_, rfl⟩
      rw [← hM]
      have HC := Lib.hid (And.intro hcl (And.intro hx3 hM))
      clear hcl hx3 d0 d1 hM
      go_wp2_with fail
      refine labels_c.mono ?_
      rintro e w4 ⟨rfl, hw4⟩
      have hx4 : Ext w3 w4 := by rw [hw4]; exact Ext.box _ _
      have hlen : (behD d).next.length = M := by rw [behD_len, HC.out.2.2]
      have e0 : w4.cell? ⟨w3.heap.size, 0, none⟩ = some (.slice (some ⟨bn', 0, none⟩) (behD d).next.length cn') := by rw [hlen, hw4]; exact new_cell rfl
      have e1 : w4.cell? ⟨w3.heap.size, 1, none⟩ = some (.slice (some ⟨bl', 0, none⟩) (behD d).next.length cl') := by rw [hlen, hw4]; exact new_cell rfl
      have hst := labs_stops (behD_auto H.out.2) e0 e1 (HC.out.1.ext hx4) (B := w4.heap.size) (Nat.le_refl _) 4
      have hx14 : Ext W1 w4 := HBe.out.2.1.trans (HC.out.2.1.trans hx4)
      have i0 : w4.cell? ⟨W1.heap.size, 0, none⟩ = some (.int .i64 0) := hx4.cell (HC.out.2.1.cell HBe.out.2.2.2)
      have b0 := hx14.cell HM.out.2.1
      have hM4 : SomeM w4 gM 0 (fun _ => False) := HM.out.1.block (hx14.block _ HM.out.1.lt)
      have hgl4 := hM4.lt
      have HST := Lib.hid (And.intro hst (And.intro b0 (And.intro i0 (And.intro hM4 (HM.out.2.2.1.trans hx14)))))
      clear hw4 hx4 e0 e1 hst hx14 b0 i0 hM4 hlen
      go_wp2_with fail
      refine (wpIn_wide (n := 5)).1 ?_
      refine' wpIn_rangeFunc_ownG rfl (by omega) (gf := 48) (lb := #[.pointer (some ⟨w3.heap.size, 0, none⟩)]) rfl trivial (enters_of Tryd.func48 (by kernel_rfl) rfl)
        HST.out.1 (fun h k => ⟨fun i es c hi he => k.1 i es c hi (h.1 i es c hi he), fun f => f.elim⟩) (fun W l o o' hl hW hc hw => ⟨fun i es c hi he => ?keep, fun f => f.elim⟩) (Below.refl _ _) (fun _ => rfl)
        (fun pre W => (W.cell? ⟨gM + 1, 0, none⟩ = some (.map (some gM)) ∧ W.cell? ⟨W1.heap.size, 0, none⟩ = some (.int .i64 0) ∧ SomeM W gM pre.length (fun x => ∃ y ∈ pre, x = (y.1.1 : Int))) ∧ Below w.heap.size w W)
        (fun _ _ _ => False)
        (OwnFrom.and (fun s A B row hs hg hr => ⟨cell_kept hs.1 hg (fun r e => (hr r e).2), cell_kept hs.2.1 hg (fun r e => (hr r e).2), hs.2.2.block (hg.block gM hs.2.2.lt (fun e => by have := (hr _ e.symm).1; omega))⟩) (ownFrom_below (Nat.le_refl _) (HST.out.2.2.2.2.size)))
        (fun _ _ _ _ _ hs _ _ => hs)
        ⟨⟨HST.out.2.1, HST.out.2.2.1, HST.out.2.2.2.1.congr fun x => ⟨fun h => h.elim, fun ⟨_, h, _⟩ => by cases h⟩⟩, HST.out.2.2.2.2⟩ _ ?assign ?body ?done ?stop
      case keep =>
        by_cases e : i = l
        · subst e
          rw [hW] at he
          cases he
          cases hw
        · rw [World.putObj_heap_other e]; exact he
      case assign =>
        intro l x W K hK
        simp only [labE, List.zip_toArray, List.zip_cons_cons, List.zip_nil_right, List.foldl_toArray', List.foldl_cons, List.foldl_nil, List.setIfInBounds_toArray, List.set_cons_succ, List.set_cons_zero]
        gi_wp2
        exact hK
      case body =>
        rintro l pre x W ⟨⟨hb, hi, hM⟩, hB⟩ hlt
        have hxl := x.2
        obtain ⟨w', hrun, hM', ht⟩ := hM.store (by unfold maxLen; omega) (x := (x.1.1 : Int)) (y := 0) (by omega) (by omega) (by omega)
        have hrun : (Instr.mapUpdate 84 (.map (some gM)) (.int .i64 (x.1.1 : Int)) (.int .i64 0)).run Tryd.prog W = .ok () w' := hrun
        have HML := Lib.hid (And.intro hM (And.intro hM' ht))
        clear hM hM' ht
        gi_wp2
        have hg := HML.out.2.2.grown
        have hgl : gM < w4.heap.size := HST.out.2.2.2.1.lt
        have hc : ∀ {b o : Nat} {v : Value}, W.cell? ⟨b, o, none⟩ = some v → b ≠ gM → w'.cell? ⟨b, o, none⟩ = some v := fun {b o v} h1 h2 => (World.cell?_of_block (a := ⟨b, o, none⟩) (hg.block b (lt_of_cell h1) (by simp only [ne_eq, Option.some.injEq]; exact h2))).trans h1
        have hs1 := HM.out.2.2.2.1
        refine ⟨KeepsFrom.of_grownBy hg (fun j e => by cases e; exact hgl), ⟨fun k es c hk he => ?_, fun f => f.elim⟩, ⟨hc hb (by omega), hc hi (by omega), ?_⟩, hB.grown hg hB.size (fun k e => by cases e; exact HM.out.2.2.2.2)⟩
        · rw [hg.block k (Array.getElem?_eq_some_iff.1 he).1 (by simp only [ne_eq, Option.some.injEq]; omega)]; exact he
        · rw [List.length_append]
          refine HML.out.2.1.congr fun y => ⟨fun h => ?_, fun ⟨z, hz, e⟩ => ?_⟩
          · rcases h with h | ⟨z, hz, e⟩
            · exact ⟨x, by simp, h⟩
            · exact ⟨z, by simp [hz], e⟩
          · rcases List.mem_append.1 hz with h | h
            · exact .inr ⟨z, h, e⟩
            · rw [List.mem_singleton] at h; subst h; exact .inl e
      case done =>
        rintro D ys W hD hS ⟨⟨hb, hi, hM⟩, hB⟩ hK
        have HD := Lib.hid (And.intro hS (And.intro hM (And.intro hB (And.intro hK hD))))
        clear hS hM hB hK hi
        go_wp2_with fail
        rw [rounds_succ]
        go_wp2_with fail
        go_loopw [13, 56] (fun ov kv wr => ∃ k : Nat, k ≤ rules ∧ kv = .int .i64 k ∧ Ext W wr ∧ wr.ownsRow W.heap.size 3 1 ov (neverL d k).length (numV (neverL d k))) (fun _ kv _ => rules - (intOf kv).toNat)
        case atStart => exact ⟨0, Nat.zero_le _, rfl, Ext.refl _, World.ownsRow_nil _ _ _ _⟩
        case round =>
          obtain ⟨k, hk, rfl, hx, hown⟩ := hrel
          obtain ⟨ao, co, hov⟩ := own_shp' hown
          subst hov
          by_cases hlt : k < rules
          · have b1 := hx.cell hb
            have hMk := HD.out.2.1.block (hx.block gM HD.out.2.1.lt)
            obtain ⟨c, r, hlk, hrr⟩ := hMk.look (x := (k : Int)) (by omega) (by omega)
            have hiff : r = true ↔ ¬ NoRule d k := by
              rw [hrr, NoRule, Classical.not_not, ← behD_reached H.out.2 (by omega : (0 : Int) ≤ (k : Int)), presL_reached (k := k) (n := 200) (by omega), ← HD.out.1]
              constructor
              · rintro ⟨y, hy, e⟩
                exact List.mem_map.2 ⟨y, hy, by omega⟩
              · intro h
                obtain ⟨y, hy, e⟩ := List.mem_map.1 h
                exact ⟨y, hy, by rw [← e]⟩
            have hll := neverL_len d k
            obtain ⟨m, hm⟩ : ∃ m, m = (neverL d k).length := ⟨_, rfl⟩
            rw [← hm] at hown hll ⊢
            have HX := Lib.hid (And.intro hx (And.intro hiff (And.intro hown hm)))
            have hj : (k : Int) < rules := by omega
            clear hx hMk hrr hiff hm
            cases r
            · obtain ⟨i0, hi0, hz0, hz1, hz2⟩ := info_parts int_info
              have hown' := hown.alloc (.cells #[.int .i64 (k : Int)] 3)
              have hcell := cell_one_new wr (.int .i64 (k : Int)) 3
              have h1c : ∀ u ∈ [Value.int .i64 (k : Int)], u.oneCell' = true := one_int _ _
              have hbase : W.heap.size ≤ (wr.alloc (.cells #[.int .i64 (k : Int)] 3)).heap.size := by have := HX.out.1.size; rw [World.size_alloc]; omega
              have hmax : m + 1 ≤ maxLen := by unfold maxLen; omega
              clear hown
              go_wp2_with (at_builtin; refine wpList_append_own_at _ rfl _ _ 23 rfl W.heap.size 3 i0 (.int .i64 0) 1 8 Tryd.underlying23 hi0 hz0 hz1 hz2 rfl (by decide) _ _ _ rfl hown' ⟨wr.heap.size, 0, none⟩ 1 1 [.int .i64 (k : Int)] rfl rfl hcell h1c hmax (by omega) hbase ?_; intro v' W4 hown9 hg _ hat)
              go_roundw
              case rel =>
                have hno : NoRule d k := Classical.not_not.1 (fun h => by have := HX.out.2.1.2 h; cases this)
                refine ⟨k + 1, by omega, by go_num, Below.grown (HX.out.1.trans (Ext.box wr _)) hg hbase (fun g e => (HX.out.2.2.1.lt g e).1), ?_⟩
                rw [neverL_yes hno, numV_snoc, List.length_append, ← HX.out.2.2.2]
                exact hown9
              case measure => simp [intOf]; omega
            · have hno : ¬ NoRule d k := HX.out.2.1.1 rfl
              have HO := Lib.hid hown
              clear hown
              go_wp2_with fail
              go_roundw
              case rel => exact ⟨k + 1, by omega, by go_num, HX.out.1, by rw [neverL_no hno, ← HX.out.2.2.2]; exact HO.out⟩
              case measure => simp [intOf]; omega
          · obtain rfl : rules = k := by omega
            have HX := Lib.hid (And.intro hx hown)
            clear hx hown
            have hKD : wr.heap[D]? = some (.deferred (some [])) := (HX.out.1.block D (Array.getElem?_eq_some_iff.1 HD.out.2.2.2.1).1).trans HD.out.2.2.2.1
            go_wp2_with fail
            refine ⟨by simp, .inl ⟨_, _, rfl, run_takeDeferred hKD, ?_⟩⟩
            have hle := neverL_len d rules
            have e : numV (neverL d rules) = ((neverL d rules).map fun (r : Nat) => (r : Int)).map (Value.int .i64) := by simp [numV]
            have ho := ownsRow_putObj HX.out.2 (.deferred none) hKD rfl
            rw [e] at ho
            have hi := own_ints ho (by omega)
            refine ⟨_, results_tmp2 rfl _ _ _, _, rfl, hi, ?_⟩
            have hBw : Below w.heap.size w wr := HD.out.2.2.1.trans (HX.out.1.mono HD.out.2.2.1.size)
            exact hBw.trans (belowK_b (w := w) (Nat.le_refl _) wr D _ _ (by have := HST.out.2.2.2.2.size; have := HD.out.2.2.2.2; omega) hKD rfl rfl)
      case stop =>
        rintro D c pre W _ _ h _
        exact h.elim
end Go.Proofs.YtihginaanlcilaaDoor
