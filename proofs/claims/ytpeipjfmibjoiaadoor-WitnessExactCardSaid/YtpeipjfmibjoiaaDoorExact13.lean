/- bolterlaw13.WitnessExact. -/
import Derived.Test.YtpeipjfmibjoiaaDoorRef13
import Derived.Test.YtpeipjfmibjoiaaDoorNo13
import Derived.Test.YtpeipjfmibjoiaaDoorOverB
import Derived.Test.YtpeipjfmibjoiaaDoorCopyRows
import Derived.Test.YtpeipjfmibjoiaaDoorEqDense
import Derived.Test.YtpeipjfmibjoiaaDoorBytesW
import Derived.Test.YtpeipjfmibjoiaaDoorWakes13
import Derived.Test.YtpeipjfmibjoiaaDoorMay
namespace Go.Proofs.YtpeipjfmibjoiaaDoor
open Go.RowKit

/-- what the program's search tells, refusals too, in one form -/
def WitX (ok : Prop) (a : Nat → Addr) (A B : LM.Aut) (x y : Nat) (P : Nat → Nat → Bool) (w : World) (e : Ending) (w' : World) : Prop :=
  ∃ sa n sc b er, e = .returned (.tuple #[.slice sa n sc, .bool b, er]) ∧ Ext w w' ∧
    ((ok ∧ er = .nilIface ∧ ((b = true ∧ ∃ u, First A B x y P u ∧ n = u.length ∧ w'.ownsRow w.heap.size 5 1 (.slice sa n sc) n (bytesV u)) ∨ (b = false ∧ n = 0 ∧ w'.ownsRow w.heap.size 5 1 (.slice sa n sc) n [] ∧ Nowhere A B x y P))) ∨
     (¬ ok ∧ er = .iface 265 (.pointer (some (a 15))) ∧ b = false ∧ n = 0))
theorem WitR.x {ok : Prop} {a : Nat → Addr} {w w' : World} {A B : LM.Aut} {x y : Nat} {P : Nat → Nat → Bool} {e : Ending} (hok : ok) (h : WitR w A B x y P e w') : WitX ok a A B x y P w e w' := by
  obtain ⟨hx, ⟨u, v, rfl, hF, hown⟩ | ⟨rfl, hN⟩⟩ := h
  · obtain ⟨sa, sc, rfl⟩ := own_shp' hown
    exact ⟨sa, _, sc, true, _, rfl, hx, .inl ⟨hok, rfl, .inl ⟨rfl, u, hF, rfl, hown⟩⟩⟩
  · exact ⟨none, 0, 0, false, _, rfl, hx, .inl ⟨hok, rfl, .inr ⟨rfl, rfl, World.ownsRow_nil _ _ _ _, hN⟩⟩⟩
theorem wordX_c {w : World} {v : Value} {d : Dn} {label : Int} {a : Nat → Addr} (h : DenseV w v d) (hS : Sents w a) : Calls Tryd.prog 35 #[v, .int .i64 label] w (WitX (May d ∧ -1 ≤ label) a d.aut oneD.aut 0 0 (fun i _ => d.lb i == label) w) := by
  by_cases hok : May d ∧ -1 ≤ label
  · exact (wordOf_c h hok.1 hok.2).mono fun e w' hr => WitR.x hok hr
  · refine (word_no h hok hS).mono ?_
    rintro e w' ⟨rfl, hx⟩
    exact ⟨none, 0, 0, false, _, rfl, hx, .inr ⟨hok, rfl, rfl, rfl⟩⟩
theorem apartX_c {w : World} {v : Value} {d : Dn} {x y : Int} {a : Nat → Addr} (h : DenseV w v d) (hS : Sents w a) : Calls Tryd.prog 38 #[v, .int .i64 x, .int .i64 y] w (WitX (May d ∧ 0 ≤ x ∧ x < d.next.length ∧ 0 ≤ y ∧ y < d.next.length) a d.aut d.aut x.toNat y.toNat (fun i k => d.lb i != d.lb k) w) := by
  by_cases hok : May d ∧ 0 ≤ x ∧ x < d.next.length ∧ 0 ≤ y ∧ y < d.next.length
  · obtain ⟨hm, h1, h2, h3, h4⟩ := hok
    obtain ⟨i, rfl⟩ : ∃ i : Nat, x = i := ⟨x.toNat, by omega⟩
    obtain ⟨k, rfl⟩ : ∃ k : Nat, y = k := ⟨y.toNat, by omega⟩
    exact (apart_c h hm (x := i) (y := k) (by omega) (by omega)).mono fun e w' hr => WitR.x ⟨hm, h1, h2, h3, h4⟩ hr
  · refine (apart_no h hok hS).mono ?_
    rintro e w' ⟨rfl, hx⟩
    exact ⟨none, 0, 0, false, _, rfl, hx, .inr ⟨hok, rfl, rfl, rfl⟩⟩
theorem bytesV_ints (u : List Nat) : bytesV u = (u.map fun (b : Nat) => (b : Int)).map (Value.int .u8) := by simp [bytesV]
theorem own_bytes {w : World} {B n : Nat} {v : Value} {u : List Nat} (h : w.ownsRow B 5 1 v n (bytesV u)) (hn : n ≤ 140737488355328) : IntsK .u8 w v (u.map fun (b : Nat) => (b : Int)) := by
  rw [bytesV_ints] at h; exact own_ints h hn

/-- an array of two numbers among others in a list -/
def PairAt (w : World) (b o : Nat) (p : Int × Int) : Prop := w.cell? ⟨b, o, none⟩ = some (.int .i64 p.1) ∧ w.cell? ⟨b, o + 1, none⟩ = some (.int .i64 p.2)
abbrev PairsV (w : World) (v : Value) (l : List (Int × Int)) : Prop := SliceV 2 PairAt w v l

theorem copied_dense13 {w : World} {B : Nat} {own : Nat → Nat} {vn vl : Value} {hs : List Value} {d : Dn} (h : OwnDense w B own vn vl hs d.next d.label) (hr : Reach d) : DenseV w (.agg #[vn, vl]) d :=
  ⟨vn, vl, rfl, h.tab.read (by have := hr.next; omega) (fun l hl => by have := hr.rows l hl; omega), own_ints h.label (by have := hr.label; omega)⟩
theorem eqD_same13 (d : Dn) : eqD d d = true := by rw [eqD_and]; simp
theorem over_ext13 {w0 w w' : World} {u : Value} (h : Ext w0 w) (hg : w.grownBy w' u.ownBlock) (hu : ∀ g, u.ownBlock = some g → w0.heap.size ≤ g) : Ext w0 w' :=
  Below.grown h hg h.size (fun g ee => hu g ee)
theorem bytes_of13 {l : List Nat} : ∀ u ∈ bytesV l, ∃ x, u = .int .u8 x := by
  intro u hu
  obtain ⟨x, _, rfl⟩ := List.mem_map.1 hu
  exact ⟨_, rfl⟩

/-- both tell the same -/
theorem both13 {A B : LM.Aut} {x y : Nat} {P : Nat → Nat → Bool} {w w1 w2 w3 : World} {n : Nat} {sv v2 : Value} {b b2 : Bool} (h : (b = true ∧ ∃ u, First A B x y P u ∧ n = u.length ∧ w1.ownsRow w.heap.size 5 1 sv n (bytesV u)) ∨ (b = false ∧ n = 0 ∧ w1.ownsRow w.heap.size 5 1 sv n [] ∧ Nowhere A B x y P))
    (h2 : Res w2 w3 A B x y P v2 b2) (hx : Ext w1 w3) (hl : Lim A B x y P) : b = b2 ∧ ∃ u : List Nat, IntsK .u8 w3 sv (u.map fun (b : Nat) => (b : Int)) ∧ IntsK .u8 w3 v2 (u.map fun (b : Nat) => (b : Int)) ∧ w3.ownsRow w.heap.size 5 1 sv n (bytesV u) ∧ n ≤ 1000000 := by
  rcases h with ⟨rfl, u, hF, hnu, hown⟩ | ⟨rfl, rfl, hown, hN⟩
  · have := hl u hF
    rcases h2 with ⟨rfl, u2, hF2, hown2⟩ | ⟨_, _, hN2⟩
    · obtain rfl := hF.uniq hF2
      exact ⟨rfl, u, own_bytes (own_ext hx hown) (by omega), own_bytes hown2 (by omega), own_ext hx hown, by omega⟩
    · exact absurd hN2 (fun h => hF.some h)
  · rcases h2 with ⟨_, u2, hF2, _⟩ | ⟨rfl, rfl, _⟩
    · exact absurd hN (fun h => hF2.some h)
    · exact ⟨rfl, [], own_bytes (u := []) (own_ext hx hown) (by omega), own_bytes (B := 0) (u := []) (World.ownsRow_nil _ _ _ _) (by omega), own_ext hx hown, by omega⟩

set_option maxRecDepth 100000 in
set_option maxHeartbeats 16000000 in
theorem exact13_c {w : World} {vn vl v3 v4 : Value} {d : Dn} {ls : List Int} {ps : List (Int × Int)} {a : Nat → Addr} (h : DenseV w (.agg #[vn, vl]) d) (hf : Reach d) (hl : Ints w v3 ls) (hp : PairsV w v4 ps) (hS : Sents w a) :
    Calls Tryd.prog 8 #[.agg #[vn, vl, v3, v4]] w fun e w' => e = .returned (.bool true) ∧ Ext w w' := by
  obtain ⟨an, cn, al, cl, hv, _⟩ := h.open
  simp only [Value.agg.injEq, Array.mk.injEq, List.cons.injEq, and_true] at hv
  obtain ⟨rfl, rfl⟩ := hv
  obtain ⟨hl1, la, lc, rfl, _, hlo⟩ := hl.open
  obtain ⟨hp1, pa, pc, rfl, _, hpo⟩ := hp
  obtain ⟨n1, hn1⟩ : ∃ n, n = d.next.length := ⟨_, rfl⟩
  obtain ⟨n2, hn2⟩ : ∃ n, n = d.label.length := ⟨_, rfl⟩
  obtain ⟨LN, hLN⟩ : ∃ n, n = ls.length := ⟨_, rfl⟩
  obtain ⟨PN, hPN⟩ : ∃ n, n = ps.length := ⟨_, rfl⟩
  rw [← hn1, ← hn2] at h ⊢
  rw [← hLN] at hl1 hlo ⊢
  rw [← hPN] at hp1 hpo ⊢
  obtain ⟨W, hW⟩ : ∃ W, W = w.alloc (.cells #[.slice an n1 cn, .slice al n2 cl, .slice la LN lc, .slice pa PN pc] 63) := ⟨_, rfl⟩
  have hx : Ext w W := by rw [hW]; exact Ext.box _ _
  have hb : ∀ W', Ext W W' → W'.cell? ⟨w.heap.size, 0, none⟩ = some (.slice an n1 cn) ∧ W'.cell? ⟨w.heap.size, 1, none⟩ = some (.slice al n2 cl) ∧ W'.cell? ⟨w.heap.size, 2, none⟩ = some (.slice la LN lc) ∧ W'.cell? ⟨w.heap.size, 3, none⟩ = some (.slice pa PN pc) := fun W' hx' => by
    refine ⟨hx'.cell ?_, hx'.cell ?_, hx'.cell ?_, hx'.cell ?_⟩ <;> (rw [hW]; simp)
  have H := Lib.hid (And.intro h (And.intro hf (And.intro hlo (And.intro hpo (And.intro hS (And.intro hn1 (And.intro hLN (And.intro hPN (And.intro hx (And.intro hb hW))))))))))
  have hcp := copyDense_c (h.ext hx) hf
  unfold CopiedDense at hcp
  have HCP := Lib.hid hcp
  have HN2 := Lib.hid hn2
  clear h hf hlo hpo hS hn1 hn2 hLN hPN hx hb hW hcp hl
  go_enter Tryd.func8, Tryd.ntmps8
  by_cases h40 : 40 < n1
  · have hj0 : (40 : Int) < n1 := by omega
    go_wp2_with fail
    refine (wakes13_c _).mono ?_
    rintro e w1 ⟨rfl, hx1⟩
    have HX := Lib.hid ((Ext.box w _).trans hx1)
    clear hx1
    go_wp2
    go_ret
    exact ⟨rfl, HX.out⟩
  have hj0 : ¬ (40 : Int) < n1 := by omega
  go_wp2_with fail
  rw [← H.out.2.2.2.2.2.2.2.2.2.2]
  refine HCP.out.mono ?_
  rintro e w1 ⟨xn, xl, own, hs, rfl, hO, hx1⟩
  have hR := copied_dense13 hO H.out.2.1
  obtain ⟨rn, sn, rl, sl, hxv, _⟩ := hR.open
  simp only [Value.agg.injEq, Array.mk.injEq, List.cons.injEq, and_true] at hxv
  obtain ⟨rfl, rfl⟩ := hxv
  rw [← H.out.2.2.2.2.2.1, ← HN2.out] at hR ⊢
  obtain ⟨p0, p1, _, _⟩ := H.out.2.2.2.2.2.2.2.2.2.1 _ hx1
  have hlp := lt_of_cell p0
  obtain ⟨w2, hw2⟩ : ∃ w2, w2 = w1.alloc (.cells #[.slice rn n1 sn, .slice rl n2 sl] 25) := ⟨_, rfl⟩
  have hx2 : Ext w1 w2 := by rw [hw2]; exact Ext.box _ _
  have hz : ∀ W', Ext w2 W' → W'.cell? ⟨w1.heap.size, 0, none⟩ = some (.slice rn n1 sn) ∧ W'.cell? ⟨w1.heap.size, 1, none⟩ = some (.slice rl n2 sl) := fun W' hx' => by
    refine ⟨hx'.cell ?_, hx'.cell ?_⟩ <;> (rw [hw2]; simp)
  have hxw2 := H.out.2.2.2.2.2.2.2.2.1.trans (hx1.trans hx2)
  have hmy := may_c (H.out.1.ext hxw2)
  obtain ⟨m, hm⟩ : ∃ m, m = mayB d := ⟨_, rfl⟩
  rw [← hm] at hmy
  have H2 := Lib.hid (And.intro hmy (And.intro hxw2 (And.intro (hx1.trans hx2) (And.intro (hR.ext hx2) (And.intro hz (And.intro hm hw2))))))
  clear hx1 hx2 hxw2 hmy hz hR hO hm hw2
  go_wp2_with fail
  rw [← H2.out.2.2.2.2.2.2]
  refine H2.out.1.mono ?_
  rintro e w3 ⟨rfl, hx3⟩
  obtain ⟨db, hdb⟩ : ∃ b, b = w1.heap.size := ⟨_, rfl⟩
  obtain ⟨pb, hpb⟩ : ∃ b, b = w.heap.size := ⟨_, rfl⟩
  rw [← hdb, ← hpb]
  -- what stands in the boxes from now on
  have hbx : ∀ W', Ext w3 W' → (W'.cell? ⟨pb, 0, none⟩ = some (.slice an n1 cn) ∧ W'.cell? ⟨pb, 1, none⟩ = some (.slice al n2 cl) ∧ W'.cell? ⟨pb, 2, none⟩ = some (.slice la LN lc) ∧ W'.cell? ⟨pb, 3, none⟩ = some (.slice pa PN pc)) ∧ W'.cell? ⟨db, 0, none⟩ = some (.slice rn n1 sn) ∧ W'.cell? ⟨db, 1, none⟩ = some (.slice rl n2 sl) := fun W' hx' => by
    rw [hdb, hpb]
    exact ⟨H.out.2.2.2.2.2.2.2.2.2.1 _ (H2.out.2.2.1.trans (hx3.trans hx')), H2.out.2.2.2.2.1 _ (hx3.trans hx')⟩
  have H3 := Lib.hid (And.intro (H2.out.2.1.trans hx3) (And.intro (H2.out.2.2.2.1.ext hx3) hbx))
  clear hx3 p0 p1 hlp hdb hpb hbx
  go_wp2
  go_loopw [5] (fun iv wr => Ext w3 wr ∧ ∃ i : Nat, i ≤ LN ∧ iv = .int .i64 i) (fun iv _ => LN - (intOf iv).toNat)
  case atStart => exact ⟨Ext.refl _, 0, Nat.zero_le _, rfl⟩
  case round =>
    rename World => w4
    obtain ⟨hx4, i, hi, rfl⟩ := hrel
    obtain ⟨⟨p0, p1, p2, p3⟩, z0, z1⟩ := H3.out.2.2 _ hx4
    by_cases hgo : i < LN ∧ i < 6
    · obtain ⟨g1, g2⟩ := hgo
      have hj1 : (i : Int) < LN := by omega
      have hj2 : (i : Int) < 6 := by omega
      obtain ⟨lb, lo, rfl, hlc⟩ := H.out.2.2.1 (by omega)
      have hxw4 := H3.out.1.trans hx4
      have c0 := hxw4.cell (hlc i g1)
      obtain ⟨lab, hlab⟩ : ∃ x, x = ls.getD i 0 := ⟨_, rfl⟩
      rw [← hlab] at c0
      have hw := wordX_c (w := w4.drew) (label := lab) (H3.out.2.1.ext (hx4.drew)) (H.out.2.2.2.2.1.ext hxw4.drew)
      unfold WitX at hw
      have HW := Lib.hid (And.intro hw (And.intro hx4 hxw4))
      have hlc0 := hlc i g1
      rw [← hlab] at hlc0
      have HLC := Lib.hid hlc0
      clear hw hx4 hxw4 hlab hlc hlc0
      go_wp2_with fail
      go_region_held3 (fun W => W.cell? ⟨db, 0, none⟩ = some (.slice rn n1 sn) ∧ W.cell? ⟨db, 1, none⟩ = some (.slice rl n2 sl) ∧ W.cell? ⟨pb, 2, none⟩ = some (.slice (some ⟨lb, lo, none⟩) LN lc) ∧ W.cell? ⟨lb, lo + i, none⟩ = some (.int .i64 lab)) (first | (with_reducible exact ⟨z0, z1, p2, c0⟩) | (with_reducible exact ⟨y0, y1, y2, y3⟩) | go_keep) ((first | (go_at_call 35; (with_reducible refine HW.out.1.mono ?_); rintro e w5 ⟨sa, n9, sc, b, er, rfl, hx5, hres⟩; have y0 := hx5.cell (a := w4.drew) z0; have y1 := hx5.cell (a := w4.drew) z1; have y2 := hx5.cell (a := w4.drew) p2; have y3 := hx5.cell (a := w4.drew) c0)))
      all_goals
        have hx45 : Ext w4 w5 := (Ext.drew (Ext.refl w4)).trans hx5
        have hx35 : Ext w3 w5 := HW.out.2.1.trans hx45
        have hxw5 : Ext w w5 := HW.out.2.2.trans hx45
        clear p0 p1 p2 p3 z0 z1 c0 y0 y1 y2 y3
        obtain ⟨⟨p0, p1, p2, p3⟩, z0, z1⟩ := H3.out.2.2 _ hx35
        have c0 := hxw5.cell HLC.out
        clear z0 z1 p3
        rcases hres with ⟨⟨hmay, hlb⟩, rfl, hbr⟩ | ⟨hno, rfl, rfl, rfl⟩
        · obtain rfl : m = true := H2.out.2.2.2.2.2.1.trans (mayB_true.2 hmay)
          have hg1 : ¬ lab < -1 := by omega
          have hrw := refWord_c (w := w5.drew) (label := lab) (H.out.1.ext hxw5.drew) hmay
          have HRW := Lib.hid (And.intro hrw (And.intro hbr (And.intro hx35 (And.intro hxw5 hx45.size))))
          clear hrw hbr hx35 hxw5 hx45 hx5 hlb hmay
          go_wp2_with fail
          go_region_held3 (fun W => W.cell? ⟨pb, 0, none⟩ = some (.slice an n1 cn) ∧ W.cell? ⟨pb, 1, none⟩ = some (.slice al n2 cl) ∧ W.cell? ⟨pb, 2, none⟩ = some (.slice (some ⟨lb, lo, none⟩) LN lc) ∧ W.cell? ⟨lb, lo + i, none⟩ = some (.int .i64 lab)) (first | (with_reducible exact ⟨p0, p1, p2, c0⟩) | (with_reducible exact ⟨y0, y1, y2, y3⟩) | go_keep) ((first | (go_at_call 16; (with_reducible refine HRW.out.1.mono ?_); rintro e w6 ⟨hs6, hlim⟩; obtain ⟨v2, b2, rfl, hx6, hres6⟩ := SearchR.form hs6; have y0 := hx6.cell (a := w5.drew) p0; have y1 := hx6.cell (a := w5.drew) p1; have y2 := hx6.cell (a := w5.drew) p2; have y3 := hx6.cell (a := w5.drew) c0)))
          all_goals
            have hx56 : Ext w5 w6 := (Ext.drew (Ext.refl w5)).trans hx6
            obtain ⟨rfl, u, i1, i2, ho, hn9⟩ := both13 HRW.out.2.1 hres6 hx56 hlim
            have hbb : (b != b) = false := by simp
            have heq := eqBytes_b i1 i2 (r := true) (by simp)
            have H6 := Lib.hid (And.intro heq (And.intro ho (And.intro (HRW.out.2.2.1.trans hx56) (And.intro hx56.size hn9))))
            clear heq ho hx56 i1 i2 hn9 hres6 hs6 hlim hx6 p0 p1 p2 c0 y0 y1 y2 y3
            go_wp2_with fail
            refine H6.out.1.mono ?_
            rintro e w7 ⟨rfl, hx7⟩
            have hov := over_c (own_ext hx7 H6.out.2.1) bytes_of13 (Nat.le_trans HRW.out.2.2.2.2 (Nat.le_trans H6.out.2.2.2.1 hx7.size)) H6.out.2.2.2.2
            have H7 := Lib.hid (And.intro hov (H6.out.2.2.1.trans hx7))
            clear hov hx7
            go_wp2_with fail
            refine H7.out.1.mono ?_
            rintro e w8 ⟨rfl, hg8⟩
            have hx8 := over_ext13 H7.out.2 hg8 (fun g e => Nat.le_trans HW.out.2.1.size (H6.out.2.1.lt g e).1)
            have H8 := Lib.hid hx8
            clear hx8 hg8
            go_wp2
            go_roundw
            case rel => exact ⟨H8.out, i + 1, by omega, by go_num⟩
            case measure => simp [intOf]; omega
        · have H5 := Lib.hid (And.intro hx35 hxw5)
          have hno2 : m = true → lab < -1 := fun e => by
            rcases Int.lt_or_le lab (-1) with h1 | h1
            · exact h1
            · exact absurd ⟨mayB_true.1 (H2.out.2.2.2.2.2.1.symm.trans e), h1⟩ hno
          clear hno hx35 hxw5 hx45 hx5 p0 p1
          cases m
          · clear hno2
            go_wp2_with fail
            refine (isFault_c 15 _).mono ?_
            rintro e w8 ⟨rfl, hx8⟩
            have hsm := same_arg (H.out.2.2.2.2.1.ext (H5.out.2.trans hx8))
            have H8 := Lib.hid (And.intro hsm hx8)
            clear hsm hx8
            unfold faultV at H8 ⊢
            go_wp2_with fail
            refine H8.out.1.mono ?_
            rintro e w9 ⟨rfl, hx9⟩
            have HX := Lib.hid (H5.out.1.trans (H8.out.2.trans hx9))
            clear hx9 p2 c0
            go_wp2
            go_roundw
            case rel => exact ⟨HX.out, i + 1, by omega, by go_num⟩
            case measure => simp [intOf]; omega
          · have hno3 := hno2 rfl
            clear hno2
            go_wp2_with fail
            refine (isFault_c 15 _).mono ?_
            rintro e w8 ⟨rfl, hx8⟩
            have hsm := same_arg (H.out.2.2.2.2.1.ext (H5.out.2.trans hx8))
            have H8 := Lib.hid (And.intro hsm hx8)
            clear hsm hx8
            unfold faultV at H8 ⊢
            go_wp2_with fail
            refine H8.out.1.mono ?_
            rintro e w9 ⟨rfl, hx9⟩
            have HX := Lib.hid (H5.out.1.trans (H8.out.2.trans hx9))
            clear hx9 p2 c0
            go_wp2
            go_roundw
            case rel => exact ⟨HX.out, i + 1, by omega, by go_num⟩
            case measure => simp [intOf]; omega
    · have hguard : (¬ (i : Int) < LN) ∨ ((i : Int) < LN ∧ ¬ (i : Int) < 6) := by omega
      have HX4 := Lib.hid hx4
      clear hx4 hgo
      rcases hguard with hj1 | ⟨hj1, hj2⟩
      all_goals
        go_wp2
        try clear hj1
        try clear hj2
        clear p0 p1 p2 p3 z0 z1
        go_loopw [11] (fun iv wr => Ext w3 wr ∧ ∃ i : Nat, i ≤ PN ∧ iv = .int .i64 i) (fun iv _ => PN - (intOf iv).toNat)
        case atStart => exact ⟨HX4.out, 0, Nat.zero_le _, rfl⟩
        case round =>
          rename World => w5
          obtain ⟨hx5, k, hk, rfl⟩ := hrel
          obtain ⟨⟨p0, p1, p2, p3⟩, z0, z1⟩ := H3.out.2.2 _ hx5
          by_cases hgo : k < PN ∧ k < 6
          · obtain ⟨g1, g2⟩ := hgo
            have hj1 : (k : Int) < PN := by omega
            have hj2 : (k : Int) < 6 := by omega
            obtain ⟨qb, qo, rfl, hqc⟩ := H.out.2.2.2.1 (by omega)
            have hxw5 := H3.out.1.trans hx5
            obtain ⟨⟨av, bv⟩, hpr⟩ : ∃ p, ps[k]? = some p := ⟨_, List.getElem?_eq_getElem (by rw [← H.out.2.2.2.2.2.2.2.1]; exact g1)⟩
            obtain ⟨c0, c1⟩ := hqc k _ hpr
            dsimp only at c0 c1
            have c0 := hxw5.cell c0
            have c1 := hxw5.cell c1
            have hap := fun W hx => apartX_c (w := W) (x := av) (y := bv) (H3.out.2.1.ext (hx5.trans hx)) (H.out.2.2.2.2.1.ext (hxw5.trans hx))
            unfold WitX at hap
            have HA := Lib.hid (And.intro hap (And.intro hx5 hxw5))
            clear hap hx5 hxw5 hpr hqc
            go_wp2_with fail
            refine (HA.out.1 _ (Ext.refl _)).mono ?_
            rintro e w6 ⟨sa, n9, sc, b, er, rfl, hx6, hres⟩
            have hx36 := HA.out.2.1.trans hx6
            have hxw6 := HA.out.2.2.trans hx6
            clear p0 p1 p2 p3 z0 z1 c0 c1
            obtain ⟨⟨p0, p1, p2, p3⟩, z0, z1⟩ := H3.out.2.2 _ hx36
            clear p2 p3
            rcases hres with ⟨⟨hmay, ha0, ha1, hb0, hb1⟩, rfl, hbr⟩ | ⟨hno, rfl, rfl, rfl⟩
            · obtain rfl : m = true := H2.out.2.2.2.2.2.1.trans (mayB_true.2 hmay)
              obtain ⟨x, rfl⟩ : ∃ x : Nat, av = x := ⟨av.toNat, by omega⟩
              obtain ⟨y, rfl⟩ : ∃ y : Nat, bv = y := ⟨bv.toNat, by omega⟩
              simp only [Int.toNat_natCast] at hbr
              have hg1 : ¬ (x : Int) < 0 := by omega
              have hg2 : ¬ (y : Int) < 0 := by omega
              have hg3 : ¬ (n1 : Int) ≤ x := by have := H.out.2.2.2.2.2.1; omega
              have hg4 : ¬ (n1 : Int) ≤ y := by have := H.out.2.2.2.2.2.1; omega
              have hrw := fun W hx => refApart_c (w := W) (H.out.1.ext (hxw6.trans hx)) hmay (x := x) (y := y) (by omega) (by omega)
              have HRW := Lib.hid (And.intro hrw (And.intro hbr (And.intro hx36 (And.intro hxw6 hx6.size))))
              clear hrw hbr hx36 hxw6 hx6 ha0 ha1 hb0 hb1 hmay
              go_wp2_with fail
              refine (HRW.out.1 _ (Ext.refl _)).mono ?_
              rintro e w7 ⟨hs7, hlim⟩
              obtain ⟨v2, b2, rfl, hx7, hres7⟩ := SearchR.form hs7
              obtain ⟨rfl, u, i1, i2, ho, hn9⟩ := both13 HRW.out.2.1 hres7 hx7 hlim
              have hbb : (b != b) = false := by simp
              have heq := eqBytes_b i1 i2 (r := true) (by simp)
              have H6 := Lib.hid (And.intro heq (And.intro ho (And.intro (HRW.out.2.2.1.trans hx7) (And.intro hx7.size hn9))))
              clear heq ho hx7 i1 i2 hn9 hres7 hs7 hlim p0 p1 z0 z1
              go_wp2_with fail
              refine H6.out.1.mono ?_
              rintro e w8 ⟨rfl, hx8⟩
              have hov := over_c (own_ext hx8 H6.out.2.1) bytes_of13 (Nat.le_trans HRW.out.2.2.2.2 (Nat.le_trans H6.out.2.2.2.1 hx8.size)) H6.out.2.2.2.2
              have H7 := Lib.hid (And.intro hov (H6.out.2.2.1.trans hx8))
              clear hov hx8
              go_wp2_with fail
              refine H7.out.1.mono ?_
              rintro e w9 ⟨rfl, hg9⟩
              have hx9 := over_ext13 H7.out.2 hg9 (fun g e => Nat.le_trans HA.out.2.1.size (H6.out.2.1.lt g e).1)
              have H8 := Lib.hid hx9
              clear hx9 hg9
              go_wp2
              go_roundw
              case rel => exact ⟨H8.out, k + 1, by omega, by go_num⟩
              case measure => simp [intOf]; omega
            · have H5 := Lib.hid (And.intro hx36 hxw6)
              have hno2 : m = false ∨ m = true ∧ (av < 0 ∨ ¬ av < 0 ∧ (bv < 0 ∨ ¬ bv < 0 ∧ ((n1 : Int) ≤ av ∨ ¬ (n1 : Int) ≤ av ∧ (n1 : Int) ≤ bv))) := by
                cases m
                · exact .inl rfl
                · have hmay := mayB_true.1 H2.out.2.2.2.2.2.1.symm
                  have hln := H.out.2.2.2.2.2.1
                  refine .inr ⟨rfl, ?_⟩
                  rcases Int.lt_or_le av 0 with h1 | h1
                  · exact .inl h1
                  rcases Int.lt_or_le bv 0 with h2 | h2
                  · exact .inr ⟨by omega, .inl h2⟩
                  rcases Int.lt_or_le av n1 with h3 | h3
                  · refine .inr ⟨by omega, .inr ⟨by omega, .inr ⟨by omega, ?_⟩⟩⟩
                    rcases Int.lt_or_le bv n1 with h4 | h4
                    · exact absurd ⟨hmay, h1, by omega, h2, by omega⟩ hno
                    · exact h4
                  · exact .inr ⟨by omega, .inr ⟨by omega, .inl h3⟩⟩
              clear hno hx36 hxw6 hx6 p0 p1 z1
              rcases hno2 with rfl | ⟨rfl, hq1 | ⟨hq1, hq2 | ⟨hq2, hq3 | ⟨hq3, hq4⟩⟩⟩⟩
              all_goals
                go_wp2_with fail
                refine (isFault_c 15 _).mono ?_
                rintro e w8 ⟨rfl, hx8⟩
                have hsm := same_arg (H.out.2.2.2.2.1.ext (H5.out.2.trans hx8))
                have H8 := Lib.hid (And.intro hsm hx8)
                clear hsm hx8
                unfold faultV at H8 ⊢
                go_wp2_with fail
                refine H8.out.1.mono ?_
                rintro e w9 ⟨rfl, hx9⟩
                have HX := Lib.hid (H5.out.1.trans (H8.out.2.trans hx9))
                clear hx9
                go_wp2
                go_roundw
                case rel => exact ⟨HX.out, k + 1, by omega, by go_num⟩
                case measure => simp [intOf]; omega
          · have hguard : (¬ (k : Int) < PN) ∨ ((k : Int) < PN ∧ ¬ (k : Int) < 6) := by omega
            have hxw5 := H3.out.1.trans hx5
            have heq := fun W hx => eqDense_b (w := W) (H3.out.2.1.ext (hx5.trans hx)) (H.out.1.ext (hxw5.trans hx)) (r := true) (eqD_same13 d)
            have H5 := Lib.hid (And.intro heq hxw5)
            clear heq hx5 hxw5 hgo
            rcases hguard with hj1 | ⟨hj1, hj2⟩
            all_goals
              go_wp2_with fail
              refine (H5.out.1 _ (Ext.refl _)).mono ?_
              rintro e w6 ⟨rfl, hx6⟩
              have H6 := Lib.hid (H5.out.2.trans hx6)
              clear hx6 p0 p1 p2 p3 z0 z1
              go_wp2_with fail
              refine (wakes13_c _).mono ?_
              rintro e w7 ⟨rfl, hx7⟩
              have HX := Lib.hid (H6.out.trans hx7)
              clear hx7
              go_wp2
              go_ret
              exact ⟨rfl, HX.out⟩
end Go.Proofs.YtpeipjfmibjoiaaDoor
