/- bolterref13.Never, of automata that may be. -/
import Derived.Test.YtloooajippcdlaaDoorWitS
import Derived.Test.YtloooajippcdlaaDoorRef13
import Derived.Test.YtloooajippcdlaaDoorNeverA
namespace Go.Proofs.YtloooajippcdlaaDoor
open Go.RowKit

theorem reach_all {A B : LM.Aut} (hB1 : B.n = 1) (hBok : B.ok) {S : List St} {L : List (Nat × List Nat)} {is : Nat → Bool} {j : Nat} (hT : Trail B.n S L) (hF : WM.Bfs (pairNx A B) (A.n * B.n) (0 * B.n + 0) is j 0 L) (hl : L.length ≤ j) :
    (∀ u, LM.Bytes u → ∃ (m : Nat) (s : St), S[m]? = some s ∧ s.a = A.run 0 u) ∧ (∀ (m : Nat) (s : St), S[m]? = some s → ∃ u, LM.Bytes u ∧ s.a = A.run 0 u) := by
  constructor
  · intro u hu
    obtain ⟨m, k, w, _, hL, hk, _⟩ := hF.least (w0 := []) (.inr hl) u hu (.inl hl)
    have hm : m < S.length := by rw [hT.len]; exact (List.getElem?_eq_some_iff.1 hL).1
    refine ⟨m, S[m], List.getElem?_eq_getElem hm, ?_⟩
    obtain ⟨h1, h2⟩ := hT.at_ m S[m] k w (List.getElem?_eq_getElem hm) hL
    rw [pair_run hBok u 0 0 (by omega) hu] at hk
    have h3 := LM.Aut.run_lt hBok u 0 (by omega) hu
    rw [hB1] at h1 h2 hk h3
    omega
  · intro m s hs
    have hm : m < L.length := by rw [← hT.len]; exact (List.getElem?_eq_some_iff.1 hs).1
    obtain ⟨⟨k, w⟩, hL⟩ : ∃ p, L[m]? = some p := ⟨_, List.getElem?_eq_getElem hm⟩
    obtain ⟨h1, h2⟩ := hT.at_ m s k w hs hL
    obtain ⟨_, hw, hk⟩ := hF.node m k w hL
    rw [pair_run hBok w 0 0 (by omega) hw] at hk
    have h3 := LM.Aut.run_lt hBok w 0 (by omega) hw
    rw [hB1] at h1 h2 hk h3
    exact ⟨w, hw, by omega⟩

/-- a rule that is a label behind a word that is not empty: behind a reached state and one byte -/
theorem noRule_step {d : Dn} {r : Nat} : (∃ z, LM.Bytes z ∧ z ≠ [] ∧ d.lb (d.aut.run 0 z) = (r : Int)) ↔ ∃ u c, LM.Bytes u ∧ c < 256 ∧ d.lb (d.aut.nx (d.aut.run 0 u) c) = (r : Int) := by
  constructor
  · rintro ⟨z, hz, hne, e⟩
    obtain ⟨u, c, rfl⟩ : ∃ u c, z = u ++ [c] := ⟨z.dropLast, z.getLast hne, (List.dropLast_concat_getLast hne).symm⟩
    refine ⟨u, c, fun b hb => hz b (List.mem_append.2 (.inl hb)), hz c (by simp), ?_⟩
    rw [LM.Aut.run_append] at e
    exact e
  · rintro ⟨u, c, hu, hc, e⟩
    refine ⟨u ++ [c], fun b hb => ?_, by simp, ?_⟩
    · rcases List.mem_append.1 hb with h | h
      · exact hu b h
      · rw [List.mem_singleton] at h; subst h; exact hc
    · rw [LM.Aut.run_append]; exact e
end Go.Proofs.YtloooajippcdlaaDoor

namespace Go.Proofs.YtloooajippcdlaaDoor
open Go.RowKit

/-- met in the automata ahead; behind the first k reached states; behind one state and the first c bytes -/
def Got (L : List Dn) (i r : Nat) : Prop := ∃ d ∈ L.take i, ¬ NoRule d r
def GotK (d : Dn) (S : List St) (k r : Nat) : Prop := ∃ (m : Nat) (s : St) (c : Nat), m < k ∧ S[m]? = some s ∧ c < 256 ∧ d.lb (d.nx s.a c) = (r : Int)
def GotC (d : Dn) (sa c r : Nat) : Prop := ∃ c', c' < c ∧ d.lb (d.nx sa c') = (r : Int)
noncomputable def flg (P : Nat → Prop) (r : Nat) : Bool := @decide (P r) (Classical.propDecidable _)
theorem flg_true {P : Nat → Prop} {r : Nat} : flg P r = true ↔ P r := by simp [flg]
theorem flg_congr {P Q : Nat → Prop} {r : Nat} (h : P r ↔ Q r) : flg P r = flg Q r := by
  have h1 := flg_true (P := P) (r := r)
  have h2 := flg_true (P := Q) (r := r)
  cases h3 : flg P r <;> cases h4 : flg Q r <;> simp_all

theorem got_snoc {L : List Dn} {i : Nat} {d : Dn} (h : L[i]? = some d) (r : Nat) : Got L (i + 1) r ↔ Got L i r ∨ ¬ NoRule d r := by
  have e : L.take (i + 1) = L.take i ++ [d] := by rw [List.take_add_one, h]; rfl
  unfold Got
  rw [e]
  constructor
  · rintro ⟨d', hd, hk⟩
    rcases List.mem_append.1 hd with h1 | h1
    · exact .inl ⟨d', h1, hk⟩
    · rw [List.mem_singleton] at h1; subst h1; exact .inr hk
  · rintro (⟨d', hd, hk⟩ | hk)
    · exact ⟨d', List.mem_append.2 (.inl hd), hk⟩
    · exact ⟨d, by simp, hk⟩
theorem got_all {L : List Dn} {r : Nat} : (∀ d ∈ L, NoRule d r) ↔ ¬ Got L L.length r := by
  unfold Got
  rw [List.take_length]
  constructor
  · rintro h ⟨d, hd, hn⟩; exact hn (h d hd)
  · intro h d hd
    exact Classical.byContradiction fun hn => h ⟨d, hd, hn⟩
theorem gotK_snoc {d : Dn} {S : List St} {k : Nat} {s : St} (h : S[k]? = some s) (r : Nat) : GotK d S (k + 1) r ↔ GotK d S k r ∨ GotC d s.a 256 r := by
  constructor
  · rintro ⟨m, s', c, hm, hs, hc, e⟩
    by_cases h1 : m < k
    · exact .inl ⟨m, s', c, h1, hs, hc, e⟩
    · obtain rfl : m = k := by omega
      obtain rfl : s = s' := Option.some.inj (h.symm.trans hs)
      exact .inr ⟨c, hc, e⟩
  · rintro (⟨m, s', c, hm, hs, hc, e⟩ | ⟨c, hc, e⟩)
    · exact ⟨m, s', c, by omega, hs, hc, e⟩
    · exact ⟨k, s, c, by omega, h, hc, e⟩
theorem gotC_snoc {d : Dn} {sa c : Nat} (r : Nat) : GotC d sa (c + 1) r ↔ GotC d sa c r ∨ d.lb (d.nx sa c) = (r : Int) := by
  constructor
  · rintro ⟨c', hc, e⟩
    by_cases h1 : c' < c
    · exact .inl ⟨c', h1, e⟩
    · obtain rfl : c' = c := by omega
      exact .inr e
  · rintro (⟨c', hc, e⟩ | e)
    · exact ⟨c', by omega, e⟩
    · exact ⟨c, by omega, e⟩
theorem gotK_all {d : Dn} {S : List St} {L : List (Nat × List Nat)} {is : Nat → Bool} {j : Nat} (hT : Trail oneD.aut.n S L) (hF : WM.Bfs (pairNx d.aut oneD.aut) (d.aut.n * oneD.aut.n) (0 * oneD.aut.n + 0) is j 0 L) (hl : L.length ≤ j) (r : Nat) :
    GotK d S S.length r ↔ ¬ NoRule d r := by
  obtain ⟨h1, h2⟩ := reach_all (A := d.aut) (B := oneD.aut) (by show oneD.next.length = 1; rw [oneD_len]) oneD_may.ok hT hF hl
  unfold NoRule
  rw [Classical.not_not, noRule_step]
  constructor
  · rintro ⟨m, s, c, hm, hs, hc, e⟩
    obtain ⟨u, hu, e2⟩ := h2 m s hs
    exact ⟨u, c, hu, hc, by rw [← e2]; exact e⟩
  · rintro ⟨u, c, hu, hc, e⟩
    obtain ⟨m, s, hs, e2⟩ := h1 u hu
    exact ⟨m, s, c, (List.getElem?_eq_some_iff.1 hs).1, hs, hc, by rw [e2]; exact e⟩

theorem reach_lt {d : Dn} (hm : May d) {S : List St} {L : List (Nat × List Nat)} {is : Nat → Bool} {j : Nat} (hT : Trail oneD.aut.n S L) (hF : WM.Bfs (pairNx d.aut oneD.aut) (d.aut.n * oneD.aut.n) (0 * oneD.aut.n + 0) is j 0 L) (hl : L.length ≤ j) {m : Nat} {s : St} (hs : S[m]? = some s) :
    s.a < d.next.length := by
  obtain ⟨h1, h2⟩ := reach_all (A := d.aut) (B := oneD.aut) (by show oneD.next.length = 1; rw [oneD_len]) oneD_may.ok hT hF hl
  obtain ⟨u, hu, e⟩ := h2 m s hs
  rw [e]
  exact LM.Aut.run_lt hm.ok u 0 hm.pos hu

/-- the memory, while one automaton's reached states are gone through -/
structure NevS (w w5 wr : World) (gS rules : Nat) (P : Nat → Prop) : Prop where
  ext : Ext w wr
  size : w5.heap.size ≤ wr.heap.size
  keep : ∀ k, k < w5.heap.size → k ≠ gS → wr.heap[k]? = w5.heap[k]?
  row : wr.rowIs gS 4 rules (fun r => .bool (flg P r))

theorem NevS.start {w w5 : World} {gS rules : Nat} {P : Nat → Prop} (hx : Ext w w5) (hr : w5.rowIs gS 4 rules (fun r => .bool (flg P r))) : NevS w w5 w5 gS rules P :=
  ⟨hx, Nat.le_refl _, fun _ _ _ => rfl, hr⟩
theorem NevS.more {w w5 wr w' : World} {gS rules : Nat} {P : Nat → Prop} (h : NevS w w5 wr gS rules P) (hx : Ext wr w') : NevS w w5 w' gS rules P :=
  ⟨h.ext.trans hx, Nat.le_trans h.size hx.size, fun k h1 h2 => (hx.block k (Nat.lt_of_lt_of_le h1 h.size)).trans (h.keep k h1 h2), rowIs_ext hx h.row⟩
theorem NevS.same {w w5 wr : World} {gS rules : Nat} {P Q : Nat → Prop} (h : NevS w w5 wr gS rules P) (hPQ : ∀ r, r < rules → (P r ↔ Q r)) : NevS w w5 wr gS rules Q :=
  ⟨h.ext, h.size, h.keep, h.row.congr fun r hr => by rw [flg_congr (hPQ r hr)]⟩
theorem NevS.set {w w5 wr : World} {gS rules : Nat} {P Q : Nat → Prop} (h : NevS w w5 wr gS rules P) (hB : w.heap.size ≤ gS) {n : Nat} (hPQ : ∀ r, r < rules → (Q r ↔ P r ∨ n = r)) : NevS w w5 (wr.setCell ⟨gS, n, none⟩ (.bool true)) gS rules Q := by
  refine ⟨h.ext.setCell (p := ⟨gS, n, none⟩) hB _, by rw [World.size_setCell]; exact h.size, fun k h1 h2 => ?_, (h.row.set n (.bool true)).congr fun r hr => ?_⟩
  · rw [Below.heap_setCell _ _ _ _ h2]; exact h.keep k h1 h2
  · have h3 := hPQ r hr
    by_cases e : n = r
    · subst e
      have : flg Q n = true := flg_true.2 (h3.2 (.inr rfl))
      simp [this]
    · have : flg Q r = flg P r := flg_congr (h3.trans ⟨fun h => h.resolve_right e, .inl⟩)
      rw [this]
      have e' : ¬ r = n := fun h => e h.symm
      simp [e']
theorem rc_off {w : World} {g gS n : Nat} {f : Nat → Bool} {S : List St} (h : w.rowIs gS 4 n (fun r => .bool (f r))) (hR : RcAt w g S) (hS : 0 < S.length) : g ≠ gS := by
  rintro rfl
  obtain ⟨c, hb, hn, hc⟩ := h
  have h0 := (hR 0 S[0] (List.getElem?_eq_getElem hS)).1
  rw [Nat.zero_mul] at h0
  have h1 : w.cell? ⟨g, 0, none⟩ = c[0]? := by simp [World.cell?, hb]
  rw [h1] at h0
  by_cases e : 0 < n
  · rw [hc 0 e] at h0; simp at h0
  · rw [Array.getElem?_eq_none (by omega)] at h0; cases h0
theorem NevS.rc {w w5 wr : World} {gS rules g : Nat} {P : Nat → Prop} {S : List St} (h : NevS w w5 wr gS rules P) (hR : RcAt w5 g S) (hg : g ≠ gS) : RcAt wr g S := fun j s hj => by
  obtain ⟨h1, h2, h3, h4⟩ := hR j s hj
  have hk := h.keep g (lt_of_cell h1) hg
  have hc : ∀ o v, w5.cell? ⟨g, o, none⟩ = some v → wr.cell? ⟨g, o, none⟩ = some v := fun o v hv => (World.cell?_of_block (a := ⟨g, o, none⟩) hk).trans hv
  exact ⟨hc _ _ h1, hc _ _ h2, hc _ _ h3, hc _ _ h4⟩

def RNevR (L : List Dn) (rules : Nat) (w : World) (e : Ending) (w' : World) : Prop :=
  ∃ v, e = .returned v ∧ Ints w' v ((neverA L rules).map fun (r : Nat) => (r : Int)) ∧ Ext w w'
end Go.Proofs.YtloooajippcdlaaDoor

namespace Go.Proofs.YtloooajippcdlaaDoor
open Go.RowKit

set_option maxRecDepth 100000 in
set_option maxHeartbeats 8000000 in
theorem refNever_c {w : World} {v : Value} {L : List Dn} {rules : Nat} (h : DensesV w v L) (hm : ∀ d ∈ L, May d) (hL : L.length ≤ 1000) (hr : rules ≤ 200) :
    Calls Tryd.prog 21 #[v, .int .i64 (rules : Int)] w (RNevR L rules w) := by
  obtain ⟨hl0, la, lc, rfl, _, hlo⟩ := h.open
  obtain ⟨LN, hLN⟩ : ∃ N, N = L.length := ⟨_, rfl⟩
  rw [← hLN] at hl0 hlo hL ⊢
  have hmk := run_make_any (P := Tryd.prog) 103 4 (.bool false) 1 1 Tryd.underlying103 bool_info13r .i64 .i64 rules (by omega) (by omega)
  have H := Lib.hid (And.intro hlo (And.intro hm hLN))
  clear h hm hLN hlo
  go_enter Tryd.func21, Tryd.ntmps21
  go_wp2_with fail
  clear hmk
  obtain ⟨W0, hW0⟩ : ∃ W, W = w.alloc (.cells (madeCells #[.bool false] rules) 4) := ⟨_, rfl⟩
  rw [← hW0]
  obtain ⟨gS, hgS⟩ : ∃ g, g = w.heap.size := ⟨_, rfl⟩
  rw [← hgS]
  have hs0 : W0.rowIs gS 4 rules (fun r => .bool (flg (Got L 0) r)) := by
    rw [hW0, hgS]
    refine (World.rowIs_made w (.bool false) rules 4).congr fun r _ => ?_
    have : flg (Got L 0) r = false := by
      cases h : flg (Got L 0) r
      · rfl
      · obtain ⟨d, hd, _⟩ := flg_true.1 h
        simp at hd
    rw [this]
  have hx0 : Ext w W0 := by rw [hW0]; exact Ext.box _ _
  have HG := Lib.hid (And.intro hs0 (And.intro hx0 (Nat.le_of_eq hgS.symm)))
  clear hs0 hx0 hgS hW0
  go_loopw [6] (fun iv wr => Ext w wr ∧ ∃ i : Nat, i ≤ LN ∧ iv = .int .i64 i ∧ wr.rowIs gS 4 rules (fun r => .bool (flg (Got L i) r))) (fun iv _ => LN - (intOf iv).toNat)
  case atStart => exact ⟨HG.out.2.1, 0, Nat.zero_le _, rfl, HG.out.1⟩
  case round =>
    obtain ⟨hx, i, hi, rfl, hrow⟩ := hrel
    by_cases hlt : i < LN
    · have hj1 : (i : Int) < LN := by omega
      obtain ⟨lb, lo, rfl, hlc⟩ := H.out.1 (by omega)
      obtain ⟨d, hd⟩ : ∃ d, L[i]? = some d := ⟨_, List.getElem?_eq_getElem (by rw [← H.out.2.2]; exact hlt)⟩
      obtain ⟨an, cn, al, cl, c0, c1, hdv⟩ := hlc i d hd
      have hmay := H.out.2.1 d (List.mem_of_getElem? hd)
      have hdf := hdv
      rw [hmay.labels] at hdf c1
      obtain ⟨bn, on, cn', bl, ol, cl', hv, hca⟩ := hdf.cells hmay
      simp only [Value.agg.injEq, Array.mk.injEq, List.cons.injEq, Value.slice.injEq, and_true, true_and] at hv
      obtain ⟨⟨rfl, rfl⟩, rfl, rfl⟩ := hv
      obtain ⟨N, hN⟩ : ∃ N, N = d.next.length := ⟨_, rfl⟩
      rw [← hN] at hdf c0 c1
      have hsp : ∀ W vn cn' vl cl' g, Ext wr W → DenseV W (.agg #[.slice vn 1 cn', .slice vl 1 cl']) oneD → W.cell? ⟨g, 0, none⟩ = some (.int .i64 (-2)) →
          Calls Tryd.prog 36 #[.agg #[.slice (some ⟨bn, on, none⟩) N cn, .slice (some ⟨bl, ol, none⟩) N cl], .agg #[.slice vn 1 cn', .slice vl 1 cl'], .int .i64 0, .int .i64 0, .slice (some ⟨g, 0, none⟩) 1 1] W (SpreadR W d.aut oneD.aut oneD.next.length 0 0 (fun i _ => d.lb i == -2)) :=
        fun W vn cn' vl cl' g hx' hone hg => spread_c (w := W) (hdf.ext (hx.trans hx')) hone hmay oneD_may (x := 0) (y := 0) hmay.pos (by rw [oneD_len]; omega) (P := fun i _ => d.lb i == -2) ⟨_, _, _, rfl⟩ (fun W' i k f z hx2 hi _ => parted_one (hdf.ext ((hx.trans hx').trans hx2)) ⟨_, _, _, _, _, _, rfl⟩ hmay hi (hx2.cell hg))
      have q0 := hx.cell c0
      have q1 := hx.cell c1
      have HW := Lib.hid (And.intro hsp (And.intro hx (And.intro hrow (And.intro hd (And.intro hmay (And.intro hdf (And.intro c0 (And.intro c1 (And.intro hca hN)))))))))
      clear hca hsp hx hrow hd hmay hdf c0 c1 hlc hdv hN
      go_upto_region 5 with fail
      go_region_held3 (fun W => W.cell? ⟨lb, lo + i * 2, none⟩ = some (.slice (some ⟨bn, on, none⟩) N cn) ∧ W.cell? ⟨lb, lo + i * 2 + 1, none⟩ = some (.slice (some ⟨bl, ol, none⟩) N cl))
        (first | (with_reducible exact ⟨q0, q1⟩) | (with_reducible exact ⟨i0, i1⟩) | (with_reducible exact ⟨j0, j1⟩) | go_keep)
        ((first | (go_at_call 37; (with_reducible refine (one13_c _).mono ?_); rintro e w4 ⟨vn, cn', vl, cl', rfl, hone, hx4⟩; first | (have j0 := hx4.cell (a := wr.drew) q0; have j1 := hx4.cell (a := wr.drew) q1) | (have j0 := hx4.cell ((Ext.box wr.drew _).cell (a := wr.drew) q0); have j1 := hx4.cell ((Ext.box wr.drew _).cell (a := wr.drew) q1))) | (go_at_call 36; (first | (refine (HW.out.1 _ vn cn' vl cl' _ ((Ext.drew (Ext.refl wr)).trans (hx4.trans (Ext.box _ _))) (hone.ext (Ext.box _ _)) (new_cell rfl)).mono ?_) | (refine (HW.out.1 _ vn cn' vl cl' _ ((Ext.drew (Ext.refl wr)).trans ((Ext.box wr.drew _).trans hx4)) hone (hx4.cell (new_cell rfl))).mono ?_)); rintro e w5 ⟨g, cap, m, S, Lw, s, k, u, rfl, hiS, hS6, hRc, hTr, hs, hL, hsa, hsb, hra, hrb, hub, hcase, hx5⟩; first | (have i0 := hx5.cell ((Ext.box _ _).cell j0); have i1 := hx5.cell ((Ext.box _ _).cell j1)) | (have i0 := hx5.cell j0; have i1 := hx5.cell j1))))
      all_goals
        have hx5' : Ext wr w5 := by
          first
          | exact (Ext.drew (Ext.refl wr)).trans (hx4.trans ((Ext.box _ _).trans hx5))
          | exact (Ext.drew (Ext.refl wr)).trans ((Ext.box wr.drew _).trans (hx4.trans hx5))
        have hall : m + 1 = S.length ∧ (∀ r, GotK d S S.length r ↔ ¬ NoRule d r) ∧ ∀ (m : Nat) (s : St), S[m]? = some s → s.a < N := by
          rcases hcase with ⟨h1, _⟩ | ⟨_, h1, _, j, h2, h3⟩
          · exfalso
            have h4 := (HW.out.2.2.2.2.1.label s.a hsa).1
            have h5 : d.lb s.a = -2 := by simpa using h1
            have h6 : d.lb s.a = d.label.getD s.a 0 := rfl
            omega
          · exact ⟨h1, fun r => gotK_all hTr h3 h2 r, fun m s hs => by rw [HW.out.2.2.2.2.2.2.2.2.2]; exact reach_lt HW.out.2.2.2.2.1 hTr h3 h2 hs⟩
        obtain ⟨hm1, hga, hlt3⟩ := hall
        obtain ⟨n, hn⟩ : ∃ n, n = m + 1 := ⟨_, rfl⟩
        rw [← hn]
        have hrow5 := rowIs_ext hx5' HW.out.2.2.1
        have hgo : g ≠ gS := rc_off hrow5 hRc (by omega)
        have hst : NevS w w5 w5 gS rules (Got L i) := NevS.start (HW.out.2.1.trans hx5') hrow5
        have hn6 : n ≤ 360000 := by omega
        have hnS : n = S.length := by omega
        have HS := Lib.hid (And.intro hst (And.intro hRc (And.intro hgo (And.intro hga (And.intro hlt3 hnS)))))
        clear hst hRc hgo hga hlt3 hnS hrow5 hx5' hm1 hn hcase hx5 hx4 hone hTr hs hL hsa hsb hra hrb hub hiS hS6 q0 q1 j0 j1 i0 i1
        go_wp2_with fail
        go_loopw [8] (fun kv wi => ∃ k : Nat, k ≤ n ∧ kv = .int .i64 k ∧ NevS w w5 wi gS rules (fun r => Got L i r ∨ GotK d S k r)) (fun kv _ => n - (intOf kv).toNat)
        case atStart => exact ⟨0, Nat.zero_le _, rfl, HS.out.1.same fun r _ => ⟨.inl, fun h => h.resolve_right (by rintro ⟨m, _, _, h, _⟩; omega)⟩⟩
        case round =>
          rename World => wi
          obtain ⟨k, hk, rfl, hNS⟩ := hrel
          by_cases hkn : k < n
          · have hj2 : (k : Int) < n := by omega
            obtain ⟨s, hs⟩ : ∃ s, S[k]? = some s := ⟨_, List.getElem?_eq_getElem (by rw [← HS.out.2.2.2.2.2]; exact hkn)⟩
            have hsN := HS.out.2.2.2.2.1 k s hs
            have hkc := fun wj (hj : NevS w w5 wj gS rules (fun r => (Got L i r ∨ GotK d S k r) ∨ GotC d s.a 0 r)) => (hj.rc HS.out.2.1 HS.out.2.2.1 k s hs).1
            obtain ⟨sa, hsa⟩ : ∃ x, x = s.a := ⟨_, rfl⟩
            have hsn : ∀ r, GotK d S (k + 1) r ↔ GotK d S k r ∨ GotC d sa 256 r := fun r => by rw [hsa]; exact gotK_snoc hs r
            have hcel : ∀ (P : Nat → Prop) wj, NevS w w5 wj gS rules P → wj.cell? ⟨g, k * 4, none⟩ = some (.int .i64 (sa : Int)) := fun P wj hj => by rw [hsa]; exact (hj.rc HS.out.2.1 HS.out.2.2.1 k s hs).1
            rw [← hsa] at hsN
            have hj3 : (sa : Int) < N := by omega
            have HK := Lib.hid (And.intro hNS (And.intro hsn hcel))
            clear hNS hsn hcel hkc hs hsa
            go_wp2_with fail
            go_loopw [9] (fun cv wj => ∃ c : Nat, c ≤ 256 ∧ cv = .int .i64 c ∧ NevS w w5 wj gS rules (fun r => (Got L i r ∨ GotK d S k r) ∨ GotC d sa c r)) (fun cv _ => 256 - (intOf cv).toNat)
            case atStart => exact ⟨0, Nat.zero_le _, rfl, HK.out.1.same fun r _ => ⟨.inl, fun h => h.resolve_right (by rintro ⟨m, h, _⟩; omega)⟩⟩
            case round =>
              rename World => wj
              obtain ⟨c, hc, rfl, hNS⟩ := hrel
              by_cases hc6 : c < 256
              · have hj4 : (c : Int) < 256 := by omega
                have q0 := hNS.ext.cell HW.out.2.2.2.2.2.2.1
                have q1 := hNS.ext.cell HW.out.2.2.2.2.2.2.2.1
                have hca := HW.out.2.2.2.2.2.2.2.2.1
                obtain ⟨br, ro, cr, hr1, hr2⟩ := hca.row sa (by rw [← HW.out.2.2.2.2.2.2.2.2.2]; exact hsN)
                have r1 := hNS.ext.cell hr1
                have r2 := hNS.ext.cell (hr2 c hc6)
                have hlt2 := HW.out.2.2.2.2.1.nx_lt (s := sa) (c := c) (by rw [← HW.out.2.2.2.2.2.2.2.2.2]; exact hsN) hc6
                have r3 := hNS.ext.cell (hca.label _ hlt2)
                rw [← HW.out.2.2.2.2.2.2.2.2.2] at hlt2
                have rc := HK.out.2.2 _ wj hNS
                have hgc := gotC_snoc (d := d) (sa := sa) (c := c)
                obtain ⟨t, ht⟩ : ∃ t, t = d.nx sa c := ⟨_, rfl⟩
                rw [← ht] at r2 r3 hlt2 hgc
                obtain ⟨lab, hlab⟩ : ∃ x, x = d.lb t := ⟨_, rfl⟩
                rw [← hlab] at r3 hgc
                have hj5 : (t : Int) < N := by omega
                have HC := Lib.hid (And.intro hNS hgc)
                clear hNS hgc hr1 hr2 hca ht hlab
                go_wp2_with fail
                go_quiet (fail)
                clear q0 q1 r1 r2 r3 rc
                obtain ⟨wq, hwq⟩ : ∃ z, z = wj.drewN nq := ⟨_, rfl⟩
                have hNq : NevS w w5 wq gS rules (fun r => (Got L i r ∨ GotK d S k r) ∨ GotC d sa c r) := by rw [hwq]; exact HC.out.1.more ((Ext.refl _).drewN _)
                rw [← hwq]
                have hcs : lab < 0 ∨ ¬ lab < 0 ∧ (rules : Int) ≤ lab ∨ ∃ q : Nat, lab = q ∧ q < rules := by
                  by_cases h1 : lab < 0
                  · exact .inl h1
                  by_cases h2 : (rules : Int) ≤ lab
                  · exact .inr (.inl ⟨h1, h2⟩)
                  exact .inr (.inr ⟨lab.toNat, by omega, by omega⟩)
                clear hwq
                rcases hcs with h1 | ⟨h1, h2⟩ | ⟨q, rfl, h2⟩
                · have hj6 : ¬ 0 ≤ lab := by omega
                  have HQ := Lib.hid (hNq.same (Q := fun r => (Got L i r ∨ GotK d S k r) ∨ GotC d sa (c + 1) r) fun r _ => by
                    rw [HC.out.2 r]
                    constructor
                    · rintro (h | h)
                      · exact .inl h
                      · exact .inr (.inl h)
                    · rintro (h | h | h)
                      · exact .inl h
                      · exact .inr h
                      · omega)
                  clear hNq
                  go_wp2_with fail
                  go_roundw
                  case rel => exact ⟨c + 1, by omega, by go_num, HQ.out⟩
                  case measure => simp [intOf]; omega
                · have hj6 : 0 ≤ lab := by omega
                  have hj7 : ¬ lab < (rules : Int) := by omega
                  have HQ := Lib.hid (hNq.same (Q := fun r => (Got L i r ∨ GotK d S k r) ∨ GotC d sa (c + 1) r) fun r _ => by
                    rw [HC.out.2 r]
                    constructor
                    · rintro (h | h)
                      · exact .inl h
                      · exact .inr (.inl h)
                    · rintro (h | h | h)
                      · exact .inl h
                      · exact .inr h
                      · omega)
                  clear hNq
                  go_wp2_with fail
                  go_roundw
                  case rel => exact ⟨c + 1, by omega, by go_num, HQ.out⟩
                  case measure => simp [intOf]; omega
                · have hj7 : (q : Int) < (rules : Int) := by omega
                  have hse := hNq.row.cell h2
                  have hsf := hNq.row.frozen q
                  have HQ := Lib.hid (hNq.set (Q := fun r => (Got L i r ∨ GotK d S k r) ∨ GotC d sa (c + 1) r) HG.out.2.2 (n := q) fun r _ => by
                    rw [HC.out.2 r]
                    constructor
                    · rintro (h | h | h)
                      · exact .inl (.inl h)
                      · exact .inl (.inr h)
                      · exact .inr (by omega)
                    · rintro ((h | h) | h)
                      · exact .inl h
                      · exact .inr (.inl h)
                      · exact .inr (.inr (by omega)))
                  clear hNq
                  go_wp2_with fail
                  go_roundw
                  case rel => exact ⟨c + 1, by omega, by go_num, HQ.out⟩
                  case measure => simp [intOf]; omega
              · obtain rfl : c = 256 := by omega
                have HQ := Lib.hid (hNS.same (Q := fun r => Got L i r ∨ GotK d S (k + 1) r) fun r _ => by rw [HK.out.2.1 r, or_assoc])
                clear hNS hc6
                rw [show ((256 : Nat) : Int) = 256 from rfl]
                go_wp2_with fail
                go_roundw
                case rel => exact ⟨k + 1, by omega, by go_num, HQ.out⟩
                case measure => simp [intOf]; omega
          · obtain rfl : n = k := by omega
            have HQ := Lib.hid (And.intro hNS.ext (hNS.same (Q := Got L (i + 1)) fun r _ => by rw [HS.out.2.2.2.2.2, HS.out.2.2.2.1 r, got_snoc HW.out.2.2.2.1 r]).row)
            clear hNS hkn
            go_wp2_with fail
            go_roundw
            case rel => exact ⟨HQ.out.1, i + 1, by omega, by go_num, HQ.out.2⟩
            case measure => simp [intOf]; omega
    · obtain rfl : LN = i := by omega
      have HE := Lib.hid (And.intro hx (And.intro hrow (fun r (hr : r < rules) => (show flg (Got L LN) r = true ↔ ¬ ∀ d ∈ L, NoRule d r by rw [flg_true, got_all, Classical.not_not, ← H.out.2.2]))))
      clear hx hrow hlt
      rename World => W
      go_wp2_with fail
      go_loopw [11, 12] (fun ov kv wr => ∃ k : Nat, k ≤ rules ∧ kv = .int .i64 k ∧ Ext W wr ∧ wr.ownsRow W.heap.size 3 1 ov (neverA L k).length (numV (neverA L k))) (fun _ kv _ => rules - (intOf kv).toNat)
      case atStart => exact ⟨0, Nat.zero_le _, rfl, Ext.refl _, World.ownsRow_nil _ _ _ _⟩
      case round =>
        obtain ⟨q, hq, rfl, hx, hown⟩ := hrel
        obtain ⟨ao, co, hov⟩ := own_shp' hown
        subst hov
        by_cases hlt : q < rules
        · have hse := hx.cell (HE.out.2.1.cell hlt)
          have hiff := HE.out.2.2 q hlt
          obtain ⟨r, hrr⟩ : ∃ r, r = flg (Got L LN) q := ⟨_, rfl⟩
          rw [← hrr] at hse hiff
          have hll := neverA_len L q
          obtain ⟨m, hm⟩ : ∃ m, m = (neverA L q).length := ⟨_, rfl⟩
          rw [← hm] at hown hll ⊢
          have HX := Lib.hid (And.intro hx (And.intro hiff (And.intro hown hm)))
          have hj : (q : Int) < rules := by omega
          clear hx hrr hiff hm
          cases r
          · obtain ⟨i0, hi0, hz0, hz1, hz2⟩ := info_parts int_info
            have hown' := hown.alloc (.cells #[.int .i64 (q : Int)] 3)
            have hcell := cell_one_new wr (.int .i64 (q : Int)) 3
            have h1c : ∀ u ∈ [Value.int .i64 (q : Int)], u.oneCell' = true := one_int _ _
            have hbase : W.heap.size ≤ (wr.alloc (.cells #[.int .i64 (q : Int)] 3)).heap.size := by have := HX.out.1.size; rw [World.size_alloc]; omega
            have hmax : m + 1 ≤ maxLen := by unfold maxLen; omega
            clear hown
            go_wp2_with (at_builtin; refine wpList_append_own_at _ rfl _ _ 23 rfl W.heap.size 3 i0 (.int .i64 0) 1 8 Tryd.underlying23 hi0 hz0 hz1 hz2 rfl (by decide) _ _ _ rfl hown' ⟨wr.heap.size, 0, none⟩ 1 1 [.int .i64 (q : Int)] rfl rfl hcell h1c hmax (by omega) hbase ?_; intro v' W4 hown9 hg _ hat)
            go_roundw
            case rel =>
              have hno : ∀ d ∈ L, NoRule d q := Classical.not_not.1 (fun h => by have := HX.out.2.1.2 h; cases this)
              refine ⟨q + 1, by omega, by go_num, Below.grown (HX.out.1.trans (Ext.box wr _)) hg hbase (fun g e => (HX.out.2.2.1.lt g e).1), ?_⟩
              rw [neverA_yes hno, numV_snoc, List.length_append, ← HX.out.2.2.2]
              exact hown9
            case measure => simp [intOf]; omega
          · have hno : ¬ ∀ d ∈ L, NoRule d q := HX.out.2.1.1 rfl
            have HO := Lib.hid hown
            clear hown
            go_wp2_with fail
            go_roundw
            case rel => exact ⟨q + 1, by omega, by go_num, HX.out.1, by rw [neverA_no hno, ← HX.out.2.2.2]; exact HO.out⟩
            case measure => simp [intOf]; omega
        · obtain rfl : rules = q := by omega
          have HX := Lib.hid (And.intro hx hown)
          clear hx hown
          go_wp2_with fail
          go_ret
          have hle := neverA_len L rules
          have e : numV (neverA L rules) = ((neverA L rules).map fun (r : Nat) => (r : Int)).map (Value.int .i64) := by simp [numV]
          have ho := HX.out.2
          rw [e] at ho
          exact ⟨_, rfl, own_ints ho (by omega), HE.out.1.trans HX.out.1⟩
end Go.Proofs.YtloooajippcdlaaDoor
