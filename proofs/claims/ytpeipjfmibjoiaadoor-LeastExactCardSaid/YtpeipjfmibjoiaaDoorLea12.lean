/- bolterref12.Least: the answer's own memory; the walk. -/
import Derived.Test.YtpeipjfmibjoiaaDoorCls12
import Derived.Test.YtpeipjfmibjoiaaDoorLeast
import Derived.Test.YtpeipjfmibjoiaaDoorLeastD
namespace Go.Proofs.YtpeipjfmibjoiaaDoor
open Go.RowKit

/-- the answer in the making: 0 its box, 1 the classes told, 2 the rows' headers, 3 the rows, 4 the labels (5 the row that is being filled) -/
structure LeaR (W wr : World) (own : Nat → Nat) (bx : Nat) (tv nv lv : Value) (told : List Nat) (hs : List Value) (rows : List (List Nat)) (labs : List Int) : Prop where
  ext : Ext W wr
  box : Blk 0 wr own W.heap.size bx 25 2 (fun j => if j = 0 then nv else lv)
  told : Lst 1 wr own W.heap.size 3 tv (natV told)
  hdr : Lst 2 wr own W.heap.size 23 nv hs
  rows : Rws 3 wr own W.heap.size hs (rows.map nI)
  labs : Lst 4 wr own W.heap.size 3 lv (intsV labs)

section
variable {W wr w' w2 w4 : World} {own own' : Nat → Nat} {bx : Nat} {tv nv lv v' rv : Value} {told : List Nat} {hs : List Value} {rows : List (List Nat)} {labs : List Int}
theorem LeaR.keep (h : LeaR W wr own bx tv nv lv told hs rows labs) (hx : Ext W w') (hk : Keeps (· ≤ 4) wr own w' own') : LeaR W w' own' bx tv nv lv told hs rows labs :=
  ⟨hx, h.box.keep hk (by omega), h.told.keep hk (by omega), h.hdr.keep hk (by omega), h.rows.keep hk (by omega), h.labs.keep hk (by omega)⟩
theorem LeaR.more (h : LeaR W wr own bx tv nv lv told hs rows labs) (hx : Ext wr w') : LeaR W w' own bx tv nv lv told hs rows labs := h.keep (h.ext.trans hx) (.ext hx)
theorem LeaR.hlen (h : LeaR W wr own bx tv nv lv told hs rows labs) : hs.length = rows.length := by have := h.rows.len; simp at this; omega
theorem LeaR.tell (h : LeaR W wr own bx tv nv lv told hs rows labs) {x : Nat} (hx : Ext wr w2) (hown : w4.ownsRow W.heap.size 3 1 v' (told.length + 1) (natV told ++ [.int .i64 (x : Int)])) (hg : w2.grownBy w4 tv.ownBlock)
    (hat : v'.ownBlock = tv.ownBlock ∨ v'.ownBlock = some w2.heap.size) : LeaR W w4 (newTag wr own 1) bx v' nv lv (told ++ [x]) hs rows labs ∧ Keeps (· ≠ 1) wr own w4 (newTag wr own 1) := by
  obtain ⟨h1, h2⟩ := h.told.push hx (by rw [natV_length]; exact hown) hg hat
  exact ⟨⟨h.told.push_ext h.ext (Nat.le_refl _) hx hg, h.box.keep h2 (by omega), by rw [natV_snoc]; exact h1, h.hdr.keep h2 (by omega), h.rows.keep h2 (by omega), h.labs.keep h2 (by omega)⟩, h2⟩
theorem LeaR.addRow (h : LeaR W wr own bx tv nv lv told hs rows labs) {row : List Nat} (hr : Lst 5 wr own W.heap.size 3 rv (natV row)) (hx : Ext wr w2) (hown : w4.ownsRow W.heap.size 23 1 v' (hs.length + 1) (hs ++ [rv])) (hg : w2.grownBy w4 nv.ownBlock)
    (hat : v'.ownBlock = nv.ownBlock ∨ v'.ownBlock = some w2.heap.size) : ∃ own', LeaR W (w4.setCell ⟨bx, 0, none⟩ v') own' bx tv v' lv told (hs ++ [rv]) (rows ++ [row]) labs := by
  obtain ⟨h1, h2, h3, h4⟩ := h.box.grow h.hdr (by omega) hx hown hg hat 0
  have h5 := hr.keep h3 (by omega)
  rw [natV_intsV] at h5
  have hj := Keeps.join (w4.setCell ⟨bx, 0, none⟩ v') (newTag wr own 2) 5 3
  refine ⟨joinTag (newTag wr own 2) 5 3, ⟨h4 W h.ext (Nat.le_refl _), (h1.keep hj (by omega)).congr fun i hi => ?_, (h.told.keep h3 (by omega)).keep hj (by omega), h2.keep hj (by omega), ?_, (h.labs.keep h3 (by omega)).keep hj (by omega)⟩⟩
  · rcases (by omega : i = 0 ∨ i = 1) with rfl | rfl <;> rfl
  · rw [List.map_append]
    exact (h.rows.keep h3 (by omega)).join (by omega) h5
theorem LeaR.addLab (h : LeaR W wr own bx tv nv lv told hs rows labs) {x : Int} (hx : Ext wr w2) (hown : w4.ownsRow W.heap.size 3 1 v' (labs.length + 1) (intsV labs ++ [.int .i64 x])) (hg : w2.grownBy w4 lv.ownBlock)
    (hat : v'.ownBlock = lv.ownBlock ∨ v'.ownBlock = some w2.heap.size) : LeaR W (w4.setCell ⟨bx, 1, none⟩ v') (newTag wr own 4) bx tv nv v' told hs rows (labs ++ [x]) := by
  have hl : (intsV labs).length = labs.length := by simp [intsV]
  obtain ⟨h1, h2, h3, h4⟩ := h.box.grow h.labs (by omega) hx (by rw [hl]; exact hown) hg hat 1
  refine ⟨h4 W h.ext (Nat.le_refl _), h1.congr fun i hi => ?_, h.told.keep h3 (by omega), h.hdr.keep h3 (by omega), h.rows.keep h3 (by omega), ?_⟩
  · rcases (by omega : i = 0 ∨ i = 1) with rfl | rfl <;> rfl
  · have e : intsV (labs ++ [x]) = intsV labs ++ [.int .i64 x] := by simp [intsV]
    rw [e]; exact h2
theorem LeaR.dense (h : LeaR W wr own bx tv nv lv told hs rows labs) (h1 : rows.length ≤ 1000) (h2 : labs.length ≤ 1000) (h3 : ∀ l ∈ rows, l.length ≤ 1000) (w' : World) (hb : ∀ g, W.heap.size ≤ g → w'.heap[g]? = wr.heap[g]?) : DenseV w' (.agg #[nv, lv]) (dnOf (rows, labs)) :=
  have far : ∀ {k : Nat} {e : TypeId} {v : Value} {xs : List Value}, Lst k wr own W.heap.size e v xs → Lst k w' own W.heap.size e v xs := fun hl => ⟨own_block hl.row fun g hg _ => hb g (hl.row.lt g hg).1, hl.tag⟩
  have hrf : Rws 3 w' own W.heap.size hs (rows.map nI) := ⟨h.rows.len, fun i hv l h1 h2 => far (h.rows.row i hv l h1 h2)⟩
  ⟨nv, lv, rfl, hrf.read (far h.hdr) (by simp; omega) (fun l hl => by
    obtain ⟨r, hr, rfl⟩ := List.mem_map.1 hl
    have := h3 r hr
    rw [nI_len]; omega), (far h.labs).ints (by omega)⟩
theorem LeaR.start (w : World) : ∃ own, LeaR w ((w.alloc (.cells #[.int .i64 ((0 : Nat) : Int)] 3)).alloc (.cells #[.slice none 0 0, .slice none 0 0] 25)) own (w.heap.size + 1) (.slice (some ⟨w.heap.size, 0, none⟩) 1 1) (.slice none 0 0) (.slice none 0 0) [0] [] [] [] := by
  have hb := Blk.made w (fun _ => 9) 1 (Nat.le_refl w.heap.size) #[.int .i64 ((0 : Nat) : Int)] 3 (n := 1) rfl (fun _ => .int .i64 ((0 : Nat) : Int)) (fun i hi => by match i, hi with | 0, _ => rfl)
  have hl := hb.lst (by unfold maxLen; omega) (xs := natV [0]) rfl (fun i x hx => by
    match i, hx with
    | 0, hx => simp [natV] at hx; exact hx)
  have hb2 := Blk.made (w.alloc (.cells #[.int .i64 ((0 : Nat) : Int)] 3)) (newTag w (fun _ => 9) 1) 0 (B := w.heap.size) (by simp) #[.slice none 0 0, .slice none 0 0] 25 (n := 2) rfl (fun j => if j = 0 then .slice none 0 0 else .slice none 0 0) (fun i hi => by rcases (by omega : i = 0 ∨ i = 1) with rfl | rfl <;> rfl)
  refine ⟨_, ⟨(Ext.box _ _).alloc _, by simpa using hb2, hl.keep (S := fun _ => True) (.new (Ext.box _ _) 0) trivial, .nil _ _ _ _ _, .nil _ _ _ _, .nil _ _ _ _ _⟩⟩
end

theorem len_row {k B n : Nat} {w w' : World} {own : Nat → Nat} {v : Value} {xs : List Value} (h : Lst k w own B 3 v xs) (h' : w'.ownsRow B 3 1 v n xs) : w.ownsRow B 3 1 v n xs := by
  have h1 := h.row
  have e : n = xs.length := by have := h'.1; omega
  rw [e]; exact h1
theorem row_len {k B n : Nat} {w w' w4 : World} {own : Nat → Nat} {v v' : Value} {xs ys : List Value} (_ : Lst k w own B 3 v xs) (h' : w'.ownsRow B 3 1 v n xs) (h4 : w4.ownsRow B 3 1 v' (n + 1) ys) : w4.ownsRow B 3 1 v' (xs.length + 1) ys := by
  have e : n = xs.length := by have := h'.1; omega
  rw [← e]; exact h4

def RLeaR (d : Dn) (w : World) (e : Ending) (w' : World) : Prop :=
  ∃ v C, e = .returned (.tuple #[v, faultV 0]) ∧ LM.Tells d.aut C ∧ DenseV w' v (dnOf (LM.least d.aut C)) ∧ Ext w w'

/-- the number of a class among those told, as the search finds it -/
def FindK (told : List Nat) (tq : Nat) (k : Nat) (av : Value) : Prop :=
  (av = .int .i64 (-1) ∧ ∀ j r, j < k → told[j]? = some r → r ≠ tq) ∨ (∃ q : Nat, av = .int .i64 (q : Int) ∧ q < k ∧ told[q]? = some tq ∧ ∀ j r, j < q → told[j]? = some r → r ≠ tq)

set_option maxRecDepth 100000 in
set_option maxHeartbeats 16000000 in
theorem refleast_c {w : World} {v : Value} {d : Dn} (h : DenseV w v d) (hm : May d) : Calls Tryd.prog 45 #[v] w (RLeaR d w) := by
  obtain ⟨bn, on, cn, bl, ol, cl, rfl, hc⟩ := h.cells hm
  obtain ⟨N, hN⟩ : ∃ N, N = d.next.length := ⟨_, rfl⟩
  have hpos : 0 < N := by rw [hN]; exact hm.pos
  have hN6 : N ≤ 600 := by rw [hN]; exact hm.most
  rw [← hN] at h ⊢
  obtain ⟨W, hW⟩ : ∃ W, W = ((w.alloc (.cells #[.slice (some ⟨bn, on, none⟩) N cn, .slice (some ⟨bl, ol, none⟩) N cl] 25)).alloc (.cells #[.slice none 0 0, .slice none 0 0] 25)).alloc (.cells #[.int .i64 0, .int .i64 0, .int .i64 0, .int .i64 0, .slice none 0 0] 69) := ⟨_, rfl⟩
  have hx : Ext w W := by rw [hW]; exact ((Ext.box _ _).alloc _).alloc _
  have q0 : W.cell? ⟨w.heap.size, 0, none⟩ = some (.slice (some ⟨bn, on, none⟩) N cn) := by rw [hW]; exact ((Ext.box _ _).alloc _).cell (new_cell rfl)
  have q1 : W.cell? ⟨w.heap.size, 1, none⟩ = some (.slice (some ⟨bl, ol, none⟩) N cl) := by rw [hW]; exact ((Ext.box _ _).alloc _).cell (new_cell rfl)
  have hrd : W.rowIs (w.heap.size + 1) 25 2 (fun j => if j = 0 then .slice none 0 0 else .slice none 0 0) := by
    have q := World.rowIs_alloc (w.alloc (.cells #[.slice (some ⟨bn, on, none⟩) N cn, .slice (some ⟨bl, ol, none⟩) N cl] 25)) #[.slice none 0 0, .slice none 0 0] 25 (fun j => if j = 0 then .slice none 0 0 else .slice none 0 0) (fun i hi => by rcases (by simp at hi; omega : i = 0 ∨ i = 1) with rfl | rfl <;> rfl)
    rw [World.size_alloc] at q
    rw [hW]; exact rowIs_ext (Ext.box _ _) q
  have hrf : W.rowIs (w.heap.size + 1 + 1) 69 5 (rF (.int .i64 0) (.int .i64 0) (.int .i64 0) (.int .i64 0) (.slice none 0 0)) := by
    have q := World.rowIs_alloc ((w.alloc (.cells #[.slice (some ⟨bn, on, none⟩) N cn, .slice (some ⟨bl, ol, none⟩) N cl] 25)).alloc (.cells #[.slice none 0 0, .slice none 0 0] 25)) #[.int .i64 0, .int .i64 0, .int .i64 0, .int .i64 0, .slice none 0 0] 69 (rF (.int .i64 0) (.int .i64 0) (.int .i64 0) (.int .i64 0) (.slice none 0 0)) (fun i hi => by rcases rF_at hi with rfl | rfl | rfl | rfl | rfl <;> rfl)
    rw [World.size_alloc, World.size_alloc] at q
    rw [hW]; exact q
  have hmay := may_c (h.ext hx)
  rw [mayB_true.2 hm] at hmay
  have hrow : ∀ s, s < N → ∃ br ro cr, W.cell? ⟨bn, on + s, none⟩ = some (.slice (some ⟨br, ro, none⟩) 256 cr) ∧ ∀ c, c < 256 → W.cell? ⟨br, ro + c, none⟩ = some (.int .i64 (d.nx s c : Nat)) := fun s hs => by
    obtain ⟨br, ro, cr, r1, r2⟩ := hc.row s (by omega)
    exact ⟨br, ro, cr, hx.cell r1, fun c hcc => hx.cell (r2 c hcc)⟩
  have hlab : ∀ s, s < N → W.cell? ⟨bl, ol + s, none⟩ = some (.int .i64 (d.lb s)) := fun s hs => hx.cell (hc.label s (by omega))
  have H := Lib.hid (And.intro hmay (And.intro hx (And.intro hrd (And.intro hrf (And.intro q0 (And.intro q1 (And.intro h (And.intro hm (And.intro hN (And.intro hrow (And.intro hlab hW)))))))))))
  clear hmay hx hrd hrf q0 q1 h hm hN hW hc hrow hlab
  go_enter Tryd.func45, Tryd.ntmps45
  go_wp2_with fail
  rw [← H.out.2.2.2.2.2.2.2.2.2.2.2]
  refine H.out.1.mono ?_
  rintro e w1 ⟨rfl, hx1⟩
  have q0 := hx1.cell H.out.2.2.2.2.1
  have q1 := hx1.cell H.out.2.2.2.2.2.1
  have hsp := split12_c (H.out.2.2.2.2.2.2.1.ext (H.out.2.1.trans hx1)) H.out.2.2.2.2.2.2.2.1
  unfold Split12R at hsp
  have HS := Lib.hid (And.intro hsp hx1)
  clear hsp hx1
  go_wp2_with fail
  refine HS.out.1.mono ?_
  rintro e w2 ⟨g, C, rfl, hg, hrc, hSp, hT, hx2⟩
  rw [← H.out.2.2.2.2.2.2.2.2.1] at hrc ⊢
  have hxW2 := HS.out.2.trans hx2
  have hC0 : C 0 = 0 := by have := hSp.le 0; omega
  have k0 := hrc.cell (i := 0) hpos
  rw [hC0] at k0
  have hN0 : (0 : Int) < N := by omega
  obtain ⟨own0, hL0⟩ := LeaR.start w2
  obtain ⟨A, hA⟩ : ∃ A, A = d.aut := ⟨_, rfl⟩
  obtain ⟨B, hB⟩ : ∃ B, B = LM.autC A C := ⟨_, rfl⟩
  rw [← hA] at hSp hT
  have hAok : A.ok := by rw [hA]; exact H.out.2.2.2.2.2.2.2.1.ok
  have hAn : A.n = N := by rw [hA, H.out.2.2.2.2.2.2.2.2.1]; rfl
  have hBok : B.ok := by rw [hB]; exact LM.autC_ok hAok hSp
  have hBn : B.n = N := by rw [hB]; exact hAn
  have hfix : ∀ i, ∀ r ∈ (LM.found B C i).1, C r = r := by rw [hB]; exact LM.found_fix hSp
  have hfix2 : ∀ i s m, ∀ r ∈ (LM.scan B C (LM.found B C i).1 s m).1, C r = r := by rw [hB]; intro i s m; exact LM.scan_fix hSp (LM.found_fix hSp i) m
  have hnx : ∀ s c, B.nx s c = C (d.nx s c) := fun s c => by rw [hB, hA]; rfl
  have hlb : ∀ s, B.lb s = d.lb s := fun s => by rw [hB, hA]; rfl
  have hlst : LM.least B C = LM.least d.aut C := by rw [hB, ← hA]; exact LM.autC_least hAok hSp hT
  rw [hA] at hT
  have hid := hSp.idem
  have HC := Lib.hid (And.intro hrc (And.intro hxW2 (And.intro hT (And.intro hBok (And.intro hBn (And.intro hfix (And.intro hfix2 (And.intro hnx (And.intro hlb (And.intro hlst hid))))))))))
  have HL0 := Lib.hid hL0
  clear hg hrc hSp hT hx2 hxW2 hC0 hA hB hAok hAn hBok hBn hfix hfix2 hnx hlb hlst hid hL0 q0 q1
  have hlw2 := lt_of_cell k0
  obtain ⟨i0, hi0, hz0, hz1, hz2⟩ := info_parts int_info
  go_wp2
  obtain ⟨bx, hbx⟩ : ∃ b, b = w2.heap.size + 1 := ⟨_, rfl⟩
  rw [← hbx] at HL0 ⊢
  clear hbx k0
  generalize World.alloc (World.alloc w2 _) _ = w3 at HL0 ⊢
  generalize (Value.slice (some ⟨w2.heap.size, 0, none⟩) 1 1) = tv0 at HL0 ⊢
  go_loopw [5, 7] (fun tv iv wr => ∃ (i : Nat) (own : Nat → Nat) (nv lv : Value) (hs : List Value), i ≤ N ∧ i ≤ (LM.found B C i).1.length ∧ iv = .int .i64 i ∧ LeaR w2 wr own bx tv nv lv (LM.found B C i).1 hs (LM.found B C i).2 (((LM.found B C i).1.take i).map B.lb)) (fun _ iv _ => N - (intOf iv).toNat)
  case atStart => exact ⟨0, own0, _, _, [], Nat.zero_le _, Nat.zero_le _, rfl, HL0.out⟩
  case round =>
    clear HL0
    obtain ⟨i, own, nv, lv, hs, hiN, hiR, rfl, hL⟩ := hrel
    have hRN : (LM.found B C i).1.length ≤ N := by rw [← HC.out.2.2.2.2.1]; exact (LM.Reps.found HC.out.2.2.2.1 C i).length_le
    obtain ⟨R, hR⟩ : ∃ R, R = (LM.found B C i).1.length := ⟨_, rfl⟩
    have htr := hL.told.row
    rw [natV_length, ← hR] at htr
    obtain ⟨at0, ct0, htv⟩ := own_shp htr
    subst htv
    rw [← hR] at hRN hiR
    by_cases hlt : i < R
    · obtain ⟨s, hs'⟩ : ∃ s, (LM.found B C i).1[i]? = some s := ⟨_, List.getElem?_eq_getElem (by rw [← hR]; exact hlt)⟩
      have hsN : s < N := by rw [← HC.out.2.2.2.2.1]; exact (LM.Reps.found HC.out.2.2.2.1 C i).lt s (List.mem_of_getElem? hs')
      have hj1 : (i : Int) < R := by omega
      have HL := Lib.hid (And.intro hL (And.intro hs' hR))
      clear hL htr hs' hR
      go_wp2
      go_loopw [5, 8, 9] (fun tv rv cv wi => ∃ (c : Nat) (own : Nat → Nat), c ≤ 256 ∧ cv = .int .i64 c ∧ LeaR w2 wi own bx tv nv lv (LM.scan B C (LM.found B C i).1 s c).1 hs (LM.found B C i).2 (((LM.found B C i).1.take i).map B.lb) ∧ Lst 5 wi own w2.heap.size 3 rv (natV (LM.scan B C (LM.found B C i).1 s c).2)) (fun _ _ cv _ => 256 - (intOf cv).toNat)
      case atStart => exact ⟨0, own, Nat.zero_le _, rfl, HL.out.1, .nil _ _ _ _ _⟩
      case round =>
        rename World => wi
        obtain ⟨c, own1, hc, rfl, hL, hrl⟩ := hrel
        by_cases hltc : c < 256
        · have hpre : (LM.found B C i).1 <+: (LM.scan B C (LM.found B C i).1 s c).1 := LM.scan_prefix B C _ s c
          have hTN := (LM.Reps.scan HC.out.2.2.2.1 (LM.Reps.found HC.out.2.2.2.1 C i) (s := s) (by rw [HC.out.2.2.2.2.1]; exact hsN) c (by omega)).length_le
          rw [HC.out.2.2.2.2.1] at hTN
          have hfx := HC.out.2.2.2.2.2.2.1 i s c
          have hsc : LM.scan B C (LM.found B C i).1 s (c + 1) = (LM.addRep C (LM.scan B C (LM.found B C i).1 s c).1 (C (d.nx s c)), (LM.scan B C (LM.found B C i).1 s c).2 ++ [LM.idx C (LM.scan B C (LM.found B C i).1 s c).1 (C (d.nx s c))]) := by
            rw [← HC.out.2.2.2.2.2.2.2.1]; rfl
          have hql := LM.scan_length B C (LM.found B C i).1 s c
          generalize LM.scan B C (LM.found B C i).1 s c = Q at hL hrl hpre hTN hfx hsc hql
          obtain ⟨Qt, Qr⟩ := Q
          simp only at hL hrl hpre hTN hfx hsc hql
          obtain ⟨T, hTT⟩ : ∃ T, T = Qt.length := ⟨_, rfl⟩
          have hiT : i < T := by have := hpre.length_le; have := HL.out.2.2; omega
          have hsQ : Qt[i]? = some s := by
            obtain ⟨h1, h2⟩ := List.getElem?_eq_some_iff.1 HL.out.2.1
            rw [List.getElem?_eq_getElem (by omega), ← hpre.getElem h1, h2]
          have htr := hL.told.row
          rw [natV_length, ← hTT] at htr
          obtain ⟨gt, ct, htv, _, _⟩ := own_slc htr (by omega)
          subst htv
          have hrr := hrl.row
          rw [natV_length, hql] at hrr
          obtain ⟨ar, cr9, hrv⟩ := own_shp hrr
          subst hrv
          have c1 := htr.cellAt i (by omega)
          rw [natV_get (by rw [← hTT]; exact hiT), List.getD_eq_getElem?_getD, hsQ] at c1
          replace c1 : wi.cell? ⟨gt, i, none⟩ = some (.int .i64 (s : Nat)) := c1
          obtain ⟨t, ht⟩ : ∃ t, t = d.nx s c := ⟨_, rfl⟩
          have htN : t < N := by rw [ht, H.out.2.2.2.2.2.2.2.2.1]; exact H.out.2.2.2.2.2.2.2.1.nx_lt (by rw [← H.out.2.2.2.2.2.2.2.2.1]; exact hsN) hltc
          have hxW := HC.out.2.1.trans hL.ext
          obtain ⟨br, ro, cr, r1, r2⟩ := H.out.2.2.2.2.2.2.2.2.2.1 s hsN
          have p0 := hxW.cell H.out.2.2.2.2.1
          have p1 := hxW.cell r1
          have p2 := hxW.cell (r2 c hltc)
          rw [← ht] at p2 hsc
          have p3 := (rowIs_ext hL.ext HC.out.1).cell (i := t) htN
          obtain ⟨tq, hto⟩ : ∃ tq, tq = C t := ⟨_, rfl⟩
          rw [← hto] at p3 hsc
          have hCto : C tq = tq := by rw [hto]; exact HC.out.2.2.2.2.2.2.2.2.2.2 t
          have hj2 : (c : Int) < 256 := by omega
          have hj3 : (i : Int) < T := by omega
          have hj4 : (s : Int) < N := by omega
          have hj5 : (t : Int) < N := by omega
          have hT6 : T ≤ 600 := by omega
          have HI := Lib.hid (And.intro hL (And.intro hrl (And.intro htr (And.intro hrr (And.intro hsc (And.intro hfx (And.intro hCto hTT)))))))
          clear hL hrl htr hrr hsc hfx hCto hTT hpre hsQ ht hto hxW r1 r2 hql
          go_wp2_with fail
          go_quiet (fail)
          go_wp2
          obtain ⟨w6, hw6⟩ : ∃ z, z = wi.drewN nq := ⟨_, rfl⟩
          have hx6 : Ext wi w6 := by rw [hw6]; exact (Ext.refl _).drewN _
          rw [← hw6]
          have htold : ∀ j r, Qt[j]? = some r → w6.cell? ⟨gt, j, none⟩ = some (.int .i64 (r : Nat)) := fun j r hj => by
            have hjl := (List.getElem?_eq_some_iff.1 hj).1
            refine hx6.cell ?_
            rw [HI.out.2.2.1.cellAt j (by have := HI.out.2.2.2.2.2.2.2; omega), natV_get hjl, List.getD_eq_getElem?_getD, hj]; rfl
          have H6 := Lib.hid (And.intro (HI.out.1.more hx6) (And.intro (HI.out.2.1.ext hx6) (And.intro (own_ext hx6 HI.out.2.2.1) (And.intro (own_ext hx6 HI.out.2.2.2.1) htold))))
          have hw6s : w2.heap.size ≤ w6.heap.size := Nat.le_trans HI.out.1.ext.size hx6.size
          clear hw6 hx6 htold c1 p0 p1 p2 p3 hj3 hj4 hj5
          go_loop [11, 12] (fun av kv => ∃ k : Nat, k ≤ T ∧ kv = .int .i64 k ∧ FindK Qt tq k av) (fun _ kv => T - (intOf kv).toNat)
          case atStart => exact ⟨0, Nat.zero_le _, rfl, .inl ⟨rfl, fun j r hj => absurd hj (Nat.not_lt_zero _)⟩⟩
          case round =>
            obtain ⟨k, hk, rfl, hF⟩ := hrel
            have hown6 := H6.out.2.2.1
            have hownR := H6.out.2.2.2.1
            rcases hF with ⟨rfl, hno⟩ | ⟨q, rfl, hqk, hq, hno⟩
            · by_cases hlk : k < T
              · obtain ⟨r, hr⟩ : ∃ r, Qt[k]? = some r := ⟨_, List.getElem?_eq_getElem (by have := HI.out.2.2.2.2.2.2.2; omega)⟩
                have c1 := H6.out.2.2.2.2 k r hr
                have hj3 : (k : Int) < T := by omega
                have HK := Lib.hid (And.intro hr hno)
                clear hr hno hown6 hownR
                by_cases hrt : r = tq
                · have hrt' : ((r : Int) == (tq : Int)) = true := by rw [hrt]; simp
                  have HE := Lib.hid hrt
                  clear hrt
                  go_wp2
                  go_round
                  case rel => exact ⟨k + 1, by omega, by go_num, .inr ⟨k, rfl, by omega, by rw [HK.out.1, HE.out], HK.out.2⟩⟩
                  case measure => simp [intOf]; omega
                · have hrt' : ((r : Int) == (tq : Int)) = false := by rw [beq_eq_false_iff_ne]; omega
                  have HE := Lib.hid hrt
                  clear hrt
                  go_wp2
                  go_round
                  case rel => exact ⟨k + 1, by omega, by go_num, .inl ⟨rfl, fun j r' hj hr' => by
                    by_cases e : j = k
                    · subst e
                      obtain rfl := Option.some.inj (HK.out.1.symm.trans hr')
                      exact HE.out
                    · exact HK.out.2 j r' (by omega) hr'⟩⟩
                  case measure => simp [intOf]; omega
              · obtain rfl : T = k := by omega
                have hie : LM.idx C Qt tq = T := by
                  rw [HI.out.2.2.2.2.2.2.2]
                  exact LM.idx_end HI.out.2.2.2.2.2.1 HI.out.2.2.2.2.2.2.1 fun j r hj => hno j r (by rw [HI.out.2.2.2.2.2.2.2]; exact hj)
                have hownT := own_ext (Ext.box w6 (.cells #[.int .i64 (tq : Int)] 3)) hown6
                have hcT := cell_one_new w6 (.int .i64 (tq : Int)) 3
                have h1T : ∀ u ∈ [Value.int .i64 (tq : Int)], u.oneCell' = true := one_int _ _
                have h1R : ∀ u ∈ [Value.int .i64 (T : Int)], u.oneCell' = true := one_int _ _
                have hbT : w2.heap.size ≤ (w6.alloc (.cells #[.int .i64 (tq : Int)] 3)).heap.size := by rw [World.size_alloc]; omega
                have hmT : T + 1 ≤ maxLen := by unfold maxLen; omega
                have hmR : c + 1 ≤ maxLen := by unfold maxLen; omega
                have hj3 : ¬ (T : Int) < T := by omega
                have HE := Lib.hid hie
                clear hno hie hown6 hownR hlk
                go_wp2_with (at_builtin; first | (refine wpList_append_own_at _ rfl _ _ 23 rfl w2.heap.size 3 i0 (.int .i64 0) 1 8 Tryd.underlying23 hi0 hz0 hz1 hz2 rfl (by decide) (.slice (some ⟨gt, 0, none⟩) T ct) T _ rfl hownT ⟨w6.heap.size, 0, none⟩ 1 1 [.int .i64 (tq : Int)] rfl rfl hcT h1T hmT (by omega) hbT ?_; intro v7 w7 hown7 hg7 _ hat7; obtain ⟨g7, c7, hv7, -, -⟩ := own_slc hown7 (by omega); subst hv7; obtain ⟨hL7, hk7⟩ := H6.out.1.tell (x := tq) (Ext.box _ _) (by rw [← HI.out.2.2.2.2.2.2.2]; exact hown7) hg7 hat7; have hr7 := H6.out.2.1.keep hk7 (by omega); have hR7 := len_row hr7 HI.out.2.2.2.1; have hownR := own_ext (Ext.box w7 (.cells #[.int .i64 (T : Int)] 3)) hR7; have hcR := cell_one_new w7 (.int .i64 (T : Int)) 3; have hbR : w2.heap.size ≤ (w7.alloc (.cells #[.int .i64 (T : Int)] 3)).heap.size := (by rw [World.size_alloc]; have := hL7.ext.size; omega)) | (refine wpList_append_own_at _ rfl _ _ 23 rfl w2.heap.size 3 i0 (.int .i64 0) 1 8 Tryd.underlying23 hi0 hz0 hz1 hz2 rfl (by decide) (.slice ar c cr9) c _ rfl hownR ⟨w7.heap.size, 0, none⟩ 1 1 [.int .i64 (T : Int)] rfl rfl hcR h1R hmR (by omega) hbR ?_; intro v8 w8 hown8 hg8 _ hat8))
                obtain ⟨hr8, hk8⟩ := hr7.push (x := .int .i64 (T : Int)) (Ext.box _ _) (row_len hr7 hR7 hown8) hg8 hat8
                have hL8 := hL7.keep (hr7.push_ext hL7.ext (Nat.le_refl _) (Ext.box _ _) hg8) (hk8.mono fun k hk => by omega)
                have hF2 : ∃ own', LeaR w2 w8 own' bx (.slice (some ⟨g7, 0, none⟩) (T + 1) c7) nv lv (LM.scan B C (LM.found B C i).1 s (c + 1)).1 hs (LM.found B C i).2 (((LM.found B C i).1.take i).map B.lb) ∧ Lst 5 w8 own' w2.heap.size 3 v8 (natV (LM.scan B C (LM.found B C i).1 s (c + 1)).2) := by
                  refine ⟨newTag w7 (newTag w6 own1 1) 5, ?_, ?_⟩
                  rotate_left
                  · rw [HI.out.2.2.2.2.1]
                    show Lst _ _ _ _ _ _ (natV (Qr ++ [LM.idx C Qt tq]))
                    rw [HE.out, natV_snoc]; exact hr8
                  · rw [HI.out.2.2.2.2.1]
                    have h9 : LM.addRep C Qt tq = Qt ++ [tq] := by unfold LM.addRep; rw [if_neg (by rw [HE.out, HI.out.2.2.2.2.2.2.2]; exact Nat.lt_irrefl _)]
                    show LeaR _ _ _ _ _ _ _ (LM.addRep C Qt tq) _ _ _
                    rw [h9]; exact hL8
                have HF := Lib.hid hF2
                clear hL7 hk7 hr7 hR7 hr8 hk8 hL8 hF2 hown7 hg7 hat7 hown8 hg8 hat8
                go_roundw
                case rel =>
                  obtain ⟨own', h1, h2⟩ := HF.out
                  exact ⟨c + 1, own', by omega, by go_num, h1, h2⟩
                case measure => simp [intOf]; omega
            · have hie : LM.idx C Qt tq = q := LM.idx_at HI.out.2.2.2.2.2.1 HI.out.2.2.2.2.2.2.1 hq hno
              have hqT : q < T := by omega
              have hownRR := own_ext (Ext.box w6 (.cells #[.int .i64 (q : Int)] 3)) hownR
              have hcR := cell_one_new w6 (.int .i64 (q : Int)) 3
              have h1R : ∀ u ∈ [Value.int .i64 (q : Int)], u.oneCell' = true := one_int _ _
              have hbR : w2.heap.size ≤ (w6.alloc (.cells #[.int .i64 (q : Int)] 3)).heap.size := by rw [World.size_alloc]; omega
              have hmR : c + 1 ≤ maxLen := by unfold maxLen; omega
              have hq0 : ¬ (q : Int) < 0 := by omega
              have HE := Lib.hid hie
              clear hno hie hq hown6 hownR
              have hfin : ∀ (v8 : Value) (w8 : World), w8.ownsRow w2.heap.size 3 1 v8 (c + 1) (natV Qr ++ [.int .i64 (q : Int)]) → (w6.alloc (.cells #[.int .i64 (q : Int)] 3)).grownBy w8 (Value.slice ar c cr9).ownBlock → (v8.ownBlock = (Value.slice ar c cr9).ownBlock ∨ v8.ownBlock = some (w6.alloc (.cells #[.int .i64 (q : Int)] 3)).heap.size) →
                  ∃ own', LeaR w2 w8 own' bx (.slice (some ⟨gt, 0, none⟩) T ct) nv lv (LM.scan B C (LM.found B C i).1 s (c + 1)).1 hs (LM.found B C i).2 (((LM.found B C i).1.take i).map B.lb) ∧ Lst 5 w8 own' w2.heap.size 3 v8 (natV (LM.scan B C (LM.found B C i).1 s (c + 1)).2) := fun v8 w8 hown8 hg8 hat8 => by
                obtain ⟨hr8, hk8⟩ := H6.out.2.1.push (x := .int .i64 (q : Int)) (Ext.box _ _) (row_len H6.out.2.1 H6.out.2.2.2.1 hown8) hg8 hat8
                have hL8 := H6.out.1.keep (H6.out.2.1.push_ext H6.out.1.ext (Nat.le_refl _) (Ext.box _ _) hg8) (hk8.mono fun k hk => by omega)
                refine ⟨newTag w6 own1 5, ?_, ?_⟩
                rotate_left
                · rw [HI.out.2.2.2.2.1]
                  show Lst _ _ _ _ _ _ (natV (Qr ++ [LM.idx C Qt tq]))
                  rw [HE.out, natV_snoc]; exact hr8
                · rw [HI.out.2.2.2.2.1]
                  have h9 : LM.addRep C Qt tq = Qt := by unfold LM.addRep; rw [if_pos (by rw [HE.out, ← HI.out.2.2.2.2.2.2.2]; exact hqT)]
                  show LeaR _ _ _ _ _ _ _ (LM.addRep C Qt tq) _ _ _
                  rw [h9]; exact hL8
              have HFF := Lib.hid hfin
              clear hfin
              by_cases hlk : k < T
              · have hj3 : (k : Int) < T := by omega
                go_wp2_with (at_builtin; refine wpList_append_own_at _ rfl _ _ 23 rfl w2.heap.size 3 i0 (.int .i64 0) 1 8 Tryd.underlying23 hi0 hz0 hz1 hz2 rfl (by decide) (.slice ar c cr9) c _ rfl hownRR ⟨w6.heap.size, 0, none⟩ 1 1 [.int .i64 (q : Int)] rfl rfl hcR h1R hmR (by omega) hbR ?_; intro v8 w8 hown8 hg8 _ hat8)
                have HF := Lib.hid (HFF.out _ _ hown8 hg8 hat8)
                clear hown8 hg8 hat8
                go_roundw
                case rel =>
                  obtain ⟨own', h1, h2⟩ := HF.out
                  exact ⟨c + 1, own', by omega, by go_num, h1, h2⟩
                case measure => simp [intOf]; omega
              · have hj3 : ¬ (k : Int) < T := by omega
                go_wp2_with (at_builtin; refine wpList_append_own_at _ rfl _ _ 23 rfl w2.heap.size 3 i0 (.int .i64 0) 1 8 Tryd.underlying23 hi0 hz0 hz1 hz2 rfl (by decide) (.slice ar c cr9) c _ rfl hownRR ⟨w6.heap.size, 0, none⟩ 1 1 [.int .i64 (q : Int)] rfl rfl hcR h1R hmR (by omega) hbR ?_; intro v8 w8 hown8 hg8 _ hat8)
                have HF := Lib.hid (HFF.out _ _ hown8 hg8 hat8)
                clear hown8 hg8 hat8
                go_roundw
                case rel =>
                  obtain ⟨own', h1, h2⟩ := HF.out
                  exact ⟨c + 1, own', by omega, by go_num, h1, h2⟩
                case measure => simp [intOf]; omega
        · have hcc : c = 256 := by omega
          obtain ⟨hslen, hR2N, hs2, hpre⟩ := scan_all (c := c) HC.out.2.2.2.1 HL.out.2.1 hcc
          have hnext := found_next (c := c) HL.out.2.1 hcc
          rw [HC.out.2.2.2.2.1] at hR2N
          have hj2 : ¬ (c : Int) < 256 := by omega
          generalize LM.scan B C (LM.found B C i).1 s c = Q at hL hrl hslen hR2N hs2 hpre hnext
          obtain ⟨Qt, Qr⟩ := Q
          simp only at hL hrl hslen hR2N hs2 hpre hnext
          have hrr := hrl.row
          rw [natV_length, hslen] at hrr
          obtain ⟨ar, cr9, hrv⟩ := own_shp hrr
          subst hrv
          have hrows := LM.found_rows B C i (by rw [← HL.out.2.2]; omega)
          have hhl := hL.hlen.trans hrows
          have htop := hL.hdr.row
          rw [hhl] at htop
          obtain ⟨an, kn, hnv⟩ := own_shp htop
          subst hnv
          obtain ⟨T, hTT⟩ : ∃ T, T = Qt.length := ⟨_, rfl⟩
          have hiT : i < T := by have := hpre.length_le; have := HL.out.2.2; omega
          have htr := hL.told.row
          rw [natV_length, ← hTT] at htr
          obtain ⟨gt, ct, htv, _, _⟩ := own_slc htr (by omega)
          subst htv
          have b0 : wi.cell? ⟨bx, 0, none⟩ = some (.slice an i kn) := hL.box.row.cell (i := 0) (by omega)
          have f0 := hL.box.row.frozen 0
          have hbxl := hL.box.row.lt
          have hown := own_ext (Ext.box wi (.cells #[.slice ar 256 cr9] 23)) htop
          obtain ⟨j0, hj, hw0, hw1, hw2⟩ := info_parts slice_info
          have hcell := cell_one_new wi (.slice ar 256 cr9) 23
          have h1c : ∀ u ∈ [Value.slice ar 256 cr9], u.oneCell' = true := by intro u hu; simp at hu; subst hu; rfl
          have hbase : w2.heap.size ≤ (wi.alloc (.cells #[.slice ar 256 cr9] 23)).heap.size := by have := hL.ext.size; simp; omega
          have hmax : i + 1 ≤ maxLen := by unfold maxLen; omega
          have hnO : (Value.slice an i kn).ownBlock ≠ some bx := fun e => by
            have h1 := hL.hdr.tag bx e
            have h2 := hL.box.tag
            omega
          have HQ := Lib.hid (And.intro hL (And.intro hrl (And.intro hhl hTT)))
          have HN2 := Lib.hid (And.intro hs2 (And.intro hpre hnext))
          have hQT : T ≤ N := by rw [hTT]; exact hR2N
          clear hL hrl hrr hrows hhl htop hTT htr hs2 hpre hnext hcc hslen hR2N
          go_wp2_with (at_builtin; refine wpList_append_own_at _ rfl _ _ 22 rfl w2.heap.size 23 j0 (.slice none 0 0) 1 24 Tryd.underlying22 hj hw0 hw1 hw2 rfl (by decide) (.slice an i kn) i _ rfl hown ⟨wi.heap.size, 0, none⟩ 1 1 [.slice ar 256 cr9] rfl rfl hcell h1c hmax (by omega) hbase ?_; intro v' W7 hown' hg _ hat; obtain ⟨gg, cap, hv', _, _⟩ := own_slc hown' (by omega); subst hv'; have hkO := hg.block bx (by simp; omega) (Ne.symm hnO); have cOW : W7.cell? ⟨bx, 0, none⟩ = some (.slice an i kn) := (World.cell?_of_block (a := ⟨bx, 0, none⟩) hkO).trans ((Ext.box wi (.cells #[.slice ar 256 cr9] 23)).cell b0); have fOW : W7.frozen? ⟨bx, 0, none⟩ = false := (World.frozen?_of_block (a := ⟨bx, 0, none⟩) hkO).trans ((Below.frozen (Ext.box wi (.cells #[.slice ar 256 cr9] 23)) (p := ⟨bx, 0, none⟩) hbxl).trans f0))
          obtain ⟨own18, hL18⟩ := HQ.out.1.addRow HQ.out.2.1 (Ext.box wi (.cells #[.slice ar 256 cr9] 23)) (by rw [HQ.out.2.2.1]; exact hown') hg hat
          clear hown' hg hat hkO cOW fOW b0 f0 hown hcell h1c hbase hnO hj hw0 hw1 hw2 hbxl
          generalize World.setCell W7 _ _ = W2 at hL18 ⊢
          have htr := hL18.told.row
          rw [natV_length, ← HQ.out.2.2.2] at htr
          have cs := htr.cellAt i (by omega)
          rw [natV_get (by rw [← HQ.out.2.2.2]; exact hiT), List.getD_eq_getElem?_getD, HN2.out.1] at cs
          replace cs : W2.cell? ⟨gt, i, none⟩ = some (.int .i64 (s : Nat)) := cs
          have hxr := HC.out.2.1.trans hL18.ext
          have cb1 := hxr.cell H.out.2.2.2.2.2.1
          obtain ⟨x, hxd⟩ : ∃ x, x = d.lb s := ⟨_, rfl⟩
          have cl0 := hxr.cell (H.out.2.2.2.2.2.2.2.2.2.2.1 s hsN)
          rw [← hxd] at cl0
          have cO1 : W2.cell? ⟨bx, 1, none⟩ = some lv := hL18.box.row.cell (i := 1) (by omega)
          have fO1 := hL18.box.row.frozen 1
          have hlen : (((LM.found B C i).1.take i).map B.lb).length = i := by rw [List.length_map, List.length_take]; have := HL.out.2.2; omega
          have hown := hL18.labs.row
          have hli : (intsV (((LM.found B C i).1.take i).map B.lb)).length = i := by simpa [intsV] using hlen
          rw [hli] at hown
          have hbl := hL18.box.row.lt
          have hnO : lv.ownBlock ≠ some bx := fun e => by
            have h1 := hL18.labs.tag bx e
            have h2 := hL18.box.tag
            omega
          have hngt : lv.ownBlock ≠ some gt := fun e => by
            have h1 := hL18.labs.tag gt e
            have h2 := hL18.told.tag gt rfl
            omega
          have hW2le : W.heap.size ≤ w2.heap.size := HC.out.2.1.size
          have hwd : w.heap.size < W.heap.size := lt_of_cell H.out.2.2.2.2.2.1
          have hblW : bl < W.heap.size := lt_of_cell (H.out.2.2.2.2.2.2.2.2.2.2.1 s hsN)
          have hnb1 : lv.ownBlock ≠ some w.heap.size := fun e => by have h1 := (hL18.labs.row.lt w.heap.size e).1; omega
          have hnbl : lv.ownBlock ≠ some bl := fun e => by have h1 := (hL18.labs.row.lt bl e).1; omega
          have hbll := lt_of_cell cl0
          have hsb := lt_of_cell cb1
          have hsS := lt_of_cell cs
          have hszW := hL18.ext.size
          have hbase' : w2.heap.size ≤ ((W2.alloc (.cells #[.int .i64 x] 3)).drew).heap.size := by simp; omega
          have hj3 : (i : Int) < T := by omega
          have hj4 : (s : Int) < N := by omega
          have HQ2 := Lib.hid (And.intro hL18 (And.intro hxd (And.intro hlen hli)))
          clear hL18 htr hxr hxd hlen hli hW2le hblW hwd
          go_upto_region 25 with fail
          apply key_elim (Good := fun g7 c7 W9 => ∃ own19, LeaR w2 W9 own19 bx (.slice (some ⟨gt, 0, none⟩) T ct) (.slice (some ⟨gg, 0, none⟩) (i + 1) cap) (.slice (some ⟨g7, 0, none⟩) (i + 1) c7) Qt (hs ++ [.slice ar 256 cr9]) ((LM.found B C i).2 ++ [Qr]) (((LM.found B C i).1.take i).map B.lb ++ [x]))
          case h =>
            intro key
            go_region_law ((refine step_append_lies _ (by rfl) _ _ _ (by rfl) w2.heap.size 3 i0 _ 1 8 Tryd.underlying23 hi0 hz0 hz1 hz2 rfl (by omega) lv i (intsV (((LM.found B C i).1.take i).map B.lb)) (by rfl) ((own_ext ((Ext.box W2 (.cells #[.int .i64 x] 3)).drew) hown)) ⟨W2.heap.size, 0, none⟩ 1 1 [.int .i64 x] (by rfl) (by rfl) (World.news_of_block (cs := #[.int .i64 x]) (t := 3) (fr := (0, 0)) (heap_alloc_new W2 _)) (by simp [Value.oneCell']) (by omega) hmax (by omega) (by simp; omega) (W2.heap.size + 1) (by simp) ?_; intro g4 cap4 w4 hown4 hgrow hat hlt4; have hk4 := hgrow.block bx (by simp; omega) (Ne.symm hnO); have cO4 : w4.cell? ⟨bx, 1, none⟩ = some lv := (World.cell?_of_block (a := ⟨bx, 1, none⟩) hk4).trans (((Ext.box W2 (.cells #[.int .i64 x] 3)).drew).cell cO1); have fO4 : w4.frozen? ⟨bx, 1, none⟩ = false := (World.frozen?_of_block (a := ⟨bx, 1, none⟩) hk4).trans ((Below.frozen ((Ext.box W2 (.cells #[.int .i64 x] 3)).drew) (p := ⟨bx, 1, none⟩) hbl).trans fO1)))
            all_goals
              have hL19 := HQ2.out.1.addLab (x := x) (v' := .slice (some ⟨g4, 0, none⟩) (i + 1) cap4) ((Ext.box W2 (.cells #[.int .i64 x] 3)).drew) (by rw [HQ2.out.2.2.1]; exact hown4) hgrow (by rcases hat with e | e; exact .inl e.symm; exact .inr (by simp [Value.ownBlock, e]))
              generalize World.setCell _ _ _ = W9 at hL19 ⊢
              exact key g4 cap4 W9 ⟨_, hL19⟩
          case h2 =>
            intro g7 c7 W9 hgood
            obtain ⟨own19, hL19⟩ := hgood
            have HZ9 := Lib.hid hL19
            clear hL19 cs cb1 cl0 cO1 fO1 hown hbl hnO hngt hnb1 hnbl hbll hbase' hsb hsS hszW
            go_wp2
            go_roundw
            case rel =>
              have hnx := HN2.out.2.2
              have hlb : x = B.lb s := by rw [HQ2.out.2.1, HC.out.2.2.2.2.2.2.2.2.1]
              have hln := labs_next (A := B) HN2.out.2.1 (by rw [← HL.out.2.2]; exact hiR) HN2.out.1
              refine ⟨i + 1, own19, .slice (some ⟨gg, 0, none⟩) (i + 1) cap, .slice (some ⟨g7, 0, none⟩) (i + 1) c7, hs ++ [.slice ar 256 cr9], by omega, ?_, by go_num, ?_⟩
              · rw [hnx]; show i + 1 ≤ Qt.length; rw [← HQ.out.2.2.2]; omega
              · rw [hnx]
                show LeaR _ _ _ _ _ _ _ Qt _ _ ((Qt.take (i + 1)).map B.lb)
                rw [hln, ← hlb]
                exact HZ9.out
            case measure => simp [intOf]; omega
    · obtain rfl : R = i := by omega
      have hstay := LM.found_stays B C (m := R) (by rw [← hR]; exact Nat.le_refl _) (N - R)
      rw [show R + (N - R) = N by omega] at hstay
      have hall : (LM.found B C R).1.take R = (LM.found B C R).1 := List.take_of_length_le (by rw [← hR]; exact Nat.le_refl _)
      rw [hall] at hL
      have hrl := LM.found_rows B C R (by rw [← hR]; exact Nat.le_refl _)
      have hhl := hL.hlen.trans hrl
      have htop := hL.hdr.row
      rw [hhl] at htop
      obtain ⟨an, kn, hnv⟩ := own_shp htop
      subst hnv
      have hlr := hL.labs.row
      have hll : (intsV ((LM.found B C R).1.map B.lb)).length = R := by simp [intsV, ← hR]
      rw [hll] at hlr
      obtain ⟨al, kl, hlv⟩ := own_shp hlr
      subst hlv
      have o0 : wr.cell? ⟨bx, 0, none⟩ = some (.slice an R kn) := hL.box.row.cell (i := 0) (by omega)
      have o1 : wr.cell? ⟨bx, 1, none⟩ = some (.slice al R kl) := hL.box.row.cell (i := 1) (by omega)
      have hxW := HC.out.2.1.trans hL.ext
      have hrd := rowIs_ext hxW H.out.2.2.1
      have hrf := rowIs_ext hxW H.out.2.2.2.1
      have d0 : wr.cell? ⟨w.heap.size + 1, 0, none⟩ = some (.slice none 0 0) := hrd.cell (i := 0) (by omega)
      have d1 : wr.cell? ⟨w.heap.size + 1, 1, none⟩ = some (.slice none 0 0) := hrd.cell (i := 1) (by omega)
      have g0 := hrd.frozen 0
      have g1 := hrd.frozen 1
      have u0 : wr.cell? ⟨w.heap.size + 1 + 1, 0, none⟩ = some (.int .i64 0) := hrf.cell (i := 0) (by omega)
      have u1 : wr.cell? ⟨w.heap.size + 1 + 1, 1, none⟩ = some (.int .i64 0) := hrf.cell (i := 1) (by omega)
      have u2 : wr.cell? ⟨w.heap.size + 1 + 1, 2, none⟩ = some (.int .i64 0) := hrf.cell (i := 2) (by omega)
      have u3 : wr.cell? ⟨w.heap.size + 1 + 1, 3, none⟩ = some (.int .i64 0) := hrf.cell (i := 3) (by omega)
      have u4 : wr.cell? ⟨w.heap.size + 1 + 1, 4, none⟩ = some (.slice none 0 0) := hrf.cell (i := 4) (by omega)
      have x0 := hrf.frozen 0
      have x1 := hrf.frozen 1
      have x2 := hrf.frozen 2
      have x3 := hrf.frozen 3
      have x4 := hrf.frozen 4
      have hdn := hL.dense (by rw [hrl]; omega) (by rw [List.length_map, ← hR]; omega) (fun l hl => by
        obtain ⟨j, hj⟩ := List.getElem?_of_mem hl
        have hjR : j < R := by have := (List.getElem?_eq_some_iff.1 hj).1; omega
        obtain ⟨sj, hsj⟩ : ∃ sj, (LM.found B C R).1[j]? = some sj := ⟨_, List.getElem?_eq_getElem (by rw [← hR]; exact hjR)⟩
        obtain ⟨row, h1, h2, _⟩ := LM.found_entry (A := B) (P := C) R j sj hjR hsj (by rw [← hR]; exact Nat.le_refl _)
        rw [hj] at h1
        simp only [Option.some.injEq] at h1
        subst h1
        rw [h2, LM.rowLen_eq]; omega)
      have hlst : LM.least d.aut C = ((LM.found B C R).2, (LM.found B C R).1.map B.lb) := by
        rw [← HC.out.2.2.2.2.2.2.2.2.2.1]
        unfold LM.least
        rw [HC.out.2.2.2.2.1, hstay]
      have hbx9 : w2.heap.size ≤ bx := hL.box.low
      have HE := Lib.hid (And.intro hdn (And.intro hlst (And.intro hxW (And.intro hrd hrf))))
      clear hL hstay hall hrl hhl htop hlr hll hxW hrd hrf hdn hlst hR htr hlt
      go_wp2
      have hr2 := (HE.out.2.2.2.1.set 0 (.slice an R kn)).set 1 (.slice al R kl)
      have hle1 : w.heap.size ≤ w.heap.size + 1 := by omega
      have hX2 : Ext w ((wr.setCell ⟨w.heap.size + 1, 0, none⟩ (.slice an R kn)).setCell ⟨w.heap.size + 1, 1, none⟩ (.slice al R kl)) := ((H.out.2.1.trans HE.out.2.2.1).setCell (p := ⟨w.heap.size + 1, 0, none⟩) hle1 _).setCell (p := ⟨w.heap.size + 1, 1, none⟩) hle1 _
      have hrF : ((wr.setCell ⟨w.heap.size + 1, 0, none⟩ (.slice an R kn)).setCell ⟨w.heap.size + 1, 1, none⟩ (.slice al R kl)).rowIs (w.heap.size + 1 + 1) 69 5 (rF (.int .i64 0) (.int .i64 0) (.int .i64 0) (.int .i64 0) (.slice none 0 0)) :=
        HE.out.2.2.2.2.of_block ((Below.heap_setCell _ _ _ _ (by simp only [ne_eq]; omega)).trans (Below.heap_setCell _ _ _ _ (by simp only [ne_eq]; omega)))
      have hfar2 : ∀ g, w2.heap.size ≤ g → ((wr.setCell ⟨w.heap.size + 1, 0, none⟩ (.slice an R kn)).setCell ⟨w.heap.size + 1, 1, none⟩ (.slice al R kl)).heap[g]? = wr.heap[g]? := fun g hg => by
        have h1 := H.out.2.2.1.lt
        have h2 := HC.out.2.1.size
        exact (Below.heap_setCell _ _ _ _ (by simp only [ne_eq]; omega)).trans (Below.heap_setCell _ _ _ _ (by simp only [ne_eq]; omega))
      generalize World.setCell (World.setCell wr _ _) _ _ = w4 at hr2 hX2 hrF hfar2 ⊢
      have hr9 := rowIs_set5 hrF (.int .i64 0) (.int .i64 0) (.int .i64 0) (.int .i64 0) (.slice none 0 0)
      have hle : w.heap.size ≤ w.heap.size + 1 + 1 := by omega
      have hXf : Ext w (((((w4.setCell ⟨w.heap.size + 1 + 1, 0, none⟩ (.int .i64 0)).setCell ⟨w.heap.size + 1 + 1, 1, none⟩ (.int .i64 0)).setCell ⟨w.heap.size + 1 + 1, 2, none⟩ (.int .i64 0)).setCell ⟨w.heap.size + 1 + 1, 3, none⟩ (.int .i64 0)).setCell ⟨w.heap.size + 1 + 1, 4, none⟩ (.slice none 0 0)) := ((((hX2.setCell hle _).setCell hle _).setCell hle _).setCell hle _).setCell hle _
      have hr3 := hr2.of_block (w' := (((((w4.setCell ⟨w.heap.size + 1 + 1, 0, none⟩ (.int .i64 0)).setCell ⟨w.heap.size + 1 + 1, 1, none⟩ (.int .i64 0)).setCell ⟨w.heap.size + 1 + 1, 2, none⟩ (.int .i64 0)).setCell ⟨w.heap.size + 1 + 1, 3, none⟩ (.int .i64 0)).setCell ⟨w.heap.size + 1 + 1, 4, none⟩ (.slice none 0 0))) (heap_set5 (by omega))
      have hfar : ∀ g, w2.heap.size ≤ g → (((((w4.setCell ⟨w.heap.size + 1 + 1, 0, none⟩ (.int .i64 0)).setCell ⟨w.heap.size + 1 + 1, 1, none⟩ (.int .i64 0)).setCell ⟨w.heap.size + 1 + 1, 2, none⟩ (.int .i64 0)).setCell ⟨w.heap.size + 1 + 1, 3, none⟩ (.int .i64 0)).setCell ⟨w.heap.size + 1 + 1, 4, none⟩ (.slice none 0 0)).heap[g]? = wr.heap[g]? := fun g hg => by
        have h1 := H.out.2.2.2.1.lt
        have h2 := HC.out.2.1.size
        exact (heap_set5 (by omega)).trans (hfar2 g hg)
      generalize World.setCell (World.setCell (World.setCell (World.setCell (World.setCell w4 _ _) _ _) _ _) _ _) _ _ = Wf at hr9 hXf hr3 hfar ⊢
      have z0 : Wf.cell? ⟨w.heap.size + 1 + 1, 0, none⟩ = some (.int .i64 0) := hr9.cell (i := 0) (by omega)
      have z1 : Wf.cell? ⟨w.heap.size + 1 + 1, 1, none⟩ = some (.int .i64 0) := hr9.cell (i := 1) (by omega)
      have z2 : Wf.cell? ⟨w.heap.size + 1 + 1, 2, none⟩ = some (.int .i64 0) := hr9.cell (i := 2) (by omega)
      have z3 : Wf.cell? ⟨w.heap.size + 1 + 1, 3, none⟩ = some (.int .i64 0) := hr9.cell (i := 3) (by omega)
      have z4 : Wf.cell? ⟨w.heap.size + 1 + 1, 4, none⟩ = some (.slice none 0 0) := hr9.cell (i := 4) (by omega)
      have y0 : Wf.cell? ⟨w.heap.size + 1, 0, none⟩ = some (.slice an R kn) := hr3.cell (i := 0) (by omega)
      have y1 : Wf.cell? ⟨w.heap.size + 1, 1, none⟩ = some (.slice al R kl) := hr3.cell (i := 1) (by omega)
      (try simp only [Exit.inBlock, Exit.then])
      refine bodyPost_ret (v := .tuple #[.agg #[.slice an R kn, .slice al R kl], faultV 0]) (by simp [results, faultV, Tryd.results45, y0, y1, z0, z1, z2, z3, z4, go_sem]) rfl ⟨_, C, rfl, HC.out.2.2.1, ?_, hXf⟩
      rw [HE.out.2.1]
      exact HE.out.1 Wf hfar
end Go.Proofs.YtpeipjfmibjoiaaDoor
