/- bolterref15.Build: the document's own table, or the refusal. (by tools/mkrefbuild.py) -/
import Derived.Test.YtloooajippcdlaaDoorRefAlive
import Derived.Test.YtloooajippcdlaaDoorRefCls
import Derived.Test.YtloooajippcdlaaDoorEntry
import Derived.Test.YtloooajippcdlaaDoorMay
import Derived.Test.YtloooajippcdlaaDoorTell
namespace Go.Proofs.YtloooajippcdlaaDoor
open Go.RowKit

/-- one mode's states are put behind: with it the numbers of its states (tag 9), which live (tag 10) -/
structure ModR (w wr : World) (own : Nat → Nat) (rb : Nat) (sv lv nv : Value) (hs : List Value) (starts : List Nat) (labels : List Int) (rows : List (List Int)) (N ab gl : Nat) (F : Nat → Int) (M : Nat → Bool) : Prop where
  bld : BldS w wr own rb sv lv nv hs starts labels rows
  num : Blk 9 wr own w.heap.size ab 3 N (fun j => .int .i64 (F j))
  liv : Blk 10 wr own w.heap.size gl 4 N (fun j => .bool (M j))

section
variable {w wr w' w2 w4 : World} {own own' : Nat → Nat} {rb N ab gl : Nat} {sv lv nv rv : Value} {hs : List Value} {starts : List Nat} {labels : List Int} {rows : List (List Int)} {F : Nat → Int} {M : Nat → Bool}
theorem ModR.keep (h : ModR w wr own rb sv lv nv hs starts labels rows N ab gl F M) (hx : Ext w w') (hk : Keeps (fun g => g ≤ 4 ∨ g = 9 ∨ g = 10) wr own w' own') : ModR w w' own' rb sv lv nv hs starts labels rows N ab gl F M :=
  ⟨h.bld.keep hx (hk.mono fun _ h => .inl h), h.num.keep hk (by omega), h.liv.keep hk (by omega)⟩
theorem ModR.more (h : ModR w wr own rb sv lv nv hs starts labels rows N ab gl F M) (hx : Ext wr w') : ModR w w' own rb sv lv nv hs starts labels rows N ab gl F M := h.keep (h.bld.ext.trans hx) (.ext hx)
theorem ModR.set (h : ModR w wr own rb sv lv nv hs starts labels rows N ab gl F M) (i : Nat) (x : Int) : ModR w (wr.setCell ⟨ab, i, none⟩ (.int .i64 x)) own rb sv lv nv hs starts labels rows N ab gl (fun j => if j = i then x else F j) M := by
  obtain ⟨h1, h2⟩ := h.num.set i (.int .i64 x)
  exact ⟨h.bld.fill h.num (by omega) i _, h1.congr fun j _ => by split <;> rfl, h.liv.keep h2 (by omega)⟩
theorem ModR.congr (h : ModR w wr own rb sv lv nv hs starts labels rows N ab gl F M) {F' : Nat → Int} (e : ∀ j, j < N → F j = F' j) : ModR w wr own rb sv lv nv hs starts labels rows N ab gl F' M := { h with num := h.num.congr fun j hj => by rw [e j hj] }
theorem ModR.start (h : ModR w wr own rb sv lv nv hs starts labels rows N ab gl F M) {v' : Value} {n : Nat} (hx : Ext wr w2) (hown : w4.ownsRow w.heap.size 3 1 v' (starts.length + 1) (intsV (nI starts) ++ [.int .i64 (n : Nat)])) (hg : w2.grownBy w4 sv.ownBlock)
    (hat : v'.ownBlock = sv.ownBlock ∨ v'.ownBlock = some w2.heap.size) : ModR w (w4.setCell ⟨rb, 2, none⟩ v') (newTag wr own 1) rb v' lv nv hs (starts ++ [n]) labels rows N ab gl F M := by
  obtain ⟨h1, h2⟩ := h.bld.start hx hown hg hat
  exact ⟨h1, h.num.keep h2 (by omega), h.liv.keep h2 (by omega)⟩
theorem ModR.begin (h : BldS w wr own rb sv lv nv hs starts labels rows) {w3 : World} {g : Nat} (hx : Ext wr w3) (hg : wr.heap.size ≤ g) (hr : w3.rowIs g 4 N (fun j => .bool (M j))) :
    ModR w (w3.alloc (.cells (madeCells #[.int .i64 0] N) 3)) (newTag w3 (newTag wr own 10) 9) rb sv lv nv hs starts labels rows N w3.heap.size g (fun _ => 0) M := by
  have hs1 := h.ext.size
  have hs2 := hx.size
  have hl : Blk 10 w3 (newTag wr own 10) w.heap.size g 4 N (fun j => .bool (M j)) := ⟨hr, newTag_new hg, by omega⟩
  exact ⟨(h.new hx 10).new (Ext.box _ _) 9, Blk.made w3 _ 9 (by omega) _ _ (size_madeCells _ _) _ fun i hi => made_one _ hi, hl.keep (S := fun _ => True) (.new (Ext.box _ _) 9) trivial⟩
theorem ModR.label (h : ModR w wr own rb sv lv nv hs starts labels rows N ab gl F M) {v' : Value} {x : Int} (hx : Ext wr w2) (hown : w4.ownsRow w.heap.size 3 1 v' (labels.length + 1) (intsV labels ++ [.int .i64 x])) (hg : w2.grownBy w4 lv.ownBlock)
    (hat : v'.ownBlock = lv.ownBlock ∨ v'.ownBlock = some w2.heap.size) : ModR w (w4.setCell ⟨rb, 4, none⟩ v') (newTag wr own 2) rb sv v' nv hs starts (labels ++ [x]) rows N ab gl F M := by
  obtain ⟨h1, h2⟩ := h.bld.label hx hown hg hat
  exact ⟨h1, h.num.keep h2 (by omega), h.liv.keep h2 (by omega)⟩
theorem ModR.row (h : ModR w wr own rb sv lv nv hs starts labels rows N ab gl F M) {v' : Value} {l : List Int} (hr : Lst 7 wr own w.heap.size 3 rv (intsV l)) (hx : Ext wr w2)
    (hown : w4.ownsRow w.heap.size 23 1 v' (hs.length + 1) (hs ++ [rv])) (hg : w2.grownBy w4 nv.ownBlock) (hat : v'.ownBlock = nv.ownBlock ∨ v'.ownBlock = some w2.heap.size) :
    ∃ own', ModR w w4 own' rb sv lv v' (hs ++ [rv]) starts labels (rows ++ [l]) N ab gl F M := by
  obtain ⟨h1, h2⟩ := h.bld.hdr.push hx hown hg hat
  have h3 := hr.keep h2 (by omega)
  have hj := Keeps.join w4 (newTag wr own 3) 7 4
  have b := h.bld
  exact ⟨joinTag (newTag wr own 3) 7 4, ⟨b.hdr.push_ext b.ext (Nat.le_refl _) hx hg, (b.box.keep h2 (by omega)).keep hj (by omega), (b.starts.keep h2 (by omega)).keep hj (by omega), (b.labels.keep h2 (by omega)).keep hj (by omega), h1.keep hj (by omega), (b.rows.keep h2 (by omega)).join (by omega) h3⟩,
    (h.num.keep h2 (by omega)).keep hj (by omega), (h.liv.keep h2 (by omega)).keep hj (by omega)⟩
theorem set10 {b c : Nat} {t u : TypeId} {f g : Nat → Value} (h : w.rowIs b t 5 f) (k : w.rowIs c u 5 g) (hne : b ≠ c) (a0 a1 a2 a3 a4 c0 c1 c2 c3 c4 : Value) :
    ((((((((((w.setCell ⟨b, 0, none⟩ a0).setCell ⟨b, 1, none⟩ a1).setCell ⟨b, 2, none⟩ a2).setCell ⟨b, 3, none⟩ a3).setCell ⟨b, 4, none⟩ a4).setCell ⟨c, 0, none⟩ c0).setCell ⟨c, 1, none⟩ c1).setCell ⟨c, 2, none⟩ c2).setCell ⟨c, 3, none⟩ c3).setCell ⟨c, 4, none⟩ c4).rowIs b t 5 (rF a0 a1 a2 a3 a4) ∧
    ((((((((((w.setCell ⟨b, 0, none⟩ a0).setCell ⟨b, 1, none⟩ a1).setCell ⟨b, 2, none⟩ a2).setCell ⟨b, 3, none⟩ a3).setCell ⟨b, 4, none⟩ a4).setCell ⟨c, 0, none⟩ c0).setCell ⟨c, 1, none⟩ c1).setCell ⟨c, 2, none⟩ c2).setCell ⟨c, 3, none⟩ c3).setCell ⟨c, 4, none⟩ c4).rowIs c u 5 (rF c0 c1 c2 c3 c4) ∧
    ∀ x, x ≠ b → x ≠ c → ((((((((((w.setCell ⟨b, 0, none⟩ a0).setCell ⟨b, 1, none⟩ a1).setCell ⟨b, 2, none⟩ a2).setCell ⟨b, 3, none⟩ a3).setCell ⟨b, 4, none⟩ a4).setCell ⟨c, 0, none⟩ c0).setCell ⟨c, 1, none⟩ c1).setCell ⟨c, 2, none⟩ c2).setCell ⟨c, 3, none⟩ c3).setCell ⟨c, 4, none⟩ c4).heap[x]? = w.heap[x]? := by
  have h5 := rowIs_set5 h a0 a1 a2 a3 a4
  have k5 := k.of_block (heap_set5 (w := w) (b := b) (a0 := a0) (a1 := a1) (a2 := a2) (a3 := a3) (a4 := a4) (g := c) (Ne.symm hne))
  exact ⟨h5.of_block (heap_set5 hne), rowIs_set5 k5 c0 c1 c2 c3 c4, fun x h1 h2 => (heap_set5 h2).trans (heap_set5 h1)⟩
end

def RBuildR (l : List Dn) (w : World) (e : Ending) (w' : World) : Prop :=
  ∃ (tv : Value) (code : Int), e = .returned (.tuple #[tv, .agg #[.int .i64 code, .int .i64 0, .int .i64 0, .int .i64 0, .slice none 0 0]]) ∧ Ext w w' ∧
    ((MayL l ∧ code = 0 ∧ TblV w' tv (built l).tbl) ∨ (¬ MayL l ∧ code = 15 ∧ tv = .agg #[.slice none 0 0, .int .i64 0, .slice none 0 0, .slice none 0 0, .slice none 0 0]))

set_option maxRecDepth 100000 in
set_option maxHeartbeats 16000000 in
theorem rbuild_c {w : World} {v : Value} {l : List Dn} (h : DensesV w v l) : Calls Tryd.prog 27 #[v] w (RBuildR l w) := by
  obtain ⟨hlen, a, cap, rfl, _, hop⟩ := h.open
  obtain ⟨LN, hL⟩ : ∃ L, L = l.length := ⟨_, rfl⟩
  rw [← hL] at hlen hop ⊢
  have H := Lib.hid (And.intro hop hL)
  clear hop hL h
  obtain ⟨b2, hb2⟩ : ∃ b, b = w.heap.size := ⟨_, rfl⟩
  obtain ⟨W0, hW0⟩ : ∃ W, W = (w.alloc (.cells #[.slice none 0 0, .int .i64 0, .slice none 0 0, .slice none 0 0, .slice none 0 0] 67)).alloc (.cells #[.int .i64 0, .int .i64 0, .int .i64 0, .int .i64 0, .slice none 0 0] 54) := ⟨_, rfl⟩
  have hx0 : Ext w W0 := by rw [hW0]; exact (Ext.box _ _).alloc _
  have hr2 : W0.rowIs b2 67 5 (rF (.slice none 0 0) (.int .i64 0) (.slice none 0 0) (.slice none 0 0) (.slice none 0 0)) := by
    rw [hW0, hb2]
    exact rowIs_ext (Ext.box _ _) (World.rowIs_alloc w #[.slice none 0 0, .int .i64 0, .slice none 0 0, .slice none 0 0, .slice none 0 0] 67 (rF (.slice none 0 0) (.int .i64 0) (.slice none 0 0) (.slice none 0 0) (.slice none 0 0)) (fun i hi => by rcases rF_at hi with rfl | rfl | rfl | rfl | rfl <;> rfl))
  have hr3 : W0.rowIs (b2 + 1) 54 5 (rF (.int .i64 0) (.int .i64 0) (.int .i64 0) (.int .i64 0) (.slice none 0 0)) := by
    have q := World.rowIs_alloc (w.alloc (.cells #[.slice none 0 0, .int .i64 0, .slice none 0 0, .slice none 0 0, .slice none 0 0] 67)) #[.int .i64 0, .int .i64 0, .int .i64 0, .int .i64 0, .slice none 0 0] 54 (rF (.int .i64 0) (.int .i64 0) (.int .i64 0) (.int .i64 0) (.slice none 0 0)) (fun i hi => by rcases rF_at hi with rfl | rfl | rfl | rfl | rfl <;> rfl)
    rw [World.size_alloc] at q
    rw [hW0, hb2]; exact q
  have HB := Lib.hid (And.intro hx0 (And.intro hr2 (And.intro hr3 hb2)))
  have HW := Lib.hid (And.intro hW0 hb2)
  clear hx0 hr2 hr3 hW0 hb2
  go_enter Tryd.func27, Tryd.ntmps27
  go_upto_block 0 with fail
  rw [← HW.out.1, ← HW.out.2]
  go_cut [4] (fun nv wx => ∃ s : Nat, nv = .int .i64 (s : Int) ∧ s = states l ∧ s ≤ 84442493013196800 ∧ Ext W0 wx ∧ ∀ d ∈ l, May d)
  case first =>
    go_wp2_with fail
    go_loopw [4, 5] (fun nv iv wr => ∃ i : Nat, i ≤ LN ∧ iv = .int .i64 i ∧ nv = .int .i64 (states (l.take i) : Nat) ∧ Ext W0 wr ∧ ∀ d ∈ l.take i, May d) (fun _ iv _ => LN - (intOf iv).toNat)
    case atStart => exact ⟨0, Nat.zero_le _, rfl, rfl, Ext.refl _, fun d hd => by simp at hd⟩
    case round =>
      obtain ⟨i, hi, rfl, rfl, hx, hm⟩ := hrel
      have hs := states_le hm
      have hsl : (l.take i).length ≤ i := by rw [List.length_take]; omega
      have hsb : states (l.take i) ≤ 84442493013196800 := by
        have : i * 600 ≤ 140737488355328 * 600 := Nat.mul_le_mul_right _ (by omega)
        omega
      by_cases hlt : i < LN
      · obtain ⟨b, o, rfl, hcell⟩ := H.out.1 (by omega)
        obtain ⟨d, hd⟩ : ∃ d, l[i]? = some d := ⟨_, List.getElem?_eq_getElem (by rw [← H.out.2]; exact hlt)⟩
        obtain ⟨an, cn, al, cl, c0, c1, hdv⟩ := hcell i d hd
        have hxw := HB.out.1.trans hx
        have k0 := hxw.cell c0
        have k1 := hxw.cell c1
        obtain ⟨n, hn⟩ : ∃ n, n = d.next.length := ⟨_, rfl⟩
        obtain ⟨m, hm'⟩ : ∃ n, n = d.label.length := ⟨_, rfl⟩
        rw [← hn] at c0 k0 hdv
        rw [← hm'] at k1 hdv
        obtain ⟨s, hs'⟩ : ∃ s, s = states (l.take i) := ⟨_, rfl⟩
        rw [← hs'] at hsb ⊢
        have hj1 : (i : Int) < LN := by omega
        have hck := may_c (hdv.ext hxw)
        obtain ⟨r, hr⟩ : ∃ r, r = mayB d := ⟨_, rfl⟩
        rw [← hr] at hck
        have HC := Lib.hid (And.intro hck (And.intro hr (And.intro hm (And.intro hd (And.intro hn (And.intro hs' (And.intro hx c0)))))))
        clear hck hr hm hd hn hm' hs' hx hdv hcell hs hxw c0 c1 hsl
        go_wp2_with fail
        refine HC.out.1.mono ?_
        rintro e w2 ⟨rfl, hx2⟩
        have HX2 := Lib.hid (HC.out.2.2.2.2.2.2.1.trans hx2)
        clear hx2 k0 k1
        cases r
        · have hno : ¬ MayL l := fun hml => by
            have h1 := mayB_true.2 (hml.each d (List.mem_of_getElem? HC.out.2.2.2.1))
            rw [← HC.out.2.1] at h1; cases h1
          have HN := Lib.hid hno
          clear hno
          go_wp2_with fail
          refine (isFault_c 15 _).mono ?_
          rintro e w9 ⟨rfl, hx9⟩
          have HX9 := Lib.hid ((HX2.out).trans hx9)
          clear hx9
          unfold faultV
          have r2 := rowIs_ext (HX9.out) HB.out.2.1
          have r3 := rowIs_ext (HX9.out) HB.out.2.2.1
          have k0 : w9.cell? ⟨b2, 0, none⟩ = some (.slice none 0 0) := r2.cell (i := 0) (by omega)
          have k1 : w9.cell? ⟨b2, 1, none⟩ = some (.int .i64 0) := r2.cell (i := 1) (by omega)
          have k2 : w9.cell? ⟨b2, 2, none⟩ = some (.slice none 0 0) := r2.cell (i := 2) (by omega)
          have k3 : w9.cell? ⟨b2, 3, none⟩ = some (.slice none 0 0) := r2.cell (i := 3) (by omega)
          have k4 : w9.cell? ⟨b2, 4, none⟩ = some (.slice none 0 0) := r2.cell (i := 4) (by omega)
          have m0 : w9.cell? ⟨b2 + 1, 0, none⟩ = some (.int .i64 0) := r3.cell (i := 0) (by omega)
          have m1 : w9.cell? ⟨b2 + 1, 1, none⟩ = some (.int .i64 0) := r3.cell (i := 1) (by omega)
          have m2 : w9.cell? ⟨b2 + 1, 2, none⟩ = some (.int .i64 0) := r3.cell (i := 2) (by omega)
          have m3 : w9.cell? ⟨b2 + 1, 3, none⟩ = some (.int .i64 0) := r3.cell (i := 3) (by omega)
          have m4 : w9.cell? ⟨b2 + 1, 4, none⟩ = some (.slice none 0 0) := r3.cell (i := 4) (by omega)
          have f0 := r2.frozen 0
          have f1 := r2.frozen 1
          have f2 := r2.frozen 2
          have f3 := r2.frozen 3
          have f4 := r2.frozen 4
          have e0 := r3.frozen 0
          have e1 := r3.frozen 1
          have e2 := r3.frozen 2
          have e3 := r3.frozen 3
          have e4 := r3.frozen 4
          have HR := Lib.hid (And.intro r2 r3)
          clear r2 r3
          go_wp2
          have hle : w.heap.size ≤ b2 := Nat.le_of_eq HB.out.2.2.2.symm
          have hle1 : w.heap.size ≤ b2 + 1 := by omega
          have hXf : Ext w ((((((((((w9.setCell ⟨b2, 0, none⟩ (.slice none 0 0)).setCell ⟨b2, 1, none⟩ (.int .i64 0)).setCell ⟨b2, 2, none⟩ (.slice none 0 0)).setCell ⟨b2, 3, none⟩ (.slice none 0 0)).setCell ⟨b2, 4, none⟩ (.slice none 0 0)).setCell ⟨b2 + 1, 0, none⟩ (.int .i64 15)).setCell ⟨b2 + 1, 1, none⟩ (.int .i64 0)).setCell ⟨b2 + 1, 2, none⟩ (.int .i64 0)).setCell ⟨b2 + 1, 3, none⟩ (.int .i64 0)).setCell ⟨b2 + 1, 4, none⟩ (.slice none 0 0)) := (((((((((((HB.out.1.trans (HX9.out)).setCell hle _).setCell hle _).setCell hle _).setCell hle _).setCell hle _).setCell hle1 _).setCell hle1 _).setCell hle1 _).setCell hle1 _).setCell hle1 _)
          have hr9 := set10 HR.out.1 HR.out.2 (by omega) (.slice none 0 0) (.int .i64 0) (.slice none 0 0) (.slice none 0 0) (.slice none 0 0) (.int .i64 15) (.int .i64 0) (.int .i64 0) (.int .i64 0) (.slice none 0 0)
          generalize World.setCell (World.setCell (World.setCell (World.setCell (World.setCell (World.setCell (World.setCell (World.setCell (World.setCell (World.setCell w9 _ _) _ _) _ _) _ _) _ _) _ _) _ _) _ _) _ _) _ _ = Wf at hr9 hXf ⊢
          have z0 : Wf.cell? ⟨b2, 0, none⟩ = some (.slice none 0 0) := hr9.1.cell (i := 0) (by omega)
          have z1 : Wf.cell? ⟨b2, 1, none⟩ = some (.int .i64 0) := hr9.1.cell (i := 1) (by omega)
          have z2 : Wf.cell? ⟨b2, 2, none⟩ = some (.slice none 0 0) := hr9.1.cell (i := 2) (by omega)
          have z3 : Wf.cell? ⟨b2, 3, none⟩ = some (.slice none 0 0) := hr9.1.cell (i := 3) (by omega)
          have z4 : Wf.cell? ⟨b2, 4, none⟩ = some (.slice none 0 0) := hr9.1.cell (i := 4) (by omega)
          have y0 : Wf.cell? ⟨b2 + 1, 0, none⟩ = some (.int .i64 15) := hr9.2.1.cell (i := 0) (by omega)
          have y1 : Wf.cell? ⟨b2 + 1, 1, none⟩ = some (.int .i64 0) := hr9.2.1.cell (i := 1) (by omega)
          have y2 : Wf.cell? ⟨b2 + 1, 2, none⟩ = some (.int .i64 0) := hr9.2.1.cell (i := 2) (by omega)
          have y3 : Wf.cell? ⟨b2 + 1, 3, none⟩ = some (.int .i64 0) := hr9.2.1.cell (i := 3) (by omega)
          have y4 : Wf.cell? ⟨b2 + 1, 4, none⟩ = some (.slice none 0 0) := hr9.2.1.cell (i := 4) (by omega)
          (try simp only [Exit.inBlock, Exit.then])
          refine bodyPost_ret (v := .tuple #[.agg #[.slice none 0 0, .int .i64 0, .slice none 0 0, .slice none 0 0, .slice none 0 0], .agg #[.int .i64 15, .int .i64 0, .int .i64 0, .int .i64 0, .slice none 0 0]]) ?_ rfl ?_
          · simp [results, Tryd.results27, go_sem, z0, z1, z2, z3, z4, y0, y1, y2, y3, y4]
          · exact ⟨_, 15, rfl, hXf, .inr ⟨HN.out, rfl, rfl⟩⟩
        · have hmd : May d := mayB_true.1 HC.out.2.1.symm
          have hn6 : n ≤ 600 := by rw [HC.out.2.2.2.2.1]; exact hmd.most
          clear hmd
          have k0 := (HB.out.1.trans HX2.out).cell HC.out.2.2.2.2.2.2.2
          have hw1 : IntKind.i64.wrap ((s : Int) + n) = ((s + n : Nat) : Int) := (IntWalk.i64_in _ (by omega)).trans (by omega)
          go_wp2
          go_roundw
          case rel => exact ⟨i + 1, by omega, by go_num, by rw [take_get HC.out.2.2.2.1, states_snoc, ← HC.out.2.2.2.2.1, ← HC.out.2.2.2.2.2.1]; simp, HX2.out, fun d' hd' => by
            rw [take_get HC.out.2.2.2.1] at hd'
            rcases List.mem_append.1 hd' with h | h
            · exact HC.out.2.2.1 d' h
            · obtain rfl := List.mem_singleton.1 h
              exact mayB_true.1 HC.out.2.1.symm⟩
          case measure => simp [intOf]; omega
      · obtain rfl : LN = i := by omega
        have hall : l.take LN = l := by rw [H.out.2]; exact List.take_length
        rw [hall] at hm hsb ⊢
        have HC := Lib.hid (And.intro hm (And.intro hx hsb))
        clear hm hs hx hlt hsb hsl
        go_wp2_with fail
        go_meet
        exact ⟨states l, rfl, rfl, HC.out.2.2, HC.out.2.1, HC.out.1⟩
  case rest =>
    rename World => w1
    obtain ⟨s, rfl, hs, hsb, hx1, hmay⟩ := hcut
    have HC := Lib.hid (And.intro hs (And.intro hx1 hmay))
    clear hs hx1 hmay
    go_upto_region 8 with fail
    go_cut [49] (fun bv wx => wx = w1 ∧ ∃ b : Bool, bv = .bool b ∧ (b = false ↔ MayL l))
    case first =>
      by_cases h1 : LN < 1
      · have h1' : (LN : Int) < 1 := by omega
        go_wp2_with fail
        go_meet
        exact ⟨rfl, true, rfl, by simp only [Bool.true_eq_false, false_iff]; intro hm; have := hm.pos; have := H.out.2; omega⟩
      · have h1' : ¬ (LN : Int) < 1 := by omega
        by_cases h2 : 16 < LN
        · have h2' : (16 : Int) < LN := by omega
          go_wp2_with fail
          go_meet
          exact ⟨rfl, true, rfl, by simp only [Bool.true_eq_false, false_iff]; intro hm; have := hm.most; have := H.out.2; omega⟩
        · have h2' : ¬ (16 : Int) < LN := by omega
          by_cases h3 : 600 < s
          · have h3' : (600 : Int) < s := by omega
            go_wp2_with fail
            go_meet
            exact ⟨rfl, true, rfl, by simp only [Bool.true_eq_false, false_iff]; intro hm; have := hm.sum; have := HC.out.1; omega⟩
          · have h3' : ¬ (600 : Int) < s := by omega
            go_wp2_with fail
            go_meet
            exact ⟨rfl, false, rfl, ⟨fun _ => ⟨HC.out.2.2, by have := H.out.2; omega, by have := H.out.2; omega, by have := HC.out.1; omega⟩, fun _ => rfl⟩⟩
    case rest =>
      obtain ⟨rfl, b, rfl, hb⟩ := hcut
      rename World => w1
      cases b
      · have hML : MayL l := hb.1 rfl
        have HM := Lib.hid hML
        clear hb hML
        have hx1 : Ext w w1 := HB.out.1.trans HC.out.2.1
        have hb21 : b2 + 1 < w1.heap.size := by have h1 := HB.out.2.2.1.lt; have h2 := HC.out.2.1.size; omega
        have hL16 : LN ≤ 16 := by rw [H.out.2]; exact HM.out.most
        go_wp2_with fail
        obtain ⟨rb, hrb⟩ : ∃ rb, rb = w1.heap.size := ⟨_, rfl⟩
        rw [← hrb]
        have hs0 : BldS w1 (w1.alloc (.cells #[.slice none 0 0, .int .i64 0, .slice none 0 0, .slice none 0 0, .slice none 0 0] 67)) (newTag w1 (fun _ => 0) 0) rb (.slice none 0 0) (.slice none 0 0) (.slice none 0 0) [] [] [] [] :=
          ⟨Ext.box _ _, by rw [hrb]; exact Blk.made w1 (fun _ => 0) 0 (Nat.le_refl _) _ _ rfl _ (fun i hi => by rcases rF_at hi with rfl | rfl | rfl | rfl | rfl <;> rfl), .nil .., .nil .., .nil .., .nil ..⟩
        have HS0 := Lib.hid (And.intro hs0 hx1)
        clear hs0 hx1 hrb
        go_loopw [7, 8] (fun nv iv wr => ∃ (i : Nat) (own : Nat → Nat) (sv lv : Value) (hs : List Value), i ≤ LN ∧ iv = .int .i64 i ∧ BldS w1 wr own rb sv lv nv hs (allOf (l.take i)).starts (allOf (l.take i)).labels (allOf (l.take i)).rows) (fun _ iv _ => LN - (intOf iv).toNat)
        case atStart => exact ⟨0, _, _, _, _, Nat.zero_le _, rfl, HS0.out.1⟩
        case round =>
          obtain ⟨i, own, sv, lv, hs, hi, rfl, hS⟩ := hrel
          by_cases hlt : i < LN
          · obtain ⟨b, o, rfl, hcell⟩ := H.out.1 (by omega)
            obtain ⟨d, hd⟩ : ∃ d, l[i]? = some d := ⟨_, List.getElem?_eq_getElem (by rw [← H.out.2]; exact hlt)⟩
            have hmd := HM.out.each d (List.mem_of_getElem? hd)
            obtain ⟨an, cn, al, cl, c0, c1, hdv⟩ := hcell i d hd
            have hxw : Ext w wr := HS0.out.2.trans hS.ext
            have hbase := baseOf_at hd
            have hbl := Nat.le_trans (baseOf_le l) HM.out.sum
            rw [hmd.labels] at c1 hdv
            obtain ⟨N, hN⟩ : ∃ N, N = d.next.length := ⟨_, rfl⟩
            rw [← hN] at c0 c1 hdv
            obtain ⟨bn, on, _, bl, ol, _, hvv, hcs⟩ := hdv.cells hmd
            simp only [Value.agg.injEq, Array.mk.injEq, List.cons.injEq, Value.slice.injEq, and_true] at hvv
            obtain ⟨⟨rfl, hv1, rfl⟩, ⟨rfl, hv2, rfl⟩⟩ := hvv
            clear hv1 hv2
            have k0 := hxw.cell c0
            have k1 := hxw.cell c1
            have hN6 : N ≤ 600 := by rw [hN]; exact hmd.most
            have hkN : RM.kcnt d.aut d.aut.n ≤ N := by rw [hN]; exact RM.kcnt_le _ _
            obtain ⟨t, ht⟩ : ∃ t, t = allOf (l.take i) := ⟨_, rfl⟩
            rw [← ht] at hS
            obtain ⟨n, hn⟩ : ∃ n, n = t.labels.length := ⟨_, rfl⟩
            have hnb : baseOf (l.take i) = n := by rw [hn, ht]; rfl
            have hn6 : n + RM.kcnt d.aut d.aut.n ≤ 600 := by omega
            have hst : t.starts.length = i := by
              rw [ht]
              have := (RM.all_lens (auts (l.take i))).2
              rw [show (allOf (l.take i)).starts.length = (auts (l.take i)).length from this, auts_len, List.length_take, ← H.out.2]; omega
            obtain ⟨av, cv, rfl, _⟩ := own_read hS.labels.row
            rw [show (intsV t.labels).length = n by rw [hn]; simp [intsV]] at hS
            have hj1 : (i : Int) < LN := by omega
            have hal := ralive_c (hdv.ext hxw) hmd
            unfold RAliveR at hal
            rw [← hN] at hal
            have hmk := run_make_any (P := Tryd.prog) 23 3 (.int .i64 0) 1 8 Tryd.underlying23 int_info .i64 .i64 N (by omega) (by omega)
            have HD := Lib.hid (And.intro hd (And.intro hmd (And.intro hcs (And.intro hN (And.intro ht (And.intro hn (And.intro hst (And.intro c0 c1))))))))
            have HS := Lib.hid (And.intro hS (And.intro hxw hal))
            clear hd hmd hdv hN ht hn hst hcs hS hxw hal hbase hbl hcell hnb c0 c1
            go_wp2_with fail
            refine HS.out.2.2.mono ?_
            rintro e w3 ⟨g, rfl, hg, hlv, hx3⟩
            have hM0 := ModR.begin HS.out.1 hx3 hg hlv
            have hB3 := HS.out.1.more hx3
            have e4 : (w3.alloc (.cells (madeCells #[.int .i64 0] N) 3)).cell? ⟨rb, 4, none⟩ = some (.slice av n cv) := hM0.bld.box.row.cell (i := 4) (by omega)
            have e2 : (w3.alloc (.cells (madeCells #[.int .i64 0] N) 3)).cell? ⟨rb, 2, none⟩ = some sv := hM0.bld.box.row.cell (i := 2) (by omega)
            have hslen : (intsV (nI t.starts)).length = i := by rw [show (intsV (nI t.starts)).length = t.starts.length by simp [intsV, nI]]; exact HD.out.2.2.2.2.2.2.1
            have hown := (hM0.bld.starts.ext (Ext.box (w3.alloc (.cells (madeCells #[.int .i64 0] N) 3)) (.cells #[.int .i64 (n : Int)] 3))).row
            rw [hslen] at hown
            have hcell := cell_one_new (w3.alloc (.cells (madeCells #[.int .i64 0] N) 3)) (.int .i64 (n : Int)) 3
            rw [World.size_alloc] at hcell
            have h1c := one_int .i64 (n : Int)
            obtain ⟨i0, hi0, hz0, hz1, hz2⟩ := info_parts int_info
            have hbase : w1.heap.size ≤ ((w3.alloc (.cells (madeCells #[.int .i64 0] N) 3)).alloc (.cells #[.int .i64 (n : Int)] 3)).heap.size := by have := hB3.ext.size; simp; omega
            have hmax : i + 1 ≤ maxLen := by unfold maxLen; omega
            have HM0 := Lib.hid (And.intro hM0 hslen)
            clear hM0 hB3 hlv hx3 hslen k0 k1
            go_wp2_with (at_builtin; refine wpList_append_own_at _ rfl _ _ 23 rfl w1.heap.size 3 i0 (.int .i64 0) 1 8 Tryd.underlying23 hi0 hz0 hz1 hz2 rfl (by decide) _ _ _ rfl hown ⟨w3.heap.size + 1, 0, none⟩ 1 1 [.int .i64 (n : Int)] rfl rfl hcell h1c hmax (by omega) hbase ?_; intro v' W hown' hg _ hat; obtain ⟨gg, cap', hv', _, _⟩ := own_slc hown' (by omega); subst hv'; have hp := (HM0.out.1.bld.starts.push (Ext.box _ _) (by rw [HM0.out.2]; exact hown') hg hat).2; have hbx := (HM0.out.1.bld.box.keep hp (by decide)).row; have b22 : W.cell? ⟨rb, 2, none⟩ = some sv := hbx.cell (i := 2) (by omega); have f2 := hbx.frozen 2; have hS1 := HM0.out.1.start (n := n) (Ext.box _ _) (by rw [HD.out.2.2.2.2.2.2.1]; exact hown') hg hat)
            clear hmk
            obtain ⟨ab, hab⟩ : ∃ ab, ab = w3.heap.size := ⟨_, rfl⟩
            rw [← hab]
            rw [← hab] at hS1
            generalize World.setCell W _ _ = W1 at hS1 ⊢
            obtain ⟨own1, hown1⟩ : ∃ own1, ModR w1 W1 own1 rb (.slice (some ⟨gg, 0, none⟩) (i + 1) cap') (.slice av n cv) u7 hs (t.starts ++ [n]) (t.labels ++ (RM.kept d.aut 0).map d.aut.lb) t.rows N ab g (numF d.aut n 0) (RM.liveB d.aut) :=
              ⟨_, by
                rw [show RM.kept d.aut 0 = [] from rfl, List.map_nil, List.append_nil]
                exact hS1.congr fun j _ => (if_neg (Nat.not_lt_zero _)).symm⟩
            have HS1 := Lib.hid hown1
            clear hS1 hown1 b22 f2 hp hbx hown' hg hat hown hcell h1c hbase e2 e4 hmax hab
            go_loopw [11, 12] (fun nv2 sv2 wr2 => ∃ (s : Nat) (own' : Nat → Nat) (lv : Value), s ≤ N ∧ sv2 = .int .i64 s ∧ nv2 = .int .i64 ((n + RM.kcnt d.aut s : Nat) : Int) ∧
              ModR w1 wr2 own' rb (.slice (some ⟨gg, 0, none⟩) (i + 1) cap') lv u7 hs (t.starts ++ [n]) (t.labels ++ (RM.kept d.aut s).map d.aut.lb) t.rows N ab g (numF d.aut n s) (RM.liveB d.aut)) (fun _ sv2 _ => N - (intOf sv2).toNat)
            case atStart => exact ⟨0, own1, _, Nat.zero_le _, rfl, congrArg (fun k : Nat => Value.int .i64 (k : Int)) (Nat.add_zero n).symm, HS1.out⟩
            case round =>
              clear HS1
              rename World => wr2
              obtain ⟨s, own2, lv2, hsN, rfl, rfl, hS2⟩ := hrel
              by_cases hlt2 : s < N
              · have hj2 : (s : Int) < N := by omega
                have hkm := RM.kcnt_mono d.aut (a := s) (b := d.aut.n) (by show s ≤ d.next.length; rw [← HD.out.2.2.2.1]; omega)
                obtain ⟨k, hk⟩ : ∃ k, k = n + RM.kcnt d.aut s := ⟨_, rfl⟩
                have hk6 : k ≤ 600 := by omega
                rw [← hk]
                obtain ⟨y, hy⟩ : ∃ y, y = RM.liveB d.aut s := ⟨_, rfl⟩
                have m0 := hS2.num.row.cell hlt2
                obtain ⟨x0, hx0⟩ : ∃ x, x = numF d.aut n s s := ⟨_, rfl⟩
                rw [← hx0] at m0
                have f0 := hS2.num.row.frozen s
                have hSA := hS2.set s (-1)
                have m1 := hSA.liv.row.cell hlt2
                rw [← hy] at m1
                have HQ := Lib.hid (And.intro hS2 (And.intro hy (And.intro hk hx0)))
                clear hS2 hy hk hx0 hkm
                go_upto_region 23 with fail
                clear m0 f0
                generalize World.setCell wr2 _ _ = WA at hSA m1 ⊢
                have m2 := hSA.num.row.cell hlt2
                have f2 := hSA.num.row.frozen s
                rw [if_pos rfl] at m2
                have hys : (y = true ∧ RM.keep d.aut s = true) ∨ (y = false ∧ s = 0 ∧ RM.keep d.aut s = true) ∨ (y = false ∧ s ≠ 0 ∧ RM.keep d.aut s = false) := by
                  cases y
                  · by_cases hs0 : s = 0
                    · exact .inr (.inl ⟨rfl, hs0, keep_start hs0⟩)
                    · exact .inr (.inr ⟨rfl, hs0, keep_false HQ.out.2.1.symm hs0⟩)
                  · exact .inl ⟨rfl, RM.keep_live HQ.out.2.1.symm⟩
                rcases hys with ⟨rfl, hkp⟩ | ⟨rfl, hs0, hkp⟩ | ⟨rfl, hs0, hkp⟩
                · have hSB := (hSA.set s (k : Int)).congr fun j _ => numF_live HQ.out.2.1.symm HQ.out.2.2.1 j
                  have HK := Lib.hid hkp
                  clear hSA hkp
                  go_upto_region 27 with fail
                  clear m1 m2 f2
                  generalize World.setCell WA _ _ = WB at hSB ⊢
                  have hl0 : (t.labels ++ (RM.kept d.aut s).map d.aut.lb).length = k := by rw [List.length_append, List.length_map, RM.kept_len, ← HD.out.2.2.2.2.2.1, HQ.out.2.2.1]
                  have hl1 : (intsV (t.labels ++ (RM.kept d.aut s).map d.aut.lb)).length = k := by simp only [intsV, List.length_map]; exact hl0
                  have c4 : WB.cell? ⟨rb, 4, none⟩ = some lv2 := hSB.bld.box.row.cell (i := 4) (by omega)
                  have f4 : WB.frozen? ⟨rb, 4, none⟩ = false := hSB.bld.box.row.frozen 4
                  obtain ⟨x, hx⟩ : ∃ x, x = d.lb s := ⟨_, rfl⟩
                  have hxw : Ext w WB := HS0.out.2.trans hSB.bld.ext
                  have k1 := hxw.cell HD.out.2.2.2.2.2.2.2.2
                  have l1 : WB.cell? ⟨bl, ol + s, none⟩ = some (.int .i64 x) := by rw [hx]; exact hxw.cell (HD.out.2.2.1.label s (by rw [← HD.out.2.2.2.1]; exact hlt2))
                  have hown := hSB.bld.labels.row
                  rw [hl1] at hown
                  have hnr : lv2.ownBlock ≠ some rb := fun e => by
                    have h1 := hSB.bld.labels.tag rb e
                    rw [hSB.bld.box.tag] at h1; cases h1
                  obtain ⟨i0, hi0, hz0, hz1, hz2⟩ := info_parts int_info
                  have hbase : w1.heap.size ≤ WB.heap.size := hSB.bld.ext.size
                  have hmax : k + 1 ≤ maxLen := by unfold maxLen; omega
                  have hb1 := lt_of_cell c4
                  have hb3 := lt_of_cell l1
                  have hb5 := lt_of_cell k1
                  have HB9 := Lib.hid (And.intro hSB (And.intro hx hl1))
                  clear hSB hx hl0 hl1 hxw
                  apply key_elim15 (Good := fun g7 c7 W9 => ∃ own9, ModR w1 W9 own9 rb (.slice (some ⟨gg, 0, none⟩) (i + 1) cap') (.slice (some ⟨g7, 0, none⟩) (k + 1) c7) u7 hs (t.starts ++ [n]) (t.labels ++ (RM.kept d.aut (s + 1)).map d.aut.lb) t.rows N ab g (numF d.aut n (s + 1)) (RM.liveB d.aut))
                  case h =>
                    intro key
                    go_region_law ((refine step_append_lies _ (by rfl) _ _ _ (by rfl) w1.heap.size 3 i0 _ 1 8 Tryd.underlying23 hi0 hz0 hz1 hz2 rfl (by omega) lv2 k (intsV (t.labels ++ (RM.kept d.aut s).map d.aut.lb)) (by rfl) ((hown.alloc (.cells #[.int .i64 x] 3)).drew) ⟨WB.heap.size, 0, none⟩ 1 1 [.int .i64 x] (by rfl) (by rfl) (World.news_of_block (cs := #[.int .i64 x]) (t := 3) (fr := (0, 0)) (heap_alloc_new WB _)) (by simp [Value.oneCell']) (by omega) hmax (by omega) (by simp; omega) (WB.heap.size + 1) (by simp) ?_; intro gg4 cap4 w4 hown4 hgrow hat hlt4; have hk4 := hgrow.block rb (by simp; omega) (Ne.symm hnr); have c44 : w4.cell? ⟨rb, 4, none⟩ = some lv2 := (World.cell?_of_block (a := ⟨rb, 4, none⟩) hk4).trans (((Ext.box WB (.cells #[.int .i64 x] 3)).drew).cell c4); have f44 : w4.frozen? ⟨rb, 4, none⟩ = false := (World.frozen?_of_block (a := ⟨rb, 4, none⟩) hk4).trans ((Below.frozen ((Ext.box WB (.cells #[.int .i64 x] 3)).drew) (p := ⟨rb, 4, none⟩) hb1).trans f4)))
                    all_goals
                      have hS9 := HB9.out.1.label (x := x) (v' := .slice (some ⟨gg4, 0, none⟩) (k + 1) cap4) ((Ext.box WB (.cells #[.int .i64 x] 3)).drew) (by rw [show (t.labels ++ (RM.kept d.aut s).map d.aut.lb).length = k by have := HB9.out.2.2; simpa [intsV] using this]; exact hown4) hgrow (by rcases hat with e | e; exact .inl e.symm; exact .inr (by simp [Value.ownBlock, e]))
                      generalize World.setCell _ _ _ = W9 at hS9 ⊢
                      exact key gg4 cap4 W9 ⟨_, by rw [kept_lb_yes HK.out]; rw [HB9.out.2.1] at hS9; exact hS9⟩
                  case h2 =>
                    intro g7 c7 W9 hgood
                    obtain ⟨own9, hS9⟩ := hgood
                    have HS9 := Lib.hid hS9
                    clear hS9 c4 f4 k1 l1 hown hnr hbase hmax hb1 hb3 hb5
                    go_wp2
                    go_roundw
                    case rel => exact ⟨s + 1, own9, .slice (some ⟨g7, 0, none⟩) (k + 1) c7, by omega, by go_num, by rw [kcnt_yes HK.out, ← Nat.add_assoc, ← HQ.out.2.2.1]; go_num, HS9.out⟩
                    case measure => simp [intOf]; omega
                · have hz : ((s : Int) == 0) = true := by simp; omega
                  have HK := Lib.hid hkp
                  have hSB := hSA.congr fun j _ => numF_dead HQ.out.2.1.symm j
                  clear hs0 hSA hkp
                  obtain ⟨WB, rfl⟩ : ∃ W : World, W = WA := ⟨_, rfl⟩
                  go_upto_region 27 with fail
                  clear m1 m2 f2
                  have hl0 : (t.labels ++ (RM.kept d.aut s).map d.aut.lb).length = k := by rw [List.length_append, List.length_map, RM.kept_len, ← HD.out.2.2.2.2.2.1, HQ.out.2.2.1]
                  have hl1 : (intsV (t.labels ++ (RM.kept d.aut s).map d.aut.lb)).length = k := by simp only [intsV, List.length_map]; exact hl0
                  have c4 : WB.cell? ⟨rb, 4, none⟩ = some lv2 := hSB.bld.box.row.cell (i := 4) (by omega)
                  have f4 : WB.frozen? ⟨rb, 4, none⟩ = false := hSB.bld.box.row.frozen 4
                  obtain ⟨x, hx⟩ : ∃ x, x = d.lb s := ⟨_, rfl⟩
                  have hxw : Ext w WB := HS0.out.2.trans hSB.bld.ext
                  have k1 := hxw.cell HD.out.2.2.2.2.2.2.2.2
                  have l1 : WB.cell? ⟨bl, ol + s, none⟩ = some (.int .i64 x) := by rw [hx]; exact hxw.cell (HD.out.2.2.1.label s (by rw [← HD.out.2.2.2.1]; exact hlt2))
                  have hown := hSB.bld.labels.row
                  rw [hl1] at hown
                  have hnr : lv2.ownBlock ≠ some rb := fun e => by
                    have h1 := hSB.bld.labels.tag rb e
                    rw [hSB.bld.box.tag] at h1; cases h1
                  obtain ⟨i0, hi0, hz0, hz1, hz2⟩ := info_parts int_info
                  have hbase : w1.heap.size ≤ WB.heap.size := hSB.bld.ext.size
                  have hmax : k + 1 ≤ maxLen := by unfold maxLen; omega
                  have hb1 := lt_of_cell c4
                  have hb3 := lt_of_cell l1
                  have hb5 := lt_of_cell k1
                  have HB9 := Lib.hid (And.intro hSB (And.intro hx hl1))
                  clear hSB hx hl0 hl1 hxw
                  apply key_elim15 (Good := fun g7 c7 W9 => ∃ own9, ModR w1 W9 own9 rb (.slice (some ⟨gg, 0, none⟩) (i + 1) cap') (.slice (some ⟨g7, 0, none⟩) (k + 1) c7) u7 hs (t.starts ++ [n]) (t.labels ++ (RM.kept d.aut (s + 1)).map d.aut.lb) t.rows N ab g (numF d.aut n (s + 1)) (RM.liveB d.aut))
                  case h =>
                    intro key
                    go_region_law ((refine step_append_lies _ (by rfl) _ _ _ (by rfl) w1.heap.size 3 i0 _ 1 8 Tryd.underlying23 hi0 hz0 hz1 hz2 rfl (by omega) lv2 k (intsV (t.labels ++ (RM.kept d.aut s).map d.aut.lb)) (by rfl) ((hown.alloc (.cells #[.int .i64 x] 3)).drew) ⟨WB.heap.size, 0, none⟩ 1 1 [.int .i64 x] (by rfl) (by rfl) (World.news_of_block (cs := #[.int .i64 x]) (t := 3) (fr := (0, 0)) (heap_alloc_new WB _)) (by simp [Value.oneCell']) (by omega) hmax (by omega) (by simp; omega) (WB.heap.size + 1) (by simp) ?_; intro gg4 cap4 w4 hown4 hgrow hat hlt4; have hk4 := hgrow.block rb (by simp; omega) (Ne.symm hnr); have c44 : w4.cell? ⟨rb, 4, none⟩ = some lv2 := (World.cell?_of_block (a := ⟨rb, 4, none⟩) hk4).trans (((Ext.box WB (.cells #[.int .i64 x] 3)).drew).cell c4); have f44 : w4.frozen? ⟨rb, 4, none⟩ = false := (World.frozen?_of_block (a := ⟨rb, 4, none⟩) hk4).trans ((Below.frozen ((Ext.box WB (.cells #[.int .i64 x] 3)).drew) (p := ⟨rb, 4, none⟩) hb1).trans f4)))
                    all_goals
                      have hS9 := HB9.out.1.label (x := x) (v' := .slice (some ⟨gg4, 0, none⟩) (k + 1) cap4) ((Ext.box WB (.cells #[.int .i64 x] 3)).drew) (by rw [show (t.labels ++ (RM.kept d.aut s).map d.aut.lb).length = k by have := HB9.out.2.2; simpa [intsV] using this]; exact hown4) hgrow (by rcases hat with e | e; exact .inl e.symm; exact .inr (by simp [Value.ownBlock, e]))
                      generalize World.setCell _ _ _ = W9 at hS9 ⊢
                      exact key gg4 cap4 W9 ⟨_, by rw [kept_lb_yes HK.out]; rw [HB9.out.2.1] at hS9; exact hS9⟩
                  case h2 =>
                    intro g7 c7 W9 hgood
                    obtain ⟨own9, hS9⟩ := hgood
                    have HS9 := Lib.hid hS9
                    clear hS9 c4 f4 k1 l1 hown hnr hbase hmax hb1 hb3 hb5
                    go_wp2
                    go_roundw
                    case rel => exact ⟨s + 1, own9, .slice (some ⟨g7, 0, none⟩) (k + 1) c7, by omega, by go_num, by rw [kcnt_yes HK.out, ← Nat.add_assoc, ← HQ.out.2.2.1]; go_num, HS9.out⟩
                    case measure => simp [intOf]; omega
                · have hz : ((s : Int) == 0) = false := by simp; omega
                  have HK := Lib.hid hkp
                  have HSB := Lib.hid (hSA.congr fun j _ => numF_dead HQ.out.2.1.symm j)
                  clear hs0 m2 f2 hSA hkp
                  go_wp2
                  go_roundw
                  case rel => exact ⟨s + 1, own2, lv2, by omega, by go_num, by rw [kcnt_no HK.out, ← HQ.out.2.2.1], by rw [kept_no HK.out]; exact HSB.out⟩
                  case measure => simp [intOf]; omega
              · obtain rfl : N = s := by omega
                have HS2 := Lib.hid hS2
                clear hS2 hlt2 hsN
                go_wp2_with fail
                go_loopw [7, 13] (fun nv3 sv3 wr3 => ∃ (s : Nat) (own3 : Nat → Nat) (hs3 : List Value), s ≤ N ∧ sv3 = .int .i64 s ∧ ModR w1 wr3 own3 rb (.slice (some ⟨gg, 0, none⟩) (i + 1) cap') lv2 nv3 hs3 (t.starts ++ [n]) (t.labels ++ (RM.kept d.aut N).map d.aut.lb) (t.rows ++ (RM.kept d.aut s).map (RM.rowOf d.aut n)) N ab g (numF d.aut n N) (RM.liveB d.aut)) (fun _ sv3 _ => N - (intOf sv3).toNat)
                case atStart => exact ⟨0, own2, hs, Nat.zero_le _, rfl, by rw [show RM.kept d.aut 0 = [] from rfl, List.map_nil, List.append_nil]; exact HS2.out⟩
                case round =>
                  clear HS2
                  rename World => wr3
                  obtain ⟨s, own3, hs3, hsN3, rfl, hS3⟩ := hrel
                  by_cases hlt3 : s < N
                  · have hj3 : (s : Int) < N := by omega
                    obtain ⟨y, hy⟩ : ∃ y, y = RM.liveB d.aut s := ⟨_, rfl⟩
                    have m1 := hS3.liv.row.cell hlt3
                    rw [← hy] at m1
                    obtain ⟨q, hqq⟩ : ∃ q, q = hs3.length := ⟨_, rfl⟩
                    have hq : q ≤ 1200 := by
                      rw [hqq, hS3.bld.rows.len, List.length_append, List.length_map, RM.kept_len]
                      have h1 := RM.kcnt_le d.aut s
                      have h2 : t.rows.length = n := by rw [HD.out.2.2.2.2.2.1, HD.out.2.2.2.2.1]; exact (RM.all_lens (auts (l.take i))).1
                      omega
                    obtain ⟨fa, fc, hfv⟩ := shpL hS3.bld.hdr
                    rw [← hqq] at hfv
                    subst hfv
                    have HQ := Lib.hid (And.intro hS3 (And.intro hy hqq))
                    clear hS3 hy hqq
                    have hys : (RM.keep d.aut s = true ∧ (y = true ∨ y = false ∧ ¬ (0 : Int) < s)) ∨ (y = false ∧ (0 : Int) < s ∧ RM.keep d.aut s = false) := by
                      cases y
                      · by_cases hs0 : s = 0
                        · exact .inl ⟨keep_start hs0, .inr ⟨rfl, by omega⟩⟩
                        · exact .inr ⟨rfl, by omega, keep_false HQ.out.2.1.symm hs0⟩
                      · exact .inl ⟨RM.keep_live HQ.out.2.1.symm, .inl rfl⟩
                    rcases hys with ⟨hkp, hyy⟩ | ⟨rfl, hz, hkp⟩
                    · have HK := Lib.hid hkp
                      clear hkp
                      rcases hyy with rfl | ⟨rfl, hz⟩
                      all_goals
                        go_wp2_with fail
                        clear m1
                        (try clear hz)
                        go_loopw [14, 15] (fun rv kv wr4 => ∃ (c : Nat) (own6 : Nat → Nat), c ≤ 256 ∧ kv = .int .i64 c ∧ ModR w1 wr4 own6 rb (.slice (some ⟨gg, 0, none⟩) (i + 1) cap') lv2 (.slice fa q fc) hs3 (t.starts ++ [n]) (t.labels ++ (RM.kept d.aut N).map d.aut.lb) (t.rows ++ (RM.kept d.aut s).map (RM.rowOf d.aut n)) N ab g (numF d.aut n N) (RM.liveB d.aut) ∧ Lst 7 wr4 own6 w1.heap.size 3 rv (intsV ((RM.rowOf d.aut n s).take c))) (fun _ kv _ => 256 - (intOf kv).toNat)
                        case atStart => exact ⟨0, own3, Nat.zero_le _, rfl, HQ.out.1, .nil ..⟩
                        case round =>
                          rename World => wr4
                          obtain ⟨c, own6, hc, rfl, hS6, hL⟩ := hrel
                          have hrl := RM.rowOf_len d.aut n s
                          obtain ⟨ra, rcp, hrv⟩ := shpL hL
                          have htl : (intsV ((RM.rowOf d.aut n s).take c)).length = c := by rw [intsV_len, List.length_take, hrl, Nat.min_eq_left hc]
                          rw [htl] at hrv
                          subst hrv
                          by_cases hcl : c < 256
                          · have hxw4 : Ext w wr4 := HS0.out.2.trans hS6.bld.ext
                            obtain ⟨br, ro, cr, r0, r1⟩ := HD.out.2.2.1.row s (by rw [← HD.out.2.2.2.1]; exact hlt3)
                            have q0 := hxw4.cell r0
                            have c1 := hxw4.cell (r1 c hcl)
                            have k0 := hxw4.cell HD.out.2.2.2.2.2.2.2.1
                            have htN := HD.out.2.1.nx_lt (s := s) (c := c) (by rw [← HD.out.2.2.2.1]; exact hlt3) hcl
                            rw [← HD.out.2.2.2.1] at htN
                            have m4 := hS6.num.row.cell htN
                            rw [numF_all htN] at m4
                            have hsx : (RM.rowOf d.aut n s).take (c + 1) = (RM.rowOf d.aut n s).take c ++ [RM.entry d.aut n (d.aut.nx s c)] := take_get (RM.rowOf_get hcl)
                            obtain ⟨x, hx⟩ : ∃ x, x = d.nx s c := ⟨_, rfl⟩
                            rw [← hx] at c1 m4 htN
                            rw [show d.aut.nx s c = x from hx.symm] at hsx
                            obtain ⟨e, he⟩ : ∃ e, e = RM.entry d.aut n x := ⟨_, rfl⟩
                            rw [← he] at m4 hsx
                            have hj4 : (c : Int) < 256 := by omega
                            have hj5 : (x : Int) < N := by omega
                            obtain ⟨i0, hi0, hz0, hz1, hz2⟩ := info_parts int_info
                            have hown := (hL.ext (Ext.box wr4 (.cells #[.int .i64 e] 3))).row
                            rw [htl] at hown
                            have hcell := cell_one_new wr4 (.int .i64 e) 3
                            have h1c := one_int .i64 e
                            have hbase : w1.heap.size ≤ (wr4.alloc (.cells #[.int .i64 e] 3)).heap.size := by have := hS6.bld.ext.size; simp; omega
                            have hmax : c + 1 ≤ maxLen := by unfold maxLen; omega
                            have HE := Lib.hid (And.intro hS6 (And.intro hL (And.intro hsx htl)))
                            clear hS6 hL hsx htl hx he hxw4 r0 r1 hrl
                            go_wp2_with (at_builtin; refine wpList_append_own_at _ rfl _ _ 23 rfl w1.heap.size 3 i0 (.int .i64 0) 1 8 Tryd.underlying23 hi0 hz0 hz1 hz2 rfl (by decide) _ _ _ rfl hown ⟨wr4.heap.size, 0, none⟩ 1 1 [.int .i64 e] rfl rfl hcell h1c hmax (by omega) hbase ?_; intro v' W7 hown' hg _ hat)
                            obtain ⟨hl9, hk9⟩ := HE.out.2.1.push (Ext.box _ _) (by rw [HE.out.2.2.2]; exact hown') hg hat
                            have hx9 := HE.out.2.1.push_ext HE.out.1.bld.ext (Nat.le_refl _) (Ext.box _ _) hg
                            have hS9 := HE.out.1.keep hx9 (hk9.mono fun g hg => by omega)
                            have H9 := Lib.hid (And.intro hS9 (show Lst 7 W7 (newTag wr4 own6 7) w1.heap.size 3 v' (intsV ((RM.rowOf d.aut n s).take (c + 1))) by rw [HE.out.2.2.1, show intsV ((RM.rowOf d.aut n s).take c ++ [e]) = intsV ((RM.rowOf d.aut n s).take c) ++ [.int .i64 e] by simp [intsV]]; exact hl9))
                            clear hl9 hk9 hx9 hS9 hown' hg hat hown hcell h1c hbase hmax
                            go_roundw
                            case rel => first | exact ⟨c + 1, newTag wr4 own6 7, by omega, by go_num, H9.out.1, H9.out.2⟩ | ((repeat apply Exists.intro); exact ⟨⟨c + 1, newTag wr4 own6 7, by omega, by go_num, H9.out.1, H9.out.2⟩, rfl⟩)
                            case measure => simp [intOf]; omega
                          · obtain rfl : c = 256 := by omega
                            rw [List.take_of_length_le (by omega)] at hL
                            have hown := (hS6.bld.hdr.ext (Ext.box wr4 (.cells #[.slice ra 256 rcp] 23))).row
                            rw [← HQ.out.2.2] at hown
                            obtain ⟨j0, hj0, hw0, hw1, hw2⟩ := info_parts rows1_info
                            have hcell := cell_one_new wr4 (.slice ra 256 rcp) 23
                            have h1c := one_slice ra 256 rcp
                            have hbase : w1.heap.size ≤ (wr4.alloc (.cells #[.slice ra 256 rcp] 23)).heap.size := by have := hS6.bld.ext.size; simp; omega
                            have hmax : q + 1 ≤ maxLen := by unfold maxLen; omega
                            have HE := Lib.hid (And.intro hS6 hL)
                            clear hS6 hL htl hrl hcl hc
                            rw [show ((256 : Nat) : Int) = 256 from rfl]
                            go_wp2_with (at_builtin; refine wpList_append_own_at _ rfl _ _ 22 rfl w1.heap.size 23 j0 (.slice none 0 0) 1 24 Tryd.underlying22 hj0 hw0 hw1 hw2 rfl (by decide) _ _ _ rfl hown ⟨wr4.heap.size, 0, none⟩ 1 1 [.slice ra 256 rcp] rfl rfl hcell h1c hmax (by omega) hbase ?_; intro v' W7 hown' hg _ hat)
                            obtain ⟨own7, hS7⟩ := HE.out.1.row HE.out.2 (Ext.box _ _) (by rw [← HQ.out.2.2]; exact hown') hg hat
                            have HS7 := Lib.hid hS7
                            clear hS7 hown' hg hat hown hcell h1c hbase hmax
                            go_roundw
                            case rel => first | exact ⟨s + 1, own7, hs3 ++ [.slice ra 256 rcp], by omega, by go_num, by rw [kept_yes HK.out, List.map_append, ← List.append_assoc]; exact HS7.out⟩ | ((repeat apply Exists.intro); exact ⟨⟨s + 1, own7, hs3 ++ [.slice ra 256 rcp], by omega, by go_num, by rw [kept_yes HK.out, List.map_append, ← List.append_assoc]; exact HS7.out⟩, rfl⟩)
                            case measure => simp [intOf]; omega
                    · have HK := Lib.hid hkp
                      clear hkp
                      go_wp2
                      go_roundw
                      case rel => exact ⟨s + 1, own3, hs3, by omega, by go_num, by rw [kept_no HK.out]; exact HQ.out.1⟩
                      case measure => simp [intOf]; omega
                  · obtain rfl : N = s := by omega
                    have HS3 := Lib.hid hS3
                    clear hS3 hlt3 hsN3
                    go_wp2
                    go_roundw
                    case rel =>
                      have hN2 : N = d.aut.n := HD.out.2.2.2.1
                      refine ⟨i + 1, own3, (.slice (some ⟨gg, 0, none⟩) (i + 1) cap'), lv2, hs3, by omega, by go_num, ?_⟩
                      rw [allOf_succ HD.out.1, ← HD.out.2.2.2.2.1]
                      unfold RM.All.add
                      rw [← hN2, ← HD.out.2.2.2.2.2.1]
                      exact HS3.out.bld
                    case measure => simp [intOf]; omega
          · obtain rfl : LN = i := by omega
            have hall : l.take LN = l := by rw [H.out.2]; exact List.take_length
            rw [hall] at hS
            obtain ⟨A, hA⟩ : ∃ A, A = allOf l := ⟨_, rfl⟩
            rw [← hA] at hS
            have hl1 : A.rows.length = baseOf l := by rw [hA]; exact (RM.all_lens (auts l)).1
            have hl2 : ∀ r ∈ A.rows, r.length = 256 := fun r hr => RM.all_rows_len (l := auts l) (by rw [hA] at hr; exact hr)
            have hbs : baseOf l ≤ 600 := Nat.le_trans (baseOf_le l) HM.out.sum
            have hn1 : A.starts.length ≤ 16 := by rw [hA]; exact (show (allOf l).starts.length ≤ 16 by rw [show (allOf l).starts.length = (auts l).length from (RM.all_lens (auts l)).2, auts_len, ← H.out.2]; exact hL16)
            have hn4 : A.labels.length ≤ 600 := by rw [hA]; exact hbs
            obtain ⟨sa, sc, hsv⟩ := shpL hS.starts
            obtain ⟨la, lc, hlv⟩ := shpL hS.labels
            obtain ⟨na, nc, hnv⟩ := shpL hS.hdr
            obtain ⟨sn, hsn⟩ : ∃ n, n = (intsV (nI A.starts)).length := ⟨_, rfl⟩
            obtain ⟨ln, hln⟩ : ∃ n, n = (intsV A.labels).length := ⟨_, rfl⟩
            obtain ⟨nn, hnn⟩ : ∃ n, n = hs.length := ⟨_, rfl⟩
            rw [← hsn] at hsv
            rw [← hln] at hlv
            rw [← hnn] at hnv
            subst hsv; subst hlv; subst hnv
            have hrows := hS.rows.read hS.hdr (by omega) (fun r hr => by rw [hl2 r hr]; omega)
            have hcl := rcls_c (sa := sa) (sn := sn) (sc := sc) (la := la) (ln := ln) (lc := lc) hrows hl2 (by omega)
            have c0 : wr.cell? ⟨rb, 0, none⟩ = some (.slice none 0 0) := hS.box.row.cell (i := 0) (by omega)
            have c1 : wr.cell? ⟨rb, 1, none⟩ = some (.int .i64 0) := hS.box.row.cell (i := 1) (by omega)
            have c2 : wr.cell? ⟨rb, 2, none⟩ = some (.slice sa sn sc) := hS.box.row.cell (i := 2) (by omega)
            have c3 : wr.cell? ⟨rb, 3, none⟩ = some (.slice none 0 0) := hS.box.row.cell (i := 3) (by omega)
            have c4 : wr.cell? ⟨rb, 4, none⟩ = some (.slice la ln lc) := hS.box.row.cell (i := 4) (by omega)
            have HE := Lib.hid (And.intro hcl (And.intro hS (And.intro hA (And.intro hn1 hn4))))
            clear hcl hS hA hn1 hn4 hl1 hl2 hbs hrows hall hlt hi hsn hln hnn
            go_wp2_with fail
            refine HE.out.1.mono ?_
            rintro e w9 ⟨ca, cc, xa, xn, xc, rfl, hfar, hx9⟩
            have HX9 := Lib.hid (HC.out.2.1.trans (HE.out.2.1.ext.trans hx9))
            have HF9 := Lib.hid (And.intro hfar (And.intro hx9 HE.out.2.1.ext.size))
            clear hfar hx9 c0 c1 c2 c3 c4
            obtain ⟨K, hK⟩ : ∃ K, K = RM.ncls A.rows := ⟨_, rfl⟩
            rw [← hK]
            have HKK := Lib.hid hK
            clear hK
            have r2 := rowIs_ext (HX9.out) HB.out.2.1
            have r3 := rowIs_ext (HX9.out) HB.out.2.2.1
            have k0 : w9.cell? ⟨b2, 0, none⟩ = some (.slice none 0 0) := r2.cell (i := 0) (by omega)
            have k1 : w9.cell? ⟨b2, 1, none⟩ = some (.int .i64 0) := r2.cell (i := 1) (by omega)
            have k2 : w9.cell? ⟨b2, 2, none⟩ = some (.slice none 0 0) := r2.cell (i := 2) (by omega)
            have k3 : w9.cell? ⟨b2, 3, none⟩ = some (.slice none 0 0) := r2.cell (i := 3) (by omega)
            have k4 : w9.cell? ⟨b2, 4, none⟩ = some (.slice none 0 0) := r2.cell (i := 4) (by omega)
            have m0 : w9.cell? ⟨b2 + 1, 0, none⟩ = some (.int .i64 0) := r3.cell (i := 0) (by omega)
            have m1 : w9.cell? ⟨b2 + 1, 1, none⟩ = some (.int .i64 0) := r3.cell (i := 1) (by omega)
            have m2 : w9.cell? ⟨b2 + 1, 2, none⟩ = some (.int .i64 0) := r3.cell (i := 2) (by omega)
            have m3 : w9.cell? ⟨b2 + 1, 3, none⟩ = some (.int .i64 0) := r3.cell (i := 3) (by omega)
            have m4 : w9.cell? ⟨b2 + 1, 4, none⟩ = some (.slice none 0 0) := r3.cell (i := 4) (by omega)
            have f0 := r2.frozen 0
            have f1 := r2.frozen 1
            have f2 := r2.frozen 2
            have f3 := r2.frozen 3
            have f4 := r2.frozen 4
            have e0 := r3.frozen 0
            have e1 := r3.frozen 1
            have e2 := r3.frozen 2
            have e3 := r3.frozen 3
            have e4 := r3.frozen 4
            have HR := Lib.hid (And.intro r2 r3)
            clear r2 r3
            go_wp2
            have hle : w.heap.size ≤ b2 := Nat.le_of_eq HB.out.2.2.2.symm
            have hle1 : w.heap.size ≤ b2 + 1 := by omega
            have hXf : Ext w ((((((((((w9.setCell ⟨b2, 0, none⟩ (.slice ca 256 cc)).setCell ⟨b2, 1, none⟩ (.int .i64 (K : Nat))).setCell ⟨b2, 2, none⟩ (.slice sa sn sc)).setCell ⟨b2, 3, none⟩ (.slice xa xn xc)).setCell ⟨b2, 4, none⟩ (.slice la ln lc)).setCell ⟨b2 + 1, 0, none⟩ (.int .i64 0)).setCell ⟨b2 + 1, 1, none⟩ (.int .i64 0)).setCell ⟨b2 + 1, 2, none⟩ (.int .i64 0)).setCell ⟨b2 + 1, 3, none⟩ (.int .i64 0)).setCell ⟨b2 + 1, 4, none⟩ (.slice none 0 0)) := (((((((((((HB.out.1.trans (HX9.out)).setCell hle _).setCell hle _).setCell hle _).setCell hle _).setCell hle _).setCell hle1 _).setCell hle1 _).setCell hle1 _).setCell hle1 _).setCell hle1 _)
            have hr9 := set10 HR.out.1 HR.out.2 (by omega) (.slice ca 256 cc) (.int .i64 (K : Nat)) (.slice sa sn sc) (.slice xa xn xc) (.slice la ln lc) (.int .i64 0) (.int .i64 0) (.int .i64 0) (.int .i64 0) (.slice none 0 0)
            generalize World.setCell (World.setCell (World.setCell (World.setCell (World.setCell (World.setCell (World.setCell (World.setCell (World.setCell (World.setCell w9 _ _) _ _) _ _) _ _) _ _) _ _) _ _) _ _) _ _) _ _ = Wf at hr9 hXf ⊢
            have z0 : Wf.cell? ⟨b2, 0, none⟩ = some (.slice ca 256 cc) := hr9.1.cell (i := 0) (by omega)
            have z1 : Wf.cell? ⟨b2, 1, none⟩ = some (.int .i64 (K : Nat)) := hr9.1.cell (i := 1) (by omega)
            have z2 : Wf.cell? ⟨b2, 2, none⟩ = some (.slice sa sn sc) := hr9.1.cell (i := 2) (by omega)
            have z3 : Wf.cell? ⟨b2, 3, none⟩ = some (.slice xa xn xc) := hr9.1.cell (i := 3) (by omega)
            have z4 : Wf.cell? ⟨b2, 4, none⟩ = some (.slice la ln lc) := hr9.1.cell (i := 4) (by omega)
            have y0 : Wf.cell? ⟨b2 + 1, 0, none⟩ = some (.int .i64 0) := hr9.2.1.cell (i := 0) (by omega)
            have y1 : Wf.cell? ⟨b2 + 1, 1, none⟩ = some (.int .i64 0) := hr9.2.1.cell (i := 1) (by omega)
            have y2 : Wf.cell? ⟨b2 + 1, 2, none⟩ = some (.int .i64 0) := hr9.2.1.cell (i := 2) (by omega)
            have y3 : Wf.cell? ⟨b2 + 1, 3, none⟩ = some (.int .i64 0) := hr9.2.1.cell (i := 3) (by omega)
            have y4 : Wf.cell? ⟨b2 + 1, 4, none⟩ = some (.slice none 0 0) := hr9.2.1.cell (i := 4) (by omega)
            (try simp only [Exit.inBlock, Exit.then])
            refine bodyPost_ret (v := .tuple #[.agg #[.slice ca 256 cc, .int .i64 (K : Nat), .slice sa sn sc, .slice xa xn xc, .slice la ln lc], .agg #[.int .i64 0, .int .i64 0, .int .i64 0, .int .i64 0, .slice none 0 0]]) ?_ rfl ?_
            · simp [results, Tryd.results27, go_sem, z0, z1, z2, z3, z4, y0, y1, y2, y3, y4]
            · exact ⟨_, 0, rfl, hXf, .inl ⟨HM.out, rfl, _, _, _, _, by rw [HKK.out, HE.out.2.2.1]; rfl, by have h9 := (HF9.out.1 Wf (fun g hg => hr9.2.2 g (by have := HF9.out.2.2; omega) (by have := HF9.out.2.2; omega))).1; rw [HE.out.2.2.1] at h9; exact h9, by have h9 := ((HE.out.2.1.starts.ext HF9.out.2.1).far (w' := Wf) (fun g hg => hr9.2.2 g (by omega) (by omega))).ints (by rw [nI_len]; have := HE.out.2.2.2.1; omega); rw [HE.out.2.2.1] at h9; exact h9, by have h9 := (HF9.out.1 Wf (fun g hg => hr9.2.2 g (by have := HF9.out.2.2; omega) (by have := HF9.out.2.2; omega))).2; rw [HE.out.2.2.1] at h9; exact h9, by have h9 := ((HE.out.2.1.labels.ext HF9.out.2.1).far (w' := Wf) (fun g hg => hr9.2.2 g (by omega) (by omega))).ints (by have := HE.out.2.2.2.2; omega); rw [HE.out.2.2.1] at h9; exact h9⟩⟩
      · have hno : ¬ MayL l := fun hm => by have := hb.2 hm; cases this
        have HN := Lib.hid hno
        clear hb hno
        go_wp2_with fail
        refine (isFault_c 15 _).mono ?_
        rintro e w9 ⟨rfl, hx9⟩
        have HX9 := Lib.hid ((HC.out.2.1).trans hx9)
        clear hx9
        unfold faultV
        have r2 := rowIs_ext (HX9.out) HB.out.2.1
        have r3 := rowIs_ext (HX9.out) HB.out.2.2.1
        have k0 : w9.cell? ⟨b2, 0, none⟩ = some (.slice none 0 0) := r2.cell (i := 0) (by omega)
        have k1 : w9.cell? ⟨b2, 1, none⟩ = some (.int .i64 0) := r2.cell (i := 1) (by omega)
        have k2 : w9.cell? ⟨b2, 2, none⟩ = some (.slice none 0 0) := r2.cell (i := 2) (by omega)
        have k3 : w9.cell? ⟨b2, 3, none⟩ = some (.slice none 0 0) := r2.cell (i := 3) (by omega)
        have k4 : w9.cell? ⟨b2, 4, none⟩ = some (.slice none 0 0) := r2.cell (i := 4) (by omega)
        have m0 : w9.cell? ⟨b2 + 1, 0, none⟩ = some (.int .i64 0) := r3.cell (i := 0) (by omega)
        have m1 : w9.cell? ⟨b2 + 1, 1, none⟩ = some (.int .i64 0) := r3.cell (i := 1) (by omega)
        have m2 : w9.cell? ⟨b2 + 1, 2, none⟩ = some (.int .i64 0) := r3.cell (i := 2) (by omega)
        have m3 : w9.cell? ⟨b2 + 1, 3, none⟩ = some (.int .i64 0) := r3.cell (i := 3) (by omega)
        have m4 : w9.cell? ⟨b2 + 1, 4, none⟩ = some (.slice none 0 0) := r3.cell (i := 4) (by omega)
        have f0 := r2.frozen 0
        have f1 := r2.frozen 1
        have f2 := r2.frozen 2
        have f3 := r2.frozen 3
        have f4 := r2.frozen 4
        have e0 := r3.frozen 0
        have e1 := r3.frozen 1
        have e2 := r3.frozen 2
        have e3 := r3.frozen 3
        have e4 := r3.frozen 4
        have HR := Lib.hid (And.intro r2 r3)
        clear r2 r3
        go_wp2
        have hle : w.heap.size ≤ b2 := Nat.le_of_eq HB.out.2.2.2.symm
        have hle1 : w.heap.size ≤ b2 + 1 := by omega
        have hXf : Ext w ((((((((((w9.setCell ⟨b2, 0, none⟩ (.slice none 0 0)).setCell ⟨b2, 1, none⟩ (.int .i64 0)).setCell ⟨b2, 2, none⟩ (.slice none 0 0)).setCell ⟨b2, 3, none⟩ (.slice none 0 0)).setCell ⟨b2, 4, none⟩ (.slice none 0 0)).setCell ⟨b2 + 1, 0, none⟩ (.int .i64 15)).setCell ⟨b2 + 1, 1, none⟩ (.int .i64 0)).setCell ⟨b2 + 1, 2, none⟩ (.int .i64 0)).setCell ⟨b2 + 1, 3, none⟩ (.int .i64 0)).setCell ⟨b2 + 1, 4, none⟩ (.slice none 0 0)) := (((((((((((HB.out.1.trans (HX9.out)).setCell hle _).setCell hle _).setCell hle _).setCell hle _).setCell hle _).setCell hle1 _).setCell hle1 _).setCell hle1 _).setCell hle1 _).setCell hle1 _)
        have hr9 := set10 HR.out.1 HR.out.2 (by omega) (.slice none 0 0) (.int .i64 0) (.slice none 0 0) (.slice none 0 0) (.slice none 0 0) (.int .i64 15) (.int .i64 0) (.int .i64 0) (.int .i64 0) (.slice none 0 0)
        generalize World.setCell (World.setCell (World.setCell (World.setCell (World.setCell (World.setCell (World.setCell (World.setCell (World.setCell (World.setCell w9 _ _) _ _) _ _) _ _) _ _) _ _) _ _) _ _) _ _) _ _ = Wf at hr9 hXf ⊢
        have z0 : Wf.cell? ⟨b2, 0, none⟩ = some (.slice none 0 0) := hr9.1.cell (i := 0) (by omega)
        have z1 : Wf.cell? ⟨b2, 1, none⟩ = some (.int .i64 0) := hr9.1.cell (i := 1) (by omega)
        have z2 : Wf.cell? ⟨b2, 2, none⟩ = some (.slice none 0 0) := hr9.1.cell (i := 2) (by omega)
        have z3 : Wf.cell? ⟨b2, 3, none⟩ = some (.slice none 0 0) := hr9.1.cell (i := 3) (by omega)
        have z4 : Wf.cell? ⟨b2, 4, none⟩ = some (.slice none 0 0) := hr9.1.cell (i := 4) (by omega)
        have y0 : Wf.cell? ⟨b2 + 1, 0, none⟩ = some (.int .i64 15) := hr9.2.1.cell (i := 0) (by omega)
        have y1 : Wf.cell? ⟨b2 + 1, 1, none⟩ = some (.int .i64 0) := hr9.2.1.cell (i := 1) (by omega)
        have y2 : Wf.cell? ⟨b2 + 1, 2, none⟩ = some (.int .i64 0) := hr9.2.1.cell (i := 2) (by omega)
        have y3 : Wf.cell? ⟨b2 + 1, 3, none⟩ = some (.int .i64 0) := hr9.2.1.cell (i := 3) (by omega)
        have y4 : Wf.cell? ⟨b2 + 1, 4, none⟩ = some (.slice none 0 0) := hr9.2.1.cell (i := 4) (by omega)
        (try simp only [Exit.inBlock, Exit.then])
        refine bodyPost_ret (v := .tuple #[.agg #[.slice none 0 0, .int .i64 0, .slice none 0 0, .slice none 0 0, .slice none 0 0], .agg #[.int .i64 15, .int .i64 0, .int .i64 0, .int .i64 0, .slice none 0 0]]) ?_ rfl ?_
        · simp [results, Tryd.results27, go_sem, z0, z1, z2, z3, z4, y0, y1, y2, y3, y4]
        · exact ⟨_, 15, rfl, hXf, .inr ⟨HN.out, rfl, rfl⟩⟩
end Go.Proofs.YtloooajippcdlaaDoor
