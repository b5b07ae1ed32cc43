/- bolterlaw16.table: a table of rows, each class a byte. -/
import Derived.Test.YtpeipjfmibjoiaaDoorBldS
import Derived.Test.YtpeipjfmibjoiaaDoorLive
import Derived.BigRegion
import Derived.Laws.ResultCell
namespace Go.Proofs.YtpeipjfmibjoiaaDoor
open Go.RowKit

def clsK (K : Nat) : List Int := (List.range 256).map fun i => if i < K then (i : Int) else 0
theorem clsK_get {K i : Nat} (hi : i < 256) : (clsK K).getD i 0 = if i < K then (i : Int) else 0 := by
  unfold clsK
  rw [List.getD_eq_getElem?_getD, List.getElem?_map, List.getElem?_range hi]; rfl
theorem clsK_len (K : Nat) : (clsK K).length = 256 := by simp [clsK]
theorem clsK_top {K : Nat} (h1 : 1 ≤ K) (h2 : K ≤ 256) : ∀ i, i ≤ 256 → topc (clsK K) i = min i K := by
  intro i
  induction i with
  | zero => intro _; simp [topc]
  | succ i ih =>
    intro hi
    have e := ih (by omega)
    by_cases h : i < K
    · rw [topc_yes (by rw [clsK_get (by omega), if_pos h, e]; omega), e]; omega
    · rw [topc_no (by rw [clsK_get (by omega), if_neg h, e]; omega), e]; omega
def tabK (next : List (List Int)) (K : Nat) : Tbl := ⟨clsK K, (K : Int), [0], next, List.replicate next.length 0⟩
theorem tabK_may {next : List (List Int)} {K : Nat} (h1 : 1 ≤ K) (h2 : K ≤ 256) (hn : 1 ≤ next.length) (hm : next.length ≤ 600) (hr : ∀ i, i < next.length → (next.getD i []).length = K)
    (hd : ∀ i k, i < next.length → k < K → -1 ≤ (next.getD i []).getD k 0 ∧ (next.getD i []).getD k 0 < next.length) : TMay (tabK next K) where
  cls := ⟨clsK_len K, fun i hi => by rw [show (tabK next K).classes = clsK K from rfl, clsK_get hi, clsK_top h1 h2 i (by omega)]; split <;> omega, by rw [show (tabK next K).classes = clsK K from rfl, clsK_top h1 h2 256 (Nat.le_refl _)]; show ((min 256 K : Nat) : Int) = (K : Int); omega⟩
  some := Nat.le_refl _
  many := by show 1 ≤ 16; omega
  pos := hn
  most := hm
  labels := by simp [tabK]
  start := fun i hi => by
    obtain rfl : i = 0 := by have : i < 1 := hi; omega
    exact ⟨Int.le_refl _, by show (0 : Int) < (next.length : Int); omega⟩
  row := fun i hi => by show ((next.getD i []).length : Int) = (K : Int); rw [hr i hi]
  label := fun i hi => by
    have e : (tabK next K).label.getD i 0 = 0 := by
      show (List.replicate next.length (0 : Int)).getD i 0 = 0
      rw [List.getD_eq_getElem?_getD, List.getElem?_replicate]; split <;> rfl
    rw [e]; omega
  dest := fun i k hi hk => hd i k hi (by have := hr i hi; have hk' : k < (next.getD i []).length := hk; omega)

section
variable {w : World} {c : Array Value} {t : TypeId} {n : Nat} {f : Nat → Value}
theorem new4a (o1 o2 o3 : Obj) (hn : c.size = n) (hc : ∀ i, i < n → c[i]? = some (f i)) : (((((w.alloc (.cells c t)).alloc o1).alloc o2).alloc o3).drew).rowIs w.heap.size t n f := by
  subst hn; exact (((World.rowIs_alloc w c t f hc).alloc o1).alloc o2).alloc o3
theorem new4b (o0 o2 o3 : Obj) (hn : c.size = n) (hc : ∀ i, i < n → c[i]? = some (f i)) : (((((w.alloc o0).alloc (.cells c t)).alloc o2).alloc o3).drew).rowIs (w.heap.size + 1) t n f := by
  subst hn
  have h := ((World.rowIs_alloc (w.alloc o0) c t f hc).alloc o2).alloc o3
  rw [World.size_alloc] at h; exact h
theorem new4c (o0 o1 o3 : Obj) (hn : c.size = n) (hc : ∀ i, i < n → c[i]? = some (f i)) : (((((w.alloc o0).alloc o1).alloc (.cells c t)).alloc o3).drew).rowIs (w.heap.size + 1 + 1) t n f := by
  subst hn
  have h := (World.rowIs_alloc ((w.alloc o0).alloc o1) c t f hc).alloc o3
  rw [World.size_alloc, World.size_alloc] at h; exact h
theorem new4d (o0 o1 o2 : Obj) (hn : c.size = n) (hc : ∀ i, i < n → c[i]? = some (f i)) : (((((w.alloc o0).alloc o1).alloc o2).alloc (.cells c t)).drew).rowIs (w.heap.size + 1 + 1 + 1) t n f := by
  subst hn
  have h := World.rowIs_alloc (((w.alloc o0).alloc o1).alloc o2) c t f hc
  rw [World.size_alloc, World.size_alloc, World.size_alloc] at h; exact h
end

/-- the table, while its classes are filled in -/
structure TbS (W wr : World) (rb gc gs gl n K : Nat) (nv : Value) (i : Nat) : Prop where
  ext : Ext W wr
  box : wr.rowIs rb 37 5 (rF (.slice (some ⟨gc, 0, none⟩) 256 256) (.int .i64 (K : Int)) (.slice (some ⟨gs, 0, none⟩) 1 1) nv (.slice (some ⟨gl, 0, none⟩) n n))
  cls : wr.rowIs gc 3 256 (fun j => .int .i64 (if j < i ∧ j < K then (j : Int) else 0))
  sts : wr.rowIs gs 3 1 (fun _ => .int .i64 0)
  lab : wr.rowIs gl 3 n (fun _ => .int .i64 0)
  n1 : gc ≠ rb
  n2 : gc ≠ gs
  n3 : gc ≠ gl
  l1 : W.heap.size ≤ gc
  l2 : W.heap.size ≤ rb
  l3 : W.heap.size ≤ gs
  l4 : W.heap.size ≤ gl
theorem TbS.step {W wr : World} {rb gc gs gl n K i : Nat} {nv : Value} (h : TbS W wr rb gc gs gl n K nv i) (hi : i < K) : TbS W (wr.setCell ⟨gc, i, none⟩ (.int .i64 (i : Int))) rb gc gs gl n K nv (i + 1) :=
  ⟨h.ext.setCell h.l1 _, h.box.of_block (Below.heap_setCell _ _ _ _ (Ne.symm h.n1)), (h.cls.set i _).congr fun j _ => by
      show (if j = i then Value.int .i64 (i : Int) else _) = _
      by_cases e : j = i
      · subst e; rw [if_pos rfl, if_pos ⟨by omega, hi⟩]
      · rw [if_neg e]
        by_cases e2 : j < i ∧ j < K
        · rw [if_pos e2, if_pos ⟨by omega, e2.2⟩]
        · rw [if_neg e2, if_neg (by omega)],
    h.sts.of_block (Below.heap_setCell _ _ _ _ (Ne.symm h.n2)), h.lab.of_block (Below.heap_setCell _ _ _ _ (Ne.symm h.n3)), h.n1, h.n2, h.n3, h.l1, h.l2, h.l3, h.l4⟩
theorem TbS.more {W wr w' : World} {rb gc gs gl n K i : Nat} {nv : Value} (h : TbS W wr rb gc gs gl n K nv i) (hx : Ext wr w') : TbS W w' rb gc gs gl n K nv i :=
  ⟨h.ext.trans hx, rowIs_ext hx h.box, rowIs_ext hx h.cls, rowIs_ext hx h.sts, rowIs_ext hx h.lab, h.n1, h.n2, h.n3, h.l1, h.l2, h.l3, h.l4⟩

def TabR (next : List (List Int)) (K : Nat) (w : World) (e : Ending) (w' : World) : Prop := ∃ v, e = .returned v ∧ TblV w' v (tabK next K) ∧ Ext w w'

theorem size5 {a b c d e : Value} : #[a, b, c, d, e].size = 5 := rfl
theorem size1 {a : Value} : #[a].size = 1 := rfl
theorem rF_get {a b c d e : Value} : ∀ i : Nat, i < 5 → #[a, b, c, d, e][i]? = some (rF a b c d e i) := fun i hi => by rcases rF_at hi with rfl | rfl | rfl | rfl | rfl <;> rfl
theorem one_get : ∀ i : Nat, i < 1 → #[Value.int .i64 0][i]? = some ((fun (_ : Nat) => Value.int .i64 0) i) := by
  intro i hi
  match i, hi with
  | 0, _ => rfl

set_option maxRecDepth 100000 in
set_option maxHeartbeats 8000000 in
theorem table_c {w : World} {nv : Value} {next : List (List Int)} {K : Nat} (h : RowsV w nv next) (hn : 1 ≤ next.length) (hm : next.length ≤ 600) (h1 : 1 ≤ K) (h2 : K ≤ 256) (hr : (next.getD 0 []).length = K) :
    Calls Tryd.prog 27 #[nv] w (TabR next K w) := by
  obtain ⟨n, hnn⟩ : ∃ n, n = next.length := ⟨_, rfl⟩
  obtain ⟨_, an, cn, rfl, _, hc0⟩ := h.open
  obtain ⟨bn, on, rfl, hc⟩ := hc0 (by omega)
  obtain ⟨r, hr0, hrow⟩ := hc 0 (by omega)
  obtain ⟨_, ar, cr, rfl, _, _⟩ := hrow.open
  clear hc0
  rw [hr, Nat.add_zero] at hr0
  rw [← hnn] at hn hm ⊢
  obtain ⟨W, hW⟩ : ∃ W, W = w.alloc (.cells #[.slice none 0 0, .int .i64 0, .slice none 0 0, .slice none 0 0, .slice none 0 0] 37) := ⟨_, rfl⟩
  have hxW : Ext w W := by rw [hW]; exact Ext.box _ _
  have hr9 : W.rowIs w.heap.size 37 5 (rF (.slice none 0 0) (.int .i64 0) (.slice none 0 0) (.slice none 0 0) (.slice none 0 0)) := by
    rw [hW]
    exact World.rowIs_alloc w #[.slice none 0 0, .int .i64 0, .slice none 0 0, .slice none 0 0, .slice none 0 0] 37 (rF (.slice none 0 0) (.int .i64 0) (.slice none 0 0) (.slice none 0 0) (.slice none 0 0)) (fun i hi => by rcases rF_at hi with rfl | rfl | rfl | rfl | rfl <;> rfl)
  have hsz : w.heap.size + 1 = W.heap.size := by rw [hW]; simp
  have r0 := hxW.cell hr0
  have H := Lib.hid (And.intro hxW (And.intro hr9 (And.intro hsz (And.intro h (And.intro hnn hW)))))
  clear hxW hr9 hsz h hnn hc hrow hr hr0 hW
  go_enter Tryd.func27, Tryd.ntmps27
  go_upto_region 1 with fail
  rw [← H.out.2.2.2.2.2]
  go_cut [3] (fun v3 wx => ∃ rb gc gs gl, v3 = .pointer (some ⟨rb, 0, none⟩) ∧ TbS W wx rb gc gs gl n K (.slice (some ⟨bn, on, none⟩) n cn) 0)
  case first =>
    have hm1 : ∀ w : World, (Instr.makeSlice 23 (.int .i64 256) (.int .i64 256)).run Tryd.prog w = .ok (.slice (some ⟨w.heap.size, 0, none⟩) 256 256) (w.alloc (.cells (madeCells #[.int .i64 0] 256) 3)) := fun w => by
      have h := run_make_any (P := Tryd.prog) 23 3 (.int .i64 0) 1 8 Tryd.underlying23 int_info .i64 .i64 256 (by omega) (by omega) w
      rwa [Nat.mul_one] at h
    have hm2 : ∀ w : World, (Instr.makeSlice 23 (.int .i64 (n : Int)) (.int .i64 (n : Int))).run Tryd.prog w = .ok (.slice (some ⟨w.heap.size, 0, none⟩) n n) (w.alloc (.cells (madeCells #[.int .i64 0] n) 3)) := fun w => by
      have h := run_make_any (P := Tryd.prog) 23 3 (.int .i64 0) 1 8 Tryd.underlying23 int_info .i64 .i64 n (by omega) (by omega) w
      rwa [Nat.mul_one] at h
    have hlt := lt_of_cell r0
    have hn0 : (0 : Int) < n := by omega
    have hn0' : 0 < n := by omega
    have x1 : ∀ a, (W.alloc a).cell? ⟨bn, on, none⟩ = some (.slice ar K cr) := fun a => (Ext.box W a).cell r0
    have x2 : ∀ a b, ((W.alloc a).alloc b).cell? ⟨bn, on, none⟩ = some (.slice ar K cr) := fun a b => ((Ext.box W a).alloc b).cell r0
    have x3 : ∀ a b c, (((W.alloc a).alloc b).alloc c).cell? ⟨bn, on, none⟩ = some (.slice ar K cr) := fun a b c => (((Ext.box W a).alloc b).alloc c).cell r0
    have x4 : ∀ a b c d, ((((W.alloc a).alloc b).alloc c).alloc d).cell? ⟨bn, on, none⟩ = some (.slice ar K cr) := fun a b c d => ((((Ext.box W a).alloc b).alloc c).alloc d).cell r0
    go_region
    all_goals
      go_wp2_with fail
      go_meet
      have hc1 : ∀ i, i < 256 → (madeCells #[Value.int .i64 0] 256)[i]? = some ((fun j => Value.int .i64 (if j < 0 ∧ j < K then (j : Int) else 0)) i) := fun i hi => by rw [made_one _ hi]; show _ = some (Value.int .i64 (if i < 0 ∧ i < K then (i : Int) else 0)); rw [if_neg (by omega)]
      have hc2 : ∀ i, i < n → (madeCells #[Value.int .i64 0] n)[i]? = some ((fun _ => Value.int .i64 0) i) := fun i hi => made_one _ hi
      have hc3 := one_get
      have hz1 : (madeCells #[Value.int .i64 0] 256).size = 256 := size_madeCells _ _
      have hz2 : (madeCells #[Value.int .i64 0] n).size = n := size_madeCells _ _
      exact ⟨_, _, _, _, rfl, ⟨((((Ext.box _ _).alloc _).alloc _).alloc _).drew, (by first | with_reducible exact new4a _ _ _ size5 rF_get | with_reducible exact new4b _ _ _ size5 rF_get | with_reducible exact new4c _ _ _ size5 rF_get | with_reducible exact new4d _ _ _ size5 rF_get),
        (by first | with_reducible exact new4a _ _ _ hz1 hc1 | with_reducible exact new4b _ _ _ hz1 hc1 | with_reducible exact new4c _ _ _ hz1 hc1 | with_reducible exact new4d _ _ _ hz1 hc1), (by first | with_reducible exact new4a _ _ _ size1 hc3 | with_reducible exact new4b _ _ _ size1 hc3 | with_reducible exact new4c _ _ _ size1 hc3 | with_reducible exact new4d _ _ _ size1 hc3), (by first | with_reducible exact new4a _ _ _ hz2 hc2 | with_reducible exact new4b _ _ _ hz2 hc2 | with_reducible exact new4c _ _ _ hz2 hc2 | with_reducible exact new4d _ _ _ hz2 hc2), by omega, by omega, by omega, by omega, by omega, by omega, by omega⟩⟩
  case rest =>
    clear r0
    obtain ⟨rb, gc, gs, gl, rfl, hS⟩ := hcut
    have HS := Lib.hid hS
    clear hS
    go_wp2_with fail
    go_loopw [4] (fun iv wr => ∃ i : Nat, i ≤ K ∧ iv = .int .i64 i ∧ TbS W wr rb gc gs gl n K (.slice (some ⟨bn, on, none⟩) n cn) i) (fun iv _ => K - (intOf iv).toNat)
    case atStart => exact ⟨0, Nat.zero_le _, rfl, HS.out⟩
    case round =>
      clear HS
      obtain ⟨i, hi, rfl, hS⟩ := hrel
      have b0 : wr.cell? ⟨rb, 0, none⟩ = some (.slice (some ⟨gc, 0, none⟩) 256 256) := hS.box.cell (i := 0) (by omega)
      have b1 : wr.cell? ⟨rb, 1, none⟩ = some (.int .i64 (K : Int)) := hS.box.cell (i := 1) (by omega)
      by_cases hlt : i < K
      · have hj1 : (i : Int) < K := by omega
        have hj2 : (i : Int) < 256 := by omega
        have c0 := hS.cls.cell (i := i) (by omega)
        have f0 := hS.cls.frozen i
        have HS := Lib.hid (hS.step hlt)
        clear hS
        generalize (if i < i ∧ i < K then (i : Int) else 0) = y at c0
        go_wp2
        go_roundw
        case rel => exact ⟨i + 1, by omega, by go_num, HS.out.more (by first | exact Ext.refl _ | exact Ext.drew (Ext.refl _))⟩
        case measure => simp [intOf]; omega
      · obtain rfl : K = i := by omega
        have b2 : wr.cell? ⟨rb, 2, none⟩ = some (.slice (some ⟨gs, 0, none⟩) 1 1) := hS.box.cell (i := 2) (by omega)
        have b3 : wr.cell? ⟨rb, 3, none⟩ = some (.slice (some ⟨bn, on, none⟩) n cn) := hS.box.cell (i := 3) (by omega)
        have b4 : wr.cell? ⟨rb, 4, none⟩ = some (.slice (some ⟨gl, 0, none⟩) n n) := hS.box.cell (i := 4) (by omega)
        have hr9 := rowIs_ext hS.ext H.out.2.1
        have d0 : wr.cell? ⟨w.heap.size, 0, none⟩ = some (.slice none 0 0) := hr9.cell (i := 0) (by omega)
        have d1 : wr.cell? ⟨w.heap.size, 1, none⟩ = some (.int .i64 0) := hr9.cell (i := 1) (by omega)
        have d2 : wr.cell? ⟨w.heap.size, 2, none⟩ = some (.slice none 0 0) := hr9.cell (i := 2) (by omega)
        have d3 : wr.cell? ⟨w.heap.size, 3, none⟩ = some (.slice none 0 0) := hr9.cell (i := 3) (by omega)
        have d4 : wr.cell? ⟨w.heap.size, 4, none⟩ = some (.slice none 0 0) := hr9.cell (i := 4) (by omega)
        have g0 := hr9.frozen 0
        have g1 := hr9.frozen 1
        have g2 := hr9.frozen 2
        have g3 := hr9.frozen 3
        have g4 := hr9.frozen 4
        have HR := Lib.hid (And.intro hr9 hS)
        have hj : ¬ (K : Int) < K := by omega
        clear hr9 hS hlt hi
        have hend : ∀ (Wf : World), Wf = (((((wr.setCell ⟨w.heap.size, 0, none⟩ (.slice (some ⟨gc, 0, none⟩) 256 256)).setCell ⟨w.heap.size, 1, none⟩ (.int .i64 (K : Int))).setCell ⟨w.heap.size, 2, none⟩ (.slice (some ⟨gs, 0, none⟩) 1 1)).setCell ⟨w.heap.size, 3, none⟩ (.slice (some ⟨bn, on, none⟩) n cn)).setCell ⟨w.heap.size, 4, none⟩ (.slice (some ⟨gl, 0, none⟩) n n)) → Wf.rowIs w.heap.size 37 5 (rF (.slice (some ⟨gc, 0, none⟩) 256 256) (.int .i64 (K : Int)) (.slice (some ⟨gs, 0, none⟩) 1 1) (.slice (some ⟨bn, on, none⟩) n cn) (.slice (some ⟨gl, 0, none⟩) n n)) ∧
            TblV Wf (.agg #[.slice (some ⟨gc, 0, none⟩) 256 256, .int .i64 (K : Int), .slice (some ⟨gs, 0, none⟩) 1 1, .slice (some ⟨bn, on, none⟩) n cn, .slice (some ⟨gl, 0, none⟩) n n]) (tabK next K) ∧ Ext w Wf := fun Wf e => by
          have far : ∀ g, W.heap.size ≤ g → Wf.heap[g]? = wr.heap[g]? := fun g hg => by
            have hne : g ≠ w.heap.size := by have := H.out.2.2.1; omega
            rw [e, Below.heap_setCell _ _ _ _ hne, Below.heap_setCell _ _ _ _ hne, Below.heap_setCell _ _ _ _ hne, Below.heap_setCell _ _ _ _ hne, Below.heap_setCell _ _ _ _ hne]
          have hxf : Ext w Wf := by
            rw [e]
            exact (((((H.out.1.trans HR.out.2.ext).setCell (Nat.le_refl _) _).setCell (Nat.le_refl _) _).setCell (Nat.le_refl _) _).setCell (Nat.le_refl _) _).setCell (Nat.le_refl _) _
          have hS := HR.out.2
          refine ⟨by rw [e]; exact (((((HR.out.1.set 0 _).set 1 _).set 2 _).set 3 _).set 4 _).congr fun i hi => by rcases rF_at hi with rfl | rfl | rfl | rfl | rfl <;> rfl, ⟨_, _, _, _, rfl, ?_, ?_, ?_, ?_⟩, hxf⟩
          · refine rowIs_ints ((hS.cls.of_block (far _ hS.l1)).congr fun j hj => ?_) (clsK_len K) (by omega) 256 (Nat.le_refl _)
            show _ = Value.int .i64 ((clsK K).getD j 0)
            rw [clsK_get hj]
            congr 1
            by_cases e : j < K
            · rw [if_pos ⟨e, e⟩, if_pos e]
            · rw [if_neg (by omega), if_neg e]
          · exact rowIs_ints ((hS.sts.of_block (far _ hS.l3)).congr fun j hj => by obtain rfl : j = 0 := by omega
                                                                                   rfl) rfl (by omega) 1 (Nat.le_refl _)
          · have hq := H.out.2.2.2.1
            rw [← H.out.2.2.2.2.1] at hq
            exact RowsV.ext hxf hq
          · refine rowIs_ints ((hS.lab.of_block (far _ hS.l4)).congr fun j hj => ?_) (by show (List.replicate next.length (0 : Int)).length = n; rw [List.length_replicate]; exact H.out.2.2.2.2.1.symm) (by omega) n (Nat.le_refl _)
            show _ = Value.int .i64 ((List.replicate next.length (0 : Int)).getD j 0)
            rw [List.getD_eq_getElem?_getD, List.getElem?_replicate]; split <;> rfl
        have HE := Lib.hid hend
        clear hend
        by_cases hK256 : K < 256
        · have hj2 : (K : Int) < 256 := by omega
          go_wp2
          obtain ⟨Wf, hWf⟩ : ∃ Wf, Wf = (((((wr.setCell ⟨w.heap.size, 0, none⟩ (.slice (some ⟨gc, 0, none⟩) 256 256)).setCell ⟨w.heap.size, 1, none⟩ (.int .i64 (K : Int))).setCell ⟨w.heap.size, 2, none⟩ (.slice (some ⟨gs, 0, none⟩) 1 1)).setCell ⟨w.heap.size, 3, none⟩ (.slice (some ⟨bn, on, none⟩) n cn)).setCell ⟨w.heap.size, 4, none⟩ (.slice (some ⟨gl, 0, none⟩) n n)) := ⟨_, rfl⟩
          rw [← hWf]
          obtain ⟨hrf, hT, hxf⟩ := HE.out Wf hWf
          have z0 : Wf.cell? ⟨w.heap.size, 0, none⟩ = some (.slice (some ⟨gc, 0, none⟩) 256 256) := hrf.cell (i := 0) (by omega)
          have z1 : Wf.cell? ⟨w.heap.size, 1, none⟩ = some (.int .i64 (K : Int)) := hrf.cell (i := 1) (by omega)
          have z2 : Wf.cell? ⟨w.heap.size, 2, none⟩ = some (.slice (some ⟨gs, 0, none⟩) 1 1) := hrf.cell (i := 2) (by omega)
          have z3 : Wf.cell? ⟨w.heap.size, 3, none⟩ = some (.slice (some ⟨bn, on, none⟩) n cn) := hrf.cell (i := 3) (by omega)
          have z4 : Wf.cell? ⟨w.heap.size, 4, none⟩ = some (.slice (some ⟨gl, 0, none⟩) n n) := hrf.cell (i := 4) (by omega)
          (try simp only [Exit.inBlock, Exit.then])
          exact bodyPost_ret (v := .agg #[.slice (some ⟨gc, 0, none⟩) 256 256, .int .i64 (K : Int), .slice (some ⟨gs, 0, none⟩) 1 1, .slice (some ⟨bn, on, none⟩) n cn, .slice (some ⟨gl, 0, none⟩) n n]) (by simp [results, Tryd.results27, go_sem, z0, z1, z2, z3, z4]) rfl ⟨_, rfl, hT, hxf⟩
        · have hj2 : ¬ (K : Int) < 256 := by omega
          go_wp2
          obtain ⟨Wf, hWf⟩ : ∃ Wf, Wf = (((((wr.setCell ⟨w.heap.size, 0, none⟩ (.slice (some ⟨gc, 0, none⟩) 256 256)).setCell ⟨w.heap.size, 1, none⟩ (.int .i64 (K : Int))).setCell ⟨w.heap.size, 2, none⟩ (.slice (some ⟨gs, 0, none⟩) 1 1)).setCell ⟨w.heap.size, 3, none⟩ (.slice (some ⟨bn, on, none⟩) n cn)).setCell ⟨w.heap.size, 4, none⟩ (.slice (some ⟨gl, 0, none⟩) n n)) := ⟨_, rfl⟩
          rw [← hWf]
          obtain ⟨hrf, hT, hxf⟩ := HE.out Wf hWf
          have z0 : Wf.cell? ⟨w.heap.size, 0, none⟩ = some (.slice (some ⟨gc, 0, none⟩) 256 256) := hrf.cell (i := 0) (by omega)
          have z1 : Wf.cell? ⟨w.heap.size, 1, none⟩ = some (.int .i64 (K : Int)) := hrf.cell (i := 1) (by omega)
          have z2 : Wf.cell? ⟨w.heap.size, 2, none⟩ = some (.slice (some ⟨gs, 0, none⟩) 1 1) := hrf.cell (i := 2) (by omega)
          have z3 : Wf.cell? ⟨w.heap.size, 3, none⟩ = some (.slice (some ⟨bn, on, none⟩) n cn) := hrf.cell (i := 3) (by omega)
          have z4 : Wf.cell? ⟨w.heap.size, 4, none⟩ = some (.slice (some ⟨gl, 0, none⟩) n n) := hrf.cell (i := 4) (by omega)
          (try simp only [Exit.inBlock, Exit.then])
          exact bodyPost_ret (v := .agg #[.slice (some ⟨gc, 0, none⟩) 256 256, .int .i64 (K : Int), .slice (some ⟨gs, 0, none⟩) 1 1, .slice (some ⟨bn, on, none⟩) n cn, .slice (some ⟨gl, 0, none⟩) n n]) (by simp [results, Tryd.results27, go_sem, z0, z1, z2, z3, z4]) rfl ⟨_, rfl, hT, hxf⟩
end Go.Proofs.YtpeipjfmibjoiaaDoor
