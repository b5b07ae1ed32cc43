/- census.counted: the table of all counts up to a length. -/
import Derived.Test.YtloooajippcdlaaDoorSum
import Derived.Test.YtloooajippcdlaaDoorDn
import Derived.Test.YtloooajippcdlaaDoorMem
namespace Go.Proofs.YtloooajippcdlaaDoor
open Go.RowKit

/-- one state's count, in a row of counts -/
def SumAt (w : World) (B s x : Nat) : Prop := w.cell? ⟨B, s * 2, none⟩ = some (.int .u64 (sn x)) ∧ w.cell? ⟨B, s * 2 + 1, none⟩ = some (.bool (so x))

/-- the table, its first k rows done; the rows' blocks lie between T and top -/
structure TabI (w wr : World) (bn on cn bl ol cl : Nat) (T N k top : Nat) (F : Nat → Nat → Nat) : Prop where
  ext : Ext w wr
  T0 : w.heap.size < T
  T1 : T < top
  le : top ≤ wr.heap.size
  box0 : wr.cell? ⟨w.heap.size, 0, none⟩ = some (.slice (some ⟨bn, on, none⟩) N cn)
  box1 : wr.cell? ⟨w.heap.size, 1, none⟩ = some (.slice (some ⟨bl, ol, none⟩) N cl)
  rows : ∀ n, n < k → ∃ B, T < B ∧ B < top ∧ wr.cell? ⟨T, n, none⟩ = some (.slice (some ⟨B, 0, none⟩) N N) ∧ ∀ s, s < N → SumAt wr B s (F n s)

theorem TabI.frm {w wr wr' : World} {bn on cn bl ol cl T N k top : Nat} {F : Nat → Nat → Nat} (h : TabI w wr bn on cn bl ol cl T N k top F) {S : Nat → Nat → Prop} (hf : Frm S wr wr')
    (hS : ∀ a j, S a j → top ≤ a ∨ (a = T ∧ k ≤ j)) : TabI w wr' bn on cn bl ol cl T N k top F := by
  have hT := h.T0
  have hT1 := h.T1
  have hn : ∀ a j, a < top → (a = T → j < k) → ¬ S a j := by
    intro a j ha hT hs
    rcases hS a j hs with h1 | ⟨h1, h2⟩
    · omega
    · have := hT h1; omega
  refine ⟨hf.ext h.ext (fun a j hs => ?_), h.T0, h.T1, Nat.le_trans h.le hf.size, hf.cell_some h.box0 (hn _ _ (by omega) (by omega)), hf.cell_some h.box1 (hn _ _ (by omega) (by omega)), fun n hn' => ?_⟩
  · rcases hS a j hs with h1 | ⟨h1, h2⟩ <;> omega
  · obtain ⟨B, h1, h2, h3, h4⟩ := h.rows n hn'
    exact ⟨B, h1, h2, hf.cell_some h3 (hn _ _ h.T1 (fun _ => hn')), fun s hs => ⟨hf.cell_some (h4 s hs).1 (hn _ _ h2 (by omega)), hf.cell_some (h4 s hs).2 (hn _ _ h2 (by omega))⟩⟩

/-- what the table's rows not yet made are -/
def RestI (wr : World) (T k : Nat) : Prop := ∀ i, k ≤ i → i < 65 → wr.cell? ⟨T, i, none⟩ = some (.slice none 0 0) ∧ wr.frozen? ⟨T, i, none⟩ = false

theorem RestI.frm {wr wr' : World} {T k : Nat} (h : RestI wr T k) {S : Nat → Nat → Prop} (hf : Frm S wr wr') (hS : ∀ j, S T j → j < k) : RestI wr' T k :=
  fun i h1 h2 => ⟨hf.cell_some (h i h1 h2).1 (fun hs => by have := hS i hs; omega), hf.frozen_some (h i h1 h2).1 (h i h1 h2).2⟩

/-- the row in the making: its first j counts are done -/
structure RowI (wr : World) (C N j : Nat) (F : Nat → Nat) : Prop where
  lt : C < wr.heap.size
  done : ∀ s, s < j → SumAt wr C s (F s)
  todo : ∀ s, j ≤ s → s < N → SumAt wr C s 0
  free : ∀ i, wr.frozen? ⟨C, i, none⟩ = false

theorem RowI.frm {wr wr' : World} {C N j : Nat} {F : Nat → Nat} (h : RowI wr C N j F) {S : Nat → Nat → Prop} (hf : Frm S wr wr') (hS : ∀ i, ¬ S C i) : RowI wr' C N j F :=
  ⟨Nat.lt_of_lt_of_le h.lt hf.size, fun s hs => ⟨hf.cell_some (h.done s hs).1 (hS _), hf.cell_some (h.done s hs).2 (hS _)⟩,
    fun s hs hs' => ⟨hf.cell_some (h.todo s hs hs').1 (hS _), hf.cell_some (h.todo s hs hs').2 (hS _)⟩, fun i => by rw [hf.frozen _ _ h.lt]; exact h.free i⟩

/-- count j has come to x; all others are as they were -/
theorem RowI.frm_one {wr wr' : World} {C N j : Nat} {F : Nat → Nat} (h : RowI wr C N j F) {o : Nat} (ho : o = j * 2) {S : Nat → Nat → Prop} (hf : Frm S wr wr') (hS : ∀ i, S C i → i = o ∨ i = o + 1) {x : Nat} (hx : SumAt wr' C j x) (hF : F j = x) :
    RowI wr' C N (j + 1) F := by
  subst ho
  have hn : ∀ s, s ≠ j → ¬ S C (s * 2) ∧ ¬ S C (s * 2 + 1) := fun s hs => ⟨fun e => by have := hS _ e; omega, fun e => by have := hS _ e; omega⟩
  refine ⟨Nat.lt_of_lt_of_le h.lt hf.size, fun s hs => ?_, fun s hs hs' => ?_, fun i => by rw [hf.frozen _ _ h.lt]; exact h.free i⟩
  · by_cases e : s = j
    · subst e; rw [hF]; exact hx
    · exact ⟨hf.cell_some (h.done s (by omega)).1 (hn s e).1, hf.cell_some (h.done s (by omega)).2 (hn s e).2⟩
  · exact ⟨hf.cell_some (h.todo s (by omega) hs').1 (hn s (by omega)).1, hf.cell_some (h.todo s (by omega) hs').2 (hn s (by omega)).2⟩

theorem counted_info : (Tryd.prog.info? 127).map (fun i => (i.zero, i.size, i.bytes)) = some (some (.agg #[.int .u64 0, .bool false]), 2, 16) := by kernel_rfl
theorem table_zero : Tryd.zeroCells165 = Array.replicate 65 (.slice none 0 0) := by kernel_rfl

/-- a row has been made, and its place in the table filled -/
theorem TabI.row {w wr : World} {bn on cn bl ol cl T N k : Nat} {F : Nat → Nat → Nat} (h : TabI w wr bn on cn bl ol cl T N k wr.heap.size F) (hr : RestI wr T k) (hk : k < 65) (t : TypeId) {W : World}
    (hW : W = ((wr.setCell ⟨T, k, none⟩ (.slice (some ⟨wr.heap.size, 0, none⟩) N N)).alloc (.cells (madeCells #[.int .u64 0, .bool false] (N * 2)) t)).drew) (G : Nat → Nat) :
    TabI w W bn on cn bl ol cl T N k wr.heap.size F ∧ RestI W T (k + 1) ∧ RowI W wr.heap.size N 0 G ∧ W.cell? ⟨T, k, none⟩ = some (.slice (some ⟨wr.heap.size, 0, none⟩) N N) := by
  have hT := h.T1
  have hs : wr.heap.size = (wr.setCell ⟨T, k, none⟩ (.slice (some ⟨wr.heap.size, 0, none⟩) N N)).heap.size := by simp
  have hf : Frm (fun a j => a = T ∧ j = k) wr W := by rw [hW]; exact (((Frm.refl _ _).setCell (.inl ⟨rfl, rfl⟩) _).alloc _).drew
  refine ⟨h.frm hf (fun a j e => .inr ⟨e.1, by omega⟩), fun i h1 h2 => ?_, ⟨by rw [hW]; simp, fun s hs => by omega, fun s _ hs' => ?_, fun i => ?_⟩, ?_⟩
  · exact ⟨hf.cell_some (hr i (by omega) h2).1 (fun e => by omega), hf.frozen_some (hr i (by omega) h2).1 (hr i (by omega) h2).2⟩
  · have hm := made_two (.int .u64 0) (.bool false) hs'
    unfold SumAt
    rw [hW, World.cell?_drew, World.cell?_drew]
    exact ⟨by have := new_cell (w := wr.setCell ⟨T, k, none⟩ (.slice (some ⟨wr.heap.size, 0, none⟩) N N)) (t := t) hm.1; rw [← hs] at this; exact this,
      by have := new_cell (w := wr.setCell ⟨T, k, none⟩ (.slice (some ⟨wr.heap.size, 0, none⟩) N N)) (t := t) hm.2; rw [← hs] at this; exact this⟩
  · rw [hW]
    have := new_frozen (wr.setCell ⟨T, k, none⟩ (.slice (some ⟨wr.heap.size, 0, none⟩) N N)) (madeCells #[.int .u64 0, .bool false] (N * 2)) t i
    rw [← hs] at this
    exact this
  · rw [hW, World.cell?_drew]
    exact (Ext.box _ _).cell (World.cell?_setCell_same _ _ _ (hr k (Nat.le_refl _) hk).1)

def upd (F : Nat → Nat) (j x : Nat) (s : Nat) : Nat := if s = j then x else F s

theorem RowI.start {wr : World} {C N j : Nat} {F : Nat → Nat} (h : RowI wr C N j F) (hj : j < N) : RowI wr C N (j + 1) (upd F j 0) :=
  ⟨h.lt, fun s hs => by
    unfold upd
    by_cases e : s = j
    · rw [if_pos e, e]; exact h.todo j (Nat.le_refl _) hj
    · rw [if_neg e]; exact h.done s (by omega), fun s hs hs' => h.todo s (by omega) hs', h.free⟩

theorem RowI.add {wr wr' : World} {C N j x x' : Nat} {F : Nat → Nat} (h : RowI wr C N (j + 1) (upd F j x)) (hf : Frm (two C (j * 2)) wr wr') (hx : SumAt wr' C j x') : RowI wr' C N (j + 1) (upd F j x') := by
  have hn : ∀ s, s ≠ j → ¬ two C (j * 2) C (s * 2) ∧ ¬ two C (j * 2) C (s * 2 + 1) := fun s hs => by simp only [two]; omega
  refine ⟨Nat.lt_of_lt_of_le h.lt hf.size, fun s hs => ?_, fun s hs hs' => ⟨hf.cell_some (h.todo s hs hs').1 (hn s (by omega)).1, hf.cell_some (h.todo s hs hs').2 (hn s (by omega)).2⟩, fun i => by rw [hf.frozen _ _ h.lt]; exact h.free i⟩
  by_cases e : s = j
  · have : upd F j x' s = x' := by simp [upd, e]
    rw [this, e]; exact hx
  · have h1 := h.done s hs
    have : upd F j x' s = upd F j x s := by simp [upd, e]
    rw [this]
    exact ⟨hf.cell_some h1.1 (hn s e).1, hf.cell_some h1.2 (hn s e).2⟩

theorem RowI.fin {wr : World} {C N j x : Nat} {F : Nat → Nat} (h : RowI wr C N (j + 1) (upd F j x)) (hx : x = F j) : RowI wr C N (j + 1) F :=
  ⟨h.lt, fun s hs => by
    have h1 := h.done s hs
    have : upd F j x s = F s := by unfold upd; split <;> simp_all
    rw [this] at h1; exact h1, h.todo, h.free⟩

theorem TabI.done {w wr : World} {bn on cn bl ol cl T N k C : Nat} {F : Nat → Nat → Nat} (h : TabI w wr bn on cn bl ol cl T N k C F) (hr : RowI wr C N N (F k)) (hk : wr.cell? ⟨T, k, none⟩ = some (.slice (some ⟨C, 0, none⟩) N N)) :
    TabI w wr bn on cn bl ol cl T N (k + 1) wr.heap.size F := by
  have := h.T1
  refine ⟨h.ext, h.T0, by have := h.le; omega, Nat.le_refl _, h.box0, h.box1, fun n hn => ?_⟩
  by_cases e : n = k
  · subst e; exact ⟨C, h.T1, hr.lt, hk, fun s hs => hr.done s hs⟩
  · obtain ⟨B, h1, h2, h3, h4⟩ := h.rows n (by omega)
    exact ⟨B, h1, by have := h.le; omega, h3, h4⟩

theorem ways_zero (d : Dn) (label : Int) (s : Nat) : d.ways label 0 s = if d.lb s = label then 1 else 0 := by simp [Dn.ways, CM.ways]
theorem ways_succ (d : Dn) (label : Int) (n s : Nat) : d.ways label (n + 1) s = CM.sumTo (fun c => d.ways label n (d.nx s c)) 256 := rfl

/-- a write into the row in the making keeps the table's other parts -/
theorem keep3 {w wi W : World} {bn on cn bl ol cl T N k C j : Nat} {F : Nat → Nat → Nat} {u : Value} (hT : TabI w wi bn on cn bl ol cl T N k C F) (hR : RestI wi T (k + 1)) (hk : wi.cell? ⟨T, k, none⟩ = some u)
    (hf : Frm (two C (j * 2)) wi W) : TabI w W bn on cn bl ol cl T N k C F ∧ RestI W T (k + 1) ∧ W.cell? ⟨T, k, none⟩ = some u := by
  have := hT.T1
  exact ⟨hT.frm hf (fun a i e => .inl (by have := e.1; omega)), hR.frm hf (fun i e => by have := e.1; omega), hf.cell_some hk (fun e => by have := e.1; omega)⟩

set_option maxRecDepth 100000 in
set_option maxHeartbeats 2000000 in
theorem counted_c {v : Value} {d : Dn} {w : World} (h : DenseV w v d) (hm : May d) (label : Int) (most : Nat) (hmost : most ≤ 64) :
    Calls Tryd.prog 79 #[v, .int .i64 label, .int .i64 most] w fun e w' => e = .returned (.pointer (some ⟨w.heap.size + 1, 0, none⟩)) ∧ ∃ bn on cn bl ol cl, TabI w w' bn on cn bl ol cl (w.heap.size + 1) d.next.length (most + 1) w'.heap.size (d.ways label) := by
  obtain ⟨bn, on, cn, bl, ol, cl, rfl, hc⟩ := h.cells hm
  have hpos := hm.pos
  have hmos := hm.most
  have HM := Lib.hid hm
  obtain ⟨N, hN⟩ : ∃ N, N = d.next.length := ⟨_, rfl⟩
  have HN := Lib.hid hN
  rw [← hN] at hpos hmos
  rw [← hN]
  clear h hm hN
  have hmk := run_make_any (P := Tryd.prog) 128 127 (.agg #[.int .u64 0, .bool false]) 2 16 Tryd.underlying128 counted_info .i64 .i64 N (by omega) (by omega)
  go_enter Tryd.func79, Tryd.ntmps79
  go_wp2
  rw [table_zero]
  go_loopw [18] (fun i wr => ∃ k : Nat, k ≤ most + 1 ∧ i = .int .i64 k ∧ TabI w wr bn on cn bl ol cl (w.heap.size + 1) N k wr.heap.size (d.ways label) ∧ RestI wr (w.heap.size + 1) k) (fun i _ => most + 1 - (intOf i).toNat)
  case atStart =>
    refine ⟨0, Nat.zero_le _, rfl, ⟨(Ext.box _ _).alloc _, by omega, by simp, Nat.le_refl _, by simp, by simp, fun n hn => by omega⟩, fun i _ hi => ⟨?_, by simp⟩⟩
    simp [hi]
  case round =>
    obtain ⟨k, hk, rfl, hT, hR⟩ := hrel
    by_cases hlt : k < most + 1
    · have hlt' : (k : Int) < (most : Int) + 1 := by omega
      have hb0 := hT.box0
      have hcT := (hR k (Nat.le_refl _) (by omega)).1
      have hfT := (hR k (Nat.le_refl _) (by omega)).2
      have hsz := hT.T1
      have hm2 := hmk wr.drew
      clear hmk
      go_wp2
      go_region
      obtain ⟨W, hW⟩ : ∃ W, W = ((wr.setCell ⟨w.heap.size + 1, k, none⟩ (.slice (some ⟨wr.heap.size, 0, none⟩) N N)).alloc (.cells (madeCells #[.int .u64 0, .bool false] (N * 2)) 127)).drew := ⟨_, rfl⟩
      rw [← hW]
      obtain ⟨hT1, hR1, hRow, hTk⟩ := hT.row hR (by omega) 127 hW (d.ways label k)
      obtain ⟨C, hC⟩ : ∃ C, C = wr.heap.size := ⟨_, rfl⟩
      rw [← hC] at hT1 hRow hTk hsz ⊢
      clear hT hR hb0 hcT hfT hm2 hW hC
      have hb0 := hT1.box0
      have hTC := hT1.T1
      have hT0 := hT1.T0
      go_wp2
      clear hb0
      have hC0 := hRow.lt
      go_loopw [32] (fun i wi => ∃ j : Nat, j ≤ N ∧ i = .int .i64 j ∧ TabI w wi bn on cn bl ol cl (w.heap.size + 1) N k C (d.ways label) ∧ RestI wi (w.heap.size + 1) (k + 1) ∧ RowI wi C N j (d.ways label k) ∧ wi.cell? ⟨w.heap.size + 1, k, none⟩ = some (.slice (some ⟨C, 0, none⟩) N N)) (fun i _ => N - (intOf i).toNat)
      case atStart => exact ⟨0, Nat.zero_le _, rfl, hT1, hR1, hRow, hTk⟩
      case round =>
        clear hT1 hR1 hRow hTk hC0
        obtain ⟨j, hj, rfl, hT1, hR1, hRow, hTk⟩ := hrel
        by_cases hjN : j < N
        · obtain ⟨br, ro, cr, hr1, hr2⟩ := hc.row j (by rw [← HN.out]; exact hjN)
          have hr1' := hT1.ext.cell hr1
          have hb1 := hT1.box1
          have hl1 := hT1.ext.cell (hc.label j (by rw [← HN.out]; exact hjN))
          have hto := hRow.todo j (Nat.le_refl _) hjN
          have hf0 := hRow.free (j * 2)
          unfold SumAt at hto
          have hto1 := hto.1
          clear hto hr1
          by_cases hk0 : k = 0
          · subst hk0
            have hkk : ¬ (0 : Int) < ((0 : Nat) : Int) := by omega
            by_cases hlab : d.lb j = label
            · have hlb : (d.lb j == label) = true := by simp [hlab]
              have hlab' := Lib.hid hlab
              clear hlab
              go_wp2
              go_roundw
              case rel =>
                obtain ⟨W, hW⟩ : ∃ W, W = wr.setCell ⟨C, j * 2, none⟩ (.int .u64 1) := ⟨_, rfl⟩
                have hf : Frm (two C (j * 2)) wr W := by rw [hW]; exact (Frm.refl _ _).setCell (.inl ⟨rfl, .inl rfl⟩) _
                have hk3 := keep3 hT1 hR1 hTk hf
                have h0 := hRow.todo j (Nat.le_refl _) hjN
                have hs : SumAt W C j 1 := ⟨by rw [hW]; exact World.cell?_setCell_same _ _ _ h0.1, by rw [hW, World.cell?_setCell_other _ _ _ _ (by simp)]; exact h0.2⟩
                have hr := hRow.frm_one rfl hf (fun i e => e.2) hs (by rw [ways_zero, if_pos hlab'.out])
                rw [hW] at hk3 hr
                exact ⟨j + 1, by omega, by go_num, hk3.1, hk3.2.1, hr, hk3.2.2⟩
              case measure => simp [intOf]; omega
            · have hlb : (d.lb j == label) = false := by simp [hlab]
              have hlab' := Lib.hid hlab
              clear hlab
              go_wp2
              go_roundw
              case rel => exact ⟨j + 1, by omega, by go_num, hT1, hR1, (hRow.start hjN).fin (by rw [ways_zero, if_neg hlab'.out]), hTk⟩
              case measure => simp [intOf]; omega
          · have hkk : 0 < k := by omega
            go_wp2
            obtain ⟨B, hB1, hB2, hB3, hB4⟩ := hT1.rows (k - 1) (by omega)
            have hRow1 := hRow.start hjN
            clear hto1 hf0 hl1 hb1 hr1'
            go_loopw [50] (fun i wq => ∃ q : Nat, q ≤ 256 ∧ i = .int .i64 q ∧ TabI w wq bn on cn bl ol cl (w.heap.size + 1) N k C (d.ways label) ∧ RestI wq (w.heap.size + 1) (k + 1) ∧
                RowI wq C N (j + 1) (upd (d.ways label k) j (CM.sumTo (fun c => d.ways label (k - 1) (d.nx j c)) q)) ∧ wq.cell? ⟨w.heap.size + 1, k, none⟩ = some (.slice (some ⟨C, 0, none⟩) N N)) (fun i _ => 256 - (intOf i).toNat)
            case atStart => exact ⟨0, Nat.zero_le _, rfl, hT1, hR1, hRow1, hTk⟩
            case round =>
              clear hB3 hB4 hRow1 hT1 hR1 hRow hTk
              obtain ⟨q, hq, rfl, hT1, hR1, hRow, hTk⟩ := hrel
              by_cases hq6 : q < 256
              · have hqc := hT1.ext.cell (hr2 q hq6)
                have hlt2 := HM.out.nx_lt (s := j) (c := q) (by rw [← HN.out]; exact hjN) hq6
                rw [← HN.out] at hlt2
                obtain ⟨B, hB1, hB2, hB3, hB4⟩ := hT1.rows (k - 1) (by omega)
                have hB5 := hB4 (d.nx j q) hlt2
                unfold SumAt at hB5
                have hB6 := hB5.1
                have hB7 := hB5.2
                clear hB4 hB5 hr2
                have hc0 := (hRow.done j (by omega)).1
                have hc1 := (hRow.done j (by omega)).2
                have hjj : upd (d.ways label k) j (CM.sumTo (fun c => d.ways label (k - 1) (d.nx j c)) q) j = CM.sumTo (fun c => d.ways label (k - 1) (d.nx j c)) q := by simp [upd]
                rw [hjj] at hc0 hc1
                have HC0 := Lib.hid hc0
                have HC1 := Lib.hid hc1
                clear hc0 hc1 hjj
                go_wp2_with fail
                refine (add_c HC0.out HC1.out (hRow.free _) (hRow.free _)).mono ?_
                rintro e W ⟨rfl, ha0, ha1, hf⟩
                have hk3 := keep3 hT1 hR1 hTk hf
                have hrn := hRow.add hf ⟨ha0, ha1⟩
                clear hT1 hR1 hRow hTk HC0 HC1 ha0 ha1 hB6 hB7 hqc hB3 hf
                go_wp2
                go_roundw
                case rel => exact ⟨q + 1, by omega, by go_num, hk3.1, hk3.2.1, hrn, hk3.2.2⟩
                case measure => simp [intOf]; omega
              · obtain rfl : q = 256 := by omega
                go_wp2
                go_roundw
                case rel => exact ⟨j + 1, by omega, by go_num, hT1, hR1, hRow.fin (by rw [show k = (k - 1) + 1 from by omega, ways_succ]; rfl), hTk⟩
                case measure => simp [intOf]; omega
        · obtain rfl : j = N := by omega
          go_wp2
          go_roundw
          case rel => exact ⟨k + 1, by omega, by go_num, hT1.done hRow hTk, hR1⟩
          case measure => simp [intOf]; omega
    · obtain rfl : k = most + 1 := by omega
      clear hmk
      go_wp2
      go_ret
      exact ⟨rfl, _, _, _, _, _, _, hT⟩
end Go.Proofs.YtloooajippcdlaaDoor
