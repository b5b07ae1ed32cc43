/- comb.best: a row, with some state below as its default, and the classes that are live then. -/
import Derived.Test.YtpeipjfmibjoiaaDoorLive
import Derived.Laws.ResultCell
namespace Go.Proofs.YtpeipjfmibjoiaaDoor
open Go.RowKit

def rowC (s d : Int) (v : Value) (j : Nat) : Value := if j = 0 then .int .i64 s else if j = 1 then .int .i64 d else v
theorem rowC_at {s d : Int} {v : Value} {i : Nat} {x : Value} (h : #[Value.int .i64 s, Value.int .i64 d, v][i]? = some x) : rowC s d v i = x := by
  match i, h with
  | 0, h => simpa [rowC] using h
  | 1, h => simpa [rowC] using h
  | 2, h => simpa [rowC] using h
  | i + 3, h => simp at h
theorem rowC_lt {s d : Int} {v : Value} : ∀ i, i < 3 → #[Value.int .i64 s, Value.int .i64 d, v][i]? = some (rowC s d v i) := by
  intro i hi
  match i, hi with
  | 0, _ => rfl
  | 1, _ => rfl
  | 2, _ => rfl

/-- the best row so far, in a box of its own -/
structure BestS (W wr : World) (bb : Nat) (T : Tbl) (s : Nat) (d : Int) (a : Option Addr) (c : Nat) : Prop where
  ext : Ext W wr
  new : W.heap.size ≤ bb
  row : wr.rowIs bb 125 3 (rowC (s : Int) d (.slice a (CB.liveL T s d).length c))
  own : wr.ownsRow W.heap.size 3 1 (.slice a (CB.liveL T s d).length c) (CB.liveL T s d).length (intsV (nI (CB.liveL T s d)))
  ne : ∀ g, (Value.slice a (CB.liveL T s d).length c).ownBlock = some g → g ≠ bb
  lo : -1 ≤ d
  hi : d < s
theorem BestS.more {W wr w' : World} {bb : Nat} {T : Tbl} {s : Nat} {d : Int} {a : Option Addr} {c : Nat} (h : BestS W wr bb T s d a c) (hx : Ext wr w') : BestS W w' bb T s d a c :=
  ⟨h.ext.trans hx, h.new, rowIs_ext hx h.row, own_ext hx h.own, h.ne, h.lo, h.hi⟩
theorem BestS.turn {W wr w' : World} {bb : Nat} {T : Tbl} {s : Nat} {d d' : Int} {a a' : Option Addr} {c c' : Nat} {L : List Nat} (h : BestS W wr bb T s d a c) (hx : Ext wr w') (hL : L = CB.liveL T s d')
    (ho : w'.ownsRow wr.heap.size 3 1 (.slice a' L.length c') L.length (intsV (nI L))) (hl : -1 ≤ d') (hh : d' < s) :
    BestS W ((w'.setCell ⟨bb, 1, none⟩ (.int .i64 d')).setCell ⟨bb, 2, none⟩ (.slice a' L.length c')) bb T s d' a' c' := by
  subst hL
  have hbb := h.row.lt
  have hne : ∀ g, (Value.slice a' (CB.liveL T s d').length c').ownBlock = some g → g ≠ bb := fun g hg => by have := (ho.lt g hg).1; omega
  have hr := ((rowIs_ext hx h.row).set 1 (.int .i64 d')).set 2 (.slice a' (CB.liveL T s d').length c')
  refine ⟨((h.ext.trans hx).setCell h.new _).setCell h.new _, h.new, hr.congr fun i hi => ?_, own_block (own_base ho h.ext.size) fun g hg _ => ?_, hne, hl, hh⟩
  · match i, hi with
    | 0, _ => rfl
    | 1, _ => rfl
    | 2, _ => rfl
  · rw [Below.heap_setCell _ _ _ _ (hne g hg), Below.heap_setCell _ _ _ _ (hne g hg)]

def BestR (T : Tbl) (s : Nat) (w : World) (e : Ending) (w' : World) : Prop :=
  ∃ (d : Int) (a : Option Addr) (c : Nat), e = .returned (.agg #[.int .i64 (s : Int), .int .i64 d, .slice a (CB.liveL T s d).length c]) ∧ -1 ≤ d ∧ d < s ∧
    w'.ownsRow w.heap.size 3 1 (.slice a (CB.liveL T s d).length c) (CB.liveL T s d).length (intsV (nI (CB.liveL T s d))) ∧ Ext w w'

set_option maxRecDepth 100000 in
set_option maxHeartbeats 4000000 in
theorem best_c {w : World} {cv sv lv : Value} {bn on n nc K : Nat} {T : Tbl} (h : TRows w bn on n K T) {s : Nat} (hs : s < n) :
    Calls Tryd.prog 73 #[.agg #[cv, .int .i64 (K : Int), sv, .slice (some ⟨bn, on, none⟩) n nc, lv], .int .i64 (s : Int)] w (BestR T s w) := by
  obtain ⟨W, hW⟩ : ∃ W, W = (w.alloc (.cells #[cv, .int .i64 (K : Int), sv, .slice (some ⟨bn, on, none⟩) n nc, lv] 37)).alloc (.cells #[.int .i64 0, .int .i64 0, .slice none 0 0] 125) := ⟨_, rfl⟩
  have hxW : Ext w W := by rw [hW]; exact (Ext.box _ _).alloc _
  have k0 : W.cell? ⟨w.heap.size, 0, none⟩ = some cv := by rw [hW]; simp
  have k1 : W.cell? ⟨w.heap.size, 1, none⟩ = some (.int .i64 (K : Int)) := by rw [hW]; simp
  have k2 : W.cell? ⟨w.heap.size, 2, none⟩ = some sv := by rw [hW]; simp
  have k3 : W.cell? ⟨w.heap.size, 3, none⟩ = some (.slice (some ⟨bn, on, none⟩) n nc) := by rw [hW]; simp
  have k4 : W.cell? ⟨w.heap.size, 4, none⟩ = some lv := by rw [hW]; simp
  have hr0 : W.rowIs (w.heap.size + 1) 125 3 (rowC 0 0 (.slice none 0 0)) := by
    have q := World.rowIs_alloc (w.alloc (.cells #[cv, .int .i64 (K : Int), sv, .slice (some ⟨bn, on, none⟩) n nc, lv] 37)) #[.int .i64 0, .int .i64 0, .slice none 0 0] 125 (rowC 0 0 (.slice none 0 0)) rowC_lt
    rw [World.size_alloc] at q
    rw [hW]; exact q
  have hsz : w.heap.size + 2 = W.heap.size := by rw [hW]; simp
  have hT := h.ext hxW
  have hl := live_c (cv := cv) (sv := sv) (lv := lv) (nc := nc) hT hs (d := -1) (Int.le_refl _) (by omega) (most := K) h.k2
  have hK := h.k2
  have hn6 := h.n6
  have H := Lib.hid (And.intro hxW (And.intro hT (And.intro hr0 (And.intro hl (And.intro hsz hW)))))
  have HK := Lib.hid (And.intro k0 (And.intro k1 (And.intro k2 (And.intro k3 k4))))
  clear hxW hT hr0 hl hW h k0 k1 k2 k3 k4 hsz
  go_enter Tryd.func73, Tryd.ntmps73
  go_wp2_with fail
  rw [← H.out.2.2.2.2.2]
  refine H.out.2.2.2.1.mono ?_
  rintro e w3 ⟨a, c, L, rfl, hL, hL256, ho, hx3⟩
  have hLk : L = CB.liveL T s (-1) := by
    rcases hL with ⟨e, _⟩ | e
    · exact e
    · rw [H.out.2.1.cnt] at hL256
      simp only [Int.toNat_natCast] at hL256
      omega
  subst hLk
  have hb0 : BestS W (w3.alloc (.cells #[.int .i64 (s : Int), .int .i64 (-1), .slice a (CB.liveL T s (-1)).length c] 125)) w3.heap.size T s (-1) a c :=
    ⟨hx3.alloc _, hx3.size, World.rowIs_alloc w3 _ 125 _ rowC_lt, own_ext (Ext.box _ _) ho, fun g hg => by have := (ho.lt g hg).2; omega, Int.le_refl _, by omega⟩
  have HB := Lib.hid hb0
  clear hb0 ho hx3 hL hL256
  go_wp2
  obtain ⟨bb, hbb⟩ : ∃ b, b = w3.heap.size := ⟨_, rfl⟩
  rw [← hbb] at HB ⊢
  clear hbb
  go_loopw [6] (fun iv wr => ∃ (i : Nat) (d : Int) (a : Option Addr) (c : Nat), i ≤ s ∧ iv = .int .i64 i ∧ BestS W wr bb T s d a c) (fun iv _ => s - (intOf iv).toNat)
  case atStart => exact ⟨0, -1, a, c, Nat.zero_le _, rfl, HB.out⟩
  case round =>
    clear HB
    obtain ⟨i, d, a, c, hi, rfl, hB⟩ := hrel
    have hTr := H.out.2.1.ext hB.ext
    have k0 := hB.ext.cell HK.out.1
    have k1 := hB.ext.cell HK.out.2.1
    have k2 := hB.ext.cell HK.out.2.2.1
    have k3 := hB.ext.cell HK.out.2.2.2.1
    have k4 := hB.ext.cell HK.out.2.2.2.2
    have b0 : wr.cell? ⟨bb, 0, none⟩ = some (.int .i64 (s : Int)) := hB.row.cell (i := 0) (by omega)
    have b1 : wr.cell? ⟨bb, 1, none⟩ = some (.int .i64 d) := hB.row.cell (i := 1) (by omega)
    have b2 : wr.cell? ⟨bb, 2, none⟩ = some (.slice a (CB.liveL T s d).length c) := hB.row.cell (i := 2) (by omega)
    obtain ⟨M, hM⟩ : ∃ M, M = (CB.liveL T s d).length := ⟨_, rfl⟩
    rw [← hM] at b2
    have hMK : M ≤ K := by
      rw [hM]
      have := CB.liveN_len T s d T.count.toNat
      rw [H.out.2.1.cnt, Int.toNat_natCast] at this
      unfold CB.liveL
      rw [H.out.2.1.cnt, Int.toNat_natCast]
      exact this
    have HM := Lib.hid hM
    have HS := Lib.hid (And.intro hB hTr)
    clear hB hTr hM
    by_cases h1 : i < s ∧ 0 < M
    · have h1' : (i : Int) < s := by omega
      have h2' : (0 : Int) < M := by omega
      obtain ⟨q, hq⟩ : ∃ q, q = M - 1 := ⟨_, rfl⟩
      have hq1 : (M : Int) - 1 = (q : Int) := by omega
      have hl := live_c (cv := cv) (sv := sv) (lv := lv) (nc := nc) HS.out.2 hs (d := (i : Int)) (by omega) (by omega) (most := q) (by omega)
      have hqM : q + 1 = M := by omega
      have HL := Lib.hid hl
      clear hl hq h1
      go_wp2_with fail
      refine HL.out.mono ?_
      rintro e w5 ⟨a5, c5, L5, rfl, hL5, -, ho5, hx5⟩
      have b2' := hx5.cell b2
      have b1' := hx5.cell b1
      have f1 : w5.frozen? ⟨bb, 1, none⟩ = false := (rowIs_ext hx5 HS.out.1.row).frozen 1
      have f2 : w5.frozen? ⟨bb, 2, none⟩ = false := (rowIs_ext hx5 HS.out.1.row).frozen 2
      clear k0 k1 k2 k3 k4 b0 b1 b2 hq1
      by_cases h5 : L5.length < M
      · have h5' : (L5.length : Int) < M := by omega
        have hLe : L5 = CB.liveL T s (i : Int) := by
          rcases hL5 with ⟨e, _⟩ | e
          · exact e
          · omega
        have hT := HS.out.1.turn hx5 hLe ho5 (by omega) (by omega)
        have HT := Lib.hid hT
        clear hT hL5 ho5 hx5 hLe
        go_wp2
        go_roundw
        case rel => exact ⟨i + 1, i, a5, c5, by omega, by go_num, HT.out⟩
        case measure => simp [intOf]; omega
      · have h5' : ¬ (L5.length : Int) < M := by omega
        have HT := Lib.hid (HS.out.1.more hx5)
        clear hL5 ho5 hx5 h5
        go_wp2
        go_roundw
        case rel => exact ⟨i + 1, d, a, c, by omega, by go_num, HT.out⟩
        case measure => simp [intOf]; omega
    · have hr9 := rowIs_ext HS.out.1.ext H.out.2.2.1
      have d0 : wr.cell? ⟨w.heap.size + 1, 0, none⟩ = some (.int .i64 0) := hr9.cell (i := 0) (by omega)
      have d1 : wr.cell? ⟨w.heap.size + 1, 1, none⟩ = some (.int .i64 0) := hr9.cell (i := 1) (by omega)
      have d2 : wr.cell? ⟨w.heap.size + 1, 2, none⟩ = some (.slice none 0 0) := hr9.cell (i := 2) (by omega)
      have g0 := hr9.frozen 0
      have g1 := hr9.frozen 1
      have g2 := hr9.frozen 2
      have HR := Lib.hid hr9
      clear hr9 k0 k1 k2 k3 k4
      by_cases h2 : i < s
      · have h2' : (i : Int) < s := by omega
        have h3' : ¬ (0 : Int) < M := by omega
        go_wp2
        have hXf : Ext w (((wr.setCell ⟨w.heap.size + 1, 0, none⟩ (.int .i64 (s : Int))).setCell ⟨w.heap.size + 1, 1, none⟩ (.int .i64 d)).setCell ⟨w.heap.size + 1, 2, none⟩ (.slice a M c)) := (((H.out.1.trans HS.out.1.ext).setCell (by simp) _).setCell (by simp) _).setCell (by simp) _
        have hr9 := ((HR.out.set 0 (.int .i64 (s : Int))).set 1 (.int .i64 d)).set 2 (.slice a M c)
        have hown := own_block (w' := (((wr.setCell ⟨w.heap.size + 1, 0, none⟩ (.int .i64 (s : Int))).setCell ⟨w.heap.size + 1, 1, none⟩ (.int .i64 d)).setCell ⟨w.heap.size + 1, 2, none⟩ (.slice a M c))) HS.out.1.own (fun g hg hl => by
          have h1 := (HS.out.1.own.lt g hg).1
          have h2 := H.out.2.2.2.2.1
          have hne : g ≠ w.heap.size + 1 := by omega
          rw [Below.heap_setCell _ _ _ _ hne, Below.heap_setCell _ _ _ _ hne, Below.heap_setCell _ _ _ _ hne])
        generalize World.setCell (World.setCell (World.setCell wr _ _) _ _) _ _ = Wf at hXf hr9 hown ⊢
        have z0 : Wf.cell? ⟨w.heap.size + 1, 0, none⟩ = some (.int .i64 (s : Int)) := hr9.cell (i := 0) (by omega)
        have z1 : Wf.cell? ⟨w.heap.size + 1, 1, none⟩ = some (.int .i64 d) := hr9.cell (i := 1) (by omega)
        have z2 : Wf.cell? ⟨w.heap.size + 1, 2, none⟩ = some (.slice a M c) := hr9.cell (i := 2) (by omega)
        (try simp only [Exit.inBlock, Exit.then])
        refine bodyPost_ret (v := .agg #[.int .i64 (s : Int), .int .i64 d, .slice a M c]) (by simp [results, Tryd.results73, go_sem, z0, z1, z2]) rfl ?_
        exact ⟨d, a, c, by rw [← HM.out], HS.out.1.lo, HS.out.1.hi, own_base hown H.out.1.size, hXf⟩
      · have h2' : ¬ (i : Int) < s := by omega
        go_wp2
        have hXf : Ext w (((wr.setCell ⟨w.heap.size + 1, 0, none⟩ (.int .i64 (s : Int))).setCell ⟨w.heap.size + 1, 1, none⟩ (.int .i64 d)).setCell ⟨w.heap.size + 1, 2, none⟩ (.slice a M c)) := (((H.out.1.trans HS.out.1.ext).setCell (by simp) _).setCell (by simp) _).setCell (by simp) _
        have hr9 := ((HR.out.set 0 (.int .i64 (s : Int))).set 1 (.int .i64 d)).set 2 (.slice a M c)
        have hown := own_block (w' := (((wr.setCell ⟨w.heap.size + 1, 0, none⟩ (.int .i64 (s : Int))).setCell ⟨w.heap.size + 1, 1, none⟩ (.int .i64 d)).setCell ⟨w.heap.size + 1, 2, none⟩ (.slice a M c))) HS.out.1.own (fun g hg hl => by
          have h1 := (HS.out.1.own.lt g hg).1
          have h2 := H.out.2.2.2.2.1
          have hne : g ≠ w.heap.size + 1 := by omega
          rw [Below.heap_setCell _ _ _ _ hne, Below.heap_setCell _ _ _ _ hne, Below.heap_setCell _ _ _ _ hne])
        generalize World.setCell (World.setCell (World.setCell wr _ _) _ _) _ _ = Wf at hXf hr9 hown ⊢
        have z0 : Wf.cell? ⟨w.heap.size + 1, 0, none⟩ = some (.int .i64 (s : Int)) := hr9.cell (i := 0) (by omega)
        have z1 : Wf.cell? ⟨w.heap.size + 1, 1, none⟩ = some (.int .i64 d) := hr9.cell (i := 1) (by omega)
        have z2 : Wf.cell? ⟨w.heap.size + 1, 2, none⟩ = some (.slice a M c) := hr9.cell (i := 2) (by omega)
        (try simp only [Exit.inBlock, Exit.then])
        refine bodyPost_ret (v := .agg #[.int .i64 (s : Int), .int .i64 d, .slice a M c]) (by simp [results, Tryd.results73, go_sem, z0, z1, z2]) rfl ?_
        exact ⟨d, a, c, by rw [← HM.out], HS.out.1.lo, HS.out.1.hi, own_base hown H.out.1.size, hXf⟩
end Go.Proofs.YtpeipjfmibjoiaaDoor
