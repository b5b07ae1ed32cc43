/- The refiner's own memory: which splitters wait; push. -/
import Derived.Test.YtpeipjfmibjoiaaDoorSplMap
import Derived.Test.YtpeipjfmibjoiaaDoorOwn
import Derived.Deep.DeepCutAuto
import Derived.StillTailTactics
import Derived.Deep.AppendLies
import Derived.Deep.RegionLaw
namespace Go.Proofs.YtpeipjfmibjoiaaDoor
open Go.RowKit

/-- all blocks but those of T are as they were -/
structure Bl (T : Nat → Prop) (w w' : World) : Prop where
  os : w'.os = w.os
  tape : w'.tape = w.tape
  output : w'.output = w.output
  size : w.heap.size ≤ w'.heap.size
  block : ∀ k, k < w.heap.size → ¬ T k → w'.heap[k]? = w.heap[k]?

section
variable {T T' : Nat → Prop} {w w' w'' : World}
theorem Bl.refl (T : Nat → Prop) (w : World) : Bl T w w := ⟨rfl, rfl, rfl, Nat.le_refl _, fun _ _ _ => rfl⟩
theorem Bl.trans (h : Bl T w w') (k : Bl T w' w'') : Bl T w w'' :=
  ⟨k.os.trans h.os, k.tape.trans h.tape, k.output.trans h.output, Nat.le_trans h.size k.size, fun i hi hn => (k.block i (Nat.lt_of_lt_of_le hi h.size) hn).trans (h.block i hi hn)⟩
theorem Bl.mono (h : Bl T w w') (hT : ∀ k, k < w.heap.size → T k → T' k) : Bl T' w w' := ⟨h.os, h.tape, h.output, h.size, fun i hi hn => h.block i hi (fun e => hn (hT i hi e))⟩
theorem Bl.of_ext (h : Ext w w') : Bl T w w' := ⟨h.os, h.tape, h.output, h.size, fun k hk _ => h.block k hk⟩
theorem Bl.grown (h : Bl T w w') {row : Option Nat} (hg : w'.grownBy w'' row) (hT : ∀ g, row = some g → T g ∨ w.heap.size ≤ g) : Bl T w w'' :=
  ⟨hg.os.trans h.os, hg.tape.trans h.tape, hg.output.trans h.output, Nat.le_trans h.size hg.size, fun i hi hn => by
    rw [hg.block i (Nat.lt_of_lt_of_le hi h.size) (fun e => by rcases hT i e.symm with h1 | h1; exact hn h1; omega)]; exact h.block i hi hn⟩
theorem Bl.setCell (h : Bl T w w') {a : Addr} (hT : T a.block ∨ w.heap.size ≤ a.block) (v : Value) : Bl T w (w'.setCell a v) :=
  ⟨h.os, h.tape, h.output, by rw [World.size_setCell]; exact h.size, fun i hi hn => by
    rw [Below.heap_setCell _ _ _ _ (by rintro rfl; rcases hT with h1 | h1; exact hn h1; omega)]; exact h.block i hi hn⟩
theorem Bl.ext {w0 : World} (h : Bl T w w') (hw : Ext w0 w) (hT : ∀ k, T k → w0.heap.size ≤ k) : Ext w0 w' :=
  Below.trans hw ⟨h.os, h.tape, h.output, h.size, fun k hk => h.block k (Nat.lt_of_lt_of_le hk hw.size) (fun e => by have := hT k e; omega)⟩
end

def splCells (L : List (Nat × Nat)) : List Value := L.flatMap fun p => [.int .i64 (p.1 : Int), .int .i64 (p.2 : Int)]
theorem splCells_snoc (L : List (Nat × Nat)) (p : Nat × Nat) : splCells (L ++ [p]) = splCells L ++ [.int .i64 (p.1 : Int), .int .i64 (p.2 : Int)] := by simp [splCells]

/-- what waits: a list in memory of the call's own, and the set of what stands in it -/
structure Wt (w : World) (B : Nat) (wv : Value) (L : List (Nat × Nat)) (mb n : Nat) : Prop where
  row : w.ownsRow B 220 2 wv L.length (splCells L)
  set : SetM w mb n (fun x y => (x, y) ∈ L)
  bd : ∀ p ∈ L, p.1 < 1000000 ∧ p.2 < 1000000
  ne : wv.ownBlock ≠ some mb
  nd : L.Nodup

theorem spl_info : (Tryd.prog.info? 220).map (fun i => (i.zero, i.size, i.bytes)) = some (some (.agg #[.int .i64 0, .int .i64 0]), 2, 16) := by kernel_rfl

def Quiet0 (w : World) (e : Ending) (w' : World) : Prop := e = .returned (.tuple #[]) ∧ Ext w w'

set_option maxRecDepth 100000 in
set_option maxHeartbeats 1000000 in
theorem push_has {w : World} {rb B mb n : Nat} {f : Nat → Value} {wv : Value} {L : List (Nat × Nat)} (hr : w.rowIs rb 160 7 f) (h6 : f 6 = .map (some mb)) (hW : Wt w B wv L mb n) {x y : Nat} (hx : x < 1000000) (hy : y < 1000000)
    (hin : (x, y) ∈ L) : Calls Tryd.prog 134 #[.pointer (some ⟨rb, 0, none⟩), splV x y] w (Quiet0 w) := by
  have c6 := hr.cell (i := 6) (by omega)
  rw [h6] at c6
  obtain ⟨Wb, hWb⟩ : ∃ Wb, Wb = w.alloc (.cells #[.int .i64 (x : Int), .int .i64 (y : Int)] 220) := ⟨_, rfl⟩
  have hE : Ext w Wb := by rw [hWb]; exact Ext.box _ _
  have key : ∀ W', Ext w W' → (Instr.lookup 156 (.map (some mb)) (splV x y) true).run Tryd.prog W' = .ok (.tuple #[splV x y, .bool true]) W' := by
    intro W' hx'
    obtain ⟨p, q, r, h1, h2, h3⟩ := (hW.set.block (hx'.block mb hW.set.lt)).look hx hy
    obtain ⟨rfl, rfl⟩ := h3.1 hin
    have : r = true := h2.2 hin
    subst this
    exact h1
  have k1 := key _ hE.drew
  have k2 := key _ (hE.alloc (.cells #[.int .i64 0, .int .i64 0] 220)).drew
  have k3 := key _ (hE.drew.alloc (.cells #[.int .i64 0, .int .i64 0] 220))
  unfold splV at k1 k2 k3 ⊢
  have c6' := hE.cell c6
  have HW := Lib.hid hWb
  rw [hWb] at k1 k2 k3 c6'
  have hlt := hr.lt
  clear key hr hW h6 hin hE hWb
  go_enter Tryd.func134, Tryd.ntmps134
  go_wp2_with fail
  go_region
  have e1 : ((x : Int) == (x : Int)) = true := by simp
  have e2 : ((y : Int) == (y : Int)) = true := by simp
  all_goals go_wp2
  all_goals (go_end0; exact ⟨rfl, ((Ext.box w _).alloc _).drew⟩)

def Pushed (rb B mb n : Nat) (f : Nat → Value) (wv : Value) (L : List (Nat × Nat)) (x y : Nat) (w : World) (e : Ending) (w' : World) : Prop :=
  e = .returned (.tuple #[]) ∧ ∃ wv', w'.rowIs rb 160 7 (fun i => if i = 5 then wv' else f i) ∧ Wt w' B wv' (L ++ [(x, y)]) mb (n + 1) ∧ Bl (fun g => g = rb ∨ g = mb ∨ wv.ownBlock = some g) w w' ∧
    (wv'.ownBlock = wv.ownBlock ∨ ∃ g, wv'.ownBlock = some g ∧ w.heap.size ≤ g)

theorem pushed_mk {w W3 w4 : World} {rb B mb n x y gg cap : Nat} {f : Nat → Value} {wv : Value} {L : List (Nat × Nat)} (O : Obj) (hW : Wt w B wv L mb n) (hin : (x, y) ∉ L) (hset : SetM W3 mb (n + 1) (fun x' y' => (x' = x ∧ y' = y) ∨ (x', y') ∈ L)) (hx : x < 1000000) (hy : y < 1000000)
    (hk3 : Bl (fun g => g = mb) w W3) (r4 : w4.rowIs rb 160 7 f) (hown : w4.ownsRow B 220 2 (.slice (some ⟨gg, 0, none⟩) (L.length + 1) cap) (L.length + 1) (splCells L ++ [.int .i64 x, .int .i64 y]))
    (hg : (W3.alloc O).drew.grownBy w4 wv.ownBlock) (hat : wv.ownBlock = some gg ∨ gg = W3.heap.size + 1) (hrm : rb ≠ mb) (hrw : wv.ownBlock ≠ some rb) (hlt : rb < w.heap.size) :
    Pushed rb B mb n f wv L x y w (.returned (.tuple #[])) (w4.setCell ⟨rb, 5, none⟩ (.slice (some ⟨gg, 0, none⟩) (L.length + 1) cap)) := by
  have hs3 := hk3.size
  have hmb := hW.set.lt
  have hgr : gg ≠ rb := by
    rintro rfl
    rcases hat with h | h
    · exact hrw h
    · omega
  have hgm : gg ≠ mb := by
    rintro rfl
    rcases hat with h | h
    · exact hW.ne h
    · omega
  have hset4 : ∀ k, k ≠ rb → (w4.setCell ⟨rb, 5, none⟩ (.slice (some ⟨gg, 0, none⟩) (L.length + 1) cap)).heap[k]? = w4.heap[k]? := fun k hk => Below.heap_setCell _ _ _ _ (by simpa using hk)
  have hal : ∀ k, k < W3.heap.size → (W3.alloc O).drew.heap[k]? = W3.heap[k]? := fun k hk => (Ext.drew (Ext.box W3 O)).block k hk
  refine ⟨rfl, .slice (some ⟨gg, 0, none⟩) (L.length + 1) cap, (r4.set 5 _), ⟨?_, ?_, ?_, ?_, ?_⟩, ?_, ?_⟩
  · rw [splCells_snoc, List.length_append]
    exact own_block hown fun g hg' _ => hset4 g (by simp only [Value.ownBlock, Option.some.injEq] at hg'; omega)
  · refine (hset.block (w' := w4.setCell ⟨rb, 5, none⟩ (.slice (some ⟨gg, 0, none⟩) (L.length + 1) cap)) ?_).congr (fun x' y' => ?_)
    · rw [hset4 mb (fun e => hrm e.symm), hg.block mb (by simp; omega) (fun e => hW.ne e.symm), hal mb (by omega)]
    · rw [List.mem_append, List.mem_singleton, Prod.mk.injEq]; exact Or.comm
  · intro p hp
    rcases List.mem_append.1 hp with hp | hp
    · exact hW.bd p hp
    · rw [List.mem_singleton] at hp; subst hp; exact ⟨hx, hy⟩
  · simp only [Value.ownBlock, ne_eq, Option.some.injEq]; exact hgm
  · refine List.nodup_append.2 ⟨hW.nd, by simp, fun a ha b hb e => ?_⟩
    rw [List.mem_singleton] at hb
    subst hb; subst e; exact hin ha
  · have h1 : Bl (fun g => g = rb ∨ g = mb ∨ wv.ownBlock = some g) w W3 := hk3.mono fun k _ e => .inr (.inl e)
    have h2 : Bl (fun g => g = rb ∨ g = mb ∨ wv.ownBlock = some g) w (W3.alloc O).drew := h1.trans (.of_ext (Ext.drew (Ext.box W3 O)))
    exact (h2.grown hg (fun g e => .inl (.inr (.inr e)))).setCell (.inl (.inl rfl)) _
  · rcases hat with h | h
    · exact .inl h.symm
    · exact .inr ⟨gg, rfl, by omega⟩

set_option maxRecDepth 100000 in
set_option maxHeartbeats 1000000 in
theorem push_new {w : World} {rb B mb n : Nat} {f : Nat → Value} {wv : Value} {L : List (Nat × Nat)} (hr : w.rowIs rb 160 7 f) (h5 : f 5 = wv) (h6 : f 6 = .map (some mb)) (hW : Wt w B wv L mb n) {x y : Nat} (hx : x < 1000000) (hy : y < 1000000)
    (hin : (x, y) ∉ L) (hn : n < 1000000) (hL : L.length < 1000000) (hB : B ≤ w.heap.size) (hrm : rb ≠ mb) (hrw : wv.ownBlock ≠ some rb) :
    Calls Tryd.prog 134 #[.pointer (some ⟨rb, 0, none⟩), splV x y] w (Pushed rb B mb n f wv L x y w) := by
  have c6 := hr.cell (i := 6) (by omega)
  rw [h6] at c6
  obtain ⟨Wb, hWb⟩ : ∃ Wb, Wb = w.alloc (.cells #[.int .i64 (x : Int), .int .i64 (y : Int)] 220) := ⟨_, rfl⟩
  have hE : Ext w Wb := by rw [hWb]; exact Ext.box _ _
  have key : ∀ W', Ext w W' → (Instr.lookup 156 (.map (some mb)) (splV x y) true).run Tryd.prog W' = .ok (.tuple #[splV 0 0, .bool false]) W' := by
    intro W' hx'
    obtain ⟨p, q, r, h1, h2, h3⟩ := (hW.set.block (hx'.block mb hW.set.lt)).look hx hy
    obtain ⟨rfl, rfl⟩ := h3.2 hin
    have : r = false := by
      cases r with
      | false => rfl
      | true => exact absurd (h2.1 rfl) hin
    subst this
    exact h1
  have k1 := key _ hE.drew
  have k2 := key _ (hE.alloc (.cells #[.int .i64 0, .int .i64 0] 220)).drew
  have k3 := key _ (hE.drew.alloc (.cells #[.int .i64 0, .int .i64 0] 220))
  unfold splV at k1 k2 k3 ⊢
  have HWb := Lib.hid hWb
  rw [hWb] at k1 k2 k3
  have hlt := hr.lt
  have HR := Lib.hid hr
  have HW := Lib.hid hW
  have HI := Lib.hid hin
  have H5 := Lib.hid (And.intro h5 h6)
  clear key hr hW h5 h6 hin hE hWb
  go_enter Tryd.func134, Tryd.ntmps134
  go_upto_region 1 with fail
  go_cut [3, 5] (fun s3 s5 wx => s3 = .pointer (some ⟨w.heap.size, 0, none⟩) ∧ s5 = .bool false ∧ Ext (w.alloc (.cells #[.int .i64 (x : Int), .int .i64 (y : Int)] 220)) wx)
  case first =>
    clear HWb HR HW HI H5
    go_region
    all_goals (go_wp2_with fail; go_meet; exact ⟨rfl, rfl, ((Ext.refl _).alloc _).drew⟩)
  case rest =>
    obtain ⟨rfl, rfl, hx0⟩ := hcut
    have hxw := (Ext.box w _).trans hx0
    have c6' := hxw.cell c6
    have s0 := hx0.cell (p := ⟨w.heap.size, 0, none⟩) (v := .int .i64 x) (by simp)
    have s1 := hx0.cell (p := ⟨w.heap.size, 1, none⟩) (v := .int .i64 y) (by simp)
    obtain ⟨W3, hrun, hset3, hturn⟩ := (HW.out.set.block (hxw.drew.block mb HW.out.set.lt)).store (by unfold maxLen; omega) hx hy
    unfold splV at hrun
    have HS3 := Lib.hid hset3
    have HT3 := Lib.hid hturn
    clear hset3 hturn k1 k2 k3
    go_wp2_with fail
    go_still_tail 6, (by kernel_rfl)
    change wpList _ _ _ _ _ wc.drew
    go_wp2_with fail
    have hmb := HW.out.set.lt
    have hg3 := HT3.out.grown
    have hk3 : ∀ k, k < w.heap.size → k ≠ mb → W3.heap[k]? = w.heap[k]? := fun k hk hne => by
      rw [hg3.block k (by have := hxw.size; simp; omega) (by simpa using hne)]
      exact hxw.drew.block k hk
    have hsz3 : w.heap.size < W3.heap.size := by have h1 := hg3.size; have h2 := hx0.size; simp at h1 h2; omega
    have r3 := HR.out.of_block (hk3 rb hlt hrm)
    have c5 := r3.cell (i := 5) (by omega)
    rw [H5.out.1] at c5
    have f5 := r3.frozen 5
    have hbk : W3.heap[w.heap.size]? = _ := hg3.block w.heap.size (by have := hx0.size; simp at this; simp; omega) (by simp; omega)
    have t0 : W3.cell? ⟨w.heap.size, 0, none⟩ = some (.int .i64 x) := (World.cell?_of_block (a := ⟨w.heap.size, 0, none⟩) hbk).trans s0
    have t1 : W3.cell? ⟨w.heap.size, 1, none⟩ = some (.int .i64 y) := (World.cell?_of_block (a := ⟨w.heap.size, 1, none⟩) hbk).trans s1
    have hown3 := own_block (w' := W3) HW.out.row fun g hg hl => hk3 g hl (fun e => HW.out.ne (by rw [hg, e]))
    have hX := hxw.drew
    clear hrun s0 s1 c6 c6' hbk hx0 hxw
    obtain ⟨i0, hi, hz0, hz1, hz2⟩ := info_parts spl_info
    have hbase : B ≤ W3.heap.size := by omega
    have hmax : L.length + 1 ≤ maxLen := by unfold maxLen; omega
    have hlt3 : rb < W3.heap.size := by omega
    go_region_law ((refine step_append_lies _ (by rfl) _ _ _ (by rfl) B 220 i0 _ 2 16 Tryd.underlying158 hi hz0 hz1 hz2 rfl (by omega) wv L.length (splCells L) (by rfl) ((hown3.alloc _).drew) ⟨W3.heap.size, 0, none⟩ 1 1 [.int .i64 x, .int .i64 y] (by rfl) (by rfl) (World.news_of_block (cs := #[.int .i64 x, .int .i64 y]) (t := 220) (fr := (0, 0)) (heap_alloc_new W3 _)) (by simp [Value.oneCell']) (by omega) hmax (by omega) (by simp; omega) (W3.heap.size + 1) (by simp) ?_; intro gg cap w4 hown4 hgrow hat hlt4; have r4 := (((r3.alloc (.cells #[.int .i64 x, .int .i64 y] 220)).drew).of_block (hgrow.block rb (by simp; omega) (Ne.symm hrw))); have c54 := r4.cell (i := 5) (by omega); have f54 := r4.frozen 5))
    all_goals
      go_end0
      refine pushed_mk _ HW.out HI.out HS3.out hx hy ⟨?_, ?_, ?_, by omega, hk3⟩ r4 hown4 hgrow hat hrm hrw hlt
      · exact hg3.os.trans hX.os
      · exact hg3.tape.trans hX.tape
      · exact hg3.output.trans hX.output
end Go.Proofs.YtpeipjfmibjoiaaDoor
