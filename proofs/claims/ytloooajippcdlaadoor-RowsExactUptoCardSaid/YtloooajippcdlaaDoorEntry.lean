/- The table that is built may be; rows.Entry of a table that may be; the law's own rows. -/
import Derived.Test.YtloooajippcdlaaDoorBuild
import Derived.Test.YtloooajippcdlaaDoorTblCheck
import Derived.Test.YtloooajippcdlaaDoorTabMath
import Derived.Deep.DeepCutAuto
namespace Go.Proofs.YtloooajippcdlaaDoor
open Go.RowKit

def Tab.tbl (T : Tab) : Tbl := ⟨T.classes, T.count, T.starts, T.next, T.label⟩
theorem TableV.tbl {w : World} {cv sv nv lv : Value} {T : Tab} (h : TableV w cv sv nv lv T) : TblV w (tabV cv sv nv lv T.count) T.tbl := ⟨cv, sv, nv, lv, rfl, h.classes, h.starts, h.next, h.label⟩
theorem TabOk.topc {T : Tab} {f g : Nat → Nat} {n : Nat} (h : TabOk T f g n) : ∀ i, i ≤ 256 → topc T.classes i = f i
  | 0, _ => h.zero.symm
  | i + 1, hi => by
    have ih := h.topc i (by omega)
    obtain ⟨h1, h2, h3⟩ := h.step i (by omega)
    by_cases e : g i = f i
    · rw [topc_yes (by rw [h1, ih, e]), ih, h3, if_pos e]
    · rw [topc_no (by rw [h1, ih]; omega), ih, h3, if_neg e]
theorem TabOk.may {T : Tab} {f g : Nat → Nat} {n : Nat} (h : TabOk T f g n) : TMay T.tbl where
  cls := ⟨h.classes, fun i hi => by
    obtain ⟨h1, h2, _⟩ := h.step i hi
    rw [show T.tbl.classes = T.classes from rfl, h.topc i (by omega), h1]; omega, by
    rw [show T.tbl.classes = T.classes from rfl, h.topc 256 (Nat.le_refl _), h.all]; rfl⟩
  some := h.some
  many := h.most2
  pos := by show 1 ≤ T.next.length; rw [h.len]; exact h.pos
  most := by show T.next.length ≤ 600; rw [h.len]; exact h.most
  labels := by show T.label.length = T.next.length; rw [h.len, h.labels]
  start i hi := by show _ ∧ _ < ((T.next.length : Nat) : Int); rw [h.len]; exact h.start i hi
  row i hi := by
    have hi' : i < T.next.length := hi
    rw [h.len] at hi'
    show ((T.next.getD i []).length : Int) = (T.count : Int)
    rw [h.row i hi']
  label i hi := by
    have hi' : i < T.next.length := hi
    rw [h.len] at hi'
    exact h.label i hi'
  dest i k hi hk := by
    have hi' : i < T.next.length := hi
    rw [h.len] at hi'
    have hk' : k < (T.next.getD i []).length := hk
    rw [h.row i hi'] at hk'
    show _ ∧ _ < ((T.next.length : Nat) : Int)
    rw [h.len]; exact h.dest i k hi' hk'
theorem built_may {l : List Dn} (h : MayL l) : TMay (built l).tbl := (built_ok h).may

/-- the entry of a state by a byte -/
def Tbl.entry (T : Tbl) (s b : Nat) : Int := (T.next.getD s []).getD (T.classes.getD b 0).toNat 0
theorem TMay.cls_lt {T : Tbl} (h : TMay T) {s b : Nat} (hs : s < T.next.length) (hb : b < 256) : (T.classes.getD b 0).toNat < (T.next.getD s []).length := by
  have h1 := (h.cls.step b hb).1
  have h2 := h.cls.low hb
  have h3 := h.row s hs
  omega

set_option maxRecDepth 100000 in
set_option maxHeartbeats 1000000 in
theorem entry_c {w : World} {v : Value} {T : Tbl} {s b : Nat} (h : TblV w v T) (hm : TMay T) (hs : s < T.next.length) (hb : b < 256) :
    Calls Tryd.prog 70 #[v, .int .i64 (s : Int), .int .u8 (b : Int)] w fun e w' => e = .returned (.tuple #[.int .i64 (T.entry s b), .nilIface]) ∧ Ext w w' := by
  obtain ⟨ac, cc, sa, sc, an, nc, al, lc, rfl, hcl, ho⟩ := h.open
  obtain ⟨_, _, _, hca, _, hco⟩ := hcl.open
  simp only [Value.slice.injEq] at hca
  obtain ⟨rfl, hca, rfl⟩ := hca
  clear hca
  have hck := rcheck_c (h.ext (Ext.box w (.cells #[.slice ac T.classes.length cc, .int .i64 T.count, .slice sa T.starts.length sc, .slice an T.next.length nc, .slice al T.label.length lc] 67)))
  rw [mayT_true.2 hm] at hck
  have hlen := hm.cls.len
  obtain ⟨bc, oc, rfl, hcc⟩ := hco (by omega)
  obtain ⟨bn, on, rfl, hn⟩ := ho.next (by omega)
  obtain ⟨r, hr, hrow⟩ := hn s hs
  obtain ⟨_, ar, cr, rfl, _, hro⟩ := hrow.open
  have hk := hm.cls_lt hs hb
  have c1 := hcc b (by omega)
  have hx := (hm.cls.step b hb).1
  have hent : T.entry s b = (T.next.getD s []).getD (T.classes.getD b 0).toNat 0 := rfl
  obtain ⟨k, hkk⟩ : ∃ k, k = (T.classes.getD b 0).toNat := ⟨_, rfl⟩
  rw [show T.classes.getD b 0 = (k : Int) by omega] at c1
  rw [← hkk] at hk hent
  obtain ⟨br, ro, rfl, hcell⟩ := hro (by omega)
  have c3 := hcell k hk
  rw [← hent] at c3
  rw [hlen] at hck ⊢
  generalize T.entry s b = x at *
  obtain ⟨R, hR⟩ : ∃ R, R = (T.next.getD s []).length := ⟨_, rfl⟩
  obtain ⟨n, hnn⟩ : ∃ n, n = T.next.length := ⟨_, rfl⟩
  rw [← hR] at hk hr
  rw [← hnn] at hs hck ⊢
  generalize T.count = ct at *
  generalize T.starts.length = S at *
  generalize T.label.length = m at *
  have hj1 : (s : Int) < n := by omega
  have hj2 : (k : Int) < R := by omega
  have hj3 : (b : Int) < 256 := by omega
  have HC := Lib.hid (And.intro hck (And.intro hr (And.intro c1 c3)))
  clear hck hr c1 c3 hent hkk hR hnn hcell hro hrow hn hcc hco hcl ho h hm hlen hx
  go_enter Tryd.func70, Tryd.ntmps70
  go_wp2_with fail
  refine HC.out.1.mono ?_
  rintro e w1 ⟨rfl, hx1⟩
  have hx0 := (Ext.box w _).trans hx1
  have k0 := hx1.cell (p := ⟨w.heap.size, 0, none⟩) (v := .slice (some ⟨bc, oc, none⟩) 256 cc) (by simp)
  have k3 := hx1.cell (p := ⟨w.heap.size, 3, none⟩) (v := .slice (some ⟨bn, on, none⟩) n nc) (by simp)
  have r0 := hx0.cell HC.out.2.1
  have r1 := hx0.cell HC.out.2.2.1
  have r3 := hx0.cell HC.out.2.2.2
  have HX := Lib.hid hx0
  clear hx0 hx1
  go_wp2_with fail
  go_quiet (fail)
  go_wp2
  go_ret2
  exact ⟨rfl, HX.out.drewN _⟩

set_option maxRecDepth 100000 in
set_option maxHeartbeats 1000000 in
theorem row15_c (n : Int) (b : Nat) (m : Int) (hb : b < 256) (w : World) :
    Calls Tryd.prog 69 #[.int .i64 n, .int .u8 (b : Int), .int .i64 m] w fun e w' => e = .returned (.slice (some ⟨w.heap.size, 0, none⟩) 256 256) ∧ Ext w w' ∧ w'.rowIs w.heap.size 3 256 (fun i => .int .i64 ((row15 n b m).getD i 0)) := by
  have hmk : (Instr.makeSlice 23 (.int .i64 256) (.int .i64 256)).run Tryd.prog w = .ok (.slice (some ⟨w.heap.size, 0, none⟩) 256 256) (w.alloc (.cells (madeCells #[.int .i64 0] 256) 3)) :=
    run_make_any (P := Tryd.prog) 23 3 (.int .i64 0) 1 8 Tryd.underlying23 int_info .i64 .i64 256 (by omega) (by omega) w
  have hcv : IntKind.i64.wrap (b : Int) = (b : Int) := IntWalk.i64_in _ (by omega)
  have hbi : (b : Int) < 256 := by omega
  go_enter Tryd.func69, Tryd.ntmps69
  go_wp2
  clear hmk
  go_loopw [8] (fun i wr => ∃ k : Nat, k ≤ 256 ∧ i = .int .i64 k ∧ Ext w wr ∧ wr.rowIs w.heap.size 3 256 (fun i => .int .i64 (if i < k then n else 0))) (fun i _ => 256 - (intOf i).toNat)
  case atStart =>
    refine ⟨0, Nat.zero_le _, rfl, Ext.box _ _, ?_⟩
    exact (World.rowIs_made w _ 256 3).congr (fun j _ => by simp)
  case round =>
    obtain ⟨k, hk, rfl, hx, hr⟩ := hrel
    by_cases hlt : k < 256
    · have f1 := hr.frozen k
      obtain ⟨v0, c3⟩ : ∃ v, wr.cell? ⟨w.heap.size, k, none⟩ = some v := ⟨_, hr.cell hlt⟩
      have HX := Lib.hid (And.intro hx hr)
      clear hx hr
      go_wp2
      go_roundw
      case rel => exact ⟨k + 1, by omega, by go_num, HX.out.1.setCell (Nat.le_refl _) _, (HX.out.2.set k _).congr (fun j _ => by
        by_cases e : j = k
        · rw [if_pos e, if_pos (by omega)]
        · rw [if_neg e]
          by_cases h : j < k
          · rw [if_pos h, if_pos (by omega)]
          · rw [if_neg h, if_neg (by omega)])⟩
      case measure => simp [intOf]; omega
    · obtain rfl : k = 256 := by omega
      have f1 := hr.frozen b
      obtain ⟨v0, c3⟩ : ∃ v, wr.cell? ⟨w.heap.size, b, none⟩ = some v := ⟨_, hr.cell hb⟩
      have HX := Lib.hid (And.intro hx hr)
      clear hx hr hlt
      go_wp2
      go_ret
      exact ⟨rfl, HX.out.1.setCell (Nat.le_refl _) _, (HX.out.2.set b _).congr fun j hj => by
        rw [row15_get _ _ _ hj]
        by_cases e : j = b
        · rw [if_pos e, if_pos e]
        · rw [if_neg e, if_neg e, if_pos hj]⟩
end Go.Proofs.YtloooajippcdlaaDoor
