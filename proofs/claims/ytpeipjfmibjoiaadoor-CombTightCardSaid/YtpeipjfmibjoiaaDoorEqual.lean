/- rows.equal: are two columns equal? -/
import Derived.Test.YtpeipjfmibjoiaaDoorColumn
import Derived.ChangeKeysEq
namespace Go.Proofs.YtpeipjfmibjoiaaDoor
open Go.RowKit

theorem items_ints {P : Program} {e : TypeId} (he : P.underlying e = some (.int .i64)) {d : Nat} {xs ys : Array Value} {a b : Nat → Int} (w : World) : ∀ is : List Nat, (∀ i ∈ is, xs[i]? = some (.int .i64 (a i)) ∧ ys[i]? = some (.int .i64 (b i))) →
    (Op.eqItems (d + 1) e 1 xs ys is).run P w = .ok (is.all fun i => a i == b i) w
  | [], _ => by simp [Op.eqItems]
  | i :: is, h => by
    obtain ⟨h1, h2⟩ := h i (List.mem_cons_self ..)
    have ih := items_ints (d := d) he w is fun j hj => h j (List.mem_cons_of_mem _ hj)
    have p1 : (part e xs (i * 1)).run P w = .ok (.int .i64 (a i)) w := by simp [part, isAgg, run_underlying he, h1]
    have p2 : (part e ys (i * 1)).run P w = .ok (.int .i64 (b i)) w := by simp [part, isAgg, run_underlying he, h2]
    simp only [Op.eqItems, Sem.run_bind, p1, p2, Result.andThen_ok, run_equalIn_int w d e .i64 .i64 (a i) (b i) he, List.all_cons]
    cases (a i == b i)
    · simp
    · simpa using ih

/-- are the first n numbers the same? -/
def alike (a b : Nat → Int) (n : Nat) : Bool := (List.range n).all fun k => a k == b k
theorem alike_iff {a b : Nat → Int} {n : Nat} : alike a b n = true ↔ ∀ k, k < n → a k = b k := by unfold alike; simp [List.all_eq_true]

theorem piece_eq' {a b : Nat → Int} (d : Nat) (w : World) : (Op.equalIn (d + 1 + 1) 224 (.agg #[.int .i64 (a 0), .int .i64 (a 1), .int .i64 (a 2), .int .i64 (a 3), .int .i64 (a 4), .int .i64 (a 5), .int .i64 (a 6), .int .i64 (a 7)])
    (.agg #[.int .i64 (b 0), .int .i64 (b 1), .int .i64 (b 2), .int .i64 (b 3), .int .i64 (b 4), .int .i64 (b 5), .int .i64 (b 6), .int .i64 (b 7)])).run Tryd.prog w = .ok (alike a b 8) w := by
  have hu := Tryd.underlying224
  obtain ⟨i, hi, _⟩ := Option.map_eq_some_iff.1 int_info
  rw [run_equalIn_array w (d + 1) _ _ hu hi, show Tryd.prog.cellsOf 3 = 1 by kernel_rfl]
  refine (items_ints (a := a) (b := b) Tryd.underlying3 w _ ?_).trans rfl
  intro j hj
  have : j < 8 := by simpa using hj
  rcases (by omega : j = 0 ∨ j = 1 ∨ j = 2 ∨ j = 3 ∨ j = 4 ∨ j = 5 ∨ j = 6 ∨ j = 7) with rfl | rfl | rfl | rfl | rfl | rfl | rfl | rfl <;> exact ⟨rfl, rfl⟩
theorem piece_eq {a b : Nat → Int} (w : World) : (Op.equalIn 10000 224 (.agg #[.int .i64 (a 0), .int .i64 (a 1), .int .i64 (a 2), .int .i64 (a 3), .int .i64 (a 4), .int .i64 (a 5), .int .i64 (a 6), .int .i64 (a 7)])
    (.agg #[.int .i64 (b 0), .int .i64 (b 1), .int .i64 (b 2), .int .i64 (b 3), .int .i64 (b 4), .int .i64 (b 5), .int .i64 (b 6), .int .i64 (b 7)])).run Tryd.prog w = .ok (alike a b 8) w := piece_eq' 9998 w

set_option maxRecDepth 100000 in
set_option maxHeartbeats 1000000 in
theorem equal_c {ga gb m : Nat} {fa fb : Nat → Int} {w : World} (hm : m ≤ 100) (ha : w.rowIs ga 224 (m * 8) (fun j => .int .i64 (fa j))) (hb : w.rowIs gb 224 (m * 8) (fun j => .int .i64 (fb j))) :
    Calls Tryd.prog 109 #[.slice (some ⟨ga, 0, none⟩) m m, .slice (some ⟨gb, 0, none⟩) m m] w fun e w' => e = .returned (.bool (alike fa fb (m * 8))) ∧ Ext w w' := by
  have H := Lib.hid (And.intro ha hb)
  clear ha hb
  go_enter Tryd.func109, Tryd.ntmps109
  go_wp2_with fail
  go_loopw [8] (fun iv wr => ∃ i : Nat, i ≤ m ∧ iv = .int .i64 i ∧ Ext w wr ∧ ∀ j, j < i * 8 → fa j = fb j) (fun iv _ => m - (intOf iv).toNat)
  case atStart => exact ⟨0, Nat.zero_le _, rfl, Ext.refl _, fun j hj => by omega⟩
  case round =>
    obtain ⟨i, hi, rfl, hx, he⟩ := hrel
    by_cases hlt : i < m
    · have ca := fun k (hk : k < 8) => (rowIs_ext hx H.out.1).cell (i := i * 8 + k) (by omega)
      have cb := fun k (hk : k < 8) => (rowIs_ext hx H.out.2).cell (i := i * 8 + k) (by omega)
      have a0 := ca 0 (by omega)
      have a1 := ca 1 (by omega)
      have a2 := ca 2 (by omega)
      have a3 := ca 3 (by omega)
      have a4 := ca 4 (by omega)
      have a5 := ca 5 (by omega)
      have a6 := ca 6 (by omega)
      have a7 := ca 7 (by omega)
      have b0 := cb 0 (by omega)
      have b1 := cb 1 (by omega)
      have b2 := cb 2 (by omega)
      have b3 := cb 3 (by omega)
      have b4 := cb 4 (by omega)
      have b5 := cb 5 (by omega)
      have b6 := cb 6 (by omega)
      have b7 := cb 7 (by omega)
      have hp := fun W => piece_eq (a := fun k => fa (i * 8 + k)) (b := fun k => fb (i * 8 + k)) W
      obtain ⟨r, hr⟩ : ∃ r, r = alike (fun k => fa (i * 8 + k)) (fun k => fb (i * 8 + k)) 8 := ⟨_, rfl⟩
      rw [← hr] at hp
      rw [Nat.add_zero] at a0 b0 hp
      have hj1 : (i : Int) < m := by omega
      have HR := Lib.hid (And.intro hr (And.intro hx he))
      clear ca cb hr hx he
      cases r
      · go_upto_region 4 with fail
        go_quiet (fail)
        go_wp2
        go_ret
        refine ⟨?_, HR.out.2.1.drewN _⟩
        have h2 : alike fa fb (m * 8) = false := by
          rw [Bool.eq_false_iff]
          intro h
          have := alike_iff (a := fun k => fa (i * 8 + k)) (b := fun k => fb (i * 8 + k)) (n := 8) |>.2 fun k hk => alike_iff.1 h (i * 8 + k) (by omega)
          rw [← HR.out.1] at this
          cases this
        rw [h2]; rfl
      · go_upto_region 4 with fail
        go_quiet (fail)
        go_wp2
        go_roundw
        case rel => exact ⟨i + 1, by omega, by go_num, HR.out.2.1.drewN _, fun j hj => by
          by_cases e : j < i * 8
          · exact HR.out.2.2 j e
          · have := alike_iff.1 HR.out.1.symm (j - i * 8) (by omega)
            rw [show i * 8 + (j - i * 8) = j by omega] at this
            exact this⟩
        case measure => simp [intOf]; omega
    · obtain rfl : m = i := by omega
      have HR := Lib.hid (And.intro hx he)
      clear hx he
      go_wp2
      go_ret
      refine ⟨?_, HR.out.1⟩
      rw [alike_iff.2 HR.out.2]; rfl
end Go.Proofs.YtpeipjfmibjoiaaDoor
