/- errors.Is over sentinels of errors.New's make (after the guide's worked text on errors.Is). -/
import Derived.Test.YtngbaaiocoobdaaDoorCheck
import Derived.LaidEql
import Derived.Stop.Asserts
import Derived.RowKitTokens
namespace Go.Proofs.YtngbaaiocoobdaaDoor
open Go.RowKit Go.Extern.Stop Go.Stop Go.Extern

theorem ei_typeOf (v : Value) (w : World) : (Extern.ReflectliteType.typeOf #[.iface 196 v]).run Tryd.prog w = .ok (.iface 181 (.agg #[.pointer (some ⟨Tryd.prog.globals.size, 196, none⟩)])) w := by kernel_rfl
theorem ei_glob : Tryd.prog.globals.size = 17 := by kernel_rfl
def eiCmp : Array Value → Sem Value := Extern.ReflectliteType.method fun t => do Extern.Rtype.noPackHeld "Comparable" t; pure (.bool (← typeInfo t).comparable)
theorem ei_comparable (w : World) : (eiCmp #[.agg #[.pointer (some ⟨17, 196, none⟩)]]).run Tryd.prog w = .ok (.bool true) w := by kernel_rfl
theorem ei_method (n : Nat) (v : Value) (w : World) : (Go.method (n + 1) 181 v "Comparable").run Tryd.prog w = .ok (142, v) w := by kernel_rfl
theorem ei_comp : (Tryd.prog.info? 196).map (·.comparable) = some true := by kernel_rfl
theorem ei_size : (Tryd.prog.info? 218).map (·.size) = some 1 := by kernel_rfl
theorem ei_noIs (v : Value) (xT : TypeId) (w : World) : (Instr.typeAssert (.iface 196 v) xT 193 true).run Tryd.prog w = .ok (.tuple #[.nilIface, .bool false]) w := run_typeAssert_lacksB Tryd.underlying193 (by kernel_rfl) (by kernel_rfl) v xT w
theorem ei_noUnwrap (v : Value) (xT : TypeId) (w : World) : (Instr.typeAssert (.iface 196 v) xT 188 true).run Tryd.prog w = .ok (.tuple #[.nilIface, .bool false]) w := run_typeAssert_lacksB Tryd.underlying188 (by kernel_rfl) (by kernel_rfl) v xT w
theorem ei_noUnwraps (v : Value) (xT : TypeId) (w : World) : (Instr.typeAssert (.iface 196 v) xT 190 true).run Tryd.prog w = .ok (.tuple #[.nilIface, .bool false]) w := run_typeAssert_lacksB Tryd.underlying190 (by kernel_rfl) (by kernel_rfl) v xT w

set_option maxRecDepth 100000 in
/-- errors.Is(x, x), x a pointer to an errors.errorString. -/
theorem is_same (a : Addr) (w : World) :
    Calls Tryd.prog 100 #[.iface 196 (.pointer (some a)), .iface 196 (.pointer (some a))] w fun e w' => e = .returned (.bool true) ∧ w = w' := by
  obtain ⟨i, hi, hcmp⟩ := Option.map_eq_some_iff.1 ei_comp
  obtain ⟨j, hj, hjs⟩ := Option.map_eq_some_iff.1 ei_size
  have h8 := @run_callFunc_extern Tryd.prog 107 _ Extern.ReflectliteType.typeOf Tryd.func107 (by kernel_rfl) (by kernel_rfl) (by kernel_rfl) (by kernel_rfl)
  have h32 := @run_callFunc_extern Tryd.prog 142 _ eiCmp Tryd.func142 (by kernel_rfl) (by kernel_rfl) (by kernel_rfl) (by kernel_rfl)
  have tT := ei_typeOf
  rw [ei_glob] at tT
  have cT := ei_comparable
  have mR := ei_method
  have heq := run_eql_iface_ptr_same (P := Tryd.prog) w a Tryd.underlying41 Tryd.underlying196 hi hcmp hj
  clear hi hcmp hj hjs
  go_enter Tryd.func100, Tryd.ntmps100
  go_wp2
  refine wp_loop_rounds 1 ?_
  rw [rounds_succ]
  go_wp2
  go_ret
  exact ⟨rfl, rfl⟩

set_option maxRecDepth 100000 in
/-- errors.Is(x, y), two different pointers to errors.errorString: neither has Is nor Unwrap: false. -/
theorem is_other (a b : Addr) (ca cb : Array Value) (ta tb : TypeId) (w : World) (hne : a ≠ b) (ha : w.heap[a.block]? = some (.cells ca ta (0, 0))) (hb : w.heap[b.block]? = some (.cells cb tb (0, 0))) :
    Calls Tryd.prog 100 #[.iface 196 (.pointer (some a)), .iface 196 (.pointer (some b))] w fun e w' => e = .returned (.bool false) ∧ w = w' := by
  obtain ⟨i, hi, hcmp⟩ := Option.map_eq_some_iff.1 ei_comp
  obtain ⟨j, hj, hjs⟩ := Option.map_eq_some_iff.1 ei_size
  have h8 := @run_callFunc_extern Tryd.prog 107 _ Extern.ReflectliteType.typeOf Tryd.func107 (by kernel_rfl) (by kernel_rfl) (by kernel_rfl) (by kernel_rfl)
  have h32 := @run_callFunc_extern Tryd.prog 142 _ eiCmp Tryd.func142 (by kernel_rfl) (by kernel_rfl) (by kernel_rfl) (by kernel_rfl)
  have tT := ei_typeOf
  rw [ei_glob] at tT
  have cT := ei_comparable
  have mR := ei_method
  have nE := ei_noIs
  have uE := ei_noUnwrap
  have vE := ei_noUnwraps
  have heq := run_eql_iface_ptr_other (P := Tryd.prog) w Tryd.underlying41 Tryd.underlying196 hi hcmp hj (by rw [hjs]; decide) hne ha hb
  clear hi hcmp hj hjs ha hb
  go_enter Tryd.func100, Tryd.ntmps100
  go_wp2
  refine wp_loop_rounds 1 ?_
  rw [rounds_succ]
  go_wp2
  go_ret
  exact ⟨rfl, rfl⟩
end Go.Proofs.YtngbaaiocoobdaaDoor
