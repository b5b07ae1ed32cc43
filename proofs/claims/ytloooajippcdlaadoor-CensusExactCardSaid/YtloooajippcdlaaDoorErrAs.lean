/- errors.As of a sentinel of errors.New's make, at the targets that fault.Tell has: false each; only new memory (after the guide's worked text on errors.As). By mkerras.py. -/
import Derived.Test.YtloooajippcdlaaDoorCheck
import Derived.LaidEql
import Derived.Stop.Asserts
import Derived.RowKitTokens
import Derived.Test.YtloooajippcdlaaDoorMem
namespace Go.Proofs.YtloooajippcdlaaDoor
open Go.RowKit Go.Extern.Stop Go.Stop Go.Extern

theorem ei_typeOf (v : Value) (w : World) : (Extern.ReflectliteType.typeOf #[.iface 200 v]).run Tryd.prog w = .ok (.iface 185 (.agg #[.pointer (some ⟨Tryd.prog.globals.size, 200, none⟩)])) w := by kernel_rfl
theorem ei_glob : Tryd.prog.globals.size = 17 := by kernel_rfl
def eiCmp : Array Value → Sem Value := Extern.ReflectliteType.method fun t => do Extern.Rtype.noPackHeld "Comparable" t; pure (.bool (← typeInfo t).comparable)
theorem ei_comparable (w : World) : (eiCmp #[.agg #[.pointer (some ⟨17, 200, none⟩)]]).run Tryd.prog w = .ok (.bool true) w := by kernel_rfl
theorem ei_method (n : Nat) (v : Value) (w : World) : (Go.method (n + 1) 185 v "Comparable").run Tryd.prog w = .ok (135, v) w := by kernel_rfl
theorem ei_comp : (Tryd.prog.info? 200).map (·.comparable) = some true := by kernel_rfl
theorem ei_size : (Tryd.prog.info? 222).map (·.size) = some 1 := by kernel_rfl
theorem ei_noIs (v : Value) (xT : TypeId) (w : World) : (Instr.typeAssert (.iface 200 v) xT 197 true).run Tryd.prog w = .ok (.tuple #[.nilIface, .bool false]) w := run_typeAssert_lacksB Tryd.underlying197 (by kernel_rfl) (by kernel_rfl) v xT w
theorem ei_noUnwrap (v : Value) (xT : TypeId) (w : World) : (Instr.typeAssert (.iface 200 v) xT 192 true).run Tryd.prog w = .ok (.tuple #[.nilIface, .bool false]) w := run_typeAssert_lacksB Tryd.underlying192 (by kernel_rfl) (by kernel_rfl) v xT w
theorem ei_noUnwraps (v : Value) (xT : TypeId) (w : World) : (Instr.typeAssert (.iface 200 v) xT 194 true).run Tryd.prog w = .ok (.tuple #[.nilIface, .bool false]) w := run_typeAssert_lacksB Tryd.underlying194 (by kernel_rfl) (by kernel_rfl) v xT w

set_option maxRecDepth 100000 in
/-- errors.Is(x, x), x a pointer to an errors.errorString. -/
theorem is_same (a : Addr) (w : World) :
    Calls Tryd.prog 95 #[.iface 200 (.pointer (some a)), .iface 200 (.pointer (some a))] w fun e w' => e = .returned (.bool true) ∧ w = w' := by
  obtain ⟨i, hi, hcmp⟩ := Option.map_eq_some_iff.1 ei_comp
  obtain ⟨j, hj, hjs⟩ := Option.map_eq_some_iff.1 ei_size
  have h8 := @run_callFunc_extern Tryd.prog 101 _ Extern.ReflectliteType.typeOf Tryd.func101 (by kernel_rfl) (by kernel_rfl) (by kernel_rfl) (by kernel_rfl)
  have h32 := @run_callFunc_extern Tryd.prog 135 _ eiCmp Tryd.func135 (by kernel_rfl) (by kernel_rfl) (by kernel_rfl) (by kernel_rfl)
  have tT := ei_typeOf
  rw [ei_glob] at tT
  have cT := ei_comparable
  have mR := ei_method
  have heq := run_eql_iface_ptr_same (P := Tryd.prog) w a Tryd.underlying48 Tryd.underlying200 hi hcmp hj
  clear hi hcmp hj hjs
  go_enter Tryd.func95, Tryd.ntmps95
  go_wp2
  refine wp_loop_rounds 1 ?_
  rw [rounds_succ]
  go_wp2
  go_ret
  exact ⟨rfl, rfl⟩

set_option maxRecDepth 100000 in
/-- errors.Is(x, y), two different pointers to errors.errorString: neither has Is nor Unwrap: false. -/
theorem is_other (a b : Addr) (ca cb : Array Value) (ta tb : TypeId) (w : World) (hne : a ≠ b) (ha : w.heap[a.block]? = some (.cells ca ta (0, 0))) (hb : w.heap[b.block]? = some (.cells cb tb (0, 0))) :
    Calls Tryd.prog 95 #[.iface 200 (.pointer (some a)), .iface 200 (.pointer (some b))] w fun e w' => e = .returned (.bool false) ∧ w = w' := by
  obtain ⟨i, hi, hcmp⟩ := Option.map_eq_some_iff.1 ei_comp
  obtain ⟨j, hj, hjs⟩ := Option.map_eq_some_iff.1 ei_size
  have h8 := @run_callFunc_extern Tryd.prog 101 _ Extern.ReflectliteType.typeOf Tryd.func101 (by kernel_rfl) (by kernel_rfl) (by kernel_rfl) (by kernel_rfl)
  have h32 := @run_callFunc_extern Tryd.prog 135 _ eiCmp Tryd.func135 (by kernel_rfl) (by kernel_rfl) (by kernel_rfl) (by kernel_rfl)
  have tT := ei_typeOf
  rw [ei_glob] at tT
  have cT := ei_comparable
  have mR := ei_method
  have nE := ei_noIs
  have uE := ei_noUnwrap
  have vE := ei_noUnwraps
  have heq := run_eql_iface_ptr_other (P := Tryd.prog) w Tryd.underlying48 Tryd.underlying200 hi hcmp hj (by rw [hjs]; decide) hne ha hb
  clear hi hcmp hj hjs ha hb
  go_enter Tryd.func95, Tryd.ntmps95
  go_wp2
  refine wp_loop_rounds 1 ?_
  rw [rounds_succ]
  go_wp2
  go_ret
  exact ⟨rfl, rfl⟩
end Go.Proofs.YtloooajippcdlaaDoor

namespace Go.Proofs.YtloooajippcdlaaDoor
open Go.RowKit Go.Extern.Stop Go.Stop Go.Extern

def eaValueOf : Array Value → Sem Value := fun args => ReflectliteValue.unpack (args.getD 0 (.tuple #[]))
def eaType : Array Value → Sem Value := ReflectliteValue.methodAny (ReflectliteValue.valueError "reflectlite.Value.Type" 0) (fun t _ _ _ => ReflectliteType.toType t)
def eaIsNil : Array Value → Sem Value := ReflectliteValue.method (ReflectliteValue.valueError "reflectlite.Value.IsNil" 0) ReflectliteValue.isNil
def eaKind : Array Value → Sem Value := ReflectliteType.abiMethod fun t => do pure (.int .u8 (← Rtype.kind t))
def eaElem : Array Value → Sem Value := ReflectliteType.method ReflectliteType.elem
def eaImpl : Array Value → Sem Value := ReflectliteType.relation "Implements" ReflectliteType.implements_
def eaAssign : Array Value → Sem Value := ReflectliteType.relation "AssignableTo" ReflectliteType.assignableTo
theorem ea_mKind (n : Nat) (h : Value) (w : World) : (Go.method (n + 1) 185 (.agg #[h]) "Kind").run Tryd.prog w = .ok (119, h) w := by kernel_rfl
theorem ea_mElem (n : Nat) (h : Value) (w : World) : (Go.method (n + 1) 185 (.agg #[h]) "Elem").run Tryd.prog w = .ok (136, .agg #[h]) w := by kernel_rfl
theorem ea_mImpl (n : Nat) (h : Value) (w : World) : (Go.method (n + 1) 185 (.agg #[h]) "Implements").run Tryd.prog w = .ok (137, .agg #[h]) w := by kernel_rfl
theorem ea_mAssign (n : Nat) (h : Value) (w : World) : (Go.method (n + 1) 185 (.agg #[h]) "AssignableTo").run Tryd.prog w = .ok (134, .agg #[h]) w := by kernel_rfl
theorem ea_noAs (v : Value) (xT : TypeId) (w : World) : (Instr.typeAssert (.iface 200 v) xT 189 true).run Tryd.prog w = .ok (.tuple #[.nilIface, .bool false]) w := run_typeAssert_lacksB Tryd.underlying189 (by kernel_rfl) (by kernel_rfl) v xT w
theorem ea_rlm (z : Sem Value) (f : TypeId → Addr → Nat → Nat → Sem Value) (v : Value) :
    ReflectliteValue.method z f #[v] = (do match ← ReflectliteValue.parts v with | none => z | some (t, a, fl) => f t a fl (fl % 32)) := rfl

/- ---- placed ---- -/
theorem ea_valueOf_placed (t : Addr) (w : World) : (eaValueOf #[.iface 145 (.pointer (some t))]).run Tryd.prog w
    = .ok (.agg #[.pointer (some ⟨17, 145, none⟩), .pointer (some ⟨w.heap.size, 0, none⟩), .int .u64 150]) (w.alloc (.cells #[.pointer (some t)] 145)) := by kernel_rfl
theorem ea_type_placed (a : Addr) (w : World) : (eaType #[.agg #[.pointer (some ⟨17, 145, none⟩), .pointer (some a), .int .u64 150]]).run Tryd.prog w = .ok (.iface 185 (.agg #[.pointer (some ⟨17, 145, none⟩)])) w := by kernel_rfl
theorem ea_kindPP_placed (w : World) : (eaKind #[.pointer (some ⟨17, 145, none⟩)]).run Tryd.prog w = .ok (.int .u8 22) w := by kernel_rfl
theorem ea_kindP_placed (w : World) : (eaKind #[.pointer (some ⟨17, 143, none⟩)]).run Tryd.prog w = .ok (.int .u8 22) w := by kernel_rfl
theorem ea_parts_placed (a : Addr) (w : World) : (ReflectliteValue.parts (.agg #[.pointer (some ⟨17, 145, none⟩), .pointer (some a), .int .u64 150])).run Tryd.prog w = .ok (some (145, a, 150)) w := by kernel_rfl
theorem ea_isNil_placed (a p : Addr) (W : World) (ha : W.cell? a = some (.pointer (some p))) : (eaIsNil #[.agg #[.pointer (some ⟨17, 145, none⟩), .pointer (some a), .int .u64 150]]).run Tryd.prog W = .ok (.bool false) W := by
  unfold eaIsNil
  rw [ea_rlm]
  simp only [Sem.run_bind, ea_parts_placed, Result.andThen]
  simp [ReflectliteValue.isNil, loadVar, isAgg, underlying, Tryd.underlying145, ha, Result.andThen]
theorem ea_elem_placed (w : World) : (eaElem #[.agg #[.pointer (some ⟨17, 145, none⟩)]]).run Tryd.prog w = .ok (.iface 185 (.agg #[.pointer (some ⟨17, 143, none⟩)])) w := by kernel_rfl
theorem ea_impl_placed (w : World) : (eaImpl #[.agg #[.pointer (some ⟨17, 143, none⟩)], .iface 185 (.agg #[.pointer (some ⟨17, 48, none⟩)])]).run Tryd.prog w = .ok (.bool true) w := by kernel_rfl
theorem ea_assign_placed (w : World) : (eaAssign #[.agg #[.pointer (some ⟨17, 200, none⟩)], .iface 185 (.agg #[.pointer (some ⟨17, 143, none⟩)])]).run Tryd.prog w = .ok (.bool false) w := by kernel_rfl

set_option maxRecDepth 100000 in
set_option maxHeartbeats 4000000 in
theorem as_placed (e t : Addr) (w : World) (hg : w.cell? ⟨1, 0, none⟩ = some (.iface 185 (.agg #[.pointer (some ⟨17, 48, none⟩)]))) :
    Calls Tryd.prog 90 #[.iface 200 (.pointer (some e)), .iface 145 (.pointer (some t))] w fun ev w' => ev = .returned (.bool false) ∧ Ext w w' := by
  have h6 := @run_callFunc_extern Tryd.prog 97 _ eaValueOf Tryd.func97 (by kernel_rfl) (by kernel_rfl) (by kernel_rfl) (by kernel_rfl)
  have h7 := @run_callFunc_extern Tryd.prog 98 _ eaType Tryd.func98 (by kernel_rfl) (by kernel_rfl) (by kernel_rfl) (by kernel_rfl)
  have h8 := @run_callFunc_extern Tryd.prog 99 _ eaIsNil Tryd.func99 (by kernel_rfl) (by kernel_rfl) (by kernel_rfl) (by kernel_rfl)
  have h9 := @run_callFunc_extern Tryd.prog 119 _ eaKind Tryd.func119 (by kernel_rfl) (by kernel_rfl) (by kernel_rfl) (by kernel_rfl)
  have h10 := @run_callFunc_extern Tryd.prog 136 _ eaElem Tryd.func136 (by kernel_rfl) (by kernel_rfl) (by kernel_rfl) (by kernel_rfl)
  have h11 := @run_callFunc_extern Tryd.prog 137 _ eaImpl Tryd.func137 (by kernel_rfl) (by kernel_rfl) (by kernel_rfl) (by kernel_rfl)
  have h12 := @run_callFunc_extern Tryd.prog 134 _ eaAssign Tryd.func134 (by kernel_rfl) (by kernel_rfl) (by kernel_rfl) (by kernel_rfl)
  have h13 := @run_callFunc_extern Tryd.prog 101 _ Extern.ReflectliteType.typeOf Tryd.func101 (by kernel_rfl) (by kernel_rfl) (by kernel_rfl) (by kernel_rfl)
  have tT := ei_typeOf
  rw [ei_glob] at tT
  have mA := ea_mAssign
  have mK := ea_mKind
  have mE := ea_mElem
  have mI := ea_mImpl
  have f6 := ea_valueOf_placed
  have f7 := ea_type_placed
  have kPP := ea_kindPP_placed
  have kP := ea_kindP_placed
  have e27 := ea_elem_placed
  have i25 := ea_impl_placed
  have a25 := ea_assign_placed
  have n1 := ea_noAs
  have n2 := ei_noUnwrap
  have n3 := ei_noUnwraps
  obtain ⟨W1, hW1⟩ : ∃ W1, W1 = w.alloc (.cells #[.pointer (some t)] 145) := ⟨_, rfl⟩
  have hlt := lt_of_cell hg
  have n8 := ea_isNil_placed ⟨w.heap.size, 0, none⟩ t ((w.alloc (.cells #[.pointer (some t)] 145)).alloc (.cells #[.pointer (some ⟨17, 145, none⟩), .pointer (some ⟨w.heap.size, 0, none⟩), .int .u64 150] 173)) (by simp)
  have hg2 : ((w.alloc (.cells #[.pointer (some t)] 145)).alloc (.cells #[.pointer (some ⟨17, 145, none⟩), .pointer (some ⟨w.heap.size, 0, none⟩), .int .u64 150] 173)).cell? ⟨1, 0, none⟩ = some (.iface 185 (.agg #[.pointer (some ⟨17, 48, none⟩)])) :=
    ((Ext.box w _).trans (Ext.box _ _)).cell hg
  clear hW1
  go_enter Tryd.func90, Tryd.ntmps90
  go_wp2
  refine wp_loop_rounds 1 ?_
  rw [rounds_succ]
  go_wp2
  go_ret
  exact ⟨rfl, ((Ext.box w _).trans (Ext.box _ _)).trans (Ext.box _ _)⟩

/- ---- named ---- -/
theorem ea_valueOf_named (t : Addr) (w : World) : (eaValueOf #[.iface 149 (.pointer (some t))]).run Tryd.prog w
    = .ok (.agg #[.pointer (some ⟨17, 149, none⟩), .pointer (some ⟨w.heap.size, 0, none⟩), .int .u64 150]) (w.alloc (.cells #[.pointer (some t)] 149)) := by kernel_rfl
theorem ea_type_named (a : Addr) (w : World) : (eaType #[.agg #[.pointer (some ⟨17, 149, none⟩), .pointer (some a), .int .u64 150]]).run Tryd.prog w = .ok (.iface 185 (.agg #[.pointer (some ⟨17, 149, none⟩)])) w := by kernel_rfl
theorem ea_kindPP_named (w : World) : (eaKind #[.pointer (some ⟨17, 149, none⟩)]).run Tryd.prog w = .ok (.int .u8 22) w := by kernel_rfl
theorem ea_kindP_named (w : World) : (eaKind #[.pointer (some ⟨17, 148, none⟩)]).run Tryd.prog w = .ok (.int .u8 22) w := by kernel_rfl
theorem ea_parts_named (a : Addr) (w : World) : (ReflectliteValue.parts (.agg #[.pointer (some ⟨17, 149, none⟩), .pointer (some a), .int .u64 150])).run Tryd.prog w = .ok (some (149, a, 150)) w := by kernel_rfl
theorem ea_isNil_named (a p : Addr) (W : World) (ha : W.cell? a = some (.pointer (some p))) : (eaIsNil #[.agg #[.pointer (some ⟨17, 149, none⟩), .pointer (some a), .int .u64 150]]).run Tryd.prog W = .ok (.bool false) W := by
  unfold eaIsNil
  rw [ea_rlm]
  simp only [Sem.run_bind, ea_parts_named, Result.andThen]
  simp [ReflectliteValue.isNil, loadVar, isAgg, underlying, Tryd.underlying149, ha, Result.andThen]
theorem ea_elem_named (w : World) : (eaElem #[.agg #[.pointer (some ⟨17, 149, none⟩)]]).run Tryd.prog w = .ok (.iface 185 (.agg #[.pointer (some ⟨17, 148, none⟩)])) w := by kernel_rfl
theorem ea_impl_named (w : World) : (eaImpl #[.agg #[.pointer (some ⟨17, 148, none⟩)], .iface 185 (.agg #[.pointer (some ⟨17, 48, none⟩)])]).run Tryd.prog w = .ok (.bool true) w := by kernel_rfl
theorem ea_assign_named (w : World) : (eaAssign #[.agg #[.pointer (some ⟨17, 200, none⟩)], .iface 185 (.agg #[.pointer (some ⟨17, 148, none⟩)])]).run Tryd.prog w = .ok (.bool false) w := by kernel_rfl

set_option maxRecDepth 100000 in
set_option maxHeartbeats 4000000 in
theorem as_named (e t : Addr) (w : World) (hg : w.cell? ⟨1, 0, none⟩ = some (.iface 185 (.agg #[.pointer (some ⟨17, 48, none⟩)]))) :
    Calls Tryd.prog 90 #[.iface 200 (.pointer (some e)), .iface 149 (.pointer (some t))] w fun ev w' => ev = .returned (.bool false) ∧ Ext w w' := by
  have h6 := @run_callFunc_extern Tryd.prog 97 _ eaValueOf Tryd.func97 (by kernel_rfl) (by kernel_rfl) (by kernel_rfl) (by kernel_rfl)
  have h7 := @run_callFunc_extern Tryd.prog 98 _ eaType Tryd.func98 (by kernel_rfl) (by kernel_rfl) (by kernel_rfl) (by kernel_rfl)
  have h8 := @run_callFunc_extern Tryd.prog 99 _ eaIsNil Tryd.func99 (by kernel_rfl) (by kernel_rfl) (by kernel_rfl) (by kernel_rfl)
  have h9 := @run_callFunc_extern Tryd.prog 119 _ eaKind Tryd.func119 (by kernel_rfl) (by kernel_rfl) (by kernel_rfl) (by kernel_rfl)
  have h10 := @run_callFunc_extern Tryd.prog 136 _ eaElem Tryd.func136 (by kernel_rfl) (by kernel_rfl) (by kernel_rfl) (by kernel_rfl)
  have h11 := @run_callFunc_extern Tryd.prog 137 _ eaImpl Tryd.func137 (by kernel_rfl) (by kernel_rfl) (by kernel_rfl) (by kernel_rfl)
  have h12 := @run_callFunc_extern Tryd.prog 134 _ eaAssign Tryd.func134 (by kernel_rfl) (by kernel_rfl) (by kernel_rfl) (by kernel_rfl)
  have h13 := @run_callFunc_extern Tryd.prog 101 _ Extern.ReflectliteType.typeOf Tryd.func101 (by kernel_rfl) (by kernel_rfl) (by kernel_rfl) (by kernel_rfl)
  have tT := ei_typeOf
  rw [ei_glob] at tT
  have mA := ea_mAssign
  have mK := ea_mKind
  have mE := ea_mElem
  have mI := ea_mImpl
  have f6 := ea_valueOf_named
  have f7 := ea_type_named
  have kPP := ea_kindPP_named
  have kP := ea_kindP_named
  have e27 := ea_elem_named
  have i25 := ea_impl_named
  have a25 := ea_assign_named
  have n1 := ea_noAs
  have n2 := ei_noUnwrap
  have n3 := ei_noUnwraps
  obtain ⟨W1, hW1⟩ : ∃ W1, W1 = w.alloc (.cells #[.pointer (some t)] 149) := ⟨_, rfl⟩
  have hlt := lt_of_cell hg
  have n8 := ea_isNil_named ⟨w.heap.size, 0, none⟩ t ((w.alloc (.cells #[.pointer (some t)] 149)).alloc (.cells #[.pointer (some ⟨17, 149, none⟩), .pointer (some ⟨w.heap.size, 0, none⟩), .int .u64 150] 173)) (by simp)
  have hg2 : ((w.alloc (.cells #[.pointer (some t)] 149)).alloc (.cells #[.pointer (some ⟨17, 149, none⟩), .pointer (some ⟨w.heap.size, 0, none⟩), .int .u64 150] 173)).cell? ⟨1, 0, none⟩ = some (.iface 185 (.agg #[.pointer (some ⟨17, 48, none⟩)])) :=
    ((Ext.box w _).trans (Ext.box _ _)).cell hg
  clear hW1
  go_enter Tryd.func90, Tryd.ntmps90
  go_wp2
  refine wp_loop_rounds 1 ?_
  rw [rounds_succ]
  go_wp2
  go_ret
  exact ⟨rfl, ((Ext.box w _).trans (Ext.box _ _)).trans (Ext.box _ _)⟩

/- ---- ruled ---- -/
theorem ea_valueOf_ruled (t : Addr) (w : World) : (eaValueOf #[.iface 154 (.pointer (some t))]).run Tryd.prog w
    = .ok (.agg #[.pointer (some ⟨17, 154, none⟩), .pointer (some ⟨w.heap.size, 0, none⟩), .int .u64 150]) (w.alloc (.cells #[.pointer (some t)] 154)) := by kernel_rfl
theorem ea_type_ruled (a : Addr) (w : World) : (eaType #[.agg #[.pointer (some ⟨17, 154, none⟩), .pointer (some a), .int .u64 150]]).run Tryd.prog w = .ok (.iface 185 (.agg #[.pointer (some ⟨17, 154, none⟩)])) w := by kernel_rfl
theorem ea_kindPP_ruled (w : World) : (eaKind #[.pointer (some ⟨17, 154, none⟩)]).run Tryd.prog w = .ok (.int .u8 22) w := by kernel_rfl
theorem ea_kindP_ruled (w : World) : (eaKind #[.pointer (some ⟨17, 153, none⟩)]).run Tryd.prog w = .ok (.int .u8 22) w := by kernel_rfl
theorem ea_parts_ruled (a : Addr) (w : World) : (ReflectliteValue.parts (.agg #[.pointer (some ⟨17, 154, none⟩), .pointer (some a), .int .u64 150])).run Tryd.prog w = .ok (some (154, a, 150)) w := by kernel_rfl
theorem ea_isNil_ruled (a p : Addr) (W : World) (ha : W.cell? a = some (.pointer (some p))) : (eaIsNil #[.agg #[.pointer (some ⟨17, 154, none⟩), .pointer (some a), .int .u64 150]]).run Tryd.prog W = .ok (.bool false) W := by
  unfold eaIsNil
  rw [ea_rlm]
  simp only [Sem.run_bind, ea_parts_ruled, Result.andThen]
  simp [ReflectliteValue.isNil, loadVar, isAgg, underlying, Tryd.underlying154, ha, Result.andThen]
theorem ea_elem_ruled (w : World) : (eaElem #[.agg #[.pointer (some ⟨17, 154, none⟩)]]).run Tryd.prog w = .ok (.iface 185 (.agg #[.pointer (some ⟨17, 153, none⟩)])) w := by kernel_rfl
theorem ea_impl_ruled (w : World) : (eaImpl #[.agg #[.pointer (some ⟨17, 153, none⟩)], .iface 185 (.agg #[.pointer (some ⟨17, 48, none⟩)])]).run Tryd.prog w = .ok (.bool true) w := by kernel_rfl
theorem ea_assign_ruled (w : World) : (eaAssign #[.agg #[.pointer (some ⟨17, 200, none⟩)], .iface 185 (.agg #[.pointer (some ⟨17, 153, none⟩)])]).run Tryd.prog w = .ok (.bool false) w := by kernel_rfl

set_option maxRecDepth 100000 in
set_option maxHeartbeats 4000000 in
theorem as_ruled (e t : Addr) (w : World) (hg : w.cell? ⟨1, 0, none⟩ = some (.iface 185 (.agg #[.pointer (some ⟨17, 48, none⟩)]))) :
    Calls Tryd.prog 90 #[.iface 200 (.pointer (some e)), .iface 154 (.pointer (some t))] w fun ev w' => ev = .returned (.bool false) ∧ Ext w w' := by
  have h6 := @run_callFunc_extern Tryd.prog 97 _ eaValueOf Tryd.func97 (by kernel_rfl) (by kernel_rfl) (by kernel_rfl) (by kernel_rfl)
  have h7 := @run_callFunc_extern Tryd.prog 98 _ eaType Tryd.func98 (by kernel_rfl) (by kernel_rfl) (by kernel_rfl) (by kernel_rfl)
  have h8 := @run_callFunc_extern Tryd.prog 99 _ eaIsNil Tryd.func99 (by kernel_rfl) (by kernel_rfl) (by kernel_rfl) (by kernel_rfl)
  have h9 := @run_callFunc_extern Tryd.prog 119 _ eaKind Tryd.func119 (by kernel_rfl) (by kernel_rfl) (by kernel_rfl) (by kernel_rfl)
  have h10 := @run_callFunc_extern Tryd.prog 136 _ eaElem Tryd.func136 (by kernel_rfl) (by kernel_rfl) (by kernel_rfl) (by kernel_rfl)
  have h11 := @run_callFunc_extern Tryd.prog 137 _ eaImpl Tryd.func137 (by kernel_rfl) (by kernel_rfl) (by kernel_rfl) (by kernel_rfl)
  have h12 := @run_callFunc_extern Tryd.prog 134 _ eaAssign Tryd.func134 (by kernel_rfl) (by kernel_rfl) (by kernel_rfl) (by kernel_rfl)
  have h13 := @run_callFunc_extern Tryd.prog 101 _ Extern.ReflectliteType.typeOf Tryd.func101 (by kernel_rfl) (by kernel_rfl) (by kernel_rfl) (by kernel_rfl)
  have tT := ei_typeOf
  rw [ei_glob] at tT
  have mA := ea_mAssign
  have mK := ea_mKind
  have mE := ea_mElem
  have mI := ea_mImpl
  have f6 := ea_valueOf_ruled
  have f7 := ea_type_ruled
  have kPP := ea_kindPP_ruled
  have kP := ea_kindP_ruled
  have e27 := ea_elem_ruled
  have i25 := ea_impl_ruled
  have a25 := ea_assign_ruled
  have n1 := ea_noAs
  have n2 := ei_noUnwrap
  have n3 := ei_noUnwraps
  obtain ⟨W1, hW1⟩ : ∃ W1, W1 = w.alloc (.cells #[.pointer (some t)] 154) := ⟨_, rfl⟩
  have hlt := lt_of_cell hg
  have n8 := ea_isNil_ruled ⟨w.heap.size, 0, none⟩ t ((w.alloc (.cells #[.pointer (some t)] 154)).alloc (.cells #[.pointer (some ⟨17, 154, none⟩), .pointer (some ⟨w.heap.size, 0, none⟩), .int .u64 150] 173)) (by simp)
  have hg2 : ((w.alloc (.cells #[.pointer (some t)] 154)).alloc (.cells #[.pointer (some ⟨17, 154, none⟩), .pointer (some ⟨w.heap.size, 0, none⟩), .int .u64 150] 173)).cell? ⟨1, 0, none⟩ = some (.iface 185 (.agg #[.pointer (some ⟨17, 48, none⟩)])) :=
    ((Ext.box w _).trans (Ext.box _ _)).cell hg
  clear hW1
  go_enter Tryd.func90, Tryd.ntmps90
  go_wp2
  refine wp_loop_rounds 1 ?_
  rw [rounds_succ]
  go_wp2
  go_ret
  exact ⟨rfl, ((Ext.box w _).trans (Ext.box _ _)).trans (Ext.box _ _)⟩

/- ---- staged ---- -/
theorem ea_valueOf_staged (t : Addr) (w : World) : (eaValueOf #[.iface 158 (.pointer (some t))]).run Tryd.prog w
    = .ok (.agg #[.pointer (some ⟨17, 158, none⟩), .pointer (some ⟨w.heap.size, 0, none⟩), .int .u64 150]) (w.alloc (.cells #[.pointer (some t)] 158)) := by kernel_rfl
theorem ea_type_staged (a : Addr) (w : World) : (eaType #[.agg #[.pointer (some ⟨17, 158, none⟩), .pointer (some a), .int .u64 150]]).run Tryd.prog w = .ok (.iface 185 (.agg #[.pointer (some ⟨17, 158, none⟩)])) w := by kernel_rfl
theorem ea_kindPP_staged (w : World) : (eaKind #[.pointer (some ⟨17, 158, none⟩)]).run Tryd.prog w = .ok (.int .u8 22) w := by kernel_rfl
theorem ea_kindP_staged (w : World) : (eaKind #[.pointer (some ⟨17, 157, none⟩)]).run Tryd.prog w = .ok (.int .u8 22) w := by kernel_rfl
theorem ea_parts_staged (a : Addr) (w : World) : (ReflectliteValue.parts (.agg #[.pointer (some ⟨17, 158, none⟩), .pointer (some a), .int .u64 150])).run Tryd.prog w = .ok (some (158, a, 150)) w := by kernel_rfl
theorem ea_isNil_staged (a p : Addr) (W : World) (ha : W.cell? a = some (.pointer (some p))) : (eaIsNil #[.agg #[.pointer (some ⟨17, 158, none⟩), .pointer (some a), .int .u64 150]]).run Tryd.prog W = .ok (.bool false) W := by
  unfold eaIsNil
  rw [ea_rlm]
  simp only [Sem.run_bind, ea_parts_staged, Result.andThen]
  simp [ReflectliteValue.isNil, loadVar, isAgg, underlying, Tryd.underlying158, ha, Result.andThen]
theorem ea_elem_staged (w : World) : (eaElem #[.agg #[.pointer (some ⟨17, 158, none⟩)]]).run Tryd.prog w = .ok (.iface 185 (.agg #[.pointer (some ⟨17, 157, none⟩)])) w := by kernel_rfl
theorem ea_impl_staged (w : World) : (eaImpl #[.agg #[.pointer (some ⟨17, 157, none⟩)], .iface 185 (.agg #[.pointer (some ⟨17, 48, none⟩)])]).run Tryd.prog w = .ok (.bool true) w := by kernel_rfl
theorem ea_assign_staged (w : World) : (eaAssign #[.agg #[.pointer (some ⟨17, 200, none⟩)], .iface 185 (.agg #[.pointer (some ⟨17, 157, none⟩)])]).run Tryd.prog w = .ok (.bool false) w := by kernel_rfl

set_option maxRecDepth 100000 in
set_option maxHeartbeats 4000000 in
theorem as_staged (e t : Addr) (w : World) (hg : w.cell? ⟨1, 0, none⟩ = some (.iface 185 (.agg #[.pointer (some ⟨17, 48, none⟩)]))) :
    Calls Tryd.prog 90 #[.iface 200 (.pointer (some e)), .iface 158 (.pointer (some t))] w fun ev w' => ev = .returned (.bool false) ∧ Ext w w' := by
  have h6 := @run_callFunc_extern Tryd.prog 97 _ eaValueOf Tryd.func97 (by kernel_rfl) (by kernel_rfl) (by kernel_rfl) (by kernel_rfl)
  have h7 := @run_callFunc_extern Tryd.prog 98 _ eaType Tryd.func98 (by kernel_rfl) (by kernel_rfl) (by kernel_rfl) (by kernel_rfl)
  have h8 := @run_callFunc_extern Tryd.prog 99 _ eaIsNil Tryd.func99 (by kernel_rfl) (by kernel_rfl) (by kernel_rfl) (by kernel_rfl)
  have h9 := @run_callFunc_extern Tryd.prog 119 _ eaKind Tryd.func119 (by kernel_rfl) (by kernel_rfl) (by kernel_rfl) (by kernel_rfl)
  have h10 := @run_callFunc_extern Tryd.prog 136 _ eaElem Tryd.func136 (by kernel_rfl) (by kernel_rfl) (by kernel_rfl) (by kernel_rfl)
  have h11 := @run_callFunc_extern Tryd.prog 137 _ eaImpl Tryd.func137 (by kernel_rfl) (by kernel_rfl) (by kernel_rfl) (by kernel_rfl)
  have h12 := @run_callFunc_extern Tryd.prog 134 _ eaAssign Tryd.func134 (by kernel_rfl) (by kernel_rfl) (by kernel_rfl) (by kernel_rfl)
  have h13 := @run_callFunc_extern Tryd.prog 101 _ Extern.ReflectliteType.typeOf Tryd.func101 (by kernel_rfl) (by kernel_rfl) (by kernel_rfl) (by kernel_rfl)
  have tT := ei_typeOf
  rw [ei_glob] at tT
  have mA := ea_mAssign
  have mK := ea_mKind
  have mE := ea_mElem
  have mI := ea_mImpl
  have f6 := ea_valueOf_staged
  have f7 := ea_type_staged
  have kPP := ea_kindPP_staged
  have kP := ea_kindP_staged
  have e27 := ea_elem_staged
  have i25 := ea_impl_staged
  have a25 := ea_assign_staged
  have n1 := ea_noAs
  have n2 := ei_noUnwrap
  have n3 := ei_noUnwraps
  obtain ⟨W1, hW1⟩ : ∃ W1, W1 = w.alloc (.cells #[.pointer (some t)] 158) := ⟨_, rfl⟩
  have hlt := lt_of_cell hg
  have n8 := ea_isNil_staged ⟨w.heap.size, 0, none⟩ t ((w.alloc (.cells #[.pointer (some t)] 158)).alloc (.cells #[.pointer (some ⟨17, 158, none⟩), .pointer (some ⟨w.heap.size, 0, none⟩), .int .u64 150] 173)) (by simp)
  have hg2 : ((w.alloc (.cells #[.pointer (some t)] 158)).alloc (.cells #[.pointer (some ⟨17, 158, none⟩), .pointer (some ⟨w.heap.size, 0, none⟩), .int .u64 150] 173)).cell? ⟨1, 0, none⟩ = some (.iface 185 (.agg #[.pointer (some ⟨17, 48, none⟩)])) :=
    ((Ext.box w _).trans (Ext.box _ _)).cell hg
  clear hW1
  go_enter Tryd.func90, Tryd.ntmps90
  go_wp2
  refine wp_loop_rounds 1 ?_
  rw [rounds_succ]
  go_wp2
  go_ret
  exact ⟨rfl, ((Ext.box w _).trans (Ext.box _ _)).trans (Ext.box _ _)⟩

end Go.Proofs.YtloooajippcdlaaDoor
