/- Chapter 1: errors.Is by its contracts, at the seat's faults (after the kit's worked text on errors.Is). -/
import Derived.Test.YtaihimaopedicaaDoorAv1ea
import Derived.Deep.QuietTactic
import Derived.BigQuiet
import Derived.Deep.RegionWith
set_option linter.unusedVariables false
set_option linter.unusedSimpArgs false
namespace Go.Proofs.YtaihimaopedicaaDoor
open Go.RowKit Go.Extern.Stop Go.Stop Go.Extern
theorem Is.typeOf (v : Value) (w : World) : (Extern.ReflectliteType.typeOf #[.iface 26 v]).run Tryd.prog w = .ok (.iface 61 (.agg #[.pointer (some ⟨1, 26, none⟩)])) w := by kernel_rfl
theorem Is.comparable (w : World) : ((Extern.ReflectliteType.method fun t => do Rtype.noPackHeld "Comparable" t; Functor.map (fun a => Value.bool a.comparable) (typeInfo t)) #[.agg #[.pointer (some ⟨1, 26, none⟩)]]).run Tryd.prog w = .ok (.bool true) w := by kernel_rfl
theorem Is.methodComparable (v : Value) (w : World) : (Go.method 209 61 v "Comparable").run Tryd.prog w = .ok (51, v) w := by kernel_rfl
theorem Is.hasIs (v : Value) (xT : TypeId) (w : World) : (Instr.typeAssert (.iface 35 v) xT 73 true).run Tryd.prog w = .ok (.tuple #[.iface 35 v, .bool true]) w := run_typeAssert_hasB Tryd.underlying73 (by kernel_rfl) v xT w
theorem Is.hasUnwrap (v : Value) (xT : TypeId) (w : World) : (Instr.typeAssert (.iface 35 v) xT 68 true).run Tryd.prog w = .ok (.tuple #[.iface 35 v, .bool true]) w := run_typeAssert_hasB Tryd.underlying68 (by kernel_rfl) v xT w
theorem Is.methodIs (v : Value) (w : World) : (Go.method 209 35 v "Is").run Tryd.prog w = .ok (44, v) w := by kernel_rfl
theorem Is.methodUnwrap (v : Value) (w : World) : (Go.method 209 35 v "Unwrap").run Tryd.prog w = .ok (45, v) w := by kernel_rfl
theorem Is.errno (v : Value) (w : World) : (Instr.typeAssert (.iface 26 v) 24 26 true).run Tryd.prog w = .ok (.tuple #[v, .bool true]) w := by kernel_rfl
/-- (*Fault).Is at a number. -/
theorem is_num (p : Nat) (k k0 : Int) (w : World) (hc : w.cell? ⟨p, 0, none⟩ = some (.int .i64 k0)) :
    Calls Tryd.prog 44 #[.pointer (some ⟨p, 0, none⟩), .iface 26 (.int .i64 k)] w fun e w' => e = .returned (.bool (k == k0)) ∧ w' = w := by
  have tA := Is.errno
  cases hb : k == k0 with
  | true =>
    go_enter Tryd.func44, Tryd.ntmps44
    go_wp2
    go_ret
    exact ⟨rfl, rfl⟩
  | false =>
    go_enter Tryd.func44, Tryd.ntmps44
    go_wp2
    go_ret
    exact ⟨rfl, rfl⟩
/-- errors.Is at a fault of that kind. -/
theorem is_hit (p : Nat) (k k0 : Int) (w : World) (hc : w.cell? ⟨p, 0, none⟩ = some (.int .i64 k0)) (hk : (k == k0) = true) :
    Calls Tryd.prog 13 #[.iface 35 (.pointer (some ⟨p, 0, none⟩)), .iface 26 (.int .i64 k)] w fun e w' => e = .returned (.bool true) ∧ w' = w := by
  have h19 := @run_callFunc_extern Tryd.prog 19 _ Extern.ReflectliteType.typeOf Tryd.func19 (by kernel_rfl) (by kernel_rfl) (by kernel_rfl) (by kernel_rfl)
  have h51 := @run_callFunc_extern Tryd.prog 51 _ (Extern.ReflectliteType.method fun t => do Rtype.noPackHeld "Comparable" t; pure (.bool (← typeInfo t).comparable)) Tryd.func51 (by kernel_rfl) (by kernel_rfl) (by kernel_rfl) (by kernel_rfl)
  have tT := Is.typeOf
  have cT := Is.comparable
  have mR := Is.methodComparable
  have hI := Is.hasIs
  have mI := Is.methodIs
  have hty := run_eql_iface_types (P := Tryd.prog) 35 26 (.pointer (some ⟨p, 0, none⟩)) (.int .i64 k) Tryd.underlying24 (by decide) w
  have hn := is_num p k k0 w hc
  rw [hk] at hn
  go_enter Tryd.func13, Tryd.ntmps13
  go_wp2
  refine wp_loop_rounds 1 ?_
  rw [rounds_succ]
  go_wp2_with (go_at_call 44; refine hn.mono ?_; rintro e w' ⟨rfl, rfl⟩)
  go_ret
  exact ⟨rfl, rfl⟩
theorem unwrap_any (p : Nat) (v : Value) (w : World) (h : w.cell? ⟨p, 2, none⟩ = some v) : Calls Tryd.prog 45 #[.pointer (some ⟨p, 0, none⟩)] w fun e w' => e = .returned v ∧ w' = w := by
  go_enter Tryd.func45, Tryd.ntmps45
  go_wp2
  go_ret
  exact ⟨rfl, rfl⟩
/-- errors.Is at a fault that came from another one of that kind. -/
theorem is_inner (p q : Nat) (k k0 k1 : Int) (w : World) (hc : w.cell? ⟨p, 0, none⟩ = some (.int .i64 k0)) (hk : (k == k0) = false) (hi : w.cell? ⟨p, 2, none⟩ = some (.iface 35 (.pointer (some ⟨q, 0, none⟩)))) (hc1 : w.cell? ⟨q, 0, none⟩ = some (.int .i64 k1)) (hk1 : (k == k1) = true) :
    Calls Tryd.prog 13 #[.iface 35 (.pointer (some ⟨p, 0, none⟩)), .iface 26 (.int .i64 k)] w fun e w' => e = .returned (.bool true) ∧ w' = w := by
  have h19 := @run_callFunc_extern Tryd.prog 19 _ Extern.ReflectliteType.typeOf Tryd.func19 (by kernel_rfl) (by kernel_rfl) (by kernel_rfl) (by kernel_rfl)
  have h51 := @run_callFunc_extern Tryd.prog 51 _ (Extern.ReflectliteType.method fun t => do Rtype.noPackHeld "Comparable" t; pure (.bool (← typeInfo t).comparable)) Tryd.func51 (by kernel_rfl) (by kernel_rfl) (by kernel_rfl) (by kernel_rfl)
  have tT := Is.typeOf
  have cT := Is.comparable
  have mR := Is.methodComparable
  have hI := Is.hasIs
  have mI := Is.methodIs
  have hU := Is.hasUnwrap
  have mU := Is.methodUnwrap
  have hty := run_eql_iface_types (P := Tryd.prog) 35 26 (.pointer (some ⟨p, 0, none⟩)) (.int .i64 k) Tryd.underlying24 (by decide) w
  have hty2 := run_eql_iface_types (P := Tryd.prog) 35 26 (.pointer (some ⟨q, 0, none⟩)) (.int .i64 k) Tryd.underlying24 (by decide) w
  have hn := is_num p k k0 w hc
  rw [hk] at hn
  have hn2 := is_num q k k1 w hc1
  rw [hk1] at hn2
  have hu := unwrap_any p _ w hi
  have hu2 := hu
  go_enter Tryd.func13, Tryd.ntmps13
  go_wp2
  refine wp_loop_rounds 2 ?_
  rw [rounds_succ]
  go_wp2_with (first
    | (go_at_call_of 44 (Value.pointer (some ⟨p, 0, none⟩)); refine hn.mono ?_; rintro e w' ⟨rfl, rfl⟩)
    | (go_at_call 45; refine hu.mono ?_; rintro e w' ⟨rfl, rfl⟩))
  rw [rounds_succ]
  go_wp2_with (first
    | (go_at_call 44; refine hn2.mono ?_; rintro e w' ⟨rfl, rfl⟩)
    | (go_at_call 45; refine hu2.mono ?_; rintro e w' ⟨rfl, rfl⟩))
  go_ret
  exact ⟨rfl, rfl⟩
/-- errors.Is where neither is of that kind. -/
theorem is_none (p q : Nat) (k k0 k1 : Int) (w : World) (hc : w.cell? ⟨p, 0, none⟩ = some (.int .i64 k0)) (hk : (k == k0) = false) (hi : w.cell? ⟨p, 2, none⟩ = some (.iface 35 (.pointer (some ⟨q, 0, none⟩)))) (hc1 : w.cell? ⟨q, 0, none⟩ = some (.int .i64 k1)) (hk1 : (k == k1) = false) (hq : w.cell? ⟨q, 2, none⟩ = some .nilIface) :
    Calls Tryd.prog 13 #[.iface 35 (.pointer (some ⟨p, 0, none⟩)), .iface 26 (.int .i64 k)] w fun e w' => e = .returned (.bool false) ∧ w' = w := by
  have h19 := @run_callFunc_extern Tryd.prog 19 _ Extern.ReflectliteType.typeOf Tryd.func19 (by kernel_rfl) (by kernel_rfl) (by kernel_rfl) (by kernel_rfl)
  have h51 := @run_callFunc_extern Tryd.prog 51 _ (Extern.ReflectliteType.method fun t => do Rtype.noPackHeld "Comparable" t; pure (.bool (← typeInfo t).comparable)) Tryd.func51 (by kernel_rfl) (by kernel_rfl) (by kernel_rfl) (by kernel_rfl)
  have tT := Is.typeOf
  have cT := Is.comparable
  have mR := Is.methodComparable
  have hI := Is.hasIs
  have mI := Is.methodIs
  have hU := Is.hasUnwrap
  have mU := Is.methodUnwrap
  have hty := run_eql_iface_types (P := Tryd.prog) 35 26 (.pointer (some ⟨p, 0, none⟩)) (.int .i64 k) Tryd.underlying24 (by decide) w
  have hty2 := run_eql_iface_types (P := Tryd.prog) 35 26 (.pointer (some ⟨q, 0, none⟩)) (.int .i64 k) Tryd.underlying24 (by decide) w
  have hn := is_num p k k0 w hc
  rw [hk] at hn
  have hn2 := is_num q k k1 w hc1
  rw [hk1] at hn2
  have hu := unwrap_any p _ w hi
  have hu2 := unwrap_any q _ w hq
  go_enter Tryd.func13, Tryd.ntmps13
  go_wp2
  refine wp_loop_rounds 2 ?_
  rw [rounds_succ]
  go_wp2_with (first
    | (go_at_call_of 44 (Value.pointer (some ⟨p, 0, none⟩)); refine hn.mono ?_; rintro e w' ⟨rfl, rfl⟩)
    | (go_at_call 45; refine hu.mono ?_; rintro e w' ⟨rfl, rfl⟩))
  rw [rounds_succ]
  go_wp2_with (first
    | (go_at_call 44; refine hn2.mono ?_; rintro e w' ⟨rfl, rfl⟩)
    | (go_at_call 45; refine hu2.mono ?_; rintro e w' ⟨rfl, rfl⟩))
  go_ret
  exact ⟨rfl, rfl⟩
end Go.Proofs.YtaihimaopedicaaDoor
