/- The evaluator, in one text: over any program; no conditions but those that each law names. -/
import Derived.Test.YtdbimjpjpgfeeaaDoorMem
import Derived.Test.YtdbimjpjpgfeeaaDoorChecked
import Derived.LaidEql
import Derived.Stop.Asserts
import Derived.RowKitTokens
import Derived.Test.YtdbimjpjpgfeeaaDoorAvsg
import Derived.Deep.RegionWith
set_option linter.unusedSimpArgs false
set_option linter.unusedVariables false
set_option linter.unusedSectionVars false
/- Chapter 11: errors.As by its contracts, at the seat's numbers (turned from the kit's worked text on errors.As); faults told by their numbers and places. -/
set_option linter.unusedVariables false
set_option linter.unusedSimpArgs false
namespace Go.Proofs.YtdbimjpjpgfeeaaDoor
open Go.RowKit Go.Extern.Stop Go.Stop Go.Extern
/-- errors.As(nil, target). -/
theorem as_nil (t : Value) (w : World) :
    Calls Tryd.prog 44 #[.nilIface, t] w fun e w' => e = .returned (.bool false) ∧ w' = w := by
  go_enter Tryd.func44, Tryd.ntmps44
  go_wp2
  go_ret
  exact ⟨rfl, rfl⟩

/-! ### CLOSED FACTS ON THE MODEL's ENTRIES FOR internal/reflectlite, at this program's types: 75: *p.E · 77: **p.E · 34: error · 106: reflectlite's rtype · 1: how many package-level variables the dump has -/
theorem As.valueOf27 (t : Addr) (w : World) : (ReflectliteValue.unpack (.iface 77 (.pointer (some t)))).run Tryd.prog w
    = .ok (.agg #[.pointer (some ⟨4, 77, none⟩), .pointer (some ⟨w.heap.size, 0, none⟩), .int .u64 150]) (w.alloc (.cells #[.pointer (some t)] 77)) := by kernel_rfl
theorem As.type27 (a : Addr) (w : World) : (ReflectliteValue.methodAny (ReflectliteValue.valueError "reflectlite.Value.Type" 0) (fun t _ _ _ => ReflectliteType.toType t) #[.agg #[.pointer (some ⟨4, 77, none⟩), .pointer (some a), .int .u64 150]]).run Tryd.prog w
    = .ok (.iface 106 (.agg #[.pointer (some ⟨4, 77, none⟩)])) w := by kernel_rfl
theorem As.methodKind (h : Value) (w : World) : (Go.method 260 106 (.agg #[h]) "Kind").run Tryd.prog w = .ok (91, h) w := by kernel_rfl
theorem As.kind27 (w : World) : ((ReflectliteType.abiMethod fun t => Functor.map (fun a : Nat => Value.int IntKind.u8 (a : Int)) (Rtype.kind t)) #[.pointer (some ⟨4, 77, none⟩)]).run Tryd.prog w = .ok (.int .u8 22) w := by kernel_rfl
theorem As.kind25 (w : World) : ((ReflectliteType.abiMethod fun t => Functor.map (fun a : Nat => Value.int IntKind.u8 (a : Int)) (Rtype.kind t)) #[.pointer (some ⟨4, 75, none⟩)]).run Tryd.prog w = .ok (.int .u8 22) w := by kernel_rfl

/-! ### THE ENTRIES THAT READ OR WRITE MEMORY: laws with a premise on the cell (after Derived/Lib/ReflectliteSlice.lean's manner: each unfolding a lemma of its own, by rfl) -/
theorem rlm (z : Sem Value) (f : TypeId → Addr → Nat → Nat → Sem Value) (v : Value) :
    ReflectliteValue.method z f #[v] = (do match ← ReflectliteValue.parts v with | none => z | some (t, a, fl) => f t a fl (fl % 32)) := rfl
theorem As.parts27 (a : Addr) (w : World) : (ReflectliteValue.parts (.agg #[.pointer (some ⟨4, 77, none⟩), .pointer (some a), .int .u64 150])).run Tryd.prog w = .ok (some (77, a, 150)) w := by kernel_rfl
/-- (Value).IsNil at the Value of a **p.E that is not nil. -/
theorem As.isNil27 (a p : Addr) (W : World) (ha : W.cell? a = some (.pointer (some p))) :
    (ReflectliteValue.method (ReflectliteValue.valueError "reflectlite.Value.IsNil" 0) ReflectliteValue.isNil #[.agg #[.pointer (some ⟨4, 77, none⟩), .pointer (some a), .int .u64 150]]).run Tryd.prog W = .ok (.bool false) W := by
  rw [rlm]
  simp only [Sem.run_bind, As.parts27, Result.andThen]
  simp [ReflectliteValue.isNil, loadVar, isAgg, underlying, Tryd.underlying77, ha, Result.andThen]

theorem As.methodElem (h : Value) (w : World) : (Go.method 260 106 (.agg #[h]) "Elem").run Tryd.prog w = .ok (103, .agg #[h]) w := by kernel_rfl
theorem As.methodImplements (h : Value) (w : World) : (Go.method 260 106 (.agg #[h]) "Implements").run Tryd.prog w = .ok (104, .agg #[h]) w := by kernel_rfl
theorem As.methodAssignableTo (h : Value) (w : World) : (Go.method 260 106 (.agg #[h]) "AssignableTo").run Tryd.prog w = .ok (101, .agg #[h]) w := by kernel_rfl
theorem As.elem27 (w : World) : (ReflectliteType.method ReflectliteType.elem #[.agg #[.pointer (some ⟨4, 77, none⟩)]]).run Tryd.prog w = .ok (.iface 106 (.agg #[.pointer (some ⟨4, 75, none⟩)])) w := by kernel_rfl
theorem As.implements25 (w : World) : (ReflectliteType.relation "Implements" ReflectliteType.implements_ #[.agg #[.pointer (some ⟨4, 75, none⟩)], .iface 106 (.agg #[.pointer (some ⟨4, 34, none⟩)])]).run Tryd.prog w = .ok (.bool true) w := by kernel_rfl
theorem As.typeOf25 (v : Value) (w : World) : (ReflectliteType.typeOf #[.iface 75 v]).run Tryd.prog w = .ok (.iface 106 (.agg #[.pointer (some ⟨4, 75, none⟩)])) w := by kernel_rfl
theorem As.assignable25 (w : World) : (ReflectliteType.relation "AssignableTo" ReflectliteType.assignableTo #[.agg #[.pointer (some ⟨4, 75, none⟩)], .iface 106 (.agg #[.pointer (some ⟨4, 75, none⟩)])]).run Tryd.prog w = .ok (.bool true) w := by kernel_rfl
theorem As.valueOf25 (e : Addr) (w : World) : (ReflectliteValue.unpack (.iface 75 (.pointer (some e)))).run Tryd.prog w
    = .ok (.agg #[.pointer (some ⟨4, 75, none⟩), .pointer (some ⟨w.heap.size, 0, none⟩), .int .u64 150]) (w.alloc (.cells #[.pointer (some e)] 75)) := by kernel_rfl

theorem As.elemOf27 (w : World) : (Rtype.elem? 77).run Tryd.prog w = .ok (some 75) w := by kernel_rfl
theorem As.mk25 (p : Addr) (w : World) : (ReflectliteValue.mk 75 p ReflectliteValue.flagAddr).run Tryd.prog w = .ok (.agg #[.pointer (some ⟨4, 75, none⟩), .pointer (some p), .int .u64 406]) w := by kernel_rfl
/-- (Value).Elem at the Value of a **p.E that is not nil: the Value of the *p.E variable that it points to, addressable. -/
theorem As.elemV27 (a p : Addr) (W : World) (ha : W.cell? a = some (.pointer (some p))) :
    (ReflectliteValue.method (ReflectliteValue.valueError "reflectlite.Value.Elem" 0) ReflectliteValue.elem #[.agg #[.pointer (some ⟨4, 77, none⟩), .pointer (some a), .int .u64 150]]).run Tryd.prog W
      = .ok (.agg #[.pointer (some ⟨4, 75, none⟩), .pointer (some p), .int .u64 406]) W := by
  rw [rlm]
  simp only [Sem.run_bind, As.parts27, Result.andThen]
  simp [ReflectliteValue.elem, loadVar, isAgg, underlying, Tryd.underlying77, ha, Result.andThen, As.elemOf27, As.mk25]
theorem rls (v x : Value) : ∃ s1 s2 s3 s4 s5 : String, ReflectliteValue.set #[v, x] = (do
    let (some (dst, a, fl), some (src, b, _)) := (← ReflectliteValue.parts v, ← ReflectliteValue.parts x)
      | unsupported (.noEntry s1)
    if fl / ReflectliteValue.flagAddr % 2 == 0 then unsupported (.noEntry s2)
    let val ← loadVar src b
    if ← Rtype.directlyAssignable dst src then storeVar dst a val
    else if ← Rtype.implements dst src then
      if (← Rtype.kind src) == 20 then
        match val with
        | .nilIface => unsupported (.noEntry s3)
        | _ => storeVar dst a val
      else storeVar dst a (.iface src val)
    else panicString (s4 ++ (← Rtype.spelt src) ++ s5 ++ (← Rtype.spelt dst))
    pure (.tuple #[])) := ⟨_, _, _, _, _, rfl⟩
theorem As.parts25a (a : Addr) (w : World) : (ReflectliteValue.parts (.agg #[.pointer (some ⟨4, 75, none⟩), .pointer (some a), .int .u64 406])).run Tryd.prog w = .ok (some (75, a, 406)) w := by kernel_rfl
theorem As.parts25 (a : Addr) (w : World) : (ReflectliteValue.parts (.agg #[.pointer (some ⟨4, 75, none⟩), .pointer (some a), .int .u64 150])).run Tryd.prog w = .ok (some (75, a, 150)) w := by kernel_rfl
theorem As.direct25 (w : World) : (Rtype.directlyAssignable 75 75).run Tryd.prog w = .ok true w := by kernel_rfl
theorem As.size25 (w : World) : (sizeOf 75).run Tryd.prog w = .ok 1 w := by kernel_rfl
/-- (Value).Set: the *p.E variable at 'ta' gets what the Value's own variable 'b' holds. -/
theorem As.set25 (ta b e : Addr) (old : Value) (W : World) (hb : W.cell? b = some (.pointer (some e))) (ht : W.cell? ta = some old) (hf : W.frozen? ta = false) :
    (ReflectliteValue.set #[.agg #[.pointer (some ⟨4, 75, none⟩), .pointer (some ta), .int .u64 406], .agg #[.pointer (some ⟨4, 75, none⟩), .pointer (some b), .int .u64 150]]).run Tryd.prog W
      = .ok (.tuple #[]) (W.setCell ta (.pointer (some e))) := by
  obtain ⟨s1, s2, s3, s4, s5, hs⟩ := rls (.agg #[.pointer (some ⟨4, 75, none⟩), .pointer (some ta), .int .u64 406]) (.agg #[.pointer (some ⟨4, 75, none⟩), .pointer (some b), .int .u64 150])
  rw [hs]
  simp only [Sem.run_bind, As.parts25a, As.parts25, Result.andThen]
  simp [ReflectliteValue.flagAddr, loadVar, isAgg, underlying, Tryd.underlying75, hb, Result.andThen, As.direct25, storeVar, Value.cells, storeCells, Addr.add]
  rw [run_store Tryd.prog W ta _ _ (by rfl)]
  simp [ht, hf]

set_option maxHeartbeats 4000000 in
theorem as_hit (e t : Addr) (old : Value) (w : World) (hg : w.cell? ⟨0, 0, none⟩ = some (.iface 106 (.agg #[.pointer (some ⟨4, 34, none⟩)]))) (ht0 : w.cell? t = some old) (hf0 : w.frozen? t = false) :
    Calls Tryd.prog 44 #[.iface 75 (.pointer (some e)), .iface 77 (.pointer (some t))] w fun ev w' => ev = .returned (.bool true) ∧ w' = ((((w.alloc (.cells #[.pointer (some t)] 77)).alloc (.cells #[.pointer (some ⟨4, 77, none⟩), .pointer (some ⟨w.heap.size, 0, none⟩), .int .u64 150] 92)).alloc (.cells #[.pointer (some ⟨4, 77, none⟩), .pointer (some ⟨w.heap.size, 0, none⟩), .int .u64 150] 92)).alloc (.cells #[.pointer (some e)] 75)).setCell t (.pointer (some e)) := by
  have h6 := @run_callFunc_extern Tryd.prog 56 _ (fun args => ReflectliteValue.unpack (args.getD 0 (.tuple #[]))) Tryd.func56 (by kernel_rfl) (by kernel_rfl) (by kernel_rfl) (by kernel_rfl)
  have h7 := @run_callFunc_extern Tryd.prog 57 _ (ReflectliteValue.methodAny (ReflectliteValue.valueError "reflectlite.Value.Type" 0) (fun t _ _ _ => ReflectliteType.toType t)) Tryd.func57 (by kernel_rfl) (by kernel_rfl) (by kernel_rfl) (by kernel_rfl)
  have h8 := @run_callFunc_extern Tryd.prog 58 _ (ReflectliteValue.method (ReflectliteValue.valueError "reflectlite.Value.IsNil" 0) ReflectliteValue.isNil) Tryd.func58 (by kernel_rfl) (by kernel_rfl) (by kernel_rfl) (by kernel_rfl)
  have h27 := @run_callFunc_extern Tryd.prog 91 _ (ReflectliteType.abiMethod fun t => do pure (.int .u8 (← Rtype.kind t))) Tryd.func91 (by kernel_rfl) (by kernel_rfl) (by kernel_rfl) (by kernel_rfl)
  have h37 := @run_callFunc_extern Tryd.prog 103 _ (ReflectliteType.method ReflectliteType.elem) Tryd.func103 (by kernel_rfl) (by kernel_rfl) (by kernel_rfl) (by kernel_rfl)
  have h38 := @run_callFunc_extern Tryd.prog 104 _ (ReflectliteType.relation "Implements" ReflectliteType.implements_) Tryd.func104 (by kernel_rfl) (by kernel_rfl) (by kernel_rfl) (by kernel_rfl)
  have h10 := @run_callFunc_extern Tryd.prog 67 _ ReflectliteType.typeOf Tryd.func67 (by kernel_rfl) (by kernel_rfl) (by kernel_rfl) (by kernel_rfl)
  have h35 := @run_callFunc_extern Tryd.prog 101 _ (ReflectliteType.relation "AssignableTo" ReflectliteType.assignableTo) Tryd.func101 (by kernel_rfl) (by kernel_rfl) (by kernel_rfl) (by kernel_rfl)
  have h11 := @run_callFunc_extern Tryd.prog 68 _ (ReflectliteValue.method (ReflectliteValue.valueError "reflectlite.Value.Elem" 0) ReflectliteValue.elem) Tryd.func68 (by kernel_rfl) (by kernel_rfl) (by kernel_rfl) (by kernel_rfl)
  have h12 := @run_callFunc_extern Tryd.prog 69 _ ReflectliteValue.set Tryd.func69 (by kernel_rfl) (by kernel_rfl) (by kernel_rfl) (by kernel_rfl)
  have tO := As.typeOf25
  have mA := As.methodAssignableTo
  have a25 := As.assignable25
  have v25 := As.valueOf25
  have f6 := As.valueOf27
  have f7 := As.type27
  have mK := As.methodKind
  have mE := As.methodElem
  have mI := As.methodImplements
  have k27 := As.kind27
  have k25 := As.kind25
  have e27 := As.elem27
  have i25 := As.implements25
  have n8 := As.isNil27 ⟨w.heap.size, 0, none⟩ t ((w.alloc (.cells #[.pointer (some t)] 77)).alloc (.cells #[.pointer (some ⟨4, 77, none⟩), .pointer (some ⟨w.heap.size, 0, none⟩), .int .u64 150] 92)) (by simp)
  have hlt : 0 < w.heap.size := by
    rcases Nat.eq_zero_or_pos w.heap.size with h0 | h
    · simp [World.cell?, h0] at hg
    · exact h
  have hg2 : ((w.alloc (.cells #[.pointer (some t)] 77)).alloc (.cells #[.pointer (some ⟨4, 77, none⟩), .pointer (some ⟨w.heap.size, 0, none⟩), .int .u64 150] 92)).cell? ⟨0, 0, none⟩ = some (.iface 106 (.agg #[.pointer (some ⟨4, 34, none⟩)])) := by
    rw [World.cell?_alloc_lt _ _ ⟨0, 0, none⟩ (by simp), World.cell?_alloc_lt _ _ ⟨0, 0, none⟩ hlt]; exact hg
  have htl : t.block < w.heap.size := by
    rcases Nat.lt_or_ge t.block w.heap.size with h | h
    · exact h
    · simp [World.cell?, Array.getElem?_eq_none h] at ht0
  have el := As.elemV27 ⟨w.heap.size, 0, none⟩ t (((w.alloc (.cells #[.pointer (some t)] 77)).alloc (.cells #[.pointer (some ⟨4, 77, none⟩), .pointer (some ⟨w.heap.size, 0, none⟩), .int .u64 150] 92)).alloc (.cells #[.pointer (some ⟨4, 77, none⟩), .pointer (some ⟨w.heap.size, 0, none⟩), .int .u64 150] 92)) (by rw [World.cell?_alloc_lt _ _ ⟨w.heap.size, 0, none⟩ (by simp; omega)]; simp)
  have st := As.set25 t ⟨w.heap.size + 1 + 1 + 1, 0, none⟩ e old ((((w.alloc (.cells #[.pointer (some t)] 77)).alloc (.cells #[.pointer (some ⟨4, 77, none⟩), .pointer (some ⟨w.heap.size, 0, none⟩), .int .u64 150] 92)).alloc (.cells #[.pointer (some ⟨4, 77, none⟩), .pointer (some ⟨w.heap.size, 0, none⟩), .int .u64 150] 92)).alloc (.cells #[.pointer (some e)] 75))
    (by rw [World.cell?_alloc_at _ _ _ _ (by simp)]; rfl)
    (by rw [World.cell?_alloc_lt _ _ t (by simp; omega), World.cell?_alloc_lt _ _ t (by simp; omega), World.cell?_alloc_lt _ _ t (by simp; omega), World.cell?_alloc_lt _ _ t htl]; exact ht0)
    (by rw [World.frozen?_alloc_old _ _ t (by simp; omega), World.frozen?_alloc_old _ _ t (by simp; omega), World.frozen?_alloc_old _ _ t (by simp; omega), World.frozen?_alloc_old _ _ t (Nat.ne_of_lt htl)]; exact hf0)
  go_enter Tryd.func44, Tryd.ntmps44
  go_wp2
  refine wp_loop_rounds 1 ?_
  rw [rounds_succ]
  go_wp2
  go_ret
  exact ⟨rfl, rfl⟩
/-- What errors.As asks of the memory: reflectlite's type of 'error'. -/
def ErrT (w : World) : Prop := w.cell? ⟨0, 0, none⟩ = some (.iface 106 (.agg #[.pointer (some ⟨4, 34, none⟩)]))
theorem ErrT.lt {w : World} (h : ErrT w) : 0 < w.heap.size := by
  rcases Nat.eq_zero_or_pos w.heap.size with h0 | h1
  · simp [ErrT, World.cell?, h0] at h
  · exact h1
theorem ErrT.below {w w' : World} (h : ErrT w) (hb : Below w.heap.size w w') : ErrT w' := (hb.cell (p := ⟨0, 0, none⟩) h.lt).trans h
/-- errors.As, by what it leaves. -/
theorem as_box (e : Addr) (B : Nat) (w : World) (hg : ErrT w) (ht : w.cell? ⟨B, 0, none⟩ = some (.pointer none)) (hf : w.frozen? ⟨B, 0, none⟩ = false) :
    Calls Tryd.prog 44 #[.iface 75 (.pointer (some e)), .iface 77 (.pointer (some ⟨B, 0, none⟩))] w fun ev w' => ev = .returned (.bool true) ∧ Below B w w' ∧ w'.cell? ⟨B, 0, none⟩ = some (.pointer (some e)) := by
  have hB : B < w.heap.size := by
    rcases Nat.lt_or_ge B w.heap.size with h | h
    · exact h
    · simp [World.cell?, Array.getElem?_eq_none h] at ht
  refine (as_hit e ⟨B, 0, none⟩ (.pointer none) w hg ht hf).mono ?_
  rintro ev w' ⟨rfl, rfl⟩
  refine ⟨rfl, ?_, ?_⟩
  · refine Below.setCell ?_ (p := ⟨B, 0, none⟩) (Nat.le_refl _) _
    exact ((((Below.refl B w).alloc (Nat.le_of_lt hB) _).alloc (by simp; omega) _).alloc (by simp; omega) _).alloc (by simp; omega) _
  · refine World.cell?_setCell_same' _ _ _ ?_
    rw [World.cell?_alloc_lt _ _ ⟨B, 0, none⟩ (by simp; omega), World.cell?_alloc_lt _ _ ⟨B, 0, none⟩ (by simp; omega), World.cell?_alloc_lt _ _ ⟨B, 0, none⟩ (by simp; omega), World.cell?_alloc_lt _ _ ⟨B, 0, none⟩ hB, ht]
    rfl
theorem kind_any (p o : Nat) (k : Int) (w : World) (hg : ErrT w) (hc : w.cell? ⟨p, o, none⟩ = some (.int .i64 k)) :
    Calls Tryd.prog 25 #[.iface 75 (.pointer (some ⟨p, o, none⟩))] w fun e w' => e = .returned (.int .i64 k) ∧ Below w.heap.size w w' := by
  have hp : p < w.heap.size := by
    rcases Nat.lt_or_ge p w.heap.size with h | h
    · exact h
    · simp [World.cell?, Array.getElem?_eq_none h] at hc
  have hb0 := (Below.refl w.heap.size w).alloc (Nat.le_refl _) (.cells #[.pointer none] 75)
  have hA := as_box ⟨p, o, none⟩ w.heap.size (w.alloc (.cells #[.pointer none] 75)) (hg.below hb0) (by simp) (by simp)
  go_enter Tryd.func25, Tryd.ntmps25
  go_wp2_with (go_at_call 44; refine hA.mono ?_; rintro e w' ⟨rfl, hb, hl⟩; have hc' := ((hb0.trans hb).cell (p := ⟨p, o, none⟩) hp).trans hc)
  go_ret
  exact ⟨rfl, hb0.trans hb⟩
theorem at_any (p o : Nat) (k : Int) (w : World) (hg : ErrT w) (hc : w.cell? ⟨p, o + 1, none⟩ = some (.int .i64 k)) :
    Calls Tryd.prog 26 #[.iface 75 (.pointer (some ⟨p, o, none⟩))] w fun e w' => e = .returned (.int .i64 k) ∧ Below w.heap.size w w' := by
  have hp : p < w.heap.size := by
    rcases Nat.lt_or_ge p w.heap.size with h | h
    · exact h
    · simp [World.cell?, Array.getElem?_eq_none h] at hc
  have hb0 := (Below.refl w.heap.size w).alloc (Nat.le_refl _) (.cells #[.pointer none] 75)
  have hA := as_box ⟨p, o, none⟩ w.heap.size (w.alloc (.cells #[.pointer none] 75)) (hg.below hb0) (by simp) (by simp)
  go_enter Tryd.func26, Tryd.ntmps26
  go_wp2_with (go_at_call 44; refine hA.mono ?_; rintro e w' ⟨rfl, hb, hl⟩; have hc' := ((hb0.trans hb).cell (p := ⟨p, o + 1, none⟩) hp).trans hc)
  go_ret
  exact ⟨rfl, hb0.trans hb⟩
theorem kind_nil (w : World) : Calls Tryd.prog 25 #[.nilIface] w fun e w' => e = .returned (.int .i64 0) ∧ w' = w := by
  go_enter Tryd.func25, Tryd.ntmps25
  go_wp2
  go_ret
  exact ⟨rfl, rfl⟩
end Go.Proofs.YtdbimjpjpgfeeaaDoor
/- Chapter 11: DomChecks: the walk of the law. Conditions: the tables lie as listed; the document is read. -/
set_option linter.unusedVariables false
set_option linter.unusedSimpArgs false
set_option maxRecDepth 100000
namespace Go.Av
open Go.Proofs Go.RowKit Go.Proofs.YtdbimjpjpgfeeaaDoor
/-- A fault in memory. -/
def Flt (w : World) (b o : Nat) (k a : Int) : Prop := w.cell? ⟨b, o, none⟩ = some (.int .i64 k) ∧ w.cell? ⟨b, o + 1, none⟩ = some (.int .i64 a)
theorem Flt.ge {w w' : World} {b o : Nat} {k a : Int} (h : Flt w b o k a) (hb : Ge w w') : Flt w' b o k a := by
  have lt := cell_old h.1
  exact ⟨(hb.cell (p := ⟨b, o, none⟩) lt).trans h.1, (hb.cell (p := ⟨b, o + 1, none⟩) lt).trans h.2⟩
theorem flt_of {F : Nat → Nat → Prop} {w : World} {v : Value} {k a : Int} (h : Den0 F w v (.fix (.agg [.int .i64 k, .int .i64 a, .con .nilIface]) 0)) : ∃ b o, v = .pointer (some ⟨b, o, none⟩) ∧ Flt w b o k a := by
  cases h with
  | fix d b o off vs h1 h2 h3 =>
    refine ⟨b, o, rfl, ?_⟩
    have h1' : vs.length = 3 := by rw [h1]; rfl
    match vs, h1' with
    | [u0, u1, u2], _ =>
      have d0 := h3 0 u0 (.int .i64 k) rfl rfl
      have d1 := h3 1 u1 (.int .i64 a) rfl rfl
      cases d0
      cases d1
      exact ⟨(h2 0 _ rfl).2.1, (h2 1 _ rfl).2.1⟩
theorem den_flt {c : Nat} {ν : Nat → Nat → Nat} {F : Nat → Nat → Prop} {w : World} {v : Value} {k a : Int} (h : Den c ν F w v (faultD k a)) : ∃ b o, v = .iface 75 (.pointer (some ⟨b, o, none⟩)) ∧ Flt w b o k a := by
  unfold faultD at h
  cases h with
  | pure _ _ h =>
    cases h with
    | iface t u d h =>
      obtain ⟨b, o, rfl, hf⟩ := flt_of h
      exact ⟨b, o, rfl, hf⟩
  | iface t u d h =>
    obtain ⟨b, o, rfl, hf⟩ := flt_of h.fix_
    exact ⟨b, o, rfl, hf⟩
section
variable {ns : List Nd} {w : World} {v0 : Value}
theorem k24 (hS : SmallD ns) (hg : GOK (old w) w) (hd : Den0 (old w) w v0 (.list (ns.map Nd.d))) : Calls Tryd.prog 24 #[v0] w fun e w' => Ge w w' ∧ ∃ v, e = .returned v ∧ ∀ c ν, Den c ν (nw (old w) w w') w' v (errD (chkF ns)) :=
  (ev (vals := [v0]) (check_L (chk := chkC) ns hS) hg rfl (fun i v x h1 h2 => by
    match i with
    | 0 => simp at h1 h2; subst h1; subst h2; exact hd
    | i + 1 => simp at h1)).mono fun e w' h => by
      obtain ⟨v, h1, h2, h3⟩ := h
      exact ⟨h2, v, h1, h3⟩
theorem k24ok (hS : SmallD ns) (hz : chkF ns = (0, 0)) (hg : GOK (old w) w) (hd : Den0 (old w) w v0 (.list (ns.map Nd.d))) : Calls Tryd.prog 24 #[v0] w fun e w' => e = .returned .nilIface ∧ Ge w w' := by
  refine (k24 hS hg hd).mono ?_
  rintro e w' ⟨hb, v, rfl, hv⟩
  rw [hz] at hv
  have hv' : Den 0 (fun _ _ => 0) (nw (old w) w w') w' v (.con .nilIface) := hv 0 fun _ _ => 0
  rw [den_con hv']
  exact ⟨rfl, hb⟩
theorem k24no (hS : SmallD ns) (hz : (chkF ns).1 ≠ 0) (hg : GOK (old w) w) (hd : Den0 (old w) w v0 (.list (ns.map Nd.d))) : Calls Tryd.prog 24 #[v0] w fun e w' => ∃ b o, e = .returned (.iface 75 (.pointer (some ⟨b, o, none⟩))) ∧ Ge w w' ∧ Flt w' b o (chkF ns).1 (chkF ns).2 := by
  refine (k24 hS hg hd).mono ?_
  rintro e w' ⟨hb, v, rfl, hv⟩
  have hv' := hv 0 fun _ _ => 0
  unfold errD at hv'
  rw [if_neg hz] at hv'
  obtain ⟨b, o, rfl, hf⟩ := den_flt hv'
  exact ⟨b, o, rfl, hb, hf⟩
theorem k12ok (hS : SmallD ns) (hz : chkF ns = (0, 0)) (hg : GOK (old w) w) (hd : Den0 (old w) w v0 (.list (ns.map Nd.d))) : Calls Tryd.prog 12 #[v0] w fun e w' => ∃ b o, e = .returned (.tuple #[.pointer (some ⟨b, o, none⟩), .nilIface]) ∧ Ge w w' :=
  (ev (vals := [v0]) (new_L hS hz) hg rfl (fun i v x h1 h2 => by
    match i with
    | 0 => simp at h1 h2; subst h1; subst h2; exact hd
    | i + 1 => simp at h1)).mono fun e w' h => by
      obtain ⟨b, o, h1, h2, _⟩ := ret_tree h
      exact ⟨b, o, h1, h2⟩
theorem k12no (hS : SmallD ns) (hz : (chkF ns).1 ≠ 0) (hg : GOK (old w) w) (hd : Den0 (old w) w v0 (.list (ns.map Nd.d))) : Calls Tryd.prog 12 #[v0] w fun e w' => ∃ b o, e = .returned (.tuple #[.pointer none, .iface 75 (.pointer (some ⟨b, o, none⟩))]) ∧ Ge w w' ∧ Flt w' b o (chkF ns).1 (chkF ns).2 := by
  have h24 := k24no hS hz hg hd
  go_enter Tryd.func12, Tryd.ntmps12
  go_wp2_with (go_at_call 24; refine h24.mono ?_; rintro e w1 ⟨b, o, rfl, hb, hf⟩)
  go_ret2
  exact ⟨b, o, rfl, hb, hf⟩
theorem k7 (hg : GOK (old w) w) : Calls Tryd.prog 7 #[] w fun e w' => e = .returned (.bool true) ∧ Ge w w' :=
  (ev (vals := []) sp11C hg rfl (fun i v x h => by simp at h)).mono fun e w' h => ret_bool h
theorem k8 (hB : BigD ns) (hg : GOK (old w) w) (hd : Den0 (old w) w v0 (.list (ns.map Nd.d))) : Calls Tryd.prog 8 #[v0] w fun e w' => e = .returned (.tuple #[.int .i64 (chkF ns).1, .int .i64 (chkF ns).2]) ∧ Ge w w' :=
  (ev (vals := [v0]) (rcheck_L (chk := chkC) ns hB) hg rfl (fun i v x h1 h2 => by
    match i with
    | 0 => simp at h1 h2; subst h1; subst h2; exact hd
    | i + 1 => simp at h1)).mono fun e w' h => ret_ii h
theorem k9 (hg : GOK (old w) w) (hd : Den0 (old w) w v0 (.list (ns.map Nd.d))) : Calls Tryd.prog 9 #[v0, .int .i64 200] w fun e w' => e = .returned (.bool (greatF ns 200)) ∧ Ge w w' :=
  (ev (vals := [v0, .int .i64 200]) (great_L (chk := chkC) ns 200 (by decide)) hg rfl (fun i v x h1 h2 => by
    match i with
    | 0 => simp at h1 h2; subst h1; subst h2; exact hd
    | 1 => simp at h1 h2; subst h1; subst h2; exact .int _ _
    | i + 2 => simp at h1)).mono fun e w' h => ret_bool h
end
theorem law6_great {W : World} {v0 : Value} {ns : List Nd} (hg : GOK (old W) W) (hd : Den0 (old W) W v0 (.list (ns.map Nd.d))) (hG : greatF ns 200 = true) : Calls Tryd.prog 6 #[v0] W fun e W' => e = .returned (.bool true) ∧ Ge W W' := by
  have C7 := @k7
  have C9 := fun w => @k9 ns w v0
  simp only [hG] at C9
  go_enter Tryd.func6, Tryd.ntmps6
  go_wp2_with (first
    | (go_at_call 7; refine (C7 hg).mono ?_; rintro e w1 ⟨rfl, b1⟩)
    | (go_at_call 9; refine (C9 _ (gok_ge hg b1) (old_ge hd b1)).mono ?_; rintro e w2 ⟨rfl, b2⟩))
  go_ret
  exact ⟨rfl, b1.tr b2⟩
set_option maxHeartbeats 4000000 in
theorem law6_right {W : World} {v0 : Value} {ns : List Nd} (hB : BigD ns) (hE : ErrT W) (hg : GOK (old W) W) (hd : Den0 (old W) W v0 (.list (ns.map Nd.d))) (hG : greatF ns 200 = false) (hz : chkF ns = (0, 0)) : Calls Tryd.prog 6 #[v0] W fun e W' => e = .returned (.bool true) ∧ Ge W W' := by
  have hS := great_smallD hG (by decide)
  have C7 := @k7
  have C9 := fun w => @k9 ns w v0
  simp only [hG] at C9
  have C8 := fun w => @k8 ns w v0 hB
  simp only [hz] at C8
  have C24 := fun w => @k24ok ns w v0 hS hz
  have C12 := fun w => @k12ok ns w v0 hS hz
  clear hB hS hG hz
  go_enter Tryd.func6, Tryd.ntmps6
  go_wp2_with (first
    | (go_at_call 7; refine (C7 hg).mono ?_; rintro e w1 ⟨rfl, b1⟩)
    | (go_at_call 9; refine (C9 _ (gok_ge hg b1) (old_ge hd b1)).mono ?_; rintro e w2 ⟨rfl, b2⟩; have b12 := b1.tr b2)
    | (go_at_call 24; refine (C24 _ (gok_ge hg b12) (old_ge hd b12)).mono ?_; rintro e w3 ⟨rfl, b3⟩; have b13 := b12.tr b3)
    | (go_at_call 12; refine (C12 _ (gok_ge hg b13) (old_ge hd b13)).mono ?_; rintro e w4 ⟨tb, to_, rfl, b4⟩; have b14 := b13.tr b4)
    | (go_at_call 8; refine (C8 _ (gok_ge hg b14) (old_ge hd b14)).mono ?_; rintro e w5 ⟨rfl, b5⟩; have b15 := b14.tr b5)
    | (go_at_call 25; refine (kind_nil _).mono ?_; rintro e w6 ⟨rfl, rfl⟩))
  go_ret
  exact ⟨rfl, b15⟩
set_option maxHeartbeats 4000000 in
theorem law6_wrong {W : World} {v0 : Value} {ns : List Nd} (hB : BigD ns) (hE : ErrT W) (hg : GOK (old W) W) (hd : Den0 (old W) W v0 (.list (ns.map Nd.d))) (hG : greatF ns 200 = false) (hz : (chkF ns).1 ≠ 0) : Calls Tryd.prog 6 #[v0] W fun e W' => e = .returned (.bool true) ∧ Ge W W' := by
  have hS := great_smallD hG (by decide)
  have C7 := @k7
  have C9 := fun w => @k9 ns w v0
  simp only [hG] at C9
  have C8 := fun w => @k8 ns w v0 hB
  have C24 := fun w => @k24no ns w v0 hS hz
  have C12 := fun w => @k12no ns w v0 hS hz
  generalize (chkF ns).1 = k at *
  generalize (chkF ns).2 = a at *
  have n1 : (k != k) = false := by simp
  have n2 : (a != a) = false := by simp
  have n3 : (k == 0) = false := by simpa using hz
  clear hB hS hG hz
  go_enter Tryd.func6, Tryd.ntmps6
  go_wp2_with (first
    | (go_at_call 7; refine (C7 hg).mono ?_; rintro e w1 ⟨rfl, b1⟩)
    | (go_at_call 9; refine (C9 _ (gok_ge hg b1) (old_ge hd b1)).mono ?_; rintro e w2 ⟨rfl, b2⟩; have b12 := b1.tr b2)
    | (go_at_call 24; refine (C24 _ (gok_ge hg b12) (old_ge hd b12)).mono ?_; rintro e w3 ⟨x3, y3, rfl, b3, f3⟩; have b13 := b12.tr b3)
    | (go_at_call 12; refine (C12 _ (gok_ge hg b13) (old_ge hd b13)).mono ?_; rintro e w4 ⟨x4, y4, rfl, b4, f4⟩; have b14 := b13.tr b4; have g3 := f3.ge b4)
    | (go_at_call 8; refine (C8 _ (gok_ge hg b14) (old_ge hd b14)).mono ?_; rintro e w5 ⟨rfl, b5⟩; have b15 := b14.tr b5; have p3 := g3.ge b5; have p4 := f4.ge b5; have E5 := hE.below b15)
    | (go_at_call_of 25 (Value.iface 75 (.pointer (some ⟨x3, y3, none⟩))); refine (kind_any x3 y3 k _ E5 p3.1).mono ?_; rintro e w6 ⟨rfl, b6⟩; replace b6 : Ge _ _ := b6; have E6 := E5.below b6; have r4 := (p4.ge b6).1)
    | (go_at_call_of 25 (Value.iface 75 (.pointer (some ⟨x4, y4, none⟩))); refine (kind_any x4 y4 k _ E6 r4).mono ?_; rintro e w7 ⟨rfl, b7⟩; replace b7 : Ge _ _ := b7; have b57 := b6.tr b7; have E7 := E5.below b57; have r3 := (p3.ge b57).2)
    | (go_at_call_of 26 (Value.iface 75 (.pointer (some ⟨x3, y3, none⟩))); refine (at_any x3 y3 a _ E7 r3).mono ?_; rintro e w8 ⟨rfl, b8⟩; replace b8 : Ge _ _ := b8; have b58 := b57.tr b8; have E8 := E5.below b58; have s4 := (p4.ge b58).2)
    | (go_at_call_of 26 (Value.iface 75 (.pointer (some ⟨x4, y4, none⟩))); refine (at_any x4 y4 a _ E8 s4).mono ?_; rintro e w9 ⟨rfl, b9⟩; replace b9 : Ge _ _ := b9))
  go_ret
  exact ⟨rfl, b15.tr (b58.tr b9)⟩
theorem law6_any {W : World} {v0 : Value} {ns : List Nd} (hB : BigD ns) (hE : ErrT W) (hg : GOK (old W) W) (hd : Den0 (old W) W v0 (.list (ns.map Nd.d))) : Calls Tryd.prog 6 #[v0] W fun e W' => e = .returned (.bool true) ∧ Ge W W' := by
  cases hG : greatF ns 200 with
  | true => exact law6_great hg hd hG
  | false =>
    by_cases hz : (chkF ns).1 = 0
    · exact law6_right hB hE hg hd hG (chkG_zero hz)
    · exact law6_wrong hB hE hg hd hG hz
end Go.Av
