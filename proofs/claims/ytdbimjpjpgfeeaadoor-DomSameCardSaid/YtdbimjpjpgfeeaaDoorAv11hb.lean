/- Chapter 11: what a look-up in the tree's map finds, in whatever world. -/
import Derived.Test.YtdbimjpjpgfeeaaDoorAv11h
set_option linter.unusedSimpArgs false
set_option linter.unusedVariables false
set_option maxRecDepth 100000
namespace Go.Av
open Go.Proofs Go.RowKit Go.Proofs.YtdbimjpjpgfeeaaDoor Go.Maps Go.MapKept
open Go.WideElems (Fit rd rg rd_val rd_key)
theorem key_int {kv : Value} {l : Lit} (h : keyOf Tryd.prog 3 kv = some l) : ∃ m : Int, kv = .int .i64 m := by
  have hk : Tryd.prog.underlying 3 = some (.int .i64) := by kernel_rfl
  cases kv with
  | int q m =>
    simp [keyOf, hk, mapKey] at h
    exact ⟨m, by rw [h.1.1]⟩
  | _ => simp [keyOf, hk, mapKey] at h
theorem groups_keys {w : World} {base b n : Nat} {D : DataW Unit} (h : w.ownsGroups Tryd.prog 3 base 3 .i64 b n D) : ∃ es clock, w.heap[b]? = some (.map es clock) ∧ ∀ x ∈ es.toList, ∃ m : Int, x.key = .int .i64 m := by
  obtain ⟨es, clock, hb, Fi, _⟩ := h
  refine ⟨es, clock, hb, fun x hx => ?_⟩
  obtain ⟨y, hy⟩ := Fi.reads x hx
  exact key_int (rd_key hy)
theorem look_val {es : Array MapEntry} {clock b : Nat} (n : Int) (hks : ∀ x ∈ es.toList, ∃ m : Int, x.key = .int .i64 m) :
    ∃ v, (∀ W : World, W.heap[b]? = some (.map es clock) → (Instr.lookup 57 (.map (some b)) (.int .i64 n) false).run Tryd.prog W = .ok v W) ∧
      ((v = .slice none 0 0 ∧ ∀ x ∈ es.toList, x.key ≠ .int .i64 n) ∨ ∃ (j : Nat) (x : MapEntry), es.toList[j]? = some x ∧ x.key = .int .i64 n ∧ x.val = v ∧ ∀ (i : Nat) (y : MapEntry), i < j → es.toList[i]? = some y → y.key ≠ .int .i64 n) := by
  have ht : Tryd.prog.underlying 57 = some (.map 3 39) := by kernel_rfl
  have hk : Tryd.prog.underlying 3 = some (.int .i64) := by kernel_rfl
  have hzr : ∀ w : World, (zeroValue 39).run Tryd.prog w = .ok (.slice none 0 0) w := fun w => by kernel_rfl
  have hkey : IsKey (.int .i64) (.int .i64 n) := rfl
  have hks' : ∀ x ∈ es.toList, IsKey (.int .i64) x.key := fun x hx => by
    obtain ⟨m, hm⟩ := hks x hx
    rw [hm]
    exact rfl
  rcases findNow_first hkey es.toList 0 hks' with ⟨f1, f2⟩ | ⟨j, e0, f1, f2, f3, f4⟩
  · refine ⟨.slice none 0 0, fun W h1 => ?_, .inl ⟨rfl, f2⟩⟩
    simp [Instr.lookup, run_underlying ht, Go.MapKept.run_getObj_map h1, Go.MapKept.run_checkKey hk hkey, Go.MapKept.run_findKey hk f1, hzr, Result.andThen]
  · refine ⟨e0.val, fun W h1 => ?_, .inr ⟨j, e0, f2, f3, rfl, f4⟩⟩
    simp [Instr.lookup, run_underlying ht, Go.MapKept.run_getObj_map h1, Go.MapKept.run_checkKey hk hkey, Go.MapKept.run_findKey hk f1, Result.andThen]
/-- The same in two worlds in which the map stands the same. -/
theorem look_same {w W : World} {base b n : Nat} {D : DataW Unit} {z : Int} {v : Value} (h : w.ownsGroups Tryd.prog 3 base 3 .i64 b n D) (hW : W.heap[b]? = w.heap[b]?) (hr : (Instr.lookup 57 (.map (some b)) (.int .i64 z) false).run Tryd.prog w = .ok v w) :
    (Instr.lookup 57 (.map (some b)) (.int .i64 z) false).run Tryd.prog W = .ok v W := by
  obtain ⟨es, clock, hb, hks⟩ := groups_keys h
  obtain ⟨u, hu, _⟩ := look_val (b := b) (clock := clock) z hks
  have h1 := hu w hb
  rw [hr] at h1
  have : u = v := by injection h1 with h1; exact h1.symm
  subst this
  exact hu W (hW.trans hb)
theorem look_shun {w : World} {base b n : Nat} {D : DataW Unit} {z : Int} {v : Value} {No : Nat → Prop} (h : w.ownsGroups Tryd.prog 3 base 3 .i64 b n D) (hs : w.Shuns b No) (hr : (Instr.lookup 57 (.map (some b)) (.int .i64 z) false).run Tryd.prog w = .ok v w) :
    ∀ g, v.ownBlock = some g → ¬ No g := by
  obtain ⟨es, clock, hb, hks⟩ := groups_keys h
  obtain ⟨u, hu, hw⟩ := look_val (b := b) (clock := clock) z hks
  have h1 := hu w hb
  rw [hr] at h1
  have : u = v := by injection h1 with h1; exact h1.symm
  subst this
  intro g hg
  rcases hw with ⟨rfl, _⟩ | ⟨j, x, hj, _, rfl, _⟩
  · cases hg
  · exact hs es clock hb x (List.mem_of_getElem? hj) g hg
theorem group_put {F : Nat → Nat → Prop} {w W W1 W2 : World} {bm n : Nat} {Z : Nat → Prop} {vN vE vP v v' : Value} {ns : List D} {zE zP zs : List Int} {DD D' : DataW Unit} {key : Int} (hlt : Lt F w) (S : NS F w bm (bm + 1) Z vN vE vP ns zE zP W) (N : NG Z vN vE vP bm (bm + 1) n DD W)
    (hr : (Instr.lookup 57 (.map (some bm)) (.int .i64 key) false).run Tryd.prog W = .ok v W) (hoi : W.ownsInts (bm + 1 + 1) 3 .i64 v zs) (hg1 : W.grownBy W1 v.ownBlock) (loc : v'.ownBlock = v.ownBlock ∨ v'.ownBlock = some W.heap.size)
    (hm : (Instr.mapUpdate 57 (.map (some bm)) (.int .i64 key) v').run Tryd.prog W1 = .ok () W2) (hg2 : W1.grownBy W2 (some bm)) (hgr : W2.ownsGroups Tryd.prog 3 (bm + 1 + 1) 3 .i64 bm (n + 1) D') (hkw : (Lit.int .i64 key).wf = true) (hn : n < maxLen) :
    NS F w bm (bm + 1) Z vN vE vP ns zE zP W2 ∧ NG Z vN vE vP bm (bm + 1) (n + 1) D' W2 ∧ ∀ cs, Bk W (bm + 1) 59 cs → Bk W2 (bm + 1) 59 cs := by
  have hsh := look_shun N.gr N.sh hr
  have hvb : ∀ g, v.ownBlock = some g → bm + 1 < g := fun g hg => (hoi.1.lt g hg).1
  have S1 := S.keep hlt hg1 (fun b hb => .inr (.inr ⟨hvb b hb, fun hz => hsh b hb (.inl hz), fun e => hsh b hb (.inr (.inl e)), fun e => hsh b hb (.inr (.inr (.inl e))), fun e => hsh b hb (.inr (.inr (.inr e)))⟩))
  have S2 := S1.keep hlt hg2 (fun b hb => by injection hb with hb; exact .inr (.inl hb.symm))
  refine ⟨S2, ⟨hgr, ?_⟩, fun cs hB => (hB.grown hg1 (fun e => by have := hvb _ e.symm; omega)).grown hg2 (fun e => by injection e with e; omega)⟩
  obtain ⟨es, clock, hb, Fi, hs, _, hbb, _⟩ := N.gr
  have hblt : bm < W.heap.size := (Array.getElem?_eq_some_iff.1 hb).1
  have hb1 : W1.heap[bm]? = some (.map es clock) := (hg1.block bm hblt (fun e1 => by have := hvb bm e1.symm; omega)).trans hb
  obtain ⟨es', clock', hb2, hwho⟩ := stored_who kd3 (show Tryd.prog.underlying 57 = some (.map 3 39) by kernel_rfl) hb1 Fi (Nat.lt_of_le_of_lt hs hn) (keyOf_int_mk (show Tryd.prog.underlying 3 = some (.int .i64) by kernel_rfl) hkw) hm
  intro es2 clock2 hb2' y hy g hyg
  obtain ⟨rfl, rfl⟩ : es' = es2 ∧ clock' = clock2 := by rw [hb2] at hb2'; simpa using hb2'
  rcases hwho y hy with ⟨hy0, _⟩ | ⟨_, hval⟩
  · exact N.sh es clock hb y hy0 g hyg
  · rw [hval] at hyg
    rcases loc with l | l
    · exact hsh g (l.symm.trans hyg)
    · rw [l] at hyg
      injection hyg with hyg
      obtain ⟨xs, g1, _⟩ := S.oN
      rintro (h | h | h | h)
      · have := (S.z g h).2.1; omega
      · have := own_lt g1 g h; omega
      · have := own_lt S.oE.1 g h; omega
      · have := own_lt S.oP.1 g h; omega
end Go.Av
