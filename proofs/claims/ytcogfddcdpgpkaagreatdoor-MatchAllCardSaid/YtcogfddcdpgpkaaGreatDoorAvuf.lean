/- The evaluator, in one text: over any program; no conditions but those that each law names. -/
import Derived.Test.YtcogfddcdpgpkaaGreatDoorAvue
import Derived.Shelf.Small.Strs
import Derived.Shelf.Strings.Search3
import Derived.Shelf.Strings.FieldsFuncAny
import Derived.Test.YtcogfddcdpgpkaaGreatDoorProg
import Derived.Test.YtcogfddcdpgpkaaGreatDoorAvub
import Derived.Test.YtcogfddcdpgpkaaGreatDoorAvua
import Derived.Deep.QuietTactic
import Derived.BigQuiet
import Derived.Test.YtcogfddcdpgpkaaGreatDoorAvuc
import Derived.Test.YtcogfddcdpgpkaaGreatDoorAvud
import Derived.Test.YtcogfddcdpgpkaaGreatDoorRows
import Derived.Test.YtcogfddcdpgpkaaGreatDoorTie
import Derived.Test.YtcogfddcdpgpkaaGreatDoorAvb
import Derived.Shelf.Vars
set_option linter.unusedSimpArgs false
set_option linter.unusedVariables false
set_option linter.unusedSectionVars false
set_option maxRecDepth 100000
namespace Go.Av
open Go.Proofs Go.RowKit Go.Proofs.YtcogfddcdpgpkaaGreatDoor
theorem ext_oldW {F : Nat → Nat → Prop} {w W : World} (hlt : Lt F w) (hb : Below w.heap.size w W) : Ext (fun _ => False) F w (old W) W := by
 refine ⟨hb.os, hb.tape, hb.output, hb.size, fun b h _ => hb.block b h, fun b o h => Nat.lt_of_lt_of_le (hlt b o h) hb.size, fun b o h => ?_, fun b es c hf hm => (hb.block b (hlt b 0 hf)).trans hm⟩
 unfold World.cell?
 rw [hb.block b (hlt b o h)]
def C1 (f : FuncId) (args : List D) (d : D) (r : List Room) : Prop :=
 (∃ fn, Tryz.prog.funcs[f]? = some fn ∧ fn.body.isSome = true) ∧
  ∀ (vals : List Value) (w : World) (F : Nat → Nat → Prop) (μ : Mu), vals.length = args.length → (∀ (i : Nat) (v : Value) (x : D), vals[i]? = some v → args[i]? = some x → Den (fun _ => 1) (argNu μ) F w v x) →
   GivenOK w 0 μ → Lt F w → GOK F w → Calls Tryz.prog f vals.toArray w (Ret Tryz.prog 0 μ F w d r [])
theorem C1.of {call : Call} (h : CallOK Tryz.prog call) {f : FuncId} {args : List D} {d : D} {r : List Room} (e : call f args [] = some (d, r, [])) : C1 f args d r :=
 ⟨(h f args [] d r [] e).1, fun vals w F μ hl hd hgv hlt hg => (h f args [] d r [] e).2 vals w F μ hl hd (fun i bx hb => by simp at hb) hgv hlt hg⟩
theorem C1.callL {ext : Call} (h : CallOK Tryz.prog ext) {f : FuncId} {args : List D} {d : D} {r : List Room} (e : callL Tryz.prog ext f args [] = some (d, r, [])) : C1 f args d r := by
 obtain ⟨N, hN⟩ := callL_aev e
 exact C1.of (aev_sound fineS h N) hN
theorem C1.room {f : FuncId} {args : List D} {d : D} {r : List Room} (h : C1 f args d r) : C1 f args d [] :=
 ⟨h.1, fun vals w F μ hl hd hgv hlt hg => (h.2 vals w F μ hl hd hgv hlt hg).mono fun e w' hr => hr.retD.ret hlt⟩
theorem callC {f : FuncId} {args : List D} {d : D} {r : List Room} (h : C1 f args d r) {W : World} (hg : GOK (old W) W) {vals : List Value} (hl : vals.length = args.length) (hu : ∀ (i : Nat) (v : Value) (x : D), vals[i]? = some v → args[i]? = some x → Den0 (old W) W v x) :
  Calls Tryz.prog f vals.toArray W fun e W' => (∃ v, e = .returned v ∧ ∀ c ν, Den c ν (old W') W' v d) ∧ Below W.heap.size W W' := by
 refine (h.2 vals W (old W) mu0 hl (fun i v x h1 h2 => .pure _ _ (hu i v x h1 h2)) (given0 W) (old_lt W) hg).mono ?_
 rintro e w' ⟨v, F', ncl, rfl, hE, hlt, _, hv, _⟩
 refine ⟨⟨v, rfl, ?_⟩, ⟨hE.os, hE.tape, hE.output, hE.size, fun b hb => hE.block b hb (S_zero _ b)⟩⟩
 rcases hv with ⟨_, hv, _⟩ | ⟨h1, _⟩
 ·exact fun c ν => (hv c ν).ext (S := fun _ => False) ⟨rfl, rfl, rfl, Nat.le_refl _, fun _ _ _ => rfl, fun b o hf => hlt b o hf, fun _ _ _ => rfl, fun _ _ _ _ h => h⟩
 ·simp at h1
theorem three_at {α β : Type} {a b c : α} {x y z : β} {P : α → β → Prop} (h1 : P a x) (h2 : P b y) (h3 : P c z) : ∀ (i : Nat) (v : α) (d : β), [a, b, c][i]? = some v → [x, y, z][i]? = some d → P v d
 | 0, v, d, hv, hd => by simp at hv hd; subst hv hd; exact h1
 | 1, v, d, hv, hd => by simp at hv hd; subst hv hd; exact h2
 | 2, v, d, hv, hd => by simp at hv hd; subst hv hd; exact h3
 | i + 3, v, d, hv, _ => by simp at hv
theorem two_at {α β : Type} {a b : α} {x y : β} {P : α → β → Prop} (h1 : P a x) (h2 : P b y) : ∀ (i : Nat) (v : α) (d : β), [a, b][i]? = some v → [x, y][i]? = some d → P v d
 | 0, v, d, hv, hd => by simp at hv hd; subst hv hd; exact h1
 | 1, v, d, hv, hd => by simp at hv hd; subst hv hd; exact h2
 | i + 2, v, d, hv, _ => by simp at hv
theorem den_bool {v : Value} {W : World} {b : Bool} (h : ∀ c ν, Den c ν (old W) W v (.bool b)) : v = .bool b := (h (fun _ => 0) fun _ _ => 0).bool_
theorem den_par {v : Value} {W : World} {x : Int × Bool} (h : ∀ c ν, Den c ν (old W) W v (.tuple [.int .i64 x.1, .bool x.2])) : v = parV x := by
 obtain ⟨vs, rfl, hl, hh⟩ := (h (fun _ => 0) fun _ _ => 0).tuple_
 match vs, hl with
 | [a, b], _ =>
  have h0 := (hh 0 a _ rfl rfl).int_
  have h1 := (hh 1 b _ rfl rfl).bool_
  subst h0 h1
  rfl
theorem flat_two {l : List D} (h : ∀ x ∈ l, (dcells x).length = 2) : ∀ (x : D), (flat (l ++ [x])).take (l.length * 2) = flat l ∧ (flat (l ++ [x])).drop (l.length * 2) = dcells x := by
 intro x
 have hl : (flat l).length = l.length * 2 := by
  clear x
  induction l with
  | nil => rfl
  | cons a r ih =>
   have e : flat (a :: r) = dcells a ++ flat r := by simp [flat]
   rw [e, List.length_append, h a (List.mem_cons_self ..), ih (fun y hy => h y (List.mem_cons_of_mem _ hy)), List.length_cons]
   omega
 have e : flat (l ++ [x]) = flat l ++ dcells x := by simp [flat]
 rw [e, ← hl]
 simp
theorem row_hand [Rk] {chk : List D → Bool} (hext : CallOK Tryz.prog (ext11b chk)) {ns : List Nd} {nm : Nam} {n : Int} {l sl : List D} (hR : RightT ns) (he : elB ns n = true) (hl : l.length ≤ 1000) (hl0 : l ≠ []) (hc : ∀ x ∈ l, (dcells x).length = 2)
  (hfit : Go.Av.callL Tryz.prog (ext11b chk) 79 [eyeD ns nm, .agg [.int .i64 1, .list sl], .int .i64 n] [] = some (.bool true, [.no], []))
  (V : Int → Bool) (hrec : ∀ m, elB ns m = true → C1 45 [eyeD ns nm, .list l, .int .i64 m] (.bool (V m)) []) :
  C1 45 [eyeD ns nm, .list (l ++ [.agg [.int .i64 1, .list sl]]), .int .i64 n] (.bool ((upsI ns (n.toNat + 1) n).any V)) [] := by
 refine ⟨⟨_, Tryz.func45, rfl⟩, fun vals w F μ hv hd _ hlt hg => ?_⟩
 match vals, hv with
 | [u1, u2, u3], _ =>
  have d1 := (hd 0 u1 _ rfl rfl)
  have d2 := (hd 1 u2 _ rfl rfl).list_
  have d3 := (hd 2 u3 _ rfl rfl).int_
  subst d3
  have p1 : Den0 F w u1 (eyeD ns nm) := d1.pureB_ rfl
  have q1 := p1
  unfold eyeD Nam.cs at q1
  cases q1 with
  | agg vs _ h1 h2 h3 =>
   match vs, h1 with
   | [p, v1, v2, v3, v4], _ =>
    have hp := h3 0 p _ rfl rfl
    cases d2 with
    | list a N c sz es cv g1 g2 g3 g4 g5 g6 g7 =>
     have hsz : sz = 2 := (g4 (.agg [.int .i64 1, .list sl]) (by simp)).symm
     subst hsz
     have hN : N = l.length + 1 := by rw [← g1]; simp
     subst hN
     rcases g6 with g6 | ⟨b, off, rfl, hcell⟩
     ·rw [g6] at g5; simp at g5
     have hcv : cv.length = (l.length + 1) * 2 := g5
     obtain ⟨f1, f2⟩ := flat_two hc (.agg [.int .i64 1, .list sl])
     have i0 : cv[l.length * 2]? = some cv[l.length * 2] := List.getElem?_eq_getElem (by omega)
     have i1 : cv[l.length * 2 + 1]? = some cv[l.length * 2 + 1] := List.getElem?_eq_getElem (by omega)
     have j0 : (flat (l ++ [.agg [.int .i64 1, .list sl]]))[l.length * 2]? = some (.int .i64 1) := by
      rw [show l.length * 2 = l.length * 2 + 0 from rfl, ← List.getElem?_drop, f2]; rfl
     have j1 : (flat (l ++ [.agg [.int .i64 1, .list sl]]))[l.length * 2 + 1]? = some (.list sl) := by
      rw [← List.getElem?_drop, f2]; rfl
     have k0 := g7 _ _ _ i0 j0
     have k1 := g7 _ _ _ i1 j1
     obtain ⟨sa, sn, sc, hs⟩ := k1.slice_
     have k0' := (Den.pure (c := fun _ => 0) (ν := fun _ _ => 0) _ _ k0).int_
     have c0 := hcell _ _ i0
     have c1 := hcell _ _ i1
     rw [k0'] at c0 k0
     rw [hs] at c1 k1
     have hb : b < w.heap.size := hlt _ _ c0.1
     have hrest : Den0 F w (.slice (some ⟨b, off, none⟩) l.length c) (.list l) := by
      refine .list _ _ _ 2 _ (cv.take (l.length * 2)) rfl (by omega) (by decide) hc (by rw [List.length_take]; omega) (.inr ⟨b, off, rfl, fun i v hv => ?_⟩) fun i v x hv hx => ?_
      ·rw [List.getElem?_take] at hv
       split at hv
       ·exact hcell i v hv
       ·cases hv
      ·rw [List.getElem?_take] at hv
       split at hv
       ·refine g7 i v x hv ?_
        rename_i hi
        rw [← f1, List.getElem?_take, if_pos hi] at hx
        exact hx
       ·cases hv
     have hcp : Den0 F w (.agg #[.int .i64 1, .slice sa sn sc]) (.agg [.int .i64 1, .list sl]) := by
      refine Den0.agg [.int .i64 1, .slice sa sn sc] _ rfl ?_ (two_at (P := fun v d => Den0 F w v d) k0 k1)
      intro v hv
      simp only [List.mem_cons, List.not_mem_nil, or_false] at hv
      rcases hv with rfl | rfl <;> rfl
     have hw : ∀ W, Below w.heap.size w W → GOK (old W) W ∧ ∀ {v d}, Den0 F w v d → Den0 (old W) W v d := fun W hb => ⟨hg.ext (ext_oldW hlt hb), fun h => h.ext (ext_oldW hlt hb)⟩
     have key := row_any w p v1 v2 v3 v4 ⟨h2 p (by simp), h2 v1 (by simp), h2 v2 (by simp), h2 v3 (by simp), h2 v4 (by simp)⟩ n ns hR he b off l.length c hl (fun e => hl0 (List.eq_nil_of_length_eq_zero e)) g2 hb sa sn sc c0.2.1 c1.2.1
      (fun W hW => ?_) (fun m W hW => ?_) V (fun m hm W hW => ?_) _ rfl
     ·exact key.mono fun e w' h => (show RetD F w _ e w' from by
       obtain ⟨rfl, hb'⟩ := h
       exact RetD.of hb' (.bool _)).ret hlt
     ·obtain ⟨hgW, hdW⟩ := hw W hW
      refine (callC (C1.callL hext hfit) hgW (vals := [.agg #[p, v1, v2, v3, v4], .agg #[.int .i64 1, .slice sa sn sc], .int .i64 n]) rfl (three_at (P := fun v d => Den0 (old W) W v d) (hdW p1) (hdW hcp) (.int _ _))).mono ?_
      rintro e w' ⟨⟨v, rfl, hv⟩, hb'⟩
      exact ⟨by rw [den_bool hv], hb'⟩
     ·obtain ⟨hgW, hdW⟩ := hw W hW
      refine (callC (C1.callL hext (parent_L (chk := chk) ns m)) hgW (vals := [p, .int .i64 m]) rfl (two_at (P := fun v d => Den0 (old W) W v d) (hdW hp) (.int _ _))).mono ?_
      rintro e w' ⟨⟨v, rfl, hv⟩, hb'⟩
      exact ⟨by rw [den_par hv], hb'⟩
     ·obtain ⟨hgW, hdW⟩ := hw W hW
      refine (callC (hrec m hm) hgW (vals := [.agg #[p, v1, v2, v3, v4], .slice (some ⟨b, off, none⟩) l.length c, .int .i64 m]) rfl (three_at (P := fun v d => Den0 (old W) W v d) (hdW p1) (hdW hrest) (.int _ _))).mono ?_
      rintro e w' ⟨⟨v, rfl, hv⟩, hb'⟩
      exact ⟨by rw [den_bool hv], hb'⟩
end Go.Av
/-
 DERIVED: THE SHELF's CONTRACTS AT THIS DUMP, IN PLAIN WORDS (tools/lay-plain.mjs out of 'Av12Shelf.lean', which tools/lay-shelf.mjs wrote): THE SAME DECLARATIONS UNDER THE SAME NAMES: 'import', 'namespace', 'open', 'def', 'theorem' AND NOTHING ELSE: no command of the shelf's: FOR A HAND-IN. Each laying: the table of numbers ('.._ren') and one theorem, a field a fact of the dump's own or the kernel's comparison; each contract: ONE APPLICATION.
-/
namespace Go.Proofs
open Go.Shelf
def Tryz.laysFF_ren : Go.Shelf.Ren := ⟨fun | 229 => 164 | n => n, fun | 9 => 9 | 40 => 195 | 31 => 24 | 152 => 211 | 3 => 3 | 0 => 0 | 4 => 4 | 21 => 21 | 154 => 213 | n => n, fun | n => n⟩
theorem Tryz.laysFF : Go.Proofs.Lays.n229 Tryz.prog Tryz.laysFF_ren := {
 mixed := by kernel_rfl
 f229 := Tryz.func164.trans (congrArg some (by kernel_rfl))
 t0 := Tryz.underlying0
 a0 := Tryz.isAgg0
 z0 := Tryz.sizeOf0
 v0 := Tryz.zeroValue0
 t3 := Tryz.underlying3
 a3 := Tryz.isAgg3
 z3 := Tryz.sizeOf3
 v3 := Tryz.zeroValue3
 t4 := Tryz.underlying4
 a4 := Tryz.isAgg4
 z4 := Tryz.sizeOf4
 v4 := Tryz.zeroValue4
 t9 := Tryz.underlying9
 a9 := Tryz.isAgg9
 z9 := Tryz.sizeOf9
 v9 := Tryz.zeroValue9
 t21 := Tryz.underlying21
 a21 := Tryz.isAgg21
 z21 := Tryz.sizeOf21
 v21 := Tryz.zeroValue21
 t31 := Tryz.underlying24
 a31 := Tryz.isAgg24
 z31 := Tryz.sizeOf24
 v31 := Tryz.zeroValue24
 t40 := Tryz.underlying195
 a40 := Tryz.isAgg195
 z40 := Tryz.sizeOf195
 v40 := Tryz.zeroValue195
 t152 := Tryz.underlying211
 a152 := Tryz.isAgg211
 z152 := Tryz.sizeOf211
 v152 := Tryz.zeroValue211
 t154 := Tryz.underlying213
 a154 := Tryz.isAgg213
 z154 := Tryz.sizeOf213
 v154 := Tryz.zeroValue213 }
def Tryz.laysCo_ren : Go.Shelf.Ren := ⟨fun | 144 => 137 | 143 => 170 | 219 => 186 | 217 => 185 | 225 => 197 | 224 => 198 | 267 => 199 | 266 => 196 | 314 => 205 | n => n, fun | 9 => 9 | 4 => 4 | 3 => 3 | 5 => 5 | 46 => 210 | 146 => 223 | 51 => 222 | n => n, fun | 1 => 4 | n => n⟩
theorem Tryz.laysCo : Go.Proofs.Lays.n144 Tryz.prog Tryz.laysCo_ren := {
 mixed := by kernel_rfl
 f143 := Tryz.func170.trans (congrArg some (by kernel_rfl))
 f144 := Tryz.func137.trans (congrArg some (by kernel_rfl))
 f217 := Tryz.func185.trans (congrArg some (by kernel_rfl))
 f219 := Tryz.func186.trans (congrArg some (by kernel_rfl))
 f224 := Tryz.func198.trans (congrArg some (by kernel_rfl))
 f225 := Tryz.func197.trans (congrArg some (by kernel_rfl))
 f266 := Tryz.func196.trans (congrArg some (by kernel_rfl))
 f267 := Tryz.func199.trans (congrArg some (by kernel_rfl))
 f314 := Tryz.func205.trans (congrArg some (by kernel_rfl))
 t3 := Tryz.underlying3
 a3 := Tryz.isAgg3
 z3 := Tryz.sizeOf3
 v3 := Tryz.zeroValue3
 t4 := Tryz.underlying4
 a4 := Tryz.isAgg4
 z4 := Tryz.sizeOf4
 v4 := Tryz.zeroValue4
 t5 := Tryz.underlying5
 a5 := Tryz.isAgg5
 z5 := Tryz.sizeOf5
 v5 := Tryz.zeroValue5
 t9 := Tryz.underlying9
 a9 := Tryz.isAgg9
 z9 := Tryz.sizeOf9
 v9 := Tryz.zeroValue9
 t46 := Tryz.underlying210
 a46 := Tryz.isAgg210
 z46 := Tryz.sizeOf210
 v46 := Tryz.zeroValue210
 t51 := Tryz.underlying222
 a51 := Tryz.isAgg222
 z51 := Tryz.sizeOf222
 v51 := Tryz.zeroValue222
 t146 := Tryz.underlying223
 a146 := Tryz.isAgg223
 z146 := Tryz.sizeOf223
 v146 := Tryz.zeroValue223
 g1 := by kernel_rfl }
def Tryz.laysIB_ren : Go.Shelf.Ren := ⟨fun | 137 => 166 | 217 => 185 | 266 => 196 | n => n, fun | 9 => 9 | 5 => 5 | 3 => 3 | n => n, fun | n => n⟩
theorem Tryz.laysIB : Go.Proofs.Lays.n137 Tryz.prog Tryz.laysIB_ren := {
 mixed := by kernel_rfl
 f137 := Tryz.func166.trans (congrArg some (by kernel_rfl))
 f217 := Tryz.func185.trans (congrArg some (by kernel_rfl))
 f266 := Tryz.func196.trans (congrArg some (by kernel_rfl))
 t3 := Tryz.underlying3
 a3 := Tryz.isAgg3
 z3 := Tryz.sizeOf3
 v3 := Tryz.zeroValue3
 t5 := Tryz.underlying5
 a5 := Tryz.isAgg5
 z5 := Tryz.sizeOf5
 v5 := Tryz.zeroValue5
 t9 := Tryz.underlying9
 a9 := Tryz.isAgg9
 z9 := Tryz.sizeOf9
 v9 := Tryz.zeroValue9 }
end Go.Proofs
namespace Go.Av
open Go.Proofs
theorem idxB_shift (c : UInt8) : ∀ (l : List UInt8) (k : Nat), idxB c (k + 1) l = if idxB c k l == -1 then -1 else idxB c k l + 1
 | [], k => rfl
 | x :: r, k => by
  unfold idxB
  split
  ·rw [if_neg (by simp)]
   omega
  ·rw [idxB_shift c r (k + 1)]
theorem index_idxB (c : UInt8) : ∀ (l : List UInt8), Lib.indexByte l c = idxB c 0 l
 | [] => rfl
 | x :: r => by
  unfold Lib.indexByte idxB
  rw [index_idxB c r, ← idxB_shift c r 0]
  simp only [beq_iff_eq]
  rfl
theorem pre_is : ∀ (p s : List UInt8), p.isPrefixOf s = preB p s
 | [], s => rfl
 | _ :: _, [] => rfl
 | a :: p, b :: s => by
  rw [List.isPrefixOf, preB, pre_is p s]
theorem has_contains (t : List UInt8) : ∀ (s : List UInt8), Lib.contains s t = hasB t s
 | [] => by
  unfold Lib.contains Lib.index hasB
  cases t with
  | nil => rfl
  | cons a r => rfl
 | x :: r => by
  have ih := has_contains t r
  unfold Lib.contains at ih ⊢
  unfold Lib.index hasB
  rw [pre_is, ← ih]
  have hge := Lib.index_ge r t
  cases preB t (x :: r) with
  | true => rfl
  | false =>
   simp only [Bool.false_eq_true, if_false, Bool.false_or]
   by_cases h : Lib.index r t = -1
   ·simp [h]
   ·have h2 : (Lib.index r t == -1) = false := by simpa using h
    rw [h2]
    simp only [Bool.false_eq_true, if_false]
    congr 1
    apply propext
    omega
end Go.Av
namespace Go.Av
open Go.Proofs
def pB (x : Nat) : Bool := decide (x < 128) && decide (idxB (UInt8.ofNat x) 0 [32, 9, 10, 13, 12] ≥ 0)
theorem pB_hi (x : Nat) (h : 128 ≤ x) : pB x = false := by unfold pB; rw [decide_eq_false (by omega)]; rfl
theorem each_byte {p : UInt8 → Bool} (h : (List.range 256).all (fun n => p (UInt8.ofNat n)) = true) (b : UInt8) : p b = true := by
 have := List.all_eq_true.1 h b.toNat (List.mem_range.2 b.toNat_lt)
 simpa using this
theorem pB_lo (b : UInt8) (h : b.toNat < 128) : pB b.toNat = blankB b := by
 have := each_byte (p := fun b => !decide (b.toNat < 128) || pB b.toNat == blankB b) (by decide +kernel) b
 simpa [h] using this
theorem blank_hi (b : UInt8) (h : 128 ≤ b.toNat) : blankB b = false := by
 have := each_byte (p := fun b => !decide (128 ≤ b.toNat) || blankB b == false) (by decide +kernel) b
 simpa [h] using this
theorem parts_skip : ∀ (k : Nat) (l p : List UInt8), k ≤ l.length → (∀ x ∈ l.take k, blankB x = false) → partsB l p = partsB (l.drop k) (p ++ l.take k)
 | 0, l, p, _, _ => by simp
 | k + 1, [], p, h, _ => by simp at h
 | k + 1, x :: r, p, h, hb => by
  rw [partsB, if_neg (by rw [hb x (by simp)]; simp), parts_skip k r (p ++ [x]) (by simpa using h) (fun y hy => hb y (by simp [hy]))]
  simp
theorem get_drop (s : ByteArray) (pos j : Nat) (h : pos + j < s.size) : (s.data.toList.drop pos)[j]? = some (s.get! (pos + j)) := by
 have h' : pos + j < s.data.toList.length := by rw [← Lib.size_eq]; exact h
 rw [List.getElem?_drop, List.getElem?_eq_getElem h']
 congr 1
 have h2 : pos + j < s.data.size := h
 show _ = s.data[pos + j]!
 rw [getElem!_pos s.data (pos + j) h2]
 rfl
theorem dec_hi (s : ByteArray) (pos : Nat) (h : pos < s.size) (hb : 128 ≤ (s.get! pos).toNat) :
  128 ≤ (Utf8.decode s pos).1 ∧ 1 ≤ (Utf8.decode s pos).2 ∧ pos + (Utf8.decode s pos).2 ≤ s.size ∧ ∀ j, j < (Utf8.decode s pos).2 → 128 ≤ (s.get! (pos + j)).toNat := by
 have one : 1 ≤ 1 ∧ pos + 1 ≤ s.size ∧ ∀ j, j < 1 → 128 ≤ (s.get! (pos + j)).toNat := ⟨Nat.le_refl _, h, fun j hj => by
  have hj0 : j = 0 := by omega
  rw [hj0]; exact hb⟩
 unfold Utf8.decode
 simp only [Nat.add_zero]
 rw [if_neg (by omega)]
 split
 ·rename_i hc
  simp only [Bool.and_eq_true, decide_eq_true_eq, beq_iff_eq] at hc
  split
  ·refine ⟨by assumption, by omega, by omega, fun j hj => ?_⟩
   match j, hj with
   | 0, _ => exact hb
   | 1, _ => omega
  ·exact ⟨by decide, one⟩
 ·split
  ·rename_i hc
   simp only [Bool.and_eq_true, decide_eq_true_eq, beq_iff_eq] at hc
   split
   ·rename_i hv
    refine ⟨by simp only [Bool.and_eq_true, decide_eq_true_eq] at hv; omega, by omega, by omega, fun j hj => ?_⟩
    match j, hj with
    | 0, _ => exact hb
    | 1, _ => omega
    | 2, _ => omega
   ·exact ⟨by decide, one⟩
  ·split
   ·rename_i hc
    simp only [Bool.and_eq_true, decide_eq_true_eq, beq_iff_eq] at hc
    split
    ·rename_i hv
     refine ⟨by simp only [Bool.and_eq_true, decide_eq_true_eq] at hv; omega, by omega, by omega, fun j hj => ?_⟩
     match j, hj with
     | 0, _ => exact hb
     | 1, _ => omega
     | 2, _ => omega
     | 3, _ => omega
    ·exact ⟨by decide, one⟩
   ·exact ⟨by decide, one⟩
theorem dec_lo (s : ByteArray) (pos : Nat) (hb : (s.get! pos).toNat < 128) : Utf8.decode s pos = ((s.get! pos).toNat, 1) := by
 unfold Utf8.decode
 simp only [Nat.add_zero]
 rw [if_pos (by omega)]
open Go.Lib in
theorem spansP_eq (s : ByteArray) : ∀ (f pos : Nat) (st : Option Nat) (acc : List (Nat × Nat)), s.size ≤ pos + f → pos ≤ s.size → (∀ a, st = some a → a < pos) →
  acc.map (fun p => pieceU s.data.toList p.1 p.2) ++ partsB (s.data.toList.drop pos) (openPiece s.data.toList st pos) = (closeSpans s (spansFromP pB s f pos st acc)).map (fun p => pieceU s.data.toList p.1 p.2) := by
 intro f
 induction f with
 | zero =>
  intro pos st acc h hp hst
  obtain rfl : pos = s.size := by omega
  have hd : s.data.toList.drop s.size = [] := List.drop_eq_nil_of_le (by rw [← size_eq]; exact Nat.le_refl _)
  rw [hd, partsB]
  cases st with
  | none => simp [spansFromP, closeSpans, openPiece]
  | some a =>
   have := pieceU_ne s.data.toList a s.size (hst a rfl) (by rw [← size_eq]; exact Nat.le_refl _)
   simp [spansFromP, closeSpans, openPiece, this]
 | succ f ih =>
  intro pos st acc h hp hst
  by_cases hlt : pos < s.size
  ·have hd0 : s.data.toList.drop pos = s.get! pos :: s.data.toList.drop (pos + 1) := by
    have h' : pos < s.data.toList.length := by rw [← size_eq]; exact hlt
    rw [List.drop_eq_getElem_cons h']
    congr 1
    have := get_drop s pos 0 hlt
    rw [List.getElem?_drop, Nat.add_zero, List.getElem?_eq_getElem h'] at this
    exact Option.some.inj this
   have hun : ∀ g, spansFromP pB s (f + 1) pos g acc = if pB (Utf8.decode s pos).1 = true then (match g with
        | some a => spansFromP pB s f (pos + (Utf8.decode s pos).2) none (acc ++ [(a, pos)])
        | none => spansFromP pB s f (pos + (Utf8.decode s pos).2) none acc) else (match g with
        | some a => spansFromP pB s f (pos + (Utf8.decode s pos).2) (some a) acc
        | none => spansFromP pB s f (pos + (Utf8.decode s pos).2) (some pos) acc) := fun g => by
    conv => lhs; unfold spansFromP
    rw [if_pos hlt]
    cases g <;> rfl
   rw [hun]
   by_cases hb : (s.get! pos).toNat < 128
   ·rw [dec_lo s pos hb]
    simp only
    rw [pB_lo _ hb]
    rw [hd0, partsB]
    have h1 : (s.data.toList.drop pos).take 1 = [s.get! pos] := by rw [hd0]; rfl
    split
    ·cases st with
     | none =>
      have := ih (pos + 1) none acc (by omega) (by omega) (fun a h => by cases h)
      simpa [openPiece] using this
     | some a =>
      have hpn := pieceU_ne s.data.toList a pos (hst a rfl) (by rw [← size_eq]; omega)
      have := ih (pos + 1) none (acc ++ [(a, pos)]) (by omega) (by omega) (fun a h => by cases h)
      simpa [openPiece, hpn] using this
    ·cases st with
     | none =>
      have := ih (pos + 1) (some pos) acc (by omega) (by omega) (fun a h => by cases h; omega)
      simp only [openPiece] at this ⊢
      rw [← this, List.nil_append, ← h1, show pieceU s.data.toList pos (pos + 1) = (s.data.toList.drop pos).take 1 by unfold pieceU; rw [Nat.add_sub_cancel_left]]
     | some a =>
      have := ih (pos + 1) (some a) acc (by omega) (by omega) (fun b h => by cases h; have := hst a rfl; omega)
      simp only [openPiece] at this ⊢
      rw [← this, ← h1, pieceU_grow _ _ _ _ (Nat.le_of_lt (hst a rfl))]
   ·obtain ⟨d1, d2, d3, d4⟩ := dec_hi s pos hlt (by omega)
    have hsk : ∀ p, partsB (s.data.toList.drop pos) p = partsB (s.data.toList.drop (pos + (Utf8.decode s pos).2)) (p ++ (s.data.toList.drop pos).take (Utf8.decode s pos).2) := by
     intro p
     rw [parts_skip (Utf8.decode s pos).2 _ p (by rw [List.length_drop, ← size_eq]; omega), List.drop_drop]
     intro x hx
     obtain ⟨j, hj, rfl⟩ := List.mem_iff_getElem.1 hx
     rw [List.length_take, List.length_drop, ← size_eq] at hj
     rw [List.getElem_take]
     have := get_drop s pos j (by omega)
     rw [List.getElem?_eq_getElem (by rw [List.length_drop, ← size_eq]; omega)] at this
     rw [Option.some.inj this]
     exact blank_hi _ (d4 j (by omega))
    rw [pB_hi _ d1, hsk]
    simp only [Bool.false_eq_true, if_false]
    cases st with
    | none =>
     have := ih (pos + (Utf8.decode s pos).2) (some pos) acc (by omega) d3 (fun a h => by cases h; omega)
     simp only [openPiece] at this ⊢
     rw [← this, List.nil_append, show pieceU s.data.toList pos (pos + (Utf8.decode s pos).2) = (s.data.toList.drop pos).take (Utf8.decode s pos).2 by unfold pieceU; rw [Nat.add_sub_cancel_left]]
    | some a =>
     have := ih (pos + (Utf8.decode s pos).2) (some a) acc (by omega) d3 (fun b h => by cases h; have := hst a rfl; omega)
     simp only [openPiece] at this ⊢
     rw [← this, pieceU_grow _ _ _ _ (Nat.le_of_lt (hst a rfl))]
  ·obtain rfl : pos = s.size := by omega
   have hd : s.data.toList.drop s.size = [] := List.drop_eq_nil_of_le (by rw [← size_eq]; exact Nat.le_refl _)
   rw [hd, spansFromP_end _ s _ _ _ _ hlt, partsB]
   cases st with
   | none => simp [closeSpans, openPiece]
   | some a =>
    have := pieceU_ne s.data.toList a s.size (hst a rfl) (by rw [← size_eq]; exact Nat.le_refl _)
    simp [closeSpans, openPiece, this]
theorem fields_parts (s : List UInt8) : (Lib.goFieldsP pB ⟨s.toArray⟩).map (·.data.toList) = partsB s [] := by
 have h := spansP_eq ⟨s.toArray⟩ s.length 0 none [] (Nat.le_of_eq (by rw [Nat.zero_add]; rfl)) (Nat.zero_le _) (fun a h => by cases h)
 simp only [List.map_nil, List.nil_append, Lib.openPiece, List.drop_zero] at h
 have hs : (ByteArray.mk s.toArray).size = s.length := rfl
 rw [h]
 unfold Lib.goFieldsP Lib.spansOfP
 rw [hs, List.map_map]
 congr 1
 funext p
 simp [Lib.pieceU]
end Go.Av
namespace Go.Av
open Go.Proofs Go.RowKit
theorem retD_same {F : Nat → Nat → Prop} {w : World} {v : Value} {d : D} (hv : Den0 F w v d) : RetD F w d (.returned v) w := RetD.of (Below.refl _ _) (hv.grow fun _ _ h => .inl h)
theorem two_den {c : Nat → Nat} {ν : Nat → Nat → Nat} {F : Nat → Nat → Prop} {w : World} {vals : List Value} {d1 d2 : D} (hl : vals.length = [d1, d2].length) (h : ∀ (i : Nat) (v : Value) (x : D), vals[i]? = some v → [d1, d2][i]? = some x → Den c ν F w v x) :
  ∃ v1 v2, vals = [v1, v2] ∧ Den c ν F w v1 d1 ∧ Den c ν F w v2 d2 := by
 match vals, hl with
 | [v1, v2], _ => exact ⟨v1, v2, rfl, h 0 v1 d1 rfl rfl, h 1 v2 d2 rfl rfl⟩
theorem idx6 (s : List UInt8) (c : Int) {w : World} {F : Nat → Nat → Prop} :
  Calls Tryz.prog 166 #[.string ⟨s.toArray⟩, .int .u8 c] w (RetD F w (.int .i64 (idxB (UInt8.ofNat c.toNat) 0 s))) := by
 have hc : Calls Tryz.prog 166 #[.string ⟨s.toArray⟩, .int .u8 c] w _ := Any.strings_IndexByte Tryz.laysIB ⟨s.toArray⟩ c w
 refine hc.mono ?_
 rintro e w' ⟨rfl, rfl⟩
 rw [index_idxB]
 exact retD_same (.int _ _)
end Go.Av
namespace Go.Av
open Go.Proofs Go.RowKit Go.Proofs.YtcogfddcdpgpkaaGreatDoor
theorem OwnR_of {w : World} {base : Nat} {e : TypeId} {size : Nat} {v : Value} {n : Nat} {xs : List Value} (h : w.ownsRow base e size v n xs) : OwnR w base e size v n xs := .inr h
theorem pred35 (x : Nat) (hx : x ≤ 1114111) (W : World) : FnGives Tryz.prog 165 #[] #[encR x] (.bool (pB x)) W := by
 unfold FnGives encR
 have hw : IntKind.u8.wrap (x : Int) = ((x % 256 : Nat) : Int) := by simp [IntKind.wrap, IntKind.signed, IntKind.bits]
 by_cases h : x < 128
 ·have h1 : ((x : Int) < 128) := by omega
  have hwx : x % 256 = x := by omega
  rw [hwx] at hw
  go_enter Tryz.func165, Tryz.ntmps165
  go_wp2_with (first
   | (go_at_call 166; refine (Any.strings_IndexByte Tryz.laysIB _ _ _).mono ?_; rintro e w' ⟨rfl, rfl⟩))
  go_ret
  refine ⟨?_, 0, rfl⟩
  rw [index_idxB]
  unfold pB
  rw [decide_eq_true h]
  simp
 ·have h1 : ¬ ((x : Int) < 128) := by omega
  go_enter Tryz.func165, Tryz.ntmps165
  go_wp2_with fail
  go_ret
  refine ⟨?_, 0, rfl⟩
  unfold pB
  rw [decide_eq_false h]
  rfl
theorem enter_of {P : Program} (hP : Fine P) {f : FuncId} (h : ∃ fn, P.funcs[f]? = some fn ∧ fn.body.isSome = true) (args : Array Value) (w : World) : (callFunc f args).run P w = .ok (.enter f args) w := by
 obtain ⟨fn, hf, hb⟩ := h
 have hnm := hP.names f fn hf
 have hb' : fn.body.isNone = false := by cases hfb : fn.body <;> simp_all
 simp only [callFunc, Sem.run_bind]
 simp [program, Sem.run, hf, hnm, hb', Result.andThen]
theorem runes35 (w : World) : PredAtRunes Tryz.prog 165 #[] pB w := fun W x hx _ => pred35 x hx W
theorem has6 (s t : List UInt8) (hs : s.length < 4294967281) {w : World} {F : Nat → Nat → Prop} {g : Nat}
  (hg : ∃ d, (∃ m : Int, d = D.fix (.int .i64 m) 0) ∧ Den0 F w (.pointer (some ⟨g, 0, none⟩)) d) (hm' : ∀ m : Int, w.cell? ⟨g, 0, none⟩ = some (.int .i64 m) → Calls Tryz.prog 137 #[.string ⟨s.toArray⟩, .string ⟨t.toArray⟩] w fun e w' => e = .returned (.bool (Lib.contains s t)) ∧ w' = w) :
  Calls Tryz.prog 137 #[.string ⟨s.toArray⟩, .string ⟨t.toArray⟩] w (RetD F w (.bool (hasB t s))) := by
 obtain ⟨d, ⟨m, rfl⟩, hd⟩ := hg
 have hm : w.cell? ⟨g, 0, none⟩ = some (.int .i64 m) := by
  generalize hp : Value.pointer (some ⟨g, 0, none⟩) = p at hd
  cases hd with
  | fix d b o off vs h1 h2 h3 =>
   simp only [Value.pointer.injEq, Option.some.injEq, Addr.mk.injEq, and_true] at hp
   obtain ⟨rfl, ho⟩ := hp
   have ho : o = 0 := by omega
   subst ho
   match vs, h1 with
   | [v], _ =>
    have h4 := h3 0 v _ rfl rfl
    have h5 := (h2 0 v rfl).2.1
    cases h4
    exact h5
 refine (hm' m hm).mono ?_
 rintro e w' ⟨rfl, rfl⟩
 rw [has_contains]
 exact retD_same (.bool _)
theorem flds6 (s : List UInt8) (hs : s.length ≤ 4294967296) {w : World} {F : Nat → Nat → Prop} :
  Calls Tryz.prog 164 #[.string ⟨s.toArray⟩, .func (.func 165) #[] #[]] w (RetD F w (.list ((partsB s []).map .str))) := by
 have hc : Calls Tryz.prog 164 #[.string ⟨s.toArray⟩, .func (.func 165) #[] #[]] w _ :=
  Any.strings_FieldsFunc_runes Tryz.laysFF 165 #[] (enter_of fineS ⟨_, Tryz.func165, rfl⟩) pB ⟨s.toArray⟩ w hs (runes35 w) (by kernel_rfl) (by kernel_rfl)
 refine hc.mono ?_
 rintro e w' ⟨A, rfl, hA, hown, hb⟩
 generalize hP : Lib.goFieldsP pB ⟨s.toArray⟩ = ps at hown ⊢
 have hps : (ps.map (·.data.toList)) = partsB s [] := by rw [← hP]; exact fields_parts s
 have hlen : (partsB s []).length = ps.length := by rw [← hps]; simp
 refine RetD.of hb (own_den (es := (partsB s []).map .str) (OwnR_of hown) (by simp [hlen]) (Nat.lt_succ_self 0) (fun e he => ?_) (fun b o h1 h2 => .inr ⟨h1, h2⟩) (fun u hu => ?_) fun i v x hv hx => ?_)
 ·obtain ⟨x, _, rfl⟩ := List.mem_map.1 he
  rfl
 ·obtain ⟨x, _, rfl⟩ := List.mem_map.1 hu
  rfl
 ·have hfl : flat ((partsB s []).map .str) = (partsB s []).map .str := by
   unfold flat
   rw [List.flatMap_map]
   generalize partsB s [] = l
   induction l with
   | nil => rfl
   | cons a r ih => rw [List.flatMap_cons, ih]; rfl
  rw [hfl, ← hps] at hx
  simp only [List.getElem?_map, Option.map_eq_some_iff] at hv hx
  obtain ⟨p, hp, rfl⟩ := hv
  obtain ⟨q, ⟨p', hp', rfl⟩, rfl⟩ := hx
  rw [hp] at hp'
  obtain rfl := Option.some.inj hp'
  have := Den0.str (F := nw F w w') (w := w') p.data.toList
  simpa using this
theorem ext6_ok : CallOK Tryz.prog ext6 := by
 intro f args pbs d r pbs' h
 unfold ext6 at h
 split at h
 ·simp only [Option.some.injEq, Prod.mk.injEq] at h
  obtain ⟨rfl, rfl, rfl⟩ := h
  refine ⟨⟨_, Tryz.func166, rfl⟩, fun vals w F μ hv hd hb _ hlt hg => ?_⟩
  obtain ⟨v1, v2, rfl, h1, h2⟩ := two_den hv hd
  rw [h1.str_, h2.int_]
  exact (idx6 _ _).mono fun e w' h => h.ret hlt
 ·split at h
  ·rename_i hs
   simp only [Option.some.injEq, Prod.mk.injEq] at h
   obtain ⟨rfl, rfl, rfl⟩ := h
   refine ⟨⟨_, Tryz.func137, rfl⟩, fun vals w F μ hv hd hb _ hlt hg => ?_⟩
   obtain ⟨v1, v2, rfl, h1, h2⟩ := two_den hv hd
   rw [h1.str_, h2.str_]
   exact (has6 _ _ hs (hg.2.1 (4, fun d => ∃ m : Int, d = .fix (.int .i64 m) 0) (by show _ ∈ [_]; simp)) fun m hm => Any.strings_Contains Tryz.laysCo ⟨_⟩ ⟨_⟩ m w hs hm).mono fun e w' h => h.ret hlt
  ·cases h
 ·split at h
  ·rename_i hs
   simp only [Option.some.injEq, Prod.mk.injEq] at h
   obtain ⟨rfl, rfl, rfl⟩ := h
   refine ⟨⟨_, Tryz.func164, rfl⟩, fun vals w F μ hv hd hb _ hlt hg => ?_⟩
   obtain ⟨v1, v2, rfl, h1, h2⟩ := two_den hv hd
   have h2' : v2 = .func (.func 165) #[] #[] := by
    cases h2 with
    | pure v d hp => cases hp with | func fn fs cs f c e1 e2 => cases fs <;> cases cs <;> simp_all
    | func fn fs cs f c e1 e2 => cases fs <;> cases cs <;> simp_all
   rw [h1.str_, h2']
   exact (flds6 _ hs).mono fun e w' h => h.ret hlt
  ·cases h
 ·cases h
end Go.Av
namespace Go.Av
open Go.Proofs Go.RowKit Go.Proofs.YtcogfddcdpgpkaaGreatDoor
theorem map_inj {α β : Type} {f : α → β} (h : ∀ x y, f x = f y → x = y) : ∀ {l r : List α}, l.map f = r.map f → l = r
 | [], [], _ => rfl
 | [], _ :: _, e => by simp at e
 | _ :: _, [], e => by simp at e
 | x :: l, y :: r, e => by
  simp only [List.map_cons, List.cons.injEq] at e
  rw [h x y e.1, map_inj h e.2]
theorem str_inj (x y : List UInt8) (h : D.str x = D.str y) : x = y := by injection h
theorem at_inj (x y : At) (h : x.d = y.d) : x = y := by
 obtain ⟨a, b, c⟩ := x
 obtain ⟨a', b', c'⟩ := y
 simp only [At.d, D.agg.injEq, List.cons.injEq, D.str.injEq, and_true] at h
 obtain ⟨rfl, rfl, rfl⟩ := h
 rfl
theorem nd_inj (x y : Nd) (h : x.d = y.d) : x = y := by
 obtain ⟨a, b, c, d, e, f, g⟩ := x
 obtain ⟨a', b', c', d', e', f', g'⟩ := y
 simp only [Nd.d, D.agg.injEq, List.cons.injEq, D.str.injEq, D.int.injEq, D.list.injEq, and_true, true_and] at h
 obtain ⟨rfl, rfl, rfl, rfl, h1, h2, rfl⟩ := h
 rw [map_inj at_inj h1, map_inj str_inj h2]
theorem tree_inj {ns ns' : List Nd} (h : treeN ns = treeN ns') : ns = ns' := by
 unfold treeN treeD at h
 simp only [D.fix.injEq, D.agg.injEq, List.cons.injEq, D.list.injEq] at h
 exact map_inj nd_inj h.1.1
theorem eye_inj {ns ns' : List Nd} {nm nm' : Nam} (h : eyeD ns nm = eyeD ns' nm') : ns = ns' ∧ nm = nm' := by
 unfold eyeD Nam.cs at h
 simp only [D.agg.injEq, List.cons.injEq, D.bool.injEq, D.str.injEq, D.list.injEq, and_true] at h
 obtain ⟨h0, h1, h2, h3, h4⟩ := h
 refine ⟨tree_inj h0, ?_⟩
 obtain ⟨a, b, c, d⟩ := nm
 obtain ⟨a', b', c', d'⟩ := nm'
 dsimp only at h1 h2 h3 h4
 rw [h1, h2, map_inj str_inj h3, map_inj str_inj h4]
def smN : Nat → D → Bool
 | 0, _ => false
 | k + 1, d => smOk 100 (k + 1) d && (decide ((sf d).a ≤ 1099511627776) && (decide (-1099511627776 ≤ (sf d).a) && (decide ((sf d).b ≤ 1099511627776) && (decide (-1099511627776 ≤ (sf d).b) && lsOk 100 (smN k) (sf d).of_))))
theorem smN_inv {k : Nat} {d : D} (h : smN (k + 1) d = true) : smOk 100 (k + 1) d = true ∧ ((sf d).a ≤ 1099511627776 ∧ -1099511627776 ≤ (sf d).a) ∧ ((sf d).b ≤ 1099511627776 ∧ -1099511627776 ≤ (sf d).b) ∧ lsOk 100 (smN k) (sf d).of_ = true := by
 simp only [smN, Bool.and_eq_true, decide_eq_true_eq] at h
 exact ⟨h.1, ⟨h.2.1, h.2.2.1⟩, ⟨h.2.2.2.1, h.2.2.2.2.1⟩, h.2.2.2.2.2⟩
theorem smN_ok {k : Nat} {d : D} (h : smN k d = true) : smOk 100 k d = true := by
 cases k with
 | zero => simp [smN] at h
 | succ k => exact (smN_inv h).1
theorem cp_mono {m : Nat} {S S' : D → Bool} (h : ∀ d, S d = true → S' d = true) {x : D} (hx : cpOk m S x = true) : cpOk m S' x = true := by
 obtain ⟨c, l, rfl, h1, h2⟩ := cpOk_inv hx
 simp only [cpD, cpOk, lenB, Bool.and_eq_true, decide_eq_true_eq, List.all_eq_true]
 exact ⟨h1, fun s hs => h s (h2 s hs)⟩
theorem cx_mono {m : Nat} {S S' : D → Bool} (h : ∀ d, S d = true → S' d = true) {x : D} (hx : cxOk m S x = true) : cxOk m S' x = true := by
 obtain ⟨l, rfl, h1, h2⟩ := cxOk_inv hx
 simp only [cxD, cxOk, lenB, Bool.and_eq_true, decide_eq_true_eq, List.all_eq_true]
 exact ⟨h1, fun s hs => cp_mono h (h2 s hs)⟩
theorem ls_mono {m : Nat} {S S' : D → Bool} (h : ∀ d, S d = true → S' d = true) {l : List D} (hx : lsOk m S l = true) : lsOk m S' l = true := by
 obtain ⟨h1, h2⟩ := lsOk_mem hx
 simp only [lsOk, lenB, Bool.and_eq_true, decide_eq_true_eq, List.all_eq_true]
 exact ⟨h1, fun s hs => cx_mono h (h2 s hs)⟩
theorem smN_up : ∀ (k : Nat) (d : D), smN k d = true → ∀ j, k ≤ j → smN j d = true
 | 0, d, h, _, _ => by simp [smN] at h
 | k + 1, d, h, 0, hj => absurd hj (by omega)
 | k + 1, d, h, j + 1, hj => by
  obtain ⟨h1, h2, h3, h4⟩ := smN_inv h
  simp only [smN, Bool.and_eq_true, decide_eq_true_eq]
  exact ⟨smOk_up _ _ h1 _ hj, h2.1, h2.2, h3.1, h3.2, ls_mono (fun d hd => smN_up k d hd j (by omega)) h4⟩
def rowAsk (ok : List D → Prop) (e : D) (l : List D) (n : Int) (p : List Nd × Nam) : Prop := e = eyeD p.1 p.2 ∧ SmallD p.1 ∧ RightT p.1 ∧ p.2.ok ∧ elB p.1 n = true ∧ ok l
open Classical in
noncomputable def rowE (ok : List D → Prop) (args : List D) (pbs : List Bx) : Option (D × List Room × List Bx) := match args, pbs with
 | [e, .list l, .int .i64 n], [] => if h : ∃ p, rowAsk ok e l n p then some (.bool (rowV (sV h.choose.1 h.choose.2) h.choose.1 l.reverse n), [], []) else none
 | _, _ => none
theorem rowE_some {ok : List D → Prop} {ns : List Nd} {nm : Nam} {l : List D} {n : Int} (h : rowAsk ok (eyeD ns nm) l n (ns, nm)) : rowE ok [eyeD ns nm, .list l, .int .i64 n] [] = some (.bool (rowV (sV ns nm) ns l.reverse n), [], []) := by
 unfold rowE
 dsimp only
 have h0 : ∃ p, rowAsk ok (eyeD ns nm) l n p := ⟨_, h⟩
 rw [dif_pos h0]
 obtain ⟨e1, e2⟩ := eye_inj h0.choose_spec.1
 rw [← e1, ← e2]
theorem rowE_none {ok : List D → Prop} {e : D} {l : List D} {n : Int} (h : ¬ ok l) : rowE ok [e, .list l, .int .i64 n] [] = none := by
 unfold rowE
 dsimp only
 rw [dif_neg]
 rintro ⟨p, hp⟩
 exact h hp.2.2.2.2.2
theorem rowE_inv {ok : List D → Prop} {args : List D} {pbs : List Bx} {d : D} {r : List Room} {pbs' : List Bx} (h : rowE ok args pbs = some (d, r, pbs')) :
  ∃ ns nm l n, args = [eyeD ns nm, .list l, .int .i64 n] ∧ pbs = [] ∧ rowAsk ok (eyeD ns nm) l n (ns, nm) ∧ d = .bool (rowV (sV ns nm) ns l.reverse n) ∧ r = [] ∧ pbs' = [] := by
 unfold rowE at h
 split at h
 ·rename_i e l n
  split at h
  ·rename_i hc
   have hs := hc.choose_spec
   simp only [Option.some.injEq, Prod.mk.injEq] at h
   obtain ⟨rfl, rfl, rfl⟩ := h
   have he := hs.1
   refine ⟨hc.choose.1, hc.choose.2, l, n, by rw [← he], rfl, ⟨rfl, hs.2⟩, rfl, rfl, rfl⟩
  ·cases h
 ·cases h
noncomputable abbrev rkE (sp : Call) (ok : List D → Prop) : Rk := ⟨fun f args pbs => if f = 45 then rowE ok args pbs else sp f args pbs⟩
def RowC (k m : Nat) : Prop := ∀ (ns : List Nd) (nm : Nam) (l : List D) (n : Int), SmallD ns → RightT ns → nm.ok → elB ns n = true → (∀ x ∈ l, cpOk 100 (smN k) x = true) → l.length = m →
 C1 45 [eyeD ns nm, .list l, .int .i64 n] (.bool (rowV (sV ns nm) ns l.reverse n)) []
theorem extR_ok {sp : Call} {ok : List D → Prop} (hr : ∀ ns nm l n, rowAsk ok (eyeD ns nm) l n (ns, nm) → C1 45 [eyeD ns nm, .list l, .int .i64 n] (.bool (rowV (sV ns nm) ns l.reverse n)) []) (hsp : CallOK Tryz.prog sp) : CallOK Tryz.prog (@extR (rkE sp ok)) := by
 intro f args pbs d r pbs' h
 unfold extR at h
 split at h
 ·have h' : rowE ok args pbs = some (d, r, pbs') := h
  obtain ⟨ns, nm, l, n, rfl, rfl, ha, rfl, rfl, rfl⟩ := rowE_inv h'
  obtain ⟨c1, c2⟩ := hr ns nm l n ha
  exact ⟨c1, fun vals w F μ hl hd _ hgv hlt hg => c2 vals w F μ hl hd hgv hlt hg⟩
 ·have h' : sp 48 args pbs = some (d, r, pbs') := h
  exact hsp _ _ _ _ _ _ h'
 ·have h' : sp 8 args pbs = some (d, r, pbs') := h
  exact hsp _ _ _ _ _ _ h'
 ·exact ext6_ok _ _ _ _ _ _ h
theorem extN_false : CallOK Tryz.prog (extNew fun _ => false) := by
 intro f args pbs d r pbs' h
 unfold extNew at h
 split at h
 ·simp at h
 ·cases h
theorem ext11b_ok0 {sp : Call} {ok : List D → Prop} (hr : CallOK Tryz.prog (@extR (rkE sp ok))) : CallOK Tryz.prog (@ext11b (rkE sp ok) fun _ => false) :=
 orExt_ok extF_ok (orExt_ok extCl_ok (orExt_ok extN_false hr))
end Go.Av
namespace Go.Av
open Go.Proofs Go.RowKit Go.Proofs.YtcogfddcdpgpkaaGreatDoor
theorem rowV_snoc {S : D → Int → Bool} {ns : List Nd} (l : List D) (cc : Int) (sl : List D) (n : Int) : rowV S ns (l ++ [D.agg [.int .i64 cc, .list sl]]).reverse n = (sl.all (S · n) && (l.isEmpty ||
  if cc = 2 then (parI ns n).2 && rowV S ns l.reverse (parI ns n).1
  else if cc = 3 then (ahdI ns n).2 && rowV S ns l.reverse (ahdI ns n).1
  else if cc = 1 then (upsI ns (n.toNat + 1) n).any (rowV S ns l.reverse)
  else if cc = 4 then (rowI ns n).dropLast.any (rowV S ns l.reverse)
  else false)) := by
 rw [List.reverse_append]
 show rowV S ns (D.agg [.int .i64 cc, .list sl] :: l.reverse) n = _
 rw [rowV]
 rw [List.isEmpty_reverse]
 rfl
theorem fits_at [Rk] {chk : List D → Bool} {k : Nat} (hk : k ≤ 45) {ns : List Nd} {nm : Nam} (hS : SmallD ns) (hR : RightT ns) (hn : nm.ok)
  (hrow : ∀ (l : List D) (n : Int), elB ns n = true → (∃ k', k' < k ∧ ∀ x ∈ l, cpOk 100 (smN k') x = true) → l.length ≤ 100 → callL Tryz.prog (ext11b chk) 45 [eyeD ns nm, .list l, .int .i64 n] [] = some (.bool (rowV (sV ns nm) ns l.reverse n), [], []))
  (n : Int) (he : elB ns n = true) (cc : Int) (sl : List D) (hl : sl.length ≤ 100) (hs : ∀ s ∈ sl, smN k s = true) :
  callL Tryz.prog (ext11b chk) 79 [eyeD ns nm, .agg [.int .i64 cc, .list sl], .int .i64 n] [] = some (.bool (sl.all (sV ns nm · n)), [.no], []) := by
 have form : ∀ s ∈ sl, s = (sf s).d := fun s hm => by
  have h := hs s hm
  cases k with
  | zero => simp [smN] at h
  | succ k => exact (smOk_inv (smN_inv h).1).1
 have hrE : ∀ n, elB ns n = true → ∀ j ∈ rowI ns n, elB ns j = true := fun n he j hj => by
  rcases row_last he j hj with h | rfl
  ·exact (hR.row n he j h).1
  ·exact he
 refine fits_L (chk := chk) (S := fun _ => true) ns nm n cc sl hl form (fun s => sV ns nm s n) [.no] fun s hm => ?_
 have h := hs s hm
 cases k with
 | zero => simp [smN] at h
 | succ k =>
  obtain ⟨h1, ha, hb, h4⟩ := smN_inv h
  obtain ⟨e, _, g2, g3, _⟩ := smOk_inv h1
  have hv : sV ns nm s n = stepV ns nm (listV (sV ns nm) ns) (sf s).d n := by rw [sV_step h1 (by omega) n, ← e]
  show callL Tryz.prog (ext11b chk) 38 [eyeD ns nm, (sf s).d, .int .i64 n] [] = some (.bool (sV ns nm s n), [.no], [])
  rw [hv]
  have h5 : lsOk 100 (smOk 100 (k + 1)) (sf s).of_ = true := ls_mono (fun d hd => smOk_up _ _ (smN_ok hd) _ (by omega)) h4
  refine simple_L ns nm n (sf s) hn hS he (hrE n he) (by omega) (by omega) ha hb (listV (sV ns nm) ns) fun j hj => ?_
  refine list_L ns nm j (sf s).of_ h5 (fun c => rowV (sV ns nm) ns (cxL c).reverse j) fun c hc => ?_
  obtain ⟨l, rfl, c1, c2⟩ := cxOk_inv ((lsOk_mem h4).2 c hc)
  exact hrow l j hj ⟨k, by omega, c2⟩ c1
theorem row_step {k m : Nat} (hk : k ≤ 45) (hm : m ≤ 100) (IHk : ∀ k', k' < k → ∀ m', m' ≤ 100 → RowC k' m') (IHm : ∀ m', m' < m → RowC k m') : RowC k m := by
 intro ns nm l n hS hR hn he hl hlen
 obtain ⟨ok, hok⟩ : ∃ ok : List D → Prop, ok = fun l => (∃ k', k' < k ∧ (∀ x ∈ l, cpOk 100 (smN k') x = true) ∧ l.length ≤ 100) ∨ ((∀ x ∈ l, cpOk 100 (smN k) x = true) ∧ l.length < m) := ⟨_, rfl⟩
 have hr : ∀ ns nm l n, rowAsk ok (eyeD ns nm) l n (ns, nm) → C1 45 [eyeD ns nm, .list l, .int .i64 n] (.bool (rowV (sV ns nm) ns l.reverse n)) [] := by
  rintro ns nm l n ⟨_, a1, a2, a3, a4, a5⟩
  rw [hok] at a5
  rcases a5 with ⟨k', h1, h2, h3⟩ | ⟨h2, h3⟩
  ·exact IHk k' h1 l.length h3 ns nm l n a1 a2 a3 a4 h2 rfl
  ·exact IHm l.length h3 ns nm l n a1 a2 a3 a4 h2 rfl
 by_cases hyes : ok l
 ·exact hr ns nm l n ⟨rfl, hS, hR, hn, he, hyes⟩
 letI : Rk := rkE noExt ok
 have hext : CallOK Tryz.prog (ext11b fun _ => false) := ext11b_ok0 (extR_ok hr noExt_ok)
 have h45 : ext11b (fun _ => false) 45 [eyeD ns nm, .list l, .int .i64 n] [] = none := by
  show (match (none : Option (D × List Room × List Bx)) with | some r => some r | none => rowE ok [eyeD ns nm, .list l, .int .i64 n] []) = none
  exact rowE_none hyes
 have hrow : ∀ (l : List D) (n : Int), elB ns n = true → ok l → callL Tryz.prog (ext11b fun _ => false) 45 [eyeD ns nm, .list l, .int .i64 n] [] = some (.bool (rowV (sV ns nm) ns l.reverse n), [], []) := fun l n he ho => callL_ext (ext_row (rowE_some ⟨rfl, hS, hR, hn, he, ho⟩))
 rcases List.eq_nil_or_concat l with rfl | ⟨l', x, rfl⟩
 ·exact (C1.callL hext (row_nil ns nm n h45)).room
 ·rw [List.concat_eq_append] at *
  obtain ⟨cc, sl, rfl, hsl, hss⟩ := cpOk_inv (hl x (by simp))
  have hl' : ∀ y ∈ l', cpOk 100 (smN k) y = true := fun y hy => hl y (by simp [hy])
  have hlt : l'.length < m := by rw [← hlen]; simp
  have hd : ∀ y ∈ l', (dcells y).length = 2 := fun y hy => by
   obtain ⟨c, s, rfl, _⟩ := cpOk_inv (hl' y hy)
   rfl
  have hfit := fits_at (chk := fun _ => false) hk hS hR hn (fun l n he h1 h2 => hrow l n he (by
   rw [hok]
   obtain ⟨k', e1, e2⟩ := h1
   exact .inl ⟨k', e1, e2, h2⟩)) n he cc sl hsl hss
  have hrest : ∀ j, elB ns j = true → callL Tryz.prog (ext11b fun _ => false) 45 [eyeD ns nm, .list l', .int .i64 j] [] = some (.bool (rowV (sV ns nm) ns l'.reverse j), [], []) := fun j hj => hrow l' j hj (by rw [hok]; exact .inr ⟨hl', hlt⟩)
  unfold cpD
  rw [rowV_snoc]
  by_cases hh : sl.all (sV ns nm · n) = true ∧ l' ≠ [] ∧ cc = 1
  ·obtain ⟨h1, h2, rfl⟩ := hh
   rw [h1] at hfit ⊢
   have he0 : l'.isEmpty = false := by cases l' with | nil => exact absurd rfl h2 | cons a r => rfl
   rw [he0, Bool.true_and, Bool.false_or, if_neg (by decide), if_neg (by decide), if_pos rfl]
   exact row_hand hext hR he (by omega) h2 hd hfit (rowV (sV ns nm) ns l'.reverse) fun j hj => IHm l'.length hlt ns nm l' j hS hR hn hj hl' rfl
  ·refine (C1.callL hext (row_eval ns nm n l' cc sl (rowV (sV ns nm) ns l'.reverse) _ hS.1 he (by omega) hd h45 hfit (fun j hj => hrest j ?_) fun h1 h2 h3 => hh ⟨h1, h2, h3⟩)).room
   rcases hj with ⟨rfl, hj⟩ | ⟨rfl, hj⟩ | hj
   ·exact (hR.par n he hj).1
   ·exact (hR.ahd n he hj).1
   ·exact (hR.row n he j hj).1
theorem rows : ∀ (k : Nat), k ≤ 45 → ∀ (m : Nat), m ≤ 100 → RowC k m := by
 intro k
 induction k using Nat.strongRecOn with
 | ind k ihk =>
  intro hk m
  induction m using Nat.strongRecOn with
  | ind m ihm =>
   intro hm
   exact row_step hk hm (fun k' h1 m' h2 => ihk k' h1 (by omega) m' h2) fun m' h => ihm m' h (by omega)
end Go.Av
namespace Go.Av
open Go.Proofs Go.RowKit Go.Proofs.YtcogfddcdpgpkaaGreatDoor
noncomputable def chkS (es : List D) : Bool := match aev Tryz.prog extCl 300 31 [.list es] [] with
 | some (.con .nilIface, _, []) => true
 | _ => false
theorem chkS_ok : ChkOK extCl chkS := by
 intro es _ h
 unfold chkS at h
 split at h
 ·rename_i r he
  exact ⟨300, r, he⟩
 ·cases h
noncomputable def ext12s : Call := orExt extCl (extNew chkS)
theorem ext12s_ok : CallOK Tryz.prog ext12s := orExt_ok extCl_ok (extNew_ok extCl_ok chkS_ok)
theorem speaks12 : aev Tryz.prog ext12s 300 8 [] [] = some (.bool true, [.no], []) := by kernel_rfl
theorem sp8 : C1 8 [] (.bool true) [.no] := C1.of (aev_sound fineS ext12s_ok 300) speaks12
end Go.Av
namespace Go.Av
open Go.Proofs
variable [Rk] {chk : List D → Bool}
set_option maxHeartbeats 4000000 in
theorem idxC3_L (l : List D) (clo : FuncId) (e1 e2 e3 : D) (f : D → Bool) (hl : l.length ≤ 1000000) (hF : ∀ x ∈ l, x = cxD (cxL x)) (hc : ∀ x ∈ l, callL Tryz.prog (ext11b chk) clo [.agg [.list (cxL x)], .fix e1 0, .fix e2 0, .fix e3 0] [] = some (.bool (f x), [.no], [])) :
  callL Tryz.prog (ext11b chk) 60 [.list l, .func (.func clo) [] [.fix e1 0, .fix e2 0, .fix e3 0]] [] = some (.int .i64 (idxN f 0 l), [.no], []) := by
 have lN : ((l.length : Nat) : Int) = l.length := rfl
 refine cK 19 4 Tryz.func60 ?_
 have HL := Hd.mk hl
 have HC := Hd.mk hc
 clear hl hc
 obtain ⟨R, hR⟩ : ∃ R, Hd (R = idxN f 0 l) := ⟨_, rfl⟩
 rw [← (show R = idxN f 0 l from hR)]
 have HF := Hd.mk hF
 clear hF
 refine Gy ?_
 refine loopH (fun st => ∃ i : Nat, i ≤ l.length ∧ st.slot 8 = .int .i64 i ∧ st.slot 7 = .int .i64 l.length ∧ st.slot 0 = .list l ∧ st.slot 1 = .func (.func clo) [] [.fix e1 0, .fix e2 0, .fix e3 0] ∧ st.slot 4 = .int .i64 0 ∧ st.room 4 = [] ∧ Hd (R = idxN f i (l.drop i))) (fun st => l.length - slotI st 8) ?_ ?_
 ·exact ⟨0, Nat.zero_le _, Iy, Iy, Iy, Iy, Iy, Iy, hR⟩
 ·rintro st K ⟨i, hi, g0, g1, g2, g3, g4, g5, hO⟩ hn hx hr
  have hl : l.length ≤ 1000000 := HL
  have hO' : R = idxN f i (l.drop i) := hO
  by_cases h : i < l.length
  ·have g9 : (i : Int) < l.length := by omega
   have hw := wrapS i (by omega)
   obtain ⟨x, hx1⟩ := some_at h
   have hxm := List.mem_of_getElem? hx1
   rw [idxN_at _ hx1] at hO'
   have hc := (show ∀ x ∈ l, callL Tryz.prog (ext11b chk) clo [.agg [.list (cxL x)], .fix e1 0, .fix e2 0, .fix e3 0] [] = some (.bool (f x), [.no], []) from HC) x hxm
   have hF : ∀ x ∈ l, x = cxD (cxL x) := HF
   have ha : l.getD i .bad = .agg [.list (cxL x)] := by
    have h1 : l.getD i .bad = x := by simp [List.getD, hx1]
    rw [h1]
    exact hF x hxm
   cases he : f x with
   | true =>
    rw [he] at hO' hc
    rw [if_pos rfl] at hO'
    subst hO'
    clear he hxm hx1
    generalize cxL x = X at *
    clear hO hn hx hl hR HC
    refine Gy ?_
    exact hr _ Wy
   | false =>
    rw [he] at hO' hc
    rw [if_neg (by decide)] at hO'
    have HO := Hd.mk hO'
    clear he hxm hx1
    generalize cxL x = X at *
    clear hO hO' hx hr hl
    refine Gy ?_
    exact hn _ ⟨i + 1, h, L, L, L, L, L, L, HO⟩ Zy
  ·have g9 : ¬ (i : Int) < l.length := by omega
   rw [idxN_end _ (by omega)] at hO'
   subst hO'
   clear hO hn hr hl hR HC
   refine Gy ?_
   exact hx _ _ Wy
theorem conC3_L (l : List D) (clo : FuncId) (e1 e2 e3 : D) (f : D → Bool) (hl : l.length ≤ 1000000) (hF : ∀ x ∈ l, x = cxD (cxL x)) (hc : ∀ x ∈ l, callL Tryz.prog (ext11b chk) clo [.agg [.list (cxL x)], .fix e1 0, .fix e2 0, .fix e3 0] [] = some (.bool (f x), [.no], [])) :
  callL Tryz.prog (ext11b chk) 33 [.list l, .func (.func clo) [] [.fix e1 0, .fix e2 0, .fix e3 0]] [] = some (.bool (l.any f), [.no], []) := by
 have hs := idxC3_L (chk := chk) l clo e1 e2 e3 f hl hF hc
 have hb := idxN_ge f l 0
 clear hc hl
 clear hF
 generalize idxN f 0 l = z at *
 generalize l.any f = y at *
 exact cWy 9 4 Tryz.func33
set_option maxHeartbeats 1000000 in
theorem elem37_L (ns : List Nd) (n : Int) (hS : SmallD ns) : callL Tryz.prog (ext11b chk) 37 [treeN ns, .int .i64 n] [] = some (.bool (elB ns n), [.no], []) := by
 have hnd := node36_L (chk := chk) ns n hS
 have hv : elB ns n = (if inB' ns n = true then (nodeI ns n).k == 1 else false) := by
  rw [elB_k]
  unfold nodeI
  by_cases h : inB' ns n = true
  ·rw [if_pos h, if_pos h]
   unfold inB' at h
   simp only [Bool.and_eq_true, decide_eq_true_eq] at h
   obtain ⟨x, hx⟩ := some_at (show n.toNat < ns.length by omega)
   have hg : ns.getD n.toNat zeroN = x := by simp [List.getD, hx]
   rw [hg, decide_eq_true h.1]
   unfold kAt
   rw [hx]
   rfl
  ·rw [if_neg h]
   unfold inB' at h
   simp only [Bool.and_eq_true, decide_eq_true_eq, not_and] at h
   by_cases h0 : 0 ≤ n
   ·have := h h0
    unfold kAt
    rw [List.getElem?_eq_none (by omega)]
    simp
   ·rw [decide_eq_false h0]; rfl
 rw [hv]
 generalize inB' ns n = b at *
 generalize nodeI ns n = X at *
 rw [ndat] at hnd
 generalize X.at_.map At.d = LA at *
 generalize X.st.map D.str = LS at *
 obtain ⟨T, hT⟩ := tree_fix ns
 generalize treeN ns = T0 at *
 subst hT
 clear hS hv
 cases b with
 | true =>
  rw [if_pos rfl]
  exact cWy 19 4 Tryz.func37
 | false =>
  rw [if_neg (by decide)]
  exact cWy 19 4 Tryz.func37
def subD (n : Int) (ps : List UInt8) : D := .agg [.int .i64 n, .str ps]
def complexP (ns : List Nd) (nm : Nam) (c : D) (n : Int) (ps : List UInt8) : Bool := elB ns n && (pseudoF c == ps && rowV (sV ns nm) ns (cxL c).reverse n)
set_option maxHeartbeats 1000000 in
theorem complex_L (ns : List Nd) (nm : Nam) (c : D) (n : Int) (ps : List UInt8) {k : Nat} (hS : SmallD ns) (hc : cxOk 100 (smOk 100 (k + 1)) c = true)
  (hrow : elB ns n = true → callL Tryz.prog (ext11b chk) 45 [eyeD ns nm, .list (cxL c), .int .i64 n] [] = some (.bool (rowV (sV ns nm) ns (cxL c).reverse n), [], [])) :
  callL Tryz.prog (ext11b chk) 20 [treeN ns, .agg [.list (cxL c)], .agg nm.cs, subD n ps] [] = some (.bool (complexP ns nm c n ps), [.no], []) := by
 have hp := pseudo_L (chk := chk) c hc
 have he := elem37_L (chk := chk) ns n hS
 obtain ⟨l, rfl, _, _⟩ := cxOk_inv hc
 unfold complexP
 rw [show cxL (cxD l) = l from rfl] at *
 generalize pseudoF (cxD l) = p at *
 generalize rowV (sV ns nm) ns l.reverse n = r at *
 unfold cxD at hp
 clear hc
 unfold eyeD at hrow
 unfold Nam.cs subD at *
 obtain ⟨T, hT⟩ := tree_fix ns
 generalize treeN ns = T0 at *
 subst hT
 clear hS
 cases hb : elB ns n with
 | false =>
  rw [hb] at he
  clear hrow
  exact cWy 30 8 Tryz.func20
 | true =>
  have hr := hrow hb
  rw [hb] at he
  clear hrow hb
  cases hq : (p == ps) with
  | false =>
   exact cWy 30 8 Tryz.func20
  | true =>
   exact cWy 30 8 Tryz.func20
set_option maxHeartbeats 1000000 in
theorem sel1_L (ns : List Nd) (nm : Nam) (c : D) (n : Int) (ps : List UInt8) (v : Bool)
  (h : callL Tryz.prog (ext11b chk) 20 [treeN ns, .agg [.list (cxL c)], .agg nm.cs, subD n ps] [] = some (.bool v, [.no], [])) :
  callL Tryz.prog (ext11b chk) 34 [.agg [.list (cxL c)], .fix (.agg [treeN ns]) 0, .fix (.agg nm.cs) 0, .fix (subD n ps) 0] [] = some (.bool v, [.no], []) := by
 unfold Nam.cs subD at *
 obtain ⟨T, hT⟩ := tree_fix ns
 generalize treeN ns = T0 at *
 subst hT
 generalize cxL c = l at *
 exact cWy 11 5 Tryz.func34
set_option maxHeartbeats 1000000 in
theorem selects_L (ns : List Nd) (nm : Nam) (l : List D) (n : Int) (ps : List UInt8) {k : Nat} (hS : SmallD ns) (hl : lsOk 100 (smOk 100 (k + 1)) l = true)
  (hrow : elB ns n = true → ∀ c ∈ l, callL Tryz.prog (ext11b chk) 45 [eyeD ns nm, .list (cxL c), .int .i64 n] [] = some (.bool (rowV (sV ns nm) ns (cxL c).reverse n), [], [])) :
  callL Tryz.prog (ext11b chk) 14 [treeN ns, .list l, .agg nm.cs, subD n ps] [] = some (.bool (l.any fun c => complexP ns nm c n ps), [.no], []) := by
 obtain ⟨h1, h2⟩ := lsOk_mem hl
 have hc := conC3_L (chk := chk) l 34 (.agg [treeN ns]) (.agg nm.cs) (subD n ps) (fun c => complexP ns nm c n ps) (by omega) (fun c hc => by obtain ⟨x, e, _⟩ := cxOk_inv (h2 c hc); rw [e]; rfl) fun c hc => sel1_L ns nm c n ps _ (complex_L ns nm c n ps hS (h2 c hc) fun he => hrow he c hc)
 clear hrow h1 h2 hl hS
 generalize (l.any fun c => complexP ns nm c n ps) = q at *
 unfold Nam.cs subD at *
 obtain ⟨T, hT⟩ := tree_fix ns
 generalize treeN ns = T0 at *
 subst hT
 refine cK 12 8 Tryz.func14 ?_
 repeat' (first|simp only [*, upd, AVB, AVY, ↓reduceIte, Nat.reduceEqDiff, Nat.reduceLT, Nat.reduceLeDiff, reduceCtorEq, Nat.reduceBEq, String.reduceBEq, Nat.reduceAdd, Nat.reduceSub, Nat.reduceMul, Int.reduceLE, Int.reduceLT, Int.reduceToNat, Int.reduceBEq, Int.reduceBNe, List.zipWith, dIntBin])
end Go.Av
namespace Go.Av
open Go.Proofs
variable [Rk] {chk : List D → Bool}
theorem drop_at {α : Type} {xs : List α} {i : Nat} {x : α} (hx : xs[i]? = some x) : xs.drop i = x :: xs.drop (i + 1) := by
 have h1 : i < xs.length := (List.getElem?_eq_some_iff.1 hx).1
 have e1 : xs[i] = x := (List.getElem?_eq_some_iff.1 hx).2
 rw [List.drop_eq_getElem_cons h1, e1]
theorem self_getD {l : List D} {i : Nat} {x : D} (h : l[i]? = some x) : l.getD i .bad = x := by simp [List.getD, h]
structure CntH (prog : Prop → Prop) (C : List D → Int) (call : List D → Prop) (s : D) : Prop where
 d : s = .agg [.int .i64 (sf s).kd, .int .i64 (sf s).ns, .str (sf s).pre, .str (sf s).nm, .int .i64 (sf s).op, .str (sf s).tx, .bool (sf s).fold, .int .i64 (sf s).mark, .int .i64 (sf s).a, .int .i64 (sf s).b, .list (sf s).of_]
 c : call (sf s).of_
 lo : 0 ≤ C (sf s).of_
 hi : C (sf s).of_ ≤ 1125899906842624
set_option maxHeartbeats 16000000 in
theorem count_step (C : List D → Int) (most deep : Int) (hm : 0 ≤ most ∧ most ≤ 1000) (hd : 0 ≤ deep ∧ deep ≤ 1000000) (l : List D) (hl : l.length ≤ 140737488355328)
  (hL : ∀ c ∈ l, c = .agg [.list (cxL c)] ∧ (cxL c).length ≤ 140737488355328 ∧ ∀ x ∈ cxL c, x = .agg [.int .i64 (cpC x), .list (cpL x)] ∧ (cpL x).length ≤ 140737488355328 ∧ ∀ s ∈ cpL x,
   CntH id C (fun o => deep ≤ 40 → callL Tryz.prog (ext11b chk) 55 [.list o, .int .i64 most, .int .i64 (deep + 1)] [] = some (.int .i64 (C o), [.no], [])) s) :
  callL Tryz.prog (ext11b chk) 55 [.list l, .int .i64 most, .int .i64 deep] [] = some (.int .i64 ((cntC C (badS deep) most l l.length).getD (most + 1)), [.no], []) := by
 have HL := Hd.mk hL
 have HM := Hd.mk hm
 have HD := Hd.mk hd
 have HN := Hd.mk hl
 clear hL hm hd hl
 obtain ⟨R, hR⟩ : ∃ R, Hd (R = (cntC C (badS deep) most l l.length).getD (most + 1)) := ⟨_, rfl⟩
 rw [← (show R = (cntC C (badS deep) most l l.length).getD (most + 1) from hR)]
 refine cK 114 6 Tryz.func55 ?_
 refine Gy ?_
 refine loopH (fun st => ∃ (i : Nat) (n : Int), i ≤ l.length ∧ st.slot 8 = .int .i64 i ∧ st.slot 0 = .list l ∧ st.slot 1 = .int .i64 most ∧ st.slot 2 = .int .i64 deep ∧ st.slot 7 = .int .i64 n ∧ st.room 7 = [] ∧ Hd (0 ≤ n ∧ n ≤ 1125899906852624) ∧ Hd (R = (cntC C (badS deep) most (l.drop i) n).getD (most + 1))) (fun st => l.length - slotI st 8) ?_ ?_
 ·have hl : l.length ≤ 140737488355328 := HN
  exact ⟨0, (l.length : Int), Nat.zero_le _, Iy, Iy, Iy, Iy, Iy, Iy, Hd.mk ⟨by omega, by omega⟩, hR⟩
 ·rintro st K ⟨i, n, hi, g8, g0, g1, g2, g7, gr, hnn, hO⟩ hn hx hr
  have hl : l.length ≤ 140737488355328 := HN
  have hO' : R = (cntC C (badS deep) most (l.drop i) n).getD (most + 1) := hO
  by_cases h : i < l.length
  ·have g9 : (i : Int) < l.length := by omega
   have hw := wrapS i (by omega)
   obtain ⟨c, hc1⟩ := some_at h
   rw [drop_at hc1, cntC] at hO'
   by_cases h2 : n ≤ most
   ·rw [if_pos h2] at hO'
    obtain ⟨e1, hx1, hX⟩ := (show ∀ c ∈ l, _ from HL) c (List.mem_of_getElem? hc1)
    have ha := (self_getD hc1).trans e1
    generalize cxL c = X at *
    obtain ⟨m1, m2⟩ := (show 0 ≤ most ∧ most ≤ 1000 from HM)
    obtain ⟨n1, n2⟩ := (show 0 ≤ n ∧ n ≤ 1125899906852624 from hnn)
    obtain ⟨n0, hn0⟩ : ∃ n0 : Int, n + (X.length : Int) = n0 := ⟨_, rfl⟩
    have hw2 : IntKind.i64.wrap (n + (X.length : Int)) = n0 := by rw [hn0]; exact wrap64 _ (by omega) (by omega)
    rw [hn0] at hO'
    have HI := Hd.mk h
    have HX := Hd.mk hX
    have HO := Hd.mk hO'
    have HX1 := Hd.mk hx1
    have HB : Hd (0 ≤ n0 ∧ n0 ≤ 1125899906852624) := Hd.mk ⟨by omega, by omega⟩
    clear hn0 hl hO hO' hx hX hc1 e1 hx1 h m1 m2 n1 n2 hnn hR
    refine Gy ?_
    clear h2
    refine loopH (fun st' => ∃ (k : Nat) (n : Int), k ≤ X.length ∧ st'.slot 9 = .int .i64 k ∧ st'.slot 8 = .int .i64 i ∧ st'.slot 0 = .list l ∧ st'.slot 1 = .int .i64 most ∧ st'.slot 2 = .int .i64 deep ∧ st'.slot 7 = .int .i64 n ∧ st'.room 7 = [] ∧ Hd (0 ≤ n ∧ n ≤ 1125899906852624) ∧ Hd (R = ((cntP C (badS deep) most (X.drop k) n).bind (cntC C (badS deep) most (l.drop (i + 1)))).getD (most + 1))) (fun st' => X.length - slotI st' 9) ?_ ?_
    ·exact ⟨0, n0, Nat.zero_le _, Iy, Iy, Iy, Iy, Iy, Iy, Iy, HB, HO⟩
    ·rintro st' K' ⟨k, n, hk, e9, e8, e0, e1, e2, e7, er, hnn, hO⟩ hn2 hx2 hr2
     have G8 := Hd.mk g8
     clear g0 g1 g2 g7 g8 gr HO hw2
     have hxl : X.length ≤ 140737488355328 := HX1
     have hO' : R = ((cntP C (badS deep) most (X.drop k) n).bind (cntC C (badS deep) most (l.drop (i + 1)))).getD (most + 1) := hO
     by_cases h : k < X.length
     ·have g10 : (k : Int) < X.length := by omega
      have hw3 := wrapS k (by omega)
      obtain ⟨x, hx1⟩ := some_at h
      rw [drop_at hx1, cntP] at hO'
      by_cases h2 : n ≤ most
      ·rw [if_pos h2] at hO'
       obtain ⟨f1, f2, hS⟩ := (show ∀ x ∈ X, _ from HX) x (List.mem_of_getElem? hx1)
       have hb := (self_getD hx1).trans f1
       generalize cpL x = Y at *
       generalize cpC x = cc at *
       have HK := Hd.mk h
       have HS := Hd.mk hS
       have HO := Hd.mk hO'
       have HY1 := Hd.mk f2
       have HN0 := hnn
       clear hO hO' hx2 hS hx1 f1 f2 h hxl hnn hn
       refine Gy ?_
       clear h2
       refine loopH (fun st2 => ∃ (m : Nat) (n : Int), m ≤ Y.length ∧ st2.slot 11 = .int .i64 m ∧ st2.slot 10 = .list Y ∧ st2.slot 9 = .int .i64 k ∧ st2.slot 8 = .int .i64 i ∧ st2.slot 0 = .list l ∧ st2.slot 1 = .int .i64 most ∧ st2.slot 2 = .int .i64 deep ∧ st2.slot 7 = .int .i64 n ∧ st2.room 7 = [] ∧ Hd (0 ≤ n ∧ n ≤ 1125899906852624) ∧ Hd (R = (((cntX C (badS deep) most (Y.drop m) n).bind (cntP C (badS deep) most (X.drop (k + 1)))).bind (cntC C (badS deep) most (l.drop (i + 1)))).getD (most + 1))) (fun st2 => Y.length - slotI st2 11) ?_ ?_
       ·exact ⟨0, n, Nat.zero_le _, Iy, Iy, Iy, Iy, Iy, Iy, Iy, Iy, Iy, HN0, HO⟩
       ·rintro st2 K2 ⟨m, n, hmm, u11, u10, u9, u8, u0, u1, u2, u7, ur, hnn, hO⟩ hn3 hx3 hr3
        have E9 := Hd.mk e9
        clear e0 e1 e2 e7 e8 e9 er HO HN0
        have hyl : Y.length ≤ 140737488355328 := HY1
        have hO' : R = (((cntX C (badS deep) most (Y.drop m) n).bind (cntP C (badS deep) most (X.drop (k + 1)))).bind (cntC C (badS deep) most (l.drop (i + 1)))).getD (most + 1) := hO
        by_cases h : m < Y.length
        ·have g11 : (m : Int) < Y.length := by omega
         have hw4 := wrapS m (by omega)
         obtain ⟨s, hs1⟩ := some_at h
         rw [drop_at hs1, cntX] at hO'
         by_cases h2 : n ≤ most
         ·rw [if_pos h2] at hO'
          obtain ⟨q1, q2, q3, q4⟩ := (show ∀ s ∈ Y, _ from HS) s (List.mem_of_getElem? hs1)
          have hz := (self_getD hs1).trans q1
          have hbad : badS deep s = (decide (100 < ((sf s).nm.length : Int)) || (decide (100 < ((sf s).pre.length : Int)) || (decide (100 < ((sf s).tx.length : Int)) || decide (40 < deep)))) := rfl
          rw [hbad] at hO'
          clear hbad
          generalize sf s = S at *
          obtain ⟨m1, m2⟩ := (show 0 ≤ most ∧ most ≤ 1000 from HM)
          obtain ⟨d1, d2⟩ := (show 0 ≤ deep ∧ deep ≤ 1000000 from HD)
          obtain ⟨n1, n2⟩ := (show 0 ≤ n ∧ n ≤ 1125899906852624 from hnn)
          have hw5 : IntKind.i64.wrap (n + 1) = n + 1 := wrap64 _ (by omega) (by omega)
          have hw6 : IntKind.i64.wrap (most + 1) = most + 1 := wrap64 _ (by omega) (by omega)
          have hw7 : IntKind.i64.wrap (deep + 1) = deep + 1 := wrap64 _ (by omega) (by omega)
          have HM0 := Hd.mk h
          clear hO hx3 hs1 q1 h hyl hnn
          by_cases c1 : (100 : Int) < (S.nm.length : Int)
          ·rw [decide_eq_true c1, Bool.true_or, if_pos rfl] at hO'
           have hO2 : R = most + 1 := hO'
           subst hO2
           clear hn3 hn2 hO' m1 m2 d1 d2 n1 n2 q2 q3 q4
           refine Gy ?_
           refine hr3 _ ?_
           refine hr2 _ ?_
           exact hr _ Wy
          rw [decide_eq_false c1, Bool.false_or] at hO'
          by_cases c2 : (100 : Int) < (S.pre.length : Int)
          ·rw [decide_eq_true c2, Bool.true_or, if_pos rfl] at hO'
           have hO2 : R = most + 1 := hO'
           subst hO2
           clear hn3 hn2 hO' m1 m2 d1 d2 n1 n2 q2 q3 q4
           refine Gy ?_
           refine hr3 _ ?_
           refine hr2 _ ?_
           exact hr _ Wy
          rw [decide_eq_false c2, Bool.false_or] at hO'
          by_cases c3 : (100 : Int) < (S.tx.length : Int)
          ·rw [decide_eq_true c3, Bool.true_or, if_pos rfl] at hO'
           have hO2 : R = most + 1 := hO'
           subst hO2
           clear hn3 hn2 hO' m1 m2 d1 d2 n1 n2 q2 q3 q4
           refine Gy ?_
           refine hr3 _ ?_
           refine hr2 _ ?_
           exact hr _ Wy
          rw [decide_eq_false c3, Bool.false_or] at hO'
          by_cases c4 : (40 : Int) < deep
          ·rw [decide_eq_true c4, if_pos rfl] at hO'
           have hO2 : R = most + 1 := hO'
           subst hO2
           clear hn3 hn2 hO' m1 m2 d1 d2 n1 n2 q2 q3 q4
           refine Gy ?_
           refine hr3 _ ?_
           refine hr2 _ ?_
           exact hr _ Wy
          rw [decide_eq_false c4, if_neg (by decide)] at hO'
          have hcall := q2 (by omega)
          have hw8 : IntKind.i64.wrap (n + 1 + C S.of_) = n + 1 + C S.of_ := wrap64 _ (by omega) (by omega)
          have HB : Hd (0 ≤ n + 1 + C S.of_ ∧ n + 1 + C S.of_ ≤ 1125899906852624) := Hd.mk ⟨by omega, by omega⟩
          have HO2 := Hd.mk hO'
          clear hO' hr3 hn2 hr2 hr m1 m2 d1 d2 n1 n2 q2 q3 q4
          refine Gy ?_
          refine hn3 _ ⟨m + 1, n + 1 + C S.of_, HM0, L, L, L, L, L, L, L, L, L, HB, HO2⟩ ?_
          ·have hm2 : m < Y.length := HM0
           simp only [slotI, *, AVB, AVY, ↓reduceIte, Nat.reduceEqDiff, Nat.reduceLT, Nat.reduceLeDiff, reduceCtorEq, Nat.reduceBEq, String.reduceBEq, Nat.reduceAdd, Nat.reduceSub, Nat.reduceMul, Int.reduceLE, Int.reduceLT, Int.reduceToNat, Int.reduceBEq, Int.reduceBNe, List.zipWith, dIntBin]
           omega
         ·rw [if_neg h2, Option.bind_some] at hO'
          have HO2 := Hd.mk hO'
          clear hO hO' hr3 hn3 hr2 hr hs1 hyl h
          refine Gy ?_
          refine hx3 _ _ ?_
          refine Gy ?_
          have hk2 : k < X.length := HK
          refine hn2 _ ⟨k + 1, n, hk2, L, L, L, L, L, L, L, hnn, HO2⟩ ?_
          ·have e9 : st'.slot 9 = .int .i64 k := E9
           simp only [slotI, *, AVB, AVY, ↓reduceIte, Nat.reduceEqDiff, Nat.reduceLT, Nat.reduceLeDiff, reduceCtorEq, Nat.reduceBEq, String.reduceBEq, Nat.reduceAdd, Nat.reduceSub, Nat.reduceMul, Int.reduceLE, Int.reduceLT, Int.reduceToNat, Int.reduceBEq, Int.reduceBNe, List.zipWith, dIntBin]
           omega
        ·have g11 : ¬ (m : Int) < Y.length := by omega
         rw [List.drop_eq_nil_of_le (by omega), cntX, Option.bind_some] at hO'
         have HO2 := Hd.mk hO'
         clear hO hO' hr3 hn3 hr2 hr hyl h
         refine Gy ?_
         refine hx3 _ _ ?_
         refine Gy ?_
         have hk2 : k < X.length := HK
         refine hn2 _ ⟨k + 1, n, hk2, L, L, L, L, L, L, L, hnn, HO2⟩ ?_
         ·have e9 : st'.slot 9 = .int .i64 k := E9
          simp only [slotI, *, AVB, AVY, ↓reduceIte, Nat.reduceEqDiff, Nat.reduceLT, Nat.reduceLeDiff, reduceCtorEq, Nat.reduceBEq, String.reduceBEq, Nat.reduceAdd, Nat.reduceSub, Nat.reduceMul, Int.reduceLE, Int.reduceLT, Int.reduceToNat, Int.reduceBEq, Int.reduceBNe, List.zipWith, dIntBin]
          omega
      ·rw [if_neg h2, Option.bind_some] at hO'
       have HO2 := Hd.mk hO'
       clear hO hO' hr2 hn2 hx1 hxl h hr
       refine Gy ?_
       refine hx2 _ _ ?_
       refine Gy ?_
       have hi2 : i < l.length := HI
       refine hn _ ⟨i + 1, n, hi2, L, L, L, L, L, L, hnn, HO2⟩ ?_
       ·have g8 : st.slot 8 = .int .i64 i := G8
        simp only [slotI, *, AVB, AVY, ↓reduceIte, Nat.reduceEqDiff, Nat.reduceLT, Nat.reduceLeDiff, reduceCtorEq, Nat.reduceBEq, String.reduceBEq, Nat.reduceAdd, Nat.reduceSub, Nat.reduceMul, Int.reduceLE, Int.reduceLT, Int.reduceToNat, Int.reduceBEq, Int.reduceBNe, List.zipWith, dIntBin]
        omega
     ·have g10 : ¬ (k : Int) < X.length := by omega
      rw [List.drop_eq_nil_of_le (by omega), cntP, Option.bind_some] at hO'
      have HO2 := Hd.mk hO'
      clear hO hO' hr2 hn2 hxl h hr
      refine Gy ?_
      refine hx2 _ _ ?_
      refine Gy ?_
      have hi2 : i < l.length := HI
      refine hn _ ⟨i + 1, n, hi2, L, L, L, L, L, L, hnn, HO2⟩ ?_
      ·have g8 : st.slot 8 = .int .i64 i := G8
       simp only [slotI, *, AVB, AVY, ↓reduceIte, Nat.reduceEqDiff, Nat.reduceLT, Nat.reduceLeDiff, reduceCtorEq, Nat.reduceBEq, String.reduceBEq, Nat.reduceAdd, Nat.reduceSub, Nat.reduceMul, Int.reduceLE, Int.reduceLT, Int.reduceToNat, Int.reduceBEq, Int.reduceBNe, List.zipWith, dIntBin]
       omega
   ·rw [if_neg h2] at hO'
    have hO2 : R = n := hO'
    subst hO2
    clear hO hO' hn hr hl hR hc1 h hw
    refine Gy ?_
    exact hx _ _ Wy
  ·have g9 : ¬ (i : Int) < l.length := by omega
   rw [List.drop_eq_nil_of_le (by omega), cntC] at hO'
   have hO2 : R = n := hO'
   subst hO2
   clear hO hO' hn hr hl hR h
   refine Gy ?_
   exact hx _ _ Wy
end Go.Av
namespace Go.Av
open Go.Proofs
section
variable {C : List D → Int} {bad : D → Bool} {most B M : Int}
theorem cntX_bd : ∀ (x : List D) (n r : Int), (∀ s ∈ x, bad s = false → C (sf s).of_ ≤ B) → cntX C bad most x n = some r → r ≤ max n (most + 1 + B)
 | [], n, r, _, h => by simp only [cntX, Option.some.injEq] at h; omega
 | s :: x, n, r, hC, h => by
  rw [cntX] at h
  split at h
  ·split at h
   ·cases h
   ·rename_i h1 h2
    have h3 := hC s (List.mem_cons_self ..) (by simpa using h2)
    have h4 := cntX_bd x _ r (fun s hs => hC s (List.mem_cons_of_mem _ hs)) h
    omega
  ·simp only [Option.some.injEq] at h; omega
theorem cntP_bd : ∀ (x : List D) (n r : Int), (∀ c ∈ x, ∀ s ∈ cpL c, bad s = false → C (sf s).of_ ≤ B) → cntP C bad most x n = some r → r ≤ max n (most + 1 + B)
 | [], n, r, _, h => by simp only [cntP, Option.some.injEq] at h; omega
 | c :: x, n, r, hC, h => by
  rw [cntP] at h
  split at h
  ·cases e : cntX C bad most (cpL c) n with
   | none => rw [e] at h; cases h
   | some q =>
    rw [e] at h
    have h1 := cntX_bd _ _ _ (hC c (List.mem_cons_self ..)) e
    have h2 := cntP_bd x q r (fun c hc => hC c (List.mem_cons_of_mem _ hc)) h
    omega
  ·simp only [Option.some.injEq] at h; omega
theorem cntC_bd : ∀ (x : List D) (n r : Int), (∀ d ∈ x, ((cxL d).length : Int) ≤ M) → (∀ d ∈ x, ∀ c ∈ cxL d, ∀ s ∈ cpL c, bad s = false → C (sf s).of_ ≤ B) → cntC C bad most x n = some r → r ≤ max n (max (most + M) (most + 1 + B))
 | [], n, r, _, _, h => by simp only [cntC, Option.some.injEq] at h; omega
 | d :: x, n, r, hM, hC, h => by
  rw [cntC] at h
  split at h
  ·cases e : cntP C bad most (cxL d) (n + (cxL d).length) with
   | none => rw [e] at h; cases h
   | some q =>
    rw [e] at h
    have h0 := hM d (List.mem_cons_self ..)
    have h1 := cntP_bd _ _ _ (hC d (List.mem_cons_self ..)) e
    have h2 := cntC_bd x q r (fun c hc => hM c (List.mem_cons_of_mem _ hc)) (fun c hc => hC c (List.mem_cons_of_mem _ hc)) h
    omega
  ·simp only [Option.some.injEq] at h; omega
end
theorem cnt_bd {most : Int} (hm : 0 ≤ most) {m : Nat} : ∀ (f : Nat) (d : Nat) (l : List D), lsOk m (smOk m f) l = true → cnt most (f + 1) l d ≤ m + (most + 2) * (((41 - d : Nat) : Int) + 1)
 | f, d, l, h => by
  unfold cnt
  obtain ⟨h1, h2⟩ := lsOk_mem h
  have hp : 0 ≤ (most + 2) * ((41 - d : Nat) : Int) := Int.mul_nonneg (by omega) (by omega)
  have he : (most + 2) * (((41 - d : Nat) : Int) + 1) = (most + 2) * ((41 - d : Nat) : Int) + (most + 2) := by rw [Int.mul_add, Int.mul_one]
  cases e : cntC (fun of_ => cnt most f of_ ((d : Int) + 1)) (badS d) most l l.length with
  | none => simp only [Option.getD_none]; omega
  | some r =>
   simp only [Option.getD_some]
   have key := cntC_bd (B := m + (most + 2) * ((41 - d : Nat) : Int)) (M := m) l l.length r (fun c hc => by obtain ⟨l1, rfl, g, _⟩ := cxOk_inv (h2 c hc); show ((l1.length : Nat) : Int) ≤ m; omega) (fun c hc x hx s hs hb => ?_) e
   ·omega
   ·have hd : d ≤ 40 := by
     unfold badS at hb
     simp only [Bool.or_eq_false_iff, decide_eq_false_iff_not] at hb
     omega
    have h3 := lsOk_s h c hc x hx s hs
    cases f with
    | zero => simp [smOk] at h3
    | succ f =>
     obtain ⟨_, _, _, _, h4⟩ := smOk_inv h3
     have h5 := cnt_bd hm f (d + 1) (sf s).of_ h4
     have h6 : (((41 - (d + 1) : Nat) : Int) + 1) = ((41 - d : Nat) : Int) := by omega
     rw [h6] at h5
     exact h5
theorem count_L [Rk] {chk : List D → Bool} {most : Int} (hm : 0 ≤ most ∧ most ≤ 1000) : ∀ (f : Nat) (d : Nat) (l : List D), d ≤ 41 → lsOk 140737488355328 (smOk 140737488355328 f) l = true →
  callL Tryz.prog (ext11b chk) 55 [.list l, .int .i64 most, .int .i64 d] [] = some (.int .i64 (cnt most (f + 1) l d), [.no], [])
 | f, d, l, hd, h => by
  obtain ⟨h1, h2⟩ := lsOk_mem h
  refine count_step (chk := chk) (fun of_ => cnt most f of_ ((d : Int) + 1)) most d hm ⟨by omega, by omega⟩ l h1 fun c hc => ?_
  obtain ⟨l1, rfl, g1, g2⟩ := cxOk_inv (h2 c hc)
  refine ⟨rfl, g1, fun x hx => ?_⟩
  obtain ⟨cc, l2, rfl, g3, g4⟩ := cpOk_inv (g2 x hx)
  refine ⟨rfl, g3, fun s hs => ?_⟩
  have h3 := g4 s hs
  cases f with
  | zero => simp [smOk] at h3
  | succ f =>
   obtain ⟨e, _, _, _, h4⟩ := smOk_inv h3
   refine ⟨e, fun h40 => ?_, cnt_nonneg hm.1 _ _ _, ?_⟩
   ·have := count_L (chk := chk) hm f (d + 1) (sf s).of_ (by omega) h4
    exact this
   ·have := cnt_bd hm.1 f (d + 1) (sf s).of_ h4
    have h5 : (most + 2) * (((41 - (d + 1) : Nat) : Int) + 1) ≤ 1002 * 42 := Int.mul_le_mul (by omega) (by omega) (by omega) (by omega)
    have h6 : cnt most (f + 1) (sf s).of_ ((d : Int) + 1) = cnt most (f + 1) (sf s).of_ ((d + 1 : Nat) : Int) := rfl
    show cnt most (f + 1) (sf s).of_ ((d : Int) + 1) ≤ _
    rw [h6]
    omega
end Go.Av
namespace Go.Av
open Go.Proofs
variable [Rk] {chk : List D → Bool}
def numB (s : Sf) : Bool := decide ((1099511627776 : Int) < max s.a s.b) || decide (min s.a s.b < (-1099511627776 : Int))
def numX (N : List D → Bool) (s : D) : Bool := numB (sf s) || N (sf s).of_
def numP (N : List D → Bool) (x : D) : Bool := (cpL x).any (numX N)
def numC (N : List D → Bool) (c : D) : Bool := (cxL c).any (numP N)
def nums : Nat → List D → Bool
 | 0, _ => false
 | f + 1, l => l.any (numC (nums f))
set_option maxHeartbeats 16000000 in
theorem nums_step (N : List D → Bool) (l : List D) (hl : l.length ≤ 1000)
  (hL : ∀ c ∈ l, c = .agg [.list (cxL c)] ∧ (cxL c).length ≤ 1000 ∧ ∀ x ∈ cxL c, x = .agg [.int .i64 (cpC x), .list (cpL x)] ∧ (cpL x).length ≤ 1000 ∧ ∀ s ∈ cpL x,
   s = .agg [.int .i64 (sf s).kd, .int .i64 (sf s).ns, .str (sf s).pre, .str (sf s).nm, .int .i64 (sf s).op, .str (sf s).tx, .bool (sf s).fold, .int .i64 (sf s).mark, .int .i64 (sf s).a, .int .i64 (sf s).b, .list (sf s).of_] ∧ callL Tryz.prog (ext11b chk) 30 [.list (sf s).of_] [] = some (.bool (N (sf s).of_), [.no], [])) :
  callL Tryz.prog (ext11b chk) 30 [.list l] [] = some (.bool (l.any (numC N)), [.no], []) := by
 have HL := Hd.mk hL
 have HN := Hd.mk hl
 clear hL hl
 obtain ⟨R, hR⟩ : ∃ R, Hd (R = l.any (numC N)) := ⟨_, rfl⟩
 rw [← (show R = l.any (numC N) from hR)]
 refine cK 55 2 Tryz.func30 ?_
 refine Gy ?_
 refine loopH (fun st => ∃ (i : Nat), i ≤ l.length ∧ st.slot 11 = .int .i64 i ∧ st.slot 10 = .int .i64 l.length ∧ st.slot 9 = .list l ∧ Hd (R = (l.drop i).any (numC N))) (fun st => l.length - slotI st 11) ?_ ?_
 ·exact ⟨0, Nat.zero_le _, Iy, Iy, Iy, hR⟩
 ·rintro st K ⟨i, hi, g11, g10, g9, hO⟩ hn hx hr
  have hl : l.length ≤ 1000 := HN
  have hO' : R = (l.drop i).any (numC N) := hO
  by_cases h : i < l.length
  ·have k9 : (i : Int) < l.length := by omega
   have hw := wrapS i (by omega)
   obtain ⟨c, hc1⟩ := some_at h
   rw [any_drop _ hc1] at hO'
   unfold numC at hO'
   obtain ⟨e1, hx1, hX⟩ := (show ∀ c ∈ l, _ from HL) c (List.mem_of_getElem? hc1)
   have ha := (self_getD hc1).trans e1
   generalize cxL c = X at *
   have HI := Hd.mk h
   have HX := Hd.mk hX
   have HO := Hd.mk hO'
   have HX1 := Hd.mk hx1
   clear hl hO hO' hx hX hc1 e1 hx1 h hR
   refine Gy ?_
   refine loopH (fun st' => ∃ (k : Nat), k ≤ X.length ∧ st'.slot 18 = .int .i64 k ∧ st'.slot 17 = .int .i64 X.length ∧ st'.slot 16 = .list X ∧ st'.slot 11 = .int .i64 i ∧ st'.slot 10 = .int .i64 l.length ∧ st'.slot 9 = .list l ∧ Hd (R = ((X.drop k).any (numP N) || (l.drop (i + 1)).any (numC N)))) (fun st' => X.length - slotI st' 18) ?_ ?_
   ·exact ⟨0, Nat.zero_le _, Iy, Iy, Iy, Iy, Iy, Iy, HO⟩
   ·rintro st' K' ⟨k, hk, e18, e17, e16, e11, e10, e9, hO⟩ hn2 hx2 hr2
    have G11 := Hd.mk g11
    clear g9 g10 g11 HO
    have hxl : X.length ≤ 1000 := HX1
    have hO' : R = ((X.drop k).any (numP N) || (l.drop (i + 1)).any (numC N)) := hO
    by_cases h : k < X.length
    ·have k10 : (k : Int) < X.length := by omega
     have hw3 := wrapS k (by omega)
     obtain ⟨x, hx1⟩ := some_at h
     rw [any_drop _ hx1] at hO'
     unfold numP at hO'
     obtain ⟨f1, f2, hS⟩ := (show ∀ x ∈ X, _ from HX) x (List.mem_of_getElem? hx1)
     have hb := (self_getD hx1).trans f1
     generalize cpL x = Y at *
     generalize cpC x = cc at *
     have HK := Hd.mk h
     have HS := Hd.mk hS
     have HO := Hd.mk hO'
     have HY1 := Hd.mk f2
     clear hO hO' hx2 hS hx1 f1 f2 h hxl hn
     refine Gy ?_
     refine loopH (fun st2 => ∃ (m : Nat), m ≤ Y.length ∧ st2.slot 25 = .int .i64 m ∧ st2.slot 24 = .int .i64 Y.length ∧ st2.slot 23 = .list Y ∧ st2.slot 18 = .int .i64 k ∧ st2.slot 17 = .int .i64 X.length ∧ st2.slot 16 = .list X ∧ st2.slot 11 = .int .i64 i ∧ st2.slot 10 = .int .i64 l.length ∧ st2.slot 9 = .list l ∧ Hd (R = (((Y.drop m).any (numX N) || (X.drop (k + 1)).any (numP N)) || (l.drop (i + 1)).any (numC N)))) (fun st2 => Y.length - slotI st2 25) ?_ ?_
     ·exact ⟨0, Nat.zero_le _, Iy, Iy, Iy, Iy, Iy, Iy, Iy, Iy, Iy, HO⟩
     ·rintro st2 K2 ⟨m, hmm, u25, u24, u23, u18, u17, u16, u11, u10, u9, hO⟩ hn3 hx3 hr3
      have E18 := Hd.mk e18
      clear e18 e17 e16 e11 e10 e9 HO
      have hyl : Y.length ≤ 1000 := HY1
      have hO' : R = (((Y.drop m).any (numX N) || (X.drop (k + 1)).any (numP N)) || (l.drop (i + 1)).any (numC N)) := hO
      by_cases h : m < Y.length
      ·have k11 : (m : Int) < Y.length := by omega
       have hw4 := wrapS m (by omega)
       obtain ⟨s, hs1⟩ := some_at h
       rw [any_drop _ hs1] at hO'
       unfold numX at hO'
       obtain ⟨q1, hcall⟩ := (show ∀ s ∈ Y, _ from HS) s (List.mem_of_getElem? hs1)
       have hz := (self_getD hs1).trans q1
       generalize sf s = S at *
       have HM0 := Hd.mk h
       unfold numB at hO'
       clear hO hx3 hs1 q1 h hyl
       by_cases c1 : (1099511627776 : Int) < max S.a S.b
       ·rw [decide_eq_true c1] at hO'
        simp only [Bool.true_or] at hO'
        subst hO'
        clear hn3 hn2 hcall
        refine Gy ?_
        refine hr3 _ ?_
        refine hr2 _ ?_
        exact hr _ Wy
       rw [decide_eq_false c1, Bool.false_or] at hO'
       by_cases c2 : min S.a S.b < (-1099511627776 : Int)
       ·rw [decide_eq_true c2] at hO'
        simp only [Bool.true_or] at hO'
        subst hO'
        clear hn3 hn2 hcall
        refine Gy ?_
        refine hr3 _ ?_
        refine hr2 _ ?_
        exact hr _ Wy
       rw [decide_eq_false c2, Bool.false_or] at hO'
       cases c3 : N S.of_ with
       | true =>
        rw [c3] at hcall hO'
        simp only [Bool.true_or] at hO'
        subst hO'
        clear hn3 hn2
        refine Gy ?_
        refine hr3 _ ?_
        refine hr2 _ ?_
        exact hr _ Wy
       | false =>
        rw [c3] at hcall hO'
        simp only [Bool.false_or] at hO'
        have HO2 := Hd.mk hO'
        clear hO' hr3 hn2 hr2 hr
        refine Gy ?_
        refine hn3 _ ⟨m + 1, HM0, L, L, L, L, L, L, L, L, L, HO2⟩ ?_
        ·have hm2 : m < Y.length := HM0
         simp only [slotI, *, AVB, AVY, ↓reduceIte, Nat.reduceEqDiff, Nat.reduceLT, Nat.reduceLeDiff, reduceCtorEq, Nat.reduceBEq, String.reduceBEq, Nat.reduceAdd, Nat.reduceSub, Nat.reduceMul, Int.reduceLE, Int.reduceLT, Int.reduceToNat, Int.reduceBEq, Int.reduceBNe, List.zipWith, dIntBin]
         omega
      ·have k11 : ¬ (m : Int) < Y.length := by omega
       rw [any_end _ (by omega), Bool.false_or] at hO'
       have HO2 := Hd.mk hO'
       clear hO hO' hr3 hn3 hr2 hr hyl h
       refine Gy ?_
       refine hx3 _ _ ?_
       refine Gy ?_
       have hk2 : k < X.length := HK
       refine hn2 _ ⟨k + 1, hk2, L, L, L, L, L, L, HO2⟩ ?_
       ·have e18 : st'.slot 18 = .int .i64 k := E18
        simp only [slotI, *, AVB, AVY, ↓reduceIte, Nat.reduceEqDiff, Nat.reduceLT, Nat.reduceLeDiff, reduceCtorEq, Nat.reduceBEq, String.reduceBEq, Nat.reduceAdd, Nat.reduceSub, Nat.reduceMul, Int.reduceLE, Int.reduceLT, Int.reduceToNat, Int.reduceBEq, Int.reduceBNe, List.zipWith, dIntBin]
        omega
    ·have k10 : ¬ (k : Int) < X.length := by omega
     rw [any_end _ (by omega), Bool.false_or] at hO'
     have HO2 := Hd.mk hO'
     clear hO hO' hr2 hn2 hxl h hr
     refine Gy ?_
     refine hx2 _ _ ?_
     refine Gy ?_
     have hi2 : i < l.length := HI
     refine hn _ ⟨i + 1, hi2, L, L, L, HO2⟩ ?_
     ·have g11 : st.slot 11 = .int .i64 i := G11
      simp only [slotI, *, AVB, AVY, ↓reduceIte, Nat.reduceEqDiff, Nat.reduceLT, Nat.reduceLeDiff, reduceCtorEq, Nat.reduceBEq, String.reduceBEq, Nat.reduceAdd, Nat.reduceSub, Nat.reduceMul, Int.reduceLE, Int.reduceLT, Int.reduceToNat, Int.reduceBEq, Int.reduceBNe, List.zipWith, dIntBin]
      omega
  ·have k9 : ¬ (i : Int) < l.length := by omega
   rw [any_end _ (by omega)] at hO'
   subst hO'
   clear hO hn hr hl hR h
   refine Gy ?_
   exact hx _ _ Wy
theorem nums_L : ∀ (f : Nat) (l : List D), lsOk 100 (smOk 100 f) l = true → callL Tryz.prog (ext11b chk) 30 [.list l] [] = some (.bool (nums (f + 1) l), [.no], [])
 | f, l, h => by
  obtain ⟨h1, h2⟩ := lsOk_mem h
  refine nums_step (chk := chk) (nums f) l (by omega) fun c hc => ?_
  obtain ⟨l1, rfl, g1, g2⟩ := cxOk_inv (h2 c hc)
  refine ⟨rfl, (show l1.length ≤ 1000 by omega), fun x hx => ?_⟩
  obtain ⟨cc, l2, rfl, g3, g4⟩ := cpOk_inv (g2 x hx)
  refine ⟨rfl, (show l2.length ≤ 1000 by omega), fun s hs => ?_⟩
  have h3 := g4 s hs
  cases f with
  | zero => simp [smOk] at h3
  | succ f =>
   obtain ⟨e, _, _, _, h4⟩ := smOk_inv h3
   exact ⟨e, nums_L f (sf s).of_ h4⟩
end Go.Av
namespace Go.Av
open Go.Proofs
variable [Rk] {chk : List D → Bool}
def longS (s : List UInt8) : Bool := decide ((100 : Int) < s.length)
def gnF (nm : Nam) : Bool := decide ((30 : Int) < nm.pre.length) || (decide ((30 : Int) < nm.sps.length) || (decide ((100 : Int) < nm.dft.length) || (nm.pre ++ nm.sps).any longS))
set_option maxHeartbeats 4000000 in
theorem gnames_L (nm : Nam) (h1 : nm.pre.length ≤ 140737488355328) (h2 : nm.sps.length ≤ 140737488355328) : callL Tryz.prog (ext11b chk) 29 [.agg nm.cs] [] = some (.bool (gnF nm), [.no], []) := by
 unfold gnF Nam.cs
 have lP := lenM nm.pre D.str
 have lS := lenM nm.sps D.str
 have lQ := lenM (nm.pre ++ nm.sps) D.str
 have hap : nm.pre.map D.str ++ nm.sps.map D.str = (nm.pre ++ nm.sps).map D.str := by simp
 have l0P := lenM0 nm.pre D.str
 have l0S := lenM0 nm.sps D.str
 by_cases c1 : (30 : Int) < nm.pre.length
 ·rw [decide_eq_true c1, Bool.true_or]
  clear hap lQ
  exact cWy 37 2 Tryz.func29
 rw [decide_eq_false c1, Bool.false_or]
 by_cases c2 : (30 : Int) < nm.sps.length
 ·rw [decide_eq_true c2, Bool.true_or]
  clear hap lQ
  exact cWy 37 2 Tryz.func29
 rw [decide_eq_false c2, Bool.false_or]
 by_cases c3 : (100 : Int) < nm.dft.length
 ·rw [decide_eq_true c3, Bool.true_or]
  clear hap lQ
  exact cWy 37 2 Tryz.func29
 rw [decide_eq_false c3, Bool.false_or]
 have hz1 : szOk 1 (nm.pre.map D.str) = true := by cases nm.pre <;> rfl
 have hz2 : szOk 1 (nm.sps.map D.str) = true := by cases nm.sps <;> rfl
 have hz0 : lenOk (0 + nm.pre.length) 16 = true := lenOk_small (by omega)
 have hz3 : lenOk (nm.pre.length + nm.sps.length) 16 = true := lenOk_small (by omega)
 have hz4 : lenOk nm.pre.length 16 = true := lenOk_small (by omega)
 have hlen : (nm.pre ++ nm.sps).length ≤ 60 := by rw [List.length_append]; omega
 have HL := Hd.mk hlen
 clear h1 h2 hlen
 obtain ⟨Q, hQ⟩ : ∃ Q, nm.pre ++ nm.sps = Q := ⟨_, rfl⟩
 rw [hQ] at lQ hap HL ⊢
 clear hQ
 obtain ⟨R, hR⟩ : ∃ R, Hd (R = Q.any longS) := ⟨_, rfl⟩
 rw [← (show R = Q.any longS from hR)]
 refine cK 37 2 Tryz.func29 ?_
 repeat' (first|simp only [*, AVB, AVY, ↓reduceIte, Nat.reduceEqDiff, Nat.reduceLT, Nat.reduceLeDiff, reduceCtorEq, Nat.reduceBEq, String.reduceBEq, Nat.reduceAdd, Nat.reduceSub, Nat.reduceMul, Int.reduceLE, Int.reduceLT, Int.reduceToNat, Int.reduceBEq, Int.reduceBNe, List.zipWith, dIntBin]|refine drW_intro (by kernel_rfl) ?_)
 refine loopH (fun st => ∃ i : Nat, i ≤ Q.length ∧ st.slot 29 = .int .i64 i ∧ st.slot 28 = .int .i64 Q.length ∧ st.slot 27 = .list (Q.map D.str) ∧ Hd (R = (Q.drop i).any longS)) (fun st => Q.length - slotI st 29) ?_ ?_
 ·exact ⟨0, Nat.zero_le _, Iy, Iy, Iy, hR⟩
 ·rintro st K ⟨i, hi, g29, g28, g27, hO⟩ hn hx hr
  have hl : Q.length ≤ 60 := HL
  have hO' : R = (Q.drop i).any longS := hO
  by_cases h : i < Q.length
  ·have k9 : (i : Int) < Q.length := by omega
   have hw := wrapS i (by omega)
   obtain ⟨x, hx1⟩ := some_at h
   rw [any_drop _ hx1] at hO'
   have ha : (Q.map D.str).getD i .bad = .str x := getD_map (f := D.str) hx1
   unfold longS at hO'
   clear hO hx hx1 hR hap hz1 hz2 hz0 hz3 hz4 c1 c2 c3
   by_cases c4 : (100 : Int) < x.length
   ·rw [decide_eq_true c4, Bool.true_or] at hO'
    subst hO'
    clear hn
    refine Gy ?_
    exact hr _ Wy
   ·rw [decide_eq_false c4, Bool.false_or] at hO'
    have HO := Hd.mk hO'
    clear hO' hr
    refine Gy ?_
    exact hn _ ⟨i + 1, h, L, L, L, HO⟩ Zy
  ·have k9 : ¬ (i : Int) < Q.length := by omega
   rw [any_end _ (by omega)] at hO'
   subst hO'
   clear hO hn hr hl hR hap hz1 hz2 hz0 hz3 hz4 c1 c2 c3
   refine Gy ?_
   exact hx _ _ Wy
set_option maxHeartbeats 1000000 in
theorem great28_L {M f : Nat} (l : List D) (most : Int) (hm : 0 ≤ most ∧ most ≤ 1000) (h : lsOk 140737488355328 (smOk 140737488355328 f) l = true) :
  callL Tryz.prog (ext11b chk) 28 [.list l, .int .i64 most] [] = some (.bool (decide (most < cnt most (f + 1) l 0)), [.no], []) := by
 have hc : callL Tryz.prog (ext11b chk) 55 [.list l, .int .i64 most, .int .i64 0] [] = some (.int .i64 (cnt most (f + 1) l 0), [.no], []) := count_L (chk := chk) hm f 0 l (by decide) h
 generalize cnt most (f + 1) l 0 = z at *
 clear h
 exact cWy 10 4 Tryz.func28
def greatZ (ns : List Nd) (f : Nat) (l : List D) (nm : Nam) : Bool := greatF ns 12 || (decide (24 < cnt 24 (f + 1) l 0) || (gnF nm || nums 42 l))
set_option maxHeartbeats 2000000 in
theorem greatZ_L {f : Nat} (ns : List Nd) (l : List D) (nm : Nam) (h : lsOk 140737488355328 (smOk 140737488355328 f) l = true) (h1 : nm.pre.length ≤ 140737488355328) (h2 : nm.sps.length ≤ 140737488355328) :
  callL Tryz.prog (ext11b chk) 10 [.list (ns.map Nd.d), .list l, .agg nm.cs] [] = some (.bool (greatZ ns f l nm), [.no], []) := by
 have g1 : callL Tryz.prog (ext11b chk) 27 [.list (ns.map Nd.d), .int .i64 12] [] = some (.bool (greatF ns 12), [.no], []) := great_L (chk := chk) ns 12 (by decide)
 have g2 := great28_L (chk := chk) (M := 0) l 24 (by decide) h
 have g3 := gnames_L (chk := chk) nm h1 h2
 have g4 : ¬ (24 : Int) < cnt 24 (f + 1) l 0 → callL Tryz.prog (ext11b chk) 30 [.list l] [] = some (.bool (nums 42 l), [.no], []) := fun hc =>
  nums_L (chk := chk) 41 l (cnt_small (most := 24) (by decide) (by decide) f l 0 41 rfl h (by have : cnt 24 (f + 1) l ((0 : Nat) : Int) = cnt 24 (f + 1) l 0 := rfl; omega))
 unfold greatZ Nam.cs at *
 generalize greatF ns 12 = b1 at *
 generalize gnF nm = b3 at *
 generalize cnt 24 (f + 1) l 0 = z at *
 generalize ns.map Nd.d = L at *
 clear h h1 h2
 cases b1 with
 | true =>
  clear g2 g3 g4
  exact cWy 21 6 Tryz.func10
 | false =>
  by_cases hz : (24 : Int) < z
  ·rw [decide_eq_true hz] at g2 ⊢
   clear g3 g4 hz
   exact cWy 21 6 Tryz.func10
  ·have g4' := g4 hz
   rw [decide_eq_false hz] at g2 ⊢
   clear g4 hz
   cases b3 with
   | true =>
    clear g4'
    exact cWy 21 6 Tryz.func10
   | false =>
    exact cWy 21 6 Tryz.func10
end Go.Av
namespace Go.Av
open Go.Proofs Go.RowKit Go.Proofs.YtcogfddcdpgpkaaGreatDoor
noncomputable def chkB (es : List D) : Bool := @decide (∃ ns, SmallD ns ∧ es = ns.map Nd.d ∧ chkF ns = (0, 0)) (Classical.propDecidable _)
theorem chkB_ok [Rk] : ChkOK (ext11b fun _ => false) chkB := by
 intro es hn h
 unfold chkB at h
 obtain ⟨ns, hs, rfl, hc⟩ := @of_decide_eq_true _ (Classical.propDecidable _) h
 have h1 := check_L (chk := fun _ => false) ns hs
 rw [hc] at h1
 obtain ⟨N, hN⟩ := callL_aev h1
 exact ⟨N, _, hN⟩
theorem chkG_all : ∀ {r a : List Nd} {roots : Int}, chkG a r roots = (0, 0) → ∀ (i : Nat) (n : Nd), r[i]? = some n → nodeF (a ++ r.take i) n = true
 | [], _, _, _, i, n, hi => by simp at hi
 | x :: r, a, roots, h, i, n, hi => by
  rw [chkG] at h
  split at h
  ·rename_i hx
   cases i with
   | zero => simp at hi; subst hi; simpa using hx
   | succ i =>
    have := chkG_all h i n (by simpa using hi)
    simpa using this
  ·simp at h
theorem par_of {a : List Nd} {n : Nd} (h : nodeF a n = true) : -1 ≤ n.p ∧ n.p < a.length ∧ (0 ≤ n.p → kindAt a n.p = 1) := by
 unfold nodeF parOk at h
 simp only [Bool.and_eq_true, Bool.not_eq_eq_eq_not, Bool.not_true, decide_eq_false_iff_not, Bool.and_eq_false_iff] at h
 obtain ⟨⟨h1, h2, h3⟩, _⟩ := h
 refine ⟨by omega, by omega, fun h0 => ?_⟩
 rcases h3 with h3 | h3
 ·exact absurd h0 h3
 ·simpa using h3
theorem range_ok {ns : List Nd} (hS : SmallD ns) (h : chkF ns = (0, 0)) : rangeOk (ns.map Nd.d) = true := by
 unfold rangeOk
 rw [List.all_eq_true]
 intro e he
 obtain ⟨n, hn, rfl⟩ := List.mem_map.1 he
 obtain ⟨i, hi⟩ := List.mem_iff_getElem?.1 hn
 obtain ⟨h1, h2, _⟩ := par_of (chkG_all h i n hi)
 have hi' := (List.getElem?_eq_some_iff.1 hi).1
 have := hS.1
 simp only [List.nil_append, List.length_take] at h2
 show (decide (-1 ≤ n.p) && decide (n.p < 10000)) = true
 simp only [Bool.and_eq_true, decide_eq_true_eq]
 omega
theorem right_chk {ns : List Nd} (h : chkF ns = (0, 0)) : RightT ns := right_of fun j n hj => par_of (by have := chkG_all h j n hj; simpa using this)
theorem new_L [Rk] {ns : List Nd} (hS : SmallD ns) (h : chkF ns = (0, 0)) : callL Tryz.prog (ext11b chkB) 12 [.list (ns.map Nd.d)] [] = some (.tuple [treeN ns, .con .nilIface], [], []) := by
 refine callL_ext (ext_new1 rfl rfl ?_)
 have hb : chkB (ns.map Nd.d) = true := by
  unfold chkB
  exact @decide_eq_true _ (Classical.propDecidable _) ⟨ns, hS, rfl, h⟩
 show (if nodesOk (ns.map Nd.d) = true ∧ rangeOk (ns.map Nd.d) = true ∧ chkB (ns.map Nd.d) = true then some (D.tuple [treeD (ns.map Nd.d), .con .nilIface], ([] : List Room), ([] : List Bx)) else none) = _
 rw [if_pos ⟨nodes_ok hS.small, range_ok hS h, hb⟩]
 rfl
theorem ls_num : ∀ (k : Nat) (l : List D), lsOk 100 (smOk 100 k) l = true → nums (k + 1) l = false → lsOk 100 (smN k) l = true
 | k, l, h, hn => by
  obtain ⟨h1, h2⟩ := lsOk_mem h
  simp only [nums, List.any_eq_false] at hn
  simp only [lsOk, lenB, Bool.and_eq_true, decide_eq_true_eq, List.all_eq_true]
  refine ⟨h1, fun c hc => ?_⟩
  obtain ⟨l1, rfl, f1, f2⟩ := cxOk_inv (h2 c hc)
  have n1 := hn _ hc
  unfold numC at n1
  rw [show cxL (cxD l1) = l1 from rfl] at n1
  simp only [List.any_eq_true, not_exists, not_and] at n1
  simp only [cxD, cxOk, lenB, Bool.and_eq_true, decide_eq_true_eq, List.all_eq_true]
  refine ⟨f1, fun x hx => ?_⟩
  obtain ⟨y, l2, rfl, f3, f4⟩ := cpOk_inv (f2 x hx)
  have n2 := n1 _ hx
  unfold numP at n2
  rw [show cpL (cpD y l2) = l2 from rfl] at n2
  simp only [List.any_eq_true, not_exists, not_and] at n2
  simp only [cpD, cpOk, lenB, Bool.and_eq_true, decide_eq_true_eq, List.all_eq_true]
  refine ⟨f3, fun s hs => ?_⟩
  have n3 := n2 s hs
  have h3 := f4 s hs
  cases k with
  | zero => simp [smOk] at h3
  | succ k =>
   obtain ⟨_, _, _, _, h4⟩ := smOk_inv h3
   unfold numX numB at n3
   simp only [Bool.or_eq_true, decide_eq_true_eq, not_or] at n3
   have h5 := ls_num k (sf s).of_ h4 (by simpa using n3.2)
   simp only [smN, Bool.and_eq_true, decide_eq_true_eq]
   exact ⟨h3, by omega, by omega, by omega, by omega, h5⟩
def okA (l : List D) : Prop := (∀ x ∈ l, cpOk 100 (smN 45) x = true) ∧ l.length ≤ 100
theorem extA_ok {sp : Call} (hsp : CallOK Tryz.prog sp) : CallOK Tryz.prog (@extR (rkE sp okA)) :=
 extR_ok (fun ns nm l n h => rows 45 (Nat.le_refl _) l.length h.2.2.2.2.2.2 ns nm l n h.2.1 h.2.2.1 h.2.2.2.1 h.2.2.2.2.1 h.2.2.2.2.2.1 rfl) hsp
theorem ext12_ok {sp : Call} (hsp : CallOK Tryz.prog sp) : CallOK Tryz.prog (@ext11b (rkE sp okA) chkB) := by
 letI : Rk := rkE sp okA
 exact orExt_ok extF_ok (orExt_ok extCl_ok (orExt_ok (extNew_ok (ext11b_ok0 (extA_ok hsp)) chkB_ok) (extA_ok hsp)))
structure RowA (R : Rk) : Prop where
 s8 : R.r 8 [] [] = some (.bool true, [.no], [])
 row : ∀ (ns : List Nd) (nm : Nam) (l : List D) (n : Int), SmallD ns → RightT ns → nm.ok → elB ns n = true → okA l → R.r 45 [eyeD ns nm, .list l, .int .i64 n] [] = some (.bool (rowV (sV ns nm) ns l.reverse n), [], [])
theorem rowA {sp : Call} (h8 : sp 8 [] [] = some (.bool true, [.no], [])) : RowA (rkE sp okA) :=
 ⟨h8, fun ns nm l n h1 h2 h3 h4 h5 => by
  show (if (45 : Nat) = 45 then rowE okA [eyeD ns nm, .list l, .int .i64 n] [] else _) = _
  rw [if_pos rfl]
  exact rowE_some ⟨rfl, h1, h2, h3, h4, h5⟩⟩
theorem rowA_L [R : Rk] (hA : RowA R) {chk : List D → Bool} {ns : List Nd} {nm : Nam} {l : List D} {n : Int} (h1 : SmallD ns) (h2 : RightT ns) (h3 : nm.ok) (h4 : elB ns n = true) (h5 : okA l) :
  callL Tryz.prog (ext11b chk) 45 [eyeD ns nm, .list l, .int .i64 n] [] = some (.bool (rowV (sV ns nm) ns l.reverse n), [], []) := callL_ext (ext_row (hA.row ns nm l n h1 h2 h3 h4 h5))
theorem sp8_L [R : Rk] (hA : RowA R) {chk : List D → Bool} : callL Tryz.prog (ext11b chk) 8 [] [] = some (.bool true, [.no], []) := callL_ext (ext_sp8 hA.s8)
def spOnly : Call := fun f args pbs => match f, args, pbs with
 | 8, [], [] => some (.bool true, [.no], [])
 | _, _, _ => none
theorem spOnly_ok : CallOK Tryz.prog spOnly := by
 intro f args pbs d r pbs' h
 unfold spOnly at h
 split at h
 ·simp only [Option.some.injEq, Prod.mk.injEq] at h
  obtain ⟨rfl, rfl, rfl⟩ := h
  obtain ⟨c1, c2⟩ := sp8
  exact ⟨c1, fun vals w F μ hl hd _ hgv hlt hg => c2 vals w F μ hl hd hgv hlt hg⟩
 ·cases h
def selV (ns : List Nd) (nm : Nam) (l : List D) (n : Int) (ps : List UInt8) : Bool := l.any fun c => complexP ns nm c n ps
theorem okA_of {k : Nat} (hk : k ≤ 45) {c : D} (h : cxOk 100 (smN k) c = true) : okA (cxL c) := by
 obtain ⟨l, rfl, h1, h2⟩ := cxOk_inv h
 exact ⟨fun x hx => cp_mono (fun d hd => smN_up k d hd 45 hk) (h2 x hx), h1⟩
theorem selA_L [R : Rk] (hA : RowA R) {chk : List D → Bool} {ns : List Nd} {nm : Nam} {l : List D} {k : Nat} (hk : k ≤ 45) (h1 : SmallD ns) (h2 : RightT ns) (h3 : nm.ok) (hl : lsOk 100 (smN k) l = true) (n : Int) (ps : List UInt8) :
  callL Tryz.prog (ext11b chk) 14 [treeN ns, .list l, .agg nm.cs, subD n ps] [] = some (.bool (selV ns nm l n ps), [.no], []) :=
 selects_L (k := 44) ns nm l n ps h1 (ls_mono (fun d hd => smOk_up _ _ (smN_ok hd) 45 hk) hl) fun he c hc => rowA_L hA h1 h2 h3 he (okA_of hk ((lsOk_mem hl).2 c hc))
end Go.Av
namespace Go.Av
open Go.Proofs
theorem chkG_z : ∀ {r a : List Nd} {roots : Int}, (chkG a r roots).1 = 0 → chkG a r roots = (0, 0)
 | [], a, roots, h => by
  rw [chkG] at h ⊢
  split at h
  ·rename_i h1; rw [if_pos h1]
  ·simp at h
 | x :: r, a, roots, h => by
  rw [chkG] at h ⊢
  split at h
  ·rename_i h1; rw [if_pos h1]; exact chkG_z h
  ·simp at h
theorem chkF_z {ns : List Nd} (h : (chkF ns).1 = 0) : chkF ns = (0, 0) := chkG_z h
variable [R : Rk]
end Go.Av
namespace Go.Proofs.YtcogfddcdpgpkaaGreatDoor
open Go.RowKit Go.Av Go.ChangeShapes Go.WideShapes
theorem own : ownKnob Tryz.prog.godebug = none := by kernel_rfl
theorem laidOut : laidOutB Tryz.prog = true := by kernel_rfl
def laid11 : List (String × DataW Unit) := Rows.matchAllRow.laid
def nm (i : Nat) : String := (laid11.map (·.1)).getD i default
def accP : List (Int × Int) := [(128, 191), (160, 191), (128, 159), (144, 191), (128, 143), (0, 0), (0, 0), (0, 0), (0, 0), (0, 0), (0, 0), (0, 0), (0, 0), (0, 0), (0, 0), (0, 0)]
theorem acc_data : (Rows.laid_unicode_utf8_acceptRanges : DataW Unit) = .agg (accP.map fun z => .agg [.lit (.int .u8 z.1), .lit (.int .u8 z.2)]) := rfl
theorem first_data : Rows.laid_unicode_utf8_first = .agg ((Go.Pinned.utf8FirstZ.map fun n => ((n : Nat) : Int)).map fun z => .lit (.int .u8 z)) := by kernel_rfl
theorem accP_at (i : Nat) (h : i < 16) : (accP.getD i (0, 0)).1 = (accN.getD (i * 2) 0 : Nat) ∧ (accP.getD i (0, 0)).2 = (accN.getD (i * 2 + 1) 0 : Nat) := by
 rcases (by omega : i = 0 ∨ i = 1 ∨ i = 2 ∨ i = 3 ∨ i = 4 ∨ i = 5 ∨ i = 6 ∨ i = 7 ∨ i = 8 ∨ i = 9 ∨ i = 10 ∨ i = 11 ∨ i = 12 ∨ i = 13 ∨ i = 14 ∨ i = 15) with rfl | rfl | rfl | rfl | rfl | rfl | rfl | rfl | rfl | rfl | rfl | rfl | rfl | rfl | rfl | rfl <;> exact ⟨rfl, rfl⟩
theorem fs126 : ∃ fs, Tryz.prog.underlying 208 = some (.struct fs) ∧ fs.size = 2 ∧ Go.Deep.oneCellFields Tryz.prog fs = true ∧ ∀ (i : Nat) (f : Field), fs[i]? = some f → Tryz.prog.underlying f.type = some (.int .u8) := by
 have h : (match Tryz.prog.underlying 208 with | some (.struct fs) => fs.size == 2 && Go.Deep.oneCellFields Tryz.prog fs && fs.toList.all (fun f => f.type == 5) | _ => false) = true := by kernel_rfl
 split at h
 ·rename_i fs hu
  simp only [Bool.and_eq_true, beq_iff_eq, List.all_eq_true] at h
  refine ⟨fs, hu, h.1.1, h.1.2, fun i f hf => ?_⟩
  rw [h.2 f (by rw [Array.mem_toList_iff]; exact Array.mem_of_getElem? hf)]
  exact Tryz.underlying5
 ·cases h
theorem el_data : (Rows.laid_wattle_match_elements : DataW Unit) = .agg (elS.map fun z => .lit (.string z)) := rfl
theorem st_data : (Rows.laid_wattle_sel_states : DataW Unit) = .agg (stS.map fun z => .lit (.string z)) := rfl
section
variable {H : Type} {enc : TypeId × Value → H} {P : Program} {w : World} {base : Nat} {spare : Nat → Bool} {held : Bool}
theorem cells_strs {t e : TypeId} {n fuel : Nat} {cs : List Value} {p : List MemPlace} {zs : List (List UInt8)} (ht : P.underlying t = some (.array n e)) (he : P.underlying e = some .string) (hc : P.cellsOf e = 1)
  (h : DataW.trod enc P w base spare held fuel t cs = some (.agg (zs.map fun z => .lit (.string z)), p)) : ∀ i, i < n → cs[i]? = some (.string ⟨(zs.getD i []).toArray⟩) := by
 obtain ⟨xs, m, _, ex, _, hl, hel⟩ := DataW.trod_array ht h
 intro i hi
 have hE := hel i hi
 rw [hc, Nat.mul_one, List.getElem?_eq_getElem (by omega)] at hE
 obtain ⟨z, e1, e2, _⟩ := DataW.trod_string he hE
 have e3 : xs.map (·.1) = zs.map fun z => .lit (.string z) := (DataW.agg.inj (Prod.mk.inj ex).1).symm
 have hlen : zs.length = xs.length := by have := congrArg List.length e3; simpa using this.symm
 have e4 : (xs.map (·.1))[i]? = (zs.map fun z => (DataW.lit (.string z) : DataW H))[i]? := by rw [e3]
 rw [List.getElem?_map, List.getElem?_map, List.getElem?_eq_getElem (by omega : i < xs.length), List.getElem?_eq_getElem (by omega : i < zs.length), e2] at e4
 have hz : z.data.toList = zs.getD i [] := by
  simp only [Option.map_some, Option.some.injEq, DataW.lit.injEq, Lit.string.injEq] at e4
  rw [e4, List.getD, List.getElem?_eq_getElem (by omega : i < zs.length)]; rfl
 rw [← hz]
 have h0 : ((cs.drop i).take 1)[0]? = some (.string z) := by rw [e1]; rfl
 simpa using h0
end
theorem pw_strs {F : Nat → Nat → Prop} {w : World} (ss : List (List UInt8)) : ∀ (i : Nat) (v : Value) (x : D), (ss.map fun s => Value.string ⟨s.toArray⟩)[i]? = some v → (ss.map D.str)[i]? = some x → Den0 F w v x := by
 intro i v x hv hx
 simp only [List.getElem?_map, Option.map_eq_some_iff] at hv hx
 obtain ⟨z, hz, rfl⟩ := hv
 obtain ⟨z', hz', rfl⟩ := hx
 rw [hz] at hz'
 obtain rfl := Option.some.inj hz'
 exact .str z
theorem fix_of {W : World} {g : Nat} {ss : List (List UInt8)} (h : ∀ c, c < ss.length → W.cell? ⟨g, c, none⟩ = some (.string ⟨(ss.getD c []).toArray⟩)) : Den0 (old W) W (.pointer (some ⟨g, 0, none⟩)) (.fix (.agg (ss.map .str)) 0) := by
 refine Den0.fix (.agg (ss.map D.str)) g 0 0 (ss.map fun s => Value.string ⟨s.toArray⟩) (by simp [dcells]) (fun i v hv => ?_) (pw_strs _)
 simp only [List.getElem?_map, Option.map_eq_some_iff] at hv
 obtain ⟨z, hz, rfl⟩ := hv
 have hlt : i < ss.length := (List.getElem?_eq_some_iff.1 hz).1
 have hcell := h i hlt
 rw [List.getD, hz] at hcell
 rw [Nat.zero_add]
 exact ⟨cell_old hcell, hcell, rfl⟩
theorem pw_ints {F : Nat → Nat → Prop} {w : World} (ns : List Nat) : ∀ (i : Nat) (v : Value) (x : D), (ns.map fun n => Value.int .u8 (n : Nat))[i]? = some v → (ns.map fun n => D.int .u8 (n : Nat))[i]? = some x → Den0 F w v x := by
 intro i v x hv hx
 simp only [List.getElem?_map, Option.map_eq_some_iff] at hv hx
 obtain ⟨z, hz, rfl⟩ := hv
 obtain ⟨z', hz', rfl⟩ := hx
 rw [hz] at hz'
 obtain rfl := Option.some.inj hz'
 exact .int _ _
theorem fix_ints {W : World} {g : Nat} {ns : List Nat} (h : ∀ c, c < ns.length → W.cell? ⟨g, c, none⟩ = some (.int .u8 (ns.getD c 0 : Nat))) : Den0 (old W) W (.pointer (some ⟨g, 0, none⟩)) (.fix (.agg (ns.map fun n => .int .u8 (n : Nat))) 0) := by
 refine Den0.fix (.agg (ns.map fun n => D.int .u8 (n : Nat))) g 0 0 (ns.map fun n => Value.int .u8 (n : Nat)) (by simp [dcells]) (fun i v hv => ?_) (pw_ints _)
 simp only [List.getElem?_map, Option.map_eq_some_iff] at hv
 obtain ⟨z, hz, rfl⟩ := hv
 have hlt : i < ns.length := (List.getElem?_eq_some_iff.1 hz).1
 have hcell := h i hlt
 rw [List.getD, hz] at hcell
 rw [Nat.zero_add]
 exact ⟨cell_old hcell, hcell, rfl⟩
theorem row0 : ((begin Tryz.prog (fun _ _ => 0) default).world.heap[4]?).bind Obj.row? = some (#[.int .i64 0], 3) := by kernel_rfl
theorem maxLen_some (W : World) (h : W.ShapedOpen Tryz.prog) : ∃ m, W.cell? ⟨4, 0, none⟩ = some (.int .i64 m) :=
 cell_of_shapedOpen_int h (of_decide_eq_true (by kernel_rfl)) row0 rfl (by kernel_rfl) (by kernel_rfl) Tryz.underlying3
theorem max_den {W : World} (h : W.ShapedOpen Tryz.prog) : ∃ d, (∃ m : Int, d = D.fix (.int .i64 m) 0) ∧ Den0 (old W) W (.pointer (some ⟨4, 0, none⟩)) d := by
 obtain ⟨m, hm⟩ := maxLen_some W h
 refine ⟨_, ⟨m, rfl⟩, ?_⟩
 refine Den0.fix (.int .i64 m) 4 0 0 [.int .i64 m] rfl (fun i v hv => ?_) (fun i v x hv hx => ?_)
 ·cases i with
  | zero => simp at hv; subst hv; exact ⟨cell_old hm, hm, rfl⟩
  | succ i => simp at hv
 ·cases i with
  | zero => simp [dcells] at hv hx; subst hv; subst hx; exact .int _ _
  | succ i => simp at hv
theorem gok11 {W : World} (h : laidMetH Tryz.prog laid11 W) (hsh : W.ShapedOpen Tryz.prog) : GOK (old W) W := by
 rw [MakeChecks.laidMetH_plain _ _ _ (by kernel_rfl)] at h
 obtain ⟨ps, ⟨g0, t0, cs0, f0, p0, q0, hg0, ht0, hv0, hd0, ⟨g1, t1, cs1, f1, p1, q1, hg1, ht1, hv1, hd1, ⟨g2, t2, cs2, f2, p2, q2, hg2, ht2, hv2, hd2, ⟨g3, t3, cs3, f3, p3, q3, hg3, ht3, hv3, hd3, _⟩, _⟩, _⟩, _⟩, _, _⟩ := h
 obtain rfl := Option.some.inj ((show Tryz.prog.globalNamed (nm 0) = some 3 by kernel_rfl).symm.trans hg0)
 obtain rfl := Option.some.inj ((show (Tryz.prog.globals[3]?).map (·.type) = some 209 by kernel_rfl).symm.trans ht0)
 obtain rfl := Option.some.inj ((show Tryz.prog.globalNamed (nm 1) = some 1 by kernel_rfl).symm.trans hg1)
 obtain rfl := Option.some.inj ((show (Tryz.prog.globals[1]?).map (·.type) = some 192 by kernel_rfl).symm.trans ht1)
 obtain rfl := Option.some.inj ((show Tryz.prog.globalNamed (nm 3) = some 2 by kernel_rfl).symm.trans hg3)
 obtain rfl := Option.some.inj ((show (Tryz.prog.globals[2]?).map (·.type) = some 206 by kernel_rfl).symm.trans ht3)
 obtain rfl := Option.some.inj ((show Tryz.prog.globalNamed (nm 2) = some 0 by kernel_rfl).symm.trans hg2)
 obtain rfl := Option.some.inj ((show (Tryz.prog.globals[0]?).map (·.type) = some 88 by kernel_rfl).symm.trans ht2)
 have h0 : ∀ c, c < elS.length → W.cell? ⟨0, c, none⟩ = some (.string ⟨(elS.getD c []).toArray⟩) := by
  intro c hc
  rw [el_data] at hd2
  have := cells_strs Tryz.underlying88 Tryz.underlying9 (by kernel_rfl) hd2 c hc
  rw [World.var?_cell (show Tryz.prog.globalNamed (nm 2) = some 0 by kernel_rfl) hv2 c]
  simpa using this
 have h1 : ∀ c, c < stS.length → W.cell? ⟨1, c, none⟩ = some (.string ⟨(stS.getD c []).toArray⟩) := by
  intro c hc
  rw [st_data] at hd1
  have := cells_strs Tryz.underlying192 Tryz.underlying9 (by kernel_rfl) hd1 c hc
  rw [World.var?_cell (show Tryz.prog.globalNamed (nm 1) = some 1 by kernel_rfl) hv1 c]
  simpa using this
 have h2 : ∀ c, c < ((List.range 256).map firstN).length → W.cell? ⟨2, c, none⟩ = some (.int .u8 (((List.range 256).map firstN).getD c 0 : Nat)) := by
  intro c hc
  have hc : c < 256 := by simpa using hc
  rw [first_data] at hd3
  have := cells_ints (k := .u8) Tryz.underlying206 Tryz.underlying5 (by kernel_rfl) hd3 c hc
  rw [World.var?_cell (show Tryz.prog.globalNamed (nm 3) = some 2 by kernel_rfl) hv3 c]
  have hz : (Go.Pinned.utf8FirstZ.map fun n => ((n : Nat) : Int)).getD c 0 = (firstN c : Nat) := by
   unfold firstN
   have hlen : Go.Pinned.utf8FirstZ.length = 256 := by kernel_rfl
   rw [List.getD, List.getD, List.getElem?_map, List.getElem?_eq_getElem (by omega : c < Go.Pinned.utf8FirstZ.length)]
   rfl
  rw [hz] at this
  have e : ((List.range 256).map firstN).getD c 0 = firstN c := by
   rw [List.getD, List.getElem?_map, List.getElem?_range hc]
   rfl
  rw [e]
  simpa using this
 have h3 : ∀ c, c < accN.length → W.cell? ⟨3, c, none⟩ = some (.int .u8 (accN.getD c 0 : Nat)) := by
  intro i hi
  have hi : i < 32 := hi
  rw [acc_data] at hd0
  obtain ⟨fs, h1, h2, h3, h4⟩ := fs126
  have := cells_pairs (u := 5) (k := .u8) Tryz.underlying209 h1 h2 h3 h4 (by kernel_rfl) hd0 (i / 2) (by omega)
  obtain ⟨e1, e2⟩ := accP_at (i / 2) (by omega)
  rw [e1, e2] at this
  rw [World.var?_cell (show Tryz.prog.globalNamed (nm 0) = some 3 by kernel_rfl) hv0 i]
  rcases (by omega : i = i / 2 * 2 ∨ i = i / 2 * 2 + 1) with e | e
  ·rw [← e] at this; simpa using this.1
  ·rw [← e] at this; simpa using this.2
 refine ⟨fun g => ?_, fun x hx => ?_, fun x hx => by cases hx⟩
 case refine_2 =>
  obtain rfl := List.mem_singleton.1 (show x ∈ [((4 : Nat), fun d => ∃ m : Int, d = D.fix (.int .i64 m) 0)] from hx)
  exact max_den hsh
 show (if g = 0 then D.fix (.agg elD) 0 else if g = 1 then D.fix (.agg stD) 0 else if g = 2 then .fix (.agg firstD) 0 else if g = 3 then .fix (.agg accD) 0 else .bad) = .bad ∨ Den0 (old W) W (.pointer (some ⟨g, 0, none⟩)) (if g = 0 then D.fix (.agg elD) 0 else if g = 1 then D.fix (.agg stD) 0 else if g = 2 then .fix (.agg firstD) 0 else if g = 3 then .fix (.agg accD) 0 else .bad)
 by_cases c0 : g = 0
 ·subst c0; exact .inr (fix_of h0)
 rw [if_neg c0]
 by_cases c1 : g = 1
 ·subst c1; exact .inr (fix_of h1)
 ·by_cases c2 : g = 2
  ·subst c2
   right
   have := fix_ints h2
   rw [List.map_map] at this
   exact this
  ·by_cases c3 : g = 3
   ·subst c3; exact .inr (fix_ints h3)
   ·left; rw [if_neg c1, if_neg c2, if_neg c3]
theorem reach_le : reachBytes ≤ 140737488355328 := by decide
section
variable {P : Program}
theorem str_ok {t : TypeId} (hu : P.underlying t = some .string) {d : D} (h : TyD P t d) : ∃ s, d = .str s ∧ s.length ≤ 140737488355328 := by
 cases h with
 | str _ l _ hl => exact ⟨_, rfl, Nat.le_trans hl reach_le⟩
 | bool _ b h => rw [hu] at h; cases h
 | int _ k n h _ => rw [hu] at h; cases h
 | list _ e es h _ _ => rw [hu] at h; cases h
 | agg _ fs ds h _ _ => rw [hu] at h; cases h
theorem int_ok {t : TypeId} (hu : P.underlying t = some (.int .i64)) {d : D} (h : TyD P t d) : ∃ z : Int, d = .int .i64 z ∧ -9223372036854775808 ≤ z ∧ z < 9223372036854775808 := by
 cases h with
 | int _ k n h hw =>
  rw [hu] at h
  cases h
  have : (Lit.int .i64 n).wf = true := hw
  simp [Lit.wf, IntKind.min, IntKind.max, IntKind.signed, IntKind.bits] at this
  exact ⟨n, rfl, by omega, by omega⟩
 | bool _ b h => rw [hu] at h; cases h
 | str _ l h hl => rw [hu] at h; cases h
 | list _ e es h _ _ => rw [hu] at h; cases h
 | agg _ fs ds h _ _ => rw [hu] at h; cases h
theorem bool_ok {t : TypeId} (hu : P.underlying t = some .bool) {d : D} (h : TyD P t d) : ∃ b, d = .bool b := by
 cases h with
 | bool _ b h => exact ⟨b, rfl⟩
 | int _ k n h _ => rw [hu] at h; cases h
 | str _ l h hl => rw [hu] at h; cases h
 | list _ e es h _ _ => rw [hu] at h; cases h
 | agg _ fs ds h _ _ => rw [hu] at h; cases h
theorem list_ok {α : Type} {f : α → D} {t e : TypeId} {Q : α → Prop} (hu : P.underlying t = some (.slice e)) (hf : ∀ d, TyD P e d → ∃ a, d = f a ∧ Q a) {d : D} (h : TyD P t d) : ∃ l : List α, d = .list (l.map f) ∧ l.length * P.bytesOf e ≤ 140737488355328 ∧ ∀ a ∈ l, Q a := by
 cases h with
 | list _ e' es h hl hes =>
  rw [hu] at h
  cases h
  have key : ∀ es : List D, (∀ d ∈ es, TyD P e d) → ∃ l : List α, es = l.map f ∧ ∀ a ∈ l, Q a := by
   intro es
   induction es with
   | nil => exact fun _ => ⟨[], rfl, fun a h => by cases h⟩
   | cons x r ih =>
    intro h
    obtain ⟨l, rfl, hq⟩ := ih fun d hd => h d (by simp [hd])
    obtain ⟨a, rfl, ha⟩ := hf x (h x (by simp))
    refine ⟨a :: l, rfl, fun b hb => ?_⟩
    rcases List.mem_cons.1 hb with rfl | hb
    ·exact ha
    ·exact hq b hb
  obtain ⟨l, rfl, hq⟩ := key es hes
  exact ⟨l, rfl, by rw [List.length_map] at hl; exact Nat.le_trans hl reach_le, hq⟩
 | bool _ b h => rw [hu] at h; cases h
 | int _ k n h _ => rw [hu] at h; cases h
 | str _ l h hl => rw [hu] at h; cases h
 | agg _ fs ds h _ _ => rw [hu] at h; cases h
theorem agg_ok {t : TypeId} {fs : Array Field} (hu : P.underlying t = some (.struct fs)) {d : D} (h : TyD P t d) : ∃ ds : List D, d = .agg (ds.flatMap dcells) ∧ ds.length = fs.size ∧ ∀ (i : Nat) (f : Field) (d : D), fs[i]? = some f → ds[i]? = some d → TyD P f.type d := by
 cases h with
 | agg _ fs' ds h hl hds =>
  rw [hu] at h
  cases h
  exact ⟨ds, rfl, hl, hds⟩
 | bool _ b h => rw [hu] at h; cases h
 | int _ k n h _ => rw [hu] at h; cases h
 | str _ l h hl => rw [hu] at h; cases h
 | list _ e es h _ _ => rw [hu] at h; cases h
def fieldTs (P : Program) (t : TypeId) : Option (List TypeId) := match P.underlying t with | some (.struct fs) => some (fs.toList.map (·.type)) | _ => none
theorem agg_ok' {t : TypeId} {ts : List TypeId} (hu : fieldTs P t = some ts) {d : D} (h : TyD P t d) : ∃ ds : List D, d = .agg (ds.flatMap dcells) ∧ ds.length = ts.length ∧ ∀ (i : Nat) (u : TypeId) (d : D), ts[i]? = some u → ds[i]? = some d → TyD P u d := by
 unfold fieldTs at hu
 split at hu
 ·rename_i fs hf
  injection hu with hu
  subst hu
  obtain ⟨ds, h1, h2, h3⟩ := agg_ok hf h
  refine ⟨ds, h1, by simpa using h2, fun i u d hi hd => ?_⟩
  rw [List.getElem?_map] at hi
  obtain ⟨f, hf1, rfl⟩ := Option.map_eq_some_iff.1 hi
  exact h3 i f d (by simpa using hf1) hd
 ·cases hu
end
theorem at_ok {d : D} (h : TyD Tryz.prog 97 d) : ∃ a : At, d = a.d ∧ BigA a := by
 obtain ⟨ds, rfl, hl, h⟩ := agg_ok' (ts := [9, 9, 9]) (by kernel_rfl) h
 match ds, hl with
 | [x, y, z], _ =>
  obtain ⟨a, rfl, ha⟩ := str_ok Tryz.underlying9 (h 0 _ _ rfl rfl)
  obtain ⟨b, rfl, hb⟩ := str_ok Tryz.underlying9 (h 1 _ _ rfl rfl)
  obtain ⟨c, rfl, hc⟩ := str_ok Tryz.underlying9 (h 2 _ _ rfl rfl)
  exact ⟨⟨a, b, c⟩, rfl, ha, hb, hc⟩
theorem le_of_mul {n b m : Nat} (h : n * b ≤ m) (hb : 0 < b) : n ≤ m := Nat.le_trans (Nat.le_mul_of_pos_right n hb) h
theorem nd_ok {d : D} (h : TyD Tryz.prog 71 d) : ∃ n : Nd, d = n.d ∧ BigN n := by
 obtain ⟨ds, rfl, hl, h⟩ := agg_ok' (ts := [3, 3, 9, 9, 69, 24, 9]) (by kernel_rfl) h
 match ds, hl with
 | [x0, x1, x2, x3, x4, x5, x6], _ =>
  obtain ⟨p, rfl, _⟩ := int_ok Tryz.underlying3 (h 0 _ _ rfl rfl)
  obtain ⟨k, rfl, _⟩ := int_ok Tryz.underlying3 (h 1 _ _ rfl rfl)
  obtain ⟨sp, rfl, h2⟩ := str_ok Tryz.underlying9 (h 2 _ _ rfl rfl)
  obtain ⟨nm, rfl, h3⟩ := str_ok Tryz.underlying9 (h 3 _ _ rfl rfl)
  obtain ⟨la, rfl, h4, h4'⟩ := list_ok (f := At.d) (Q := BigA) Tryz.underlying69 (fun d h => at_ok h) (h 4 _ _ rfl rfl)
  obtain ⟨ls, rfl, h5, _⟩ := list_ok (f := D.str) (Q := fun _ => True) Tryz.underlying24 (fun d h => (str_ok Tryz.underlying9 h).imp fun _ h => ⟨h.1, trivial⟩) (h 5 _ _ rfl rfl)
  obtain ⟨tx, rfl, h6⟩ := str_ok Tryz.underlying9 (h 6 _ _ rfl rfl)
  exact ⟨⟨p, k, sp, nm, la, ls, tx⟩, rfl, le_of_mul h4 (by decide +kernel), le_of_mul h5 (by decide +kernel), h3, h2, h6, h4'⟩
theorem doc_ok {d : D} (h : TyD Tryz.prog 22 d) : ∃ ns : List Nd, d = .list (ns.map Nd.d) ∧ BigD ns := by
 obtain ⟨l, h1, h2, h3⟩ := list_ok (f := Nd.d) (Q := BigN) Tryz.underlying22 (fun d h => nd_ok h) h
 exact ⟨l, h1, le_of_mul h2 (by decide +kernel), h3⟩
theorem law_c1 {f : FuncId} {xs : List D} {r : List Room} {vals : List Value} {W : World} (hg : GOK (old W) W) (h : Go.Av.C1 f xs (.bool true) r) (hl : vals.length = xs.length)
  (hd : ∀ (i : Nat) (v : Value) (x : D), vals[i]? = some v → xs[i]? = some x → Den0 (old W) W v x) : Calls Tryz.prog f vals.toArray W fun e W' => e = .returned (.bool true) ∧ Below W.heap.size W W' := by
 refine (callC h hg hl hd).mono ?_
 rintro e W' ⟨⟨v, rfl, hv⟩, hb⟩
 exact ⟨by rw [den_bool hv], hb⟩
theorem names_ok {d : D} (h : TyD Tryz.prog 26 d) : ∃ nm : Nam, d = .agg nm.cs ∧ nm.pre.length ≤ 140737488355328 ∧ nm.sps.length ≤ 140737488355328 := by
 obtain ⟨ds, rfl, hl, h⟩ := agg_ok' (ts := [4, 9, 24, 24]) (by kernel_rfl) h
 match ds, hl with
 | [x0, x1, x2, x3], _ =>
  obtain ⟨b, rfl⟩ := bool_ok Tryz.underlying4 (h 0 _ _ rfl rfl)
  obtain ⟨s, rfl, _⟩ := str_ok Tryz.underlying9 (h 1 _ _ rfl rfl)
  obtain ⟨l1, rfl, h2, _⟩ := list_ok (f := D.str) (Q := fun _ => True) Tryz.underlying24 (fun d h => (str_ok Tryz.underlying9 h).imp fun _ h => ⟨h.1, trivial⟩) (h 2 _ _ rfl rfl)
  obtain ⟨l2, rfl, h3, _⟩ := list_ok (f := D.str) (Q := fun _ => True) Tryz.underlying24 (fun d h => (str_ok Tryz.underlying9 h).imp fun _ h => ⟨h.1, trivial⟩) (h 3 _ _ rfl rfl)
  exact ⟨⟨b, s, l1, l2⟩, rfl, le_of_mul h2 (by decide +kernel), le_of_mul h3 (by decide +kernel)⟩
theorem max_of {α : Type} {R : α → Nat → Prop} (hup : ∀ a i j, R a i → i ≤ j → R a j) : ∀ (l : List α), (∀ a ∈ l, ∃ f, R a f) → ∃ f, ∀ a ∈ l, R a f
 | [], _ => ⟨0, fun a h => by cases h⟩
 | x :: r, h => by
  obtain ⟨f1, h1⟩ := h x (List.mem_cons_self ..)
  obtain ⟨f2, h2⟩ := max_of hup r fun a ha => h a (List.mem_cons_of_mem _ ha)
  refine ⟨max f1 f2, fun a ha => ?_⟩
  rcases List.mem_cons.1 ha with rfl | ha
  ·exact hup _ _ _ h1 (Nat.le_max_left ..)
  ·exact hup _ _ _ (h2 a ha) (Nat.le_max_right ..)
abbrev MB : Nat := 140737488355328
abbrev Sel (t : TypeId) (d : D) (f : Nat) : Prop :=
 (t = 42 → smOk MB f d = true) ∧ (t = 45 → cpOk MB (smOk MB f) d = true) ∧ (t = 48 → cxOk MB (smOk MB f) d = true) ∧
 (t = 43 → ∃ l, d = .list l ∧ l.length ≤ MB ∧ ∀ s ∈ l, smOk MB f s = true) ∧ (t = 46 → ∃ l, d = .list l ∧ l.length ≤ MB ∧ ∀ s ∈ l, cpOk MB (smOk MB f) s = true) ∧ (t = 23 → ∃ l, d = .list l ∧ lsOk MB (smOk MB f) l = true)
theorem Sel.up {t : TypeId} {d : D} {i j : Nat} (h : Sel t d i) (hij : i ≤ j) : Sel t d j := by
 obtain ⟨h1, h2, h3, h4, h5, h6⟩ := h
 have hm : ∀ d, smOk MB i d = true → smOk MB j d = true := fun d hd => smOk_up i d hd j hij
 refine ⟨fun e => hm _ (h1 e), fun e => cp_mono hm (h2 e), fun e => cx_mono hm (h3 e), fun e => ?_, fun e => ?_, fun e => ?_⟩
 ·obtain ⟨l, a, b, c⟩ := h4 e
  exact ⟨l, a, b, fun s hs => hm _ (c s hs)⟩
 ·obtain ⟨l, a, b, c⟩ := h5 e
  exact ⟨l, a, b, fun s hs => cp_mono hm (c s hs)⟩
 ·obtain ⟨l, a, b⟩ := h6 e
  exact ⟨l, a, ls_mono hm b⟩
theorem fts (t : TypeId) (ts : List TypeId) {fs : Array Field} (hu : Tryz.prog.underlying t = some (.struct fs)) (h : fieldTs Tryz.prog t = some ts) : fs.toList.map (·.type) = ts := by
 unfold fieldTs at h
 rw [hu] at h
 exact Option.some.inj h
theorem sel_ok {t : TypeId} {d : D} (h : TyD Tryz.prog t d) : ∃ f, Sel t d f := by
 induction h with
 | bool t b hu => exact ⟨0, fun e => (by subst e; rw [show Tryz.prog.underlying 42 = _ from Tryz.underlying42] at hu; cases hu), fun e => (by subst e; rw [show Tryz.prog.underlying 45 = _ from Tryz.underlying45] at hu; cases hu), fun e => (by subst e; rw [show Tryz.prog.underlying 48 = _ from Tryz.underlying48] at hu; cases hu), fun e => (by subst e; rw [Tryz.underlying43] at hu; cases hu), fun e => (by subst e; rw [Tryz.underlying46] at hu; cases hu), fun e => (by subst e; rw [Tryz.underlying23] at hu; cases hu)⟩
 | int t k n hu _ => exact ⟨0, fun e => (by subst e; rw [Tryz.underlying42] at hu; cases hu), fun e => (by subst e; rw [Tryz.underlying45] at hu; cases hu), fun e => (by subst e; rw [Tryz.underlying48] at hu; cases hu), fun e => (by subst e; rw [Tryz.underlying43] at hu; cases hu), fun e => (by subst e; rw [Tryz.underlying46] at hu; cases hu), fun e => (by subst e; rw [Tryz.underlying23] at hu; cases hu)⟩
 | str t l hu _ => exact ⟨0, fun e => (by subst e; rw [Tryz.underlying42] at hu; cases hu), fun e => (by subst e; rw [Tryz.underlying45] at hu; cases hu), fun e => (by subst e; rw [Tryz.underlying48] at hu; cases hu), fun e => (by subst e; rw [Tryz.underlying43] at hu; cases hu), fun e => (by subst e; rw [Tryz.underlying46] at hu; cases hu), fun e => (by subst e; rw [Tryz.underlying23] at hu; cases hu)⟩
 | list t e es hu hl _ ih =>
  obtain ⟨f, hf⟩ := max_of (R := fun d f => Sel e d f) (fun a i j h hij => h.up hij) es ih
  have hl' : es.length * Tryz.prog.bytesOf e ≤ 140737488355328 := Nat.le_trans hl reach_le
  refine ⟨f, fun e => (by subst e; rw [Tryz.underlying42] at hu; cases hu), fun e => (by subst e; rw [Tryz.underlying45] at hu; cases hu), fun e => (by subst e; rw [Tryz.underlying48] at hu; cases hu), fun e0 => ?_, fun e0 => ?_, fun e0 => ?_⟩
  ·subst e0
   rw [Tryz.underlying43] at hu
   cases hu
   exact ⟨es, rfl, le_of_mul hl' (by decide +kernel), fun s hs => (hf s hs).1 rfl⟩
  ·subst e0
   rw [Tryz.underlying46] at hu
   cases hu
   exact ⟨es, rfl, le_of_mul hl' (by decide +kernel), fun s hs => (hf s hs).2.1 rfl⟩
  ·subst e0
   rw [Tryz.underlying23] at hu
   cases hu
   refine ⟨es, rfl, ?_⟩
   simp only [lsOk, lenB, Bool.and_eq_true, decide_eq_true_eq, List.all_eq_true]
   exact ⟨le_of_mul hl' (by decide +kernel), fun s hs => (hf s hs).2.2.1 rfl⟩
 | agg t fs ds hu hl hds ih =>
  have hty : TyD Tryz.prog t (.agg (ds.flatMap dcells)) := .agg t fs ds hu hl hds
  have at_ : ∀ (ts : List TypeId), fieldTs Tryz.prog t = some ts → ds.length = ts.length ∧ ∀ (i : Nat) (u : TypeId) (d : D), ts[i]? = some u → ds[i]? = some d → TyD Tryz.prog u d ∧ ∃ f, Sel u d f := by
   intro ts hts
   have e := fts t ts hu hts
   refine ⟨by rw [hl, ← e]; simp, fun i u d hi hd => ?_⟩
   rw [← e, List.getElem?_map] at hi
   obtain ⟨f, hf1, rfl⟩ := Option.map_eq_some_iff.1 hi
   exact ⟨hds i f d (by simpa using hf1) hd, ih i f d (by simpa using hf1) hd⟩
  by_cases t42 : t = 42
  ·subst t42
   obtain ⟨hlen, hh⟩ := at_ [3, 3, 9, 9, 38, 3, 40, 23] (by kernel_rfl)
   match ds, hlen with
   | [x0, x1, x2, x3, x4, x5, x6, x7], _ =>
    obtain ⟨kd, rfl, _⟩ := int_ok Tryz.underlying3 (hh 0 _ _ rfl rfl).1
    obtain ⟨ns, rfl, _⟩ := int_ok Tryz.underlying3 (hh 1 _ _ rfl rfl).1
    obtain ⟨pre, rfl, h2⟩ := str_ok Tryz.underlying9 (hh 2 _ _ rfl rfl).1
    obtain ⟨nm, rfl, h3⟩ := str_ok Tryz.underlying9 (hh 3 _ _ rfl rfl).1
    obtain ⟨cd, rfl, c1, c2⟩ := agg_ok' (ts := [3, 9, 4]) (by kernel_rfl) (hh 4 _ _ rfl rfl).1
    obtain ⟨mk, rfl, _⟩ := int_ok Tryz.underlying3 (hh 5 _ _ rfl rfl).1
    obtain ⟨ad, rfl, a1, a2⟩ := agg_ok' (ts := [3, 3]) (by kernel_rfl) (hh 6 _ _ rfl rfl).1
    obtain ⟨f, hf⟩ := (hh 7 _ _ rfl rfl).2
    obtain ⟨l, rfl, hls⟩ := hf.2.2.2.2.2 rfl
    match cd, c1, ad, a1 with
    | [y0, y1, y2], _, [z0, z1], _ =>
     obtain ⟨op, rfl, _⟩ := int_ok Tryz.underlying3 (c2 0 _ _ rfl rfl)
     obtain ⟨tx, rfl, h5⟩ := str_ok Tryz.underlying9 (c2 1 _ _ rfl rfl)
     obtain ⟨fold, rfl⟩ := bool_ok Tryz.underlying4 (c2 2 _ _ rfl rfl)
     obtain ⟨a, rfl, _⟩ := int_ok Tryz.underlying3 (a2 0 _ _ rfl rfl)
     obtain ⟨b, rfl, _⟩ := int_ok Tryz.underlying3 (a2 1 _ _ rfl rfl)
     refine ⟨f + 1, fun _ => ?_, fun e => (by cases e), fun e => (by cases e), fun e => (by cases e), fun e => (by cases e), fun e => (by cases e)⟩
     show (decide (pre.length ≤ MB) && decide (nm.length ≤ MB) && decide (tx.length ≤ MB) && lsOk MB (smOk MB f) l) = true
     simp only [Bool.and_eq_true, decide_eq_true_eq]
     exact ⟨⟨⟨h2, h3⟩, h5⟩, hls⟩
  ·by_cases t45 : t = 45
   ·subst t45
    obtain ⟨hlen, hh⟩ := at_ [3, 43] (by kernel_rfl)
    match ds, hlen with
    | [x0, x1], _ =>
     obtain ⟨cc, rfl, _⟩ := int_ok Tryz.underlying3 (hh 0 _ _ rfl rfl).1
     obtain ⟨f, hf⟩ := (hh 1 _ _ rfl rfl).2
     obtain ⟨l, rfl, h1, h2⟩ := hf.2.2.2.1 rfl
     refine ⟨f, fun e => (by cases e), fun _ => ?_, fun e => (by cases e), fun e => (by cases e), fun e => (by cases e), fun e => (by cases e)⟩
     show (decide (l.length ≤ MB) && l.all (smOk MB f)) = true
     simp only [Bool.and_eq_true, decide_eq_true_eq, List.all_eq_true]
     exact ⟨h1, h2⟩
   ·by_cases t48 : t = 48
    ·subst t48
     obtain ⟨hlen, hh⟩ := at_ [46] (by kernel_rfl)
     match ds, hlen with
     | [x0], _ =>
      obtain ⟨f, hf⟩ := (hh 0 _ _ rfl rfl).2
      obtain ⟨l, rfl, h1, h2⟩ := hf.2.2.2.2.1 rfl
      refine ⟨f, fun e => (by cases e), fun e => (by cases e), fun _ => ?_, fun e => (by cases e), fun e => (by cases e), fun e => (by cases e)⟩
      show (decide (l.length ≤ MB) && l.all (cpOk MB (smOk MB f))) = true
      simp only [Bool.and_eq_true, decide_eq_true_eq, List.all_eq_true]
      exact ⟨h1, h2⟩
    ·refine ⟨0, fun e => absurd e t42, fun e => absurd e t45, fun e => absurd e t48, fun e => ?_, fun e => ?_, fun e => ?_⟩
     ·subst e; rw [Tryz.underlying43] at hu; cases hu
     ·subst e; rw [Tryz.underlying46] at hu; cases hu
     ·subst e; rw [Tryz.underlying23] at hu; cases hu
theorem sels_ok {d : D} (h : TyD Tryz.prog 23 d) : ∃ f l, d = .list l ∧ lsOk MB (smOk MB f) l = true := by
 obtain ⟨f, hf⟩ := sel_ok h
 obtain ⟨l, h1, h2⟩ := hf.2.2.2.2.2 rfl
 exact ⟨f, l, h1, h2⟩
def us12 : List TypeId := [3, 4, 9, 24, 97, 69, 71, 22, 38, 40, 42, 43, 45, 46, 48, 23, 26, 51]
theorem us12_ok : okTs Tryz.prog us12 = true := by kernel_rfl
theorem witness11 {H : Type} (enc : TypeId × Value → H) (os : Os) (args : Array Value) : laidMetH Tryz.prog laid11 ((World.laidAll Tryz.prog os laid11).forCall (fun _ _ => 0) ⟨#[], args, []⟩).memory := by
 rw [MakeChecks.laidMetH_plain _ _ _ (by kernel_rfl)]
 exact laidMet_laidAll _ (by kernel_rfl) (by kernel_rfl)
end Go.Proofs.YtcogfddcdpgpkaaGreatDoor
namespace Go.Av
open Go.Proofs
variable [Rk] {chk : List D → Bool}
set_option maxHeartbeats 1000000 in
theorem rpseudo_L {k : Nat} (c : D) (h : cxOk 100 (smOk 100 (k + 1)) c = true) : callL Tryz.prog (ext11b chk) 46 [c] [] = some (.str (pseudoF c), [.no], []) := by
 obtain ⟨l, rfl, hl, hx⟩ := cxOk_inv h
 unfold pseudoF cxD cxL
 dsimp only
 cases hL : l.getLast? with
 | none =>
  rw [List.getLast?_eq_none_iff] at hL
  subst hL
  clear hx hl h
  exact cWy 44 2 Tryz.func46
 | some x =>
  obtain ⟨cc, sl, rfl, hsl, hs⟩ := cpOk_inv (hx x (List.mem_of_getLast? hL))
  obtain ⟨hg, h0⟩ := last_getD hL
  have h0' := ne0 h0
  have hw := wrapL (by omega) h0
  have hlt : ((l.length - 1 : Nat) : Int) < l.length := by omega
  have hge : (0 : Int) ≤ ((l.length - 1 : Nat) : Int) := by omega
  clear hL hx h hl
  unfold cpD at hg ⊢
  simp only [cpL]
  cases hS : sl.getLast? with
  | none =>
   rw [List.getLast?_eq_none_iff] at hS
   subst hS
   clear hs hsl
   exact cWy 44 2 Tryz.func46
  | some s =>
   obtain ⟨e, _⟩ := smOk_inv (hs s (List.mem_of_getLast? hS))
   obtain ⟨sg, s0⟩ := last_getD hS
   have s0' := ne0 s0
   have sw := wrapL (by omega) s0
   have slt : ((sl.length - 1 : Nat) : Int) < sl.length := by omega
   have sge : (0 : Int) ≤ ((sl.length - 1 : Nat) : Int) := by omega
   rw [e] at sg
   show callL Tryz.prog (ext11b chk) 46 [.agg [.list l]] [] = some (.str (if (sf s).kd = 13 then (sf s).nm else []), [.no], [])
   clear hS hs hsl
   generalize sf s = S at *
   clear e
   unfold Sf.d at sg
   by_cases hk : S.kd = 13
   ·rw [if_pos hk]
    obtain ⟨k1, k2, k3⟩ := eqI hk
    clear hk
    exact cWy 44 2 Tryz.func46
   ·rw [if_neg hk]
    obtain ⟨k1, k2, k3⟩ := neI hk
    clear hk
    exact cWy 44 2 Tryz.func46
def slotP (s : St) (j : Nat) : Nat := match s.slot j with | .int _ i => (i + 1).toNat | _ => 0
theorem nd_at {ns : List Nd} {n : Int} (he : elB ns n = true) : ∃ (i : Nat) (x : Nd), n = (i : Int) ∧ i < ns.length ∧ ns[i]? = some x ∧ pAt ns i = x.p ∧ kAt ns i = x.k ∧ (ns.map Nd.d).getD i .bad = .agg [.int .i64 x.p, .int .i64 x.k, .str x.sp, .str x.nm, .list (x.at_.map At.d), .list (x.st.map .str), .str x.tx] := by
 obtain ⟨h0, h1, hk⟩ := elB_nat he
 obtain ⟨x, hx⟩ := some_at (show n.toNat < ns.length by omega)
 refine ⟨n.toNat, x, by omega, by omega, hx, by unfold pAt; rw [hx], by unfold kAt; rw [hx], ?_⟩
 have := getD_map (f := Nd.d) hx
 rw [ndat] at this
 exact this
set_option maxHeartbeats 8000000 in
theorem stands1_L (ns : List Nd) (a b : Int) (hS : ns.length ≤ 10000) (hR : RightT ns) (hb : elB ns b = true) :
  callL Tryz.prog (ext11b chk) 47 [.list (ns.map Nd.d), .int .i64 a, .int .i64 b, .int .i64 1] [] = some (.bool ((upsI ns (b.toNat + 1) b).any (· == a)), [.no], []) := by
 obtain ⟨R, hRe⟩ : ∃ R, Hd (R = (upsI ns (b.toNat + 1) b).any (· == a)) := ⟨_, rfl⟩
 rw [← (show R = (upsI ns (b.toNat + 1) b).any (· == a) from hRe)]
 have lN := lenM ns Nd.d
 obtain ⟨i, x, rfl, hi, hx, hp, hk, hg⟩ := nd_at hb
 have g1 : (i : Int) < ns.length := by omega
 have HB := Hd.mk hb
 have HS := Hd.mk hS
 have HP := Hd.mk hp
 have HR := Hd.mk hR
 clear hb hS hp hR hx hk
 generalize x.at_.map At.d = XA at *
 generalize x.st.map D.str = XS at *
 refine cK 73 8 Tryz.func47 ?_
 refine Gy ?_
 clear hg g1
 refine loopH (fun st => ∃ (m : Int) (f : Nat), elB ns m = true ∧ st.slot 9 = .int .i64 (pAt ns m.toNat) ∧ st.slot 0 = .list (ns.map Nd.d) ∧ st.slot 1 = .int .i64 a ∧ m.toNat ≤ f ∧ Hd (R = (upsI ns (f + 1) m).any (· == a))) (fun st => slotP st 9) ?_ ?_
 ·have hp : pAt ns i = x.p := HP
  refine ⟨(i : Int), i, HB, ?_, ?_, ?_, by simp, hRe⟩
  all_goals simp only [*, Int.toNat_natCast, AVB, AVY, ↓reduceIte, Nat.reduceEqDiff, Nat.reduceLT, Nat.reduceLeDiff, reduceCtorEq, Nat.reduceBEq, String.reduceBEq, Nat.reduceAdd, Nat.reduceSub, Nat.reduceMul, Int.reduceLE, Int.reduceLT, Int.reduceToNat, Int.reduceBEq, Int.reduceBNe, List.zipWith, dIntBin]
  all_goals rfl
 ·rintro st K ⟨m, f, hm, g9, g0, g1, hf, hO⟩ hn hx hr
  have hO' : R = (upsI ns (f + 1) m).any (· == a) := hO
  have hS : ns.length ≤ 10000 := HS
  by_cases h0 : 0 ≤ pAt ns m.toNat
  ·have hpar : parI ns m = (pAt ns m.toNat, true) := by
    unfold parI
    rw [if_pos ⟨hm, h0⟩]
   rw [upsI, if_pos (by rw [hpar]), hpar] at hO'
   obtain ⟨h3, h4⟩ := (show RightT ns from HR).par m hm (by rw [hpar])
   rw [hpar] at h3 h4
   dsimp only at hO' h3 h4
   rw [List.any_cons] at hO'
   obtain ⟨j, y, hj, hjl, hy, hp2, hk2, hg2⟩ := nd_at h3
   rw [hj] at hO' h3 h4 g9 h0
   have k1 : (j : Int) < ns.length := by omega
   obtain ⟨f', rfl⟩ : ∃ f', f = f' + 1 := ⟨f - 1, by have := (elB_nat hm).1; omega⟩
   have hfj : j ≤ f' := by have := (elB_nat hm).1; omega
   generalize y.at_.map At.d = YA at *
   generalize y.st.map D.str = YS at *
   cases hq : ((j : Int) == a) with
   | true =>
    rw [hq, Bool.true_or] at hO'
    subst hO'
    clear hn hx hO hm hS hRe hpar h3 h4 hj hy hp2 hk2
    refine Gy ?_
    exact hr _ Wy
   | false =>
    rw [hq, Bool.false_or] at hO'
    have HO := Hd.mk hO'
    have HP2 := Hd.mk hp2
    have H3 := Hd.mk h3
    have HY := Hd.mk (show y.p < (j : Int) ∨ y.p < 0 from by
     by_cases e : 0 ≤ pAt ns j
     ·have hp3 : parI ns (j : Int) = (pAt ns j, true) := by
       unfold parI
       rw [Int.toNat_natCast, if_pos ⟨h3, e⟩]
      obtain ⟨_, h6⟩ := (show RightT ns from HR).par (j : Int) h3 (by rw [hp3])
      rw [hp3] at h6
      dsimp only at h6
      omega
     ·omega)
    clear hr hx hO hO' hm hS hRe hpar h3 h4 hj hy hp2 hk2
    refine Gy ?_
    refine hn _ ⟨(j : Int), f', H3, ?_, ?_, ?_, by simpa using hfj, HO⟩ ?_
    ·rw [Int.toNat_natCast, show pAt ns j = y.p from HP2]
     simp only [*, AVB, AVY, ↓reduceIte, Nat.reduceEqDiff, Nat.reduceLT, Nat.reduceLeDiff, reduceCtorEq, Nat.reduceBEq, String.reduceBEq, Nat.reduceAdd, Nat.reduceSub, Nat.reduceMul, Int.reduceLE, Int.reduceLT, Int.reduceToNat, Int.reduceBEq, Int.reduceBNe, List.zipWith, dIntBin]
    ·exact L
    ·exact L
    ·have hyy : y.p < (j : Int) ∨ y.p < 0 := HY
     simp only [slotP, *, AVB, AVY, ↓reduceIte, Nat.reduceEqDiff, Nat.reduceLT, Nat.reduceLeDiff, reduceCtorEq, Nat.reduceBEq, String.reduceBEq, Nat.reduceAdd, Nat.reduceSub, Nat.reduceMul, Int.reduceLE, Int.reduceLT, Int.reduceToNat, Int.reduceBEq, Int.reduceBNe, List.zipWith, dIntBin]
     omega
  ·have hpar : (parI ns m).2 = false := by
    unfold parI
    rw [if_neg (fun h => h0 h.2)]
   rw [upsI, if_neg (by rw [hpar]; decide)] at hO'
   have hO2 : R = false := hO'
   subst hO2
   clear hn hr hO hO' hm hS hRe hpar
   refine Gy ?_
   exact hx _ _ Wy
end Go.Av
namespace Go.Av
open Go.Proofs
variable [Rk] {chk : List D → Bool}
def roomOf (l : List Int) : Room := if l = [] then .full else .own 3
theorem room_ok (l : List Int) : roomOf l = .full ∨ roomOf l = .own 3 ∨ roomOf l = .fresh := by
 unfold roomOf
 split
 ·exact .inl rfl
 ·exact .inr (.inl rfl)
theorem room_app (l : List Int) (z : Int) : roomOf (l ++ [z]) = .own 3 := by simp [roomOf]
def elL (ns : List Nd) : Nat → List Int
 | 0 => []
 | k + 1 => if kAt ns k = 1 then elL ns k ++ [(k : Int)] else elL ns k
theorem elF_elL {ns : List Nd} : ∀ {k : Nat}, k ≤ ns.length → elF (ns.map Nd.d) k = elL ns k
 | 0, _ => rfl
 | k + 1, h => by
  obtain ⟨e1, e2⟩ := ndK_at (ns := ns) (k := k) h
  rw [elF, elL, e1, elF_elL (Nat.le_of_succ_le h)]
theorem elL_len {ns : List Nd} : ∀ {m : Nat}, (elL ns m).length ≤ m
 | 0 => Nat.le_refl _
 | m + 1 => by
  have := elL_len (ns := ns) (m := m)
  rw [elL]
  split
  ·simp; omega
  ·omega
theorem treeN_E (ns : List Nd) : ∃ M P, treeN ns = .fix (.agg [.list (ns.map Nd.d), .list ((elL ns ns.length).map (.int .i64)), M, P]) 0 := by
 refine ⟨.imap ((ns.map Nd.d).map ndP) ((ns.map Nd.d).map fun e => i64s (rowF (ns.map Nd.d) (ndP e) (ns.map Nd.d).length)), i64s (plF (ns.map Nd.d) ns.length), ?_⟩
 unfold treeN treeD
 rw [List.length_map, elF_elL (Nat.le_refl _)]
 rfl
theorem elements_L (ns : List Nd) (hS : ns.length ≤ 10000) : callL Tryz.prog (ext11b chk) 35 [treeN ns] [] = some (.list ((elL ns ns.length).map (.int .i64)), [.no], []) := by
 obtain ⟨M, P, ht⟩ := treeN_E ns
 rw [ht]
 clear ht
 have hl := elL_len (ns := ns) (m := ns.length)
 have hc := clone_L (chk := chk) (elL ns ns.length) (by omega)
 generalize (elL ns ns.length).map (D.int .i64) = Z at *
 clear hl
 exact cW 8 2 Tryz.func35
theorem sz1b (l : List Int) : szOk 1 (l.map (D.int .i64)) = true := by cases l <;> rfl
set_option maxHeartbeats 8000000 in
theorem rrow_L (ns : List Nd) (n : Int) (hS : ns.length ≤ 10000) : callL Tryz.prog (ext11b chk) 77 [.list (ns.map Nd.d), .int .i64 n] [] = some (.list ((rowI ns n).map (.int .i64)), [roomOf (rowI ns n)], []) := by
 have hE := relem_L (chk := chk) ns n
 have lN := lenM ns Nd.d
 unfold rowI
 cases he : elB ns n with
 | false =>
  rw [he] at hE
  rw [if_neg (by simp)]
  have hr0 : roomOf [] = .full := rfl
  clear he hS
  refine cK 42 4 Tryz.func77 ?_
  refine G ?_
  refine loopH (fun st => st.slot 0 = .list (ns.map Nd.d) ∧ st.slot 1 = .int .i64 n ∧ st.slot 6 = .int .i64 0 ∧ st.slot 5 = .list [] ∧ st.room 5 = [.full]) (fun st => 0) ?_ ?_
  ·exact ⟨I, I, I, I, I⟩
  ·rintro st K ⟨g0, g1, g6, g5, r5⟩ hn hx hr
   clear hn hr
   refine G ?_
   exact hx _ _ W
 | true =>
  rw [he] at hE
  obtain ⟨i, rfl, hi, hk⟩ := elB_at (ns := ns) (n := n) he
  obtain ⟨x, hx⟩ := some_at hi
  have ha := getD_map (f := Nd.d) hx
  rw [ndat] at ha
  have g9 : (i : Int) < ns.length := by omega
  have tn : (i : Int).toNat = i := by omega
  have hp : pAt ns i = x.p := by unfold pAt; rw [hx]
  rw [if_pos rfl, tn, hp]
  have HI := Hd.mk hi
  have HS := Hd.mk hS
  clear hk he hx hp hi hS
  generalize x.at_.map At.d = LA at *
  generalize x.st.map D.str = LS at *
  generalize x.k = xk at *
  generalize x.sp = xsp at *
  generalize x.nm = xnm at *
  generalize x.tx = xtx at *
  generalize x.p = key at *
  refine cK 42 4 Tryz.func77 ?_
  refine G ?_
  refine loopH (fun st => ∃ m : Nat, m ≤ i + 1 ∧ st.slot 6 = .int .i64 m ∧ st.slot 0 = .list (ns.map Nd.d) ∧ st.slot 1 = .int .i64 i ∧ st.slot 5 = .list ((rowL ns key m).map (.int .i64)) ∧ st.room 5 = [roomOf (rowL ns key m)]) (fun st => i + 1 - slotI st 6) ?_ ?_
  ·exact ⟨0, Nat.zero_le _, I, I, I, I, I⟩
  ·rintro st K ⟨m, hm, g6, g0, g1, g5, r5⟩ hn hx hr
   have hi : i < ns.length := HI
   have hS : ns.length ≤ 10000 := HS
   by_cases h : m < i + 1
   ·have gm : (m : Int) ≤ i := by omega
    have gm2 : (m : Int) < ns.length := by omega
    have hw := wrapS m (by omega)
    obtain ⟨y, hy⟩ := some_at (show m < ns.length by omega)
    have hb := getD_map (f := Nd.d) hy
    rw [ndat] at hb
    have hpk : kAt ns m = y.k ∧ pAt ns m = y.p := by unfold kAt pAt; rw [hy]; exact ⟨rfl, rfl⟩
    have hrl := rowL_len (ns := ns) (key := key) (m := m)
    have hro := room_ok (rowL ns key m)
    have hra := room_app (rowL ns key m) m
    have hsz := sz1b (rowL ns key m)
    have hs1 : szOk 1 [D.int .i64 (m : Int)] = true := rfl
    have hl1 : ((rowL ns key m).map (D.int .i64)).length + 1 ≤ 1073741824 := by rw [List.length_map]; omega
    have hl2 : ((rowL ns key m).map (D.int .i64)).length ≤ 1073741823 := by rw [List.length_map]; omega
    have hre : rowL ns key (m + 1) = if y.k = 1 ∧ y.p = key then rowL ns key m ++ [(m : Int)] else rowL ns key m := by rw [rowL, hpk.1, hpk.2]
    clear hy hpk hrl hi hS hx hr
    generalize y.at_.map At.d = YA at *
    generalize y.st.map D.str = YS at *
    generalize y.k = yk at *
    generalize y.p = yp at *
    by_cases c1 : yk = 1
    ·by_cases c2 : yp = key
     ·rw [if_pos ⟨c1, c2⟩] at hre
      subst c1 c2
      repeat' (first|simp only [*, AVB, ↓reduceIte, Nat.reduceEqDiff, Nat.reduceLT, reduceCtorEq, Nat.reduceBEq, Nat.reduceAdd, dIntBin]|refine drW_intro (by kernel_rfl) ?_)
      refine hn _ ⟨m + 1, h, ?_, ?_, ?_, ?_, ?_⟩ ?_
      ·exact L
      ·exact L
      ·exact L
      ·simp only [*, List.map_append, AVB, ↓reduceIte, Nat.reduceEqDiff]
      ·exact L
      ·have hgt : m < i + 1 := h
       simp only [slotI, *, AVB, ↓reduceIte]
       omega
     ·rw [if_neg (fun h => c2 h.2)] at hre
      have b2 : (yp == key) = false := by simpa using c2
      subst c1
      clear c2 hra hs1 hl1 hl2 hsz hro
      repeat' (first|simp only [*, AVB, ↓reduceIte, Nat.reduceEqDiff, Nat.reduceLT, reduceCtorEq, Nat.reduceBEq, Nat.reduceAdd, dIntBin]|refine drW_intro (by kernel_rfl) ?_)
      refine hn _ ⟨m + 1, h, ?_, ?_, ?_, ?_, ?_⟩ ?_
      ·exact L
      ·exact L
      ·exact L
      ·simp only [*, AVB, ↓reduceIte, Nat.reduceEqDiff]
      ·exact L
      ·have hgt : m < i + 1 := h
       simp only [slotI, *, AVB, ↓reduceIte]
       omega
    ·rw [if_neg (fun h => c1 h.1)] at hre
     have b1 : (yk == 1) = false := by simpa using c1
     clear c1 hra hs1 hl1 hl2 hsz hro
     repeat' (first|simp only [*, AVB, ↓reduceIte, Nat.reduceEqDiff, Nat.reduceLT, reduceCtorEq, Nat.reduceBEq, Nat.reduceAdd, dIntBin]|refine drW_intro (by kernel_rfl) ?_)
     refine hn _ ⟨m + 1, h, ?_, ?_, ?_, ?_, ?_⟩ ?_
     ·exact L
     ·exact L
     ·exact L
     ·simp only [*, AVB, ↓reduceIte, Nat.reduceEqDiff]
     ·exact L
     ·have hgt : m < i + 1 := h
      simp only [slotI, *, AVB, ↓reduceIte]
      omega
   ·obtain rfl : m = i + 1 := by omega
    have gm : ¬ ((i + 1 : Nat) : Int) ≤ i := by omega
    clear hn hr hi hS h
    refine G ?_
    exact hx _ _ W
end Go.Av
