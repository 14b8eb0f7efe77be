/- Chapter 6: the blank of chars.Names, at the model. -/
import Derived.Test.YtcblgonlgnhgmaaAv6wa
import Derived.Test.YtcblgonlgnhgmaaAv6w
import Derived.Test.YtcblgonlgnhgmaaAv6z
import Derived.Deep.QuietTactic
import Derived.BigQuiet
set_option linter.unusedVariables false
set_option linter.unusedSimpArgs false
namespace Go.Av
open Go.Proofs Go.RowKit
theorem pred35 (x : Nat) (hx : x ≤ 1114111) (W : World) : FnGives Try.prog 35 #[] #[encR x] (.bool (pB x)) W := by
  unfold FnGives encR
  have hw : IntKind.u8.wrap (x : Int) = ((x % 256 : Nat) : Int) := by simp [IntKind.wrap, IntKind.signed, IntKind.bits]
  by_cases h : x < 128
  · have h1 : ((x : Int) < 128) := by omega
    have hwx : x % 256 = x := by omega
    rw [hwx] at hw
    go_enter Try.func35, Try.ntmps35
    go_wp2_with (first
      | (go_at_call 36; refine (Any.strings_IndexByte Try.laysIB _ _ _).mono ?_; rintro e w' ⟨rfl, rfl⟩))
    go_ret
    refine ⟨?_, 0, rfl⟩
    rw [index_idxB]
    unfold pB
    rw [decide_eq_true h]
    simp
  · have h1 : ¬ ((x : Int) < 128) := by omega
    go_enter Try.func35, Try.ntmps35
    go_wp2_with fail
    go_ret
    refine ⟨?_, 0, rfl⟩
    unfold pB
    rw [decide_eq_false h]
    rfl
theorem enter_of {P : Program} (hP : Fine P) {f : FuncId} (h : ∃ fn, P.funcs[f]? = some fn ∧ fn.body.isSome = true) (args : Array Value) (w : World) : (callFunc f args).run P w = .ok (.enter f args) w := by
  obtain ⟨fn, hf, hb⟩ := h
  have hnm := hP.names f fn hf
  have hb' : fn.body.isNone = false := by cases hfb : fn.body <;> simp_all
  simp only [callFunc, Sem.run_bind]
  simp [program, Sem.run, hf, hnm, hb', Result.andThen]
theorem runes35 (w : World) : PredAtRunes Try.prog 35 #[] pB w := fun W x hx _ => pred35 x hx W
theorem ext25 (s t : List UInt8) (hs : s.length < 4294967281) {vals : List Value} {w : World} {F : Nat → Nat → Prop} {μ : Nat → Nat} (hl : vals.length = [D.str s, .str t].length)
    (h : ∀ (i : Nat) (v : Value) (x : D), vals[i]? = some v → [D.str s, .str t][i]? = some x → Den 1 (argNu μ) F w v x) (hlt : Lt F w) (hg : GOK F w) :
    Calls Try.prog 25 vals.toArray w (Ret Try.prog 0 μ F w (.bool (hasB t s)) [] []) := by
  obtain ⟨v1, v2, rfl, h1, h2⟩ := two_args hl h
  rw [h1.str_, h2.str_]
  obtain ⟨d, ⟨m, rfl⟩, hd⟩ := hg.2 (0, fun d => ∃ m : Int, d = .fix (.int .i64 m) 0) (by show _ ∈ [_]; simp)
  have hm : w.cell? ⟨0, 0, none⟩ = some (.int .i64 m) := by
    generalize hp : Value.pointer (some ⟨(0, fun d => ∃ m : Int, d = D.fix (.int .i64 m) 0).1, 0, none⟩) = p at hd
    cases hd with
    | fix d b o off vs h1 h2 h3 =>
      simp only [Value.pointer.injEq, Option.some.injEq, Addr.mk.injEq, and_true] at hp
      obtain ⟨rfl, ho⟩ := hp
      have ho : o = 0 := by omega
      subst ho
      match vs, h1 with
      | [v], _ =>
        have h4 := h3 0 v _ rfl rfl
        have h5 := (h2 0 v rfl).2.1
        cases h4
        exact h5
  have hc : Calls Try.prog 25 #[.string ⟨s.toArray⟩, .string ⟨t.toArray⟩] w _ := Any.strings_Contains Try.laysCo ⟨s.toArray⟩ ⟨t.toArray⟩ m w hs hm
  refine hc.mono ?_
  rintro e w' ⟨rfl, rfl⟩
  rw [has_contains]
  exact ret_same (.bool _) hlt
theorem ext34 (s : List UInt8) (hs : s.length ≤ 4294967296) {vals : List Value} {w : World} {F : Nat → Nat → Prop} {μ : Nat → Nat} (hl : vals.length = [D.str s, .func (.func 35) [] []].length)
    (h : ∀ (i : Nat) (v : Value) (x : D), vals[i]? = some v → [D.str s, .func (.func 35) [] []][i]? = some x → Den 1 (argNu μ) F w v x) (hlt : Lt F w) :
    Calls Try.prog 34 vals.toArray w (Ret Try.prog 0 μ F w (.list ((partsB s []).map .str)) [] []) := by
  obtain ⟨v1, v2, rfl, h1, h2⟩ := two_args hl h
  have h2' : v2 = .func (.func 35) #[] #[] := by
    cases h2 with
    | pure v d hp => cases hp with | func fn fs cs f c e1 e2 => cases fs <;> cases cs <;> simp_all
    | func fn fs cs f c e1 e2 => cases fs <;> cases cs <;> simp_all
  rw [h1.str_, h2']
  have hc : Calls Try.prog 34 #[.string ⟨s.toArray⟩, .func (.func 35) #[] #[]] w _ :=
    Any.strings_FieldsFunc_runes Try.laysFF 35 #[] (enter_of fine6 ⟨_, Try.func35, rfl⟩) pB ⟨s.toArray⟩ w hs (runes35 w) (by kernel_rfl) (by kernel_rfl)
  refine hc.mono ?_
  rintro e w' ⟨A, rfl, hA, hown, hb⟩
  generalize hP : Lib.goFieldsP pB ⟨s.toArray⟩ = ps at hown ⊢
  have hps : (ps.map (·.data.toList)) = partsB s [] := by rw [← hP]; exact fields_parts s
  rcases hown with ⟨hl1, ⟨hz, _⟩ | ⟨g, cap, cur, he, hg0, hblk, hle, hcm, hsz, htk⟩⟩
  · cases hz
  simp only [Value.slice.injEq, Option.some.injEq, Addr.mk.injEq, and_true] at he
  obtain ⟨rfl, -, rfl⟩ := he
  rw [Nat.mul_one] at htk hsz
  have hAlt : A < w'.heap.size := (Array.getElem?_eq_some_iff.1 hblk).1
  have hcell : ∀ (i : Nat) (v : Value), (ps.map Value.string)[i]? = some v → w'.cell? ⟨A, 0 + i, none⟩ = some v ∧ v.oneCell' = true := by
    intro i v hv
    rw [Nat.zero_add]
    refine ⟨?_, ?_⟩
    · rw [← htk, List.getElem?_take] at hv
      split at hv
      · unfold World.cell?
        simp only [hblk]
        simpa using hv
      · cases hv
    · obtain ⟨p, _, rfl⟩ := List.mem_map.1 (List.mem_of_getElem? hv)
      rfl
  refine ⟨_, fun b o => F b o ∨ b = A, fun _ => none, rfl, ?_, ?_, ?_, .inl ⟨rfl, fun c ν => .pure _ _ ?_, rooms_nil⟩, fun i g h => (by cases h), fun i i' g h => (by cases h), fun i bx hi => absurd hi (Nat.not_lt_zero i)⟩
  · refine ⟨hb.os, hb.tape, hb.output, hb.size, fun b hb1 _ => hb.block b hb1, fun b o hf => .inl hf, fun b o hf => ?_⟩
    unfold World.cell?
    rw [hb.block b (hlt b o hf)]
  · rintro b o (hf | rfl)
    · exact Nat.lt_of_lt_of_le (hlt b o hf) hb.size
    · exact hAlt
  · rintro b o (hf | rfl)
    · exact .inl hf
    · exact .inr hA
  · refine .list _ _ _ 1 _ (ps.map Value.string) (by rw [← hps]; simp) (Nat.le_refl _) (Nat.lt_succ_self 0) ?_ (by simp) (.inr ⟨A, 0, rfl, fun i v hv => ⟨.inr rfl, hcell i v hv⟩⟩) ?_
    · intro e he
      obtain ⟨x, _, rfl⟩ := List.mem_map.1 he
      rfl
    · intro i v x hv hx
      have hfl : flat ((partsB s []).map .str) = (partsB s []).map .str := by
        unfold flat
        rw [List.flatMap_map]
        generalize partsB s [] = l
        induction l with
        | nil => rfl
        | cons a r ih => rw [List.flatMap_cons, ih]; rfl
      rw [hfl, ← hps] at hx
      simp only [List.getElem?_map, Option.map_eq_some_iff] at hv hx
      obtain ⟨p, hp, rfl⟩ := hv
      obtain ⟨q, ⟨p', hp', rfl⟩, rfl⟩ := hx
      rw [hp] at hp'
      obtain rfl := Option.some.inj hp'
      have := Den0.str (F := fun b o => F b o ∨ b = A) (w := w') p.data.toList
      simpa using this
theorem ext6_ok : CallOK Try.prog ext6 := by
  intro f args pbs d r pbs' h
  unfold ext6 at h
  split at h
  · simp only [Option.some.injEq, Prod.mk.injEq] at h
    obtain ⟨rfl, rfl, rfl⟩ := h
    exact ⟨⟨_, Try.func36, rfl⟩, fun vals w F μ hl hd _ _ hlt _ => ext36 _ _ hl hd hlt⟩
  · split at h
    · rename_i hs
      simp only [Option.some.injEq, Prod.mk.injEq] at h
      obtain ⟨rfl, rfl, rfl⟩ := h
      exact ⟨⟨_, Try.func25, rfl⟩, fun vals w F μ hl hd _ _ hlt hg => ext25 _ _ hs hl hd hlt hg⟩
    · cases h
  · split at h
    · rename_i hs
      simp only [Option.some.injEq, Prod.mk.injEq] at h
      obtain ⟨rfl, rfl, rfl⟩ := h
      exact ⟨⟨_, Try.func34, rfl⟩, fun vals w F μ hl hd _ _ hlt hg => ext34 _ hs hl hd hlt⟩
    · cases h
  · cases h
end Go.Av
