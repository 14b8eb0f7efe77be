/- Chapter 2: what is known of the library's functions, and of those that were walked by hand, holds in the model. -/
import Derived.Test.YtpdcnjlmnilipaaDoorAv2wa
import Derived.Test.YtpdcnjlmnilipaaDoorFst
import Derived.Test.YtpdcnjlmnilipaaDoorGd
import Derived.Deep.QuietTactic
import Derived.BigQuiet
set_option linter.unusedSimpArgs false
set_option linter.unusedSectionVars false
set_option linter.unusedVariables false
namespace Go.Av
open Go.Proofs Go.RowKit Go.Proofs.YtpdcnjlmnilipaaDoor
theorem mx2 : Tryd.prog.follows .mixedOrders = true := by kernel_rfl
theorem nm2 : (Tryd.prog.funcs.all fun fn => !(fn.name == "runtime.NumGoroutine")) = true := by kernel_rfl
theorem fine2 : Fine Tryd.prog := by
  refine ⟨mx2, fun f fn hf => ?_⟩
  have h := Array.all_eq_true_iff_forall_mem.1 nm2 fn (Array.mem_of_getElem? hf)
  simpa using h
theorem ret_same [Gs] {P : Program} {μ : Nat → Nat} {F : Nat → Nat → Prop} {w : World} {v : Value} {d : D} (hv : Den0 F w v d) (hlt : Lt F w) : Ret P 0 μ F w d [] [] (.returned v) w :=
  ⟨v, F, fun _ => none, rfl, Ext.refl _ _ _, hlt, fun b o h => .inl h, .inl ⟨rfl, fun c ν => .pure _ _ hv, rooms_nil⟩, fun i g h => (by cases h), fun i i' g h => (by cases h), fun i bx hi => absurd hi (Nat.not_lt_zero i)⟩
theorem two_args {c : Nat} {ν : Nat → Nat → Nat} {F : Nat → Nat → Prop} {w : World} {vals : List Value} {d1 d2 : D} (hl : vals.length = [d1, d2].length) (h : ∀ (i : Nat) (v : Value) (x : D), vals[i]? = some v → [d1, d2][i]? = some x → Den c ν F w v x) :
    ∃ v1 v2, vals = [v1, v2] ∧ Den c ν F w v1 d1 ∧ Den c ν F w v2 d2 := by
  match vals, hl with
  | [v1, v2], _ => exact ⟨v1, v2, rfl, h 0 v1 d1 rfl rfl, h 1 v2 d2 rfl rfl⟩
theorem pred32 (x : Nat) (hx : x ≤ 1114111) (W : World) : FnGives Tryd.prog 32 #[] #[encR x] (.bool (pB x)) W := by
  unfold FnGives encR
  have hw : IntKind.u8.wrap (x : Int) = ((x % 256 : Nat) : Int) := by simp [IntKind.wrap, IntKind.signed, IntKind.bits]
  by_cases h : x < 128
  · have h1 : ((x : Int) < 128) := by omega
    have hwx : x % 256 = x := by omega
    rw [hwx] at hw
    go_enter Tryd.func32, Tryd.ntmps32
    go_wp2_with (first
      | (go_at_call 33; refine (Tryd.strings_IndexByte _ _ _).mono ?_; rintro e w' ⟨rfl, rfl⟩))
    go_ret
    refine ⟨?_, 0, rfl⟩
    rw [index_idxB]
    unfold pB
    rw [decide_eq_true h]
    simp
  · have h1 : ¬ ((x : Int) < 128) := by omega
    go_enter Tryd.func32, Tryd.ntmps32
    go_wp2_with fail
    go_ret
    refine ⟨?_, 0, rfl⟩
    unfold pB
    rw [decide_eq_false h]
    rfl
theorem enter_of {P : Program} (hP : Fine P) {f : FuncId} (h : ∃ fn, P.funcs[f]? = some fn ∧ fn.body.isSome = true) (args : Array Value) (w : World) : (callFunc f args).run P w = .ok (.enter f args) w := by
  obtain ⟨fn, hf, hb⟩ := h
  have hnm := hP.names f fn hf
  have hb' : fn.body.isNone = false := by cases hfb : fn.body <;> simp_all
  simp only [callFunc, Sem.run_bind]
  simp [program, Sem.run, hf, hnm, hb', Result.andThen]
theorem runes32 (w : World) : PredAtRunes Tryd.prog 32 #[] pB w := fun W x hx _ => pred32 x hx W
theorem ext31 (s : List UInt8) (hs : s.length ≤ 4294967296) {vals : List Value} {w : World} {F : Nat → Nat → Prop} {μ : Nat → Nat} (hl : vals.length = [D.str s, .func (.func 32) [] []].length)
    (h : ∀ (i : Nat) (v : Value) (x : D), vals[i]? = some v → [D.str s, .func (.func 32) [] []][i]? = some x → Den 1 (argNu μ) F w v x) (hlt : Lt F w) :
    Calls Tryd.prog 31 vals.toArray w (Ret Tryd.prog 0 μ F w (.list ((partsB s []).map .str)) [] []) := by
  obtain ⟨v1, v2, rfl, h1, h2⟩ := two_args hl h
  have h2' : v2 = .func (.func 32) #[] #[] := by
    cases h2 with
    | pure v d hp => cases hp with | func fn fs cs f c e1 e2 => cases fs <;> cases cs <;> simp_all
    | func fn fs cs f c e1 e2 => cases fs <;> cases cs <;> simp_all
  rw [h1.str_, h2']
  have hc : Calls Tryd.prog 31 #[.string ⟨s.toArray⟩, .func (.func 32) #[] #[]] w _ :=
    Tryd.strings_FieldsFunc_runes 32 #[] (enter_of fine2 ⟨_, Tryd.func32, rfl⟩) pB ⟨s.toArray⟩ w hs (runes32 w)
  refine hc.mono ?_
  rintro e w' ⟨A, rfl, hA, hown, hb⟩
  generalize hP : Lib.goFieldsP pB ⟨s.toArray⟩ = ps at hown ⊢
  have hps : (ps.map (·.data.toList)) = partsB s [] := by rw [← hP]; exact fields_parts s
  rcases hown with ⟨hl1, ⟨hz, _⟩ | ⟨g, cap, cur, he, hg0, hblk, hle, hcm, hsz, htk⟩⟩
  · cases hz
  simp only [Value.slice.injEq, Option.some.injEq, Addr.mk.injEq, and_true] at he
  obtain ⟨rfl, -, rfl⟩ := he
  rw [Nat.mul_one] at htk hsz
  have hAlt : A < w'.heap.size := (Array.getElem?_eq_some_iff.1 hblk).1
  have hcell : ∀ (i : Nat) (v : Value), (ps.map Value.string)[i]? = some v → w'.cell? ⟨A, 0 + i, none⟩ = some v ∧ v.oneCell' = true := by
    intro i v hv
    rw [Nat.zero_add]
    refine ⟨?_, ?_⟩
    · rw [← htk, List.getElem?_take] at hv
      split at hv
      · unfold World.cell?
        simp only [hblk]
        simpa using hv
      · cases hv
    · obtain ⟨p, _, rfl⟩ := List.mem_map.1 (List.mem_of_getElem? hv)
      rfl
  refine ⟨_, fun b o => F b o ∨ b = A, fun _ => none, rfl, ?_, ?_, ?_, .inl ⟨rfl, fun c ν => .pure _ _ ?_, rooms_nil⟩, fun i g h => (by cases h), fun i i' g h => (by cases h), fun i bx hi => absurd hi (Nat.not_lt_zero i)⟩
  · refine ⟨hb.os, hb.tape, hb.output, hb.size, fun b hb1 _ => hb.block b hb1, fun b o hf => .inl hf, fun b o hf => ?_⟩
    unfold World.cell?
    rw [hb.block b (hlt b o hf)]
  · rintro b o (hf | rfl)
    · exact Nat.lt_of_lt_of_le (hlt b o hf) hb.size
    · exact hAlt
  · rintro b o (hf | rfl)
    · exact .inl hf
    · exact .inr hA
  · refine .list _ _ _ 1 _ (ps.map Value.string) (by rw [← hps]; simp) (Nat.le_refl _) (Nat.lt_succ_self 0) ?_ (by simp) (.inr ⟨A, 0, rfl, fun i v hv => ⟨.inr rfl, hcell i v hv⟩⟩) ?_
    · intro e he
      obtain ⟨x, _, rfl⟩ := List.mem_map.1 he
      rfl
    · intro i v x hv hx
      have hfl : flat ((partsB s []).map .str) = (partsB s []).map .str := by
        unfold flat
        rw [List.flatMap_map]
        generalize partsB s [] = l
        induction l with
        | nil => rfl
        | cons a r ih => rw [List.flatMap_cons, ih]; rfl
      rw [hfl, ← hps] at hx
      simp only [List.getElem?_map, Option.map_eq_some_iff] at hv hx
      obtain ⟨p, hp, rfl⟩ := hv
      obtain ⟨q, ⟨p', hp', rfl⟩, rfl⟩ := hx
      rw [hp] at hp'
      obtain rfl := Option.some.inj hp'
      have := Den0.str (F := fun b o => F b o ∨ b = A) (w := w') p.data.toList
      simpa using this
theorem pw_ints {F : Nat → Nat → Prop} {w : World} (k : IntKind) (zs : List Int) : ∀ (i : Nat) (v : Value) (x : D), (zs.map (Value.int k))[i]? = some v → (zs.map (D.int k))[i]? = some x → Den0 F w v x := by
  intro i v x hv hx
  simp only [List.getElem?_map, Option.map_eq_some_iff] at hv hx
  obtain ⟨z, hz, rfl⟩ := hv
  obtain ⟨z', hz', rfl⟩ := hx
  rw [hz] at hz'
  obtain rfl := Option.some.inj hz'
  exact .int k z
theorem flat_ints (k : IntKind) (zs : List Int) : flat (zs.map (D.int k)) = zs.map (D.int k) := by
  unfold flat
  rw [List.flatMap_map]
  induction zs with
  | nil => rfl
  | cons a r ih => rw [List.flatMap_cons, ih]; rfl
theorem den_of_sl {w : World} {B : Nat} {a : Option Addr} {n c : Nat} {k : IntKind} {zs : List Int} (hn : n = zs.length) (hc : n ≤ c) (hs : Sl w B a (zs.map (Value.int k))) : Den0 (old w) w (.slice a n c) (.list (zs.map (D.int k))) := by
  subst hn
  refine .list a _ c 1 _ (zs.map (Value.int k)) (by simp) hc (Nat.lt_succ_self 0) (fun e he => ?_) (by simp) ?_ (by rw [flat_ints]; exact pw_ints k zs)
  · obtain ⟨z, _, rfl⟩ := List.mem_map.1 he
    rfl
  · by_cases h0 : zs.map (Value.int k) = []
    · exact .inl h0
    · right
      obtain ⟨b, off, h1, _, h2⟩ := hs h0
      refine ⟨b, off, h1, fun i v hv => ?_⟩
      obtain ⟨hi, hv'⟩ := List.getElem?_eq_some_iff.1 hv
      have hcell := h2 i hi
      rw [hv'] at hcell
      refine ⟨cell_old hcell, hcell, ?_⟩
      rw [← hv']
      simp [Value.oneCell']
theorem sl_of_den {F : Nat → Nat → Prop} {w : World} {v : Value} {k : IntKind} {zs : List Int} (hd : Den0 F w v (.list (zs.map (D.int k)))) (hlt : Lt F w) : ∃ a c, v = .slice a zs.length c ∧ zs.length ≤ c ∧ Sl w w.heap.size a (zs.map (Value.int k)) := by
  generalize he : zs.map (D.int k) = es at hd
  cases hd with
  | list a n c sz es vs h1 h2 h3 h4 h5 h6 h7 =>
    subst he
    rw [List.length_map] at h1
    subst h1
    refine ⟨a, c, rfl, h2, fun hne => ?_⟩
    have hz : zs ≠ [] := by rintro rfl; exact hne rfl
    have hsz : sz = 1 := by
      obtain ⟨z, r, rfl⟩ := List.exists_cons_of_ne_nil hz
      have := h4 (.int k z) (by simp)
      simpa [dcells] using this.symm
    subst hsz
    rw [flat_ints] at h7
    rw [Nat.mul_one] at h5
    have hvs : vs = zs.map (Value.int k) := by
      apply List.ext_getElem?
      intro i
      by_cases hi : i < zs.length
      · have hv : vs[i]? = some vs[i] := List.getElem?_eq_getElem (by omega)
        have hx : (zs.map (D.int k))[i]? = some (.int k zs[i]) := by simp [hi]
        have := h7 i _ _ hv hx
        rw [hv]
        generalize vs[i] = u at this
        cases this
        simp [hi]
      · rw [List.getElem?_eq_none (by omega), List.getElem?_eq_none (by simp; omega)]
    rcases h6 with h6 | ⟨b, off, ha, hcell⟩
    · rw [h6] at h5
      exact absurd (List.length_eq_zero_iff.1 h5.symm) hz
    · have hpos : 0 < vs.length := by rw [h5]; exact List.length_pos_iff.2 hz
      have h0 := hcell 0 vs[0] (List.getElem?_eq_getElem hpos)
      refine ⟨b, off, ha, hlt _ _ h0.1, fun i hi => ?_⟩
      have := hcell i _ (by rw [hvs]; exact List.getElem?_eq_getElem hi)
      exact this.2.1
theorem Ext.below {w w' : World} {F F' : Nat → Nat → Prop} {μ : Nat → Nat} (hE : Ext (fun b => ∃ i, i < 0 ∧ μ i = b) F w F' w') : Below w.heap.size w w' :=
  ⟨hE.os, hE.tape, hE.output, hE.size, fun k hk => hE.block k hk (by rintro ⟨i, hi, _⟩; exact absurd hi (Nat.not_lt_zero i))⟩
theorem ret_below [Gs] {P : Program} {μ : Nat → Nat} {F : Nat → Nat → Prop} {w w' : World} {v : Value} {d : D} (hv : Den0 F w' v d) (hlt : Lt F w) (hb : Below w.heap.size w w') : Ret P 0 μ F w d [] [] (.returned v) w' := by
  refine ⟨v, F, fun _ => none, rfl, ?_, fun b o hf => Nat.lt_of_lt_of_le (hlt b o hf) hb.size, fun b o hf => .inl hf, .inl ⟨rfl, fun c' ν => .pure _ _ hv, rooms_nil⟩, fun i g h => (by cases h), fun i i' g h => (by cases h), fun i bx hi => absurd hi (Nat.not_lt_zero i)⟩
  refine ⟨hb.os, hb.tape, hb.output, hb.size, fun b hb1 _ => hb.block b hb1, fun b o hf => hf, fun b o hf => ?_⟩
  unfold World.cell?
  rw [hb.block b (hlt b o hf)]
theorem tab_of_gok {F : Nat → Nat → Prop} {w : World} (hg : GOK F w) : TabT w ∧ 3 < w.heap.size := by
  obtain ⟨d, ⟨l, rfl, h15⟩, hd⟩ := hg.2 (3, TabD) (by show _ ∈ [_]; simp)
  have hc : w.cell? ⟨3, 15, none⟩ = some (.int .u8 4) := by
    generalize hp : Value.pointer (some ⟨(3, TabD).1, 0, none⟩) = p at hd
    generalize hx : D.fix (.agg (l.map (D.int .u8))) 0 = x at hd
    cases hd with
    | fix d b o off vs h1 h2 h3 =>
      simp only [Value.pointer.injEq, Option.some.injEq, Addr.mk.injEq, and_true] at hp
      injection hx with hx1 hx2
      subst hx1 hx2
      obtain ⟨rfl, ho⟩ := hp
      have ho : o = 0 := by omega
      subst ho
      have hlen : vs.length = l.length := by rw [h1]; simp [dcells]
      have h15l : 15 < l.length := (List.getElem?_eq_some_iff.1 h15).1
      obtain ⟨v, hv⟩ : ∃ v, vs[15]? = some v := ⟨vs[15]'(by omega), List.getElem?_eq_getElem (by omega)⟩
      have h4 := h3 15 v (.int .u8 4) hv (by simp [dcells, h15])
      have h5 := (h2 15 v hv).2.1
      cases h4
      simpa using h5
    | _ => first | (cases hx; done) | (cases hp; done)
  exact ⟨hc, cell_old hc⟩
theorem bi_bytes (s : List UInt8) : bytesI ⟨s.toArray⟩ = bi s := by simp [bytesI, bi]
theorem nb_nums (l : List Int) : strOfNums l = ⟨(nb l).toArray⟩ := rfl
theorem den_str {F : Nat → Nat → Prop} {w : World} (l : List Int) : Den0 F w (.string (strOfNums l)) (.str (nb l)) := by
  rw [nb_nums]
  exact .str _
theorem byI_eq : ∀ {es : List D} {zs : List Int}, byI es = some zs → es = zs.map (D.int .u8) ∧ BytesOK zs
  | [], zs, h => by
    simp [byI] at h; subst h
    exact ⟨rfl, fun i hi => by simp at hi⟩
  | .int .u8 n :: r, zs, h => by
    simp only [byI] at h
    split at h
    · rename_i hn
      obtain ⟨ys, hy, rfl⟩ := Option.map_eq_some_iff.1 h
      obtain ⟨h1, h2⟩ := byI_eq hy
      refine ⟨by rw [h1]; rfl, fun i hi => ?_⟩
      cases i with
      | zero => exact hn
      | succ i => exact h2 i (by simpa using hi)
    · cases h
theorem byI_of : ∀ {zs : List Int}, BytesOK zs → byI (zs.map (D.int .u8)) = some zs
  | [], _ => rfl
  | z :: zs, h => by
    have h0 := h 0 (by simp)
    have ih := byI_of (zs := zs) fun i hi => h (i + 1) (by simpa using hi)
    simp only [List.map_cons, byI]
    rw [if_pos (by simpa using h0), ih]
    rfl
theorem ext2_ok : CallOK Tryd.prog ext2 := by
  intro f args pbs d r pbs' h
  unfold ext2 at h
  split at h
  · rename_i s
    split at h
    · rename_i hs
      simp only [Option.some.injEq, Prod.mk.injEq] at h
      obtain ⟨rfl, rfl, rfl⟩ := h
      refine ⟨⟨_, Tryd.func8, rfl⟩, fun vals w F μ hl hd _ _ hlt hg => ?_⟩
      match vals, hl with
      | [v1], _ =>
        have d1 := (hd 0 v1 _ rfl rfl).str_
        subst d1
        obtain ⟨hT, h3⟩ := tab_of_gok hg
        refine (ident_any w ⟨s.toArray⟩ (by simpa [ByteArray.size] using hs) h3 hT).mono ?_
        rintro e w' ⟨rfl, hb⟩
        refine ret_below ?_ hlt hb
        rw [bi_bytes]
        exact den_str _
    · cases h
  · rename_i s
    split at h
    · rename_i hs
      simp only [Option.some.injEq, Prod.mk.injEq] at h
      obtain ⟨rfl, rfl, rfl⟩ := h
      refine ⟨⟨_, Tryd.func10, rfl⟩, fun vals w F μ hl hd _ _ hlt hg => ?_⟩
      match vals, hl with
      | [v1], _ =>
        have d1 := (hd 0 v1 _ rfl rfl).str_
        subst d1
        obtain ⟨hT, h3⟩ := tab_of_gok hg
        refine (quote_any w ⟨s.toArray⟩ (by simpa [ByteArray.size] using hs) h3 hT).mono ?_
        rintro e w' ⟨rfl, hb⟩
        refine ret_below ?_ hlt hb
        rw [bi_bytes]
        exact den_str _
    · cases h
  · split at h
    · rename_i hs
      simp only [Option.some.injEq, Prod.mk.injEq] at h
      obtain ⟨rfl, rfl, rfl⟩ := h
      exact ⟨⟨_, Tryd.func31, rfl⟩, fun vals w F μ hl hd _ _ hlt hg => ext31 _ hs hl hd hlt⟩
    · cases h
  · rename_i es k
    obtain ⟨zs, hzs, h'⟩ := Option.bind_eq_some_iff.1 h
    clear h
    obtain ⟨rfl, hok⟩ := byI_eq hzs
    have h := h'
    clear h'
    split at h
    · rename_i hk
      simp only [Option.some.injEq, Prod.mk.injEq] at h
      obtain ⟨rfl, rfl, rfl⟩ := h
      refine ⟨⟨_, Tryd.func43, rfl⟩, fun vals w F μ hl hd _ _ hlt _ => ?_⟩
      match vals, hl with
      | [v1, v2], _ =>
        have d1 := (hd 0 v1 _ rfl rfl).list_
        have d2 := (hd 1 v2 _ rfl rfl).int_
        obtain ⟨a, c, rfl, hc, hs⟩ := sl_of_den d1 hlt
        subst d2
        obtain ⟨m, rfl⟩ : ∃ m : Nat, k = m := ⟨k.toNat, by omega⟩
        have hm : m < zs.length := by omega
        refine (rFirst_any w w.heap.size a zs.length c zs m (Nat.le_refl _) hok rfl hc hm hk.2.2 hs).mono ?_
        rintro e w' ⟨rfl, hb⟩
        have hfe : rFirst (zs.drop m) = firstOf (zs.drop m) := by
          have hp : 0 < (zs.drop m).length := by rw [List.length_drop]; omega
          have h0 := (hok.drop m) 0 hp
          cases hz : zs.drop m with
          | nil => rw [hz] at hp; simp at hp
          | cons x r => rw [hz] at h0; exact first_eq x r (by simpa using h0.1)
        rw [hfe]
        refine ⟨_, F, fun _ => none, rfl, ?_, fun b o hf => Nat.lt_of_lt_of_le (hlt b o hf) hb.size, fun b o hf => .inl hf, .inl ⟨rfl, fun c' ν => ?_, rooms_nil⟩, fun i g h => (by cases h), fun i i' g h => (by cases h), fun i bx hi => absurd hi (Nat.not_lt_zero i)⟩
        · refine ⟨hb.os, hb.tape, hb.output, hb.size, fun b hb1 _ => hb.block b hb1, fun b o hf => hf, fun b o hf => ?_⟩
          unfold World.cell?
          rw [hb.block b (hlt b o hf)]
        · refine Den.tuple [.int .i64 _, .int .i64 _] _ rfl (fun i v x hv hx => ?_)
          match i with
          | 0 => simp at hv hx; subst hv; subst hx; exact .pure _ _ (.int _ _)
          | 1 => simp at hv hx; subst hv; subst hx; exact .pure _ _ (.int _ _)
          | i + 2 => simp at hv
    · cases h
  · cases h
end Go.Av
