/- Chapter 1's door: what the evaluator says of Right and of the document's Chars, as contracts of the walks by hand. Conditions: the two tables lie in memory as their text lays them. -/
import Derived.Test.YtliflodflpecmaaDoorAv1c
import Derived.Test.YtliflodflpecmaaDoorAvb
import Derived.Test.YtliflodflpecmaaDoorGd
import Derived.Test.YtliflodflpecmaaDoorOwn
set_option linter.unusedSimpArgs false
set_option linter.unusedVariables false
namespace Go.Proofs.YtliflodflpecmaaDoor
open Go.RowKit Go.Av
theorem mx1 : Tryd.prog.follows .mixedOrders = true := by kernel_rfl
theorem nm1 : (Tryd.prog.funcs.all fun fn => !(fn.name == "runtime.NumGoroutine")) = true := by kernel_rfl
theorem fine1 : Fine Tryd.prog := by
  refine ⟨mx1, fun f fn hf => ?_⟩
  have h := Array.all_eq_true_iff_forall_mem.1 nm1 fn (Array.mem_of_getElem? hf)
  simpa using h
/-- The two tables of package utf8. -/
def TabsOK (w : World) : Prop := (∀ c, c < 256 → w.cell? ⟨0, c, none⟩ = some (.int .u8 (firstN c : Nat))) ∧ ∀ i, i < 32 → w.cell? ⟨1, i, none⟩ = some (.int .u8 (accN.getD i 0 : Nat))
theorem cell_below {w w' : World} (hb : Below w.heap.size w w') {a : Addr} {v : Value} (h : w.cell? a = some v) : w'.cell? a = some v := by
  rw [← h]
  unfold World.cell?
  rw [hb.block _ (cell_old h)]
theorem TabsOK.below {w w' : World} (h : TabsOK w) (hb : Below w.heap.size w w') : TabsOK w' := ⟨fun c hc => cell_below hb (h.1 c hc), fun i hi => cell_below hb (h.2 i hi)⟩
theorem pw_ints {F : Nat → Nat → Prop} {w : World} (k : IntKind) (zs : List Int) : ∀ (i : Nat) (v : Value) (x : D), (zs.map (Value.int k))[i]? = some v → (zs.map (D.int k))[i]? = some x → Den0 F w v x := by
  intro i v x hv hx
  simp only [List.getElem?_map, Option.map_eq_some_iff] at hv hx
  obtain ⟨z, hz, rfl⟩ := hv
  obtain ⟨z', hz', rfl⟩ := hx
  rw [hz] at hz'
  obtain rfl := Option.some.inj hz'
  exact .int k z
theorem flat_ints (k : IntKind) (zs : List Int) : flat (zs.map (D.int k)) = zs.map (D.int k) := by
  unfold flat
  rw [List.flatMap_map]
  induction zs with
  | nil => rfl
  | cons a r ih => rw [List.flatMap_cons, ih]; rfl
theorem gok1 {w : World} (h : TabsOK w) : GOK (old w) w := by
  refine ⟨fun g => ?_, fun x hx => by cases hx⟩
  by_cases h0 : g = 0
  · subst h0
    right
    have e : firstD = ((List.range 256).map fun c => ((firstN c : Nat) : Int)).map (D.int .u8) := by unfold firstD; rw [List.map_map]; rfl
    refine Den0.fix (.agg firstD) 0 0 0 (((List.range 256).map fun c => ((firstN c : Nat) : Int)).map (Value.int .u8)) ?_ (fun i v hv => ?_) ?_
    · rw [e]; simp [dcells]
    · simp only [List.getElem?_map, Option.map_eq_some_iff] at hv
      obtain ⟨z, ⟨c, hc, rfl⟩, rfl⟩ := hv
      have hc' := List.getElem?_eq_some_iff.1 hc
      obtain ⟨hlt, hc'⟩ := hc'
      simp at hlt hc'
      subst hc'
      have hcell := h.1 i hlt
      rw [Nat.zero_add]
      exact ⟨cell_old hcell, hcell, rfl⟩
    · rw [e]; exact pw_ints _ _
  · by_cases h1 : g = 1
    · subst h1
      right
      have e : accD = (accN.map fun n => ((n : Nat) : Int)).map (D.int .u8) := by unfold accD; rw [List.map_map]; rfl
      refine Den0.fix (.agg accD) 1 0 0 ((accN.map fun n => ((n : Nat) : Int)).map (Value.int .u8)) ?_ (fun i v hv => ?_) ?_
      · rw [e]; simp [dcells]
      · simp only [List.getElem?_map, Option.map_eq_some_iff] at hv
        obtain ⟨z, ⟨c, hc, rfl⟩, rfl⟩ := hv
        have hlt : i < 32 := (List.getElem?_eq_some_iff.1 hc).1
        have hcell := h.2 i hlt
        have hg : accN.getD i 0 = c := by simp [List.getD, hc]
        rw [hg] at hcell
        rw [Nat.zero_add]
        exact ⟨cell_old hcell, hcell, rfl⟩
      · rw [e]; exact pw_ints _ _
    · left
      show (if g = 0 then _ else if g = 1 then _ else D.bad) = .bad
      rw [if_neg h0, if_neg h1]
theorem den_of_sl {w : World} {B : Nat} {a : Option Addr} {n c : Nat} {k : IntKind} {zs : List Int} (hn : n = zs.length) (hc : n ≤ c) (hs : Sl w B a (zs.map (Value.int k))) : Den0 (old w) w (.slice a n c) (.list (zs.map (D.int k))) := by
  subst hn
  refine .list a _ c 1 _ (zs.map (Value.int k)) (by simp) hc (Nat.lt_succ_self 0) (fun e he => ?_) (by simp) ?_ (by rw [flat_ints]; exact pw_ints k zs)
  · obtain ⟨z, _, rfl⟩ := List.mem_map.1 he
    rfl
  · by_cases h0 : zs.map (Value.int k) = []
    · exact .inl h0
    · right
      obtain ⟨b, off, h1, _, h2⟩ := hs h0
      refine ⟨b, off, h1, fun i v hv => ?_⟩
      obtain ⟨hi, hv'⟩ := List.getElem?_eq_some_iff.1 hv
      have hcell := h2 i hi
      rw [hv'] at hcell
      refine ⟨cell_old hcell, hcell, ?_⟩
      rw [← hv']
      simp [Value.oneCell']
theorem sl_of_den {F : Nat → Nat → Prop} {w : World} {v : Value} {k : IntKind} {zs : List Int} (hd : Den0 F w v (.list (zs.map (D.int k)))) (hlt : Lt F w) : ∃ a c, v = .slice a zs.length c ∧ zs.length ≤ c ∧ Sl w w.heap.size a (zs.map (Value.int k)) := by
  generalize he : zs.map (D.int k) = es at hd
  cases hd with
  | list a n c sz es vs h1 h2 h3 h4 h5 h6 h7 =>
    subst he
    rw [List.length_map] at h1
    subst h1
    refine ⟨a, c, rfl, h2, fun hne => ?_⟩
    have hz : zs ≠ [] := by rintro rfl; exact hne rfl
    have hsz : sz = 1 := by
      obtain ⟨z, r, rfl⟩ := List.exists_cons_of_ne_nil hz
      have := h4 (.int k z) (by simp)
      simpa [dcells] using this.symm
    subst hsz
    rw [flat_ints] at h7
    rw [Nat.mul_one] at h5
    have hvs : vs = zs.map (Value.int k) := by
      apply List.ext_getElem?
      intro i
      by_cases hi : i < zs.length
      · have hv : vs[i]? = some vs[i] := List.getElem?_eq_getElem (by omega)
        have hx : (zs.map (D.int k))[i]? = some (.int k zs[i]) := by simp [hi]
        have := h7 i _ _ hv hx
        rw [hv]
        generalize vs[i] = u at this
        cases this
        simp [hi]
      · rw [List.getElem?_eq_none (by omega), List.getElem?_eq_none (by simp; omega)]
    rcases h6 with h6 | ⟨b, off, ha, hcell⟩
    · rw [h6] at h5
      exact absurd (List.length_eq_zero_iff.1 h5.symm) hz
    · have hpos : 0 < vs.length := by rw [h5]; exact List.length_pos_iff.2 hz
      have h0 := hcell 0 vs[0] (List.getElem?_eq_getElem hpos)
      refine ⟨b, off, ha, hlt _ _ h0.1, fun i hi => ?_⟩
      have := hcell i _ (by rw [hvs]; exact List.getElem?_eq_getElem hi)
      exact this.2.1
theorem Ext.below {w w' : World} {F F' : Nat → Nat → Prop} {μ : Nat → Nat} (hE : Ext (fun b => ∃ i, i < 0 ∧ μ i = b) F w F' w') : Below w.heap.size w w' :=
  ⟨hE.os, hE.tape, hE.output, hE.size, fun k hk => hE.block k hk (by rintro ⟨i, hi, _⟩; exact absurd hi (Nat.not_lt_zero i))⟩
/-- decode.Right. -/
theorem rightB_any (w : World) (B : Nat) (a : Option Addr) (n c : Nat) (zs : List Int) (hT : TabsOK w) (hz : BytesOK zs) (hn : n = zs.length) (hc : n ≤ c) (hm : zs.length < 1000000000)
    (hs : Sl w B a (zs.map (Value.int .u8))) : Calls Tryd.prog 8 #[.slice a n c] w (RetV w (.bool (noNul zs && validB zs))) := by
  obtain ⟨N, hN⟩ := callL_aev (right_L zs hz hm)
  obtain ⟨_, hcall⟩ := aev_sound fine1 noExt_ok N 8 _ [] _ _ _ hN
  have hcalls := hcall [.slice a n c] w (old w) (fun _ => 0) rfl (fun i v x hv hx => by
    cases i with
    | zero => simp at hv hx; subst hv; subst hx; exact .pure _ _ (den_of_sl hn hc hs)
    | succ i => simp at hv) (fun i bx hb => by simp at hb) (fun i j hi => absurd hi (Nat.not_lt_zero i)) (old_lt w) (gok1 hT)
  refine hcalls.mono ?_
  rintro e W' ⟨v, F', ncl, rfl, hE, _, _, hd, _⟩
  rcases hd with ⟨_, hd, _⟩ | ⟨hl, _⟩
  · exact ⟨by rw [(hd 0 fun _ _ => 0).bool_], Ext.below hE⟩
  · simp at hl
theorem ext1_ok : CallOK Tryd.prog ext1 := by
  intro f args pbs d r pbs' h
  unfold ext1 at h
  split at h
  · rename_i es k
    obtain ⟨zs, hzs, h'⟩ := Option.bind_eq_some_iff.1 h
    clear h
    obtain ⟨rfl, hok⟩ := bytesI_eq hzs
    have h := h'
    clear h'
    split at h
    · rename_i hk
      simp only [Option.some.injEq, Prod.mk.injEq] at h
      obtain ⟨rfl, rfl, rfl⟩ := h
      refine ⟨⟨_, Tryd.func21, rfl⟩, fun vals w F μ hl hd _ _ hlt _ => ?_⟩
      match vals, hl with
      | [v1, v2], _ =>
        have d1 := (hd 0 v1 _ rfl rfl).list_
        have d2 := (hd 1 v2 _ rfl rfl).int_
        obtain ⟨a, c, rfl, hc, hs⟩ := sl_of_den d1 hlt
        subst d2
        obtain ⟨m, rfl⟩ : ∃ m : Nat, k = m := ⟨k.toNat, by omega⟩
        have hm : m < zs.length := by omega
        refine (rFirst_any w w.heap.size a zs.length c zs m (Nat.le_refl _) hok rfl hc hm hk.2.2 hs).mono ?_
        rintro e w' ⟨rfl, hb⟩
        have hfe : rFirst (zs.drop m) = firstOf (zs.drop m) := by
          have hp : 0 < (zs.drop m).length := by rw [List.length_drop]; omega
          have h0 := (hok.drop m) 0 hp
          cases hz : zs.drop m with
          | nil => rw [hz] at hp; simp at hp
          | cons x r => rw [hz] at h0; exact first_eq x r (by simpa using h0.1)
        rw [hfe]
        refine ⟨_, F, fun _ => none, rfl, ?_, fun b o hf => Nat.lt_of_lt_of_le (hlt b o hf) hb.size, fun b o hf => .inl hf, .inl ⟨rfl, fun c' ν => ?_, rooms_nil⟩, fun i g h => (by cases h), fun i i' g h => (by cases h), fun i bx hi => absurd hi (Nat.not_lt_zero i)⟩
        · refine ⟨hb.os, hb.tape, hb.output, hb.size, fun b hb1 _ => hb.block b hb1, fun b o hf => hf, fun b o hf => ?_⟩
          unfold World.cell?
          rw [hb.block b (hlt b o hf)]
        · refine Den.tuple [.int .i64 _, .int .i64 _] _ rfl (fun i v x hv hx => ?_)
          match i with
          | 0 => simp at hv hx; subst hv; subst hx; exact .pure _ _ (.int _ _)
          | 1 => simp at hv hx; subst hv; subst hx; exact .pure _ _ (.int _ _)
          | i + 2 => simp at hv
    · cases h
  · cases h
/-- The document's Chars. -/
theorem rchars_any (w : World) (B : Nat) (a : Option Addr) (n c : Nat) (zs : List Int) (hT : TabsOK w) (hz : BytesOK zs) (hn : n = zs.length) (hc : n ≤ c) (hm : zs.length < 1000000000)
    (hs : Sl w B a (zs.map (Value.int .u8))) : Calls Tryd.prog 10 #[.slice a n c] w (RetL .i64 w (chars zs)) := by
  obtain ⟨r, hr⟩ := rchars_L zs hz hm
  obtain ⟨N, hN⟩ := callL_aev hr
  obtain ⟨_, hcall⟩ := aev_sound fine1 ext1_ok N 10 _ [] _ _ _ hN
  have hcalls := hcall [.slice a n c] w (old w) (fun _ => 0) rfl (fun i v x hv hx => by
    cases i with
    | zero => simp at hv hx; subst hv; subst hx; exact .pure _ _ (den_of_sl hn hc hs)
    | succ i => simp at hv) (fun i bx hb => by simp at hb) (fun i j hi => absurd hi (Nat.not_lt_zero i)) (old_lt w) (gok1 hT)
  refine hcalls.mono ?_
  rintro e W' ⟨v, F', ncl, rfl, hE, hlt', _, hd, _⟩
  rcases hd with ⟨_, hd, _⟩ | ⟨hl, _⟩
  · obtain ⟨a', c', rfl, hc', hs'⟩ := sl_of_den (hd 0 fun _ _ => 0).list_ hlt'
    exact ⟨a', c', rfl, hc', hs', Ext.below hE⟩
  · simp at hl
end Go.Proofs.YtliflodflpecmaaDoor
