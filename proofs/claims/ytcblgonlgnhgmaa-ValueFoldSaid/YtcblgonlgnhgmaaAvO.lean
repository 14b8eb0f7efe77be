/- A law's arguments, opened: what is read as data by a row reads as a value of the evaluator; and a law's frame: where the evaluator hands back true, the row's law is met. Over any program; no conditions. -/
import Derived.Test.YtcblgonlgnhgmaaAvM
import Derived.Deep.Slices
import Derived.Deep.Fields
import Derived.HandedShaped
import Derived.OpenShut
import Derived.ShutString
import Derived.ChangeOld
import Derived.Below
import Derived.Carry
set_option linter.unusedVariables false
set_option linter.unusedSimpArgs false
namespace Go.Av
open Go.RowKit Go.ChangeShapes Go.WideShapes Go.Deep
set_option linter.unusedSectionVars false

/-- The types that are opened. -/
inductive Ty where
  | bool
  | int (k : IntKind)
  | str
  | agg (fs : List Ty)
  | list (sz : Nat) (e : Ty)
/-- What a value of a type reads as. -/
inductive TyOk : Ty → D → Prop
  | bool (b : Bool) : TyOk .bool (.bool b)
  | int (k : IntKind) (n : Int) : (Lit.int k n).wf = true → TyOk (.int k) (.int k n)
  | str (l : List UInt8) : l.length ≤ maxLen → TyOk .str (.str l)
  | agg (ts : List Ty) (ds : List D) : ds.length = ts.length → (∀ (i : Nat) (T : Ty) (d : D), ts[i]? = some T → ds[i]? = some d → TyOk T d) → TyOk (.agg ts) (.agg ds)
  | list (sz : Nat) (e : Ty) (es : List D) : es.length ≤ maxLen → (∀ d ∈ es, TyOk e d) → TyOk (.list sz e) (.list es)
def Ty.isAgg : Ty → Bool
  | .agg _ => true
  | _ => false
def tyOf (P : Program) : Nat → TypeId → Option Ty
  | 0, _ => none
  | n + 1, t => match P.underlying t with
    | some .bool => some .bool
    | some (.int k) => some (.int k)
    | some .string => some .str
    | some (.slice e) => if 0 < P.cellsOf e then (tyOf P n e).map (.list (P.cellsOf e)) else none
    | some (.struct fs) =>
      if oneCellFields P fs && P.cellsOf t == fs.size then
        match fs.toList.mapM fun f => (tyOf P n f.type).bind fun T => if T.isAgg then none else some T with
        | some ts => some (.agg ts)
        | none => none
      else none
    | _ => none

/-- Two lists, place by place. -/
def Pw {α β : Type} (R : α → β → Prop) (l : List α) (m : List β) : Prop := ∀ (i : Nat) (a : α) (b : β), l[i]? = some a → m[i]? = some b → R a b
theorem pw1 {α β : Type} {R : α → β → Prop} {a : α} {b : β} (h : R a b) : Pw R [a] [b] := by
  intro i x y hx hy
  cases i with
  | zero => simp at hx hy; subst hx; subst hy; exact h
  | succ i => simp at hx
theorem pw_app {α β : Type} {R : α → β → Prop} {l l' : List α} {m m' : List β} (hl : l.length = m.length) (h : Pw R l m) (h' : Pw R l' m') : Pw R (l ++ l') (m ++ m') := by
  intro i a b ha hb
  rw [List.getElem?_append] at ha hb
  rw [← hl] at hb
  split at ha
  · rename_i hi
    rw [if_pos hi] at hb
    exact h i a b ha hb
  · rename_i hi
    rw [if_neg hi] at hb
    exact h' _ a b ha hb
theorem pw_flat {α β γ : Type} {R : α → β → Prop} {f : γ → List α} {g : γ → List β} : ∀ (l : List γ), (∀ x ∈ l, (f x).length = (g x).length ∧ Pw R (f x) (g x)) → (l.flatMap f).length = (l.flatMap g).length ∧ Pw R (l.flatMap f) (l.flatMap g)
  | [], _ => ⟨rfl, fun i a b ha => by simp at ha⟩
  | x :: r, h => by
    obtain ⟨h1, h2⟩ := h x (by simp)
    obtain ⟨h3, h4⟩ := pw_flat r fun y hy => h y (by simp [hy])
    rw [List.flatMap_cons, List.flatMap_cons]
    exact ⟨by simp [h1, h3], pw_app h1 h2 h4⟩
theorem flat_len2 {α : Type} {c : Nat} {f : Nat → List α} : ∀ (n : Nat), (∀ i, i < n → (f i).length = c) → ((List.range n).flatMap f).length = n * c
  | 0, _ => by simp
  | n + 1, h => by
    rw [List.range_succ, List.flatMap_append, List.length_append, flat_len2 n fun i hi => h i (Nat.lt_succ_of_lt hi)]
    simp [h n (Nat.lt_succ_self n), Nat.succ_mul]
theorem flat_at2 {α : Type} {c : Nat} {f : Nat → List α} : ∀ (n : Nat), (∀ i, i < n → (f i).length = c) → ∀ (k : Nat) (v : α), ((List.range n).flatMap f)[k]? = some v → ∃ i j, i < n ∧ j < c ∧ k = i * c + j ∧ (f i)[j]? = some v
  | 0, _, k, v, hk => by simp at hk
  | n + 1, h, k, v, hk => by
    have hl := flat_len2 n fun i hi => h i (Nat.lt_succ_of_lt hi)
    rw [List.range_succ, List.flatMap_append, List.getElem?_append, hl] at hk
    split at hk
    · obtain ⟨i, j, h1, h2, h3, h4⟩ := flat_at2 n (fun i hi => h i (Nat.lt_succ_of_lt hi)) k v hk
      exact ⟨i, j, by omega, h2, h3, h4⟩
    · rename_i hge
      simp only [List.flatMap_cons, List.flatMap_nil, List.append_nil] at hk
      have hlt := (List.getElem?_eq_some_iff.1 hk).1
      rw [h n (Nat.lt_succ_self n)] at hlt
      exact ⟨n, k - n * c, Nat.lt_succ_self n, hlt, by omega, hk⟩

section
variable {H : Type} {enc : TypeId × Value → H} {P : Program} {w : World} {spare : Nat → Bool} {held : Bool}

/-- All that lies there already. -/
def old (w : World) : Nat → Nat → Prop := fun b _ => b < w.heap.size
theorem old_lt (w : World) : Lt (old w) w := fun _ _ h => h
theorem cell_old {a : Addr} {v : Value} (h : w.cell? a = some v) : a.block < w.heap.size := by
  unfold World.cell? at h
  split at h
  · rename_i hb
    exact (Array.getElem?_eq_some_iff.1 hb).1
  · simp at h
theorem mapM_at {α β : Type} {f : α → Option β} : ∀ {l : List α} {ys : List β}, l.mapM f = some ys → ys.length = l.length ∧ ∀ (i : Nat) (x : α), l[i]? = some x → f x = ys[i]?
  | [], ys, h => by simp at h; subst h; exact ⟨rfl, fun i x hx => by simp at hx⟩
  | x :: r, ys, h => by
    rw [List.mapM_cons] at h
    obtain ⟨y, hy, h⟩ := Option.bind_eq_some_iff.1 h
    obtain ⟨zs, hz, h⟩ := Option.bind_eq_some_iff.1 h
    obtain rfl := Option.some.inj h
    obtain ⟨h1, h2⟩ := mapM_at hz
    refine ⟨by simp [h1], fun i u hu => ?_⟩
    cases i with
    | zero => simp at hu; subst hu; simpa using hy
    | succ i => exact h2 i u (by simpa using hu)

/-- CELLS THAT ARE READ AS DATA READ AS A VALUE OF THE EVALUATOR. -/
theorem trod_cells : ∀ (n : Nat) (t : TypeId) (T : Ty) (fuel : Nat) (base : Nat) (cs : List Value) (x : DataW H × List MemPlace), tyOf P n t = some T → DataW.trod enc P w base spare held fuel t cs = some x →
    ∃ d, TyOk T d ∧ cs.length = (dcells d).length ∧ (∀ v ∈ cs, v.oneCell' = true) ∧ Pw (Den0 (old w) w) cs (dcells d) ∧ (T.isAgg = true → ∃ ds, d = .agg ds) ∧ (T.isAgg = false → dcells d = [d])
  | 0, t, T, fuel, base, cs, x, hT, _ => by simp [tyOf] at hT
  | n + 1, t, T, fuel, base, cs, x, hT, h => by
    unfold tyOf at hT
    split at hT
    · rename_i hu
      obtain rfl := Option.some.inj hT
      obtain ⟨b, rfl, _⟩ := DataW.trod_bool hu h
      exact ⟨.bool b, .bool b, rfl, by simp [Value.oneCell'], pw1 (.bool b), (fun hk => by cases hk), fun _ => rfl⟩
    · rename_i k hu
      obtain rfl := Option.some.inj hT
      obtain ⟨m, rfl, _, hw⟩ := DataW.trod_int hu h
      exact ⟨.int k m, .int k m hw, rfl, by simp [Value.oneCell'], pw1 (.int k m), (fun hk => by cases hk), fun _ => rfl⟩
    · rename_i hu
      obtain rfl := Option.some.inj hT
      obtain ⟨s, rfl, _, hs⟩ := DataW.trod_string hu h
      refine ⟨.str s.data.toList, .str _ hs, rfl, by simp [Value.oneCell'], pw1 ?_, (fun hk => by cases hk), fun _ => rfl⟩
      have := Den0.str (F := old w) (w := w) s.data.toList
      simpa using this
    · rename_i e hu
      split at hT
      · rename_i hpos
        rw [Option.map_eq_some_iff] at hT
        obtain ⟨Te, hTe, rfl⟩ := hT
        rcases open_slice hu h with ⟨rfl, _⟩ | ⟨a, len, cap, m, k, D', Pl, rfl, hb, hl, hm, hmm, hx, hi⟩
        · refine ⟨.list [], .list _ _ _ (Nat.zero_le _) (fun d hd => by cases hd), rfl, by simp [Value.oneCell'], pw1 ?_, (fun hk => by cases hk), fun _ => rfl⟩
          exact .list none 0 0 1 [] [] rfl (Nat.le_refl _) (Nat.lt_succ_self 0) (fun e he => by cases he) rfl (.inl rfl) (fun i v x hv => by simp at hv)
        · have hlm : len ≤ m := by rw [hmm]; split <;> omega
          have hall : ∀ i, i < len → ∃ q : List Value × D, w.cells? base (a.add (i * P.cellsOf e)) (P.cellsOf e) = some q.1 ∧ TyOk Te q.2 ∧ q.1.length = (dcells q.2).length ∧ (∀ v ∈ q.1, v.oneCell' = true) ∧ Pw (Den0 (old w) w) q.1 (dcells q.2) := by
            intro i hil
            obtain ⟨cs', hc, ht⟩ := hi i (by omega)
            obtain ⟨d, d1, d2, d3, d4, _⟩ := trod_cells n e Te k base cs' _ hTe ht
            exact ⟨(cs', d), hc, d1, d2, d3, d4⟩
          obtain ⟨q, hq⟩ := choose_lt hall
          have hlen : ∀ i, i < len → (q i).1.length = P.cellsOf e := fun i hil => (World.cells?_some (hq i hil).1).2.1
          have hflat : flat ((List.range len).map fun i => (q i).2) = (List.range len).flatMap fun i => dcells (q i).2 := by
            unfold flat
            rw [List.flatMap_map]
          obtain ⟨p1, p2⟩ := pw_flat (R := Den0 (old w) w) (f := fun i => (q i).1) (g := fun i => dcells (q i).2) (List.range len) (fun i hil => by
            obtain ⟨_, _, h3, _, h5⟩ := hq i (List.mem_range.1 hil)
            exact ⟨h3, h5⟩)
          refine ⟨.list ((List.range len).map fun i => (q i).2), .list _ _ _ (by simp; omega) ?_, rfl, by simp [Value.oneCell'], pw1 ?_, (fun hk => by cases hk), fun _ => rfl⟩
          · intro d hd
            obtain ⟨i, hi', rfl⟩ := List.mem_map.1 hd
            exact (hq i (List.mem_range.1 hi')).2.1
          · refine .list (some a) len cap (P.cellsOf e) _ ((List.range len).flatMap fun i => (q i).1) (by simp) hl hpos ?_ (flat_len2 len hlen) ?_ ?_
            · intro d hd
              obtain ⟨i, hi', rfl⟩ := List.mem_map.1 hd
              rw [← (hq i (List.mem_range.1 hi')).2.2.1]
              exact hlen i (List.mem_range.1 hi')
            · by_cases h0 : len = 0
              · subst h0; exact .inl rfl
              · right
                obtain ⟨b, off, spot⟩ := a
                have hsp : spot = none := by
                  obtain ⟨_, hcl, hat⟩ := World.cells?_some (hq 0 (by omega)).1
                  have := hat 0 hpos
                  rw [List.getElem?_eq_getElem (by omega)] at this
                  simpa [Addr.add] using World.cell?_spot this
                subst hsp
                refine ⟨b, off, rfl, fun i' v hv => ?_⟩
                obtain ⟨i, j, hil, hj, rfl, hvj⟩ := flat_at2 len hlen i' v hv
                obtain ⟨_, hcl, hat⟩ := World.cells?_some (hq i hil).1
                have hc := hat j hj
                rw [hvj, add_add, add_plain] at hc
                exact ⟨cell_old hc, hc, (hq i hil).2.2.2.1 v (List.mem_of_getElem? hvj)⟩
            · rw [hflat]; exact p2
      · cases hT
    · rename_i fs hu
      split at hT
      · rename_i hone
        simp only [Bool.and_eq_true, beq_iff_eq] at hone
        obtain ⟨hone, hC⟩ := hone
        split at hT
        · rename_i ts hts
          obtain rfl := Option.some.inj hT
          obtain ⟨xs, m, _, _, hcl, hxl, hf⟩ := DataW.trod_struct hu h
          obtain ⟨htl, htt⟩ := mapM_at hts
          have hall : ∀ i, i < fs.size → ∃ q : Value × D, cs[i]? = some q.1 ∧ (∀ T, ts[i]? = some T → TyOk T q.2) ∧ q.1.oneCell' = true ∧ Den0 (old w) w q.1 q.2 := by
            intro i hil
            obtain ⟨f, hfi⟩ : ∃ f, fs[i]? = some f := ⟨_, Array.getElem?_eq_getElem hil⟩
            obtain ⟨ho, hk⟩ := hone_of hone i f hfi
            have h1 := hf i f hfi
            rw [ho, hk, take1_drop cs i undef (by omega), List.getElem?_eq_getElem (by omega)] at h1
            have ht1 := htt i f (by simpa using hfi)
            rw [List.getElem?_eq_getElem (by rw [htl]; simpa using hil)] at ht1
            obtain ⟨T, hT1, hT2⟩ := Option.bind_eq_some_iff.1 ht1
            have hTa : T.isAgg = false := by cases hh : T.isAgg <;> simp_all
            rw [hTa] at hT2
            simp only [Bool.false_eq_true, if_false, Option.some.injEq] at hT2
            obtain ⟨d, d1, d2, d3, d4, _, d6⟩ := trod_cells n f.type T m base _ _ hT1 h1
            refine ⟨(cs.getD i undef, d), ?_, fun T' hT' => ?_, d3 _ (by simp), d4 0 _ _ rfl (by rw [d6 hTa]; rfl)⟩
            · simp only [List.getD_eq_getElem?_getD, List.getElem?_eq_getElem (show i < cs.length by omega), Option.getD_some]
            · rw [List.getElem?_eq_getElem (by rw [htl]; simpa using hil)] at hT'
              rw [← Option.some.inj hT', ← hT2]
              exact d1
          obtain ⟨q, hq⟩ := choose_lt hall
          have hcs : cs = (List.range fs.size).map fun i => (q i).1 := by
            apply List.ext_getElem?
            intro i
            by_cases hi : i < fs.size
            · rw [(hq i hi).1]; simp [hi]
            · rw [List.getElem?_eq_none (by omega), List.getElem?_eq_none (by simp; omega)]
          refine ⟨.agg ((List.range fs.size).map fun i => (q i).2), .agg _ _ (by simp [htl]) ?_, by simp [dcells]; omega, ?_, ?_, fun _ => ⟨_, rfl⟩, (fun hk => by cases hk)⟩
          · intro i T d hT hd
            have hi : i < fs.size := by simpa using (List.getElem?_eq_some_iff.1 hd).1
            simp [hi] at hd
            rw [← hd]
            exact (hq i hi).2.1 T hT
          · intro v hv
            rw [hcs] at hv
            obtain ⟨i, hi, rfl⟩ := List.mem_map.1 hv
            exact (hq i (List.mem_range.1 hi)).2.2.1
          · intro i v d hv hd
            have hi : i < fs.size := by simpa [dcells] using (List.getElem?_eq_some_iff.1 hd).1
            simp [dcells, hi] at hd
            have := (hq i hi)
            rw [this.1] at hv
            rw [← Option.some.inj hv, ← hd]
            exact this.2.2.2
        · cases hT
      · cases hT
    · cases hT
/-- An argument. -/
theorem open_val {n : Nat} {t : TypeId} {T : Ty} {r : Reach} {b0 base : Nat} {v : Value} {d : DataW H} {p : List MemPlace} (hT : tyOf P n t = some T) (hv : Value.okWide P w r b0 t v) (h : DataW.Trod enc P w base spare held t v d p) :
    ∃ x, TyOk T x ∧ Den0 (old w) w v x := by
  obtain ⟨fuel, hf⟩ := h
  obtain ⟨x, x1, x2, x3, x4, x5, x6⟩ := trod_cells n t T fuel base _ _ hT hf
  refine ⟨x, x1, ?_⟩
  cases n with
  | zero => simp [tyOf] at hT
  | succ n =>
    have one : v.cells = #[v] → T.isAgg = false → Den0 (old w) w v x := fun h1 h2 => x4 0 v x (by rw [h1]; rfl) (by rw [x6 h2]; rfl)
    unfold tyOf at hT
    split at hT
    · rename_i hu
      obtain ⟨b, rfl⟩ := okWide_bool hu hv
      exact one rfl (by cases hT; rfl)
    · rename_i k hu
      obtain ⟨b, rfl⟩ := okWide_int hu hv
      exact one rfl (by cases hT; rfl)
    · rename_i hu
      obtain ⟨b, rfl⟩ := okWide_string hu hv
      exact one rfl (by cases hT; rfl)
    · rename_i e hu
      obtain ⟨a, len, cap, rfl⟩ := okWide_slice hu hv
      refine one rfl ?_
      split at hT
      · rw [Option.map_eq_some_iff] at hT
        obtain ⟨_, _, rfl⟩ := hT
        rfl
      · cases hT
    · rename_i fs hu
      obtain ⟨cs, rfl, _⟩ := okWide_struct hu hv
      obtain ⟨ds, rfl⟩ := x5 (by
        split at hT
        · split at hT
          · cases hT; rfl
          · cases hT
        · cases hT)
      have := Den0.agg (F := old w) (w := w) cs.toList ds x2 x3 x4
      simpa using this
    · cases hT
end

section
variable {H : Type} {enc : TypeId × Value → H} {P : Program} {spare : Nat → Bool} {held : Bool}
theorem trodAll_len {w : World} {base : Nat} : ∀ {ts : List TypeId} {vs : List Value} {ds : List (DataW H)} {ps : List MemPlace}, DataW.TrodAll enc P w base spare held ts vs ds ps → vs.length = ts.length ∧ ds.length = ts.length
  | [], [], [], _, _ => ⟨rfl, rfl⟩
  | t :: ts, v :: vs, d :: ds, ps, h => by
    obtain ⟨p, q, _, h2, _⟩ := h
    obtain ⟨h3, h4⟩ := trodAll_len h2
    simp [h3, h4]
theorem trodAll_den {w : World} {n : Nat} {base b0 : Nat} : ∀ {ts : List TypeId} {vs : List Value} {ds : List (DataW H)} {ps : List MemPlace} {Ts : List Ty}, DataW.TrodAll enc P w base spare held ts vs ds ps →
    (∀ (j : Nat) t v, ts[j]? = some t → vs[j]? = some v → Value.okWide P w .any b0 t v) → ts.mapM (tyOf P n) = some Ts →
    ∃ as : List D, as.length = vs.length ∧ Pw TyOk Ts as ∧ Pw (Den0 (old w) w) vs as
  | [], [], [], _, Ts, _, _, hT => by
    simp at hT
    exact ⟨[], rfl, fun i a b ha hb => by simp at hb, fun i a b ha => by simp at ha⟩
  | t :: ts, v :: vs, d :: ds, ps, Ts, h, hv, hT => by
    obtain ⟨p, q, h1, h2, _⟩ := h
    rw [List.mapM_cons] at hT
    obtain ⟨T, hT1, hT⟩ := Option.bind_eq_some_iff.1 hT
    obtain ⟨Ts', hT2, hT⟩ := Option.bind_eq_some_iff.1 hT
    obtain rfl := Option.some.inj hT
    obtain ⟨x, x1, x2⟩ := open_val hT1 (hv 0 t v rfl rfl) h1
    obtain ⟨as, a1, a2, a3⟩ := trodAll_den h2 (fun j t v ht hv' => hv (j + 1) t v ht hv') hT2
    exact ⟨x :: as, by simp [a1], pw_app (l := [T]) (m := [x]) rfl (pw1 x1) a2, pw_app (l := [v]) (m := [x]) rfl (pw1 x2) a3⟩
theorem trodAll_stay {W W' : World} (hl : laidOutB P = true) (hb : Below W.heap.size W W') : ∀ {ts : List TypeId} {vs : List Value} {ds : List (DataW H)} {ps : List MemPlace}, (ts.all fun t => P.readableRec t && decide (t < P.types.size)) = true →
    DataW.TrodAll enc P W 0 (fun _ => true) true ts vs ds ps → ∃ ps', DataW.TrodAll enc P W' 0 (fun b => decide (b < W.heap.size)) true ts vs ds ps'
  | [], [], [], _, _, _ => ⟨[], rfl⟩
  | t :: ts, v :: vs, d :: ds, ps, hr, h => by
    obtain ⟨p, q, h1, h2, _⟩ := h
    simp only [List.all_cons, Bool.and_eq_true, decide_eq_true_eq] at hr
    obtain ⟨⟨r1, r2⟩, r3⟩ := hr
    obtain ⟨q', hq⟩ := trodAll_stay hl hb r3 h2
    have lt0 : ∀ x ∈ p, x.block < W.heap.size := by obtain ⟨m, hm⟩ := h1; exact DataW.trod_lt m _ _ _ hm
    exact ⟨p ++ q', p, q', Below.trod hl r1 r2 h1 hb lt0, hq, rfl⟩
end

/-- A LAW's FRAME: where the evaluator hands back true at whatever arguments of the parameters' types, the row's law is met. -/
theorem lift_true [Gs] {H : Type} {enc : TypeId × Value → H} {C : Checked} {ext : Call} {os : Os} {f : FuncId} {fn : Func} {s : ChangeSpec} {conds : List PathCond} {Ts : List Ty} {n : Nat} {tb : TypeId}
    (hP : Fine C.prog) (hext : CallOK C.prog ext) (own : ownKnob C.prog.godebug = none) (started : os.Started) (noInit : C.prog.inits.idxOf? f = none) (hfn : C.prog.funcs[f]? = some fn)
    (witness : ∃ (w : World) (tape : Tape) (i : Input), w.os = os ∧ (w.forCall tape i).Shaped C.prog ∧ i.vars = [] ∧ Input.okWide C.prog (w.forCall tape i) .any w.heap.size f i ∧
      s.pre6 enc C.prog fn conds false (w.forCall tape i).memory i.args ∧ ({} : Assume).holds C.prog (lone (Frame.enter C.prog f i.args .normal) [] (w.forCall tape i)))
    (laidOut : laidOutB C.prog = true) (hT : fn.params.toList.mapM (tyOf C.prog n) = some Ts) (hread : (fn.params.toList.all fun t => C.prog.readableRec t && decide (t < C.prog.types.size)) = true)
    (hres : fn.resultTypes = #[tb]) (hbool : C.prog.underlying tb = some .bool) (hvars : s.vars = [])
    (hs : ∀ ds : List (DataW H), ds.length = fn.params.toList.length → s.fn H ds = { results := [.lit (.bool true)], args := ds })
    (hgok : ∀ W, W.ShapedOpen C.prog → GOK (old W) W)
    (law : ∀ as : List D, as.length = Ts.length → Pw TyOk Ts as → ∃ r, callL C.prog ext f as [] = some (.bool true, r, [])) :
    ReturnsInHanded {} C os f .any (s.pre6 enc C.prog fn conds false) (s.post enc C.prog fn false true false false) := by
  refine returnsInHanded_of_change_shaped own started noInit hfn witness ?_
  intro W base args ds gs before hval0 hW hcnd _ hsh _
  have hval : ∀ (j : Nat) t v, fn.params.toList[j]? = some t → args.toList[j]? = some v → Value.okWide C.prog W .any base t v := fun j t v h1 h2 => hval0 j t v (by simpa using h1) (by simpa using h2)
  have hW' := hW
  obtain ⟨p, q, hA, hV, rfl, hfz, hnd⟩ := hW
  rw [hvars] at hV
  obtain ⟨rfl, rfl⟩ := trodVars_none hV
  obtain ⟨l1, l2⟩ := trodAll_len hA
  have hTl : Ts.length = fn.params.toList.length := (mapM_at hT).1
  obtain ⟨as, a1, a2, a3⟩ := trodAll_den hA hval hT
  obtain ⟨r, hr⟩ := law as (by omega) a2
  obtain ⟨N, hN⟩ := callL_aev hr
  obtain ⟨_, hc⟩ := aev_sound hP hext N f as [] _ _ _ hN
  have hcalls := hc args.toList W (old W) (fun _ => 0) a1.symm (fun i v x hv hx => .pure _ _ (a3 i v x hv hx)) (fun i bx hb => by simp at hb) (fun i j hi => absurd hi (Nat.not_lt_zero i)) (old_lt W) (hgok W hsh)
  rw [Array.toArray_toList] at hcalls
  refine hcalls.mono ?_
  rintro e W' ⟨v, F', ncl, rfl, hE, _, _, hd, _⟩
  have hb : Below W.heap.size W W' := ⟨hE.os, hE.tape, hE.output, hE.size, fun k hk => hE.block k hk (by rintro ⟨i, hi, _⟩; exact absurd hi (Nat.not_lt_zero i))⟩
  have hv : v = .bool true := by
    rcases hd with ⟨_, hd, _⟩ | ⟨hl, g, rfl, _⟩
    · exact (hd 0 fun _ _ => 0).bool_
    · simp at hl
  subst hv
  obtain ⟨pa, hpa⟩ := trodAll_stay laidOut hb hread hA
  have hfnd : s.fn H (ds ++ []) = { results := [.lit (.bool true)], args := ds } := by rw [List.append_nil]; exact hs ds l2
  refine ⟨_, rfl, ds, [], _, [], pa, [], hW', ?_, ?_, ?_, hb.frame _, fun h => by cases h⟩
  · rw [hfnd, hres]
    exact trodAll_mk1 (shut_bool hbool _)
  · rw [hfnd]
    exact hpa
  · rw [hfnd, hvars]
    rfl
end Go.Av
