/- What the frames of chapter 11's laws share: the tables as the rows list them; the witness; documents as arguments. No conditions. -/
import Derived.Test.YtdbimjpjpgfeeaaDoorRows
import Derived.Test.YtdbimjpjpgfeeaaDoorTie
import Derived.Test.YtdbimjpjpgfeeaaDoorAvb
import Derived.Test.YtdbimjpjpgfeeaaDoorAv11la
set_option linter.unusedSimpArgs false
set_option linter.unusedVariables false
namespace Go.Proofs.YtdbimjpjpgfeeaaDoor
open Go.RowKit Go.Av Go.ChangeShapes Go.WideShapes
theorem own : ownKnob Tryd.prog.godebug = none := by kernel_rfl
theorem laidOut : laidOutB Tryd.prog = true := by kernel_rfl
def laid11 : List (String × DataW Unit) := Rows.domGrowsRow.laid
/-- The listed variables' names. -/
def nm (i : Nat) : String := (laid11.map (·.1)).getD i default
def accP : List (Int × Int) := [(128, 191), (160, 191), (128, 159), (144, 191), (128, 143), (0, 0), (0, 0), (0, 0), (0, 0), (0, 0), (0, 0), (0, 0), (0, 0), (0, 0), (0, 0), (0, 0)]
theorem acc_data : (Rows.laid_unicode_utf8_acceptRanges : DataW Unit) = .agg (accP.map fun z => .agg [.lit (.int .u8 z.1), .lit (.int .u8 z.2)]) := rfl
theorem first_data : Rows.laid_unicode_utf8_first = .agg ((Go.Pinned.utf8FirstZ.map fun n => ((n : Nat) : Int)).map fun z => .lit (.int .u8 z)) := by kernel_rfl
theorem accP_at (i : Nat) (h : i < 16) : (accP.getD i (0, 0)).1 = (accN.getD (i * 2) 0 : Nat) ∧ (accP.getD i (0, 0)).2 = (accN.getD (i * 2 + 1) 0 : Nat) := by
  rcases (by omega : i = 0 ∨ i = 1 ∨ i = 2 ∨ i = 3 ∨ i = 4 ∨ i = 5 ∨ i = 6 ∨ i = 7 ∨ i = 8 ∨ i = 9 ∨ i = 10 ∨ i = 11 ∨ i = 12 ∨ i = 13 ∨ i = 14 ∨ i = 15) with rfl | rfl | rfl | rfl | rfl | rfl | rfl | rfl | rfl | rfl | rfl | rfl | rfl | rfl | rfl | rfl <;> exact ⟨rfl, rfl⟩
theorem fs126 : ∃ fs, Tryd.prog.underlying 126 = some (.struct fs) ∧ fs.size = 2 ∧ Go.Deep.oneCellFields Tryd.prog fs = true ∧ ∀ (i : Nat) (f : Field), fs[i]? = some f → Tryd.prog.underlying f.type = some (.int .u8) := by
  have h : (match Tryd.prog.underlying 126 with | some (.struct fs) => fs.size == 2 && Go.Deep.oneCellFields Tryd.prog fs && fs.toList.all (fun f => f.type == 5) | _ => false) = true := by kernel_rfl
  split at h
  · rename_i fs hu
    simp only [Bool.and_eq_true, beq_iff_eq, List.all_eq_true] at h
    refine ⟨fs, hu, h.1.1, h.1.2, fun i f hf => ?_⟩
    rw [h.2 f (by rw [Array.mem_toList_iff]; exact Array.mem_of_getElem? hf)]
    exact Tryd.underlying5
  · cases h
theorem st_data : (Rows.laid_wattle_sel_states : DataW Unit) = .agg (stS.map fun z => .lit (.string z)) := rfl
section
variable {H : Type} {enc : TypeId × Value → H} {P : Program} {w : World} {base : Nat} {spare : Nat → Bool} {held : Bool}
/-- An array of texts. -/
theorem cells_strs {t e : TypeId} {n fuel : Nat} {cs : List Value} {p : List MemPlace} {zs : List (List UInt8)} (ht : P.underlying t = some (.array n e)) (he : P.underlying e = some .string) (hc : P.cellsOf e = 1)
    (h : DataW.trod enc P w base spare held fuel t cs = some (.agg (zs.map fun z => .lit (.string z)), p)) : ∀ i, i < n → cs[i]? = some (.string ⟨(zs.getD i []).toArray⟩) := by
  obtain ⟨xs, m, _, ex, _, hl, hel⟩ := DataW.trod_array ht h
  intro i hi
  have hE := hel i hi
  rw [hc, Nat.mul_one, List.getElem?_eq_getElem (by omega)] at hE
  obtain ⟨z, e1, e2, _⟩ := DataW.trod_string he hE
  have e3 : xs.map (·.1) = zs.map fun z => .lit (.string z) := (DataW.agg.inj (Prod.mk.inj ex).1).symm
  have hlen : zs.length = xs.length := by have := congrArg List.length e3; simpa using this.symm
  have e4 : (xs.map (·.1))[i]? = (zs.map fun z => (DataW.lit (.string z) : DataW H))[i]? := by rw [e3]
  rw [List.getElem?_map, List.getElem?_map, List.getElem?_eq_getElem (by omega : i < xs.length), List.getElem?_eq_getElem (by omega : i < zs.length), e2] at e4
  have hz : z.data.toList = zs.getD i [] := by
    simp only [Option.map_some, Option.some.injEq, DataW.lit.injEq, Lit.string.injEq] at e4
    rw [e4, List.getD, List.getElem?_eq_getElem (by omega : i < zs.length)]; rfl
  rw [← hz]
  have h0 : ((cs.drop i).take 1)[0]? = some (.string z) := by rw [e1]; rfl
  simpa using h0
end
theorem pw_strs {F : Nat → Nat → Prop} {w : World} (ss : List (List UInt8)) : ∀ (i : Nat) (v : Value) (x : D), (ss.map fun s => Value.string ⟨s.toArray⟩)[i]? = some v → (ss.map D.str)[i]? = some x → Den0 F w v x := by
  intro i v x hv hx
  simp only [List.getElem?_map, Option.map_eq_some_iff] at hv hx
  obtain ⟨z, hz, rfl⟩ := hv
  obtain ⟨z', hz', rfl⟩ := hx
  rw [hz] at hz'
  obtain rfl := Option.some.inj hz'
  exact .str z
theorem fix_of {W : World} {g : Nat} {ss : List (List UInt8)} (h : ∀ c, c < ss.length → W.cell? ⟨g, c, none⟩ = some (.string ⟨(ss.getD c []).toArray⟩)) : Den0 (old W) W (.pointer (some ⟨g, 0, none⟩)) (.fix (.agg (ss.map .str)) 0) := by
  refine Den0.fix (.agg (ss.map D.str)) g 0 0 (ss.map fun s => Value.string ⟨s.toArray⟩) (by simp [dcells]) (fun i v hv => ?_) (pw_strs _)
  simp only [List.getElem?_map, Option.map_eq_some_iff] at hv
  obtain ⟨z, hz, rfl⟩ := hv
  have hlt : i < ss.length := (List.getElem?_eq_some_iff.1 hz).1
  have hcell := h i hlt
  rw [List.getD, hz] at hcell
  rw [Nat.zero_add]
  exact ⟨cell_old hcell, hcell, rfl⟩
theorem pw_ints {F : Nat → Nat → Prop} {w : World} (ns : List Nat) : ∀ (i : Nat) (v : Value) (x : D), (ns.map fun n => Value.int .u8 (n : Nat))[i]? = some v → (ns.map fun n => D.int .u8 (n : Nat))[i]? = some x → Den0 F w v x := by
  intro i v x hv hx
  simp only [List.getElem?_map, Option.map_eq_some_iff] at hv hx
  obtain ⟨z, hz, rfl⟩ := hv
  obtain ⟨z', hz', rfl⟩ := hx
  rw [hz] at hz'
  obtain rfl := Option.some.inj hz'
  exact .int _ _
theorem fix_ints {W : World} {g : Nat} {ns : List Nat} (h : ∀ c, c < ns.length → W.cell? ⟨g, c, none⟩ = some (.int .u8 (ns.getD c 0 : Nat))) : Den0 (old W) W (.pointer (some ⟨g, 0, none⟩)) (.fix (.agg (ns.map fun n => .int .u8 (n : Nat))) 0) := by
  refine Den0.fix (.agg (ns.map fun n => D.int .u8 (n : Nat))) g 0 0 (ns.map fun n => Value.int .u8 (n : Nat)) (by simp [dcells]) (fun i v hv => ?_) (pw_ints _)
  simp only [List.getElem?_map, Option.map_eq_some_iff] at hv
  obtain ⟨z, hz, rfl⟩ := hv
  have hlt : i < ns.length := (List.getElem?_eq_some_iff.1 hz).1
  have hcell := h i hlt
  rw [List.getD, hz] at hcell
  rw [Nat.zero_add]
  exact ⟨cell_old hcell, hcell, rfl⟩
theorem gok11 {W : World} (h : laidMetH Tryd.prog laid11 W) : GOK (old W) W := by
  rw [MakeChecks.laidMetH_plain _ _ _ (by kernel_rfl)] at h
  obtain ⟨ps, ⟨g0, t0, cs0, f0, p0, q0, hg0, ht0, hv0, hd0, ⟨g1, t1, cs1, f1, p1, q1, hg1, ht1, hv1, hd1, ⟨g2, t2, cs2, f2, p2, q2, hg2, ht2, hv2, hd2, _⟩, _⟩, _⟩, _, _⟩ := h
  obtain rfl := Option.some.inj ((show Tryd.prog.globalNamed (nm 0) = some 3 by kernel_rfl).symm.trans hg0)
  obtain rfl := Option.some.inj ((show (Tryd.prog.globals[3]?).map (·.type) = some 127 by kernel_rfl).symm.trans ht0)
  obtain rfl := Option.some.inj ((show Tryd.prog.globalNamed (nm 1) = some 1 by kernel_rfl).symm.trans hg1)
  obtain rfl := Option.some.inj ((show (Tryd.prog.globals[1]?).map (·.type) = some 121 by kernel_rfl).symm.trans ht1)
  obtain rfl := Option.some.inj ((show Tryd.prog.globalNamed (nm 2) = some 2 by kernel_rfl).symm.trans hg2)
  obtain rfl := Option.some.inj ((show (Tryd.prog.globals[2]?).map (·.type) = some 124 by kernel_rfl).symm.trans ht2)
  have h1 : ∀ c, c < stS.length → W.cell? ⟨1, c, none⟩ = some (.string ⟨(stS.getD c []).toArray⟩) := by
    intro c hc
    rw [st_data] at hd1
    have := cells_strs Tryd.underlying121 Tryd.underlying9 (by kernel_rfl) hd1 c hc
    rw [World.var?_cell (show Tryd.prog.globalNamed (nm 1) = some 1 by kernel_rfl) hv1 c]
    simpa using this
  have h2 : ∀ c, c < ((List.range 256).map firstN).length → W.cell? ⟨2, c, none⟩ = some (.int .u8 (((List.range 256).map firstN).getD c 0 : Nat)) := by
    intro c hc
    have hc : c < 256 := by simpa using hc
    rw [first_data] at hd2
    have := cells_ints (k := .u8) Tryd.underlying124 Tryd.underlying5 (by kernel_rfl) hd2 c hc
    rw [World.var?_cell (show Tryd.prog.globalNamed (nm 2) = some 2 by kernel_rfl) hv2 c]
    have hz : (Go.Pinned.utf8FirstZ.map fun n => ((n : Nat) : Int)).getD c 0 = (firstN c : Nat) := by
      unfold firstN
      have hlen : Go.Pinned.utf8FirstZ.length = 256 := by kernel_rfl
      rw [List.getD, List.getD, List.getElem?_map, List.getElem?_eq_getElem (by omega : c < Go.Pinned.utf8FirstZ.length)]
      rfl
    rw [hz] at this
    have e : ((List.range 256).map firstN).getD c 0 = firstN c := by
      rw [List.getD, List.getElem?_map, List.getElem?_range hc]
      rfl
    rw [e]
    simpa using this
  have h3 : ∀ c, c < accN.length → W.cell? ⟨3, c, none⟩ = some (.int .u8 (accN.getD c 0 : Nat)) := by
    intro i hi
    have hi : i < 32 := hi
    rw [acc_data] at hd0
    obtain ⟨fs, h1, h2, h3, h4⟩ := fs126
    have := cells_pairs (u := 5) (k := .u8) Tryd.underlying127 h1 h2 h3 h4 (by kernel_rfl) hd0 (i / 2) (by omega)
    obtain ⟨e1, e2⟩ := accP_at (i / 2) (by omega)
    rw [e1, e2] at this
    rw [World.var?_cell (show Tryd.prog.globalNamed (nm 0) = some 3 by kernel_rfl) hv0 i]
    rcases (by omega : i = i / 2 * 2 ∨ i = i / 2 * 2 + 1) with e | e
    · rw [← e] at this; simpa using this.1
    · rw [← e] at this; simpa using this.2
  refine ⟨fun g => ?_, fun x hx => by cases hx⟩
  show (if g = 1 then D.fix (.agg stD) 0 else if g = 2 then .fix (.agg firstD) 0 else if g = 3 then .fix (.agg accD) 0 else .bad) = .bad ∨ Den0 (old W) W (.pointer (some ⟨g, 0, none⟩)) (if g = 1 then D.fix (.agg stD) 0 else if g = 2 then .fix (.agg firstD) 0 else if g = 3 then .fix (.agg accD) 0 else .bad)
  by_cases c1 : g = 1
  · subst c1; exact .inr (fix_of h1)
  · by_cases c2 : g = 2
    · subst c2
      right
      have := fix_ints h2
      rw [List.map_map] at this
      exact this
    · by_cases c3 : g = 3
      · subst c3; exact .inr (fix_ints h3)
      · left; rw [if_neg c1, if_neg c2, if_neg c3]
theorem law_calls {ext : Av.Call} (hext : CallOK Tryd.prog ext) {f : FuncId} {xs : List D} {r : List Room} {vals : List Value} {W : World} (hL : laidMetH Tryd.prog laid11 W) (h : callL Tryd.prog ext f xs [] = some (.bool true, r, [])) (hl : vals.length = xs.length)
    (hd : ∀ (i : Nat) (v : Value) (x : D), vals[i]? = some v → xs[i]? = some x → Den0 (old W) W v x) : Calls Tryd.prog f vals.toArray W fun e W' => e = .returned (.bool true) ∧ Below W.heap.size W W' := by
  obtain ⟨N, hN⟩ := callL_aev h
  obtain ⟨_, hcall⟩ := aev_sound fine11 hext N f _ [] _ _ _ hN
  have hcalls := hcall vals W (old W) (fun _ => 0) hl (fun i v x hv hx => .pure _ _ (hd i v x hv hx)) (fun i bx hb => by simp at hb) (fun i j hi => absurd hi (Nat.not_lt_zero i)) (old_lt W) (gok11 hL)
  refine hcalls.mono ?_
  rintro e W' ⟨v, F', ncl, rfl, hE, _, _, hd, _⟩
  rcases hd with ⟨_, hd, _⟩ | ⟨hl, _⟩
  · exact ⟨by rw [(hd 0 fun _ _ => 0).bool_], hE.os, hE.tape, hE.output, hE.size, fun k hk => hE.block k hk (by rintro ⟨i, hi, _⟩; exact absurd hi (Nat.not_lt_zero i))⟩
  · simp at hl
theorem witness11 {H : Type} (enc : TypeId × Value → H) (os : Os) (args : Array Value) : laidMetH Tryd.prog laid11 ((World.laidAll Tryd.prog os laid11).forCall (fun _ _ => 0) ⟨#[], args, []⟩).memory := by
  rw [MakeChecks.laidMetH_plain _ _ _ (by kernel_rfl)]
  exact laidMet_laidAll _ (by kernel_rfl) (by kernel_rfl)
theorem str_ok {d : D} (h : TyOk .str d) : ∃ s, d = .str s ∧ s.length ≤ maxLen := by
  cases h
  exact ⟨_, rfl, by assumption⟩
theorem int_ok {d : D} (h : TyOk (.int .i64) d) : ∃ z : Int, d = .int .i64 z ∧ -9223372036854775808 ≤ z ∧ z < 9223372036854775808 := by
  cases h with
  | int k n hw =>
    have : (Lit.int .i64 n).wf = true := hw
    simp [Lit.wf, IntKind.min, IntKind.max, IntKind.signed, IntKind.bits] at this
    exact ⟨n, rfl, by omega, by omega⟩
abbrev atTy : Ty := .agg [.str, .str, .str]
abbrev ndTy : Ty := .agg [.int .i64, .int .i64, .str, .str, .list 3 atTy, .list 1 .str, .str]
theorem list_ok {α : Type} {f : α → D} {e : Ty} {sz : Nat} (hf : ∀ d, TyOk e d → ∃ a, d = f a) {d : D} (h : TyOk (.list sz e) d) : ∃ l : List α, d = .list (l.map f) := by
  cases h with
  | list sz e es hl h =>
    clear hl
    induction es with
    | nil => exact ⟨[], rfl⟩
    | cons x r ih =>
      obtain ⟨l, hl⟩ := ih fun d hd => h d (by simp [hd])
      obtain ⟨a, ha⟩ := hf x (h x (by simp))
      injection hl with hl
      exact ⟨a :: l, by rw [hl, ha]; rfl⟩
theorem at_ok {d : D} (h : TyOk atTy d) : ∃ a : At, d = a.d := by
  cases h with
  | agg ts ds hl h =>
    match ds, hl with
    | [x, y, z], _ =>
      obtain ⟨a, rfl, _⟩ := str_ok (h 0 _ _ rfl rfl)
      obtain ⟨b, rfl, _⟩ := str_ok (h 1 _ _ rfl rfl)
      obtain ⟨c, rfl, _⟩ := str_ok (h 2 _ _ rfl rfl)
      exact ⟨⟨a, b, c⟩, rfl⟩
theorem nd_ok {d : D} (h : TyOk ndTy d) : ∃ n : Nd, d = n.d ∧ (-9223372036854775808 ≤ n.p ∧ n.p < 9223372036854775808) ∧ (-9223372036854775808 ≤ n.k ∧ n.k < 9223372036854775808) := by
  cases h with
  | agg ts ds hl h =>
    match ds, hl with
    | [x0, x1, x2, x3, x4, x5, x6], _ =>
      obtain ⟨p, rfl, hp⟩ := int_ok (h 0 _ _ rfl rfl)
      obtain ⟨k, rfl, hk⟩ := int_ok (h 1 _ _ rfl rfl)
      obtain ⟨sp, rfl, _⟩ := str_ok (h 2 _ _ rfl rfl)
      obtain ⟨nm, rfl, _⟩ := str_ok (h 3 _ _ rfl rfl)
      obtain ⟨la, rfl⟩ := list_ok (f := At.d) (fun d h => at_ok h) (h 4 _ _ rfl rfl)
      obtain ⟨ls, rfl⟩ := list_ok (f := D.str) (fun d h => (str_ok h).imp fun _ h => h.1) (h 5 _ _ rfl rfl)
      obtain ⟨tx, rfl, _⟩ := str_ok (h 6 _ _ rfl rfl)
      exact ⟨⟨p, k, sp, nm, la, ls, tx⟩, rfl, hp, hk⟩
theorem doc_ok {d : D} (h : TyOk (.list 7 ndTy) d) : ∃ ns : List Nd, d = .list (ns.map Nd.d) := list_ok (f := Nd.d) (fun d h => (nd_ok h).imp fun _ h => h.1) h
end Go.Proofs.YtdbimjpjpgfeeaaDoor
