/- What the frames of this door's laws share: the two tables as the row lists them; the witness; arguments that are bytes. No conditions. -/
import Derived.Test.YtliflodflpecmaaDoorRows
import Derived.Test.YtliflodflpecmaaDoorTie
import Derived.Test.YtliflodflpecmaaDoorAvb
import Derived.Test.YtliflodflpecmaaDoorAv1b
set_option linter.unusedSimpArgs false
set_option linter.unusedVariables false
namespace Go.Proofs.YtliflodflpecmaaDoor
open Go.RowKit Go.Av Go.ChangeShapes Go.WideShapes
theorem own : ownKnob Tryd.prog.godebug = none := by kernel_rfl
theorem laidOut : laidOutB Tryd.prog = true := by kernel_rfl
def laid1 : List (String × DataW Unit) := Rows.decodeReadsRow.laid
/-- The listed variables' names. -/
def nm (i : Nat) : String := (laid1.map (·.1)).getD i default
def accP : List (Int × Int) := [(128, 191), (160, 191), (128, 159), (144, 191), (128, 143), (0, 0), (0, 0), (0, 0), (0, 0), (0, 0), (0, 0), (0, 0), (0, 0), (0, 0), (0, 0), (0, 0)]
theorem acc_data : (Rows.laid_unicode_utf8_acceptRanges : DataW Unit) = .agg (accP.map fun z => .agg [.lit (.int .u8 z.1), .lit (.int .u8 z.2)]) := rfl
theorem first_data : Rows.laid_unicode_utf8_first = .agg ((Go.Pinned.utf8FirstZ.map fun n => ((n : Nat) : Int)).map fun z => .lit (.int .u8 z)) := by kernel_rfl
theorem accP_at (i : Nat) (h : i < 16) : (accP.getD i (0, 0)).1 = (accN.getD (i * 2) 0 : Nat) ∧ (accP.getD i (0, 0)).2 = (accN.getD (i * 2 + 1) 0 : Nat) := by
  rcases (by omega : i = 0 ∨ i = 1 ∨ i = 2 ∨ i = 3 ∨ i = 4 ∨ i = 5 ∨ i = 6 ∨ i = 7 ∨ i = 8 ∨ i = 9 ∨ i = 10 ∨ i = 11 ∨ i = 12 ∨ i = 13 ∨ i = 14 ∨ i = 15) with rfl | rfl | rfl | rfl | rfl | rfl | rfl | rfl | rfl | rfl | rfl | rfl | rfl | rfl | rfl | rfl <;> exact ⟨rfl, rfl⟩
theorem fs54 : ∃ fs, Tryd.prog.underlying 54 = some (.struct fs) ∧ fs.size = 2 ∧ Go.Deep.oneCellFields Tryd.prog fs = true ∧ ∀ (i : Nat) (f : Field), fs[i]? = some f → Tryd.prog.underlying f.type = some (.int .u8) := by
  have h : (match Tryd.prog.underlying 54 with | some (.struct fs) => fs.size == 2 && Go.Deep.oneCellFields Tryd.prog fs && fs.toList.all (fun f => f.type == 5) | _ => false) = true := by kernel_rfl
  split at h
  · rename_i fs hu
    simp only [Bool.and_eq_true, beq_iff_eq, List.all_eq_true] at h
    refine ⟨fs, hu, h.1.1, h.1.2, fun i f hf => ?_⟩
    rw [h.2 f (by rw [Array.mem_toList_iff]; exact Array.mem_of_getElem? hf)]
    exact Tryd.underlying5
  · cases h
theorem tabs_of_laid {W : World} (h : laidMetH Tryd.prog laid1 W) : TabsOK W := by
  rw [MakeChecks.laidMetH_plain _ _ _ (by kernel_rfl)] at h
  obtain ⟨ps, ⟨g0, t0, cs0, f0, p0, q0, hg0, ht0, hv0, hd0, ⟨g1, t1, cs1, f1, p1, q1, hg1, ht1, hv1, hd1, _, _⟩, _⟩, _, _⟩ := h
  obtain rfl := Option.some.inj ((show Tryd.prog.globalNamed (nm 0) = some 1 by kernel_rfl).symm.trans hg0)
  obtain rfl := Option.some.inj ((show Tryd.prog.globalNamed (nm 1) = some 0 by kernel_rfl).symm.trans hg1)
  obtain rfl := Option.some.inj ((show (Tryd.prog.globals[1]?).map (·.type) = some 55 by kernel_rfl).symm.trans ht0)
  obtain rfl := Option.some.inj ((show (Tryd.prog.globals[0]?).map (·.type) = some 52 by kernel_rfl).symm.trans ht1)
  refine ⟨fun c hc => ?_, fun i hi => ?_⟩
  · rw [first_data] at hd1
    have := cells_ints (k := .u8) Tryd.underlying52 Tryd.underlying5 (by kernel_rfl) hd1 c hc
    rw [World.var?_cell (show Tryd.prog.globalNamed (nm 1) = some 0 by kernel_rfl) hv1 c]
    have hz : (Go.Pinned.utf8FirstZ.map fun n => ((n : Nat) : Int)).getD c 0 = (firstN c : Nat) := by
      unfold firstN
      have hlen : Go.Pinned.utf8FirstZ.length = 256 := by kernel_rfl
      rw [List.getD, List.getD, List.getElem?_map, List.getElem?_eq_getElem (by omega : c < Go.Pinned.utf8FirstZ.length)]
      rfl
    rw [hz] at this
    simpa using this
  · rw [acc_data] at hd0
    obtain ⟨fs, h1, h2, h3, h4⟩ := fs54
    have := cells_pairs (u := 5) (k := .u8) Tryd.underlying55 h1 h2 h3 h4 (by kernel_rfl) hd0 (i / 2) (by omega)
    obtain ⟨e1, e2⟩ := accP_at (i / 2) (by omega)
    rw [e1, e2] at this
    rw [World.var?_cell (show Tryd.prog.globalNamed (nm 0) = some 1 by kernel_rfl) hv0 i]
    rcases (by omega : i = i / 2 * 2 ∨ i = i / 2 * 2 + 1) with e | e
    · rw [← e] at this; simpa using this.1
    · rw [← e] at this; simpa using this.2
theorem witness1 {H : Type} (enc : TypeId × Value → H) (os : Os) (f : FuncId) : laidMetH Tryd.prog laid1 ((World.laidAll Tryd.prog os laid1).forCall (fun _ _ => 0) ⟨#[], #[.slice none 0 0], []⟩).memory := by
  rw [MakeChecks.laidMetH_plain _ _ _ (by kernel_rfl)]
  exact laidMet_laidAll _ (by kernel_rfl) (by kernel_rfl)
/-- A list of bytes, as an argument. -/
theorem bytes_ok {d : D} (h : TyOk (.list 1 (.int .u8)) d) : ∃ zs : List Int, d = .list (zs.map (D.int .u8)) ∧ BytesOK zs := by
  cases h with
  | list sz e es hl h =>
    clear hl
    induction es with
    | nil => exact ⟨[], rfl, fun i hi => by simp at hi⟩
    | cons x r ih =>
      obtain ⟨zs, hz, hok⟩ := ih fun d hd => h d (by simp [hd])
      have hx := h x (by simp)
      cases hx with
      | int k n hw =>
        injection hz with hz
        refine ⟨n :: zs, by rw [hz]; rfl, fun i hi => ?_⟩
        cases i with
        | zero =>
          have : (Lit.int .u8 n).wf = true := hw
          simp [Lit.wf, IntKind.min, IntKind.max, IntKind.signed, IntKind.bits] at this
          simpa using (by omega : 0 ≤ n ∧ n < 256)
        | succ i => exact hok i (by simpa using hi)
end Go.Proofs.YtliflodflpecmaaDoor
