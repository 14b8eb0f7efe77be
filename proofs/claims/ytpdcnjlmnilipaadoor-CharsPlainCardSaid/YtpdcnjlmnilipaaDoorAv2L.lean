/- What the frames of this door's laws share: the table of math/bits as the row lists it; the witness; arguments. No conditions. -/
import Derived.Test.YtpdcnjlmnilipaaDoorRows
import Derived.Test.YtpdcnjlmnilipaaDoorTie
import Derived.Test.YtpdcnjlmnilipaaDoorAvb
import Derived.Test.YtpdcnjlmnilipaaDoorAv2w
set_option linter.unusedSimpArgs false
set_option linter.unusedVariables false
namespace Go.Proofs.YtpdcnjlmnilipaaDoor
open Go.RowKit Go.Av Go.ChangeShapes Go.WideShapes
theorem own : ownKnob Tryd.prog.godebug = none := by kernel_rfl
theorem laidOut : laidOutB Tryd.prog = true := by kernel_rfl
def laid2 : List (String × DataW Unit) := Rows.charsTextsRow.laid
/-- The listed variables' names. -/
def nm (i : Nat) : String := (laid2.map (·.1)).getD i default
def debI : List Int := [0, 1, 56, 2, 57, 49, 28, 3, 61, 58, 42, 50, 38, 29, 17, 4, 62, 47, 59, 36, 45, 43, 51, 22, 53, 39, 33, 30, 24, 18, 12, 5, 63, 55, 48, 27, 60, 41, 37, 16, 46, 35, 44, 21, 52, 32, 23, 11, 54, 26, 40, 15, 34, 20, 31, 10, 25, 14, 19, 9, 13, 8, 7, 6]
theorem deb_data : (Rows.laid_math_bits_deBruijn64tab : DataW Unit) = .agg (debI.map fun z => .lit (.int .u8 z)) := rfl
theorem tab_of_laid {W : World} (h : laidMetH Tryd.prog laid2 W) : ∀ c, c < 64 → W.cell? ⟨3, c, none⟩ = some (.int .u8 (debI.getD c 0)) := by
  rw [MakeChecks.laidMetH_plain _ _ _ (by kernel_rfl)] at h
  obtain ⟨ps, ⟨_, _, _, _, _, _, _, _, _, _, ⟨g0, t0, cs0, f0, p0, q0, hg0, ht0, hv0, hd0, _⟩, _⟩, _, _⟩ := h
  obtain rfl := Option.some.inj ((show Tryd.prog.globalNamed (nm 1) = some 3 by kernel_rfl).symm.trans hg0)
  obtain rfl := Option.some.inj ((show (Tryd.prog.globals[3]?).map (·.type) = some 86 by kernel_rfl).symm.trans ht0)
  intro c hc
  rw [deb_data] at hd0
  have := cells_ints (k := .u8) Tryd.underlying86 Tryd.underlying5 (by kernel_rfl) hd0 c hc
  rw [World.var?_cell (show Tryd.prog.globalNamed (nm 1) = some 3 by kernel_rfl) hv0 c]
  simpa using this
theorem gok2 {W : World} (h : laidMetH Tryd.prog laid2 W) : GOK (old W) W := by
  refine ⟨fun g => .inl rfl, fun x hx => ?_⟩
  obtain rfl : x = (3, TabD) := by simpa using (show x ∈ [(3, TabD)] from hx)
  refine ⟨_, ⟨debI, rfl, rfl⟩, ?_⟩
  refine Den0.fix (.agg (debI.map (D.int .u8))) 3 0 0 (debI.map (Value.int .u8)) (by simp [dcells]) (fun i v hv => ?_) (pw_ints _ _)
  simp only [List.getElem?_map, Option.map_eq_some_iff] at hv
  obtain ⟨z, hz, rfl⟩ := hv
  have hlt : i < 64 := (List.getElem?_eq_some_iff.1 hz).1
  have hcell := tab_of_laid h i hlt
  rw [List.getD, hz] at hcell
  rw [Nat.zero_add]
  exact ⟨cell_old hcell, hcell, rfl⟩
theorem law_calls {f : FuncId} {xs : List D} {r : List Room} {vals : List Value} {W : World} (hL : laidMetH Tryd.prog laid2 W) (h : callL Tryd.prog ext2 f xs [] = some (.bool true, r, [])) (hl : vals.length = xs.length)
    (hd : ∀ (i : Nat) (v : Value) (x : D), vals[i]? = some v → xs[i]? = some x → Den0 (old W) W v x) : Calls Tryd.prog f vals.toArray W fun e W' => e = .returned (.bool true) ∧ Below W.heap.size W W' := by
  obtain ⟨N, hN⟩ := callL_aev h
  obtain ⟨_, hcall⟩ := aev_sound fine2 ext2_ok N f _ [] _ _ _ hN
  have hcalls := hcall vals W (old W) (fun _ => 0) hl (fun i v x hv hx => .pure _ _ (hd i v x hv hx)) (fun i bx hb => by simp at hb) (fun i j hi => absurd hi (Nat.not_lt_zero i)) (old_lt W) (gok2 hL)
  refine hcalls.mono ?_
  rintro e W' ⟨v, F', ncl, rfl, hE, _, _, hd, _⟩
  rcases hd with ⟨_, hd, _⟩ | ⟨hl, _⟩
  · exact ⟨by rw [(hd 0 fun _ _ => 0).bool_], hE.os, hE.tape, hE.output, hE.size, fun k hk => hE.block k hk (by rintro ⟨i, hi, _⟩; exact absurd hi (Nat.not_lt_zero i))⟩
  · simp at hl
theorem witness2 {H : Type} (enc : TypeId × Value → H) (os : Os) (args : Array Value) : laidMetH Tryd.prog laid2 ((World.laidAll Tryd.prog os laid2).forCall (fun _ _ => 0) ⟨#[], args, []⟩).memory := by
  rw [MakeChecks.laidMetH_plain _ _ _ (by kernel_rfl)]
  exact laidMet_laidAll _ (by kernel_rfl) (by kernel_rfl)
theorem str_ok {d : D} (h : TyOk .str d) : ∃ s, d = .str s ∧ s.length ≤ maxLen := by
  cases h
  exact ⟨_, rfl, by assumption⟩
theorem u8_ok {d : D} (h : TyOk (.int .u8) d) : ∃ n : Int, d = .int .u8 n ∧ 0 ≤ n ∧ n < 256 := by
  cases h with
  | int k n hw =>
    have : (Lit.int .u8 n).wf = true := hw
    simp [Lit.wf, IntKind.min, IntKind.max, IntKind.signed, IntKind.bits] at this
    exact ⟨n, rfl, by omega⟩
/-- A list of bytes, as an argument. -/
theorem bytes_ok {d : D} (h : TyOk (.list 1 (.int .u8)) d) : ∃ zs : List Int, d = .list (zs.map (D.int .u8)) ∧ BytesOK zs := by
  cases h with
  | list sz e es hl h =>
    clear hl
    induction es with
    | nil => exact ⟨[], rfl, fun i hi => by simp at hi⟩
    | cons x r ih =>
      obtain ⟨zs, hz, hok⟩ := ih fun d hd => h d (by simp [hd])
      obtain ⟨n, rfl, hn⟩ := u8_ok (h x (by simp))
      injection hz with hz
      refine ⟨n :: zs, by rw [hz]; rfl, fun i hi => ?_⟩
      cases i with
      | zero => simpa using hn
      | succ i => exact hok i (by simpa using hi)
end Go.Proofs.YtpdcnjlmnilipaaDoor
