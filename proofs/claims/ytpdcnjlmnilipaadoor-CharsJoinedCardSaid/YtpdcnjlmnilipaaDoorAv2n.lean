/- Words for the walks of chars.Ident and chars.Quote; a text's characters are right ones. -/
import Derived.Test.YtpdcnjlmnilipaaDoorAv2m
set_option linter.unusedVariables false
set_option linter.unusedSimpArgs false
namespace Go.Proofs.YtpdcnjlmnilipaaDoor
open Go.RowKit
theorem right_of_whole {t : List Int} (h : rWholeB t = true) : rightC (rTold t) = true := by
  simp [rWholeB] at h
  exact h.1
theorem first_right {r : List Int} (h : BytesOK r) (h0 : 0 < r.length) : rightC (firstOf r).1 = true := by
  match r, h0, h with
  | x :: r, _, h =>
    have hx := (h.mem (List.mem_cons_self ..)).1
    rw [← first_eq x r hx]
    match r with
    | [] =>
      rw [rf_1]
      split
      · exact right_of_whole (by rw [w1]; simpa using ‹_›)
      · decide
    | [y] =>
      rw [rf_2]
      repeat' split
      · exact right_of_whole (by rw [w1]; simpa using ‹_›)
      · exact right_of_whole (by rw [w2]; simpa using ‹_›)
      all_goals decide
    | [y, z] =>
      rw [rf_3]
      repeat' split
      · exact right_of_whole (by rw [w1]; simpa using ‹_›)
      · exact right_of_whole (by rw [w2]; simpa using ‹_›)
      · exact right_of_whole (by rw [w3]; simpa using ‹_›)
      all_goals decide
    | y :: z :: u :: r =>
      rw [rf_4]
      repeat' split
      · exact right_of_whole (by rw [w1]; simpa using ‹_›)
      · exact right_of_whole (by rw [w2]; simpa using ‹_›)
      · exact right_of_whole (by rw [w3]; simpa using ‹_›)
      · exact right_of_whole (by rw [w4]; simpa using ‹_›)
      all_goals decide
theorem raw_right : ∀ (n : Nat) (r : List Int), r.length ≤ n → BytesOK r → ∀ c ∈ rawChars r, rightC c = true
  | _, [], _, _ => by intro c hc; rw [rawChars_nil] at hc; cases hc
  | 0, _ :: _, h, _ => absurd h (by simp)
  | n + 1, x :: r, hn, h => by
    intro c hc
    have h0 : 0 < (x :: r).length := by simp
    rw [rawChars_of h0] at hc
    have hs := firstOf_size' h0
    rcases List.mem_cons.1 hc with rfl | hc
    · exact first_right h h0
    · exact raw_right n _ (by simp only [List.length_drop]; omega) (h.drop _) c hc
theorem raw_length : ∀ (n : Nat) (r : List Int), r.length ≤ n → (rawChars r).length ≤ r.length
  | _, [], _ => by simp [rawChars_nil]
  | 0, _ :: _, h => absurd h (by simp)
  | n + 1, x :: r, hn => by
    have h0 : 0 < (x :: r).length := by simp
    rw [rawChars_of h0]
    have hs := firstOf_size' h0
    have := raw_length n ((x :: r).drop (firstOf (x :: r)).2) (by simp only [List.length_drop]; omega)
    simp only [List.length_drop] at this
    simp only [List.length_cons] at *
    omega
/-- The text that a character is told as, in a name of n characters of which the first one is f. -/
def escC (c : Int) : List Int := 92 :: hexI c.toNat ++ [32]
def identW (n : Nat) (f : Int) (i : Nat) (c : Int) : List Int :=
  if c = 0 then rPut 65533 else if controlC c = true ∨ c = 65279 ∨ (digitC c = true ∧ (i = 0 ∨ (i = 1 ∧ f = 45))) then escC c
  else if nameC c = true ∧ ¬ (c = 45 ∧ n = 1) then rPut c else 92 :: rPut c
def quoteW (c : Int) : List Int :=
  if c = 0 then rPut 65533 else if controlC c = true then escC c else if c = 34 ∨ c = 92 then 92 :: rPut c else rPut c
/-- What the first i characters are told as. -/
def upto (W : Nat → Int → List Int) (l : List Int) : Nat → List Int
  | 0 => []
  | i + 1 => upto W l i ++ W i (l.getD i 0)
def identF (l : List Int) : List Int := upto (identW l.length (l.getD 0 0)) l l.length
def quoteF (l : List Int) : List Int := 34 :: upto (fun _ => quoteW) l l.length ++ [34]
theorem escC_length {c : Int} (h : rightC c = true) : (escC c).length ≤ 10 := by
  have := rightC_true.1 h
  have := hexI_length c.toNat (by omega)
  simp [escC]
  omega
theorem identW_length {n i : Nat} {f c : Int} (h : rightC c = true) : (identW n f i c).length ≤ 10 := by
  have := rPut_length c
  have := escC_length h
  unfold identW
  repeat' split
  · decide
  · omega
  · omega
  · simp; omega
theorem quoteW_length {c : Int} (h : rightC c = true) : (quoteW c).length ≤ 10 := by
  have := rPut_length c
  have := escC_length h
  unfold quoteW
  repeat' split
  · decide
  · omega
  · simp; omega
  · omega
theorem upto_length {W : Nat → Int → List Int} {l : List Int} (h : ∀ i, i < l.length → (W i (l.getD i 0)).length ≤ 10) : ∀ i, i ≤ l.length → (upto W l i).length ≤ 10 * i
  | 0, _ => by simp [upto]
  | i + 1, hi => by
    have := upto_length h i (by omega)
    have := h i (by omega)
    simp only [upto, List.length_append]
    omega
/-- A list of ints in a block of its kind. -/
def LsT (w : World) (a : Option Addr) (l : List Int) : Prop :=
  l ≠ [] → ∃ g off cs fr, a = some ⟨g, off, none⟩ ∧ w.heap[g]? = some (.cells cs 3 fr) ∧ ∀ i, i < l.length → w.cell? ⟨g, off + i, none⟩ = some (.int .i64 (l.getD i 0))
theorem LsT.of {w : World} {B : Nat} {a : Option Addr} {l : List Int} (h : Sl w B a (l.map (Value.int .i64))) (ht : l ≠ [] → TyB w 3 a) : LsT w a l := by
  intro hne
  have h0 : 0 < l.length := List.length_pos_iff.2 hne
  obtain ⟨g, off, rfl, hb, hc⟩ := h.int h0
  obtain ⟨g', off', cs, fr, he, hg⟩ := ht hne
  injection he with he
  injection he with h1 h2
  subst h1 h2
  exact ⟨g, off, cs, fr, rfl, hg, hc⟩
theorem LsT.kept {w w' : World} {B b : Nat} {m : List Int} {a : Option Addr} {l : List Int} (h : LsT w a l) (hi : IsI B b m w) (hk : Kx b w w') : LsT w' a l := by
  intro hne
  obtain ⟨g, off, cs, fr, rfl, hg, hc⟩ := h hne
  have hgb : g ≠ b := by
    rintro rfl
    rcases hi with ⟨_, v, h2, _⟩ | ⟨_, v, h2, _⟩ <;>
    · rw [hg] at h2
      simp at h2
  have hg' := hk g _ hg (by simpa using hgb) (by intro c fz e; simp at e)
  refine ⟨g, off, cs, fr, rfl, hg', fun i hi => ?_⟩
  rw [← hc i hi]
  unfold World.cell?
  rw [hg, hg']
theorem Wr.trans {B b : Nat} {w w1 w2 : World} {l1 l2 : List Int} (h : Wr B b w l1 w1) (h2 : Wr B b w1 l2 w2) : Wr B b w l2 w2 := ⟨h2.1, h.2.1.trans h2.2.1, h.2.2.trans h2.2.2⟩
/-- What a loop that writes character by character knows at its head. -/
structure UpRel (W : Nat → Int → List Int) (pre : List Int) (w : World) (l : List Int) (a : Option Addr) (i : Nat) (wr : World) : Prop where
  bl : IsI w.heap.size w.heap.size (pre ++ upto W l i) wr
  ls : LsT wr a l
  below : Below w.heap.size w wr
theorem UpRel.next {W : Nat → Int → List Int} {pre : List Int} {w wr w2 : World} {l x : List Int} {a : Option Addr} {i : Nat} (h : UpRel W pre w l a i wr)
    (hw : Wr w.heap.size w.heap.size wr ((pre ++ upto W l i) ++ x) w2) (hx : W i (l.getD i 0) = x) : UpRel W pre w l a (i + 1) w2 := by
  refine ⟨?_, h.ls.kept h.bl hw.2.2, h.below.trans hw.2.1⟩
  have := hw.1
  rw [upto, hx, ← List.append_assoc]
  exact this
end Go.Proofs.YtpdcnjlmnilipaaDoor
