/- The walk of decode's first. Conditions: the slice reads as bytes, and has one. -/
import Derived.Test.YtaldmffahmomoaaDec
import Derived.Test.YtaldmffahmomoaaOwn
namespace Go.Proofs.Ytaldmffahmomoaa
open Go.RowKit

def BytesOK (zs : List Int) : Prop := ∀ i, i < zs.length → 0 ≤ zs.getD i 0 ∧ zs.getD i 0 < 256

def chOK (need : Nat) (ch : Int) : Prop := 0 ≤ ch ∧ ((need = 3 ∧ ch < 128) ∨ (need = 2 ∧ ch < 8192) ∨ (need = 1 ∧ ch < 524288) ∨ (need = 0 ∧ ch < 33554432))
theorem chOK.start {c ch lo up : Int} {need : Nat} (h0 : 0 ≤ c) (h : beg c = some (ch, need, lo, up)) : chOK need ch := by
  have := beg_bounds h0 h
  unfold chOK
  omega
theorem chOK.next {need : Nat} {ch c : Int} (h : chOK (need + 1) ch) : chOK need (ch * 64 + c % 64) := by
  unfold chOK at *
  omega
theorem chOK.bd {need : Nat} {ch : Int} (h : chOK (need + 1) ch) : 0 ≤ ch ∧ ch ≤ 1000000 ∧ need < 3 := by
  unfold chOK at h
  omega

def FirstPost (w : World) (zs : List Int) (e : Ending) (w' : World) : Prop :=
  e = .returned (.tuple #[.int .i64 (firstOf zs).1, .int .i64 ((firstOf zs).2 : Nat)]) ∧ Below w.heap.size w w'
theorem FirstPost.mk' {w w' : World} {zs : List Int} {x : Int} {k : Nat} {e : Ending} (h : firstOf zs = (x, k)) (he : e = .returned (.tuple #[.int .i64 x, .int .i64 (k : Nat)])) (hb : Below w.heap.size w w') : FirstPost w zs e w' :=
  ⟨by rw [h]; exact he, hb⟩

theorem goOn_end {n : Nat} {ch lo up : Int} {zs : List Int} {s k : Nat} (hs : zs.length ≤ s) : goOn (n + 1) ch lo up (zs.drop s) k = (65533, k) := by
  rw [List.drop_eq_nil_of_le hs]; rfl
theorem goOn_cons {n : Nat} {ch lo up : Int} {zs : List Int} {s k : Nat} (hs : s < zs.length) :
    goOn (n + 1) ch lo up (zs.drop s) k = if zs.getD s 0 < lo ∨ up < zs.getD s 0 then (65533, k) else goOn n (ch * 64 + zs.getD s 0 % 64) 128 191 (zs.drop (s + 1)) (k + 1) := by
  rw [List.drop_eq_getElem_cons hs]
  simp [goOn, hs]

theorem firstOf_none {zs : List Int} {z : Int} (h0 : 0 < zs.length) (hz : zs.getD 0 0 = z) (h : beg z = none) : firstOf zs = (65533, 1) := by
  cases zs with
  | nil => simp at h0
  | cons y r =>
    simp at hz
    subst hz
    simp [firstOf, h]
theorem firstOf_some {zs : List Int} {z ch lo up : Int} {need : Nat} (h0 : 0 < zs.length) (hz : zs.getD 0 0 = z) (h : beg z = some (ch, need, lo, up)) : firstOf zs = goOn need ch lo up (zs.drop 1) 1 := by
  cases zs with
  | nil => simp at h0
  | cons y r =>
    simp at hz
    subst hz
    simp [firstOf, h]
end Go.Proofs.Ytaldmffahmomoaa
