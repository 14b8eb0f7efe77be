/- Chapter 11: nodes as plain data. No program in sight. -/
import Derived.Test.YtdbimjpjpgfeeaaDoorAv11hc
set_option linter.unusedVariables false
set_option linter.unusedSimpArgs false
namespace Go.Av
structure At where
  sp : List UInt8
  nm : List UInt8
  vl : List UInt8
  deriving DecidableEq
structure Nd where
  p : Int
  k : Int
  sp : List UInt8
  nm : List UInt8
  at_ : List At
  st : List (List UInt8)
  tx : List UInt8
  deriving DecidableEq
def At.d (a : At) : D := .agg [.str a.sp, .str a.nm, .str a.vl]
def Nd.d (n : Nd) : D := .agg [.int .i64 n.p, .int .i64 n.k, .str n.sp, .str n.nm, .list (n.at_.map At.d), .list (n.st.map .str), .str n.tx]
theorem at_eq (a b : At) : (a.sp == b.sp && (a.nm == b.nm && (a.vl == b.vl))) = decide (a = b) := by
  cases a; cases b
  rw [Bool.eq_iff_iff]
  simp
theorem drop_eq {α : Type} [DecidableEq α] {xs ys : List α} {i : Nat} {x y : α} (hx : xs[i]? = some x) (hy : ys[i]? = some y) : decide (xs.drop i = ys.drop i) = (decide (x = y) && decide (xs.drop (i + 1) = ys.drop (i + 1))) := by
  have h1 : i < xs.length := (List.getElem?_eq_some_iff.1 hx).1
  have h2 : i < ys.length := (List.getElem?_eq_some_iff.1 hy).1
  have e1 : xs[i] = x := (List.getElem?_eq_some_iff.1 hx).2
  have e2 : ys[i] = y := (List.getElem?_eq_some_iff.1 hy).2
  rw [List.drop_eq_getElem_cons h1, List.drop_eq_getElem_cons h2, e1, e2, Bool.eq_iff_iff]
  simp
theorem drop_end {α : Type} [DecidableEq α] {xs ys : List α} {i : Nat} (h : xs.length = ys.length) (hi : xs.length ≤ i) : decide (xs.drop i = ys.drop i) = true := by
  rw [List.drop_eq_nil_of_le hi, List.drop_eq_nil_of_le (by omega)]
  rfl
theorem len_ne {α : Type} [DecidableEq α] {xs ys : List α} (h : xs.length ≠ ys.length) : decide (xs = ys) = false := by
  simp only [decide_eq_false_iff_not]
  rintro rfl
  exact h rfl
theorem getD_map {α : Type} {xs : List α} {f : α → D} {i : Nat} {x : α} (h : xs[i]? = some x) : (xs.map f).getD i .bad = f x := by
  simp [List.getD, h]
theorem some_at {α : Type} {xs : List α} {i : Nat} (h : i < xs.length) : ∃ x, xs[i]? = some x := ⟨_, List.getElem?_eq_getElem h⟩
theorem lenM {α : Type} (xs : List α) (f : α → D) : ((xs.map f).length : Int) = xs.length := by simp
theorem lenM0 {α : Type} (xs : List α) (f : α → D) : (xs.map f).length = xs.length := by simp
end Go.Av
