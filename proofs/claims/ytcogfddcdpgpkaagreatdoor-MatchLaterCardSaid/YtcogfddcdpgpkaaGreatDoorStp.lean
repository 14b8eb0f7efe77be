/- Steps of regions that draw their order: append of lists of integers, the value written out as a slice; and what is kept in later worlds. Over any program. -/
import Derived.Test.YtcogfddcdpgpkaaGreatDoorOwn
import Derived.Deep.RegionLaw
namespace Go.Proofs.YtcogfddcdpgpkaaGreatDoor
open Go.RowKit

/-- w' is later than w, and all that w had stands as it was. -/
abbrev Ge (w w' : World) : Prop := Below w.heap.size w w'
section
variable {w w' w'' : World} {o o' : Obj}
theorem Ge.new (h : Ge w w') (o : Obj) : Ge w (w'.alloc o) := Below.alloc h h.size o
theorem Ge.drew (h : Ge w w') : Ge w w'.drew := Below.drew h
theorem Ge.drewN (h : Ge w w') (n : Nat) : Ge w (w'.drewN n) := below_drewN h n
theorem Ge.tr (h : Ge w w') (h' : Ge w' w'') : Ge w w'' := Below.trans h (h'.mono h.size)
theorem ge_of_a (h : Ge (w.alloc o) w') : Ge w w' := Ge.tr (Ge.new (Below.refl _ w) o) h
theorem ge_of_d (h : Ge w.drew w') : Ge w w' := Ge.tr (Ge.drew (Below.refl _ w)) h
theorem ge_of_ad (h : Ge (w.alloc o).drew w') : Ge w w' := ge_of_a (ge_of_d h)
theorem ge_of_aad (h : Ge ((w.alloc o).alloc o').drew w') : Ge w w' := ge_of_a (ge_of_a (ge_of_d h))
theorem Sl.ge {B : Nat} {a : Option Addr} {xs : List Value} (h : Sl w B a xs) (hB : B ≤ w.heap.size) (hg : Ge w w') : Sl w' B a xs := h.below (hg.mono hB)
end

section
variable {P : Program} {ops : Array Oper} {rest : List Oper} {o : Oper} {a : Act} {Q : Exit → Act → World → Prop}
theorem step_appS {K : Act → World → Prop} {F : Prop} (w0 : World) (hgd : o.guard = none) (s x : Operand) (t : TypeId) (ho : o.op = .call { callee := .builtin .append, args := #[s, x], argTypes := #[t, t] })
    {e : TypeId} {bytes : Nat} (E : EI P t e 1 bytes) (hb8 : bytes ≤ 8) (base : Nat) (k : IntKind) (v : Value) (l : List Int) (hs : a.eval s = v) (hown : OwnL w0 base e k v l)
    (B : Nat) (A : Option Addr) (m c : Nat) (news : List Int) (hx : a.eval x = .slice A m c) (hm : m = news.length) (hr : Sl w0 B A (news.map (Value.int k)))
    (hl : l.length ≤ 1099511627776) (hl2 : news.length ≤ 1099511627776) (hbase : base ≤ w0.heap.size)
    (h : ∀ A' n' c' w', n' = (l ++ news).length → n' ≤ c' → OwnL w' base e k (.slice A' n' c') (l ++ news) → Sl w' w'.heap.size A' ((l ++ news).map (Value.int k)) → w0.grownBy w' v.ownBlock → Below base w0 w' → K (a.put o.dst (.slice A' n' c')) w') :
    if Region.wanted o (yielded ops a.tmps) = true then Oper.wp P o a w0 K Q else F :=
  step_appL w0 hgd s x t ho E hb8 base k v l hs hown B A m c news hx hm hr hl hl2 hbase fun v' w' h2 h3 h4 => by
    obtain ⟨A', c', rfl, hc, hs'⟩ := h2.form
    exact h A' _ c' w' rfl hc h2 hs' h3 h4
theorem app_appS (w0 : World) (hgd : o.guard = none) (s x : Operand) (t : TypeId) (ho : o.op = .call { callee := .builtin .append, args := #[s, x], argTypes := #[t, t] })
    {e : TypeId} {bytes : Nat} (E : EI P t e 1 bytes) (hb8 : bytes ≤ 8) (base : Nat) (k : IntKind) (v : Value) (l : List Int) (hs : a.eval s = v) (hown : OwnL w0 base e k v l)
    (B : Nat) (A : Option Addr) (m c : Nat) (news : List Int) (hx : a.eval x = .slice A m c) (hm : m = news.length) (hr : Sl w0 B A (news.map (Value.int k)))
    (hl : l.length ≤ 1099511627776) (hl2 : news.length ≤ 1099511627776) (hbase : base ≤ w0.heap.size)
    (h : ∀ A' n' c' w', n' = (l ++ news).length → n' ≤ c' → OwnL w' base e k (.slice A' n' c') (l ++ news) → Sl w' w'.heap.size A' ((l ++ news).map (Value.int k)) → w0.grownBy w' v.ownBlock → Below base w0 w' → wpList P ops Q rest (a.put o.dst (.slice A' n' c')) w') :
    wpList P ops Q (o :: rest) a w0 :=
  appL_sl w0 hgd s x t ho E hb8 base k v l hs hown B A m c news hx hm hr hl hl2 hbase fun v' w' h2 h3 h4 => by
    obtain ⟨A', c', rfl, hc, hs'⟩ := h2.form
    exact h A' _ c' w' rfl hc h2 hs' h3 h4
end
end Go.Proofs.YtcogfddcdpgpkaaGreatDoor
