/- The walks of decode's right and of utf8.ValidRune, utf8.AppendRune. Conditions: the characters are right ones; what is appended to is the call's own. -/
import Derived.Test.YtpdcnjlmnilipaaDoorRef
import Derived.Test.YtpdcnjlmnilipaaDoorCh
namespace Go.Proofs.YtpdcnjlmnilipaaDoor
open Go.RowKit


def AppPost (w : World) (base : Nat) (v : Value) (l : List Int) (e : Ending) (w' : World) : Prop :=
  ∃ v', e = .returned v' ∧ OwnL w' base 5 .u8 v' l ∧ w.grownBy w' v.ownBlock ∧ Below base w w'

section
variable {P : Program} {ops : Array Oper} {rest : List Oper} {o : Oper} {a : Act} {Q : Exit → Act → World → Prop}
/-- append of integers that have just been laid. -/
theorem appL_lit (w0 : World) (cs : Array Value) (hgd : o.guard = none) (s x : Operand) (t : TypeId) (ho : o.op = .call { callee := .builtin .append, args := #[s, x], argTypes := #[t, t] })
    {e : TypeId} {bytes : Nat} (E : EI P t e 1 bytes) (hb8 : bytes ≤ 8) (base : Nat) (k : IntKind) (v : Value) (l news : List Int) (hs : a.eval s = v) (hown : OwnL w0 base e k v l)
    (n c : Nat) (hx : a.eval x = .slice (some ⟨w0.heap.size, 0, none⟩) n c) (hn : n = news.length) (hcs : cs = (news.map (Value.int k)).toArray) (hl : l.length ≤ 1099511627776) (hl2 : news.length ≤ 1099511627776) (hbase : base ≤ w0.heap.size)
    (h : ∀ v' w', OwnL w' base e k v' (l ++ news) → w0.grownBy w' v.ownBlock → Below base w0 w' → wpList P ops Q rest (a.put o.dst v') w') :
    wpList P ops Q (o :: rest) a (w0.alloc (.cells cs e)) := by
  subst hcs
  refine appL_sl (w0.alloc (.cells _ e)) hgd s x t ho E hb8 base k v l hs (hown.alloc _) (w0.heap.size + 1) _ n c news hx hn ?_ hl hl2 (Nat.le_trans hbase (by simp)) ?_
  · have := Sl.lit w0 e (news.map (Value.int k)).toArray
    simpa using this
  · intro v' w' ho' hg hbw
    refine h v' w' ho' ⟨hg.os, hg.tape, hg.output, Nat.le_trans (by simp) hg.size, fun k hk hne => (hg.block k (by simp; omega) hne).trans (Below.heap_alloc w0 _ k hk)⟩ ?_
    exact ((Below.refl base w0).alloc hbase _).trans hbw
end

theorem rPut1 {n : Int} (h : n < 128) : rPut n = [n] := by unfold rPut; rw [if_pos h]
theorem rPut2 {n : Int} (h : 128 ≤ n) (h' : n < 2048) : rPut n = [192 + n / 64, 128 + n % 64] := by unfold rPut; rw [if_neg (by omega), if_pos (by omega)]
theorem rPut3 {n : Int} (h : 2048 ≤ n) (h' : n < 65536) : rPut n = [224 + n / 4096, 128 + n / 64 % 64, 128 + n % 64] := by unfold rPut; rw [if_neg (by omega), if_neg (by omega), if_pos (by omega)]
theorem rPut4 {n : Int} (h : 65536 ≤ n) : rPut n = [240 + n / 262144, 128 + n / 4096 % 64, 128 + n / 64 % 64, 128 + n % 64] := by unfold rPut; rw [if_neg (by omega), if_neg (by omega), if_neg (by omega)]

set_option maxHeartbeats 1000000 in
theorem nonAscii_any (w : World) (base : Nat) (a : Option Addr) (m c : Nat) (l : List Int) (n : Int) (h0 : 128 ≤ n) (h1 : rightC n = true) (hl : l.length ≤ 1099511627776) (hbase : base ≤ w.heap.size) (ho : OwnL w base 5 .u8 (.slice a m c) l) :
    Calls Tryd.prog 48 #[.slice a m c, .int .i32 n] w (AppPost w base (.slice a m c) (l ++ rPut n)) := by
  have hr := rightC_true.1 h1
  clear h1
  rcases (by omega : n < 2048 ∨ (2048 ≤ n ∧ n < 55296) ∨ (57343 < n ∧ n < 65536) ∨ (65536 ≤ n ∧ n ≤ 1114111)) with h | ⟨h, h'⟩ | ⟨h, h'⟩ | ⟨h, h'⟩
  · have HQ := Lib.hid (rPut2 h0 h)
    clear hr
    go_enter Tryd.func48, Tryd.ntmps48
    go_wp2_with (at_builtin; refine appL_lit w _ rfl (.tmp 14) (.tmp 23) 25 rfl Tryd.eiBytes (by decide) base .u8 _ l [192 + n / 64, 128 + n % 64] rfl ho 2 2 rfl rfl rfl hl (by simp) hbase ?_; intro v w1 ho1 hg1 hb1)
    go_ret
    rw [HQ.out]
    exact ⟨v, rfl, ho1, hg1, hb1⟩
  · have HQ := Lib.hid (rPut3 h (by omega))
    have d1 : ¬ n ≤ 2047 := by omega
    clear hr
    go_enter Tryd.func48, Tryd.ntmps48
    go_wp2_with (at_builtin; refine appL_lit w _ rfl (.tmp 34) (.tmp 48) 25 rfl Tryd.eiBytes (by decide) base .u8 _ l [224 + n / 4096, 128 + n / 64 % 64, 128 + n % 64] rfl ho 3 3 rfl rfl rfl hl (by simp) hbase ?_; intro v w1 ho1 hg1 hb1)
    go_ret
    rw [HQ.out]
    exact ⟨v, rfl, ho1, hg1, hb1⟩
  · have HQ := Lib.hid (rPut3 (by omega) h')
    have d1 : ¬ n ≤ 2047 := by omega
    have d2 : ¬ n < 55296 := by omega
    have d3 : n ≤ 65535 := by omega
    clear hr
    go_enter Tryd.func48, Tryd.ntmps48
    go_wp2_with (at_builtin; refine appL_lit w _ rfl (.tmp 34) (.tmp 48) 25 rfl Tryd.eiBytes (by decide) base .u8 _ l [224 + n / 4096, 128 + n / 64 % 64, 128 + n % 64] rfl ho 3 3 rfl rfl rfl hl (by simp) hbase ?_; intro v w1 ho1 hg1 hb1)
    go_ret
    rw [HQ.out]
    exact ⟨v, rfl, ho1, hg1, hb1⟩
  · have HQ := Lib.hid (rPut4 h)
    have d1 : ¬ n ≤ 2047 := by omega
    have d2 : ¬ n < 55296 := by omega
    have d3 : ¬ n ≤ 65535 := by omega
    have d4 : (57343 : Int) < n := by omega
    clear hr
    go_enter Tryd.func48, Tryd.ntmps48
    go_wp2_with (at_builtin; refine appL_lit w _ rfl (.tmp 57) (.tmp 76) 25 rfl Tryd.eiBytes (by decide) base .u8 _ l [240 + n / 262144, 128 + n / 4096 % 64, 128 + n / 64 % 64, 128 + n % 64] rfl ho 4 4 rfl rfl rfl hl (by simp) hbase ?_; intro v w1 ho1 hg1 hb1)
    go_ret
    rw [HQ.out]
    exact ⟨v, rfl, ho1, hg1, hb1⟩

set_option maxHeartbeats 1000000 in
theorem appendRune_any (w : World) (base : Nat) (a : Option Addr) (m c : Nat) (l : List Int) (n : Int) (h0 : 0 ≤ n) (h1 : rightC n = true) (hl : l.length ≤ 1099511627776) (hbase : base ≤ w.heap.size) (ho : OwnL w base 5 .u8 (.slice a m c) l) :
    Calls Tryd.prog 38 #[.slice a m c, .int .i32 n] w (AppPost w base (.slice a m c) (l ++ rPut n)) := by
  have hr := rightC_true.1 h1
  obtain ⟨-, hr2, -⟩ := hr
  by_cases h : n < 128
  · have HQ := Lib.hid (rPut1 h)
    have d1 : n ≤ 127 := by omega
    clear h1
    go_enter Tryd.func38, Tryd.ntmps38
    go_wp2_with (at_builtin; refine appL_lit w _ rfl (.tmp 8) (.tmp 11) 25 rfl Tryd.eiBytes (by decide) base .u8 _ l [n] rfl ho 1 1 rfl rfl rfl hl (by simp) hbase ?_; intro v w1 ho1 hg1 hb1)
    go_ret
    rw [HQ.out]
    exact ⟨v, rfl, ho1, hg1, hb1⟩
  · have d1 : ¬ n ≤ 127 := by omega
    have HR := Lib.hid h1
    clear h1
    go_enter Tryd.func38, Tryd.ntmps38
    go_wp2_with fail
    refine (nonAscii_any _ base _ _ _ l n (by omega) HR.out hl hbase ho).mono ?_
    rintro e w1 ⟨v, rfl, ho1, hg1, hb1⟩
    go_wp2_with fail
    go_ret
    exact ⟨v, rfl, ho1, hg1, hb1⟩
end Go.Proofs.YtpdcnjlmnilipaaDoor
