/- The evaluator, in one text: over any program; no conditions but those that each law names. -/
import Derived.Test.YtcogfddcdpgpkaaGreatDoorAvue
import Derived.Test.YtcogfddcdpgpkaaGreatDoorAvuc
import Derived.Shelf.Small.Strs
import Derived.Shelf.Strings.Search3
import Derived.Shelf.Strings.FieldsFuncAny
import Derived.Test.YtcogfddcdpgpkaaGreatDoorProg
import Derived.Test.YtcogfddcdpgpkaaGreatDoorAvub
import Derived.Test.YtcogfddcdpgpkaaGreatDoorAvua
import Derived.Deep.QuietTactic
import Derived.BigQuiet
set_option linter.unusedSimpArgs false
set_option linter.unusedVariables false
set_option linter.unusedSectionVars false
set_option maxRecDepth 100000
namespace Go.Av
open Go.Proofs
variable [Rk] {chk : List D → Bool}
theorem tmod0 (x a : Int) : (x.tmod a == 0) = (x % a == 0) := by
 rw [Bool.eq_iff_iff, beq_iff_eq, beq_iff_eq, ← Int.dvd_iff_tmod_eq_zero, ← Int.dvd_iff_emod_eq_zero]
theorem tmodN (x a : Int) : ((-x).tmod (-a) == 0) = (x % a == 0) := by
 rw [Bool.eq_iff_iff, beq_iff_eq, beq_iff_eq, ← Int.dvd_iff_tmod_eq_zero, ← Int.dvd_iff_emod_eq_zero, Int.neg_dvd, Int.dvd_neg]
set_option maxHeartbeats 1000000 in
theorem dir_L (a : Int) : callL Tryz.prog (ext11b chk) 139 [.int .i64 a] [] = some (.int .u64 (if a < 0 then 18446744073709551615 else 1), [.no], []) := by
 by_cases h : a < 0
 ·rw [if_pos h]
  refine callK (m := 5) (res := [2]) (rs := [.tmp 2]) rfl Tryz.func139 rfl rfl rfl rfl rfl ?_
  repeat' (first|simp only [*, AVB, ↓reduceIte, Nat.reduceLT, reduceCtorEq, Nat.reduceBEq, dIntBin]|refine drW_intro (by kernel_rfl) ?_|refine gw_intro (fun h => ?_) (fun h => ?_) <;> try simp only [AVH] at h)
 ·rw [if_neg h]
  refine callK (m := 5) (res := [2]) (rs := [.tmp 2]) rfl Tryz.func139 rfl rfl rfl rfl rfl ?_
  repeat' (first|simp only [*, AVB, ↓reduceIte, Nat.reduceLT, reduceCtorEq, Nat.reduceBEq, dIntBin]|refine drW_intro (by kernel_rfl) ?_|refine gw_intro (fun h => ?_) (fun h => ?_) <;> try simp only [AVH] at h)
theorem magW (a : Int) (ha : a ≤ 1099511627776 ∧ -1099511627776 ≤ a) : IntKind.u64.wrap (IntKind.u64.wrap a * (if a < 0 then 18446744073709551615 else 1)) = if a < 0 then -a else a := by
 split
 ·rw [IntKind.wrap_u64, IntKind.wrap_u64]; omega
 ·rw [IntKind.wrap_u64, IntKind.wrap_u64]; omega
set_option maxHeartbeats 1000000 in
theorem mag_L (a : Int) (ha : a ≤ 1099511627776 ∧ -1099511627776 ≤ a) : callL Tryz.prog (ext11b chk) 140 [.int .i64 a] [] = some (.int .u64 (if a < 0 then -a else a), [.no], []) := by
 have h1 := dir_L (chk := chk) a
 have h2 := magW a ha
 generalize (if a < 0 then (-a) else a) = q at h2 ⊢
 generalize (if a < 0 then (18446744073709551615 : Int) else 1) = p at h1 h2
 clear ha
 refine callK (m := 8) (res := [2]) (rs := [.tmp 2]) rfl Tryz.func140 rfl rfl rfl rfl rfl ?_
 repeat' (first|simp only [*, AVB, AVY, ↓reduceIte, Nat.reduceEqDiff, Nat.reduceLT, reduceCtorEq, Nat.reduceBEq, dIntBin]|refine drW_intro (by kernel_rfl) ?_|refine gw_intro (fun h => ?_) (fun h => ?_) <;> try simp only [AVH] at h)
set_option maxHeartbeats 1000000 in
theorem anbHas_L (a b n : Int) (ha : a ≤ 1099511627776 ∧ -1099511627776 ≤ a) (hb : b ≤ 1099511627776 ∧ -1099511627776 ≤ b) (hn : n ≤ 1000000 ∧ 0 ≤ n) : callL Tryz.prog (ext11b chk) 106 [.int .i64 a, .int .i64 b, .int .i64 n] [] = some (.bool (hasAB a b n), [.no], []) := by
 have h1 := dir_L (chk := chk) a
 have h2 := mag_L (chk := chk) a ha
 unfold hasAB
 by_cases c1 : n < 1
 ·rw [if_pos c1]
  clear h1 h2
  refine callK (m := 37) (res := [6]) (rs := [.tmp 6]) rfl Tryz.func106 rfl rfl rfl rfl rfl ?_
  repeat' (first|simp only [*, AVB, ↓reduceIte, Nat.reduceEqDiff, Nat.reduceLT, Nat.reduceBEq, dIntBin]|refine drW_intro (by kernel_rfl) ?_|refine gw_intro (fun h => ?_) (fun h => ?_) <;> try simp only [AVH] at h)
 rw [if_neg c1]
 by_cases c2 : a = 0
 ·rw [if_pos (.inl c2)]
  subst c2
  clear h1 h2
  refine callK (m := 37) (res := [6]) (rs := [.tmp 6]) rfl Tryz.func106 rfl rfl rfl rfl rfl ?_
  repeat' (first|simp only [*, AVB, ↓reduceIte, Nat.reduceEqDiff, Nat.reduceLT, reduceCtorEq, Nat.reduceBEq, dIntBin]|refine drW_intro (by kernel_rfl) ?_|refine gw_intro (fun h => ?_) (fun h => ?_) <;> try simp only [AVH] at h)
 obtain ⟨j1, j2, j3⟩ := neI c2
 by_cases c3 : n = b
 ·rw [if_pos (.inr c3)]
  subst c3
  clear h1 h2
  refine callK (m := 37) (res := [6]) (rs := [.tmp 6]) rfl Tryz.func106 rfl rfl rfl rfl rfl ?_
  repeat' (first|simp only [*, AVB, ↓reduceIte, Nat.reduceEqDiff, Nat.reduceLT, reduceCtorEq, Nat.reduceBEq, dIntBin]|refine drW_intro (by kernel_rfl) ?_|refine gw_intro (fun h => ?_) (fun h => ?_) <;> try simp only [AVH] at h)
 rw [if_neg (by simp [c2, c3])]
 obtain ⟨i1, i2, i3⟩ := neI c3
 by_cases c4 : b < n
 ·by_cases c5 : 0 < a
  ·rw [if_neg (by rw [decide_eq_true c4, decide_eq_true c5]; decide)]
   have c6 : ¬ a < 0 := by omega
   rw [if_neg c6] at h1 h2
   have e1 : IntKind.u64.wrap (IntKind.u64.wrap n - IntKind.u64.wrap b) = n - b := by rw [IntKind.wrap_u64, IntKind.wrap_u64, IntKind.wrap_u64]; omega
   have e2 : IntKind.u64.wrap ((n - b) * 1) = n - b := by rw [IntKind.wrap_u64]; omega
   have e3 := tmod0 (n - b) a
   clear ha hb hn c6
   refine callK (m := 37) (res := [6]) (rs := [.tmp 6]) rfl Tryz.func106 rfl rfl rfl rfl rfl ?_
   repeat' (first|simp only [*, AVB, AVY, ↓reduceIte, Nat.reduceEqDiff, Nat.reduceLT, reduceCtorEq, Nat.reduceBEq, dIntBin]|refine drW_intro (by kernel_rfl) ?_|refine gw_intro (fun h => ?_) (fun h => ?_) <;> try simp only [AVH] at h)
  ·rw [if_pos (by rw [decide_eq_true c4, decide_eq_false c5]; decide)]
   clear h1 h2 ha hb hn
   refine callK (m := 37) (res := [6]) (rs := [.tmp 6]) rfl Tryz.func106 rfl rfl rfl rfl rfl ?_
   repeat' (first|simp only [*, AVB, AVY, ↓reduceIte, Nat.reduceEqDiff, Nat.reduceLT, reduceCtorEq, Nat.reduceBEq, dIntBin]|refine drW_intro (by kernel_rfl) ?_|refine gw_intro (fun h => ?_) (fun h => ?_) <;> try simp only [AVH] at h)
 ·by_cases c5 : 0 < a
  ·rw [if_pos (by rw [decide_eq_false c4, decide_eq_true c5]; decide)]
   clear h1 h2 ha hb hn
   refine callK (m := 37) (res := [6]) (rs := [.tmp 6]) rfl Tryz.func106 rfl rfl rfl rfl rfl ?_
   repeat' (first|simp only [*, AVB, AVY, ↓reduceIte, Nat.reduceEqDiff, Nat.reduceLT, reduceCtorEq, Nat.reduceBEq, dIntBin]|refine drW_intro (by kernel_rfl) ?_|refine gw_intro (fun h => ?_) (fun h => ?_) <;> try simp only [AVH] at h)
  ·rw [if_neg (by rw [decide_eq_false c4, decide_eq_false c5]; decide)]
   have c6 : a < 0 := by omega
   rw [if_pos c6] at h1 h2
   have e1 : IntKind.u64.wrap (IntKind.u64.wrap n - IntKind.u64.wrap b) = n - b + 18446744073709551616 := by rw [IntKind.wrap_u64, IntKind.wrap_u64, IntKind.wrap_u64]; omega
   have e2 : IntKind.u64.wrap ((n - b + 18446744073709551616) * 18446744073709551615) = -(n - b) := by rw [IntKind.wrap_u64]; omega
   have e3 := tmodN (n - b) a
   have e4 : ¬ -a = 0 := by omega
   clear ha hb hn
   refine callK (m := 37) (res := [6]) (rs := [.tmp 6]) rfl Tryz.func106 rfl rfl rfl rfl rfl ?_
   repeat' (first|simp only [*, AVB, AVY, ↓reduceIte, Nat.reduceEqDiff, Nat.reduceLT, reduceCtorEq, Nat.reduceBEq, dIntBin]|refine drW_intro (by kernel_rfl) ?_|refine gw_intro (fun h => ?_) (fun h => ?_) <;> try simp only [AVH] at h)
end Go.Av
namespace Go.Av
open Go.Proofs
variable [Rk] {chk : List D → Bool}
set_option maxHeartbeats 4000000 in
theorem idxAt_L (l : List At) (clo : FuncId) (e1 e2 : D) (f : At → Bool) (hl : l.length ≤ 1000000) (hc : ∀ x ∈ l, callL Tryz.prog (ext11b chk) clo [.agg [.str x.sp, .str x.nm, .str x.vl], .fix e1 0, .fix e2 0] [] = some (.bool (f x), [.no], [])) :
  callL Tryz.prog (ext11b chk) 138 [.list (l.map At.d), .func (.func clo) [] [.fix e1 0, .fix e2 0]] [] = some (.int .i64 (idxN f 0 l), [.no], []) := by
 have lN := lenM l At.d
 refine callK (m := 19) (res := [4]) (rs := [.tmp 4]) rfl Tryz.func138 rfl rfl rfl rfl rfl ?_
 have HL := Hd.mk hl
 have HC := Hd.mk hc
 clear hl hc
 obtain ⟨R, hR⟩ : ∃ R, Hd (R = idxN f 0 l) := ⟨_, rfl⟩
 rw [← (show R = idxN f 0 l from hR)]
 repeat' (first|simp only [*, AVB, ↓reduceIte, Nat.reduceLT, reduceCtorEq, Nat.reduceBEq]|refine drW_intro (by kernel_rfl) ?_|refine gw_intro (fun h => ?_) (fun h => ?_) <;> try simp only [AVH] at h)
 refine loopH (fun st => ∃ i : Nat, i ≤ l.length ∧ st.slot 8 = .int .i64 i ∧ st.slot 7 = .int .i64 l.length ∧ st.slot 0 = .list (l.map At.d) ∧ st.slot 1 = .func (.func clo) [] [.fix e1 0, .fix e2 0] ∧ st.slot 4 = .int .i64 0 ∧ st.room 4 = [] ∧ Hd (R = idxN f i (l.drop i))) (fun st => l.length - slotI st 8) ?_ ?_
 ·refine ⟨0, Nat.zero_le _, ?_, ?_, ?_, ?_, ?_, ?_, hR⟩
  all_goals simp only [*, AVB, ↓reduceIte, Nat.reduceEqDiff, reduceCtorEq]
  all_goals rfl
 ·rintro st K ⟨i, hi, g0, g1, g2, g3, g4, g5, hO⟩ hn hx hr
  have hl : l.length ≤ 1000000 := HL
  have hO' : R = idxN f i (l.drop i) := hO
  by_cases h : i < l.length
  ·have g9 : (i : Int) < l.length := by omega
   have hw := wrapS i (by omega)
   obtain ⟨x, hx1⟩ := some_at h
   have hxm := List.mem_of_getElem? hx1
   rw [idxN_at _ hx1] at hO'
   have hc := (show ∀ x ∈ l, callL Tryz.prog (ext11b chk) clo [.agg [.str x.sp, .str x.nm, .str x.vl], .fix e1 0, .fix e2 0] [] = some (.bool (f x), [.no], []) from HC) x hxm
   have ha : (l.map At.d).getD i .bad = .agg [.str x.sp, .str x.nm, .str x.vl] := getD_map (f := At.d) hx1
   cases he : f x with
   | true =>
    rw [he] at hO' hc
    rw [if_pos rfl] at hO'
    subst hO'
    clear he hxm hx1
    obtain ⟨a1, a2, a3⟩ := x
    clear hO hn hx hl hR HC
    repeat' (first|simp only [*, AVB, ↓reduceIte, Nat.reduceEqDiff, Nat.reduceLT, reduceCtorEq, Nat.reduceBEq, Nat.reduceAdd, dIntBin]|refine drW_intro (by kernel_rfl) ?_|refine gw_intro (fun h => ?_) (fun h => ?_) <;> try simp only [AVH] at h)
    refine hr _ ?_
    repeat' (first|simp only [*, AVB, ↓reduceIte]|refine drW_intro (by kernel_rfl) ?_|refine gw_intro (fun h => ?_) (fun h => ?_) <;> try simp only [AVH] at h)
   | false =>
    rw [he] at hO' hc
    rw [if_neg (by decide)] at hO'
    have HO := Hd.mk hO'
    clear he hxm hx1
    obtain ⟨a1, a2, a3⟩ := x
    clear hO hO' hx hr hl
    repeat' (first|simp only [*, AVB, ↓reduceIte, Nat.reduceEqDiff, Nat.reduceLT, reduceCtorEq, Nat.reduceBEq, Nat.reduceAdd, dIntBin]|refine drW_intro (by kernel_rfl) ?_|refine gw_intro (fun h => ?_) (fun h => ?_) <;> try simp only [AVH] at h)
    refine hn _ ⟨i + 1, h, ?_, ?_, ?_, ?_, ?_, ?_, HO⟩ ?_
    ·simp only [*, AVL, ↓reduceIte]
    ·simp only [*, AVL, ↓reduceIte, Nat.reduceEqDiff]
    ·simp only [*, AVL, ↓reduceIte, reduceCtorEq]
    ·simp only [*, AVL, ↓reduceIte, Nat.reduceEqDiff]
    ·simp only [*, AVL, ↓reduceIte, Nat.reduceEqDiff]
    ·simp only [*, AVL, ↓reduceIte, Nat.reduceEqDiff]
    ·simp only [slotI, *, AVB, ↓reduceIte]
     omega
  ·have g9 : ¬ (i : Int) < l.length := by omega
   rw [idxN_end _ (by omega)] at hO'
   subst hO'
   clear hO hn hr hl hR HC
   repeat' (first|simp only [*, AVB, ↓reduceIte, Nat.reduceLT, dIntBin]|refine drW_intro (by kernel_rfl) ?_|refine gw_intro (fun h => ?_) (fun h => ?_) <;> try simp only [AVH] at h)
   refine hx _ _ ?_
   repeat' (first|simp only [*, AVB, ↓reduceIte, Nat.reduceLT]|refine drW_intro (by kernel_rfl) ?_|refine gw_intro (fun h => ?_) (fun h => ?_) <;> try simp only [AVH] at h)
theorem conAt_L (l : List At) (clo : FuncId) (e1 e2 : D) (f : At → Bool) (hl : l.length ≤ 1000000) (hc : ∀ x ∈ l, callL Tryz.prog (ext11b chk) clo [.agg [.str x.sp, .str x.nm, .str x.vl], .fix e1 0, .fix e2 0] [] = some (.bool (f x), [.no], [])) :
  callL Tryz.prog (ext11b chk) 102 [.list (l.map At.d), .func (.func clo) [] [.fix e1 0, .fix e2 0]] [] = some (.bool (l.any f), [.no], []) := by
 have hs := idxAt_L (chk := chk) l clo e1 e2 f hl hc
 have hb := idxN_ge f l 0
 clear hc hl
 generalize idxN f 0 l = z at *
 generalize l.any f = y at *
 generalize l.map At.d = L at *
 refine callK (m := 9) (res := [4]) (rs := [.tmp 4]) rfl Tryz.func102 rfl rfl rfl rfl rfl ?_
 repeat' (first|simp only [*, AVB, ↓reduceIte, Nat.reduceEqDiff, Nat.reduceLT, reduceCtorEq, Nat.reduceBEq, dIntBin]|refine drW_intro (by kernel_rfl) ?_|refine gw_intro (fun h => ?_) (fun h => ?_) <;> try simp only [AVH] at h)
set_option maxHeartbeats 4000000 in
theorem idxCx_L (l : List D) (clo : FuncId) (e1 e2 : D) (f : D → Bool) (hl : l.length ≤ 1000000) (hF : ∀ x ∈ l, x = cxD (cxL x)) (hc : ∀ x ∈ l, callL Tryz.prog (ext11b chk) clo [.agg [.list (cxL x)], .fix e1 0, .fix e2 0] [] = some (.bool (f x), [.no], [])) :
  callL Tryz.prog (ext11b chk) 60 [.list l, .func (.func clo) [] [.fix e1 0, .fix e2 0]] [] = some (.int .i64 (idxN f 0 l), [.no], []) := by
 have lN : ((l.length : Nat) : Int) = l.length := rfl
 refine callK (m := 19) (res := [4]) (rs := [.tmp 4]) rfl Tryz.func60 rfl rfl rfl rfl rfl ?_
 have HL := Hd.mk hl
 have HC := Hd.mk hc
 clear hl hc
 obtain ⟨R, hR⟩ : ∃ R, Hd (R = idxN f 0 l) := ⟨_, rfl⟩
 rw [← (show R = idxN f 0 l from hR)]
 have HF := Hd.mk hF
 clear hF
 repeat' (first|simp only [*, AVB, AVY, ↓reduceIte, Nat.reduceLT, reduceCtorEq, Nat.reduceBEq]|refine drW_intro (by kernel_rfl) ?_|refine gw_intro (fun h => ?_) (fun h => ?_) <;> try simp only [AVH] at h)
 refine loopH (fun st => ∃ i : Nat, i ≤ l.length ∧ st.slot 8 = .int .i64 i ∧ st.slot 7 = .int .i64 l.length ∧ st.slot 0 = .list l ∧ st.slot 1 = .func (.func clo) [] [.fix e1 0, .fix e2 0] ∧ st.slot 4 = .int .i64 0 ∧ st.room 4 = [] ∧ Hd (R = idxN f i (l.drop i))) (fun st => l.length - slotI st 8) ?_ ?_
 ·refine ⟨0, Nat.zero_le _, ?_, ?_, ?_, ?_, ?_, ?_, hR⟩
  all_goals simp only [*, AVB, ↓reduceIte, Nat.reduceEqDiff, reduceCtorEq]
  all_goals rfl
 ·rintro st K ⟨i, hi, g0, g1, g2, g3, g4, g5, hO⟩ hn hx hr
  have hl : l.length ≤ 1000000 := HL
  have hO' : R = idxN f i (l.drop i) := hO
  by_cases h : i < l.length
  ·have g9 : (i : Int) < l.length := by omega
   have hw := wrapS i (by omega)
   obtain ⟨x, hx1⟩ := some_at h
   have hxm := List.mem_of_getElem? hx1
   rw [idxN_at _ hx1] at hO'
   have hc := (show ∀ x ∈ l, callL Tryz.prog (ext11b chk) clo [.agg [.list (cxL x)], .fix e1 0, .fix e2 0] [] = some (.bool (f x), [.no], []) from HC) x hxm
   have hF : ∀ x ∈ l, x = cxD (cxL x) := HF
   have ha : l.getD i .bad = .agg [.list (cxL x)] := by
    have h1 : l.getD i .bad = x := by simp [List.getD, hx1]
    rw [h1]
    exact hF x hxm
   cases he : f x with
   | true =>
    rw [he] at hO' hc
    rw [if_pos rfl] at hO'
    subst hO'
    clear he hxm hx1
    generalize cxL x = X at *
    clear hO hn hx hl hR HC
    repeat' (first|simp only [*, AVB, AVY, ↓reduceIte, Nat.reduceEqDiff, Nat.reduceLT, reduceCtorEq, Nat.reduceBEq, dIntBin]|refine drW_intro (by kernel_rfl) ?_|refine gw_intro (fun h => ?_) (fun h => ?_) <;> try simp only [AVH] at h)
    refine hr _ ?_
    repeat' (first|simp only [*, AVB, ↓reduceIte]|refine drW_intro (by kernel_rfl) ?_|refine gw_intro (fun h => ?_) (fun h => ?_) <;> try simp only [AVH] at h)
   | false =>
    rw [he] at hO' hc
    rw [if_neg (by decide)] at hO'
    have HO := Hd.mk hO'
    clear he hxm hx1
    generalize cxL x = X at *
    clear hO hO' hx hr hl
    repeat' (first|simp only [*, AVB, AVY, ↓reduceIte, Nat.reduceEqDiff, Nat.reduceLT, reduceCtorEq, Nat.reduceBEq, dIntBin]|refine drW_intro (by kernel_rfl) ?_|refine gw_intro (fun h => ?_) (fun h => ?_) <;> try simp only [AVH] at h)
    refine hn _ ⟨i + 1, h, ?_, ?_, ?_, ?_, ?_, ?_, HO⟩ ?_
    ·simp only [*, AVL, ↓reduceIte]
    ·simp only [*, AVL, ↓reduceIte, Nat.reduceEqDiff]
    ·simp only [*, AVL, ↓reduceIte, reduceCtorEq]
    ·simp only [*, AVL, ↓reduceIte, Nat.reduceEqDiff]
    ·simp only [*, AVL, ↓reduceIte, Nat.reduceEqDiff]
    ·simp only [*, AVL, ↓reduceIte, Nat.reduceEqDiff]
    ·simp only [slotI, *, AVB, ↓reduceIte]
     omega
  ·have g9 : ¬ (i : Int) < l.length := by omega
   rw [idxN_end _ (by omega)] at hO'
   subst hO'
   clear hO hn hr hl hR HC
   repeat' (first|simp only [*, AVB, ↓reduceIte, Nat.reduceLT, dIntBin]|refine drW_intro (by kernel_rfl) ?_|refine gw_intro (fun h => ?_) (fun h => ?_) <;> try simp only [AVH] at h)
   refine hx _ _ ?_
   repeat' (first|simp only [*, AVB, ↓reduceIte, Nat.reduceLT]|refine drW_intro (by kernel_rfl) ?_|refine gw_intro (fun h => ?_) (fun h => ?_) <;> try simp only [AVH] at h)
theorem conCx_L (l : List D) (clo : FuncId) (e1 e2 : D) (f : D → Bool) (hl : l.length ≤ 1000000) (hF : ∀ x ∈ l, x = cxD (cxL x)) (hc : ∀ x ∈ l, callL Tryz.prog (ext11b chk) clo [.agg [.list (cxL x)], .fix e1 0, .fix e2 0] [] = some (.bool (f x), [.no], [])) :
  callL Tryz.prog (ext11b chk) 33 [.list l, .func (.func clo) [] [.fix e1 0, .fix e2 0]] [] = some (.bool (l.any f), [.no], []) := by
 have hs := idxCx_L (chk := chk) l clo e1 e2 f hl hF hc
 have hb := idxN_ge f l 0
 clear hc hl
 clear hF
 generalize idxN f 0 l = z at *
 generalize l.any f = y at *
 refine callK (m := 9) (res := [4]) (rs := [.tmp 4]) rfl Tryz.func33 rfl rfl rfl rfl rfl ?_
 repeat' (first|simp only [*, AVB, ↓reduceIte, Nat.reduceEqDiff, Nat.reduceLT, reduceCtorEq, Nat.reduceBEq, dIntBin]|refine drW_intro (by kernel_rfl) ?_|refine gw_intro (fun h => ?_) (fun h => ?_) <;> try simp only [AVH] at h)
set_option maxHeartbeats 4000000 in
theorem idxSm_L (l : List D) (clo : FuncId) (e1 e2 : D) (f : D → Bool) (hl : l.length ≤ 1000000) (hF : ∀ x ∈ l, x = (sf x).d) (hc : ∀ x ∈ l, callL Tryz.prog (ext11b chk) clo [.agg [.int .i64 (sf x).kd, .int .i64 (sf x).ns, .str (sf x).pre, .str (sf x).nm, .int .i64 (sf x).op, .str (sf x).tx, .bool (sf x).fold, .int .i64 (sf x).mark, .int .i64 (sf x).a, .int .i64 (sf x).b, .list (sf x).of_], .fix e1 0, .fix e2 0] [] = some (.bool (f x), [.no], [])) :
  callL Tryz.prog (ext11b chk) 141 [.list l, .func (.func clo) [] [.fix e1 0, .fix e2 0]] [] = some (.int .i64 (idxN f 0 l), [.no], []) := by
 have lN : ((l.length : Nat) : Int) = l.length := rfl
 refine callK (m := 19) (res := [4]) (rs := [.tmp 4]) rfl Tryz.func141 rfl rfl rfl rfl rfl ?_
 have HL := Hd.mk hl
 have HC := Hd.mk hc
 clear hl hc
 obtain ⟨R, hR⟩ : ∃ R, Hd (R = idxN f 0 l) := ⟨_, rfl⟩
 rw [← (show R = idxN f 0 l from hR)]
 have HF := Hd.mk hF
 clear hF
 repeat' (first|simp only [*, AVB, AVY, ↓reduceIte, Nat.reduceLT, reduceCtorEq, Nat.reduceBEq]|refine drW_intro (by kernel_rfl) ?_|refine gw_intro (fun h => ?_) (fun h => ?_) <;> try simp only [AVH] at h)
 refine loopH (fun st => ∃ i : Nat, i ≤ l.length ∧ st.slot 8 = .int .i64 i ∧ st.slot 7 = .int .i64 l.length ∧ st.slot 0 = .list l ∧ st.slot 1 = .func (.func clo) [] [.fix e1 0, .fix e2 0] ∧ st.slot 4 = .int .i64 0 ∧ st.room 4 = [] ∧ Hd (R = idxN f i (l.drop i))) (fun st => l.length - slotI st 8) ?_ ?_
 ·refine ⟨0, Nat.zero_le _, ?_, ?_, ?_, ?_, ?_, ?_, hR⟩
  all_goals simp only [*, AVB, ↓reduceIte, Nat.reduceEqDiff, reduceCtorEq]
  all_goals rfl
 ·rintro st K ⟨i, hi, g0, g1, g2, g3, g4, g5, hO⟩ hn hx hr
  have hl : l.length ≤ 1000000 := HL
  have hO' : R = idxN f i (l.drop i) := hO
  by_cases h : i < l.length
  ·have g9 : (i : Int) < l.length := by omega
   have hw := wrapS i (by omega)
   obtain ⟨x, hx1⟩ := some_at h
   have hxm := List.mem_of_getElem? hx1
   rw [idxN_at _ hx1] at hO'
   have hc := (show ∀ x ∈ l, callL Tryz.prog (ext11b chk) clo [.agg [.int .i64 (sf x).kd, .int .i64 (sf x).ns, .str (sf x).pre, .str (sf x).nm, .int .i64 (sf x).op, .str (sf x).tx, .bool (sf x).fold, .int .i64 (sf x).mark, .int .i64 (sf x).a, .int .i64 (sf x).b, .list (sf x).of_], .fix e1 0, .fix e2 0] [] = some (.bool (f x), [.no], []) from HC) x hxm
   have hF : ∀ x ∈ l, x = (sf x).d := HF
   have ha : l.getD i .bad = .agg [.int .i64 (sf x).kd, .int .i64 (sf x).ns, .str (sf x).pre, .str (sf x).nm, .int .i64 (sf x).op, .str (sf x).tx, .bool (sf x).fold, .int .i64 (sf x).mark, .int .i64 (sf x).a, .int .i64 (sf x).b, .list (sf x).of_] := by
    have h1 : l.getD i .bad = x := by simp [List.getD, hx1]
    rw [h1]
    exact hF x hxm
   cases he : f x with
   | true =>
    rw [he] at hO' hc
    rw [if_pos rfl] at hO'
    subst hO'
    clear he hxm hx1
    generalize sf x = X at *
    clear hO hn hx hl hR HC
    repeat' (first|simp only [*, AVB, AVY, ↓reduceIte, Nat.reduceEqDiff, Nat.reduceLT, reduceCtorEq, Nat.reduceBEq, Nat.reduceAdd, dIntBin]|refine drW_intro (by kernel_rfl) ?_|refine gw_intro (fun h => ?_) (fun h => ?_) <;> try simp only [AVH] at h)
    refine hr _ ?_
    repeat' (first|simp only [*, AVB, ↓reduceIte]|refine drW_intro (by kernel_rfl) ?_|refine gw_intro (fun h => ?_) (fun h => ?_) <;> try simp only [AVH] at h)
   | false =>
    rw [he] at hO' hc
    rw [if_neg (by decide)] at hO'
    have HO := Hd.mk hO'
    clear he hxm hx1
    generalize sf x = X at *
    clear hO hO' hx hr hl
    repeat' (first|simp only [*, AVB, AVY, ↓reduceIte, Nat.reduceEqDiff, Nat.reduceLT, reduceCtorEq, Nat.reduceBEq, Nat.reduceAdd, dIntBin]|refine drW_intro (by kernel_rfl) ?_|refine gw_intro (fun h => ?_) (fun h => ?_) <;> try simp only [AVH] at h)
    refine hn _ ⟨i + 1, h, ?_, ?_, ?_, ?_, ?_, ?_, HO⟩ ?_
    ·simp only [*, AVL, ↓reduceIte]
    ·simp only [*, AVL, ↓reduceIte, Nat.reduceEqDiff]
    ·simp only [*, AVL, ↓reduceIte, reduceCtorEq]
    ·simp only [*, AVL, ↓reduceIte, Nat.reduceEqDiff]
    ·simp only [*, AVL, ↓reduceIte, Nat.reduceEqDiff]
    ·simp only [*, AVL, ↓reduceIte, Nat.reduceEqDiff]
    ·simp only [slotI, *, AVB, ↓reduceIte]
     omega
  ·have g9 : ¬ (i : Int) < l.length := by omega
   rw [idxN_end _ (by omega)] at hO'
   subst hO'
   clear hO hn hr hl hR HC
   repeat' (first|simp only [*, AVB, ↓reduceIte, Nat.reduceLT, dIntBin]|refine drW_intro (by kernel_rfl) ?_|refine gw_intro (fun h => ?_) (fun h => ?_) <;> try simp only [AVH] at h)
   refine hx _ _ ?_
   repeat' (first|simp only [*, AVB, ↓reduceIte, Nat.reduceLT]|refine drW_intro (by kernel_rfl) ?_|refine gw_intro (fun h => ?_) (fun h => ?_) <;> try simp only [AVH] at h)
theorem conSm_L (l : List D) (clo : FuncId) (e1 e2 : D) (f : D → Bool) (hl : l.length ≤ 1000000) (hF : ∀ x ∈ l, x = (sf x).d) (hc : ∀ x ∈ l, callL Tryz.prog (ext11b chk) clo [.agg [.int .i64 (sf x).kd, .int .i64 (sf x).ns, .str (sf x).pre, .str (sf x).nm, .int .i64 (sf x).op, .str (sf x).tx, .bool (sf x).fold, .int .i64 (sf x).mark, .int .i64 (sf x).a, .int .i64 (sf x).b, .list (sf x).of_], .fix e1 0, .fix e2 0] [] = some (.bool (f x), [.no], [])) :
  callL Tryz.prog (ext11b chk) 110 [.list l, .func (.func clo) [] [.fix e1 0, .fix e2 0]] [] = some (.bool (l.any f), [.no], []) := by
 have hs := idxSm_L (chk := chk) l clo e1 e2 f hl hF hc
 have hb := idxN_ge f l 0
 clear hc hl
 clear hF
 generalize idxN f 0 l = z at *
 generalize l.any f = y at *
 refine callK (m := 9) (res := [4]) (rs := [.tmp 4]) rfl Tryz.func110 rfl rfl rfl rfl rfl ?_
 repeat' (first|simp only [*, AVB, ↓reduceIte, Nat.reduceEqDiff, Nat.reduceLT, reduceCtorEq, Nat.reduceBEq, dIntBin]|refine drW_intro (by kernel_rfl) ?_|refine gw_intro (fun h => ?_) (fun h => ?_) <;> try simp only [AVH] at h)
set_option maxHeartbeats 4000000 in
theorem idxIn_L (l : List Int) (clo : FuncId) (e1 e2 : D) (f : Int → Bool) (hl : l.length ≤ 1000000) (hc : ∀ x ∈ l, callL Tryz.prog (ext11b chk) clo [.int .i64 x, .fix e1 0, .fix e2 0] [] = some (.bool (f x), [.no], [])) :
  callL Tryz.prog (ext11b chk) 113 [.list (l.map (D.int .i64)), .func (.func clo) [] [.fix e1 0, .fix e2 0]] [] = some (.int .i64 (idxN f 0 l), [.no], []) := by
 have lN := lenM l (D.int .i64)
 refine callK (m := 19) (res := [4]) (rs := [.tmp 4]) rfl Tryz.func113 rfl rfl rfl rfl rfl ?_
 have HL := Hd.mk hl
 have HC := Hd.mk hc
 clear hl hc
 obtain ⟨R, hR⟩ : ∃ R, Hd (R = idxN f 0 l) := ⟨_, rfl⟩
 rw [← (show R = idxN f 0 l from hR)]
 repeat' (first|simp only [*, AVB, AVY, ↓reduceIte, Nat.reduceLT, reduceCtorEq, Nat.reduceBEq]|refine drW_intro (by kernel_rfl) ?_|refine gw_intro (fun h => ?_) (fun h => ?_) <;> try simp only [AVH] at h)
 refine loopH (fun st => ∃ i : Nat, i ≤ l.length ∧ st.slot 8 = .int .i64 i ∧ st.slot 7 = .int .i64 l.length ∧ st.slot 0 = .list (l.map (D.int .i64)) ∧ st.slot 1 = .func (.func clo) [] [.fix e1 0, .fix e2 0] ∧ st.slot 4 = .int .i64 0 ∧ st.room 4 = [] ∧ Hd (R = idxN f i (l.drop i))) (fun st => l.length - slotI st 8) ?_ ?_
 ·refine ⟨0, Nat.zero_le _, ?_, ?_, ?_, ?_, ?_, ?_, hR⟩
  all_goals simp only [*, AVB, ↓reduceIte, Nat.reduceEqDiff, reduceCtorEq]
  all_goals rfl
 ·rintro st K ⟨i, hi, g0, g1, g2, g3, g4, g5, hO⟩ hn hx hr
  have hl : l.length ≤ 1000000 := HL
  have hO' : R = idxN f i (l.drop i) := hO
  by_cases h : i < l.length
  ·have g9 : (i : Int) < l.length := by omega
   have hw := wrapS i (by omega)
   obtain ⟨x, hx1⟩ := some_at h
   have hxm := List.mem_of_getElem? hx1
   rw [idxN_at _ hx1] at hO'
   have hc := (show ∀ x ∈ l, callL Tryz.prog (ext11b chk) clo [.int .i64 x, .fix e1 0, .fix e2 0] [] = some (.bool (f x), [.no], []) from HC) x hxm
   have ha : (l.map (D.int .i64)).getD i .bad = .int .i64 x := getD_map (f := (D.int .i64)) hx1
   cases he : f x with
   | true =>
    rw [he] at hO' hc
    rw [if_pos rfl] at hO'
    subst hO'
    clear he hxm hx1
    clear hO hn hx hl hR HC
    repeat' (first|simp only [*, AVB, AVY, ↓reduceIte, Nat.reduceEqDiff, Nat.reduceLT, reduceCtorEq, Nat.reduceBEq, dIntBin]|refine drW_intro (by kernel_rfl) ?_|refine gw_intro (fun h => ?_) (fun h => ?_) <;> try simp only [AVH] at h)
    refine hr _ ?_
    repeat' (first|simp only [*, AVB, ↓reduceIte]|refine drW_intro (by kernel_rfl) ?_|refine gw_intro (fun h => ?_) (fun h => ?_) <;> try simp only [AVH] at h)
   | false =>
    rw [he] at hO' hc
    rw [if_neg (by decide)] at hO'
    have HO := Hd.mk hO'
    clear he hxm hx1
    clear hO hO' hx hr hl
    repeat' (first|simp only [*, AVB, AVY, ↓reduceIte, Nat.reduceEqDiff, Nat.reduceLT, reduceCtorEq, Nat.reduceBEq, dIntBin]|refine drW_intro (by kernel_rfl) ?_|refine gw_intro (fun h => ?_) (fun h => ?_) <;> try simp only [AVH] at h)
    refine hn _ ⟨i + 1, h, ?_, ?_, ?_, ?_, ?_, ?_, HO⟩ ?_
    ·simp only [*, AVL, ↓reduceIte]
    ·simp only [*, AVL, ↓reduceIte, Nat.reduceEqDiff]
    ·simp only [*, AVL, ↓reduceIte, reduceCtorEq]
    ·simp only [*, AVL, ↓reduceIte, Nat.reduceEqDiff]
    ·simp only [*, AVL, ↓reduceIte, Nat.reduceEqDiff]
    ·simp only [*, AVL, ↓reduceIte, Nat.reduceEqDiff]
    ·simp only [slotI, *, AVB, ↓reduceIte]
     omega
  ·have g9 : ¬ (i : Int) < l.length := by omega
   rw [idxN_end _ (by omega)] at hO'
   subst hO'
   clear hO hn hr hl hR HC
   repeat' (first|simp only [*, AVB, ↓reduceIte, Nat.reduceLT, dIntBin]|refine drW_intro (by kernel_rfl) ?_|refine gw_intro (fun h => ?_) (fun h => ?_) <;> try simp only [AVH] at h)
   refine hx _ _ ?_
   repeat' (first|simp only [*, AVB, ↓reduceIte, Nat.reduceLT]|refine drW_intro (by kernel_rfl) ?_|refine gw_intro (fun h => ?_) (fun h => ?_) <;> try simp only [AVH] at h)
theorem conIn_L (l : List Int) (clo : FuncId) (e1 e2 : D) (f : Int → Bool) (hl : l.length ≤ 1000000) (hc : ∀ x ∈ l, callL Tryz.prog (ext11b chk) clo [.int .i64 x, .fix e1 0, .fix e2 0] [] = some (.bool (f x), [.no], [])) :
  callL Tryz.prog (ext11b chk) 83 [.list (l.map (D.int .i64)), .func (.func clo) [] [.fix e1 0, .fix e2 0]] [] = some (.bool (l.any f), [.no], []) := by
 have hs := idxIn_L (chk := chk) l clo e1 e2 f hl hc
 have hb := idxN_ge f l 0
 clear hc hl
 generalize idxN f 0 l = z at *
 generalize l.any f = y at *
 generalize l.map (D.int .i64) = L at *
 refine callK (m := 9) (res := [4]) (rs := [.tmp 4]) rfl Tryz.func83 rfl rfl rfl rfl rfl ?_
 repeat' (first|simp only [*, AVB, ↓reduceIte, Nat.reduceEqDiff, Nat.reduceLT, reduceCtorEq, Nat.reduceBEq, dIntBin]|refine drW_intro (by kernel_rfl) ?_|refine gw_intro (fun h => ?_) (fun h => ?_) <;> try simp only [AVH] at h)
end Go.Av
namespace Go.Av
open Go.Proofs
variable [Rk] {chk : List D → Bool}
set_option maxHeartbeats 1000000 in
theorem list1_L (ns : List Nd) (nm : Nam) (n : Int) {k : Nat} (c : D) (h : cxOk 100 (smOk 100 (k + 1)) c = true) (r : Bool) (rr : List Room)
  (hrow : callL Tryz.prog (ext11b chk) 45 [eyeD ns nm, .list (cxL c), .int .i64 n] [] = some (.bool r, rr, [])) :
  callL Tryz.prog (ext11b chk) 107 [.agg [.list (cxL c)], .fix (eyeD ns nm) 0, .fix (.agg [.int .i64 n]) 0] [] = some (.bool (pseudoF c == [] && r), [.no], []) := by
 have hp := pseudo_L (chk := chk) c h
 obtain ⟨l, rfl, _, _⟩ := cxOk_inv h
 rw [show cxL (cxD l) = l from rfl] at *
 generalize pseudoF (cxD l) = p at *
 unfold cxD at hp
 unfold eyeD Nam.cs at *
 obtain ⟨T, hT⟩ := tree_fix ns
 generalize treeN ns = T0 at *
 subst hT
 clear h
 cases hq : (p == ([] : List UInt8)) with
 | true =>
  refine callK (m := 15) (res := [4]) (rs := [.tmp 4]) rfl Tryz.func107 rfl rfl rfl rfl rfl ?_
  repeat' (first|simp only [*, AVB, AVY, ↓reduceIte, Nat.reduceEqDiff, Nat.reduceLT, Nat.reduceBEq, Nat.reduceAdd]|refine drW_intro (by kernel_rfl) ?_|refine gw_intro (fun h => ?_) (fun h => ?_) <;> try simp only [AVH] at h)
 | false =>
  refine callK (m := 15) (res := [4]) (rs := [.tmp 4]) rfl Tryz.func107 rfl rfl rfl rfl rfl ?_
  repeat' (first|simp only [*, AVB, AVY, ↓reduceIte, Nat.reduceEqDiff, Nat.reduceLT, Nat.reduceBEq, Nat.reduceAdd]|refine drW_intro (by kernel_rfl) ?_|refine gw_intro (fun h => ?_) (fun h => ?_) <;> try simp only [AVH] at h)
set_option maxHeartbeats 1000000 in
theorem list_L (ns : List Nd) (nm : Nam) (n : Int) {k : Nat} (l : List D) (h : lsOk 100 (smOk 100 (k + 1)) l = true) (V : D → Bool)
  (hrow : ∀ c ∈ l, callL Tryz.prog (ext11b chk) 45 [eyeD ns nm, .list (cxL c), .int .i64 n] [] = some (.bool (V c), [], [])) :
  callL Tryz.prog (ext11b chk) 68 [eyeD ns nm, .list l, .int .i64 n] [] = some (.bool (l.any fun c => pseudoF c == [] && V c), [.no], []) := by
 obtain ⟨h1, h2⟩ := lsOk_mem h
 have hc := conCx_L (chk := chk) l 107 (eyeD ns nm) (.agg [.int .i64 n]) (fun c => pseudoF c == [] && V c) (by omega) (fun c hc => by obtain ⟨x, e, _⟩ := cxOk_inv (h2 c hc); rw [e]; rfl) fun c hc => list1_L ns nm n c (h2 c hc) (V c) [] (hrow c hc)
 clear hrow h1 h2 h
 unfold eyeD Nam.cs at *
 obtain ⟨T, hT⟩ := tree_fix ns
 generalize treeN ns = T0 at *
 subst hT
 generalize (l.any fun c => pseudoF c == [] && V c) = q at *
 refine callK (m := 10) (res := [6]) (rs := [.tmp 6]) rfl Tryz.func68 rfl rfl rfl rfl rfl ?_
 repeat' (first|simp only [*, upd, AVB, AVY, ↓reduceIte, Nat.reduceEqDiff, Nat.reduceLT, reduceCtorEq, Nat.reduceBEq, Nat.reduceAdd]|refine drW_intro (by kernel_rfl) ?_|refine gw_intro (fun h => ?_) (fun h => ?_) <;> try simp only [AVH] at h)
set_option maxHeartbeats 1000000 in
theorem fits1_L (ns : List Nd) (nm : Nam) (n : Int) (s : Sf) (r : Bool) (rr : List Room)
  (hs : callL Tryz.prog (ext11b chk) 38 [eyeD ns nm, s.d, .int .i64 n] [] = some (.bool r, rr, [])) :
  callL Tryz.prog (ext11b chk) 111 [.agg [.int .i64 s.kd, .int .i64 s.ns, .str s.pre, .str s.nm, .int .i64 s.op, .str s.tx, .bool s.fold, .int .i64 s.mark, .int .i64 s.a, .int .i64 s.b, .list s.of_], .fix (eyeD ns nm) 0, .fix (.agg [.int .i64 n]) 0] [] = some (.bool (!r), [.no], []) := by
 unfold eyeD Nam.cs Sf.d at *
 obtain ⟨T, hT⟩ := tree_fix ns
 generalize treeN ns = T0 at *
 subst hT
 refine callK (m := 10) (res := [4]) (rs := [.tmp 4]) rfl Tryz.func111 rfl rfl rfl rfl rfl ?_
 repeat' (first|simp only [*, AVB, AVY, ↓reduceIte, Nat.reduceEqDiff, Nat.reduceLT, Nat.reduceBEq, Nat.reduceAdd]|refine drW_intro (by kernel_rfl) ?_|refine gw_intro (fun h => ?_) (fun h => ?_) <;> try simp only [AVH] at h)
theorem any_not {α : Type} (l : List α) (f : α → Bool) : (!(l.any fun x => !f x)) = l.all f := by
 induction l with
 | nil => rfl
 | cons a r ih => simp [List.any_cons, List.all_cons, ← ih]
set_option maxHeartbeats 1000000 in
theorem fits_L (ns : List Nd) (nm : Nam) (n : Int) {S : D → Bool} (c : Int) (l : List D) (hl : l.length ≤ 100) (hform : ∀ s ∈ l, s = (sf s).d) (V : D → Bool) (rr : List Room)
  (hs : ∀ s ∈ l, callL Tryz.prog (ext11b chk) 38 [eyeD ns nm, (sf s).d, .int .i64 n] [] = some (.bool (V s), rr, [])) :
  callL Tryz.prog (ext11b chk) 79 [eyeD ns nm, .agg [.int .i64 c, .list l], .int .i64 n] [] = some (.bool (l.all V), [.no], []) := by
 have hc := conSm_L (chk := chk) l 111 (eyeD ns nm) (.agg [.int .i64 n]) (fun s => !V s) (by omega) hform fun s hm => fits1_L ns nm n (sf s) (V s) rr (hs s hm)
 have he := any_not l V
 clear hs hl hform
 unfold eyeD Nam.cs at *
 obtain ⟨T, hT⟩ := tree_fix ns
 generalize treeN ns = T0 at *
 subst hT
 generalize (l.any fun s => !V s) = q at *
 generalize l.all V = y at *
 refine callK (m := 12) (res := [6]) (rs := [.tmp 6]) rfl Tryz.func79 rfl rfl rfl rfl rfl ?_
 repeat' (first|simp only [*, upd, AVB, AVY, ↓reduceIte, Nat.reduceEqDiff, Nat.reduceLT, reduceCtorEq, Nat.reduceBEq, Nat.reduceAdd]|refine drW_intro (by kernel_rfl) ?_|refine gw_intro (fun h => ?_) (fun h => ?_) <;> try simp only [AVH] at h)
set_option maxHeartbeats 1000000 in
theorem attr1_103 (ns : List Nd) (nm : Nam) (s : Sf) (a : At) (hn : nm.ok) (ha : a.vl.length ≤ 1000000) (ht : s.tx.length ≤ 1000) :
  callL Tryz.prog (ext11b chk) 103 [.agg [.str a.sp, .str a.nm, .str a.vl], .fix s.d 0, .fix (eyeD ns nm) 0] [] = some (.bool (a.nm == s.nm && (inPlF nm s.ns s.pre a.sp true && holdsF s.op s.tx s.fold a.vl)), [.no], []) := by
 have h1 := inPlace_L (chk := chk) ns nm s a.sp true hn
 have h2 : callL Tryz.prog (ext11b chk) 101 [.agg [.int .i64 s.op, .str s.tx, .bool s.fold], .str a.vl] [] = _ := holds_L (chk := chk) s.op s.tx s.fold a.vl (by omega) (by omega)
 clear hn ha ht
 generalize inPlF nm s.ns s.pre a.sp true = p at *
 generalize holdsF s.op s.tx s.fold a.vl = q at *
 unfold eyeD Nam.cs Sf.d at *
 obtain ⟨T, hT⟩ := tree_fix ns
 generalize treeN ns = T0 at *
 subst hT
 cases hnm : (a.nm == s.nm) with
 | false =>
  refine callK (m := 24) (res := [4]) (rs := [.tmp 4]) rfl Tryz.func103 rfl rfl rfl rfl rfl ?_
  repeat' (first|simp only [*, AVB, AVY, ↓reduceIte, Nat.reduceEqDiff, Nat.reduceLT, Nat.reduceBEq, Nat.reduceAdd]|refine drW_intro (by kernel_rfl) ?_|refine gw_intro (fun h => ?_) (fun h => ?_) <;> try simp only [AVH] at h)
 | true =>
  cases p with
  | false =>
   refine callK (m := 24) (res := [4]) (rs := [.tmp 4]) rfl Tryz.func103 rfl rfl rfl rfl rfl ?_
   repeat' (first|simp only [*, AVB, AVY, ↓reduceIte, Nat.reduceEqDiff, Nat.reduceLT, Nat.reduceBEq, Nat.reduceAdd]|refine drW_intro (by kernel_rfl) ?_|refine gw_intro (fun h => ?_) (fun h => ?_) <;> try simp only [AVH] at h)
  | true =>
   refine callK (m := 24) (res := [4]) (rs := [.tmp 4]) rfl Tryz.func103 rfl rfl rfl rfl rfl ?_
   repeat' (first|simp only [*, AVB, AVY, ↓reduceIte, Nat.reduceEqDiff, Nat.reduceLT, Nat.reduceBEq, Nat.reduceAdd]|refine drW_intro (by kernel_rfl) ?_|refine gw_intro (fun h => ?_) (fun h => ?_) <;> try simp only [AVH] at h)
set_option maxHeartbeats 1000000 in
theorem attr65_L (ns : List Nd) (nm : Nam) (s : Sf) (x : Nd) (hn : nm.ok) (hx : x.at_.length ≤ 1000000) (hst : x.st.length ≤ 1000000) (ha : ∀ a ∈ x.at_, a.vl.length ≤ 1000000) (ht : s.tx.length ≤ 1000) :
  callL Tryz.prog (ext11b chk) 65 [eyeD ns nm, s.d, x.d] [] = some (.bool (x.at_.any fun a => a.nm == s.nm && (inPlF nm s.ns s.pre a.sp true && holdsF s.op s.tx s.fold a.vl)), [.no], []) := by
 have hc := conAt_L (chk := chk) x.at_ 103 s.d (eyeD ns nm) (fun a => a.nm == s.nm && (inPlF nm s.ns s.pre a.sp true && holdsF s.op s.tx s.fold a.vl)) hx fun a hm => attr1_103 ns nm s a hn (ha a hm) ht
 clear hn hx ha ht hst
 generalize (x.at_.any fun a => a.nm == s.nm && (inPlF nm s.ns s.pre a.sp true && holdsF s.op s.tx s.fold a.vl)) = q at *
 rw [ndat]
 generalize x.at_.map At.d = LA at *
 generalize x.st.map D.str = LS at *
 unfold eyeD Nam.cs Sf.d at *
 obtain ⟨T, hT⟩ := tree_fix ns
 generalize treeN ns = T0 at *
 subst hT
 refine callK (m := 11) (res := [6]) (rs := [.tmp 6]) rfl Tryz.func65 rfl rfl rfl rfl rfl ?_
 repeat' (first|simp only [*, upd, AVB, AVY, ↓reduceIte, Nat.reduceEqDiff, Nat.reduceLT, reduceCtorEq, Nat.reduceBEq, Nat.reduceAdd]|refine drW_intro (by kernel_rfl) ?_|refine gw_intro (fun h => ?_) (fun h => ?_) <;> try simp only [AVH] at h)
set_option maxHeartbeats 2000000 in
theorem link_L (ns : List Nd) (nm : Nam) (n : Int) (x : Nd) (hn : nm.ok) (hS : SmallD ns) :
  callL Tryz.prog (ext11b chk) 70 [eyeD ns nm, .int .i64 n, x.d] [] = some (.bool ((x.nm == [97] || x.nm == sArea) && (inPlF nm 0 [] x.sp false && plainV ns n sHref 1 [])), [.no], []) := by
 have h1 : callL Tryz.prog (ext11b chk) 63 [eyeD ns nm, .agg [.int .i64 0, .int .i64 0, .str [], .str [], .int .i64 0, .str [], .bool false, .int .i64 0, .int .i64 0, .int .i64 0, .list []], .str x.sp, .bool false] [] = _ := inPlace_L (chk := chk) ns nm ⟨0, 0, [], [], 0, [], false, 0, 0, 0, []⟩ x.sp false hn
 have h2 := plain64_L (chk := chk) ns nm n sHref 1 [] hS (by decide)
 dsimp only at h1
 generalize inPlF nm 0 [] x.sp false = p at *
 generalize plainV ns n sHref 1 [] = q at *
 rw [ndat]
 generalize x.at_.map At.d = LA at *
 generalize x.st.map D.str = LS at *
 clear hn hS
 unfold eyeD Nam.cs sHref at *
 unfold sArea
 obtain ⟨T, hT⟩ := tree_fix ns
 generalize treeN ns = T0 at *
 subst hT
 cases c1 : (x.nm == [97]) with
 | true =>
  cases p with
  | true =>
   refine callK (m := 28) (res := [6]) (rs := [.tmp 6]) rfl Tryz.func70 rfl rfl rfl rfl rfl ?_
   repeat' (first|simp only [*, AVB, AVY, ↓reduceIte, Nat.reduceEqDiff, Nat.reduceLT, reduceCtorEq, Nat.reduceBEq, Nat.reduceAdd]|refine drW_intro (by kernel_rfl) ?_|refine gw_intro (fun h => ?_) (fun h => ?_) <;> try simp only [AVH] at h)
  | false =>
   refine callK (m := 28) (res := [6]) (rs := [.tmp 6]) rfl Tryz.func70 rfl rfl rfl rfl rfl ?_
   repeat' (first|simp only [*, AVB, AVY, ↓reduceIte, Nat.reduceEqDiff, Nat.reduceLT, reduceCtorEq, Nat.reduceBEq, Nat.reduceAdd]|refine drW_intro (by kernel_rfl) ?_|refine gw_intro (fun h => ?_) (fun h => ?_) <;> try simp only [AVH] at h)
 | false =>
  cases c2 : (x.nm == [97, 114, 101, 97]) with
  | true =>
   cases p with
   | true =>
    refine callK (m := 28) (res := [6]) (rs := [.tmp 6]) rfl Tryz.func70 rfl rfl rfl rfl rfl ?_
    repeat' (first|simp only [*, AVB, AVY, ↓reduceIte, Nat.reduceEqDiff, Nat.reduceLT, reduceCtorEq, Nat.reduceBEq, Nat.reduceAdd]|refine drW_intro (by kernel_rfl) ?_|refine gw_intro (fun h => ?_) (fun h => ?_) <;> try simp only [AVH] at h)
   | false =>
    refine callK (m := 28) (res := [6]) (rs := [.tmp 6]) rfl Tryz.func70 rfl rfl rfl rfl rfl ?_
    repeat' (first|simp only [*, AVB, AVY, ↓reduceIte, Nat.reduceEqDiff, Nat.reduceLT, reduceCtorEq, Nat.reduceBEq, Nat.reduceAdd]|refine drW_intro (by kernel_rfl) ?_|refine gw_intro (fun h => ?_) (fun h => ?_) <;> try simp only [AVH] at h)
  | false =>
   refine callK (m := 28) (res := [6]) (rs := [.tmp 6]) rfl Tryz.func70 rfl rfl rfl rfl rfl ?_
   repeat' (first|simp only [*, AVB, AVY, ↓reduceIte, Nat.reduceEqDiff, Nat.reduceLT, reduceCtorEq, Nat.reduceBEq, Nat.reduceAdd]|refine drW_intro (by kernel_rfl) ?_|refine gw_intro (fun h => ?_) (fun h => ?_) <;> try simp only [AVH] at h)
end Go.Av
namespace Go.Av
open Go.Proofs
variable [Rk] {chk : List D → Bool}
set_option maxHeartbeats 1000000 in
theorem counted1_L (ns : List Nd) (nm : Nam) (n : Int) (s : Sf) (W : Bool)
  (hl : s.of_ ≠ [] → callL Tryz.prog (ext11b chk) 68 [eyeD ns nm, .list s.of_, .int .i64 n] [] = some (.bool W, [.no], [])) :
  callL Tryz.prog (ext11b chk) 105 [.int .i64 n, .fix s.d 0, .fix (eyeD ns nm) 0] [] = some (.bool (s.of_.isEmpty || W), [.no], []) := by
 unfold eyeD Nam.cs Sf.d at *
 obtain ⟨T, hT⟩ := tree_fix ns
 generalize treeN ns = T0 at *
 subst hT
 cases ho : s.of_ with
 | nil =>
  clear hl
  rw [show ([] : List D).isEmpty = true from rfl, Bool.true_or]
  refine callK (m := 16) (res := [4]) (rs := [.tmp 4]) rfl Tryz.func105 rfl rfl rfl rfl rfl ?_
  repeat' (first|simp only [*, AVB, AVY, ↓reduceIte, Nat.reduceEqDiff, Nat.reduceLT, Nat.reduceBEq, dIntBin]|refine drW_intro (by kernel_rfl) ?_|refine gw_intro (fun h => ?_) (fun h => ?_) <;> try simp only [AVH] at h)
 | cons x r =>
  have hl' := hl (by rw [ho]; exact List.cons_ne_nil _ _)
  rw [ho] at hl'
  have hz : (((r.length + 1 : Nat) : Int) == 0) = false := ne0 (by omega)
  have he : (x :: r).isEmpty = false := rfl
  clear hl
  refine callK (m := 16) (res := [4]) (rs := [.tmp 4]) rfl Tryz.func105 rfl rfl rfl rfl rfl ?_
  repeat' (first|simp only [*, AVB, AVY, ↓reduceIte, Nat.reduceEqDiff, Nat.reduceLT, reduceCtorEq, Nat.reduceBEq, dIntBin]|refine drW_intro (by kernel_rfl) ?_|refine gw_intro (fun h => ?_) (fun h => ?_) <;> try simp only [AVH] at h)
theorem countP_take {α : Type} {W : α → Bool} {l : List α} {i : Nat} {x : α} (h : l[i]? = some x) : (l.take (i + 1)).countP W = (l.take i).countP W + (if W x = true then 1 else 0) := by
 rw [List.take_add_one, h, List.countP_append]
 simp [List.countP_cons]
set_option maxHeartbeats 4000000 in
theorem counted_L (ns : List Nd) (nm : Nam) (n : Int) (s : Sf) (W : Int → Bool) (hS : ns.length ≤ 10000) (he : elB ns n = true)
  (ha : s.a ≤ 1099511627776 ∧ -1099511627776 ≤ s.a) (hb : s.b ≤ 1099511627776 ∧ -1099511627776 ≤ s.b)
  (hn : callL Tryz.prog (ext11b chk) 105 [.int .i64 n, .fix s.d 0, .fix (eyeD ns nm) 0] [] = some (.bool (W n), [.no], []))
  (hrow : ∀ k ∈ rowI ns n, callL Tryz.prog (ext11b chk) 105 [.int .i64 k, .fix s.d 0, .fix (eyeD ns nm) 0] [] = some (.bool (W k), [.no], [])) :
  callL Tryz.prog (ext11b chk) 67 [eyeD ns nm, s.d, .int .i64 n] [] = some (.bool (nthV W ns s.a s.b n), [.no], []) := by
 have hR := row_L (chk := chk) ns n hS
 rw [if_pos he] at hR
 have hlen : (rowI ns n).length ≤ 10001 := by
  unfold rowI
  rw [if_pos he]
  have h1 := rowL_len (ns := ns) (key := pAt ns n.toNat) (m := n.toNat + 1)
  have h2 := (elB_nat he).2.1
  have h3 := (elB_nat he).1
  omega
 unfold nthV
 generalize rowI ns n = R at *
 have hcnt : R.countP W ≤ R.length := List.countP_le_length
 have hh := anbHas_L (chk := chk) s.a s.b ((R.countP W : Nat) : Int) ha hb (by omega)
 clear ha hb he hS hcnt
 unfold eyeD Nam.cs Sf.d at *
 obtain ⟨T, hT⟩ := tree_fix ns
 generalize treeN ns = T0 at *
 subst hT
 have HC := Hd.mk hrow
 clear hrow
 cases hw : W n with
 | false =>
  rw [hw] at hn
  clear hh hlen
  rw [Bool.false_and]
  refine callK (m := 39) (res := [6]) (rs := [.tmp 6]) rfl Tryz.func67 rfl rfl rfl rfl rfl ?_
  repeat' (first|simp only [*, upd, AVB, AVY, ↓reduceIte, Nat.reduceEqDiff, Nat.reduceLT, reduceCtorEq, Nat.reduceBEq, Nat.reduceAdd]|refine drW_intro (by kernel_rfl) ?_|refine gw_intro (fun h => ?_) (fun h => ?_) <;> try simp only [AVH] at h)
 | true =>
  rw [hw] at hn
  rw [Bool.true_and]
  generalize hq : hasAB s.a s.b ((R.countP W : Nat) : Int) = q at *
  clear hq
  have HL := Hd.mk hlen
  have HH := Hd.mk hh
  have lN := lenM R (D.int .i64)
  clear hlen hh
  refine callK (m := 39) (res := [6]) (rs := [.tmp 6]) rfl Tryz.func67 rfl rfl rfl rfl rfl ?_
  repeat' (first|simp only [*, upd, AVB, AVY, ↓reduceIte, Nat.reduceEqDiff, Nat.reduceLT, reduceCtorEq, Nat.reduceBEq, Nat.reduceAdd]|refine drW_intro (by kernel_rfl) ?_|refine gw_intro (fun h => ?_) (fun h => ?_) <;> try simp only [AVH] at h)
  refine loopH (fun st => ∃ i : Nat, i ≤ R.length ∧ st.slot 21 = .int .i64 i ∧ st.slot 20 = .int .i64 R.length ∧ st.slot 19 = .list (R.map (D.int .i64)) ∧ st.slot 7 = .func (.func 105) [] [.fix (.agg [.int .i64 s.kd, .int .i64 s.ns, .str s.pre, .str s.nm, .int .i64 s.op, .str s.tx, .bool s.fold, .int .i64 s.mark, .int .i64 s.a, .int .i64 s.b, .list s.of_]) 0, .fix (.agg [.fix T 0, .bool nm.has, .str nm.dft, .list (nm.pre.map .str), .list (nm.sps.map .str)]) 0] ∧ st.slot 8 = .int .i64 (((R.take i).countP W : Nat) : Int) ∧ st.slot 4 = .fix (.agg [.int .i64 s.kd, .int .i64 s.ns, .str s.pre, .str s.nm, .int .i64 s.op, .str s.tx, .bool s.fold, .int .i64 s.mark, .int .i64 s.a, .int .i64 s.b, .list s.of_]) 0) (fun st => R.length - slotI st 21) ?_ ?_
  ·refine ⟨0, Nat.zero_le _, ?_, ?_, ?_, ?_, ?_, ?_⟩
   all_goals simp only [*, AVB, ↓reduceIte, Nat.reduceEqDiff]
   all_goals rfl
  ·rintro st K ⟨i, hi, g0, g1, g2, g3, g4, g5⟩ hnx hx hr
   have hl : R.length ≤ 10001 := HL
   by_cases h : i < R.length
   ·have g9 : (i : Int) < R.length := by omega
    have hw2 := wrapS i (by omega)
    obtain ⟨x, hx1⟩ := some_at h
    have hxm := List.mem_of_getElem? hx1
    have hc := (show ∀ k ∈ R, callL Tryz.prog (ext11b chk) 105 [.int .i64 k, .fix (.agg [.int .i64 s.kd, .int .i64 s.ns, .str s.pre, .str s.nm, .int .i64 s.op, .str s.tx, .bool s.fold, .int .i64 s.mark, .int .i64 s.a, .int .i64 s.b, .list s.of_]) 0, .fix (.agg [.fix T 0, .bool nm.has, .str nm.dft, .list (nm.pre.map .str), .list (nm.sps.map .str)]) 0] [] = some (.bool (W k), [.no], []) from HC) x hxm
    have ha : (R.map (D.int .i64)).getD i .bad = .int .i64 x := getD_map (f := D.int .i64) hx1
    have hct := countP_take (W := W) hx1
    have hcl : (R.take i).countP W ≤ i := Nat.le_trans List.countP_le_length (by rw [List.length_take]; omega)
    have hw3 := wrapS ((R.take i).countP W) (by omega)
    cases hq2 : W x with
    | true =>
     rw [hq2] at hc hct
     rw [if_pos rfl] at hct
     have HCT := Hd.mk hct
     clear hct hcl hxm hx1 hl hn hx hr hw hq2 hR
     repeat' (first|simp only [*, AVB, AVY, ↓reduceIte, Nat.reduceEqDiff, Nat.reduceLT, Nat.reduceBEq, dIntBin]|refine drW_intro (by kernel_rfl) ?_|refine gw_intro (fun h => ?_) (fun h => ?_) <;> try simp only [AVH] at h)
     refine hnx _ ⟨i + 1, h, ?_, ?_, ?_, ?_, ?_, ?_⟩ ?_
     ·simp only [*, AVL, ↓reduceIte]
     ·simp only [*, AVL, ↓reduceIte, Nat.reduceEqDiff]
     ·simp only [*, AVL, ↓reduceIte, Nat.reduceEqDiff]
     ·simp only [*, AVL, ↓reduceIte, Nat.reduceEqDiff]
     ·rw [show (R.take (i + 1)).countP W = _ from HCT]
      simp only [*, AVB, ↓reduceIte, Nat.reduceEqDiff]
     ·simp only [*, AVL, ↓reduceIte, Nat.reduceEqDiff]
     ·simp only [slotI, *, AVB, ↓reduceIte]
      omega
    | false =>
     rw [hq2] at hc hct
     rw [if_neg (by decide), Nat.add_zero] at hct
     have HCT := Hd.mk hct
     clear hct hcl hxm hx1 hl hn hx hr hw hw3 hq2 hR
     repeat' (first|simp only [*, AVB, AVY, ↓reduceIte, Nat.reduceEqDiff, Nat.reduceLT, Nat.reduceBEq, dIntBin]|refine drW_intro (by kernel_rfl) ?_|refine gw_intro (fun h => ?_) (fun h => ?_) <;> try simp only [AVH] at h)
     refine hnx _ ⟨i + 1, h, ?_, ?_, ?_, ?_, ?_, ?_⟩ ?_
     ·simp only [*, AVL, ↓reduceIte]
     ·simp only [*, AVL, ↓reduceIte, Nat.reduceEqDiff]
     ·simp only [*, AVL, ↓reduceIte, Nat.reduceEqDiff]
     ·simp only [*, AVL, ↓reduceIte, Nat.reduceEqDiff]
     ·rw [show (R.take (i + 1)).countP W = _ from HCT]
      simp only [*, AVB, ↓reduceIte, Nat.reduceEqDiff]
     ·simp only [*, AVL, ↓reduceIte, Nat.reduceEqDiff]
     ·simp only [slotI, *, AVB, ↓reduceIte]
      omega
   ·have g9 : ¬ (i : Int) < R.length := by omega
    rw [List.take_of_length_le (by omega)] at g4
    have hh : callL Tryz.prog (ext11b chk) 106 [.int .i64 s.a, .int .i64 s.b, .int .i64 ((R.countP W : Nat) : Int)] [] = some (.bool q, [.no], []) := HH
    clear hnx hr hl hn hw hR
    repeat' (first|simp only [*, AVB, ↓reduceIte, Nat.reduceLT, dIntBin]|refine drW_intro (by kernel_rfl) ?_|refine gw_intro (fun h => ?_) (fun h => ?_) <;> try simp only [AVH] at h)
    refine hx _ _ ?_
    repeat' (first|simp only [*, AVB, AVY, ↓reduceIte, Nat.reduceEqDiff, Nat.reduceLT, Nat.reduceBEq, Nat.reduceAdd]|refine drW_intro (by kernel_rfl) ?_|refine gw_intro (fun h => ?_) (fun h => ?_) <;> try simp only [AVH] at h)
end Go.Av
namespace Go.Av
open Go.Proofs
variable [Rk] {chk : List D → Bool}
theorem node_small {ns : List Nd} (hS : SmallD ns) (n : Int) : (nodeI ns n).at_.length ≤ 1000000 ∧ (nodeI ns n).st.length ≤ 1000000 ∧ ∀ a ∈ (nodeI ns n).at_, a.vl.length ≤ 1000000 := by
 unfold nodeI
 split
 ·rename_i h
  unfold inB' at h
  simp only [Bool.and_eq_true, decide_eq_true_eq] at h
  obtain ⟨x, hx⟩ := some_at (show n.toNat < ns.length by omega)
  have hg : ns.getD n.toNat zeroN = x := by simp [List.getD, hx]
  rw [hg]
  have h1 := hS.2 x (List.mem_of_getElem? hx)
  refine ⟨h1.1, h1.2.1, fun a ha => ?_⟩
  have := (h1.2.2.2.2.2 a ha).2.2
  omega
 ·refine ⟨by simp [zeroN], by simp [zeroN], fun a ha => by simp [zeroN] at ha⟩
set_option maxHeartbeats 8000000 in
theorem simple_L (ns : List Nd) (nm : Nam) (n : Int) (S : Sf) (hn : nm.ok) (hS : SmallD ns) (he : elB ns n = true) (hrE : ∀ j ∈ rowI ns n, elB ns j = true) (hnm : S.nm.length ≤ 1000) (ht : S.tx.length ≤ 1000)
  (ha : S.a ≤ 1099511627776 ∧ -1099511627776 ≤ S.a) (hb : S.b ≤ 1099511627776 ∧ -1099511627776 ≤ S.b) (L : List D → Int → Bool)
  (hl : ∀ j, elB ns j = true → callL Tryz.prog (ext11b chk) 68 [eyeD ns nm, .list S.of_, .int .i64 j] [] = some (.bool (L S.of_ j), [.no], [])) :
  callL Tryz.prog (ext11b chk) 38 [eyeD ns nm, S.d, .int .i64 n] [] = some (.bool (stepV ns nm L S.d n), [.no], []) := by
 have hcnt := counted_L (chk := chk) ns nm n S (fun j => S.of_.isEmpty || L S.of_ j) hS.1 he ha hb (counted1_L ns nm n S (L S.of_ n) fun _ => hl n he) (fun j hj => counted1_L ns nm j S (L S.of_ j) fun _ => hl j (hrE j hj))
 have hlst := hl n he
 have hsta := sta40_L (chk := chk) ns n S.nm hS
 have hpar := parent_L (chk := chk) ns n
 have hcl := plain64_L (chk := chk) ns nm n sClass 3 S.nm hS hnm
 have hid := plain64_L (chk := chk) ns nm n sId 2 S.nm hS hnm
 have hlk := link_L (chk := chk) ns nm n (nodeI ns n) hn hS
 obtain ⟨x1, x2, x3⟩ := node_small hS n
 have hat := attr65_L (chk := chk) ns nm S (nodeI ns n) hn x1 x2 x3 ht
 have hip := inPlace_L (chk := chk) ns nm S (nodeI ns n).sp false hn
 have hnd := node36_L (chk := chk) ns n hS
 clear hl hrE ha hb ht hnm he hn hS x1 x2 x3
 unfold stepV
 rw [sf_d]
 dsimp only
 generalize nodeI ns n = X at *
 generalize nthV (fun j => S.of_.isEmpty || L S.of_ j) ns S.a S.b n = q7 at *
 generalize L S.of_ n = q8 at *
 generalize staI ns n S.nm = q11 at *
 generalize plainV ns n sClass 3 S.nm = q3 at *
 generalize plainV ns n sId 2 S.nm = q4 at *
 generalize ((X.nm == [97] || X.nm == sArea) && (inPlF nm 0 [] X.sp false && plainV ns n sHref 1 [])) = q12 at *
 generalize (X.at_.any fun a => a.nm == S.nm && (inPlF nm S.ns S.pre a.sp true && holdsF S.op S.tx S.fold a.vl)) = q5 at *
 generalize inPlF nm S.ns S.pre X.sp false = q2 at *
 generalize parI ns n = P at *
 generalize inB' ns n = ib at *
 rw [ndat] at hnd hat hlk
 generalize X.at_.map At.d = LA at *
 generalize X.st.map D.str = LS at *
 unfold sClass at hcl
 unfold sId at hid
 unfold eyeD Nam.cs Sf.d at *
 obtain ⟨T, hT⟩ := tree_fix ns
 generalize treeN ns = T0 at *
 subst hT
 obtain ⟨p1, p2⟩ := P
 dsimp only at hpar
 by_cases k1 : S.kd = 1
 ·rw [if_pos k1]
  generalize hkd : S.kd = kd at *
  subst k1
  clear hkd 
  clear hcnt hlst hsta hpar hcl hid hlk hat
  cases c1 : (X.nm == S.nm) with
  | true =>
   refine callK (m := 113) (res := [6]) (rs := [.tmp 6]) rfl Tryz.func38 rfl rfl rfl rfl rfl ?_
   repeat' (first|simp only [*, AVB, AVY, ↓reduceIte, Nat.reduceEqDiff, Nat.reduceLT, Nat.reduceLeDiff, reduceCtorEq, Nat.reduceBEq, Nat.reduceAdd, dIntBin]|refine drW_intro (by kernel_rfl) ?_|refine gw_intro (fun h => ?_) (fun h => ?_) <;> try simp only [AVH] at h)
  | false =>
   refine callK (m := 113) (res := [6]) (rs := [.tmp 6]) rfl Tryz.func38 rfl rfl rfl rfl rfl ?_
   repeat' (first|simp only [*, AVB, AVY, ↓reduceIte, Nat.reduceEqDiff, Nat.reduceLT, Nat.reduceLeDiff, reduceCtorEq, Nat.reduceBEq, Nat.reduceAdd, dIntBin]|refine drW_intro (by kernel_rfl) ?_|refine gw_intro (fun h => ?_) (fun h => ?_) <;> try simp only [AVH] at h)
 rw [if_neg k1]
 by_cases k2 : S.kd = 2
 ·rw [if_pos k2]
  generalize hkd : S.kd = kd at *
  subst k2
  clear hkd k1
  clear hcnt hlst hsta hpar hcl hid hlk hat
  refine callK (m := 113) (res := [6]) (rs := [.tmp 6]) rfl Tryz.func38 rfl rfl rfl rfl rfl ?_
  repeat' (first|simp only [*, AVB, AVY, ↓reduceIte, Nat.reduceEqDiff, Nat.reduceLT, Nat.reduceLeDiff, reduceCtorEq, Nat.reduceBEq, Nat.reduceAdd, Int.reduceBEq, dIntBin]|refine drW_intro (by kernel_rfl) ?_|refine gw_intro (fun h => ?_) (fun h => ?_) <;> try simp only [AVH] at h)
 rw [if_neg k2]
 by_cases k3 : S.kd = 3
 ·rw [if_pos k3]
  generalize hkd : S.kd = kd at *
  subst k3
  clear hkd k1 k2
  clear hcnt hlst hsta hpar hid hlk hat hip
  refine callK (m := 113) (res := [6]) (rs := [.tmp 6]) rfl Tryz.func38 rfl rfl rfl rfl rfl ?_
  repeat' (first|simp only [*, AVB, AVY, ↓reduceIte, Nat.reduceEqDiff, Nat.reduceLT, Nat.reduceLeDiff, reduceCtorEq, Nat.reduceBEq, Nat.reduceAdd, Int.reduceBEq, dIntBin]|refine drW_intro (by kernel_rfl) ?_|refine gw_intro (fun h => ?_) (fun h => ?_) <;> try simp only [AVH] at h)
 rw [if_neg k3]
 by_cases k4 : S.kd = 4
 ·rw [if_pos k4]
  generalize hkd : S.kd = kd at *
  subst k4
  clear hkd k1 k2 k3
  clear hcnt hlst hsta hpar hcl hlk hat hip
  refine callK (m := 113) (res := [6]) (rs := [.tmp 6]) rfl Tryz.func38 rfl rfl rfl rfl rfl ?_
  repeat' (first|simp only [*, AVB, AVY, ↓reduceIte, Nat.reduceEqDiff, Nat.reduceLT, Nat.reduceLeDiff, reduceCtorEq, Nat.reduceBEq, Nat.reduceAdd, Int.reduceBEq, dIntBin]|refine drW_intro (by kernel_rfl) ?_|refine gw_intro (fun h => ?_) (fun h => ?_) <;> try simp only [AVH] at h)
 rw [if_neg k4]
 by_cases k5 : S.kd = 5
 ·rw [if_pos k5]
  generalize hkd : S.kd = kd at *
  subst k5
  clear hkd k1 k2 k3 k4
  clear hcnt hlst hsta hpar hcl hid hlk hip
  refine callK (m := 113) (res := [6]) (rs := [.tmp 6]) rfl Tryz.func38 rfl rfl rfl rfl rfl ?_
  repeat' (first|simp only [*, AVB, AVY, ↓reduceIte, Nat.reduceEqDiff, Nat.reduceLT, Nat.reduceLeDiff, reduceCtorEq, Nat.reduceBEq, Nat.reduceAdd, Int.reduceBEq, dIntBin]|refine drW_intro (by kernel_rfl) ?_|refine gw_intro (fun h => ?_) (fun h => ?_) <;> try simp only [AVH] at h)
 rw [if_neg k5]
 by_cases k6 : S.kd = 6
 ·rw [if_pos k6]
  generalize hkd : S.kd = kd at *
  subst k6
  clear hkd k1 k2 k3 k4 k5
  clear hcnt hlst hsta hcl hid hlk hat hip
  refine callK (m := 113) (res := [6]) (rs := [.tmp 6]) rfl Tryz.func38 rfl rfl rfl rfl rfl ?_
  repeat' (first|simp only [*, AVB, AVY, ↓reduceIte, Nat.reduceEqDiff, Nat.reduceLT, Nat.reduceLeDiff, reduceCtorEq, Nat.reduceBEq, Nat.reduceAdd, Int.reduceBEq, dIntBin]|refine drW_intro (by kernel_rfl) ?_|refine gw_intro (fun h => ?_) (fun h => ?_) <;> try simp only [AVH] at h)
 rw [if_neg k6]
 by_cases k7 : S.kd = 7
 ·rw [if_pos k7]
  generalize hkd : S.kd = kd at *
  subst k7
  clear hkd k1 k2 k3 k4 k5 k6
  clear hlst hsta hpar hcl hid hlk hat hip
  refine callK (m := 113) (res := [6]) (rs := [.tmp 6]) rfl Tryz.func38 rfl rfl rfl rfl rfl ?_
  repeat' (first|simp only [*, AVB, AVY, ↓reduceIte, Nat.reduceEqDiff, Nat.reduceLT, Nat.reduceLeDiff, reduceCtorEq, Nat.reduceBEq, Nat.reduceAdd, Int.reduceBEq, dIntBin]|refine drW_intro (by kernel_rfl) ?_|refine gw_intro (fun h => ?_) (fun h => ?_) <;> try simp only [AVH] at h)
 rw [if_neg k7]
 by_cases k8 : S.kd = 8 ∨ S.kd = 9
 ·rw [if_pos k8]
  generalize hkd : S.kd = kd at *
  clear hkd k1 k2 k3 k4 k5 k6 k7
  rcases k8 with rfl | rfl
  ·clear hcnt hsta hpar hcl hid hlk hat hip
   refine callK (m := 113) (res := [6]) (rs := [.tmp 6]) rfl Tryz.func38 rfl rfl rfl rfl rfl ?_
   repeat' (first|simp only [*, AVB, AVY, ↓reduceIte, Nat.reduceEqDiff, Nat.reduceLT, Nat.reduceLeDiff, reduceCtorEq, Nat.reduceBEq, Nat.reduceAdd, Int.reduceBEq, dIntBin]|refine drW_intro (by kernel_rfl) ?_|refine gw_intro (fun h => ?_) (fun h => ?_) <;> try simp only [AVH] at h)
  ·clear hcnt hsta hpar hcl hid hlk hat hip
   refine callK (m := 113) (res := [6]) (rs := [.tmp 6]) rfl Tryz.func38 rfl rfl rfl rfl rfl ?_
   repeat' (first|simp only [*, AVB, AVY, ↓reduceIte, Nat.reduceEqDiff, Nat.reduceLT, Nat.reduceLeDiff, reduceCtorEq, Nat.reduceBEq, Nat.reduceAdd, Int.reduceBEq, dIntBin]|refine drW_intro (by kernel_rfl) ?_|refine gw_intro (fun h => ?_) (fun h => ?_) <;> try simp only [AVH] at h)
 rw [if_neg k8]
 by_cases k10 : S.kd = 10
 ·rw [if_pos k10]
  generalize hkd : S.kd = kd at *
  subst k10
  clear hkd k1 k2 k3 k4 k5 k6 k7 k8
  clear hcnt hsta hpar hcl hid hlk hat hip
  refine callK (m := 113) (res := [6]) (rs := [.tmp 6]) rfl Tryz.func38 rfl rfl rfl rfl rfl ?_
  repeat' (first|simp only [*, AVB, AVY, ↓reduceIte, Nat.reduceEqDiff, Nat.reduceLT, Nat.reduceLeDiff, reduceCtorEq, Nat.reduceBEq, Nat.reduceAdd, Int.reduceBEq, dIntBin]|refine drW_intro (by kernel_rfl) ?_|refine gw_intro (fun h => ?_) (fun h => ?_) <;> try simp only [AVH] at h)
 rw [if_neg k10]
 by_cases k11 : S.kd = 11
 ·rw [if_pos k11]
  generalize hkd : S.kd = kd at *
  subst k11
  clear hkd k1 k2 k3 k4 k5 k6 k7 k10 k8
  clear hcnt hlst hpar hcl hid hlk hat hip
  refine callK (m := 113) (res := [6]) (rs := [.tmp 6]) rfl Tryz.func38 rfl rfl rfl rfl rfl ?_
  repeat' (first|simp only [*, AVB, AVY, ↓reduceIte, Nat.reduceEqDiff, Nat.reduceLT, Nat.reduceLeDiff, reduceCtorEq, Nat.reduceBEq, Nat.reduceAdd, Int.reduceBEq, dIntBin]|refine drW_intro (by kernel_rfl) ?_|refine gw_intro (fun h => ?_) (fun h => ?_) <;> try simp only [AVH] at h)
 rw [if_neg k11]
 by_cases k12 : S.kd = 12
 ·rw [if_pos k12]
  generalize hkd : S.kd = kd at *
  subst k12
  clear hkd k1 k2 k3 k4 k5 k6 k7 k10 k11 k8
  clear hcnt hlst hsta hpar hcl hid hat hip
  refine callK (m := 113) (res := [6]) (rs := [.tmp 6]) rfl Tryz.func38 rfl rfl rfl rfl rfl ?_
  repeat' (first|simp only [*, AVB, AVY, ↓reduceIte, Nat.reduceEqDiff, Nat.reduceLT, Nat.reduceLeDiff, reduceCtorEq, Nat.reduceBEq, Nat.reduceAdd, Int.reduceBEq, dIntBin]|refine drW_intro (by kernel_rfl) ?_|refine gw_intro (fun h => ?_) (fun h => ?_) <;> try simp only [AVH] at h)
 rw [if_neg k12]
 have k8' : ¬ S.kd = 8 := fun e => k8 (.inl e)
 have k9 : ¬ S.kd = 9 := fun e => k8 (.inr e)
 have n1 := (neI k1).1
 have n2 := (neI k2).1
 have n3 := (neI k3).1
 have n4 := (neI k4).1
 have n5 := (neI k5).1
 have n6 := (neI k6).1
 have n7 := (neI k7).1
 have n8 := (neI k8').1
 have n9 := (neI k9).1
 have n10 := (neI k10).1
 have n11 := (neI k11).1
 have n12 := (neI k12).1
 clear k1 k2 k3 k4 k5 k6 k7 k8 k8' k9 k10 k11 k12
 clear hcnt hlst hsta hpar hcl hid hlk hat hip
 refine callK (m := 113) (res := [6]) (rs := [.tmp 6]) rfl Tryz.func38 rfl rfl rfl rfl rfl ?_
 repeat' (first|simp only [*, AVB, AVY, ↓reduceIte, Nat.reduceEqDiff, Nat.reduceLT, Nat.reduceLeDiff, reduceCtorEq, Nat.reduceBEq, Nat.reduceAdd, dIntBin]|refine drW_intro (by kernel_rfl) ?_|refine gw_intro (fun h => ?_) (fun h => ?_) <;> try simp only [AVH] at h)
end Go.Av
namespace Go.Av
open Go.Proofs
variable [Rk] {chk : List D → Bool}
theorem row1_L (ns : List Nd) (nm : Nam) (n : Int) (l : List D) (r : Bool)
  (hs : callL Tryz.prog (ext11b chk) 45 [eyeD ns nm, .list l, .int .i64 n] [] = some (.bool r, [], [])) :
  callL Tryz.prog (ext11b chk) 84 [.int .i64 n, .fix (eyeD ns nm) 0, .fix (.agg [.list l]) 0] [] = some (.bool r, [.no], []) := by
 unfold eyeD Nam.cs at *
 obtain ⟨T, hT⟩ := tree_fix ns
 generalize treeN ns = T0 at *
 subst hT
 refine callK (m := 9) (res := [4]) (rs := [.tmp 4]) rfl Tryz.func84 rfl rfl rfl rfl rfl ?_
 repeat' (first|simp only [*, AVB, AVY, ↓reduceIte, Nat.reduceEqDiff, Nat.reduceLT, reduceCtorEq, Nat.reduceBEq]|refine drW_intro (by kernel_rfl) ?_|refine gw_intro (fun h => ?_) (fun h => ?_) <;> try simp only [AVH] at h)
theorem conI_L (ns : List Nd) (nm : Nam) (R : List Int) (l : List D) (V : Int → Bool) (hl : R.length ≤ 1000000)
  (hrec : ∀ m ∈ R, callL Tryz.prog (ext11b chk) 45 [eyeD ns nm, .list l, .int .i64 m] [] = some (.bool (V m), [], [])) :
  callL Tryz.prog (ext11b chk) 83 [.list (R.map (D.int .i64)), .func (.func 84) [] [.fix (eyeD ns nm) 0, .fix (.agg [.list l]) 0]] [] = some (.bool (R.any V), [.no], []) :=
 conIn_L (chk := chk) R 84 (eyeD ns nm) (.agg [.list l]) V hl fun m hm => row1_L ns nm m l (V m) (hrec m hm)
set_option maxHeartbeats 1000000 in
theorem row_nil (ns : List Nd) (nm : Nam) (n : Int) (h45 : ext11b chk 45 [eyeD ns nm, .list [], .int .i64 n] [] = none) : callL Tryz.prog (ext11b chk) 45 [eyeD ns nm, .list [], .int .i64 n] [] = some (.bool false, [.no], []) := by
 unfold eyeD Nam.cs at *
 obtain ⟨T, hT⟩ := tree_fix ns
 generalize treeN ns = T0 at *
 subst hT
 have H := h45
 clear h45
 refine callK (m := 94) (res := []) (rs := [.cell 6 4]) H Tryz.func45 rfl rfl rfl rfl rfl ?_
 clear H
 repeat' (first|simp only [*, AVB, AVY, ↓reduceIte, Nat.reduceEqDiff, Nat.reduceLT, Nat.reduceLeDiff, Nat.reduceBEq, Nat.reduceAdd, dIntBin]|refine drW_intro (by kernel_rfl) ?_|refine gw_intro (fun h => ?_) (fun h => ?_) <;> try simp only [AVH] at h)
structure RowH (L l : List D) (cc : Int) (sl : List D) : Prop where
 z : ((L.length : Int) == 0) = false
 w : IntKind.i64.wrap ((L.length : Int) - 1) = (l.length : Int)
 g : L.getD l.length .bad = .agg [.int .i64 cc, .list sl]
 lt : (l.length : Int) < L.length
 le : (l.length : Int) ≤ L.length
 ge : (0 : Int) ≤ (l.length : Int)
 s : szOk 2 L = true
 t : L.take l.length = l
theorem rowH (l : List D) (cc : Int) (sl : List D) (h : l.length ≤ 1000) (hc : ∀ x ∈ l, (dcells x).length = 2) : RowH (l ++ [.agg [.int .i64 cc, .list sl]]) l cc sl := by
 have e : ((l ++ [D.agg [.int .i64 cc, .list sl]]).length : Int) = l.length + 1 := by simp
 refine ⟨?_, ?_, ?_, ?_, ?_, ?_, ?_, ?_⟩
 ·rw [e, beq_eq_false_iff_ne]; omega
 ·rw [e, wrap64 _ (by omega) (by omega)]; omega
 ·simp [List.getD]
 ·omega
 ·omega
 ·omega
 ·cases l with
  | nil => rfl
  | cons x r => 
   rw [List.cons_append, szOk_cons, hc x (List.mem_cons_self ..)]
   rfl
 ·simp
set_option maxHeartbeats 4000000 in
theorem row_eval (ns : List Nd) (nm : Nam) (n : Int) (l : List D) (cc : Int) (sl : List D) (V : Int → Bool) (fv : Bool) (hS : ns.length ≤ 10000) (he : elB ns n = true) (hl : l.length ≤ 1000) (hc : ∀ x ∈ l, (dcells x).length = 2)
  (h45 : ext11b chk 45 [eyeD ns nm, .list (l ++ [.agg [.int .i64 cc, .list sl]]), .int .i64 n] [] = none)
  (hfit : callL Tryz.prog (ext11b chk) 79 [eyeD ns nm, .agg [.int .i64 cc, .list sl], .int .i64 n] [] = some (.bool fv, [.no], []))
  (hrec : ∀ m, (m = (parI ns n).1 ∧ (parI ns n).2 = true) ∨ (m = (ahdI ns n).1 ∧ (ahdI ns n).2 = true) ∨ m ∈ (rowI ns n).dropLast → callL Tryz.prog (ext11b chk) 45 [eyeD ns nm, .list l, .int .i64 m] [] = some (.bool (V m), [], []))
  (hcc : fv = true → l ≠ [] → cc ≠ 1) :
  callL Tryz.prog (ext11b chk) 45 [eyeD ns nm, .list (l ++ [.agg [.int .i64 cc, .list sl]]), .int .i64 n] [] = some (.bool (fv && (l.isEmpty ||
   if cc = 2 then (parI ns n).2 && V (parI ns n).1
   else if cc = 3 then (ahdI ns n).2 && V (ahdI ns n).1
   else if cc = 1 then (upsI ns (n.toNat + 1) n).any V
   else if cc = 4 then (rowI ns n).dropLast.any V
   else false)), [.no], []) := by
 have hH := rowH l cc sl hl hc
 generalize l ++ [.agg [.int .i64 cc, .list sl]] = L at *
 obtain ⟨r1, r2, r3, r4, r5, r6, r7, r8⟩ := hH
 have HC := Hd.mk hrec
 clear hrec hc
 cases fv with
 | false =>
  rw [Bool.false_and]
  clear hcc HC
  unfold eyeD Nam.cs at *
  obtain ⟨T, hT⟩ := tree_fix ns
  generalize treeN ns = T0 at *
  subst hT
  have H := h45
  clear h45 he hS hl
  refine callK (m := 94) (res := []) (rs := [.cell 6 4]) H Tryz.func45 rfl rfl rfl rfl rfl ?_
  clear H
  repeat' (first|simp only [*, AVB, AVY, ↓reduceIte, Nat.reduceEqDiff, Nat.reduceLT, Nat.reduceLeDiff, Nat.reduceBEq, Nat.reduceAdd, dIntBin]|refine drW_intro (by kernel_rfl) ?_|refine gw_intro (fun h => ?_) (fun h => ?_) <;> try simp only [AVH] at h)
 | true =>
  rw [Bool.true_and]
  by_cases hn : l = []
  ·have hl0 : ((l.length : Int) == 0) = true := by rw [hn]; rfl
   have hie : l.isEmpty = true := by rw [hn]; rfl
   clear hcc HC hn
   unfold eyeD Nam.cs at *
   obtain ⟨T, hT⟩ := tree_fix ns
   generalize treeN ns = T0 at *
   subst hT
   have H := h45
   clear h45 he hS hl
   rw [hie, Bool.true_or]
   clear hie
   refine callK (m := 94) (res := []) (rs := [.cell 6 4]) H Tryz.func45 rfl rfl rfl rfl rfl ?_
   clear H
   repeat' (first|simp only [*, AVB, AVY, ↓reduceIte, Nat.reduceEqDiff, Nat.reduceLT, Nat.reduceLeDiff, Nat.reduceBEq, Nat.reduceAdd, dIntBin]|refine drW_intro (by kernel_rfl) ?_|refine gw_intro (fun h => ?_) (fun h => ?_) <;> try simp only [AVH] at h)
  have c1 := hcc rfl hn
  have hl0 := ne0 (n := l.length) (fun e => hn (List.eq_nil_of_length_eq_zero e))
  have hie : l.isEmpty = false := by cases l with | nil => exact absurd rfl hn | cons a r => rfl
  rw [hie, Bool.false_or, if_neg (c := cc = 1) c1]
  obtain ⟨i1, i2, i3⟩ := neI c1
  clear hcc hn hie c1
  by_cases k2 : cc = 2
  ·rw [if_pos k2]
   subst k2
   clear i1 i2 i3
   have hp := parent_L (chk := chk) ns n
   have hr : (parI ns n).2 = true → callL Tryz.prog (ext11b chk) 45 [eyeD ns nm, .list l, .int .i64 (parI ns n).1] [] = some (.bool (V (parI ns n).1), [], []) := fun e => (show ∀ m, _ → _ from HC) _ (.inl ⟨rfl, e⟩)
   generalize parI ns n = p at *
   obtain ⟨p1, p2⟩ := p
   dsimp only at hp hr
   generalize V p1 = q at *
   clear HC
   unfold eyeD Nam.cs at *
   obtain ⟨T, hT⟩ := tree_fix ns
   generalize treeN ns = T0 at *
   subst hT
   have H := h45
   clear h45 he hS hl
   cases p2 with
   | true =>
    have hr := hr rfl
    refine callK (m := 94) (res := []) (rs := [.cell 6 4]) H Tryz.func45 rfl rfl rfl rfl rfl ?_
    clear H
    repeat' (first|simp only [*, AVB, AVY, ↓reduceIte, Nat.reduceEqDiff, Nat.reduceLT, Nat.reduceLeDiff, Nat.reduceBEq, Nat.reduceAdd, dIntBin]|refine drW_intro (by kernel_rfl) ?_|refine gw_intro (fun h => ?_) (fun h => ?_) <;> try simp only [AVH] at h)
   | false =>
    clear hr
    refine callK (m := 94) (res := []) (rs := [.cell 6 4]) H Tryz.func45 rfl rfl rfl rfl rfl ?_
    clear H
    repeat' (first|simp only [*, AVB, AVY, ↓reduceIte, Nat.reduceEqDiff, Nat.reduceLT, Nat.reduceLeDiff, Nat.reduceBEq, Nat.reduceAdd, dIntBin]|refine drW_intro (by kernel_rfl) ?_|refine gw_intro (fun h => ?_) (fun h => ?_) <;> try simp only [AVH] at h)
  rw [if_neg k2]
  obtain ⟨j1, j2, j3⟩ := neI k2
  clear k2
  by_cases k3 : cc = 3
  ·rw [if_pos k3]
   subst k3
   clear i1 i2 i3 j1 j2 j3
   have hp := ahead_L (chk := chk) ns n hS
   have hr : (ahdI ns n).2 = true → callL Tryz.prog (ext11b chk) 45 [eyeD ns nm, .list l, .int .i64 (ahdI ns n).1] [] = some (.bool (V (ahdI ns n).1), [], []) := fun e => (show ∀ m, _ → _ from HC) _ (.inr (.inl ⟨rfl, e⟩))
   generalize ahdI ns n = p at *
   obtain ⟨p1, p2⟩ := p
   dsimp only at hp hr
   generalize V p1 = q at *
   clear HC
   unfold eyeD Nam.cs at *
   obtain ⟨T, hT⟩ := tree_fix ns
   generalize treeN ns = T0 at *
   subst hT
   have H := h45
   clear h45 he hS hl
   cases p2 with
   | true =>
    have hr := hr rfl
    refine callK (m := 94) (res := []) (rs := [.cell 6 4]) H Tryz.func45 rfl rfl rfl rfl rfl ?_
    clear H
    repeat' (first|simp only [*, AVB, AVY, ↓reduceIte, Nat.reduceEqDiff, Nat.reduceLT, Nat.reduceLeDiff, Nat.reduceBEq, Nat.reduceAdd, Int.reduceBEq, dIntBin]|refine drW_intro (by kernel_rfl) ?_|refine gw_intro (fun h => ?_) (fun h => ?_) <;> try simp only [AVH] at h)
   | false =>
    clear hr
    refine callK (m := 94) (res := []) (rs := [.cell 6 4]) H Tryz.func45 rfl rfl rfl rfl rfl ?_
    clear H
    repeat' (first|simp only [*, AVB, AVY, ↓reduceIte, Nat.reduceEqDiff, Nat.reduceLT, Nat.reduceLeDiff, Nat.reduceBEq, Nat.reduceAdd, Int.reduceBEq, dIntBin]|refine drW_intro (by kernel_rfl) ?_|refine gw_intro (fun h => ?_) (fun h => ?_) <;> try simp only [AVH] at h)
  rw [if_neg k3]
  obtain ⟨l1, l2, l3⟩ := neI k3
  clear k3
  by_cases k4 : cc = 4
  ·rw [if_pos k4]
   subst k4
   clear i1 i2 i3 j1 j2 j3 l1 l2 l3
   have hp := row_L (chk := chk) ns n hS
   rw [if_pos he] at hp
   have hlen : (rowI ns n).length ≤ 10001 ∧ (rowI ns n).length ≠ 0 := by
    unfold rowI
    rw [if_pos he]
    have h1 := rowL_len (ns := ns) (key := pAt ns n.toNat) (m := n.toNat + 1)
    obtain ⟨h2, h3, h4⟩ := elB_nat he
    have h5 := rowL_succ (ns := ns) h4
    refine ⟨by omega, ?_⟩
    rw [h5]
    simp
   have hq := conI_L (chk := chk) ns nm (rowI ns n).dropLast l V (by rw [List.length_dropLast]; omega) fun m hm => (show ∀ m, _ → _ from HC) _ (.inr (.inr hm))
   generalize rowI ns n = R at *
   have t1 : IntKind.i64.wrap ((R.length : Int) - 1) = ((R.length - 1 : Nat) : Int) := by rw [wrap64 _ (by omega) (by omega)]; omega
   have t2 : ((R.length - 1 : Nat) : Int) ≤ R.length := by omega
   have t3 : (0 : Int) ≤ ((R.length - 1 : Nat) : Int) := by omega
   have t4 : (R.map (D.int .i64)).take (R.length - 1) = R.dropLast.map (D.int .i64) := by rw [List.dropLast_eq_take, List.map_take]
   have t5 : szOk 1 (R.map (D.int .i64)) = true := by cases R <;> rfl
   have lN := lenM R (D.int .i64)
   generalize R.dropLast.any V = q at *
   clear HC hlen
   unfold eyeD Nam.cs at *
   obtain ⟨T, hT⟩ := tree_fix ns
   generalize treeN ns = T0 at *
   subst hT
   have H := h45
   clear h45 he hS hl
   refine callK (m := 94) (res := []) (rs := [.cell 6 4]) H Tryz.func45 rfl rfl rfl rfl rfl ?_
   clear H
   repeat' (first|simp only [*, upd, AVB, AVY, ↓reduceIte, Nat.reduceEqDiff, Nat.reduceLT, Nat.reduceLeDiff, Nat.reduceBEq, Nat.reduceAdd, Int.reduceBEq, dIntBin]|refine drW_intro (by kernel_rfl) ?_|refine gw_intro (fun h => ?_) (fun h => ?_) <;> try simp only [AVH] at h)
  rw [if_neg k4]
  obtain ⟨m1, m2, m3⟩ := neI k4
  clear k4 HC
  unfold eyeD Nam.cs at *
  obtain ⟨T, hT⟩ := tree_fix ns
  generalize treeN ns = T0 at *
  subst hT
  have H := h45
  clear h45 he hS hl
  refine callK (m := 94) (res := []) (rs := [.cell 6 4]) H Tryz.func45 rfl rfl rfl rfl rfl ?_
  clear H
  repeat' (first|simp only [*, AVB, AVY, ↓reduceIte, Nat.reduceEqDiff, Nat.reduceLT, Nat.reduceLeDiff, Nat.reduceBEq, Nat.reduceAdd, dIntBin]|refine drW_intro (by kernel_rfl) ?_|refine gw_intro (fun h => ?_) (fun h => ?_) <;> try simp only [AVH] at h)
end Go.Av
namespace Go.Av
open Go.Proofs Go.RowKit Go.Proofs.YtcogfddcdpgpkaaGreatDoor
theorem ext_oldW {F : Nat → Nat → Prop} {w W : World} (hlt : Lt F w) (hb : Below w.heap.size w W) : Ext (fun _ => False) F w (old W) W := by
 refine ⟨hb.os, hb.tape, hb.output, hb.size, fun b h _ => hb.block b h, fun b o h => Nat.lt_of_lt_of_le (hlt b o h) hb.size, fun b o h => ?_, fun b es c hf hm => (hb.block b (hlt b 0 hf)).trans hm⟩
 unfold World.cell?
 rw [hb.block b (hlt b o h)]
def C1 (f : FuncId) (args : List D) (d : D) (r : List Room) : Prop :=
 (∃ fn, Tryz.prog.funcs[f]? = some fn ∧ fn.body.isSome = true) ∧
  ∀ (vals : List Value) (w : World) (F : Nat → Nat → Prop) (μ : Mu), vals.length = args.length → (∀ (i : Nat) (v : Value) (x : D), vals[i]? = some v → args[i]? = some x → Den (fun _ => 1) (argNu μ) F w v x) →
   GivenOK w 0 μ → Lt F w → GOK F w → Calls Tryz.prog f vals.toArray w (Ret Tryz.prog 0 μ F w d r [])
theorem C1.of {call : Call} (h : CallOK Tryz.prog call) {f : FuncId} {args : List D} {d : D} {r : List Room} (e : call f args [] = some (d, r, [])) : C1 f args d r :=
 ⟨(h f args [] d r [] e).1, fun vals w F μ hl hd hgv hlt hg => (h f args [] d r [] e).2 vals w F μ hl hd (fun i bx hb => by simp at hb) hgv hlt hg⟩
theorem C1.callL {ext : Call} (h : CallOK Tryz.prog ext) {f : FuncId} {args : List D} {d : D} {r : List Room} (e : callL Tryz.prog ext f args [] = some (d, r, [])) : C1 f args d r := by
 obtain ⟨N, hN⟩ := callL_aev e
 exact C1.of (aev_sound fineS h N) hN
theorem C1.room {f : FuncId} {args : List D} {d : D} {r : List Room} (h : C1 f args d r) : C1 f args d [] :=
 ⟨h.1, fun vals w F μ hl hd hgv hlt hg => (h.2 vals w F μ hl hd hgv hlt hg).mono fun e w' hr => hr.retD.ret hlt⟩
theorem callC {f : FuncId} {args : List D} {d : D} {r : List Room} (h : C1 f args d r) {W : World} (hg : GOK (old W) W) {vals : List Value} (hl : vals.length = args.length) (hu : ∀ (i : Nat) (v : Value) (x : D), vals[i]? = some v → args[i]? = some x → Den0 (old W) W v x) :
  Calls Tryz.prog f vals.toArray W fun e W' => (∃ v, e = .returned v ∧ ∀ c ν, Den c ν (old W') W' v d) ∧ Below W.heap.size W W' := by
 refine (h.2 vals W (old W) mu0 hl (fun i v x h1 h2 => .pure _ _ (hu i v x h1 h2)) (given0 W) (old_lt W) hg).mono ?_
 rintro e w' ⟨v, F', ncl, rfl, hE, hlt, _, hv, _⟩
 refine ⟨⟨v, rfl, ?_⟩, ⟨hE.os, hE.tape, hE.output, hE.size, fun b hb => hE.block b hb (S_zero _ b)⟩⟩
 rcases hv with ⟨_, hv, _⟩ | ⟨h1, _⟩
 ·exact fun c ν => (hv c ν).ext (S := fun _ => False) ⟨rfl, rfl, rfl, Nat.le_refl _, fun _ _ _ => rfl, fun b o hf => hlt b o hf, fun _ _ _ => rfl, fun _ _ _ _ h => h⟩
 ·simp at h1
theorem three_at {α β : Type} {a b c : α} {x y z : β} {P : α → β → Prop} (h1 : P a x) (h2 : P b y) (h3 : P c z) : ∀ (i : Nat) (v : α) (d : β), [a, b, c][i]? = some v → [x, y, z][i]? = some d → P v d
 | 0, v, d, hv, hd => by simp at hv hd; subst hv hd; exact h1
 | 1, v, d, hv, hd => by simp at hv hd; subst hv hd; exact h2
 | 2, v, d, hv, hd => by simp at hv hd; subst hv hd; exact h3
 | i + 3, v, d, hv, _ => by simp at hv
theorem two_at {α β : Type} {a b : α} {x y : β} {P : α → β → Prop} (h1 : P a x) (h2 : P b y) : ∀ (i : Nat) (v : α) (d : β), [a, b][i]? = some v → [x, y][i]? = some d → P v d
 | 0, v, d, hv, hd => by simp at hv hd; subst hv hd; exact h1
 | 1, v, d, hv, hd => by simp at hv hd; subst hv hd; exact h2
 | i + 2, v, d, hv, _ => by simp at hv
theorem den_bool {v : Value} {W : World} {b : Bool} (h : ∀ c ν, Den c ν (old W) W v (.bool b)) : v = .bool b := (h (fun _ => 0) fun _ _ => 0).bool_
theorem den_par {v : Value} {W : World} {x : Int × Bool} (h : ∀ c ν, Den c ν (old W) W v (.tuple [.int .i64 x.1, .bool x.2])) : v = parV x := by
 obtain ⟨vs, rfl, hl, hh⟩ := (h (fun _ => 0) fun _ _ => 0).tuple_
 match vs, hl with
 | [a, b], _ =>
  have h0 := (hh 0 a _ rfl rfl).int_
  have h1 := (hh 1 b _ rfl rfl).bool_
  subst h0 h1
  rfl
theorem flat_two {l : List D} (h : ∀ x ∈ l, (dcells x).length = 2) : ∀ (x : D), (flat (l ++ [x])).take (l.length * 2) = flat l ∧ (flat (l ++ [x])).drop (l.length * 2) = dcells x := by
 intro x
 have hl : (flat l).length = l.length * 2 := by
  clear x
  induction l with
  | nil => rfl
  | cons a r ih =>
   have e : flat (a :: r) = dcells a ++ flat r := by simp [flat]
   rw [e, List.length_append, h a (List.mem_cons_self ..), ih (fun y hy => h y (List.mem_cons_of_mem _ hy)), List.length_cons]
   omega
 have e : flat (l ++ [x]) = flat l ++ dcells x := by simp [flat]
 rw [e, ← hl]
 simp
theorem row_hand [Rk] {chk : List D → Bool} (hext : CallOK Tryz.prog (ext11b chk)) {ns : List Nd} {nm : Nam} {n : Int} {l sl : List D} (hR : RightT ns) (he : elB ns n = true) (hl : l.length ≤ 1000) (hl0 : l ≠ []) (hc : ∀ x ∈ l, (dcells x).length = 2)
  (hfit : Go.Av.callL Tryz.prog (ext11b chk) 79 [eyeD ns nm, .agg [.int .i64 1, .list sl], .int .i64 n] [] = some (.bool true, [.no], []))
  (V : Int → Bool) (hrec : ∀ m, elB ns m = true → C1 45 [eyeD ns nm, .list l, .int .i64 m] (.bool (V m)) []) :
  C1 45 [eyeD ns nm, .list (l ++ [.agg [.int .i64 1, .list sl]]), .int .i64 n] (.bool ((upsI ns (n.toNat + 1) n).any V)) [] := by
 refine ⟨⟨_, Tryz.func45, rfl⟩, fun vals w F μ hv hd _ hlt hg => ?_⟩
 match vals, hv with
 | [u1, u2, u3], _ =>
  have d1 := (hd 0 u1 _ rfl rfl)
  have d2 := (hd 1 u2 _ rfl rfl).list_
  have d3 := (hd 2 u3 _ rfl rfl).int_
  subst d3
  have p1 : Den0 F w u1 (eyeD ns nm) := d1.pureB_ rfl
  have q1 := p1
  unfold eyeD Nam.cs at q1
  cases q1 with
  | agg vs _ h1 h2 h3 =>
   match vs, h1 with
   | [p, v1, v2, v3, v4], _ =>
    have hp := h3 0 p _ rfl rfl
    cases d2 with
    | list a N c sz es cv g1 g2 g3 g4 g5 g6 g7 =>
     have hsz : sz = 2 := (g4 (.agg [.int .i64 1, .list sl]) (by simp)).symm
     subst hsz
     have hN : N = l.length + 1 := by rw [← g1]; simp
     subst hN
     rcases g6 with g6 | ⟨b, off, rfl, hcell⟩
     ·rw [g6] at g5; simp at g5
     have hcv : cv.length = (l.length + 1) * 2 := g5
     obtain ⟨f1, f2⟩ := flat_two hc (.agg [.int .i64 1, .list sl])
     have i0 : cv[l.length * 2]? = some cv[l.length * 2] := List.getElem?_eq_getElem (by omega)
     have i1 : cv[l.length * 2 + 1]? = some cv[l.length * 2 + 1] := List.getElem?_eq_getElem (by omega)
     have j0 : (flat (l ++ [.agg [.int .i64 1, .list sl]]))[l.length * 2]? = some (.int .i64 1) := by
      rw [show l.length * 2 = l.length * 2 + 0 from rfl, ← List.getElem?_drop, f2]; rfl
     have j1 : (flat (l ++ [.agg [.int .i64 1, .list sl]]))[l.length * 2 + 1]? = some (.list sl) := by
      rw [← List.getElem?_drop, f2]; rfl
     have k0 := g7 _ _ _ i0 j0
     have k1 := g7 _ _ _ i1 j1
     obtain ⟨sa, sn, sc, hs⟩ := k1.slice_
     have k0' := (Den.pure (c := fun _ => 0) (ν := fun _ _ => 0) _ _ k0).int_
     have c0 := hcell _ _ i0
     have c1 := hcell _ _ i1
     rw [k0'] at c0 k0
     rw [hs] at c1 k1
     have hb : b < w.heap.size := hlt _ _ c0.1
     have hrest : Den0 F w (.slice (some ⟨b, off, none⟩) l.length c) (.list l) := by
      refine .list _ _ _ 2 _ (cv.take (l.length * 2)) rfl (by omega) (by decide) hc (by rw [List.length_take]; omega) (.inr ⟨b, off, rfl, fun i v hv => ?_⟩) fun i v x hv hx => ?_
      ·rw [List.getElem?_take] at hv
       split at hv
       ·exact hcell i v hv
       ·cases hv
      ·rw [List.getElem?_take] at hv
       split at hv
       ·refine g7 i v x hv ?_
        rename_i hi
        rw [← f1, List.getElem?_take, if_pos hi] at hx
        exact hx
       ·cases hv
     have hcp : Den0 F w (.agg #[.int .i64 1, .slice sa sn sc]) (.agg [.int .i64 1, .list sl]) := by
      refine Den0.agg [.int .i64 1, .slice sa sn sc] _ rfl ?_ (two_at (P := fun v d => Den0 F w v d) k0 k1)
      intro v hv
      simp only [List.mem_cons, List.not_mem_nil, or_false] at hv
      rcases hv with rfl | rfl <;> rfl
     have hw : ∀ W, Below w.heap.size w W → GOK (old W) W ∧ ∀ {v d}, Den0 F w v d → Den0 (old W) W v d := fun W hb => ⟨hg.ext (ext_oldW hlt hb), fun h => h.ext (ext_oldW hlt hb)⟩
     have key := row_any w p v1 v2 v3 v4 ⟨h2 p (by simp), h2 v1 (by simp), h2 v2 (by simp), h2 v3 (by simp), h2 v4 (by simp)⟩ n ns hR he b off l.length c hl (fun e => hl0 (List.eq_nil_of_length_eq_zero e)) g2 hb sa sn sc c0.2.1 c1.2.1
      (fun W hW => ?_) (fun m W hW => ?_) V (fun m hm W hW => ?_) _ rfl
     ·exact key.mono fun e w' h => (show RetD F w _ e w' from by
       obtain ⟨rfl, hb'⟩ := h
       exact RetD.of hb' (.bool _)).ret hlt
     ·obtain ⟨hgW, hdW⟩ := hw W hW
      refine (callC (C1.callL hext hfit) hgW (vals := [.agg #[p, v1, v2, v3, v4], .agg #[.int .i64 1, .slice sa sn sc], .int .i64 n]) rfl (three_at (P := fun v d => Den0 (old W) W v d) (hdW p1) (hdW hcp) (.int _ _))).mono ?_
      rintro e w' ⟨⟨v, rfl, hv⟩, hb'⟩
      exact ⟨by rw [den_bool hv], hb'⟩
     ·obtain ⟨hgW, hdW⟩ := hw W hW
      refine (callC (C1.callL hext (parent_L (chk := chk) ns m)) hgW (vals := [p, .int .i64 m]) rfl (two_at (P := fun v d => Den0 (old W) W v d) (hdW hp) (.int _ _))).mono ?_
      rintro e w' ⟨⟨v, rfl, hv⟩, hb'⟩
      exact ⟨by rw [den_par hv], hb'⟩
     ·obtain ⟨hgW, hdW⟩ := hw W hW
      refine (callC (hrec m hm) hgW (vals := [.agg #[p, v1, v2, v3, v4], .slice (some ⟨b, off, none⟩) l.length c, .int .i64 m]) rfl (three_at (P := fun v d => Den0 (old W) W v d) (hdW p1) (hdW hrest) (.int _ _))).mono ?_
      rintro e w' ⟨⟨v, rfl, hv⟩, hb'⟩
      exact ⟨by rw [den_bool hv], hb'⟩
end Go.Av
/-
 DERIVED: THE SHELF's CONTRACTS AT THIS DUMP, IN PLAIN WORDS (tools/lay-plain.mjs out of 'Av12Shelf.lean', which tools/lay-shelf.mjs wrote): THE SAME DECLARATIONS UNDER THE SAME NAMES: 'import', 'namespace', 'open', 'def', 'theorem' AND NOTHING ELSE: no command of the shelf's: FOR A HAND-IN. Each laying: the table of numbers ('.._ren') and one theorem, a field a fact of the dump's own or the kernel's comparison; each contract: ONE APPLICATION.
-/
namespace Go.Proofs
open Go.Shelf
def Tryz.laysFF_ren : Go.Shelf.Ren := ⟨fun | 229 => 164 | n => n, fun | 9 => 9 | 40 => 195 | 31 => 24 | 152 => 211 | 3 => 3 | 0 => 0 | 4 => 4 | 21 => 21 | 154 => 213 | n => n, fun | n => n⟩
theorem Tryz.laysFF : Go.Proofs.Lays.n229 Tryz.prog Tryz.laysFF_ren := {
 mixed := by kernel_rfl
 f229 := Tryz.func164.trans (congrArg some (by kernel_rfl))
 t0 := Tryz.underlying0
 a0 := Tryz.isAgg0
 z0 := Tryz.sizeOf0
 v0 := Tryz.zeroValue0
 t3 := Tryz.underlying3
 a3 := Tryz.isAgg3
 z3 := Tryz.sizeOf3
 v3 := Tryz.zeroValue3
 t4 := Tryz.underlying4
 a4 := Tryz.isAgg4
 z4 := Tryz.sizeOf4
 v4 := Tryz.zeroValue4
 t9 := Tryz.underlying9
 a9 := Tryz.isAgg9
 z9 := Tryz.sizeOf9
 v9 := Tryz.zeroValue9
 t21 := Tryz.underlying21
 a21 := Tryz.isAgg21
 z21 := Tryz.sizeOf21
 v21 := Tryz.zeroValue21
 t31 := Tryz.underlying24
 a31 := Tryz.isAgg24
 z31 := Tryz.sizeOf24
 v31 := Tryz.zeroValue24
 t40 := Tryz.underlying195
 a40 := Tryz.isAgg195
 z40 := Tryz.sizeOf195
 v40 := Tryz.zeroValue195
 t152 := Tryz.underlying211
 a152 := Tryz.isAgg211
 z152 := Tryz.sizeOf211
 v152 := Tryz.zeroValue211
 t154 := Tryz.underlying213
 a154 := Tryz.isAgg213
 z154 := Tryz.sizeOf213
 v154 := Tryz.zeroValue213 }
def Tryz.laysCo_ren : Go.Shelf.Ren := ⟨fun | 144 => 137 | 143 => 170 | 219 => 186 | 217 => 185 | 225 => 197 | 224 => 198 | 267 => 199 | 266 => 196 | 314 => 205 | n => n, fun | 9 => 9 | 4 => 4 | 3 => 3 | 5 => 5 | 46 => 210 | 146 => 223 | 51 => 222 | n => n, fun | 1 => 4 | n => n⟩
theorem Tryz.laysCo : Go.Proofs.Lays.n144 Tryz.prog Tryz.laysCo_ren := {
 mixed := by kernel_rfl
 f143 := Tryz.func170.trans (congrArg some (by kernel_rfl))
 f144 := Tryz.func137.trans (congrArg some (by kernel_rfl))
 f217 := Tryz.func185.trans (congrArg some (by kernel_rfl))
 f219 := Tryz.func186.trans (congrArg some (by kernel_rfl))
 f224 := Tryz.func198.trans (congrArg some (by kernel_rfl))
 f225 := Tryz.func197.trans (congrArg some (by kernel_rfl))
 f266 := Tryz.func196.trans (congrArg some (by kernel_rfl))
 f267 := Tryz.func199.trans (congrArg some (by kernel_rfl))
 f314 := Tryz.func205.trans (congrArg some (by kernel_rfl))
 t3 := Tryz.underlying3
 a3 := Tryz.isAgg3
 z3 := Tryz.sizeOf3
 v3 := Tryz.zeroValue3
 t4 := Tryz.underlying4
 a4 := Tryz.isAgg4
 z4 := Tryz.sizeOf4
 v4 := Tryz.zeroValue4
 t5 := Tryz.underlying5
 a5 := Tryz.isAgg5
 z5 := Tryz.sizeOf5
 v5 := Tryz.zeroValue5
 t9 := Tryz.underlying9
 a9 := Tryz.isAgg9
 z9 := Tryz.sizeOf9
 v9 := Tryz.zeroValue9
 t46 := Tryz.underlying210
 a46 := Tryz.isAgg210
 z46 := Tryz.sizeOf210
 v46 := Tryz.zeroValue210
 t51 := Tryz.underlying222
 a51 := Tryz.isAgg222
 z51 := Tryz.sizeOf222
 v51 := Tryz.zeroValue222
 t146 := Tryz.underlying223
 a146 := Tryz.isAgg223
 z146 := Tryz.sizeOf223
 v146 := Tryz.zeroValue223
 g1 := by kernel_rfl }
def Tryz.laysIB_ren : Go.Shelf.Ren := ⟨fun | 137 => 166 | 217 => 185 | 266 => 196 | n => n, fun | 9 => 9 | 5 => 5 | 3 => 3 | n => n, fun | n => n⟩
theorem Tryz.laysIB : Go.Proofs.Lays.n137 Tryz.prog Tryz.laysIB_ren := {
 mixed := by kernel_rfl
 f137 := Tryz.func166.trans (congrArg some (by kernel_rfl))
 f217 := Tryz.func185.trans (congrArg some (by kernel_rfl))
 f266 := Tryz.func196.trans (congrArg some (by kernel_rfl))
 t3 := Tryz.underlying3
 a3 := Tryz.isAgg3
 z3 := Tryz.sizeOf3
 v3 := Tryz.zeroValue3
 t5 := Tryz.underlying5
 a5 := Tryz.isAgg5
 z5 := Tryz.sizeOf5
 v5 := Tryz.zeroValue5
 t9 := Tryz.underlying9
 a9 := Tryz.isAgg9
 z9 := Tryz.sizeOf9
 v9 := Tryz.zeroValue9 }
end Go.Proofs
namespace Go.Av
open Go.Proofs
theorem idxB_shift (c : UInt8) : ∀ (l : List UInt8) (k : Nat), idxB c (k + 1) l = if idxB c k l == -1 then -1 else idxB c k l + 1
 | [], k => rfl
 | x :: r, k => by
  unfold idxB
  split
  ·rw [if_neg (by simp)]
   omega
  ·rw [idxB_shift c r (k + 1)]
theorem index_idxB (c : UInt8) : ∀ (l : List UInt8), Lib.indexByte l c = idxB c 0 l
 | [] => rfl
 | x :: r => by
  unfold Lib.indexByte idxB
  rw [index_idxB c r, ← idxB_shift c r 0]
  simp only [beq_iff_eq]
  rfl
theorem pre_is : ∀ (p s : List UInt8), p.isPrefixOf s = preB p s
 | [], s => rfl
 | _ :: _, [] => rfl
 | a :: p, b :: s => by
  rw [List.isPrefixOf, preB, pre_is p s]
theorem has_contains (t : List UInt8) : ∀ (s : List UInt8), Lib.contains s t = hasB t s
 | [] => by
  unfold Lib.contains Lib.index hasB
  cases t with
  | nil => rfl
  | cons a r => rfl
 | x :: r => by
  have ih := has_contains t r
  unfold Lib.contains at ih ⊢
  unfold Lib.index hasB
  rw [pre_is, ← ih]
  have hge := Lib.index_ge r t
  cases preB t (x :: r) with
  | true => rfl
  | false =>
   simp only [Bool.false_eq_true, if_false, Bool.false_or]
   by_cases h : Lib.index r t = -1
   ·simp [h]
   ·have h2 : (Lib.index r t == -1) = false := by simpa using h
    rw [h2]
    simp only [Bool.false_eq_true, if_false]
    congr 1
    apply propext
    omega
end Go.Av
namespace Go.Av
open Go.Proofs
def pB (x : Nat) : Bool := decide (x < 128) && decide (idxB (UInt8.ofNat x) 0 [32, 9, 10, 13, 12] ≥ 0)
theorem pB_hi (x : Nat) (h : 128 ≤ x) : pB x = false := by unfold pB; rw [decide_eq_false (by omega)]; rfl
theorem each_byte {p : UInt8 → Bool} (h : (List.range 256).all (fun n => p (UInt8.ofNat n)) = true) (b : UInt8) : p b = true := by
 have := List.all_eq_true.1 h b.toNat (List.mem_range.2 b.toNat_lt)
 simpa using this
theorem pB_lo (b : UInt8) (h : b.toNat < 128) : pB b.toNat = blankB b := by
 have := each_byte (p := fun b => !decide (b.toNat < 128) || pB b.toNat == blankB b) (by decide +kernel) b
 simpa [h] using this
theorem blank_hi (b : UInt8) (h : 128 ≤ b.toNat) : blankB b = false := by
 have := each_byte (p := fun b => !decide (128 ≤ b.toNat) || blankB b == false) (by decide +kernel) b
 simpa [h] using this
theorem parts_skip : ∀ (k : Nat) (l p : List UInt8), k ≤ l.length → (∀ x ∈ l.take k, blankB x = false) → partsB l p = partsB (l.drop k) (p ++ l.take k)
 | 0, l, p, _, _ => by simp
 | k + 1, [], p, h, _ => by simp at h
 | k + 1, x :: r, p, h, hb => by
  rw [partsB, if_neg (by rw [hb x (by simp)]; simp), parts_skip k r (p ++ [x]) (by simpa using h) (fun y hy => hb y (by simp [hy]))]
  simp
theorem get_drop (s : ByteArray) (pos j : Nat) (h : pos + j < s.size) : (s.data.toList.drop pos)[j]? = some (s.get! (pos + j)) := by
 have h' : pos + j < s.data.toList.length := by rw [← Lib.size_eq]; exact h
 rw [List.getElem?_drop, List.getElem?_eq_getElem h']
 congr 1
 have h2 : pos + j < s.data.size := h
 show _ = s.data[pos + j]!
 rw [getElem!_pos s.data (pos + j) h2]
 rfl
theorem dec_hi (s : ByteArray) (pos : Nat) (h : pos < s.size) (hb : 128 ≤ (s.get! pos).toNat) :
  128 ≤ (Utf8.decode s pos).1 ∧ 1 ≤ (Utf8.decode s pos).2 ∧ pos + (Utf8.decode s pos).2 ≤ s.size ∧ ∀ j, j < (Utf8.decode s pos).2 → 128 ≤ (s.get! (pos + j)).toNat := by
 have one : 1 ≤ 1 ∧ pos + 1 ≤ s.size ∧ ∀ j, j < 1 → 128 ≤ (s.get! (pos + j)).toNat := ⟨Nat.le_refl _, h, fun j hj => by
  have hj0 : j = 0 := by omega
  rw [hj0]; exact hb⟩
 unfold Utf8.decode
 simp only [Nat.add_zero]
 rw [if_neg (by omega)]
 split
 ·rename_i hc
  simp only [Bool.and_eq_true, decide_eq_true_eq, beq_iff_eq] at hc
  split
  ·refine ⟨by assumption, by omega, by omega, fun j hj => ?_⟩
   match j, hj with
   | 0, _ => exact hb
   | 1, _ => omega
  ·exact ⟨by decide, one⟩
 ·split
  ·rename_i hc
   simp only [Bool.and_eq_true, decide_eq_true_eq, beq_iff_eq] at hc
   split
   ·rename_i hv
    refine ⟨by simp only [Bool.and_eq_true, decide_eq_true_eq] at hv; omega, by omega, by omega, fun j hj => ?_⟩
    match j, hj with
    | 0, _ => exact hb
    | 1, _ => omega
    | 2, _ => omega
   ·exact ⟨by decide, one⟩
  ·split
   ·rename_i hc
    simp only [Bool.and_eq_true, decide_eq_true_eq, beq_iff_eq] at hc
    split
    ·rename_i hv
     refine ⟨by simp only [Bool.and_eq_true, decide_eq_true_eq] at hv; omega, by omega, by omega, fun j hj => ?_⟩
     match j, hj with
     | 0, _ => exact hb
     | 1, _ => omega
     | 2, _ => omega
     | 3, _ => omega
    ·exact ⟨by decide, one⟩
   ·exact ⟨by decide, one⟩
theorem dec_lo (s : ByteArray) (pos : Nat) (hb : (s.get! pos).toNat < 128) : Utf8.decode s pos = ((s.get! pos).toNat, 1) := by
 unfold Utf8.decode
 simp only [Nat.add_zero]
 rw [if_pos (by omega)]
open Go.Lib in
theorem spansP_eq (s : ByteArray) : ∀ (f pos : Nat) (st : Option Nat) (acc : List (Nat × Nat)), s.size ≤ pos + f → pos ≤ s.size → (∀ a, st = some a → a < pos) →
  acc.map (fun p => pieceU s.data.toList p.1 p.2) ++ partsB (s.data.toList.drop pos) (openPiece s.data.toList st pos) = (closeSpans s (spansFromP pB s f pos st acc)).map (fun p => pieceU s.data.toList p.1 p.2) := by
 intro f
 induction f with
 | zero =>
  intro pos st acc h hp hst
  obtain rfl : pos = s.size := by omega
  have hd : s.data.toList.drop s.size = [] := List.drop_eq_nil_of_le (by rw [← size_eq]; exact Nat.le_refl _)
  rw [hd, partsB]
  cases st with
  | none => simp [spansFromP, closeSpans, openPiece]
  | some a =>
   have := pieceU_ne s.data.toList a s.size (hst a rfl) (by rw [← size_eq]; exact Nat.le_refl _)
   simp [spansFromP, closeSpans, openPiece, this]
 | succ f ih =>
  intro pos st acc h hp hst
  by_cases hlt : pos < s.size
  ·have hd0 : s.data.toList.drop pos = s.get! pos :: s.data.toList.drop (pos + 1) := by
    have h' : pos < s.data.toList.length := by rw [← size_eq]; exact hlt
    rw [List.drop_eq_getElem_cons h']
    congr 1
    have := get_drop s pos 0 hlt
    rw [List.getElem?_drop, Nat.add_zero, List.getElem?_eq_getElem h'] at this
    exact Option.some.inj this
   have hun : ∀ g, spansFromP pB s (f + 1) pos g acc = if pB (Utf8.decode s pos).1 = true then (match g with
        | some a => spansFromP pB s f (pos + (Utf8.decode s pos).2) none (acc ++ [(a, pos)])
        | none => spansFromP pB s f (pos + (Utf8.decode s pos).2) none acc) else (match g with
        | some a => spansFromP pB s f (pos + (Utf8.decode s pos).2) (some a) acc
        | none => spansFromP pB s f (pos + (Utf8.decode s pos).2) (some pos) acc) := fun g => by
    conv => lhs; unfold spansFromP
    rw [if_pos hlt]
    cases g <;> rfl
   rw [hun]
   by_cases hb : (s.get! pos).toNat < 128
   ·rw [dec_lo s pos hb]
    simp only
    rw [pB_lo _ hb]
    rw [hd0, partsB]
    have h1 : (s.data.toList.drop pos).take 1 = [s.get! pos] := by rw [hd0]; rfl
    split
    ·cases st with
     | none =>
      have := ih (pos + 1) none acc (by omega) (by omega) (fun a h => by cases h)
      simpa [openPiece] using this
     | some a =>
      have hpn := pieceU_ne s.data.toList a pos (hst a rfl) (by rw [← size_eq]; omega)
      have := ih (pos + 1) none (acc ++ [(a, pos)]) (by omega) (by omega) (fun a h => by cases h)
      simpa [openPiece, hpn] using this
    ·cases st with
     | none =>
      have := ih (pos + 1) (some pos) acc (by omega) (by omega) (fun a h => by cases h; omega)
      simp only [openPiece] at this ⊢
      rw [← this, List.nil_append, ← h1, show pieceU s.data.toList pos (pos + 1) = (s.data.toList.drop pos).take 1 by unfold pieceU; rw [Nat.add_sub_cancel_left]]
     | some a =>
      have := ih (pos + 1) (some a) acc (by omega) (by omega) (fun b h => by cases h; have := hst a rfl; omega)
      simp only [openPiece] at this ⊢
      rw [← this, ← h1, pieceU_grow _ _ _ _ (Nat.le_of_lt (hst a rfl))]
   ·obtain ⟨d1, d2, d3, d4⟩ := dec_hi s pos hlt (by omega)
    have hsk : ∀ p, partsB (s.data.toList.drop pos) p = partsB (s.data.toList.drop (pos + (Utf8.decode s pos).2)) (p ++ (s.data.toList.drop pos).take (Utf8.decode s pos).2) := by
     intro p
     rw [parts_skip (Utf8.decode s pos).2 _ p (by rw [List.length_drop, ← size_eq]; omega), List.drop_drop]
     intro x hx
     obtain ⟨j, hj, rfl⟩ := List.mem_iff_getElem.1 hx
     rw [List.length_take, List.length_drop, ← size_eq] at hj
     rw [List.getElem_take]
     have := get_drop s pos j (by omega)
     rw [List.getElem?_eq_getElem (by rw [List.length_drop, ← size_eq]; omega)] at this
     rw [Option.some.inj this]
     exact blank_hi _ (d4 j (by omega))
    rw [pB_hi _ d1, hsk]
    simp only [Bool.false_eq_true, if_false]
    cases st with
    | none =>
     have := ih (pos + (Utf8.decode s pos).2) (some pos) acc (by omega) d3 (fun a h => by cases h; omega)
     simp only [openPiece] at this ⊢
     rw [← this, List.nil_append, show pieceU s.data.toList pos (pos + (Utf8.decode s pos).2) = (s.data.toList.drop pos).take (Utf8.decode s pos).2 by unfold pieceU; rw [Nat.add_sub_cancel_left]]
    | some a =>
     have := ih (pos + (Utf8.decode s pos).2) (some a) acc (by omega) d3 (fun b h => by cases h; have := hst a rfl; omega)
     simp only [openPiece] at this ⊢
     rw [← this, pieceU_grow _ _ _ _ (Nat.le_of_lt (hst a rfl))]
  ·obtain rfl : pos = s.size := by omega
   have hd : s.data.toList.drop s.size = [] := List.drop_eq_nil_of_le (by rw [← size_eq]; exact Nat.le_refl _)
   rw [hd, spansFromP_end _ s _ _ _ _ hlt, partsB]
   cases st with
   | none => simp [closeSpans, openPiece]
   | some a =>
    have := pieceU_ne s.data.toList a s.size (hst a rfl) (by rw [← size_eq]; exact Nat.le_refl _)
    simp [closeSpans, openPiece, this]
theorem fields_parts (s : List UInt8) : (Lib.goFieldsP pB ⟨s.toArray⟩).map (·.data.toList) = partsB s [] := by
 have h := spansP_eq ⟨s.toArray⟩ s.length 0 none [] (Nat.le_of_eq (by rw [Nat.zero_add]; rfl)) (Nat.zero_le _) (fun a h => by cases h)
 simp only [List.map_nil, List.nil_append, Lib.openPiece, List.drop_zero] at h
 have hs : (ByteArray.mk s.toArray).size = s.length := rfl
 rw [h]
 unfold Lib.goFieldsP Lib.spansOfP
 rw [hs, List.map_map]
 congr 1
 funext p
 simp [Lib.pieceU]
end Go.Av
namespace Go.Av
open Go.Proofs Go.RowKit
theorem retD_same {F : Nat → Nat → Prop} {w : World} {v : Value} {d : D} (hv : Den0 F w v d) : RetD F w d (.returned v) w := RetD.of (Below.refl _ _) (hv.grow fun _ _ h => .inl h)
theorem two_den {c : Nat → Nat} {ν : Nat → Nat → Nat} {F : Nat → Nat → Prop} {w : World} {vals : List Value} {d1 d2 : D} (hl : vals.length = [d1, d2].length) (h : ∀ (i : Nat) (v : Value) (x : D), vals[i]? = some v → [d1, d2][i]? = some x → Den c ν F w v x) :
  ∃ v1 v2, vals = [v1, v2] ∧ Den c ν F w v1 d1 ∧ Den c ν F w v2 d2 := by
 match vals, hl with
 | [v1, v2], _ => exact ⟨v1, v2, rfl, h 0 v1 d1 rfl rfl, h 1 v2 d2 rfl rfl⟩
theorem idx6 (s : List UInt8) (c : Int) {w : World} {F : Nat → Nat → Prop} :
  Calls Tryz.prog 166 #[.string ⟨s.toArray⟩, .int .u8 c] w (RetD F w (.int .i64 (idxB (UInt8.ofNat c.toNat) 0 s))) := by
 have hc : Calls Tryz.prog 166 #[.string ⟨s.toArray⟩, .int .u8 c] w _ := Any.strings_IndexByte Tryz.laysIB ⟨s.toArray⟩ c w
 refine hc.mono ?_
 rintro e w' ⟨rfl, rfl⟩
 rw [index_idxB]
 exact retD_same (.int _ _)
end Go.Av
namespace Go.Av
open Go.Proofs Go.RowKit Go.Proofs.YtcogfddcdpgpkaaGreatDoor
theorem OwnR_of {w : World} {base : Nat} {e : TypeId} {size : Nat} {v : Value} {n : Nat} {xs : List Value} (h : w.ownsRow base e size v n xs) : OwnR w base e size v n xs := .inr h
theorem pred35 (x : Nat) (hx : x ≤ 1114111) (W : World) : FnGives Tryz.prog 165 #[] #[encR x] (.bool (pB x)) W := by
 unfold FnGives encR
 have hw : IntKind.u8.wrap (x : Int) = ((x % 256 : Nat) : Int) := by simp [IntKind.wrap, IntKind.signed, IntKind.bits]
 by_cases h : x < 128
 ·have h1 : ((x : Int) < 128) := by omega
  have hwx : x % 256 = x := by omega
  rw [hwx] at hw
  go_enter Tryz.func165, Tryz.ntmps165
  go_wp2_with (first
   | (go_at_call 166; refine (Any.strings_IndexByte Tryz.laysIB _ _ _).mono ?_; rintro e w' ⟨rfl, rfl⟩))
  go_ret
  refine ⟨?_, 0, rfl⟩
  rw [index_idxB]
  unfold pB
  rw [decide_eq_true h]
  simp
 ·have h1 : ¬ ((x : Int) < 128) := by omega
  go_enter Tryz.func165, Tryz.ntmps165
  go_wp2_with fail
  go_ret
  refine ⟨?_, 0, rfl⟩
  unfold pB
  rw [decide_eq_false h]
  rfl
theorem enter_of {P : Program} (hP : Fine P) {f : FuncId} (h : ∃ fn, P.funcs[f]? = some fn ∧ fn.body.isSome = true) (args : Array Value) (w : World) : (callFunc f args).run P w = .ok (.enter f args) w := by
 obtain ⟨fn, hf, hb⟩ := h
 have hnm := hP.names f fn hf
 have hb' : fn.body.isNone = false := by cases hfb : fn.body <;> simp_all
 simp only [callFunc, Sem.run_bind]
 simp [program, Sem.run, hf, hnm, hb', Result.andThen]
theorem runes35 (w : World) : PredAtRunes Tryz.prog 165 #[] pB w := fun W x hx _ => pred35 x hx W
theorem has6 (s t : List UInt8) (hs : s.length < 4294967281) {w : World} {F : Nat → Nat → Prop} {g : Nat}
  (hg : ∃ d, (∃ m : Int, d = D.fix (.int .i64 m) 0) ∧ Den0 F w (.pointer (some ⟨g, 0, none⟩)) d) (hm' : ∀ m : Int, w.cell? ⟨g, 0, none⟩ = some (.int .i64 m) → Calls Tryz.prog 137 #[.string ⟨s.toArray⟩, .string ⟨t.toArray⟩] w fun e w' => e = .returned (.bool (Lib.contains s t)) ∧ w' = w) :
  Calls Tryz.prog 137 #[.string ⟨s.toArray⟩, .string ⟨t.toArray⟩] w (RetD F w (.bool (hasB t s))) := by
 obtain ⟨d, ⟨m, rfl⟩, hd⟩ := hg
 have hm : w.cell? ⟨g, 0, none⟩ = some (.int .i64 m) := by
  generalize hp : Value.pointer (some ⟨g, 0, none⟩) = p at hd
  cases hd with
  | fix d b o off vs h1 h2 h3 =>
   simp only [Value.pointer.injEq, Option.some.injEq, Addr.mk.injEq, and_true] at hp
   obtain ⟨rfl, ho⟩ := hp
   have ho : o = 0 := by omega
   subst ho
   match vs, h1 with
   | [v], _ =>
    have h4 := h3 0 v _ rfl rfl
    have h5 := (h2 0 v rfl).2.1
    cases h4
    exact h5
 refine (hm' m hm).mono ?_
 rintro e w' ⟨rfl, rfl⟩
 rw [has_contains]
 exact retD_same (.bool _)
theorem flds6 (s : List UInt8) (hs : s.length ≤ 4294967296) {w : World} {F : Nat → Nat → Prop} :
  Calls Tryz.prog 164 #[.string ⟨s.toArray⟩, .func (.func 165) #[] #[]] w (RetD F w (.list ((partsB s []).map .str))) := by
 have hc : Calls Tryz.prog 164 #[.string ⟨s.toArray⟩, .func (.func 165) #[] #[]] w _ :=
  Any.strings_FieldsFunc_runes Tryz.laysFF 165 #[] (enter_of fineS ⟨_, Tryz.func165, rfl⟩) pB ⟨s.toArray⟩ w hs (runes35 w) (by kernel_rfl) (by kernel_rfl)
 refine hc.mono ?_
 rintro e w' ⟨A, rfl, hA, hown, hb⟩
 generalize hP : Lib.goFieldsP pB ⟨s.toArray⟩ = ps at hown ⊢
 have hps : (ps.map (·.data.toList)) = partsB s [] := by rw [← hP]; exact fields_parts s
 have hlen : (partsB s []).length = ps.length := by rw [← hps]; simp
 refine RetD.of hb (own_den (es := (partsB s []).map .str) (OwnR_of hown) (by simp [hlen]) (Nat.lt_succ_self 0) (fun e he => ?_) (fun b o h1 h2 => .inr ⟨h1, h2⟩) (fun u hu => ?_) fun i v x hv hx => ?_)
 ·obtain ⟨x, _, rfl⟩ := List.mem_map.1 he
  rfl
 ·obtain ⟨x, _, rfl⟩ := List.mem_map.1 hu
  rfl
 ·have hfl : flat ((partsB s []).map .str) = (partsB s []).map .str := by
   unfold flat
   rw [List.flatMap_map]
   generalize partsB s [] = l
   induction l with
   | nil => rfl
   | cons a r ih => rw [List.flatMap_cons, ih]; rfl
  rw [hfl, ← hps] at hx
  simp only [List.getElem?_map, Option.map_eq_some_iff] at hv hx
  obtain ⟨p, hp, rfl⟩ := hv
  obtain ⟨q, ⟨p', hp', rfl⟩, rfl⟩ := hx
  rw [hp] at hp'
  obtain rfl := Option.some.inj hp'
  have := Den0.str (F := nw F w w') (w := w') p.data.toList
  simpa using this
theorem ext6_ok : CallOK Tryz.prog ext6 := by
 intro f args pbs d r pbs' h
 unfold ext6 at h
 split at h
 ·simp only [Option.some.injEq, Prod.mk.injEq] at h
  obtain ⟨rfl, rfl, rfl⟩ := h
  refine ⟨⟨_, Tryz.func166, rfl⟩, fun vals w F μ hv hd hb _ hlt hg => ?_⟩
  obtain ⟨v1, v2, rfl, h1, h2⟩ := two_den hv hd
  rw [h1.str_, h2.int_]
  exact (idx6 _ _).mono fun e w' h => h.ret hlt
 ·split at h
  ·rename_i hs
   simp only [Option.some.injEq, Prod.mk.injEq] at h
   obtain ⟨rfl, rfl, rfl⟩ := h
   refine ⟨⟨_, Tryz.func137, rfl⟩, fun vals w F μ hv hd hb _ hlt hg => ?_⟩
   obtain ⟨v1, v2, rfl, h1, h2⟩ := two_den hv hd
   rw [h1.str_, h2.str_]
   exact (has6 _ _ hs (hg.2.1 (4, fun d => ∃ m : Int, d = .fix (.int .i64 m) 0) (by show _ ∈ [_]; simp)) fun m hm => Any.strings_Contains Tryz.laysCo ⟨_⟩ ⟨_⟩ m w hs hm).mono fun e w' h => h.ret hlt
  ·cases h
 ·split at h
  ·rename_i hs
   simp only [Option.some.injEq, Prod.mk.injEq] at h
   obtain ⟨rfl, rfl, rfl⟩ := h
   refine ⟨⟨_, Tryz.func164, rfl⟩, fun vals w F μ hv hd hb _ hlt hg => ?_⟩
   obtain ⟨v1, v2, rfl, h1, h2⟩ := two_den hv hd
   have h2' : v2 = .func (.func 165) #[] #[] := by
    cases h2 with
    | pure v d hp => cases hp with | func fn fs cs f c e1 e2 => cases fs <;> cases cs <;> simp_all
    | func fn fs cs f c e1 e2 => cases fs <;> cases cs <;> simp_all
   rw [h1.str_, h2']
   exact (flds6 _ hs).mono fun e w' h => h.ret hlt
  ·cases h
 ·cases h
end Go.Av
namespace Go.Av
open Go.Proofs Go.RowKit Go.Proofs.YtcogfddcdpgpkaaGreatDoor
theorem map_inj {α β : Type} {f : α → β} (h : ∀ x y, f x = f y → x = y) : ∀ {l r : List α}, l.map f = r.map f → l = r
 | [], [], _ => rfl
 | [], _ :: _, e => by simp at e
 | _ :: _, [], e => by simp at e
 | x :: l, y :: r, e => by
  simp only [List.map_cons, List.cons.injEq] at e
  rw [h x y e.1, map_inj h e.2]
theorem str_inj (x y : List UInt8) (h : D.str x = D.str y) : x = y := by injection h
theorem at_inj (x y : At) (h : x.d = y.d) : x = y := by
 obtain ⟨a, b, c⟩ := x
 obtain ⟨a', b', c'⟩ := y
 simp only [At.d, D.agg.injEq, List.cons.injEq, D.str.injEq, and_true] at h
 obtain ⟨rfl, rfl, rfl⟩ := h
 rfl
theorem nd_inj (x y : Nd) (h : x.d = y.d) : x = y := by
 obtain ⟨a, b, c, d, e, f, g⟩ := x
 obtain ⟨a', b', c', d', e', f', g'⟩ := y
 simp only [Nd.d, D.agg.injEq, List.cons.injEq, D.str.injEq, D.int.injEq, D.list.injEq, and_true, true_and] at h
 obtain ⟨rfl, rfl, rfl, rfl, h1, h2, rfl⟩ := h
 rw [map_inj at_inj h1, map_inj str_inj h2]
theorem tree_inj {ns ns' : List Nd} (h : treeN ns = treeN ns') : ns = ns' := by
 unfold treeN treeD at h
 simp only [D.fix.injEq, D.agg.injEq, List.cons.injEq, D.list.injEq] at h
 exact map_inj nd_inj h.1.1
theorem eye_inj {ns ns' : List Nd} {nm nm' : Nam} (h : eyeD ns nm = eyeD ns' nm') : ns = ns' ∧ nm = nm' := by
 unfold eyeD Nam.cs at h
 simp only [D.agg.injEq, List.cons.injEq, D.bool.injEq, D.str.injEq, D.list.injEq, and_true] at h
 obtain ⟨h0, h1, h2, h3, h4⟩ := h
 refine ⟨tree_inj h0, ?_⟩
 obtain ⟨a, b, c, d⟩ := nm
 obtain ⟨a', b', c', d'⟩ := nm'
 dsimp only at h1 h2 h3 h4
 rw [h1, h2, map_inj str_inj h3, map_inj str_inj h4]
def smN : Nat → D → Bool
 | 0, _ => false
 | k + 1, d => smOk 100 (k + 1) d && (decide ((sf d).a ≤ 1099511627776) && (decide (-1099511627776 ≤ (sf d).a) && (decide ((sf d).b ≤ 1099511627776) && (decide (-1099511627776 ≤ (sf d).b) && lsOk 100 (smN k) (sf d).of_))))
theorem smN_inv {k : Nat} {d : D} (h : smN (k + 1) d = true) : smOk 100 (k + 1) d = true ∧ ((sf d).a ≤ 1099511627776 ∧ -1099511627776 ≤ (sf d).a) ∧ ((sf d).b ≤ 1099511627776 ∧ -1099511627776 ≤ (sf d).b) ∧ lsOk 100 (smN k) (sf d).of_ = true := by
 simp only [smN, Bool.and_eq_true, decide_eq_true_eq] at h
 exact ⟨h.1, ⟨h.2.1, h.2.2.1⟩, ⟨h.2.2.2.1, h.2.2.2.2.1⟩, h.2.2.2.2.2⟩
theorem smN_ok {k : Nat} {d : D} (h : smN k d = true) : smOk 100 k d = true := by
 cases k with
 | zero => simp [smN] at h
 | succ k => exact (smN_inv h).1
theorem cp_mono {m : Nat} {S S' : D → Bool} (h : ∀ d, S d = true → S' d = true) {x : D} (hx : cpOk m S x = true) : cpOk m S' x = true := by
 obtain ⟨c, l, rfl, h1, h2⟩ := cpOk_inv hx
 simp only [cpD, cpOk, lenB, Bool.and_eq_true, decide_eq_true_eq, List.all_eq_true]
 exact ⟨h1, fun s hs => h s (h2 s hs)⟩
theorem cx_mono {m : Nat} {S S' : D → Bool} (h : ∀ d, S d = true → S' d = true) {x : D} (hx : cxOk m S x = true) : cxOk m S' x = true := by
 obtain ⟨l, rfl, h1, h2⟩ := cxOk_inv hx
 simp only [cxD, cxOk, lenB, Bool.and_eq_true, decide_eq_true_eq, List.all_eq_true]
 exact ⟨h1, fun s hs => cp_mono h (h2 s hs)⟩
theorem ls_mono {m : Nat} {S S' : D → Bool} (h : ∀ d, S d = true → S' d = true) {l : List D} (hx : lsOk m S l = true) : lsOk m S' l = true := by
 obtain ⟨h1, h2⟩ := lsOk_mem hx
 simp only [lsOk, lenB, Bool.and_eq_true, decide_eq_true_eq, List.all_eq_true]
 exact ⟨h1, fun s hs => cx_mono h (h2 s hs)⟩
theorem smN_up : ∀ (k : Nat) (d : D), smN k d = true → ∀ j, k ≤ j → smN j d = true
 | 0, d, h, _, _ => by simp [smN] at h
 | k + 1, d, h, 0, hj => absurd hj (by omega)
 | k + 1, d, h, j + 1, hj => by
  obtain ⟨h1, h2, h3, h4⟩ := smN_inv h
  simp only [smN, Bool.and_eq_true, decide_eq_true_eq]
  exact ⟨smOk_up _ _ h1 _ hj, h2.1, h2.2, h3.1, h3.2, ls_mono (fun d hd => smN_up k d hd j (by omega)) h4⟩
def rowAsk (ok : List D → Prop) (e : D) (l : List D) (n : Int) (p : List Nd × Nam) : Prop := e = eyeD p.1 p.2 ∧ SmallD p.1 ∧ RightT p.1 ∧ p.2.ok ∧ elB p.1 n = true ∧ ok l
open Classical in
noncomputable def rowE (ok : List D → Prop) (args : List D) (pbs : List Bx) : Option (D × List Room × List Bx) := match args, pbs with
 | [e, .list l, .int .i64 n], [] => if h : ∃ p, rowAsk ok e l n p then some (.bool (rowV (sV h.choose.1 h.choose.2) h.choose.1 l.reverse n), [], []) else none
 | _, _ => none
theorem rowE_some {ok : List D → Prop} {ns : List Nd} {nm : Nam} {l : List D} {n : Int} (h : rowAsk ok (eyeD ns nm) l n (ns, nm)) : rowE ok [eyeD ns nm, .list l, .int .i64 n] [] = some (.bool (rowV (sV ns nm) ns l.reverse n), [], []) := by
 unfold rowE
 dsimp only
 have h0 : ∃ p, rowAsk ok (eyeD ns nm) l n p := ⟨_, h⟩
 rw [dif_pos h0]
 obtain ⟨e1, e2⟩ := eye_inj h0.choose_spec.1
 rw [← e1, ← e2]
theorem rowE_none {ok : List D → Prop} {e : D} {l : List D} {n : Int} (h : ¬ ok l) : rowE ok [e, .list l, .int .i64 n] [] = none := by
 unfold rowE
 dsimp only
 rw [dif_neg]
 rintro ⟨p, hp⟩
 exact h hp.2.2.2.2.2
theorem rowE_inv {ok : List D → Prop} {args : List D} {pbs : List Bx} {d : D} {r : List Room} {pbs' : List Bx} (h : rowE ok args pbs = some (d, r, pbs')) :
  ∃ ns nm l n, args = [eyeD ns nm, .list l, .int .i64 n] ∧ pbs = [] ∧ rowAsk ok (eyeD ns nm) l n (ns, nm) ∧ d = .bool (rowV (sV ns nm) ns l.reverse n) ∧ r = [] ∧ pbs' = [] := by
 unfold rowE at h
 split at h
 ·rename_i e l n
  split at h
  ·rename_i hc
   have hs := hc.choose_spec
   simp only [Option.some.injEq, Prod.mk.injEq] at h
   obtain ⟨rfl, rfl, rfl⟩ := h
   have he := hs.1
   refine ⟨hc.choose.1, hc.choose.2, l, n, by rw [← he], rfl, ⟨rfl, hs.2⟩, rfl, rfl, rfl⟩
  ·cases h
 ·cases h
noncomputable abbrev rkE (sp : Call) (ok : List D → Prop) : Rk := ⟨fun f args pbs => if f = 45 then rowE ok args pbs else sp f args pbs⟩
def RowC (k m : Nat) : Prop := ∀ (ns : List Nd) (nm : Nam) (l : List D) (n : Int), SmallD ns → RightT ns → nm.ok → elB ns n = true → (∀ x ∈ l, cpOk 100 (smN k) x = true) → l.length = m →
 C1 45 [eyeD ns nm, .list l, .int .i64 n] (.bool (rowV (sV ns nm) ns l.reverse n)) []
theorem extR_ok {sp : Call} {ok : List D → Prop} (hr : ∀ ns nm l n, rowAsk ok (eyeD ns nm) l n (ns, nm) → C1 45 [eyeD ns nm, .list l, .int .i64 n] (.bool (rowV (sV ns nm) ns l.reverse n)) []) (hsp : CallOK Tryz.prog sp) : CallOK Tryz.prog (@extR (rkE sp ok)) := by
 intro f args pbs d r pbs' h
 unfold extR at h
 split at h
 ·have h' : rowE ok args pbs = some (d, r, pbs') := h
  obtain ⟨ns, nm, l, n, rfl, rfl, ha, rfl, rfl, rfl⟩ := rowE_inv h'
  obtain ⟨c1, c2⟩ := hr ns nm l n ha
  exact ⟨c1, fun vals w F μ hl hd _ hgv hlt hg => c2 vals w F μ hl hd hgv hlt hg⟩
 ·have h' : sp 48 args pbs = some (d, r, pbs') := h
  exact hsp _ _ _ _ _ _ h'
 ·have h' : sp 8 args pbs = some (d, r, pbs') := h
  exact hsp _ _ _ _ _ _ h'
 ·exact ext6_ok _ _ _ _ _ _ h
theorem extN_false : CallOK Tryz.prog (extNew fun _ => false) := by
 intro f args pbs d r pbs' h
 unfold extNew at h
 split at h
 ·simp at h
 ·cases h
theorem ext11b_ok0 {sp : Call} {ok : List D → Prop} (hr : CallOK Tryz.prog (@extR (rkE sp ok))) : CallOK Tryz.prog (@ext11b (rkE sp ok) fun _ => false) :=
 orExt_ok extF_ok (orExt_ok extCl_ok (orExt_ok extN_false hr))
end Go.Av
namespace Go.Av
open Go.Proofs Go.RowKit Go.Proofs.YtcogfddcdpgpkaaGreatDoor
theorem rowV_snoc {S : D → Int → Bool} {ns : List Nd} (l : List D) (cc : Int) (sl : List D) (n : Int) : rowV S ns (l ++ [D.agg [.int .i64 cc, .list sl]]).reverse n = (sl.all (S · n) && (l.isEmpty ||
  if cc = 2 then (parI ns n).2 && rowV S ns l.reverse (parI ns n).1
  else if cc = 3 then (ahdI ns n).2 && rowV S ns l.reverse (ahdI ns n).1
  else if cc = 1 then (upsI ns (n.toNat + 1) n).any (rowV S ns l.reverse)
  else if cc = 4 then (rowI ns n).dropLast.any (rowV S ns l.reverse)
  else false)) := by
 rw [List.reverse_append]
 show rowV S ns (D.agg [.int .i64 cc, .list sl] :: l.reverse) n = _
 rw [rowV]
 rw [List.isEmpty_reverse]
 rfl
theorem fits_at [Rk] {chk : List D → Bool} {k : Nat} (hk : k ≤ 45) {ns : List Nd} {nm : Nam} (hS : SmallD ns) (hR : RightT ns) (hn : nm.ok)
  (hrow : ∀ (l : List D) (n : Int), elB ns n = true → (∃ k', k' < k ∧ ∀ x ∈ l, cpOk 100 (smN k') x = true) → l.length ≤ 100 → callL Tryz.prog (ext11b chk) 45 [eyeD ns nm, .list l, .int .i64 n] [] = some (.bool (rowV (sV ns nm) ns l.reverse n), [], []))
  (n : Int) (he : elB ns n = true) (cc : Int) (sl : List D) (hl : sl.length ≤ 100) (hs : ∀ s ∈ sl, smN k s = true) :
  callL Tryz.prog (ext11b chk) 79 [eyeD ns nm, .agg [.int .i64 cc, .list sl], .int .i64 n] [] = some (.bool (sl.all (sV ns nm · n)), [.no], []) := by
 have form : ∀ s ∈ sl, s = (sf s).d := fun s hm => by
  have h := hs s hm
  cases k with
  | zero => simp [smN] at h
  | succ k => exact (smOk_inv (smN_inv h).1).1
 have hrE : ∀ n, elB ns n = true → ∀ j ∈ rowI ns n, elB ns j = true := fun n he j hj => by
  rcases row_last he j hj with h | rfl
  ·exact (hR.row n he j h).1
  ·exact he
 refine fits_L (chk := chk) (S := fun _ => true) ns nm n cc sl hl form (fun s => sV ns nm s n) [.no] fun s hm => ?_
 have h := hs s hm
 cases k with
 | zero => simp [smN] at h
 | succ k =>
  obtain ⟨h1, ha, hb, h4⟩ := smN_inv h
  obtain ⟨e, _, g2, g3, _⟩ := smOk_inv h1
  have hv : sV ns nm s n = stepV ns nm (listV (sV ns nm) ns) (sf s).d n := by rw [sV_step h1 (by omega) n, ← e]
  show callL Tryz.prog (ext11b chk) 38 [eyeD ns nm, (sf s).d, .int .i64 n] [] = some (.bool (sV ns nm s n), [.no], [])
  rw [hv]
  have h5 : lsOk 100 (smOk 100 (k + 1)) (sf s).of_ = true := ls_mono (fun d hd => smOk_up _ _ (smN_ok hd) _ (by omega)) h4
  refine simple_L ns nm n (sf s) hn hS he (hrE n he) (by omega) (by omega) ha hb (listV (sV ns nm) ns) fun j hj => ?_
  refine list_L ns nm j (sf s).of_ h5 (fun c => rowV (sV ns nm) ns (cxL c).reverse j) fun c hc => ?_
  obtain ⟨l, rfl, c1, c2⟩ := cxOk_inv ((lsOk_mem h4).2 c hc)
  exact hrow l j hj ⟨k, by omega, c2⟩ c1
theorem row_step {k m : Nat} (hk : k ≤ 45) (hm : m ≤ 100) (IHk : ∀ k', k' < k → ∀ m', m' ≤ 100 → RowC k' m') (IHm : ∀ m', m' < m → RowC k m') : RowC k m := by
 intro ns nm l n hS hR hn he hl hlen
 obtain ⟨ok, hok⟩ : ∃ ok : List D → Prop, ok = fun l => (∃ k', k' < k ∧ (∀ x ∈ l, cpOk 100 (smN k') x = true) ∧ l.length ≤ 100) ∨ ((∀ x ∈ l, cpOk 100 (smN k) x = true) ∧ l.length < m) := ⟨_, rfl⟩
 have hr : ∀ ns nm l n, rowAsk ok (eyeD ns nm) l n (ns, nm) → C1 45 [eyeD ns nm, .list l, .int .i64 n] (.bool (rowV (sV ns nm) ns l.reverse n)) [] := by
  rintro ns nm l n ⟨_, a1, a2, a3, a4, a5⟩
  rw [hok] at a5
  rcases a5 with ⟨k', h1, h2, h3⟩ | ⟨h2, h3⟩
  ·exact IHk k' h1 l.length h3 ns nm l n a1 a2 a3 a4 h2 rfl
  ·exact IHm l.length h3 ns nm l n a1 a2 a3 a4 h2 rfl
 by_cases hyes : ok l
 ·exact hr ns nm l n ⟨rfl, hS, hR, hn, he, hyes⟩
 letI : Rk := rkE noExt ok
 have hext : CallOK Tryz.prog (ext11b fun _ => false) := ext11b_ok0 (extR_ok hr noExt_ok)
 have h45 : ext11b (fun _ => false) 45 [eyeD ns nm, .list l, .int .i64 n] [] = none := by
  show (match (none : Option (D × List Room × List Bx)) with | some r => some r | none => rowE ok [eyeD ns nm, .list l, .int .i64 n] []) = none
  exact rowE_none hyes
 have hrow : ∀ (l : List D) (n : Int), elB ns n = true → ok l → callL Tryz.prog (ext11b fun _ => false) 45 [eyeD ns nm, .list l, .int .i64 n] [] = some (.bool (rowV (sV ns nm) ns l.reverse n), [], []) := fun l n he ho => callL_ext (ext_row (rowE_some ⟨rfl, hS, hR, hn, he, ho⟩))
 rcases List.eq_nil_or_concat l with rfl | ⟨l', x, rfl⟩
 ·exact (C1.callL hext (row_nil ns nm n h45)).room
 ·rw [List.concat_eq_append] at *
  obtain ⟨cc, sl, rfl, hsl, hss⟩ := cpOk_inv (hl x (by simp))
  have hl' : ∀ y ∈ l', cpOk 100 (smN k) y = true := fun y hy => hl y (by simp [hy])
  have hlt : l'.length < m := by rw [← hlen]; simp
  have hd : ∀ y ∈ l', (dcells y).length = 2 := fun y hy => by
   obtain ⟨c, s, rfl, _⟩ := cpOk_inv (hl' y hy)
   rfl
  have hfit := fits_at (chk := fun _ => false) hk hS hR hn (fun l n he h1 h2 => hrow l n he (by
   rw [hok]
   obtain ⟨k', e1, e2⟩ := h1
   exact .inl ⟨k', e1, e2, h2⟩)) n he cc sl hsl hss
  have hrest : ∀ j, elB ns j = true → callL Tryz.prog (ext11b fun _ => false) 45 [eyeD ns nm, .list l', .int .i64 j] [] = some (.bool (rowV (sV ns nm) ns l'.reverse j), [], []) := fun j hj => hrow l' j hj (by rw [hok]; exact .inr ⟨hl', hlt⟩)
  unfold cpD
  rw [rowV_snoc]
  by_cases hh : sl.all (sV ns nm · n) = true ∧ l' ≠ [] ∧ cc = 1
  ·obtain ⟨h1, h2, rfl⟩ := hh
   rw [h1] at hfit ⊢
   have he0 : l'.isEmpty = false := by cases l' with | nil => exact absurd rfl h2 | cons a r => rfl
   rw [he0, Bool.true_and, Bool.false_or, if_neg (by decide), if_neg (by decide), if_pos rfl]
   exact row_hand hext hR he (by omega) h2 hd hfit (rowV (sV ns nm) ns l'.reverse) fun j hj => IHm l'.length hlt ns nm l' j hS hR hn hj hl' rfl
  ·refine (C1.callL hext (row_eval ns nm n l' cc sl (rowV (sV ns nm) ns l'.reverse) _ hS.1 he (by omega) hd h45 hfit (fun j hj => hrest j ?_) fun h1 h2 h3 => hh ⟨h1, h2, h3⟩)).room
   rcases hj with ⟨rfl, hj⟩ | ⟨rfl, hj⟩ | hj
   ·exact (hR.par n he hj).1
   ·exact (hR.ahd n he hj).1
   ·exact (hR.row n he j hj).1
theorem rows : ∀ (k : Nat), k ≤ 45 → ∀ (m : Nat), m ≤ 100 → RowC k m := by
 intro k
 induction k using Nat.strongRecOn with
 | ind k ihk =>
  intro hk m
  induction m using Nat.strongRecOn with
  | ind m ihm =>
   intro hm
   exact row_step hk hm (fun k' h1 m' h2 => ihk k' h1 (by omega) m' h2) fun m' h => ihm m' h (by omega)
end Go.Av
namespace Go.Av
open Go.Proofs Go.RowKit Go.Proofs.YtcogfddcdpgpkaaGreatDoor
noncomputable def chkS (es : List D) : Bool := match aev Tryz.prog extCl 300 31 [.list es] [] with
 | some (.con .nilIface, _, []) => true
 | _ => false
theorem chkS_ok : ChkOK extCl chkS := by
 intro es _ h
 unfold chkS at h
 split at h
 ·rename_i r he
  exact ⟨300, r, he⟩
 ·cases h
noncomputable def ext12s : Call := orExt extCl (extNew chkS)
theorem ext12s_ok : CallOK Tryz.prog ext12s := orExt_ok extCl_ok (extNew_ok extCl_ok chkS_ok)
theorem speaks12 : aev Tryz.prog ext12s 300 8 [] [] = some (.bool true, [.no], []) := by kernel_rfl
theorem sp8 : C1 8 [] (.bool true) [.no] := C1.of (aev_sound fineS ext12s_ok 300) speaks12
end Go.Av
namespace Go.Av
open Go.Proofs
variable [Rk] {chk : List D → Bool}
set_option maxHeartbeats 4000000 in
theorem idxC3_L (l : List D) (clo : FuncId) (e1 e2 e3 : D) (f : D → Bool) (hl : l.length ≤ 1000000) (hF : ∀ x ∈ l, x = cxD (cxL x)) (hc : ∀ x ∈ l, callL Tryz.prog (ext11b chk) clo [.agg [.list (cxL x)], .fix e1 0, .fix e2 0, .fix e3 0] [] = some (.bool (f x), [.no], [])) :
  callL Tryz.prog (ext11b chk) 60 [.list l, .func (.func clo) [] [.fix e1 0, .fix e2 0, .fix e3 0]] [] = some (.int .i64 (idxN f 0 l), [.no], []) := by
 have lN : ((l.length : Nat) : Int) = l.length := rfl
 refine callK (m := 19) (res := [4]) (rs := [.tmp 4]) rfl Tryz.func60 rfl rfl rfl rfl rfl ?_
 have HL := Hd.mk hl
 have HC := Hd.mk hc
 clear hl hc
 obtain ⟨R, hR⟩ : ∃ R, Hd (R = idxN f 0 l) := ⟨_, rfl⟩
 rw [← (show R = idxN f 0 l from hR)]
 have HF := Hd.mk hF
 clear hF
 repeat' (first|simp only [*, AVB, AVY, ↓reduceIte, Nat.reduceLT, reduceCtorEq, Nat.reduceBEq]|refine drW_intro (by kernel_rfl) ?_|refine gw_intro (fun h => ?_) (fun h => ?_) <;> try simp only [AVH] at h)
 refine loopH (fun st => ∃ i : Nat, i ≤ l.length ∧ st.slot 8 = .int .i64 i ∧ st.slot 7 = .int .i64 l.length ∧ st.slot 0 = .list l ∧ st.slot 1 = .func (.func clo) [] [.fix e1 0, .fix e2 0, .fix e3 0] ∧ st.slot 4 = .int .i64 0 ∧ st.room 4 = [] ∧ Hd (R = idxN f i (l.drop i))) (fun st => l.length - slotI st 8) ?_ ?_
 ·refine ⟨0, Nat.zero_le _, ?_, ?_, ?_, ?_, ?_, ?_, hR⟩
  all_goals simp only [*, AVB, ↓reduceIte, Nat.reduceEqDiff, reduceCtorEq]
  all_goals rfl
 ·rintro st K ⟨i, hi, g0, g1, g2, g3, g4, g5, hO⟩ hn hx hr
  have hl : l.length ≤ 1000000 := HL
  have hO' : R = idxN f i (l.drop i) := hO
  by_cases h : i < l.length
  ·have g9 : (i : Int) < l.length := by omega
   have hw := wrapS i (by omega)
   obtain ⟨x, hx1⟩ := some_at h
   have hxm := List.mem_of_getElem? hx1
   rw [idxN_at _ hx1] at hO'
   have hc := (show ∀ x ∈ l, callL Tryz.prog (ext11b chk) clo [.agg [.list (cxL x)], .fix e1 0, .fix e2 0, .fix e3 0] [] = some (.bool (f x), [.no], []) from HC) x hxm
   have hF : ∀ x ∈ l, x = cxD (cxL x) := HF
   have ha : l.getD i .bad = .agg [.list (cxL x)] := by
    have h1 : l.getD i .bad = x := by simp [List.getD, hx1]
    rw [h1]
    exact hF x hxm
   cases he : f x with
   | true =>
    rw [he] at hO' hc
    rw [if_pos rfl] at hO'
    subst hO'
    clear he hxm hx1
    generalize cxL x = X at *
    clear hO hn hx hl hR HC
    repeat' (first|simp only [*, AVB, AVY, ↓reduceIte, Nat.reduceEqDiff, Nat.reduceLT, reduceCtorEq, Nat.reduceBEq, dIntBin]|refine drW_intro (by kernel_rfl) ?_|refine gw_intro (fun h => ?_) (fun h => ?_) <;> try simp only [AVH] at h)
    refine hr _ ?_
    repeat' (first|simp only [*, AVB, ↓reduceIte]|refine drW_intro (by kernel_rfl) ?_|refine gw_intro (fun h => ?_) (fun h => ?_) <;> try simp only [AVH] at h)
   | false =>
    rw [he] at hO' hc
    rw [if_neg (by decide)] at hO'
    have HO := Hd.mk hO'
    clear he hxm hx1
    generalize cxL x = X at *
    clear hO hO' hx hr hl
    repeat' (first|simp only [*, AVB, AVY, ↓reduceIte, Nat.reduceEqDiff, Nat.reduceLT, reduceCtorEq, Nat.reduceBEq, dIntBin]|refine drW_intro (by kernel_rfl) ?_|refine gw_intro (fun h => ?_) (fun h => ?_) <;> try simp only [AVH] at h)
    refine hn _ ⟨i + 1, h, ?_, ?_, ?_, ?_, ?_, ?_, HO⟩ ?_
    ·simp only [*, AVL, ↓reduceIte]
    ·simp only [*, AVL, ↓reduceIte, Nat.reduceEqDiff]
    ·simp only [*, AVL, ↓reduceIte, reduceCtorEq]
    ·simp only [*, AVL, ↓reduceIte, Nat.reduceEqDiff]
    ·simp only [*, AVL, ↓reduceIte, Nat.reduceEqDiff]
    ·simp only [*, AVL, ↓reduceIte, Nat.reduceEqDiff]
    ·simp only [slotI, *, AVB, ↓reduceIte]
     omega
  ·have g9 : ¬ (i : Int) < l.length := by omega
   rw [idxN_end _ (by omega)] at hO'
   subst hO'
   clear hO hn hr hl hR HC
   repeat' (first|simp only [*, AVB, ↓reduceIte, Nat.reduceLT, dIntBin]|refine drW_intro (by kernel_rfl) ?_|refine gw_intro (fun h => ?_) (fun h => ?_) <;> try simp only [AVH] at h)
   refine hx _ _ ?_
   repeat' (first|simp only [*, AVB, ↓reduceIte, Nat.reduceLT]|refine drW_intro (by kernel_rfl) ?_|refine gw_intro (fun h => ?_) (fun h => ?_) <;> try simp only [AVH] at h)
theorem conC3_L (l : List D) (clo : FuncId) (e1 e2 e3 : D) (f : D → Bool) (hl : l.length ≤ 1000000) (hF : ∀ x ∈ l, x = cxD (cxL x)) (hc : ∀ x ∈ l, callL Tryz.prog (ext11b chk) clo [.agg [.list (cxL x)], .fix e1 0, .fix e2 0, .fix e3 0] [] = some (.bool (f x), [.no], [])) :
  callL Tryz.prog (ext11b chk) 33 [.list l, .func (.func clo) [] [.fix e1 0, .fix e2 0, .fix e3 0]] [] = some (.bool (l.any f), [.no], []) := by
 have hs := idxC3_L (chk := chk) l clo e1 e2 e3 f hl hF hc
 have hb := idxN_ge f l 0
 clear hc hl
 clear hF
 generalize idxN f 0 l = z at *
 generalize l.any f = y at *
 refine callK (m := 9) (res := [4]) (rs := [.tmp 4]) rfl Tryz.func33 rfl rfl rfl rfl rfl ?_
 repeat' (first|simp only [*, AVB, AVY, ↓reduceIte, Nat.reduceEqDiff, Nat.reduceLT, reduceCtorEq, Nat.reduceBEq, dIntBin]|refine drW_intro (by kernel_rfl) ?_|refine gw_intro (fun h => ?_) (fun h => ?_) <;> try simp only [AVH] at h)
set_option maxHeartbeats 1000000 in
theorem elem37_L (ns : List Nd) (n : Int) (hS : SmallD ns) : callL Tryz.prog (ext11b chk) 37 [treeN ns, .int .i64 n] [] = some (.bool (elB ns n), [.no], []) := by
 have hnd := node36_L (chk := chk) ns n hS
 have hv : elB ns n = (if inB' ns n = true then (nodeI ns n).k == 1 else false) := by
  rw [elB_k]
  unfold nodeI
  by_cases h : inB' ns n = true
  ·rw [if_pos h, if_pos h]
   unfold inB' at h
   simp only [Bool.and_eq_true, decide_eq_true_eq] at h
   obtain ⟨x, hx⟩ := some_at (show n.toNat < ns.length by omega)
   have hg : ns.getD n.toNat zeroN = x := by simp [List.getD, hx]
   rw [hg, decide_eq_true h.1]
   unfold kAt
   rw [hx]
   rfl
  ·rw [if_neg h]
   unfold inB' at h
   simp only [Bool.and_eq_true, decide_eq_true_eq, not_and] at h
   by_cases h0 : 0 ≤ n
   ·have := h h0
    unfold kAt
    rw [List.getElem?_eq_none (by omega)]
    simp
   ·rw [decide_eq_false h0]; rfl
 rw [hv]
 generalize inB' ns n = b at *
 generalize nodeI ns n = X at *
 rw [ndat] at hnd
 generalize X.at_.map At.d = LA at *
 generalize X.st.map D.str = LS at *
 obtain ⟨T, hT⟩ := tree_fix ns
 generalize treeN ns = T0 at *
 subst hT
 clear hS hv
 cases b with
 | true =>
  rw [if_pos rfl]
  refine callK (m := 19) (res := [4]) (rs := [.tmp 4]) rfl Tryz.func37 rfl rfl rfl rfl rfl ?_
  repeat' (first|simp only [*, AVB, AVY, ↓reduceIte, Nat.reduceEqDiff, Nat.reduceLT, Nat.reduceLeDiff, reduceCtorEq, Nat.reduceBEq, Nat.reduceAdd, dIntBin]|refine drW_intro (by kernel_rfl) ?_|refine gw_intro (fun h => ?_) (fun h => ?_) <;> try simp only [AVH] at h)
 | false =>
  rw [if_neg (by decide)]
  refine callK (m := 19) (res := [4]) (rs := [.tmp 4]) rfl Tryz.func37 rfl rfl rfl rfl rfl ?_
  repeat' (first|simp only [*, AVB, ↓reduceIte, Nat.reduceEqDiff, Nat.reduceLT, Nat.reduceLeDiff, reduceCtorEq, Nat.reduceBEq, Nat.reduceAdd]|refine drW_intro (by kernel_rfl) ?_|refine gw_intro (fun h => ?_) (fun h => ?_) <;> try simp only [AVH] at h)
def subD (n : Int) (ps : List UInt8) : D := .agg [.int .i64 n, .str ps]
def complexP (ns : List Nd) (nm : Nam) (c : D) (n : Int) (ps : List UInt8) : Bool := elB ns n && (pseudoF c == ps && rowV (sV ns nm) ns (cxL c).reverse n)
set_option maxHeartbeats 1000000 in
theorem complex_L (ns : List Nd) (nm : Nam) (c : D) (n : Int) (ps : List UInt8) {k : Nat} (hS : SmallD ns) (hc : cxOk 100 (smOk 100 (k + 1)) c = true)
  (hrow : elB ns n = true → callL Tryz.prog (ext11b chk) 45 [eyeD ns nm, .list (cxL c), .int .i64 n] [] = some (.bool (rowV (sV ns nm) ns (cxL c).reverse n), [], [])) :
  callL Tryz.prog (ext11b chk) 20 [treeN ns, .agg [.list (cxL c)], .agg nm.cs, subD n ps] [] = some (.bool (complexP ns nm c n ps), [.no], []) := by
 have hp := pseudo_L (chk := chk) c hc
 have he := elem37_L (chk := chk) ns n hS
 obtain ⟨l, rfl, _, _⟩ := cxOk_inv hc
 unfold complexP
 rw [show cxL (cxD l) = l from rfl] at *
 generalize pseudoF (cxD l) = p at *
 generalize rowV (sV ns nm) ns l.reverse n = r at *
 unfold cxD at hp
 clear hc
 unfold eyeD at hrow
 unfold Nam.cs subD at *
 obtain ⟨T, hT⟩ := tree_fix ns
 generalize treeN ns = T0 at *
 subst hT
 clear hS
 cases hb : elB ns n with
 | false =>
  rw [hb] at he
  clear hrow
  refine callK (m := 30) (res := [8]) (rs := [.tmp 8]) rfl Tryz.func20 rfl rfl rfl rfl rfl ?_
  repeat' (first|simp only [*, AVB, AVY, ↓reduceIte, Nat.reduceEqDiff, Nat.reduceLT, reduceCtorEq, Nat.reduceBEq, Nat.reduceAdd]|refine drW_intro (by kernel_rfl) ?_|refine gw_intro (fun h => ?_) (fun h => ?_) <;> try simp only [AVH] at h)
 | true =>
  have hr := hrow hb
  rw [hb] at he
  clear hrow hb
  cases hq : (p == ps) with
  | false =>
   refine callK (m := 30) (res := [8]) (rs := [.tmp 8]) rfl Tryz.func20 rfl rfl rfl rfl rfl ?_
   repeat' (first|simp only [*, AVB, AVY, ↓reduceIte, Nat.reduceEqDiff, Nat.reduceLT, reduceCtorEq, Nat.reduceBEq, Nat.reduceAdd]|refine drW_intro (by kernel_rfl) ?_|refine gw_intro (fun h => ?_) (fun h => ?_) <;> try simp only [AVH] at h)
  | true =>
   refine callK (m := 30) (res := [8]) (rs := [.tmp 8]) rfl Tryz.func20 rfl rfl rfl rfl rfl ?_
   repeat' (first|simp only [*, AVB, AVY, ↓reduceIte, Nat.reduceEqDiff, Nat.reduceLT, reduceCtorEq, Nat.reduceBEq, Nat.reduceAdd]|refine drW_intro (by kernel_rfl) ?_|refine gw_intro (fun h => ?_) (fun h => ?_) <;> try simp only [AVH] at h)
set_option maxHeartbeats 1000000 in
theorem sel1_L (ns : List Nd) (nm : Nam) (c : D) (n : Int) (ps : List UInt8) (v : Bool)
  (h : callL Tryz.prog (ext11b chk) 20 [treeN ns, .agg [.list (cxL c)], .agg nm.cs, subD n ps] [] = some (.bool v, [.no], [])) :
  callL Tryz.prog (ext11b chk) 34 [.agg [.list (cxL c)], .fix (.agg [treeN ns]) 0, .fix (.agg nm.cs) 0, .fix (subD n ps) 0] [] = some (.bool v, [.no], []) := by
 unfold Nam.cs subD at *
 obtain ⟨T, hT⟩ := tree_fix ns
 generalize treeN ns = T0 at *
 subst hT
 generalize cxL c = l at *
 refine callK (m := 11) (res := [5]) (rs := [.tmp 5]) rfl Tryz.func34 rfl rfl rfl rfl rfl ?_
 repeat' (first|simp only [*, AVB, AVY, ↓reduceIte, Nat.reduceEqDiff, Nat.reduceLT, Nat.reduceBEq, Nat.reduceAdd]|refine drW_intro (by kernel_rfl) ?_|refine gw_intro (fun h => ?_) (fun h => ?_) <;> try simp only [AVH] at h)
set_option maxHeartbeats 1000000 in
theorem selects_L (ns : List Nd) (nm : Nam) (l : List D) (n : Int) (ps : List UInt8) {k : Nat} (hS : SmallD ns) (hl : lsOk 100 (smOk 100 (k + 1)) l = true)
  (hrow : elB ns n = true → ∀ c ∈ l, callL Tryz.prog (ext11b chk) 45 [eyeD ns nm, .list (cxL c), .int .i64 n] [] = some (.bool (rowV (sV ns nm) ns (cxL c).reverse n), [], [])) :
  callL Tryz.prog (ext11b chk) 14 [treeN ns, .list l, .agg nm.cs, subD n ps] [] = some (.bool (l.any fun c => complexP ns nm c n ps), [.no], []) := by
 obtain ⟨h1, h2⟩ := lsOk_mem hl
 have hc := conC3_L (chk := chk) l 34 (.agg [treeN ns]) (.agg nm.cs) (subD n ps) (fun c => complexP ns nm c n ps) (by omega) (fun c hc => by obtain ⟨x, e, _⟩ := cxOk_inv (h2 c hc); rw [e]; rfl) fun c hc => sel1_L ns nm c n ps _ (complex_L ns nm c n ps hS (h2 c hc) fun he => hrow he c hc)
 clear hrow h1 h2 hl hS
 generalize (l.any fun c => complexP ns nm c n ps) = q at *
 unfold Nam.cs subD at *
 obtain ⟨T, hT⟩ := tree_fix ns
 generalize treeN ns = T0 at *
 subst hT
 refine callK (m := 12) (res := [8]) (rs := [.tmp 8]) rfl Tryz.func14 rfl rfl rfl rfl rfl ?_
 repeat' (first|simp only [*, upd, AVB, AVY, ↓reduceIte, Nat.reduceEqDiff, Nat.reduceLT, reduceCtorEq, Nat.reduceBEq, Nat.reduceAdd]|refine drW_intro (by kernel_rfl) ?_|refine gw_intro (fun h => ?_) (fun h => ?_) <;> try simp only [AVH] at h)
end Go.Av
