/- The evaluator, in one text: over any program; no conditions but those that each law names. -/
import Derived.Test.YtcogfddcdpgpkaaGreatDoorAvuc
set_option linter.unusedSimpArgs false
set_option linter.unusedVariables false
set_option linter.unusedSectionVars false
set_option maxRecDepth 100000
namespace Go.Av
open Go.Proofs
variable [Rk] {chk : List D → Bool}
open Go.Proofs.YtcogfddcdpgpkaaGreatDoor
def bytesI (s : List UInt8) : List Int := s.map fun b => (b.toNat : Int)
def goodB (s : List UInt8) : Bool := rGood (bytesI s)
theorem bytesI_ok (s : List UInt8) : BytesOK (bytesI s) := by
 intro i hi
 have hi' : i < s.length := by simpa [bytesI] using hi
 have : (bytesI s).getD i 0 = (s[i].toNat : Int) := by simp [bytesI, List.getD, hi']
 rw [this]
 have := s[i].toNat_lt
 omega
theorem bytesI_len (s : List UInt8) : (bytesI s).length = s.length := by simp [bytesI]
theorem bytesI_d (s : List UInt8) : (s.map fun b => D.int .u8 (b.toNat : Int)) = (bytesI s).map (D.int .u8) := by simp [bytesI]
theorem byI_of : ∀ (zs : List Int), BytesOK zs → byI (zs.map (D.int .u8)) = some zs
 | [], _ => rfl
 | z :: r, h => by
  have h0 := h 0 (by simp)
  have hr : BytesOK r := fun i hi => by have := h (i + 1) (by simpa using hi); simpa using this
  simp only [List.getD_cons_zero] at h0
  show (if 0 ≤ z ∧ z < 256 then (byI (r.map (D.int .u8))).map (z :: ·) else none) = _
  rw [if_pos h0, byI_of r hr]
  rfl
theorem good_L (s : List UInt8) (hl : s.length ≤ 140737488355328) : callL Tryz.prog (ext11b chk) 95 [.list (s.map fun b => .int .u8 b.toNat)] [] = some (.bool (goodB s), [], []) := by
 refine callL_ext (ext_in ?_)
 rw [bytesI_d]
 show (match byI ((bytesI s).map (D.int .u8)) with | some zs => if zs.length ≤ 140737488355328 then some (D.bool (rGood zs), ([] : List Room), ([] : List Bx)) else none | none => none) = _
 rw [byI_of _ (bytesI_ok s)]
 show (if (bytesI s).length ≤ 140737488355328 then some (D.bool (rGood (bytesI s)), ([] : List Room), ([] : List Bx)) else none) = _
 rw [if_pos (by rw [bytesI_len]; exact hl)]
 rfl
theorem right81_L (s : List UInt8) (hl : s.length ≤ 1000000) : callL Tryz.prog (ext11b chk) 127 [.list (s.map fun b => .int .u8 b.toNat)] [] = some (.bool (goodB s), [.no], []) := by
 have h := right_L (chk := chk) (bytesI s) (bytesI_ok s) (by rw [bytesI_len]; omega)
 rw [← good_valid (bytesI s).length _ (Nat.le_refl _) (bytesI_ok s)] at h
 rw [bytesI_d]
 exact h
theorem dright_L (s : List UInt8) (hl : s.length ≤ 1000000) : callL Tryz.prog (ext11b chk) 96 [.str s] [] = some (.bool (goodB s), [.no], []) := by
 have h := right81_L (chk := chk) s hl
 clear hl
 generalize goodB s = R at *
 refine callK (m := 6) (res := [2]) (rs := [.tmp 2]) rfl Tryz.func96 rfl rfl rfl rfl rfl ?_
 repeat' (first|simp only [*, AVB, ↓reduceIte, Nat.reduceEqDiff, Nat.reduceLT, reduceCtorEq, Nat.reduceBEq]|refine drW_intro (by kernel_rfl) ?_|refine gw_intro (fun h => ?_) (fun h => ?_) <;> try simp only [AVH] at h)
theorem rright_L (s : List UInt8) (hl : s.length ≤ 140737488355328) : callL Tryz.prog (ext11b chk) 53 [.str s] [] = some (.bool (goodB s), [.no], []) := by
 have h := good_L (chk := chk) s hl
 clear hl
 generalize goodB s = R at *
 refine callK (m := 6) (res := [2]) (rs := [.tmp 2]) rfl Tryz.func53 rfl rfl rfl rfl rfl ?_
 repeat' (first|simp only [*, AVB, ↓reduceIte, Nat.reduceEqDiff, Nat.reduceLT, reduceCtorEq, Nat.reduceBEq]|refine drW_intro (by kernel_rfl) ?_|refine gw_intro (fun h => ?_) (fun h => ?_) <;> try simp only [AVH] at h)
def idxN {α : Type} (f : α → Bool) : Nat → List α → Int
 | _, [] => -1
 | k, a :: r => if f a = true then (k : Int) else idxN f (k + 1) r
theorem idxN_at {α : Type} {xs : List α} {i : Nat} {x : α} (f : α → Bool) (hx : xs[i]? = some x) : idxN f i (xs.drop i) = if f x = true then (i : Int) else idxN f (i + 1) (xs.drop (i + 1)) := by
 have h1 : i < xs.length := (List.getElem?_eq_some_iff.1 hx).1
 have e1 : xs[i] = x := (List.getElem?_eq_some_iff.1 hx).2
 rw [List.drop_eq_getElem_cons h1, e1, idxN]
theorem idxN_end {α : Type} {xs : List α} {i : Nat} (f : α → Bool) (h : xs.length ≤ i) : idxN f i (xs.drop i) = -1 := by
 rw [List.drop_eq_nil_of_le h]
 rfl
theorem idxN_ge {α : Type} (f : α → Bool) : ∀ (xs : List α) (k : Nat), decide (idxN f k xs ≥ 0) = xs.any f
 | [], _ => rfl
 | a :: r, k => by
  rw [idxN, List.any_cons]
  cases h : f a with
  | true => simp
  | false => simpa using idxN_ge f r (k + 1)
def sameN (sp nm : List UInt8) (a : At) : Bool := a.sp == sp && a.nm == nm
theorem attr1_L (a : At) (sp nm : List UInt8) : callL Tryz.prog (ext11b chk) 161 [.agg [.str a.sp, .str a.nm, .str a.vl], .fix (.agg [.str sp]) 0, .fix (.agg [.str nm]) 0] [] = some (.bool (sameN sp nm a), [.no], []) := by
 unfold sameN
 obtain ⟨a1, a2, a3⟩ := a
 simp only []
 cases h1 : (a1 == sp) with
 | false =>
  refine callK (m := 15) (res := [4]) (rs := [.tmp 4]) rfl Tryz.func161 rfl rfl rfl rfl rfl ?_
  repeat' (first|simp only [*, AVB, ↓reduceIte, Nat.reduceEqDiff, Nat.reduceLT, Nat.reduceBEq, Nat.reduceAdd]|refine drW_intro (by kernel_rfl) ?_|refine gw_intro (fun h => ?_) (fun h => ?_) <;> try simp only [AVH] at h)
 | true =>
  cases h2 : (a2 == nm) with
  | false =>
   refine callK (m := 15) (res := [4]) (rs := [.tmp 4]) rfl Tryz.func161 rfl rfl rfl rfl rfl ?_
   repeat' (first|simp only [*, AVB, ↓reduceIte, Nat.reduceEqDiff, Nat.reduceLT, Nat.reduceBEq, Nat.reduceAdd]|refine drW_intro (by kernel_rfl) ?_|refine gw_intro (fun h => ?_) (fun h => ?_) <;> try simp only [AVH] at h)
  | true =>
   refine callK (m := 15) (res := [4]) (rs := [.tmp 4]) rfl Tryz.func161 rfl rfl rfl rfl rfl ?_
   repeat' (first|simp only [*, AVB, ↓reduceIte, Nat.reduceEqDiff, Nat.reduceLT, Nat.reduceBEq, Nat.reduceAdd]|refine drW_intro (by kernel_rfl) ?_|refine gw_intro (fun h => ?_) (fun h => ?_) <;> try simp only [AVH] at h)
set_option maxHeartbeats 4000000 in
theorem idxf_L (l : List At) (sp nm : List UInt8) (hl : l.length ≤ 1000000) : callL Tryz.prog (ext11b chk) 138 [.list (l.map At.d), .func (.func 161) [] [.fix (.agg [.str sp]) 0, .fix (.agg [.str nm]) 0]] [] = some (.int .i64 (idxN (sameN sp nm) 0 l), [.no], []) := by
 have lN := lenM l At.d
 refine callK (m := 19) (res := [4]) (rs := [.tmp 4]) rfl Tryz.func138 rfl rfl rfl rfl rfl ?_
 have HL := Hd.mk hl
 clear hl
 obtain ⟨R, hR⟩ : ∃ R, Hd (R = idxN (sameN sp nm) 0 l) := ⟨_, rfl⟩
 rw [← (show R = idxN (sameN sp nm) 0 l from hR)]
 repeat' (first|simp only [*, AVB, ↓reduceIte, Nat.reduceLT, reduceCtorEq, Nat.reduceBEq]|refine drW_intro (by kernel_rfl) ?_|refine gw_intro (fun h => ?_) (fun h => ?_) <;> try simp only [AVH] at h)
 refine loopH (fun st => ∃ i : Nat, i ≤ l.length ∧ st.slot 8 = .int .i64 i ∧ st.slot 7 = .int .i64 l.length ∧ st.slot 0 = .list (l.map At.d) ∧ st.slot 1 = .func (.func 161) [] [.fix (.agg [.str sp]) 0, .fix (.agg [.str nm]) 0] ∧ st.slot 4 = .int .i64 0 ∧ st.room 4 = [] ∧ Hd (R = idxN (sameN sp nm) i (l.drop i))) (fun st => l.length - slotI st 8) ?_ ?_
 ·refine ⟨0, Nat.zero_le _, ?_, ?_, ?_, ?_, ?_, ?_, hR⟩
  all_goals simp only [*, AVB, ↓reduceIte, Nat.reduceEqDiff, reduceCtorEq]
  all_goals rfl
 ·rintro st K ⟨i, hi, g0, g1, g2, g3, g4, g5, hO⟩ hn hx hr
  have hl : l.length ≤ 1000000 := HL
  have hO' : R = idxN (sameN sp nm) i (l.drop i) := hO
  by_cases h : i < l.length
  ·have g9 : (i : Int) < l.length := by omega
   have hw := wrapS i (by omega)
   obtain ⟨x, hx1⟩ := some_at h
   rw [idxN_at _ hx1] at hO'
   have ha := getD_map (f := At.d) hx1
   obtain ⟨a1, a2, a3⟩ := x
   have ha2 : (l.map At.d).getD i .bad = .agg [.str a1, .str a2, .str a3] := ha
   clear ha
   have hc : callL Tryz.prog (ext11b chk) 161 [.agg [.str a1, .str a2, .str a3], .fix (.agg [.str sp]) 0, .fix (.agg [.str nm]) 0] [] = some (.bool (sameN sp nm ⟨a1, a2, a3⟩), [.no], []) := attr1_L ⟨a1, a2, a3⟩ sp nm
   cases he : sameN sp nm ⟨a1, a2, a3⟩ with
   | true =>
    rw [he] at hO' hc
    rw [if_pos rfl] at hO'
    subst hO'
    clear hO hn hx hl hx1 hR
    repeat' (first|simp only [*, AVB, ↓reduceIte, Nat.reduceEqDiff, Nat.reduceLT, reduceCtorEq, Nat.reduceBEq, Nat.reduceAdd, dIntBin]|refine drW_intro (by kernel_rfl) ?_|refine gw_intro (fun h => ?_) (fun h => ?_) <;> try simp only [AVH] at h)
    refine hr _ ?_
    repeat' (first|simp only [*, AVB, ↓reduceIte]|refine drW_intro (by kernel_rfl) ?_|refine gw_intro (fun h => ?_) (fun h => ?_) <;> try simp only [AVH] at h)
   | false =>
    rw [he] at hO' hc
    rw [if_neg (by decide)] at hO'
    have HO := Hd.mk hO'
    clear hO hO' hx hr hl hx1
    repeat' (first|simp only [*, AVB, ↓reduceIte, Nat.reduceEqDiff, Nat.reduceLT, reduceCtorEq, Nat.reduceBEq, Nat.reduceAdd, dIntBin]|refine drW_intro (by kernel_rfl) ?_|refine gw_intro (fun h => ?_) (fun h => ?_) <;> try simp only [AVH] at h)
    refine hn _ ⟨i + 1, h, ?_, ?_, ?_, ?_, ?_, ?_, HO⟩ ?_
    ·simp only [*, AVL, ↓reduceIte]
    ·simp only [*, AVL, ↓reduceIte, Nat.reduceEqDiff]
    ·simp only [*, AVL, ↓reduceIte, reduceCtorEq]
    ·simp only [*, AVL, ↓reduceIte, Nat.reduceEqDiff]
    ·simp only [*, AVL, ↓reduceIte, Nat.reduceEqDiff]
    ·simp only [*, AVL, ↓reduceIte, Nat.reduceEqDiff]
    ·simp only [slotI, *, AVB, ↓reduceIte]
     omega
  ·have g9 : ¬ (i : Int) < l.length := by omega
   rw [idxN_end _ (by omega)] at hO'
   subst hO'
   clear hO hn hr hl hR
   repeat' (first|simp only [*, AVB, ↓reduceIte, Nat.reduceLT, dIntBin]|refine drW_intro (by kernel_rfl) ?_|refine gw_intro (fun h => ?_) (fun h => ?_) <;> try simp only [AVH] at h)
   refine hx _ _ ?_
   repeat' (first|simp only [*, AVB, ↓reduceIte, Nat.reduceLT]|refine drW_intro (by kernel_rfl) ?_|refine gw_intro (fun h => ?_) (fun h => ?_) <;> try simp only [AVH] at h)
theorem attr_L (l : List At) (sp nm : List UInt8) (hl : l.length ≤ 1000000) : callL Tryz.prog (ext11b chk) 128 [.list (l.map At.d), .str sp, .str nm] [] = some (.int .i64 (idxN (sameN sp nm) 0 l), [.no], []) := by
 have h := idxf_L (chk := chk) l sp nm hl
 clear hl
 generalize idxN (sameN sp nm) 0 l = R at *
 generalize l.map At.d = L at *
 refine callK (m := 10) (res := [6]) (rs := [.tmp 6]) rfl Tryz.func128 rfl rfl rfl rfl rfl ?_
 repeat' (first|simp only [*, upd, AVB, ↓reduceIte, Nat.reduceEqDiff, Nat.reduceLT, reduceCtorEq, Nat.reduceBEq, Nat.reduceAdd]|refine drW_intro (by kernel_rfl) ?_|refine gw_intro (fun h => ?_) (fun h => ?_) <;> try simp only [AVH] at h)
set_option maxHeartbeats 4000000 in
theorem index_L (l : List (List UInt8)) (v : List UInt8) (hl : l.length ≤ 1000000) : callL Tryz.prog (ext11b chk) 130 [.list (l.map D.str), .str v] [] = some (.int .i64 (idxN (v == ·) 0 l), [.no], []) := by
 have lN := lenM l D.str
 refine callK (m := 19) (res := [4]) (rs := [.tmp 4]) rfl Tryz.func130 rfl rfl rfl rfl rfl ?_
 have HL := Hd.mk hl
 clear hl
 obtain ⟨R, hR⟩ : ∃ R, Hd (R = idxN (v == ·) 0 l) := ⟨_, rfl⟩
 rw [← (show R = idxN (v == ·) 0 l from hR)]
 repeat' (first|simp only [*, AVB, ↓reduceIte, Nat.reduceLT, reduceCtorEq, Nat.reduceBEq]|refine drW_intro (by kernel_rfl) ?_|refine gw_intro (fun h => ?_) (fun h => ?_) <;> try simp only [AVH] at h)
 refine loopH (fun st => ∃ i : Nat, i ≤ l.length ∧ st.slot 8 = .int .i64 i ∧ st.slot 7 = .int .i64 l.length ∧ st.slot 0 = .list (l.map D.str) ∧ st.slot 1 = .str v ∧ st.slot 4 = .int .i64 0 ∧ st.room 4 = [] ∧ Hd (R = idxN (v == ·) i (l.drop i))) (fun st => l.length - slotI st 8) ?_ ?_
 ·refine ⟨0, Nat.zero_le _, ?_, ?_, ?_, ?_, ?_, ?_, hR⟩
  all_goals simp only [*, AVB, ↓reduceIte, Nat.reduceEqDiff, reduceCtorEq]
  all_goals rfl
 ·rintro st K ⟨i, hi, g0, g1, g2, g3, g4, g5, hO⟩ hn hx hr
  have hl : l.length ≤ 1000000 := HL
  have hO' : R = idxN (v == ·) i (l.drop i) := hO
  by_cases h : i < l.length
  ·have g9 : (i : Int) < l.length := by omega
   have hw := wrapS i (by omega)
   obtain ⟨x, hx1⟩ := some_at h
   rw [idxN_at _ hx1] at hO'
   have ha := getD_map (f := D.str) hx1
   cases he : (v == x) with
   | true =>
    rw [he] at hO'
    rw [if_pos rfl] at hO'
    subst hO'
    clear hO hn hx hl hx1 hR
    repeat' (first|simp only [*, AVB, ↓reduceIte, Nat.reduceEqDiff, Nat.reduceLT, reduceCtorEq, Nat.reduceBEq, dIntBin]|refine drW_intro (by kernel_rfl) ?_|refine gw_intro (fun h => ?_) (fun h => ?_) <;> try simp only [AVH] at h)
    refine hr _ ?_
    repeat' (first|simp only [*, AVB, ↓reduceIte]|refine drW_intro (by kernel_rfl) ?_|refine gw_intro (fun h => ?_) (fun h => ?_) <;> try simp only [AVH] at h)
   | false =>
    rw [he] at hO'
    rw [if_neg (by decide)] at hO'
    have HO := Hd.mk hO'
    clear hO hO' hx hr hl hx1
    repeat' (first|simp only [*, AVB, ↓reduceIte, Nat.reduceEqDiff, Nat.reduceLT, reduceCtorEq, Nat.reduceBEq, dIntBin]|refine drW_intro (by kernel_rfl) ?_|refine gw_intro (fun h => ?_) (fun h => ?_) <;> try simp only [AVH] at h)
    refine hn _ ⟨i + 1, h, ?_, ?_, ?_, ?_, ?_, ?_, HO⟩ ?_
    ·simp only [*, AVL, ↓reduceIte]
    ·simp only [*, AVL, ↓reduceIte, Nat.reduceEqDiff]
    ·simp only [*, AVL, ↓reduceIte, reduceCtorEq]
    ·simp only [*, AVL, ↓reduceIte, Nat.reduceEqDiff]
    ·simp only [*, AVL, ↓reduceIte, Nat.reduceEqDiff]
    ·simp only [*, AVL, ↓reduceIte, Nat.reduceEqDiff]
    ·simp only [slotI, *, AVB, ↓reduceIte]
     omega
  ·have g9 : ¬ (i : Int) < l.length := by omega
   rw [idxN_end _ (by omega)] at hO'
   subst hO'
   clear hO hn hr hl hR
   repeat' (first|simp only [*, AVB, ↓reduceIte, Nat.reduceLT, dIntBin]|refine drW_intro (by kernel_rfl) ?_|refine gw_intro (fun h => ?_) (fun h => ?_) <;> try simp only [AVH] at h)
   refine hx _ _ ?_
   repeat' (first|simp only [*, AVB, ↓reduceIte, Nat.reduceLT]|refine drW_intro (by kernel_rfl) ?_|refine gw_intro (fun h => ?_) (fun h => ?_) <;> try simp only [AVH] at h)
theorem any_contains (l : List (List UInt8)) (v : List UInt8) : l.any (v == ·) = l.contains v := by
 induction l with
 | nil => rfl
 | cons a r ih => rw [List.any_cons, ih, List.contains_cons]
theorem contains_L (l : List (List UInt8)) (v : List UInt8) (hl : l.length ≤ 1000000) : callL Tryz.prog (ext11b chk) 108 [.list (l.map D.str), .str v] [] = some (.bool (l.contains v), [.no], []) := by
 have h := index_L (chk := chk) l v hl
 rw [← any_contains, ← idxN_ge (v == ·) l 0]
 clear hl
 generalize idxN (v == ·) 0 l = R at *
 generalize l.map D.str = L at *
 refine callK (m := 9) (res := [4]) (rs := [.tmp 4]) rfl Tryz.func108 rfl rfl rfl rfl rfl ?_
 repeat' (first|simp only [*, AVB, ↓reduceIte, Nat.reduceEqDiff, Nat.reduceLT, reduceCtorEq, Nat.reduceBEq, dIntBin]|refine drW_intro (by kernel_rfl) ?_|refine gw_intro (fun h => ?_) (fun h => ?_) <;> try simp only [AVH] at h)
theorem dstate_L (s : List UInt8) : callL Tryz.prog (ext11b chk) 129 [.str s] [] = some (.bool (stS.contains s), [.no], []) := by
 have h : callL Tryz.prog (ext11b chk) 108 [.list stD, .str s] [] = some (.bool (stS.contains s), [.no], []) := contains_L (chk := chk) stS s (by decide)
 generalize stS.contains s = R at *
 refine callK (m := 6) (res := [2]) (rs := [.tmp 2]) rfl Tryz.func129 rfl rfl rfl rfl rfl ?_
 repeat' (first|simp only [*, AVB, ↓reduceIte, Nat.reduceEqDiff, Nat.reduceLT, reduceCtorEq, Nat.reduceBEq]|refine drW_intro (by kernel_rfl) ?_|refine gw_intro (fun h => ?_) (fun h => ?_) <;> try simp only [AVH] at h)
theorem any_contains2 (l : List (List UInt8)) (v : List UInt8) : l.any (· == v) = l.contains v := by
 rw [← any_contains]
 congr 1
 funext x
 rw [Bool.eq_iff_iff, beq_iff_eq, beq_iff_eq]
 exact eq_comm
set_option maxHeartbeats 4000000 in
theorem has_L (l : List (List UInt8)) (v : List UInt8) (hl : l.length ≤ 140737488355328) : callL Tryz.prog (ext11b chk) 42 [.list (l.map D.str), .str v] [] = some (.bool (l.contains v), [.no], []) := by
 have lN := lenM l D.str
 rw [← any_contains2]
 refine callK (m := 18) (res := [4]) (rs := [.tmp 4]) rfl Tryz.func42 rfl rfl rfl rfl rfl ?_
 have HL := Hd.mk hl
 clear hl
 obtain ⟨R, hR⟩ : ∃ R, Hd (R = l.any (· == v)) := ⟨_, rfl⟩
 rw [← (show R = l.any (· == v) from hR)]
 repeat' (first|simp only [*, AVB, ↓reduceIte, Nat.reduceLT]|refine drW_intro (by kernel_rfl) ?_|refine gw_intro (fun h => ?_) (fun h => ?_) <;> try simp only [AVH] at h)
 refine loopH (fun st => ∃ i : Nat, i ≤ l.length ∧ st.slot 5 = .int .i64 i ∧ st.slot 0 = .list (l.map D.str) ∧ st.slot 1 = .str v ∧ st.slot 4 = .bool false ∧ st.room 4 = [] ∧ Hd (R = (l.drop i).any (· == v))) (fun st => l.length - slotI st 5) ?_ ?_
 ·refine ⟨0, Nat.zero_le _, ?_, ?_, ?_, ?_, ?_, hR⟩
  all_goals simp only [*, AVB, ↓reduceIte, Nat.reduceEqDiff, reduceCtorEq]
  all_goals rfl
 ·rintro st K ⟨i, hi, g0, g1, g2, g3, g4, hO⟩ hn hx hr
  have hl : l.length ≤ 140737488355328 := HL
  have hO' : R = (l.drop i).any (· == v) := hO
  by_cases h : i < l.length
  ·have g9 : (i : Int) < l.length := by omega
   have hw := wrapS i (by omega)
   obtain ⟨x, hx1⟩ := some_at h
   rw [any_drop _ hx1] at hO'
   have ha := getD_map (f := D.str) hx1
   cases he : (x == v) with
   | true =>
    rw [he, Bool.true_or] at hO'
    subst hO'
    clear hO hn hx hl hx1 hR
    repeat' (first|simp only [*, AVB, ↓reduceIte, Nat.reduceEqDiff, Nat.reduceLT, reduceCtorEq, Nat.reduceBEq, dIntBin]|refine drW_intro (by kernel_rfl) ?_|refine gw_intro (fun h => ?_) (fun h => ?_) <;> try simp only [AVH] at h)
    refine hr _ ?_
    repeat' (first|simp only [*, AVB, ↓reduceIte]|refine drW_intro (by kernel_rfl) ?_|refine gw_intro (fun h => ?_) (fun h => ?_) <;> try simp only [AVH] at h)
   | false =>
    rw [he, Bool.false_or] at hO'
    have HO := Hd.mk hO'
    clear hO hO' hx hr hl hx1
    repeat' (first|simp only [*, AVB, ↓reduceIte, Nat.reduceEqDiff, Nat.reduceLT, reduceCtorEq, Nat.reduceBEq, dIntBin]|refine drW_intro (by kernel_rfl) ?_|refine gw_intro (fun h => ?_) (fun h => ?_) <;> try simp only [AVH] at h)
    refine hn _ ⟨i + 1, h, ?_, ?_, ?_, ?_, ?_, HO⟩ ?_
    ·simp only [*, AVL, ↓reduceIte]
    ·simp only [*, AVL, ↓reduceIte, reduceCtorEq]
    ·simp only [*, AVL, ↓reduceIte, Nat.reduceEqDiff]
    ·simp only [*, AVL, ↓reduceIte, Nat.reduceEqDiff]
    ·simp only [*, AVL, ↓reduceIte, Nat.reduceEqDiff]
    ·simp only [slotI, *, AVB, ↓reduceIte]
     omega
  ·have g9 : ¬ (i : Int) < l.length := by omega
   rw [any_end _ (by omega)] at hO'
   subst hO'
   clear hO hn hr hl hR
   repeat' (first|simp only [*, AVB, ↓reduceIte, Nat.reduceEqDiff, Nat.reduceLT, reduceCtorEq, Nat.reduceBEq, dIntBin]|refine drW_intro (by kernel_rfl) ?_|refine gw_intro (fun h => ?_) (fun h => ?_) <;> try simp only [AVH] at h)
   refine hx _ _ ?_
   repeat' (first|simp only [*, AVB, ↓reduceIte, Nat.reduceLT]|refine drW_intro (by kernel_rfl) ?_|refine gw_intro (fun h => ?_) (fun h => ?_) <;> try simp only [AVH] at h)
def stL : List D := stS.map .str
theorem bs24s : dbuildSlice Tryz.prog 24 10 [(0, .str [104, 111, 118, 101, 114]), (1, .str [97, 99, 116, 105, 118, 101]), (2, .str [102, 111, 99, 117, 115]), (3, .str [102, 111, 99, 117, 115, 45, 118, 105, 115, 105, 98, 108, 101]), (4, .str [118, 105, 115, 105, 116, 101, 100]), (5, .str [108, 105, 110, 107]), (6, .str [99, 104, 101, 99, 107, 101, 100]), (7, .str [100, 105, 115, 97, 98, 108, 101, 100]), (8, .str [101, 110, 97, 98, 108, 101, 100]), (9, .str [116, 97, 114, 103, 101, 116])] = some (.list stL) := by kernel_rfl
theorem rstate_L (s : List UInt8) : callL Tryz.prog (ext11b chk) 54 [.str s] [] = some (.bool (stS.contains s), [.no], []) := by
 have h : callL Tryz.prog (ext11b chk) 42 [.list stL, .str s] [] = some (.bool (stS.contains s), [.no], []) := has_L (chk := chk) stS s (by decide)
 generalize stS.contains s = R at *
 refine callK (m := 6) (res := [2]) (rs := [.tmp 2]) rfl Tryz.func54 rfl rfl rfl rfl rfl ?_
 repeat' (first|simp only [*, bs24s, AVB, ↓reduceIte, Nat.reduceEqDiff, Nat.reduceLT, reduceCtorEq, Nat.reduceBEq]|refine drW_intro (by kernel_rfl) ?_|refine gw_intro (fun h => ?_) (fun h => ?_) <;> try simp only [AVH] at h)
end Go.Av
namespace Go.Av
open Go.Proofs
variable [Rk] {chk : List D → Bool}
theorem szA (l : List At) : szOk 3 (l.map At.d) = true := by cases l <;> rfl
theorem szS (l : List (List UInt8)) : szOk 1 (l.map D.str) = true := by cases l <;> rfl
theorem szN (l : List Nd) : szOk 7 (l.map Nd.d) = true := by cases l <;> rfl
def atOk (a : At) : Bool := !(a.nm == []) && (goodB a.sp && (goodB a.nm && goodB a.vl))
def attrsG : List At → List At → Bool
 | _, [] => true
 | p, a :: r => (atOk a && !(p.any (sameN a.sp a.nm))) && attrsG (p ++ [a]) r
def attrsB (l : List At) : Bool := attrsG [] l
def statesG : List (List UInt8) → List (List UInt8) → Bool
 | _, [] => true
 | p, s :: r => (stS.contains s && !(p.contains s)) && statesG (p ++ [s]) r
def statesB (l : List (List UInt8)) : Bool := statesG [] l
theorem attrsG_at {xs : List At} {i : Nat} {x : At} (hx : xs[i]? = some x) : attrsG (xs.take i) (xs.drop i) = ((atOk x && !((xs.take i).any (sameN x.sp x.nm))) && attrsG (xs.take (i + 1)) (xs.drop (i + 1))) := by
 have h1 : i < xs.length := (List.getElem?_eq_some_iff.1 hx).1
 have e1 : xs[i] = x := (List.getElem?_eq_some_iff.1 hx).2
 rw [List.drop_eq_getElem_cons h1, e1, attrsG, List.take_succ_eq_append_getElem h1, e1]
theorem statesG_at {xs : List (List UInt8)} {i : Nat} {x : List UInt8} (hx : xs[i]? = some x) : statesG (xs.take i) (xs.drop i) = ((stS.contains x && !((xs.take i).contains x)) && statesG (xs.take (i + 1)) (xs.drop (i + 1))) := by
 have h1 : i < xs.length := (List.getElem?_eq_some_iff.1 hx).1
 have e1 : xs[i] = x := (List.getElem?_eq_some_iff.1 hx).2
 rw [List.drop_eq_getElem_cons h1, e1, statesG, List.take_succ_eq_append_getElem h1, e1]
theorem attrsG_end {xs : List At} {i : Nat} (h : xs.length ≤ i) : attrsG (xs.take i) (xs.drop i) = true := by
 rw [List.drop_eq_nil_of_le h]
 rfl
theorem statesG_end {xs : List (List UInt8)} {i : Nat} (h : xs.length ≤ i) : statesG (xs.take i) (xs.drop i) = true := by
 rw [List.drop_eq_nil_of_le h]
 rfl
def BigA (a : At) : Prop := a.sp.length ≤ 140737488355328 ∧ a.nm.length ≤ 140737488355328 ∧ a.vl.length ≤ 140737488355328
def SmallA (a : At) : Prop := a.sp.length ≤ 1000000 ∧ a.nm.length ≤ 1000000 ∧ a.vl.length ≤ 1000000
set_option maxHeartbeats 16000000 in
theorem attrs_L (l : List At) (hl : l.length ≤ 1000000) (hS : ∀ a ∈ l, SmallA a) : callL Tryz.prog (ext11b chk) 97 [.list (l.map At.d)] [] = some (.bool (attrsB l), [.no], []) := by
 have lN := lenM l At.d
 refine callK (m := 45) (res := [2]) (rs := [.tmp 2]) rfl Tryz.func97 rfl rfl rfl rfl rfl ?_
 have HL := Hd.mk hl
 have HS := Hd.mk hS
 clear hl hS
 obtain ⟨R, hR⟩ : ∃ R, Hd (R = attrsG (l.take 0) (l.drop 0)) := ⟨_, rfl⟩
 rw [show attrsB l = R from (show R = attrsG (l.take 0) (l.drop 0) from hR).symm]
 repeat' (first|simp only [*, AVB, ↓reduceIte, Nat.reduceLT, reduceCtorEq, Nat.reduceBEq]|refine drW_intro (by kernel_rfl) ?_|refine gw_intro (fun h => ?_) (fun h => ?_) <;> try simp only [AVH] at h)
 refine loopH (fun st => ∃ i : Nat, i ≤ l.length ∧ st.slot 7 = .int .i64 i ∧ st.slot 5 = .list (l.map At.d) ∧ st.slot 6 = .int .i64 l.length ∧ st.slot 0 = .list (l.map At.d) ∧ st.slot 2 = .bool false ∧ st.room 2 = [] ∧ Hd (R = attrsG (l.take i) (l.drop i))) (fun st => l.length - slotI st 7) ?_ ?_
 ·refine ⟨0, Nat.zero_le _, ?_, ?_, ?_, ?_, ?_, ?_, hR⟩
  all_goals simp only [*, AVB, ↓reduceIte, Nat.reduceEqDiff, reduceCtorEq]
  all_goals rfl
 ·rintro st K ⟨i, hi, g0, g1, g2, g3, g4, g5, hO⟩ hn hx hr
  have hl : l.length ≤ 1000000 := HL
  have hO' : R = attrsG (l.take i) (l.drop i) := hO
  by_cases h : i < l.length
  ·have g9 : (i : Int) < l.length := by omega
   have hw := wrapS i (by omega)
   obtain ⟨x, hx1⟩ := some_at h
   rw [attrsG_at hx1] at hO'
   have ha := getD_map (f := At.d) hx1
   have hS : ∀ a ∈ l, SmallA a := HS
   obtain ⟨s1, s2, s3⟩ : SmallA x := hS x (List.mem_of_getElem? hx1)
   obtain ⟨a1, a2, a3⟩ := x
   have ha2 : (l.map At.d).getD i .bad = .agg [.str a1, .str a2, .str a3] := ha
   clear ha
   have q1 := dright_L (chk := chk) a1 s1
   have q2 := dright_L (chk := chk) a2 s2
   have q3 := dright_L (chk := chk) a3 s3
   have q4 : callL Tryz.prog (ext11b chk) 128 [.list ((l.map At.d).take i), .str a1, .str a2] [] = some (.int .i64 (idxN (sameN a1 a2) 0 (l.take i)), [.no], []) := by
    rw [← List.map_take]
    exact attr_L (l.take i) a1 a2 (by rw [List.length_take]; omega)
   have q5 := idxN_ge (sameN a1 a2) (l.take i) 0
   have sz := szA l
   have gle : (i : Int) ≤ l.length := by omega
   simp only [atOk] at hO'
   generalize idxN (sameN a1 a2) 0 (l.take i) = X at *
   generalize (l.take i).any (sameN a1 a2) = e5 at *
   generalize goodB a1 = e1 at *
   generalize goodB a2 = e2 at *
   generalize goodB a3 = e3 at *
   clear s1 s2 s3
   cases h0 : (a2 == []) with
   | true =>
    rw [h0] at hO'
    simp only [Bool.not_true, Bool.false_and] at hO'
    subst hO'
    clear hO hn hx hl hx1 hR q5 sz
    repeat' (first|simp only [*, AVB, ↓reduceIte, Nat.reduceEqDiff, Nat.reduceLT, Nat.reduceLeDiff, Nat.reduceBEq, Nat.reduceAdd, dIntBin]|refine drW_intro (by kernel_rfl) ?_|refine gw_intro (fun h => ?_) (fun h => ?_) <;> try simp only [AVH] at h)
    refine hr _ ?_
    repeat' (first|simp only [*, AVB, ↓reduceIte]|refine drW_intro (by kernel_rfl) ?_|refine gw_intro (fun h => ?_) (fun h => ?_) <;> try simp only [AVH] at h)
   | false =>
    rw [h0] at hO'
    cases e1 with
    | false =>
     simp only [Bool.not_false, Bool.false_and, Bool.true_and] at hO'
     subst hO'
     clear hO hn hx hl hx1 hR q5 sz
     repeat' (first|simp only [*, AVB, ↓reduceIte, Nat.reduceEqDiff, Nat.reduceLT, Nat.reduceLeDiff, Nat.reduceBEq, Nat.reduceAdd, dIntBin]|refine drW_intro (by kernel_rfl) ?_|refine gw_intro (fun h => ?_) (fun h => ?_) <;> try simp only [AVH] at h)
     refine hr _ ?_
     repeat' (first|simp only [*, AVB, ↓reduceIte]|refine drW_intro (by kernel_rfl) ?_|refine gw_intro (fun h => ?_) (fun h => ?_) <;> try simp only [AVH] at h)
    | true =>
     cases e2 with
     | false =>
      simp only [Bool.not_false, Bool.false_and, Bool.true_and] at hO'
      subst hO'
      clear hO hn hx hl hx1 hR q5 sz
      repeat' (first|simp only [*, AVB, ↓reduceIte, Nat.reduceEqDiff, Nat.reduceLT, Nat.reduceLeDiff, Nat.reduceBEq, Nat.reduceAdd, dIntBin]|refine drW_intro (by kernel_rfl) ?_|refine gw_intro (fun h => ?_) (fun h => ?_) <;> try simp only [AVH] at h)
      refine hr _ ?_
      repeat' (first|simp only [*, AVB, ↓reduceIte]|refine drW_intro (by kernel_rfl) ?_|refine gw_intro (fun h => ?_) (fun h => ?_) <;> try simp only [AVH] at h)
     | true =>
      cases e3 with
      | false =>
       simp only [Bool.not_false, Bool.false_and, Bool.true_and] at hO'
       subst hO'
       clear hO hn hx hl hx1 hR q5 sz
       repeat' (first|simp only [*, AVB, ↓reduceIte, Nat.reduceEqDiff, Nat.reduceLT, Nat.reduceLeDiff, Nat.reduceBEq, Nat.reduceAdd, dIntBin]|refine drW_intro (by kernel_rfl) ?_|refine gw_intro (fun h => ?_) (fun h => ?_) <;> try simp only [AVH] at h)
       refine hr _ ?_
       repeat' (first|simp only [*, AVB, ↓reduceIte]|refine drW_intro (by kernel_rfl) ?_|refine gw_intro (fun h => ?_) (fun h => ?_) <;> try simp only [AVH] at h)
      | true =>
       cases e5 with
       | true =>
        simp only [Bool.not_false, Bool.not_true, Bool.false_and, Bool.true_and] at hO'
        have q6 : (0 : Int) ≤ X := by simpa using q5
        subst hO'
        clear hO hn hx hl hx1 hR q5
        repeat' (first|simp only [*, AVB, ↓reduceIte, Nat.reduceEqDiff, Nat.reduceLT, Nat.reduceLeDiff, reduceCtorEq, Nat.reduceBEq, Nat.reduceAdd, dIntBin]|refine drW_intro (by kernel_rfl) ?_|refine gw_intro (fun h => ?_) (fun h => ?_) <;> try simp only [AVH] at h)
        refine hr _ ?_
        repeat' (first|simp only [*, AVB, ↓reduceIte]|refine drW_intro (by kernel_rfl) ?_|refine gw_intro (fun h => ?_) (fun h => ?_) <;> try simp only [AVH] at h)
       | false =>
        simp only [Bool.not_false, Bool.true_and] at hO'
        have q6 : ¬ (0 : Int) ≤ X := by simpa using q5
        have HO := Hd.mk hO'
        clear hO hO' hx hr hl hx1 q5
        repeat' (first|simp only [*, AVB, ↓reduceIte, Nat.reduceEqDiff, Nat.reduceLT, Nat.reduceLeDiff, reduceCtorEq, Nat.reduceBEq, Nat.reduceAdd, dIntBin]|refine drW_intro (by kernel_rfl) ?_|refine gw_intro (fun h => ?_) (fun h => ?_) <;> try simp only [AVH] at h)
        refine hn _ ⟨i + 1, h, ?_, ?_, ?_, ?_, ?_, ?_, HO⟩ ?_
        ·simp only [*, AVL, ↓reduceIte]
        ·simp only [*, AVL, ↓reduceIte, Nat.reduceEqDiff]
        ·simp only [*, AVL, ↓reduceIte, Nat.reduceEqDiff]
        ·simp only [*, AVL, ↓reduceIte, reduceCtorEq]
        ·simp only [*, AVL, ↓reduceIte, Nat.reduceEqDiff]
        ·simp only [*, AVL, ↓reduceIte, Nat.reduceEqDiff]
        ·simp only [slotI, *, AVB, ↓reduceIte]
         omega
  ·have g9 : ¬ (i : Int) < l.length := by omega
   rw [attrsG_end (by omega)] at hO'
   subst hO'
   clear hO hn hr hl hR
   repeat' (first|simp only [*, AVB, ↓reduceIte, Nat.reduceLT, dIntBin]|refine drW_intro (by kernel_rfl) ?_|refine gw_intro (fun h => ?_) (fun h => ?_) <;> try simp only [AVH] at h)
   refine hx _ _ ?_
   repeat' (first|simp only [*, AVB, ↓reduceIte, Nat.reduceLT]|refine drW_intro (by kernel_rfl) ?_|refine gw_intro (fun h => ?_) (fun h => ?_) <;> try simp only [AVH] at h)
set_option maxHeartbeats 16000000 in
theorem states_L (l : List (List UInt8)) (hl : l.length ≤ 1000000) : callL Tryz.prog (ext11b chk) 98 [.list (l.map D.str)] [] = some (.bool (statesB l), [.no], []) := by
 have lN := lenM l D.str
 refine callK (m := 23) (res := [2]) (rs := [.tmp 2]) rfl Tryz.func98 rfl rfl rfl rfl rfl ?_
 have HL := Hd.mk hl
 clear hl
 obtain ⟨R, hR⟩ : ∃ R, Hd (R = statesG (l.take 0) (l.drop 0)) := ⟨_, rfl⟩
 rw [show statesB l = R from (show R = statesG (l.take 0) (l.drop 0) from hR).symm]
 repeat' (first|simp only [*, AVB, ↓reduceIte, Nat.reduceLT, reduceCtorEq, Nat.reduceBEq]|refine drW_intro (by kernel_rfl) ?_|refine gw_intro (fun h => ?_) (fun h => ?_) <;> try simp only [AVH] at h)
 refine loopH (fun st => ∃ i : Nat, i ≤ l.length ∧ st.slot 7 = .int .i64 i ∧ st.slot 5 = .list (l.map D.str) ∧ st.slot 6 = .int .i64 l.length ∧ st.slot 0 = .list (l.map D.str) ∧ st.slot 2 = .bool false ∧ st.room 2 = [] ∧ Hd (R = statesG (l.take i) (l.drop i))) (fun st => l.length - slotI st 7) ?_ ?_
 ·refine ⟨0, Nat.zero_le _, ?_, ?_, ?_, ?_, ?_, ?_, hR⟩
  all_goals simp only [*, AVB, ↓reduceIte, Nat.reduceEqDiff, reduceCtorEq]
  all_goals rfl
 ·rintro st K ⟨i, hi, g0, g1, g2, g3, g4, g5, hO⟩ hn hx hr
  have hl : l.length ≤ 1000000 := HL
  have hO' : R = statesG (l.take i) (l.drop i) := hO
  by_cases h : i < l.length
  ·have g9 : (i : Int) < l.length := by omega
   have hw := wrapS i (by omega)
   obtain ⟨x, hx1⟩ := some_at h
   rw [statesG_at hx1] at hO'
   have ha := getD_map (f := D.str) hx1
   have q1 := dstate_L (chk := chk) x
   have q4 : callL Tryz.prog (ext11b chk) 108 [.list ((l.map D.str).take i), .str x] [] = some (.bool ((l.take i).contains x), [.no], []) := by
    rw [← List.map_take]
    exact contains_L (l.take i) x (by rw [List.length_take]; omega)
   have sz := szS l
   have gle : (i : Int) ≤ l.length := by omega
   generalize (l.take i).contains x = e5 at *
   generalize stS.contains x = e1 at *
   cases e1 with
   | false =>
    simp only [Bool.false_and] at hO'
    subst hO'
    clear hO hn hx hl hx1 hR sz
    repeat' (first|simp only [*, AVB, ↓reduceIte, Nat.reduceEqDiff, Nat.reduceLT, Nat.reduceBEq, dIntBin]|refine drW_intro (by kernel_rfl) ?_|refine gw_intro (fun h => ?_) (fun h => ?_) <;> try simp only [AVH] at h)
    refine hr _ ?_
    repeat' (first|simp only [*, AVB, ↓reduceIte]|refine drW_intro (by kernel_rfl) ?_|refine gw_intro (fun h => ?_) (fun h => ?_) <;> try simp only [AVH] at h)
   | true =>
    cases e5 with
    | true =>
     simp only [Bool.not_true, Bool.false_and, Bool.true_and] at hO'
     subst hO'
     clear hO hn hx hl hx1 hR
     repeat' (first|simp only [*, AVB, ↓reduceIte, Nat.reduceEqDiff, Nat.reduceLT, reduceCtorEq, Nat.reduceBEq, dIntBin]|refine drW_intro (by kernel_rfl) ?_|refine gw_intro (fun h => ?_) (fun h => ?_) <;> try simp only [AVH] at h)
     refine hr _ ?_
     repeat' (first|simp only [*, AVB, ↓reduceIte]|refine drW_intro (by kernel_rfl) ?_|refine gw_intro (fun h => ?_) (fun h => ?_) <;> try simp only [AVH] at h)
    | false =>
     simp only [Bool.not_false, Bool.true_and] at hO'
     have HO := Hd.mk hO'
     clear hO hO' hx hr hl hx1
     repeat' (first|simp only [*, AVB, ↓reduceIte, Nat.reduceEqDiff, Nat.reduceLT, reduceCtorEq, Nat.reduceBEq, dIntBin]|refine drW_intro (by kernel_rfl) ?_|refine gw_intro (fun h => ?_) (fun h => ?_) <;> try simp only [AVH] at h)
     refine hn _ ⟨i + 1, h, ?_, ?_, ?_, ?_, ?_, ?_, HO⟩ ?_
     ·simp only [*, AVL, ↓reduceIte]
     ·simp only [*, AVL, ↓reduceIte, Nat.reduceEqDiff]
     ·simp only [*, AVL, ↓reduceIte, Nat.reduceEqDiff]
     ·simp only [*, AVL, ↓reduceIte, reduceCtorEq]
     ·simp only [*, AVL, ↓reduceIte, Nat.reduceEqDiff]
     ·simp only [*, AVL, ↓reduceIte, Nat.reduceEqDiff]
     ·simp only [slotI, *, AVB, ↓reduceIte]
      omega
  ·have g9 : ¬ (i : Int) < l.length := by omega
   rw [statesG_end (by omega)] at hO'
   subst hO'
   clear hO hn hr hl hR
   repeat' (first|simp only [*, AVB, ↓reduceIte, Nat.reduceLT, dIntBin]|refine drW_intro (by kernel_rfl) ?_|refine gw_intro (fun h => ?_) (fun h => ?_) <;> try simp only [AVH] at h)
   refine hx _ _ ?_
   repeat' (first|simp only [*, AVB, ↓reduceIte, Nat.reduceLT]|refine drW_intro (by kernel_rfl) ?_|refine gw_intro (fun h => ?_) (fun h => ?_) <;> try simp only [AVH] at h)
end Go.Av
namespace Go.Av
open Go.Proofs
variable [Rk] {chk : List D → Bool}
def kindAt (ahead : List Nd) (p : Int) : Int := match ahead[p.toNat]? with | some n => n.k | none => 0
def parOk (ahead : List Nd) (p : Int) : Bool := !(decide (p < -1)) && (!(decide ((ahead.length : Int) ≤ p)) && !(decide (0 ≤ p) && (kindAt ahead p != 1)))
def txtF (n : Nd) : Bool := n.sp == [] && (n.nm == [] && (((n.at_.length : Int) == 0) && (((n.st.length : Int) == 0) && goodB n.tx)))
def elmF (n : Nd) : Bool := n.tx == [] && (!(n.nm == []) && (goodB n.nm && (goodB n.sp && (attrsB n.at_ && statesB n.st))))
def bodyF (n : Nd) : Bool := if n.k = 1 then elmF n else if n.k = 2 then (if n.p < 0 then false else txtF n) else if n.k = 3 then txtF n else false
def nodeF (ahead : List Nd) (n : Nd) : Bool := parOk ahead n.p && bodyF n
def BigN (n : Nd) : Prop := n.at_.length ≤ 140737488355328 ∧ n.st.length ≤ 140737488355328 ∧ n.nm.length ≤ 140737488355328 ∧ n.sp.length ≤ 140737488355328 ∧ n.tx.length ≤ 140737488355328 ∧ ∀ a ∈ n.at_, BigA a
def SmallN (n : Nd) : Prop := n.at_.length ≤ 1000000 ∧ n.st.length ≤ 1000000 ∧ n.nm.length ≤ 1000000 ∧ n.sp.length ≤ 1000000 ∧ n.tx.length ≤ 1000000 ∧ ∀ a ∈ n.at_, SmallA a
theorem kind_at {ahead : List Nd} {p : Int} (h0 : 0 ≤ p) (h1 : p < ahead.length) : ∃ p' k' sp nm la ls tx, (ahead.map Nd.d).getD p.toNat .bad = .agg [.int .i64 p', .int .i64 k', .str sp, .str nm, .list la, .list ls, .str tx] ∧ kindAt ahead p = k' := by
 obtain ⟨x, hx⟩ := some_at (show p.toNat < ahead.length by omega)
 refine ⟨x.p, x.k, x.sp, x.nm, x.at_.map At.d, x.st.map .str, x.tx, getD_map (f := Nd.d) hx, ?_⟩
 unfold kindAt
 rw [hx]
set_option maxHeartbeats 16000000 in
theorem body_L (ahead : List Nd) (n : Nd) (hn : SmallN n) (h : parOk ahead n.p = true) : callL Tryz.prog (ext11b chk) 56 [.list (ahead.map Nd.d), n.d] [] = some (.bool (bodyF n), [.no], []) := by
 obtain ⟨p, k, sp, nm, la, ls, tx⟩ := n
 obtain ⟨s1, s2, s3, s4, s5, s6⟩ := hn
 have q1 := dright_L (chk := chk) nm s3
 have q2 := dright_L (chk := chk) sp s4
 have q3 := dright_L (chk := chk) tx s5
 have q4 := attrs_L (chk := chk) la s1 s6
 have q5 := states_L (chk := chk) ls s2
 have lN := lenM ahead Nd.d
 have lA := lenM la At.d
 have lS := lenM ls D.str
 clear s1 s2 s3 s4 s5 s6
 unfold parOk at h
 simp only [Bool.and_eq_true, Bool.not_eq_eq_eq_not, Bool.not_true, decide_eq_false_iff_not] at h
 obtain ⟨h1, h2, h3⟩ := h
 simp only [bodyF, elmF, txtF, Nd.d]
 generalize goodB nm = e1 at *
 generalize goodB sp = e2 at *
 generalize goodB tx = e3 at *
 generalize attrsB la = e4 at *
 generalize statesB ls = e5 at *
 generalize la.map At.d = LA at *
 generalize ls.map D.str = LS at *
 by_cases h0 : 0 ≤ p
 ·obtain ⟨p', k', sp', nm', la', ls', tx', ha, hk⟩ := kind_at (ahead := ahead) h0 (by omega)
  rw [hk] at h3
  have h5 : ¬ p < 0 := by omega
  have h4 : (k' != 1) = false := by simpa [h0] using h3
  clear h3 hk
  generalize ahead.map Nd.d = AH at *
  have gp : p < AH.length := by omega
  have h2' : ¬ (AH.length : Int) ≤ p := by omega
  clear lN h2
  by_cases k1 : k = 1
  ·subst k1
   cases c1 : (tx == []) with
   | false =>
    refine callK (m := 93) (res := [4]) (rs := [.tmp 4]) rfl Tryz.func56 rfl rfl rfl rfl rfl ?_
    repeat' (first|simp only [*, AVB, ↓reduceIte, Nat.reduceEqDiff, Nat.reduceLT, reduceCtorEq, Nat.reduceBEq, Nat.reduceAdd, dIntBin]|refine drW_intro (by kernel_rfl) ?_|refine gw_intro (fun h => ?_) (fun h => ?_) <;> try simp only [AVH] at h)
   | true =>
    cases c2 : (nm == []) with
    | true =>
     refine callK (m := 93) (res := [4]) (rs := [.tmp 4]) rfl Tryz.func56 rfl rfl rfl rfl rfl ?_
     repeat' (first|simp only [*, AVB, ↓reduceIte, Nat.reduceEqDiff, Nat.reduceLT, reduceCtorEq, Nat.reduceBEq, Nat.reduceAdd, dIntBin]|refine drW_intro (by kernel_rfl) ?_|refine gw_intro (fun h => ?_) (fun h => ?_) <;> try simp only [AVH] at h)
    | false =>
     cases e1 with
     | false =>
      refine callK (m := 93) (res := [4]) (rs := [.tmp 4]) rfl Tryz.func56 rfl rfl rfl rfl rfl ?_
      repeat' (first|simp only [*, AVB, ↓reduceIte, Nat.reduceEqDiff, Nat.reduceLT, reduceCtorEq, Nat.reduceBEq, Nat.reduceAdd, dIntBin]|refine drW_intro (by kernel_rfl) ?_|refine gw_intro (fun h => ?_) (fun h => ?_) <;> try simp only [AVH] at h)
     | true =>
      cases e2 with
      | false =>
       refine callK (m := 93) (res := [4]) (rs := [.tmp 4]) rfl Tryz.func56 rfl rfl rfl rfl rfl ?_
       repeat' (first|simp only [*, AVB, ↓reduceIte, Nat.reduceEqDiff, Nat.reduceLT, reduceCtorEq, Nat.reduceBEq, Nat.reduceAdd, dIntBin]|refine drW_intro (by kernel_rfl) ?_|refine gw_intro (fun h => ?_) (fun h => ?_) <;> try simp only [AVH] at h)
      | true =>
       cases e4 with
       | false =>
        refine callK (m := 93) (res := [4]) (rs := [.tmp 4]) rfl Tryz.func56 rfl rfl rfl rfl rfl ?_
        repeat' (first|simp only [*, AVB, ↓reduceIte, Nat.reduceEqDiff, Nat.reduceLT, reduceCtorEq, Nat.reduceBEq, Nat.reduceAdd, dIntBin]|refine drW_intro (by kernel_rfl) ?_|refine gw_intro (fun h => ?_) (fun h => ?_) <;> try simp only [AVH] at h)
       | true =>
        refine callK (m := 93) (res := [4]) (rs := [.tmp 4]) rfl Tryz.func56 rfl rfl rfl rfl rfl ?_
        repeat' (first|simp only [*, AVB, ↓reduceIte, Nat.reduceEqDiff, Nat.reduceLT, reduceCtorEq, Nat.reduceBEq, Nat.reduceAdd, dIntBin]|refine drW_intro (by kernel_rfl) ?_|refine gw_intro (fun h => ?_) (fun h => ?_) <;> try simp only [AVH] at h)
  ·by_cases k2 : k = 2
   ·subst k2
    cases c1 : (sp == []) with
    | false =>
     refine callK (m := 93) (res := [4]) (rs := [.tmp 4]) rfl Tryz.func56 rfl rfl rfl rfl rfl ?_
     repeat' (first|simp only [*, AVB, ↓reduceIte, Nat.reduceEqDiff, Nat.reduceLT, reduceCtorEq, Nat.reduceBEq, Nat.reduceAdd, Int.reduceBEq, dIntBin]|refine drW_intro (by kernel_rfl) ?_|refine gw_intro (fun h => ?_) (fun h => ?_) <;> try simp only [AVH] at h)
    | true =>
     cases c2 : (nm == []) with
     | false =>
      refine callK (m := 93) (res := [4]) (rs := [.tmp 4]) rfl Tryz.func56 rfl rfl rfl rfl rfl ?_
      repeat' (first|simp only [*, AVB, ↓reduceIte, Nat.reduceEqDiff, Nat.reduceLT, reduceCtorEq, Nat.reduceBEq, Nat.reduceAdd, Int.reduceBEq, dIntBin]|refine drW_intro (by kernel_rfl) ?_|refine gw_intro (fun h => ?_) (fun h => ?_) <;> try simp only [AVH] at h)
     | true =>
      cases c3 : ((la.length : Int) == 0) with
      | false =>
       refine callK (m := 93) (res := [4]) (rs := [.tmp 4]) rfl Tryz.func56 rfl rfl rfl rfl rfl ?_
       repeat' (first|simp only [*, AVB, ↓reduceIte, Nat.reduceEqDiff, Nat.reduceLT, reduceCtorEq, Nat.reduceBEq, Nat.reduceAdd, Int.reduceBEq, dIntBin]|refine drW_intro (by kernel_rfl) ?_|refine gw_intro (fun h => ?_) (fun h => ?_) <;> try simp only [AVH] at h)
      | true =>
       cases c4 : ((ls.length : Int) == 0) with
       | false =>
        refine callK (m := 93) (res := [4]) (rs := [.tmp 4]) rfl Tryz.func56 rfl rfl rfl rfl rfl ?_
        repeat' (first|simp only [*, AVB, ↓reduceIte, Nat.reduceEqDiff, Nat.reduceLT, reduceCtorEq, Nat.reduceBEq, Nat.reduceAdd, Int.reduceBEq, dIntBin]|refine drW_intro (by kernel_rfl) ?_|refine gw_intro (fun h => ?_) (fun h => ?_) <;> try simp only [AVH] at h)
       | true =>
        refine callK (m := 93) (res := [4]) (rs := [.tmp 4]) rfl Tryz.func56 rfl rfl rfl rfl rfl ?_
        repeat' (first|simp only [*, AVB, ↓reduceIte, Nat.reduceEqDiff, Nat.reduceLT, reduceCtorEq, Nat.reduceBEq, Nat.reduceAdd, Int.reduceBEq, dIntBin]|refine drW_intro (by kernel_rfl) ?_|refine gw_intro (fun h => ?_) (fun h => ?_) <;> try simp only [AVH] at h)
   ·by_cases k3 : k = 3
    ·subst k3
     cases c1 : (sp == []) with
     | false =>
      refine callK (m := 93) (res := [4]) (rs := [.tmp 4]) rfl Tryz.func56 rfl rfl rfl rfl rfl ?_
      repeat' (first|simp only [*, AVB, ↓reduceIte, Nat.reduceEqDiff, Nat.reduceLT, reduceCtorEq, Nat.reduceBEq, Nat.reduceAdd, Int.reduceBEq, dIntBin]|refine drW_intro (by kernel_rfl) ?_|refine gw_intro (fun h => ?_) (fun h => ?_) <;> try simp only [AVH] at h)
     | true =>
      cases c2 : (nm == []) with
      | false =>
       refine callK (m := 93) (res := [4]) (rs := [.tmp 4]) rfl Tryz.func56 rfl rfl rfl rfl rfl ?_
       repeat' (first|simp only [*, AVB, ↓reduceIte, Nat.reduceEqDiff, Nat.reduceLT, reduceCtorEq, Nat.reduceBEq, Nat.reduceAdd, Int.reduceBEq, dIntBin]|refine drW_intro (by kernel_rfl) ?_|refine gw_intro (fun h => ?_) (fun h => ?_) <;> try simp only [AVH] at h)
      | true =>
       cases c3 : ((la.length : Int) == 0) with
       | false =>
        refine callK (m := 93) (res := [4]) (rs := [.tmp 4]) rfl Tryz.func56 rfl rfl rfl rfl rfl ?_
        repeat' (first|simp only [*, AVB, ↓reduceIte, Nat.reduceEqDiff, Nat.reduceLT, reduceCtorEq, Nat.reduceBEq, Nat.reduceAdd, Int.reduceBEq, dIntBin]|refine drW_intro (by kernel_rfl) ?_|refine gw_intro (fun h => ?_) (fun h => ?_) <;> try simp only [AVH] at h)
       | true =>
        cases c4 : ((ls.length : Int) == 0) with
        | false =>
         refine callK (m := 93) (res := [4]) (rs := [.tmp 4]) rfl Tryz.func56 rfl rfl rfl rfl rfl ?_
         repeat' (first|simp only [*, AVB, ↓reduceIte, Nat.reduceEqDiff, Nat.reduceLT, reduceCtorEq, Nat.reduceBEq, Nat.reduceAdd, Int.reduceBEq, dIntBin]|refine drW_intro (by kernel_rfl) ?_|refine gw_intro (fun h => ?_) (fun h => ?_) <;> try simp only [AVH] at h)
        | true =>
         refine callK (m := 93) (res := [4]) (rs := [.tmp 4]) rfl Tryz.func56 rfl rfl rfl rfl rfl ?_
         repeat' (first|simp only [*, AVB, ↓reduceIte, Nat.reduceEqDiff, Nat.reduceLT, reduceCtorEq, Nat.reduceBEq, Nat.reduceAdd, Int.reduceBEq, dIntBin]|refine drW_intro (by kernel_rfl) ?_|refine gw_intro (fun h => ?_) (fun h => ?_) <;> try simp only [AVH] at h)
    ·have b1 : (k == 1) = false := by simpa using k1
     have b2 : (k == 2) = false := by simpa using k2
     have b3 : (k == 3) = false := by simpa using k3
     refine callK (m := 93) (res := [4]) (rs := [.tmp 4]) rfl Tryz.func56 rfl rfl rfl rfl rfl ?_
     repeat' (first|simp only [*, AVB, ↓reduceIte, Nat.reduceEqDiff, Nat.reduceLT, reduceCtorEq, Nat.reduceBEq, Nat.reduceAdd, dIntBin]|refine drW_intro (by kernel_rfl) ?_|refine gw_intro (fun h => ?_) (fun h => ?_) <;> try simp only [AVH] at h)
 ·have h5 : p < 0 := by omega
  clear h3
  generalize ahead.map Nd.d = AH at *
  have h2' : ¬ (AH.length : Int) ≤ p := by omega
  clear lN h2
  by_cases k1 : k = 1
  ·subst k1
   cases c1 : (tx == []) with
   | false =>
    refine callK (m := 93) (res := [4]) (rs := [.tmp 4]) rfl Tryz.func56 rfl rfl rfl rfl rfl ?_
    repeat' (first|simp only [*, AVB, ↓reduceIte, Nat.reduceEqDiff, Nat.reduceLT, reduceCtorEq, Nat.reduceBEq, Nat.reduceAdd, dIntBin]|refine drW_intro (by kernel_rfl) ?_|refine gw_intro (fun h => ?_) (fun h => ?_) <;> try simp only [AVH] at h)
   | true =>
    cases c2 : (nm == []) with
    | true =>
     refine callK (m := 93) (res := [4]) (rs := [.tmp 4]) rfl Tryz.func56 rfl rfl rfl rfl rfl ?_
     repeat' (first|simp only [*, AVB, ↓reduceIte, Nat.reduceEqDiff, Nat.reduceLT, reduceCtorEq, Nat.reduceBEq, Nat.reduceAdd, dIntBin]|refine drW_intro (by kernel_rfl) ?_|refine gw_intro (fun h => ?_) (fun h => ?_) <;> try simp only [AVH] at h)
    | false =>
     cases e1 with
     | false =>
      refine callK (m := 93) (res := [4]) (rs := [.tmp 4]) rfl Tryz.func56 rfl rfl rfl rfl rfl ?_
      repeat' (first|simp only [*, AVB, ↓reduceIte, Nat.reduceEqDiff, Nat.reduceLT, reduceCtorEq, Nat.reduceBEq, Nat.reduceAdd, dIntBin]|refine drW_intro (by kernel_rfl) ?_|refine gw_intro (fun h => ?_) (fun h => ?_) <;> try simp only [AVH] at h)
     | true =>
      cases e2 with
      | false =>
       refine callK (m := 93) (res := [4]) (rs := [.tmp 4]) rfl Tryz.func56 rfl rfl rfl rfl rfl ?_
       repeat' (first|simp only [*, AVB, ↓reduceIte, Nat.reduceEqDiff, Nat.reduceLT, reduceCtorEq, Nat.reduceBEq, Nat.reduceAdd, dIntBin]|refine drW_intro (by kernel_rfl) ?_|refine gw_intro (fun h => ?_) (fun h => ?_) <;> try simp only [AVH] at h)
      | true =>
       cases e4 with
       | false =>
        refine callK (m := 93) (res := [4]) (rs := [.tmp 4]) rfl Tryz.func56 rfl rfl rfl rfl rfl ?_
        repeat' (first|simp only [*, AVB, ↓reduceIte, Nat.reduceEqDiff, Nat.reduceLT, reduceCtorEq, Nat.reduceBEq, Nat.reduceAdd, dIntBin]|refine drW_intro (by kernel_rfl) ?_|refine gw_intro (fun h => ?_) (fun h => ?_) <;> try simp only [AVH] at h)
       | true =>
        refine callK (m := 93) (res := [4]) (rs := [.tmp 4]) rfl Tryz.func56 rfl rfl rfl rfl rfl ?_
        repeat' (first|simp only [*, AVB, ↓reduceIte, Nat.reduceEqDiff, Nat.reduceLT, reduceCtorEq, Nat.reduceBEq, Nat.reduceAdd, dIntBin]|refine drW_intro (by kernel_rfl) ?_|refine gw_intro (fun h => ?_) (fun h => ?_) <;> try simp only [AVH] at h)
  ·by_cases k2 : k = 2
   ·subst k2
    refine callK (m := 93) (res := [4]) (rs := [.tmp 4]) rfl Tryz.func56 rfl rfl rfl rfl rfl ?_
    repeat' (first|simp only [*, AVB, ↓reduceIte, Nat.reduceEqDiff, Nat.reduceLT, reduceCtorEq, Nat.reduceBEq, Nat.reduceAdd, Int.reduceBEq, dIntBin]|refine drW_intro (by kernel_rfl) ?_|refine gw_intro (fun h => ?_) (fun h => ?_) <;> try simp only [AVH] at h)
   ·by_cases k3 : k = 3
    ·subst k3
     cases c1 : (sp == []) with
     | false =>
      refine callK (m := 93) (res := [4]) (rs := [.tmp 4]) rfl Tryz.func56 rfl rfl rfl rfl rfl ?_
      repeat' (first|simp only [*, AVB, ↓reduceIte, Nat.reduceEqDiff, Nat.reduceLT, reduceCtorEq, Nat.reduceBEq, Nat.reduceAdd, Int.reduceBEq, dIntBin]|refine drW_intro (by kernel_rfl) ?_|refine gw_intro (fun h => ?_) (fun h => ?_) <;> try simp only [AVH] at h)
     | true =>
      cases c2 : (nm == []) with
      | false =>
       refine callK (m := 93) (res := [4]) (rs := [.tmp 4]) rfl Tryz.func56 rfl rfl rfl rfl rfl ?_
       repeat' (first|simp only [*, AVB, ↓reduceIte, Nat.reduceEqDiff, Nat.reduceLT, reduceCtorEq, Nat.reduceBEq, Nat.reduceAdd, Int.reduceBEq, dIntBin]|refine drW_intro (by kernel_rfl) ?_|refine gw_intro (fun h => ?_) (fun h => ?_) <;> try simp only [AVH] at h)
      | true =>
       cases c3 : ((la.length : Int) == 0) with
       | false =>
        refine callK (m := 93) (res := [4]) (rs := [.tmp 4]) rfl Tryz.func56 rfl rfl rfl rfl rfl ?_
        repeat' (first|simp only [*, AVB, ↓reduceIte, Nat.reduceEqDiff, Nat.reduceLT, reduceCtorEq, Nat.reduceBEq, Nat.reduceAdd, Int.reduceBEq, dIntBin]|refine drW_intro (by kernel_rfl) ?_|refine gw_intro (fun h => ?_) (fun h => ?_) <;> try simp only [AVH] at h)
       | true =>
        cases c4 : ((ls.length : Int) == 0) with
        | false =>
         refine callK (m := 93) (res := [4]) (rs := [.tmp 4]) rfl Tryz.func56 rfl rfl rfl rfl rfl ?_
         repeat' (first|simp only [*, AVB, ↓reduceIte, Nat.reduceEqDiff, Nat.reduceLT, reduceCtorEq, Nat.reduceBEq, Nat.reduceAdd, Int.reduceBEq, dIntBin]|refine drW_intro (by kernel_rfl) ?_|refine gw_intro (fun h => ?_) (fun h => ?_) <;> try simp only [AVH] at h)
        | true =>
         refine callK (m := 93) (res := [4]) (rs := [.tmp 4]) rfl Tryz.func56 rfl rfl rfl rfl rfl ?_
         repeat' (first|simp only [*, AVB, ↓reduceIte, Nat.reduceEqDiff, Nat.reduceLT, reduceCtorEq, Nat.reduceBEq, Nat.reduceAdd, Int.reduceBEq, dIntBin]|refine drW_intro (by kernel_rfl) ?_|refine gw_intro (fun h => ?_) (fun h => ?_) <;> try simp only [AVH] at h)
    ·have b1 : (k == 1) = false := by simpa using k1
     have b2 : (k == 2) = false := by simpa using k2
     have b3 : (k == 3) = false := by simpa using k3
     refine callK (m := 93) (res := [4]) (rs := [.tmp 4]) rfl Tryz.func56 rfl rfl rfl rfl rfl ?_
     repeat' (first|simp only [*, AVB, ↓reduceIte, Nat.reduceEqDiff, Nat.reduceLT, reduceCtorEq, Nat.reduceBEq, Nat.reduceAdd, dIntBin]|refine drW_intro (by kernel_rfl) ?_|refine gw_intro (fun h => ?_) (fun h => ?_) <;> try simp only [AVH] at h)
theorem par_L (ahead : List Nd) (n : Nd) (h : parOk ahead n.p = false) : callL Tryz.prog (ext11b chk) 56 [.list (ahead.map Nd.d), n.d] [] = some (.bool false, [.no], []) := by
 obtain ⟨p, k, sp, nm, la, ls, tx⟩ := n
 have lN := lenM ahead Nd.d
 unfold parOk at h
 simp only [Nd.d]
 simp only [] at h
 generalize la.map At.d = LA at *
 generalize ls.map D.str = LS at *
 by_cases h1 : p < -1
 ·generalize ahead.map Nd.d = AH at *
  clear lN h
  refine callK (m := 93) (res := [4]) (rs := [.tmp 4]) rfl Tryz.func56 rfl rfl rfl rfl rfl ?_
  repeat' (first|simp only [*, AVB, ↓reduceIte, Nat.reduceEqDiff, Nat.reduceLT, Nat.reduceAdd, dIntBin]|refine drW_intro (by kernel_rfl) ?_|refine gw_intro (fun h => ?_) (fun h => ?_) <;> try simp only [AVH] at h)
 ·by_cases h2 : (ahead.length : Int) ≤ p
  ·generalize ahead.map Nd.d = AH at *
   have h2' : (AH.length : Int) ≤ p := by omega
   clear lN h h2
   refine callK (m := 93) (res := [4]) (rs := [.tmp 4]) rfl Tryz.func56 rfl rfl rfl rfl rfl ?_
   repeat' (first|simp only [*, AVB, ↓reduceIte, Nat.reduceEqDiff, Nat.reduceLT, reduceCtorEq, Nat.reduceAdd, dIntBin]|refine drW_intro (by kernel_rfl) ?_|refine gw_intro (fun h => ?_) (fun h => ?_) <;> try simp only [AVH] at h)
  ·by_cases h0 : 0 ≤ p
   ·obtain ⟨p', k', sp', nm', la', ls', tx', ha, hk⟩ := kind_at (ahead := ahead) h0 (by omega)
    rw [hk] at h
    have h4 : (k' != 1) = true := by simpa [h0, h1, h2] using h
    generalize ahead.map Nd.d = AH at *
    have gp : p < AH.length := by omega
    have h2' : ¬ (AH.length : Int) ≤ p := by omega
    clear lN h2 h hk
    refine callK (m := 93) (res := [4]) (rs := [.tmp 4]) rfl Tryz.func56 rfl rfl rfl rfl rfl ?_
    repeat' (first|simp only [*, AVB, ↓reduceIte, Nat.reduceEqDiff, Nat.reduceLT, reduceCtorEq, Nat.reduceAdd, dIntBin]|refine drW_intro (by kernel_rfl) ?_|refine gw_intro (fun h => ?_) (fun h => ?_) <;> try simp only [AVH] at h)
   ·simp [h0, h1, h2] at h
theorem node_L (ahead : List Nd) (n : Nd) (hn : SmallN n) : callL Tryz.prog (ext11b chk) 56 [.list (ahead.map Nd.d), n.d] [] = some (.bool (nodeF ahead n), [.no], []) := by
 unfold nodeF
 cases h : parOk ahead n.p with
 | true => rw [Bool.true_and]; exact body_L ahead n hn h
 | false => rw [Bool.false_and]; exact par_L ahead n h
end Go.Av
namespace Go.Av
open Go.Proofs
variable [Rk] {chk : List D → Bool}
theorem take_at {α : Type} {xs : List α} {i j : Nat} (h : j < i) : (xs.take i)[j]? = xs[j]? := by
 rw [List.getElem?_take, if_pos h]
theorem rpar_L (ahead : List Nd) (n : Nd) (h : parOk ahead n.p = false) : callL Tryz.prog (ext11b chk) 26 [.list (ahead.map Nd.d), n.d] [] = some (.bool false, [.no], []) := by
 obtain ⟨p, k, sp, nm, la, ls, tx⟩ := n
 have lN := lenM ahead Nd.d
 unfold parOk at h
 simp only [Nd.d]
 simp only [] at h
 generalize la.map At.d = LA at *
 generalize ls.map D.str = LS at *
 by_cases h1 : p < -1
 ·generalize ahead.map Nd.d = AH at *
  clear lN h
  refine callK (m := 185) (res := [4]) (rs := [.tmp 4]) rfl Tryz.func26 rfl rfl rfl rfl rfl ?_
  repeat' (first|simp only [*, AVB, ↓reduceIte, Nat.reduceEqDiff, Nat.reduceLT, Nat.reduceAdd, dIntBin]|refine drW_intro (by kernel_rfl) ?_|refine gw_intro (fun h => ?_) (fun h => ?_) <;> try simp only [AVH] at h)
 ·by_cases h2 : (ahead.length : Int) ≤ p
  ·generalize ahead.map Nd.d = AH at *
   have h2' : (AH.length : Int) ≤ p := by omega
   clear lN h h2
   refine callK (m := 185) (res := [4]) (rs := [.tmp 4]) rfl Tryz.func26 rfl rfl rfl rfl rfl ?_
   repeat' (first|simp only [*, AVB, ↓reduceIte, Nat.reduceEqDiff, Nat.reduceLT, reduceCtorEq, Nat.reduceAdd, dIntBin]|refine drW_intro (by kernel_rfl) ?_|refine gw_intro (fun h => ?_) (fun h => ?_) <;> try simp only [AVH] at h)
  ·by_cases h0 : 0 ≤ p
   ·obtain ⟨p', k', sp', nm', la', ls', tx', ha, hk⟩ := kind_at (ahead := ahead) h0 (by omega)
    rw [hk] at h
    have h4 : (k' != 1) = true := by simpa [h0, h1, h2] using h
    generalize ahead.map Nd.d = AH at *
    have gp : p < AH.length := by omega
    have h2' : ¬ (AH.length : Int) ≤ p := by omega
    clear lN h2 h hk
    refine callK (m := 185) (res := [4]) (rs := [.tmp 4]) rfl Tryz.func26 rfl rfl rfl rfl rfl ?_
    repeat' (first|simp only [*, AVB, ↓reduceIte, Nat.reduceEqDiff, Nat.reduceLT, reduceCtorEq, Nat.reduceAdd, dIntBin]|refine drW_intro (by kernel_rfl) ?_|refine gw_intro (fun h => ?_) (fun h => ?_) <;> try simp only [AVH] at h)
   ·simp [h0, h1, h2] at h
set_option maxHeartbeats 64000000 in
theorem relm1_L (AH : List D) (p : Int) (sp nm : List UInt8) (la : List At) (ls : List (List UInt8)) (tx : List UInt8) (hn : BigN ⟨p, 1, sp, nm, la, ls, tx⟩) (h1 : ¬ p < -1) (h2' : ¬ (AH.length : Int) ≤ p) (h0 : 0 ≤ p) (gp : p < AH.length) (p' k' : Int) (sp' nm' : List UInt8) (la' ls' : List D) (tx' : List UInt8) (ha : AH.getD p.toNat .bad = .agg [.int .i64 p', .int .i64 k', .str sp', .str nm', .list la', .list ls', .str tx']) (h4 : (k' != 1) = false) :
  callL Tryz.prog (ext11b chk) 26 [.list AH, .agg [.int .i64 p, .int .i64 1, .str sp, .str nm, .list (la.map At.d), .list (ls.map D.str), .str tx]] [] = some (.bool (elmF ⟨p, 1, sp, nm, la, ls, tx⟩), [.no], []) := by
 obtain ⟨s1, s2, s3, s4, s5, s6⟩ := hn
 have q1 := rright_L (chk := chk) nm s3
 have q2 := rright_L (chk := chk) sp s4
 clear s3 s4 s5
 have lA := lenM la At.d
 have lS := lenM ls D.str
 simp only [elmF]
 have H1 := Hd.mk s1
 have H2 := Hd.mk s2
 have H6 := Hd.mk s6
 clear s1 s2 s6
 cases c1 : (tx == []) with
 | false =>
  generalize la.map At.d = LA at *
  generalize ls.map D.str = LS at *
  generalize goodB nm = e1 at *
  generalize goodB sp = e2 at *
  refine callK (m := 185) (res := [4]) (rs := [.tmp 4]) rfl Tryz.func26 rfl rfl rfl rfl rfl ?_
  repeat' (first|simp only [*, AVB, ↓reduceIte, Nat.reduceEqDiff, Nat.reduceLT, reduceCtorEq, Nat.reduceAdd, Int.reduceBEq, Int.reduceBNe, dIntBin]|refine drW_intro (by kernel_rfl) ?_|refine gw_intro (fun h => ?_) (fun h => ?_) <;> try simp only [AVH] at h)
 | true =>
  have htx : tx = [] := by simpa using c1
  subst htx
  clear c1
  cases c2 : (nm == []) with
  | true =>
   generalize la.map At.d = LA at *
   generalize ls.map D.str = LS at *
   generalize goodB nm = e1 at *
   generalize goodB sp = e2 at *
   refine callK (m := 185) (res := [4]) (rs := [.tmp 4]) rfl Tryz.func26 rfl rfl rfl rfl rfl ?_
   repeat' (first|simp only [*, AVB, ↓reduceIte, Nat.reduceEqDiff, Nat.reduceLT, reduceCtorEq, Nat.reduceAdd, Int.reduceBEq, Int.reduceBNe, dIntBin]|refine drW_intro (by kernel_rfl) ?_|refine gw_intro (fun h => ?_) (fun h => ?_) <;> try simp only [AVH] at h)
  | false =>
   cases c3 : goodB nm with
   | false =>
    rw [c3] at q1
    generalize la.map At.d = LA at *
    generalize ls.map D.str = LS at *
    refine callK (m := 185) (res := [4]) (rs := [.tmp 4]) rfl Tryz.func26 rfl rfl rfl rfl rfl ?_
    repeat' (first|simp only [*, AVB, ↓reduceIte, Nat.reduceEqDiff, Nat.reduceLT, reduceCtorEq, Nat.reduceAdd, Int.reduceBEq, Int.reduceBNe, dIntBin]|refine drW_intro (by kernel_rfl) ?_|refine gw_intro (fun h => ?_) (fun h => ?_) <;> try simp only [AVH] at h)
   | true =>
    cases c4 : goodB sp with
    | false =>
     rw [c3] at q1
     rw [c4] at q2
     generalize la.map At.d = LA at *
     generalize ls.map D.str = LS at *
     refine callK (m := 185) (res := [4]) (rs := [.tmp 4]) rfl Tryz.func26 rfl rfl rfl rfl rfl ?_
     repeat' (first|simp only [*, AVB, ↓reduceIte, Nat.reduceEqDiff, Nat.reduceLT, reduceCtorEq, Nat.reduceAdd, Int.reduceBEq, Int.reduceBNe, dIntBin]|refine drW_intro (by kernel_rfl) ?_|refine gw_intro (fun h => ?_) (fun h => ?_) <;> try simp only [AVH] at h)
    | true =>
     rw [c3] at q1
     rw [c4] at q2
     clear c3 c4
     obtain ⟨R, hR⟩ : ∃ R, Hd (R = (attrsG (la.take 0) (la.drop 0) && statesB ls)) := ⟨_, rfl⟩
     rw [show (true && (!false && (true && (true && (attrsB la && statesB ls))))) = R from (show R = (attrsG (la.take 0) (la.drop 0) && statesB ls) from hR).symm]
     have b22 : ((1 : Int) == 2) = false := rfl
     have b33 : ((1 : Int) == 3) = false := rfl
     have b11 : ((1 : Int) != 1) = false := rfl
     refine callK (m := 185) (res := [4]) (rs := [.tmp 4]) rfl Tryz.func26 rfl rfl rfl rfl rfl ?_
     repeat' (first|simp only [*, AVB, ↓reduceIte, Nat.reduceEqDiff, Nat.reduceLT, reduceCtorEq, Nat.reduceAdd, dIntBin]|refine drW_intro (by kernel_rfl) ?_|refine gw_intro (fun h => ?_) (fun h => ?_) <;> try simp only [AVH] at h)
     clear c2 q1 q2 h1 h2' h0 gp ha h4
     refine loopH (fun st => ∃ i : Nat, i ≤ la.length ∧ st.slot 5 = .int .i64 i ∧ st.slot 0 = .list AH ∧ st.slot 3 = .ptr 3 1 0 ∧ st.box 3 = some ⟨1, [.int .i64 p, .int .i64 1, .str sp, .str nm, .list (la.map At.d), .list (ls.map D.str), .str []], [.no, .no, .no, .no, .no, .no, .no]⟩ ∧ st.slot 4 = .bool false ∧ st.room 4 = [] ∧ Hd (R = (attrsG (la.take i) (la.drop i) && statesB ls))) (fun st => la.length - slotI st 5) ?_ ?_
     ·refine ⟨0, Nat.zero_le _, ?_, ?_, ?_, ?_, ?_, ?_, hR⟩
      all_goals simp only [*, AVB, ↓reduceIte, Nat.reduceEqDiff, reduceCtorEq]
      all_goals rfl
     ·rintro st K ⟨i, hi, g5, g0, g3, gb, g4, gr, hO⟩ hn hx hr
      have hl : la.length ≤ 140737488355328 := H1
      have hO' : R = (attrsG (la.take i) (la.drop i) && statesB ls) := hO
      clear hO
      by_cases h : i < la.length
      ·have g9 : (i : Int) < la.length := by omega
       have hw := wrapS i (by omega)
       obtain ⟨x, hx1⟩ := some_at h
       obtain ⟨s1, s2, s3⟩ : BigA x := (show ∀ a ∈ la, BigA a from H6) x (List.mem_of_getElem? hx1)
       rw [attrsG_at hx1] at hO'
       have ha := getD_map (f := At.d) hx1
       obtain ⟨a1, a2, a3⟩ := x
       have ha2 : (la.map At.d).getD i .bad = .agg [.str a1, .str a2, .str a3] := ha
       clear ha hx1
       have r1 := rright_L (chk := chk) a1 s1
       have r2 := rright_L (chk := chk) a2 s2
       have r3 := rright_L (chk := chk) a3 s3
       simp only [atOk] at hO'
       generalize hrest : (attrsG (la.take (i + 1)) (la.drop (i + 1)) && statesB ls) = rest at *
       rw [Bool.and_assoc, hrest] at hO'
       have HREST := Hd.mk hrest
       clear hrest s1 s2 s3
       cases f0 : (a2 == []) with
       | true =>
        rw [f0] at hO'
        simp only [Bool.not_true, Bool.false_and] at hO'
        subst hO'
        generalize goodB a1 = e1 at *
        generalize goodB a2 = e2 at *
        generalize goodB a3 = e3 at *
        clear hn hx hl hR HREST
        repeat' (first|simp only [*, AVB, ↓reduceIte, Nat.reduceEqDiff, Nat.reduceLT, Nat.reduceLeDiff, Nat.reduceBEq, Nat.reduceAdd, dIntBin]|refine drW_intro (by kernel_rfl) ?_|refine gw_intro (fun h => ?_) (fun h => ?_) <;> try simp only [AVH] at h)
        refine hr _ ?_
        repeat' (first|simp only [*, AVB, ↓reduceIte]|refine drW_intro (by kernel_rfl) ?_|refine gw_intro (fun h => ?_) (fun h => ?_) <;> try simp only [AVH] at h)
       | false =>
        rw [f0] at hO'
        cases e2 : goodB a2 with
        | false =>
         rw [e2] at hO' r2
         simp only [Bool.not_false, Bool.false_and, Bool.and_false] at hO'
         subst hO'
         generalize goodB a1 = e1 at *
         generalize goodB a3 = e3 at *
         clear hn hx hl hR HREST
         repeat' (first|simp only [*, AVB, ↓reduceIte, Nat.reduceEqDiff, Nat.reduceLT, Nat.reduceLeDiff, Nat.reduceBEq, Nat.reduceAdd, dIntBin]|refine drW_intro (by kernel_rfl) ?_|refine gw_intro (fun h => ?_) (fun h => ?_) <;> try simp only [AVH] at h)
         refine hr _ ?_
         repeat' (first|simp only [*, AVB, ↓reduceIte]|refine drW_intro (by kernel_rfl) ?_|refine gw_intro (fun h => ?_) (fun h => ?_) <;> try simp only [AVH] at h)
        | true =>
         cases e1 : goodB a1 with
         | false =>
          rw [e1] at hO' r1
          rw [e2] at r2
          simp only [Bool.not_false, Bool.false_and, Bool.and_false] at hO'
          subst hO'
          generalize goodB a3 = e3 at *
          clear hn hx hl hR HREST
          repeat' (first|simp only [*, AVB, ↓reduceIte, Nat.reduceEqDiff, Nat.reduceLT, Nat.reduceLeDiff, Nat.reduceBEq, Nat.reduceAdd, dIntBin]|refine drW_intro (by kernel_rfl) ?_|refine gw_intro (fun h => ?_) (fun h => ?_) <;> try simp only [AVH] at h)
          refine hr _ ?_
          repeat' (first|simp only [*, AVB, ↓reduceIte]|refine drW_intro (by kernel_rfl) ?_|refine gw_intro (fun h => ?_) (fun h => ?_) <;> try simp only [AVH] at h)
         | true =>
          cases e3 : goodB a3 with
          | false =>
           rw [e3] at hO' r3
           rw [e2] at r2
           rw [e1] at r1
           simp only [Bool.not_false, Bool.false_and, Bool.and_false] at hO'
           subst hO'
           clear hn hx hl hR HREST
           repeat' (first|simp only [*, AVB, ↓reduceIte, Nat.reduceEqDiff, Nat.reduceLT, Nat.reduceLeDiff, Nat.reduceBEq, Nat.reduceAdd, dIntBin]|refine drW_intro (by kernel_rfl) ?_|refine gw_intro (fun h => ?_) (fun h => ?_) <;> try simp only [AVH] at h)
           refine hr _ ?_
           repeat' (first|simp only [*, AVB, ↓reduceIte]|refine drW_intro (by kernel_rfl) ?_|refine gw_intro (fun h => ?_) (fun h => ?_) <;> try simp only [AVH] at h)
          | true =>
           rw [e1] at r1 hO'
           rw [e2] at r2 hO'
           rw [e3] at r3 hO'
           simp only [Bool.not_false, Bool.true_and] at hO'
           have HO : Hd (R = (!(((la.take i).drop 0).any (sameN a1 a2)) && rest)) := hO'
           clear hO' hx e1 e2 e3
           repeat' (first|simp only [*, AVB, ↓reduceIte, Nat.reduceEqDiff, Nat.reduceLT, Nat.reduceLeDiff, Nat.reduceBEq, Nat.reduceAdd, dIntBin]|refine drW_intro (by kernel_rfl) ?_|refine gw_intro (fun h => ?_) (fun h => ?_) <;> try simp only [AVH] at h)
           clear r1 r2 r3 f0 ha2
           have HI := Hd.mk h
           have G5 := Hd.mk g5
           clear h g9 hl
           refine loopH (fun st' => ∃ j g : Nat, j ≤ i ∧ st'.slot 7 = .int .i64 j ∧ st'.slot 5 = .int .i64 i ∧ st'.slot 0 = .list AH ∧ st'.slot 3 = .ptr 3 1 0 ∧ st'.box 3 = some ⟨1, [.int .i64 p, .int .i64 1, .str sp, .str nm, .list (la.map At.d), .list (ls.map D.str), .str []], [.no, .no, .no, .no, .no, .no, .no]⟩ ∧ st'.slot 6 = .ptr 6 g 0 ∧ st'.box 6 = some ⟨g, [.str a1, .str a2, .str a3], [.no, .no, .no]⟩ ∧ st'.slot 4 = .bool false ∧ st'.room 4 = [] ∧ Hd (R = (!(((la.take i).drop j).any (sameN a1 a2)) && rest))) (fun st' => i - slotI st' 7) ?_ ?_
           ·refine ⟨0, st.ctr 6, Nat.zero_le _, ?_, ?_, ?_, ?_, ?_, ?_, ?_, ?_, ?_, HO⟩
            all_goals simp only [*, AVB, ↓reduceIte, Nat.reduceEqDiff, reduceCtorEq]
            all_goals rfl
           ·clear g5 g0 g3 gb g4 gr
            rintro st' K' ⟨j, g, hj, j7, j5, j0, j3, jb3, j6, jb6, j4, jr, hO2⟩ hn2 hx2 hr2
            have hi2 : i < la.length := HI
            have hl : la.length ≤ 140737488355328 := H1
            have hO3 : R = (!(((la.take i).drop j).any (sameN a1 a2)) && rest) := hO2
            clear hO2
            by_cases h : j < i
            ·have m9 : (j : Int) < i := by omega
             have m8 : (j : Int) < la.length := by omega
             have hw2 := wrapS j (by omega)
             obtain ⟨y, hy1⟩ := some_at (show j < la.length by omega)
             rw [any_drop (sameN a1 a2) (by rw [take_at h]; exact hy1)] at hO3
             have hb := getD_map (f := At.d) hy1
             obtain ⟨b1, b2, b3⟩ := y
             have hb2 : (la.map At.d).getD j .bad = .agg [.str b1, .str b2, .str b3] := hb
             clear hb hy1 hi2
             simp only [sameN] at hO3
             cases d2 : (b2 == a2) with
             | false =>
              rw [d2] at hO3
              simp only [Bool.and_false, Bool.false_or] at hO3
              have HO4 : Hd (R = (!(((la.take i).drop (j + 1)).any (sameN a1 a2)) && rest)) := hO3
              clear hO3 hr2 hx2 hn hr hl
              repeat' (first|simp only [*, AVB, ↓reduceIte, Nat.reduceEqDiff, Nat.reduceLT, Nat.reduceBEq, Nat.reduceAdd, dIntBin]|refine drW_intro (by kernel_rfl) ?_|refine gw_intro (fun h => ?_) (fun h => ?_) <;> try simp only [AVH] at h)
              refine hn2 _ ⟨j + 1, g, h, ?_, ?_, ?_, ?_, ?_, ?_, ?_, ?_, ?_, HO4⟩ ?_
              ·simp only [*, AVL, ↓reduceIte]
              ·simp only [*, AVL, ↓reduceIte, Nat.reduceEqDiff]
              ·simp only [*, AVL, ↓reduceIte, reduceCtorEq]
              ·simp only [*, AVL, ↓reduceIte, Nat.reduceEqDiff]
              ·simp only [*, AVL]
              ·simp only [*, AVL, ↓reduceIte, Nat.reduceEqDiff]
              ·simp only [*, AVL]
              ·simp only [*, AVL, ↓reduceIte, Nat.reduceEqDiff]
              ·simp only [*, AVL, ↓reduceIte, Nat.reduceEqDiff]
              ·simp only [slotI, *, AVB, ↓reduceIte]
               omega
             | true =>
              cases d1 : (b1 == a1) with
              | false =>
               rw [d1] at hO3
               simp only [Bool.false_and, Bool.false_or] at hO3
               have HO4 : Hd (R = (!(((la.take i).drop (j + 1)).any (sameN a1 a2)) && rest)) := hO3
               clear hO3 hr2 hx2 hn hr hl
               repeat' (first|simp only [*, AVB, ↓reduceIte, Nat.reduceEqDiff, Nat.reduceLT, Nat.reduceBEq, Nat.reduceAdd, dIntBin]|refine drW_intro (by kernel_rfl) ?_|refine gw_intro (fun h => ?_) (fun h => ?_) <;> try simp only [AVH] at h)
               refine hn2 _ ⟨j + 1, g, h, ?_, ?_, ?_, ?_, ?_, ?_, ?_, ?_, ?_, HO4⟩ ?_
               ·simp only [*, AVL, ↓reduceIte]
               ·simp only [*, AVL, ↓reduceIte, Nat.reduceEqDiff]
               ·simp only [*, AVL, ↓reduceIte, reduceCtorEq]
               ·simp only [*, AVL, ↓reduceIte, Nat.reduceEqDiff]
               ·simp only [*, AVL]
               ·simp only [*, AVL, ↓reduceIte, Nat.reduceEqDiff]
               ·simp only [*, AVL]
               ·simp only [*, AVL, ↓reduceIte, Nat.reduceEqDiff]
               ·simp only [*, AVL, ↓reduceIte, Nat.reduceEqDiff]
               ·simp only [slotI, *, AVB, ↓reduceIte]
                omega
              | true =>
               rw [d1, d2] at hO3
               simp only [Bool.and_true, Bool.true_or, Bool.not_true, Bool.false_and] at hO3
               subst hO3
               clear hn2 hx2 hR hn hl HREST
               repeat' (first|simp only [*, AVB, ↓reduceIte, Nat.reduceEqDiff, Nat.reduceLT, Nat.reduceBEq, Nat.reduceAdd, dIntBin]|refine drW_intro (by kernel_rfl) ?_|refine gw_intro (fun h => ?_) (fun h => ?_) <;> try simp only [AVH] at h)
               refine hr2 _ ?_
               refine hr _ ?_
               repeat' (first|simp only [*, AVB, ↓reduceIte]|refine drW_intro (by kernel_rfl) ?_|refine gw_intro (fun h => ?_) (fun h => ?_) <;> try simp only [AVH] at h)
            ·have m9 : ¬ (j : Int) < i := by omega
             rw [any_end (sameN a1 a2) (by rw [List.length_take]; omega)] at hO3
             simp only [Bool.not_false, Bool.true_and] at hO3
             have HO4 : Hd (R = (attrsG (la.take (i + 1)) (la.drop (i + 1)) && statesB ls)) := by
              have e : (attrsG (la.take (i + 1)) (la.drop (i + 1)) && statesB ls) = rest := HREST
              rw [e]
              exact hO3
             clear hO3 hr2 hn2 hr hl
             repeat' (first|simp only [*, AVB, ↓reduceIte, Nat.reduceEqDiff, Nat.reduceLT, Nat.reduceBEq, dIntBin]|refine drW_intro (by kernel_rfl) ?_|refine gw_intro (fun h => ?_) (fun h => ?_) <;> try simp only [AVH] at h)
             refine hx2 _ _ ?_
             repeat' (first|simp only [*, AVB, ↓reduceIte, Nat.reduceEqDiff, Nat.reduceLT, Nat.reduceBEq, dIntBin]|refine drW_intro (by kernel_rfl) ?_|refine gw_intro (fun h => ?_) (fun h => ?_) <;> try simp only [AVH] at h)
             refine hn _ ⟨i + 1, hi2, ?_, ?_, ?_, ?_, ?_, ?_, HO4⟩ ?_
             ·simp only [*, AVL, ↓reduceIte]
             ·simp only [*, AVL, ↓reduceIte, reduceCtorEq]
             ·simp only [*, AVL, ↓reduceIte, Nat.reduceEqDiff]
             ·simp only [*, AVL]
             ·simp only [*, AVL, ↓reduceIte, Nat.reduceEqDiff]
             ·simp only [*, AVL, ↓reduceIte, Nat.reduceEqDiff]
             ·have g5 : st.slot 5 = .int .i64 i := G5
              simp only [slotI, *, AVB, ↓reduceIte]
              omega
      ·have g9 : ¬ (i : Int) < la.length := by omega
       rw [attrsG_end (by omega), Bool.true_and] at hO'
       have HO : Hd (R = statesG (ls.take 0) (ls.drop 0)) := hO'
       clear hO' hn hr hl hR
       repeat' (first|simp only [*, AVB, ↓reduceIte, Nat.reduceEqDiff, Nat.reduceLT, Nat.reduceBEq, dIntBin]|refine drW_intro (by kernel_rfl) ?_|refine gw_intro (fun h => ?_) (fun h => ?_) <;> try simp only [AVH] at h)
       refine hx _ _ ?_
       repeat' (first|simp only [*, AVB, ↓reduceIte, Nat.reduceLT]|refine drW_intro (by kernel_rfl) ?_|refine gw_intro (fun h => ?_) (fun h => ?_) <;> try simp only [AVH] at h)
       have HX := Hd.mk hx
       clear hx g9 h hi
       refine loopH (fun st' => ∃ j : Nat, j ≤ ls.length ∧ st'.slot 8 = .int .i64 j ∧ st'.slot 0 = .list AH ∧ st'.slot 3 = .ptr 3 1 0 ∧ st'.box 3 = some ⟨1, [.int .i64 p, .int .i64 1, .str sp, .str nm, .list (la.map At.d), .list (ls.map D.str), .str []], [.no, .no, .no, .no, .no, .no, .no]⟩ ∧ st'.slot 4 = .bool false ∧ st'.room 4 = [] ∧ Hd (R = statesG (ls.take j) (ls.drop j))) (fun st' => ls.length - slotI st' 8) ?_ ?_
       ·refine ⟨0, Nat.zero_le _, ?_, ?_, ?_, ?_, ?_, ?_, HO⟩
        all_goals simp only [*, AVB, ↓reduceIte, Nat.reduceEqDiff, reduceCtorEq]
        all_goals rfl
       ·clear g5 g0 g3 gb g4 gr
        rintro st' K' ⟨j, hj, g8, g0, g3, gb, g4, gr, hO2⟩ hn hx hr
        have hl2 : ls.length ≤ 140737488355328 := H2
        have hO3 : R = statesG (ls.take j) (ls.drop j) := hO2
        clear hO2
        by_cases h : j < ls.length
        ·have g9 : (j : Int) < ls.length := by omega
         have hw := wrapS j (by omega)
         obtain ⟨x, hx1⟩ := some_at h
         rw [statesG_at hx1] at hO3
         have ha := getD_map (f := D.str) hx1
         have u1 := rstate_L (chk := chk) x
         have u2 : callL Tryz.prog (ext11b chk) 42 [.list ((ls.map D.str).take j), .str x] [] = some (.bool ((ls.take j).contains x), [.no], []) := by
          rw [← List.map_take]
          exact has_L (ls.take j) x (by rw [List.length_take]; omega)
         have sz := szS ls
         have gle : (j : Int) ≤ ls.length := by omega
         generalize (ls.take j).contains x = e5 at *
         generalize stS.contains x = e1 at *
         cases e1 with
         | false =>
          simp only [Bool.false_and] at hO3
          subst hO3
          clear hn hx hl2 hx1 sz
          repeat' (first|simp only [*, AVB, ↓reduceIte, Nat.reduceEqDiff, Nat.reduceLT, Nat.reduceBEq, dIntBin]|refine drW_intro (by kernel_rfl) ?_|refine gw_intro (fun h => ?_) (fun h => ?_) <;> try simp only [AVH] at h)
          refine hr _ ?_
          repeat' (first|simp only [*, AVB, ↓reduceIte]|refine drW_intro (by kernel_rfl) ?_|refine gw_intro (fun h => ?_) (fun h => ?_) <;> try simp only [AVH] at h)
         | true =>
          cases e5 with
          | true =>
           simp only [Bool.not_true, Bool.false_and, Bool.true_and] at hO3
           subst hO3
           clear hn hx hl2 hx1
           repeat' (first|simp only [*, AVB, ↓reduceIte, Nat.reduceEqDiff, Nat.reduceLT, Nat.reduceBEq, dIntBin]|refine drW_intro (by kernel_rfl) ?_|refine gw_intro (fun h => ?_) (fun h => ?_) <;> try simp only [AVH] at h)
           refine hr _ ?_
           repeat' (first|simp only [*, AVB, ↓reduceIte]|refine drW_intro (by kernel_rfl) ?_|refine gw_intro (fun h => ?_) (fun h => ?_) <;> try simp only [AVH] at h)
          | false =>
           simp only [Bool.not_false, Bool.true_and] at hO3
           have HO3 := Hd.mk hO3
           clear hO3 hx hr hl2 hx1
           repeat' (first|simp only [*, AVB, ↓reduceIte, Nat.reduceEqDiff, Nat.reduceLT, Nat.reduceBEq, dIntBin]|refine drW_intro (by kernel_rfl) ?_|refine gw_intro (fun h => ?_) (fun h => ?_) <;> try simp only [AVH] at h)
           refine hn _ ⟨j + 1, h, ?_, ?_, ?_, ?_, ?_, ?_, HO3⟩ ?_
           ·simp only [*, AVL, ↓reduceIte]
           ·simp only [*, AVL, ↓reduceIte, reduceCtorEq]
           ·simp only [*, AVL, ↓reduceIte, Nat.reduceEqDiff]
           ·simp only [*, AVL]
           ·simp only [*, AVL, ↓reduceIte, Nat.reduceEqDiff]
           ·simp only [*, AVL, ↓reduceIte, Nat.reduceEqDiff]
           ·simp only [slotI, *, AVB, ↓reduceIte]
            omega
        ·have g9 : ¬ (j : Int) < ls.length := by omega
         rw [statesG_end (by omega)] at hO3
         subst hO3
         clear hn hr hl2
         repeat' (first|simp only [*, AVB, ↓reduceIte, Nat.reduceEqDiff, Nat.reduceLT, Nat.reduceBEq, dIntBin]|refine drW_intro (by kernel_rfl) ?_|refine gw_intro (fun h => ?_) (fun h => ?_) <;> try simp only [AVH] at h)
         refine hx _ _ ?_
         repeat' (first|simp only [*, AVB, ↓reduceIte, Nat.reduceLT]|refine drW_intro (by kernel_rfl) ?_|refine gw_intro (fun h => ?_) (fun h => ?_) <;> try simp only [AVH] at h)
set_option maxHeartbeats 64000000 in
theorem relm2_L (AH : List D) (p : Int) (sp nm : List UInt8) (la : List At) (ls : List (List UInt8)) (tx : List UInt8) (hn : BigN ⟨p, 1, sp, nm, la, ls, tx⟩) (h1 : ¬ p < -1) (h2' : ¬ (AH.length : Int) ≤ p) (h0 : ¬ 0 ≤ p) :
  callL Tryz.prog (ext11b chk) 26 [.list AH, .agg [.int .i64 p, .int .i64 1, .str sp, .str nm, .list (la.map At.d), .list (ls.map D.str), .str tx]] [] = some (.bool (elmF ⟨p, 1, sp, nm, la, ls, tx⟩), [.no], []) := by
 obtain ⟨s1, s2, s3, s4, s5, s6⟩ := hn
 have q1 := rright_L (chk := chk) nm s3
 have q2 := rright_L (chk := chk) sp s4
 clear s3 s4 s5
 have lA := lenM la At.d
 have lS := lenM ls D.str
 simp only [elmF]
 have H1 := Hd.mk s1
 have H2 := Hd.mk s2
 have H6 := Hd.mk s6
 clear s1 s2 s6
 cases c1 : (tx == []) with
 | false =>
  generalize la.map At.d = LA at *
  generalize ls.map D.str = LS at *
  generalize goodB nm = e1 at *
  generalize goodB sp = e2 at *
  refine callK (m := 185) (res := [4]) (rs := [.tmp 4]) rfl Tryz.func26 rfl rfl rfl rfl rfl ?_
  repeat' (first|simp only [*, AVB, ↓reduceIte, Nat.reduceEqDiff, Nat.reduceLT, reduceCtorEq, Nat.reduceAdd, Int.reduceBEq, Int.reduceBNe, dIntBin]|refine drW_intro (by kernel_rfl) ?_|refine gw_intro (fun h => ?_) (fun h => ?_) <;> try simp only [AVH] at h)
 | true =>
  have htx : tx = [] := by simpa using c1
  subst htx
  clear c1
  cases c2 : (nm == []) with
  | true =>
   generalize la.map At.d = LA at *
   generalize ls.map D.str = LS at *
   generalize goodB nm = e1 at *
   generalize goodB sp = e2 at *
   refine callK (m := 185) (res := [4]) (rs := [.tmp 4]) rfl Tryz.func26 rfl rfl rfl rfl rfl ?_
   repeat' (first|simp only [*, AVB, ↓reduceIte, Nat.reduceEqDiff, Nat.reduceLT, reduceCtorEq, Nat.reduceAdd, Int.reduceBEq, Int.reduceBNe, dIntBin]|refine drW_intro (by kernel_rfl) ?_|refine gw_intro (fun h => ?_) (fun h => ?_) <;> try simp only [AVH] at h)
  | false =>
   cases c3 : goodB nm with
   | false =>
    rw [c3] at q1
    generalize la.map At.d = LA at *
    generalize ls.map D.str = LS at *
    refine callK (m := 185) (res := [4]) (rs := [.tmp 4]) rfl Tryz.func26 rfl rfl rfl rfl rfl ?_
    repeat' (first|simp only [*, AVB, ↓reduceIte, Nat.reduceEqDiff, Nat.reduceLT, reduceCtorEq, Nat.reduceAdd, Int.reduceBEq, Int.reduceBNe, dIntBin]|refine drW_intro (by kernel_rfl) ?_|refine gw_intro (fun h => ?_) (fun h => ?_) <;> try simp only [AVH] at h)
   | true =>
    cases c4 : goodB sp with
    | false =>
     rw [c3] at q1
     rw [c4] at q2
     generalize la.map At.d = LA at *
     generalize ls.map D.str = LS at *
     refine callK (m := 185) (res := [4]) (rs := [.tmp 4]) rfl Tryz.func26 rfl rfl rfl rfl rfl ?_
     repeat' (first|simp only [*, AVB, ↓reduceIte, Nat.reduceEqDiff, Nat.reduceLT, reduceCtorEq, Nat.reduceAdd, Int.reduceBEq, Int.reduceBNe, dIntBin]|refine drW_intro (by kernel_rfl) ?_|refine gw_intro (fun h => ?_) (fun h => ?_) <;> try simp only [AVH] at h)
    | true =>
     rw [c3] at q1
     rw [c4] at q2
     clear c3 c4
     obtain ⟨R, hR⟩ : ∃ R, Hd (R = (attrsG (la.take 0) (la.drop 0) && statesB ls)) := ⟨_, rfl⟩
     rw [show (true && (!false && (true && (true && (attrsB la && statesB ls))))) = R from (show R = (attrsG (la.take 0) (la.drop 0) && statesB ls) from hR).symm]
     have b22 : ((1 : Int) == 2) = false := rfl
     have b33 : ((1 : Int) == 3) = false := rfl
     have b11 : ((1 : Int) != 1) = false := rfl
     refine callK (m := 185) (res := [4]) (rs := [.tmp 4]) rfl Tryz.func26 rfl rfl rfl rfl rfl ?_
     repeat' (first|simp only [*, AVB, ↓reduceIte, Nat.reduceEqDiff, Nat.reduceLT, reduceCtorEq, Nat.reduceAdd, dIntBin]|refine drW_intro (by kernel_rfl) ?_|refine gw_intro (fun h => ?_) (fun h => ?_) <;> try simp only [AVH] at h)
     clear c2 q1 q2 h1 h2' h0
     refine loopH (fun st => ∃ i : Nat, i ≤ la.length ∧ st.slot 5 = .int .i64 i ∧ st.slot 0 = .list AH ∧ st.slot 3 = .ptr 3 1 0 ∧ st.box 3 = some ⟨1, [.int .i64 p, .int .i64 1, .str sp, .str nm, .list (la.map At.d), .list (ls.map D.str), .str []], [.no, .no, .no, .no, .no, .no, .no]⟩ ∧ st.slot 4 = .bool false ∧ st.room 4 = [] ∧ Hd (R = (attrsG (la.take i) (la.drop i) && statesB ls))) (fun st => la.length - slotI st 5) ?_ ?_
     ·refine ⟨0, Nat.zero_le _, ?_, ?_, ?_, ?_, ?_, ?_, hR⟩
      all_goals simp only [*, AVB, ↓reduceIte, Nat.reduceEqDiff, reduceCtorEq]
      all_goals rfl
     ·rintro st K ⟨i, hi, g5, g0, g3, gb, g4, gr, hO⟩ hn hx hr
      have hl : la.length ≤ 140737488355328 := H1
      have hO' : R = (attrsG (la.take i) (la.drop i) && statesB ls) := hO
      clear hO
      by_cases h : i < la.length
      ·have g9 : (i : Int) < la.length := by omega
       have hw := wrapS i (by omega)
       obtain ⟨x, hx1⟩ := some_at h
       obtain ⟨s1, s2, s3⟩ : BigA x := (show ∀ a ∈ la, BigA a from H6) x (List.mem_of_getElem? hx1)
       rw [attrsG_at hx1] at hO'
       have ha := getD_map (f := At.d) hx1
       obtain ⟨a1, a2, a3⟩ := x
       have ha2 : (la.map At.d).getD i .bad = .agg [.str a1, .str a2, .str a3] := ha
       clear ha hx1
       have r1 := rright_L (chk := chk) a1 s1
       have r2 := rright_L (chk := chk) a2 s2
       have r3 := rright_L (chk := chk) a3 s3
       simp only [atOk] at hO'
       generalize hrest : (attrsG (la.take (i + 1)) (la.drop (i + 1)) && statesB ls) = rest at *
       rw [Bool.and_assoc, hrest] at hO'
       have HREST := Hd.mk hrest
       clear hrest s1 s2 s3
       cases f0 : (a2 == []) with
       | true =>
        rw [f0] at hO'
        simp only [Bool.not_true, Bool.false_and] at hO'
        subst hO'
        generalize goodB a1 = e1 at *
        generalize goodB a2 = e2 at *
        generalize goodB a3 = e3 at *
        clear hn hx hl hR HREST
        repeat' (first|simp only [*, AVB, ↓reduceIte, Nat.reduceEqDiff, Nat.reduceLT, Nat.reduceLeDiff, Nat.reduceBEq, Nat.reduceAdd, dIntBin]|refine drW_intro (by kernel_rfl) ?_|refine gw_intro (fun h => ?_) (fun h => ?_) <;> try simp only [AVH] at h)
        refine hr _ ?_
        repeat' (first|simp only [*, AVB, ↓reduceIte]|refine drW_intro (by kernel_rfl) ?_|refine gw_intro (fun h => ?_) (fun h => ?_) <;> try simp only [AVH] at h)
       | false =>
        rw [f0] at hO'
        cases e2 : goodB a2 with
        | false =>
         rw [e2] at hO' r2
         simp only [Bool.not_false, Bool.false_and, Bool.and_false] at hO'
         subst hO'
         generalize goodB a1 = e1 at *
         generalize goodB a3 = e3 at *
         clear hn hx hl hR HREST
         repeat' (first|simp only [*, AVB, ↓reduceIte, Nat.reduceEqDiff, Nat.reduceLT, Nat.reduceLeDiff, Nat.reduceBEq, Nat.reduceAdd, dIntBin]|refine drW_intro (by kernel_rfl) ?_|refine gw_intro (fun h => ?_) (fun h => ?_) <;> try simp only [AVH] at h)
         refine hr _ ?_
         repeat' (first|simp only [*, AVB, ↓reduceIte]|refine drW_intro (by kernel_rfl) ?_|refine gw_intro (fun h => ?_) (fun h => ?_) <;> try simp only [AVH] at h)
        | true =>
         cases e1 : goodB a1 with
         | false =>
          rw [e1] at hO' r1
          rw [e2] at r2
          simp only [Bool.not_false, Bool.false_and, Bool.and_false] at hO'
          subst hO'
          generalize goodB a3 = e3 at *
          clear hn hx hl hR HREST
          repeat' (first|simp only [*, AVB, ↓reduceIte, Nat.reduceEqDiff, Nat.reduceLT, Nat.reduceLeDiff, Nat.reduceBEq, Nat.reduceAdd, dIntBin]|refine drW_intro (by kernel_rfl) ?_|refine gw_intro (fun h => ?_) (fun h => ?_) <;> try simp only [AVH] at h)
          refine hr _ ?_
          repeat' (first|simp only [*, AVB, ↓reduceIte]|refine drW_intro (by kernel_rfl) ?_|refine gw_intro (fun h => ?_) (fun h => ?_) <;> try simp only [AVH] at h)
         | true =>
          cases e3 : goodB a3 with
          | false =>
           rw [e3] at hO' r3
           rw [e2] at r2
           rw [e1] at r1
           simp only [Bool.not_false, Bool.false_and, Bool.and_false] at hO'
           subst hO'
           clear hn hx hl hR HREST
           repeat' (first|simp only [*, AVB, ↓reduceIte, Nat.reduceEqDiff, Nat.reduceLT, Nat.reduceLeDiff, Nat.reduceBEq, Nat.reduceAdd, dIntBin]|refine drW_intro (by kernel_rfl) ?_|refine gw_intro (fun h => ?_) (fun h => ?_) <;> try simp only [AVH] at h)
           refine hr _ ?_
           repeat' (first|simp only [*, AVB, ↓reduceIte]|refine drW_intro (by kernel_rfl) ?_|refine gw_intro (fun h => ?_) (fun h => ?_) <;> try simp only [AVH] at h)
          | true =>
           rw [e1] at r1 hO'
           rw [e2] at r2 hO'
           rw [e3] at r3 hO'
           simp only [Bool.not_false, Bool.true_and] at hO'
           have HO : Hd (R = (!(((la.take i).drop 0).any (sameN a1 a2)) && rest)) := hO'
           clear hO' hx e1 e2 e3
           repeat' (first|simp only [*, AVB, ↓reduceIte, Nat.reduceEqDiff, Nat.reduceLT, Nat.reduceLeDiff, Nat.reduceBEq, Nat.reduceAdd, dIntBin]|refine drW_intro (by kernel_rfl) ?_|refine gw_intro (fun h => ?_) (fun h => ?_) <;> try simp only [AVH] at h)
           clear r1 r2 r3 f0 ha2
           have HI := Hd.mk h
           have G5 := Hd.mk g5
           clear h g9 hl
           refine loopH (fun st' => ∃ j g : Nat, j ≤ i ∧ st'.slot 7 = .int .i64 j ∧ st'.slot 5 = .int .i64 i ∧ st'.slot 0 = .list AH ∧ st'.slot 3 = .ptr 3 1 0 ∧ st'.box 3 = some ⟨1, [.int .i64 p, .int .i64 1, .str sp, .str nm, .list (la.map At.d), .list (ls.map D.str), .str []], [.no, .no, .no, .no, .no, .no, .no]⟩ ∧ st'.slot 6 = .ptr 6 g 0 ∧ st'.box 6 = some ⟨g, [.str a1, .str a2, .str a3], [.no, .no, .no]⟩ ∧ st'.slot 4 = .bool false ∧ st'.room 4 = [] ∧ Hd (R = (!(((la.take i).drop j).any (sameN a1 a2)) && rest))) (fun st' => i - slotI st' 7) ?_ ?_
           ·refine ⟨0, st.ctr 6, Nat.zero_le _, ?_, ?_, ?_, ?_, ?_, ?_, ?_, ?_, ?_, HO⟩
            all_goals simp only [*, AVB, ↓reduceIte, Nat.reduceEqDiff, reduceCtorEq]
            all_goals rfl
           ·clear g5 g0 g3 gb g4 gr
            rintro st' K' ⟨j, g, hj, j7, j5, j0, j3, jb3, j6, jb6, j4, jr, hO2⟩ hn2 hx2 hr2
            have hi2 : i < la.length := HI
            have hl : la.length ≤ 140737488355328 := H1
            have hO3 : R = (!(((la.take i).drop j).any (sameN a1 a2)) && rest) := hO2
            clear hO2
            by_cases h : j < i
            ·have m9 : (j : Int) < i := by omega
             have m8 : (j : Int) < la.length := by omega
             have hw2 := wrapS j (by omega)
             obtain ⟨y, hy1⟩ := some_at (show j < la.length by omega)
             rw [any_drop (sameN a1 a2) (by rw [take_at h]; exact hy1)] at hO3
             have hb := getD_map (f := At.d) hy1
             obtain ⟨b1, b2, b3⟩ := y
             have hb2 : (la.map At.d).getD j .bad = .agg [.str b1, .str b2, .str b3] := hb
             clear hb hy1 hi2
             simp only [sameN] at hO3
             cases d2 : (b2 == a2) with
             | false =>
              rw [d2] at hO3
              simp only [Bool.and_false, Bool.false_or] at hO3
              have HO4 : Hd (R = (!(((la.take i).drop (j + 1)).any (sameN a1 a2)) && rest)) := hO3
              clear hO3 hr2 hx2 hn hr hl
              repeat' (first|simp only [*, AVB, ↓reduceIte, Nat.reduceEqDiff, Nat.reduceLT, Nat.reduceBEq, Nat.reduceAdd, dIntBin]|refine drW_intro (by kernel_rfl) ?_|refine gw_intro (fun h => ?_) (fun h => ?_) <;> try simp only [AVH] at h)
              refine hn2 _ ⟨j + 1, g, h, ?_, ?_, ?_, ?_, ?_, ?_, ?_, ?_, ?_, HO4⟩ ?_
              ·simp only [*, AVL, ↓reduceIte]
              ·simp only [*, AVL, ↓reduceIte, Nat.reduceEqDiff]
              ·simp only [*, AVL, ↓reduceIte, reduceCtorEq]
              ·simp only [*, AVL, ↓reduceIte, Nat.reduceEqDiff]
              ·simp only [*, AVL]
              ·simp only [*, AVL, ↓reduceIte, Nat.reduceEqDiff]
              ·simp only [*, AVL]
              ·simp only [*, AVL, ↓reduceIte, Nat.reduceEqDiff]
              ·simp only [*, AVL, ↓reduceIte, Nat.reduceEqDiff]
              ·simp only [slotI, *, AVB, ↓reduceIte]
               omega
             | true =>
              cases d1 : (b1 == a1) with
              | false =>
               rw [d1] at hO3
               simp only [Bool.false_and, Bool.false_or] at hO3
               have HO4 : Hd (R = (!(((la.take i).drop (j + 1)).any (sameN a1 a2)) && rest)) := hO3
               clear hO3 hr2 hx2 hn hr hl
               repeat' (first|simp only [*, AVB, ↓reduceIte, Nat.reduceEqDiff, Nat.reduceLT, Nat.reduceBEq, Nat.reduceAdd, dIntBin]|refine drW_intro (by kernel_rfl) ?_|refine gw_intro (fun h => ?_) (fun h => ?_) <;> try simp only [AVH] at h)
               refine hn2 _ ⟨j + 1, g, h, ?_, ?_, ?_, ?_, ?_, ?_, ?_, ?_, ?_, HO4⟩ ?_
               ·simp only [*, AVL, ↓reduceIte]
               ·simp only [*, AVL, ↓reduceIte, Nat.reduceEqDiff]
               ·simp only [*, AVL, ↓reduceIte, reduceCtorEq]
               ·simp only [*, AVL, ↓reduceIte, Nat.reduceEqDiff]
               ·simp only [*, AVL]
               ·simp only [*, AVL, ↓reduceIte, Nat.reduceEqDiff]
               ·simp only [*, AVL]
               ·simp only [*, AVL, ↓reduceIte, Nat.reduceEqDiff]
               ·simp only [*, AVL, ↓reduceIte, Nat.reduceEqDiff]
               ·simp only [slotI, *, AVB, ↓reduceIte]
                omega
              | true =>
               rw [d1, d2] at hO3
               simp only [Bool.and_true, Bool.true_or, Bool.not_true, Bool.false_and] at hO3
               subst hO3
               clear hn2 hx2 hR hn hl HREST
               repeat' (first|simp only [*, AVB, ↓reduceIte, Nat.reduceEqDiff, Nat.reduceLT, Nat.reduceBEq, Nat.reduceAdd, dIntBin]|refine drW_intro (by kernel_rfl) ?_|refine gw_intro (fun h => ?_) (fun h => ?_) <;> try simp only [AVH] at h)
               refine hr2 _ ?_
               refine hr _ ?_
               repeat' (first|simp only [*, AVB, ↓reduceIte]|refine drW_intro (by kernel_rfl) ?_|refine gw_intro (fun h => ?_) (fun h => ?_) <;> try simp only [AVH] at h)
            ·have m9 : ¬ (j : Int) < i := by omega
             rw [any_end (sameN a1 a2) (by rw [List.length_take]; omega)] at hO3
             simp only [Bool.not_false, Bool.true_and] at hO3
             have HO4 : Hd (R = (attrsG (la.take (i + 1)) (la.drop (i + 1)) && statesB ls)) := by
              have e : (attrsG (la.take (i + 1)) (la.drop (i + 1)) && statesB ls) = rest := HREST
              rw [e]
              exact hO3
             clear hO3 hr2 hn2 hr hl
             repeat' (first|simp only [*, AVB, ↓reduceIte, Nat.reduceEqDiff, Nat.reduceLT, Nat.reduceBEq, dIntBin]|refine drW_intro (by kernel_rfl) ?_|refine gw_intro (fun h => ?_) (fun h => ?_) <;> try simp only [AVH] at h)
             refine hx2 _ _ ?_
             repeat' (first|simp only [*, AVB, ↓reduceIte, Nat.reduceEqDiff, Nat.reduceLT, Nat.reduceBEq, dIntBin]|refine drW_intro (by kernel_rfl) ?_|refine gw_intro (fun h => ?_) (fun h => ?_) <;> try simp only [AVH] at h)
             refine hn _ ⟨i + 1, hi2, ?_, ?_, ?_, ?_, ?_, ?_, HO4⟩ ?_
             ·simp only [*, AVL, ↓reduceIte]
             ·simp only [*, AVL, ↓reduceIte, reduceCtorEq]
             ·simp only [*, AVL, ↓reduceIte, Nat.reduceEqDiff]
             ·simp only [*, AVL]
             ·simp only [*, AVL, ↓reduceIte, Nat.reduceEqDiff]
             ·simp only [*, AVL, ↓reduceIte, Nat.reduceEqDiff]
             ·have g5 : st.slot 5 = .int .i64 i := G5
              simp only [slotI, *, AVB, ↓reduceIte]
              omega
      ·have g9 : ¬ (i : Int) < la.length := by omega
       rw [attrsG_end (by omega), Bool.true_and] at hO'
       have HO : Hd (R = statesG (ls.take 0) (ls.drop 0)) := hO'
       clear hO' hn hr hl hR
       repeat' (first|simp only [*, AVB, ↓reduceIte, Nat.reduceEqDiff, Nat.reduceLT, Nat.reduceBEq, dIntBin]|refine drW_intro (by kernel_rfl) ?_|refine gw_intro (fun h => ?_) (fun h => ?_) <;> try simp only [AVH] at h)
       refine hx _ _ ?_
       repeat' (first|simp only [*, AVB, ↓reduceIte, Nat.reduceLT]|refine drW_intro (by kernel_rfl) ?_|refine gw_intro (fun h => ?_) (fun h => ?_) <;> try simp only [AVH] at h)
       have HX := Hd.mk hx
       clear hx g9 h hi
       refine loopH (fun st' => ∃ j : Nat, j ≤ ls.length ∧ st'.slot 8 = .int .i64 j ∧ st'.slot 0 = .list AH ∧ st'.slot 3 = .ptr 3 1 0 ∧ st'.box 3 = some ⟨1, [.int .i64 p, .int .i64 1, .str sp, .str nm, .list (la.map At.d), .list (ls.map D.str), .str []], [.no, .no, .no, .no, .no, .no, .no]⟩ ∧ st'.slot 4 = .bool false ∧ st'.room 4 = [] ∧ Hd (R = statesG (ls.take j) (ls.drop j))) (fun st' => ls.length - slotI st' 8) ?_ ?_
       ·refine ⟨0, Nat.zero_le _, ?_, ?_, ?_, ?_, ?_, ?_, HO⟩
        all_goals simp only [*, AVB, ↓reduceIte, Nat.reduceEqDiff, reduceCtorEq]
        all_goals rfl
       ·clear g5 g0 g3 gb g4 gr
        rintro st' K' ⟨j, hj, g8, g0, g3, gb, g4, gr, hO2⟩ hn hx hr
        have hl2 : ls.length ≤ 140737488355328 := H2
        have hO3 : R = statesG (ls.take j) (ls.drop j) := hO2
        clear hO2
        by_cases h : j < ls.length
        ·have g9 : (j : Int) < ls.length := by omega
         have hw := wrapS j (by omega)
         obtain ⟨x, hx1⟩ := some_at h
         rw [statesG_at hx1] at hO3
         have ha := getD_map (f := D.str) hx1
         have u1 := rstate_L (chk := chk) x
         have u2 : callL Tryz.prog (ext11b chk) 42 [.list ((ls.map D.str).take j), .str x] [] = some (.bool ((ls.take j).contains x), [.no], []) := by
          rw [← List.map_take]
          exact has_L (ls.take j) x (by rw [List.length_take]; omega)
         have sz := szS ls
         have gle : (j : Int) ≤ ls.length := by omega
         generalize (ls.take j).contains x = e5 at *
         generalize stS.contains x = e1 at *
         cases e1 with
         | false =>
          simp only [Bool.false_and] at hO3
          subst hO3
          clear hn hx hl2 hx1 sz
          repeat' (first|simp only [*, AVB, ↓reduceIte, Nat.reduceEqDiff, Nat.reduceLT, Nat.reduceBEq, dIntBin]|refine drW_intro (by kernel_rfl) ?_|refine gw_intro (fun h => ?_) (fun h => ?_) <;> try simp only [AVH] at h)
          refine hr _ ?_
          repeat' (first|simp only [*, AVB, ↓reduceIte]|refine drW_intro (by kernel_rfl) ?_|refine gw_intro (fun h => ?_) (fun h => ?_) <;> try simp only [AVH] at h)
         | true =>
          cases e5 with
          | true =>
           simp only [Bool.not_true, Bool.false_and, Bool.true_and] at hO3
           subst hO3
           clear hn hx hl2 hx1
           repeat' (first|simp only [*, AVB, ↓reduceIte, Nat.reduceEqDiff, Nat.reduceLT, Nat.reduceBEq, dIntBin]|refine drW_intro (by kernel_rfl) ?_|refine gw_intro (fun h => ?_) (fun h => ?_) <;> try simp only [AVH] at h)
           refine hr _ ?_
           repeat' (first|simp only [*, AVB, ↓reduceIte]|refine drW_intro (by kernel_rfl) ?_|refine gw_intro (fun h => ?_) (fun h => ?_) <;> try simp only [AVH] at h)
          | false =>
           simp only [Bool.not_false, Bool.true_and] at hO3
           have HO3 := Hd.mk hO3
           clear hO3 hx hr hl2 hx1
           repeat' (first|simp only [*, AVB, ↓reduceIte, Nat.reduceEqDiff, Nat.reduceLT, Nat.reduceBEq, dIntBin]|refine drW_intro (by kernel_rfl) ?_|refine gw_intro (fun h => ?_) (fun h => ?_) <;> try simp only [AVH] at h)
           refine hn _ ⟨j + 1, h, ?_, ?_, ?_, ?_, ?_, ?_, HO3⟩ ?_
           ·simp only [*, AVL, ↓reduceIte]
           ·simp only [*, AVL, ↓reduceIte, reduceCtorEq]
           ·simp only [*, AVL, ↓reduceIte, Nat.reduceEqDiff]
           ·simp only [*, AVL]
           ·simp only [*, AVL, ↓reduceIte, Nat.reduceEqDiff]
           ·simp only [*, AVL, ↓reduceIte, Nat.reduceEqDiff]
           ·simp only [slotI, *, AVB, ↓reduceIte]
            omega
        ·have g9 : ¬ (j : Int) < ls.length := by omega
         rw [statesG_end (by omega)] at hO3
         subst hO3
         clear hn hr hl2
         repeat' (first|simp only [*, AVB, ↓reduceIte, Nat.reduceEqDiff, Nat.reduceLT, Nat.reduceBEq, dIntBin]|refine drW_intro (by kernel_rfl) ?_|refine gw_intro (fun h => ?_) (fun h => ?_) <;> try simp only [AVH] at h)
         refine hx _ _ ?_
         repeat' (first|simp only [*, AVB, ↓reduceIte, Nat.reduceLT]|refine drW_intro (by kernel_rfl) ?_|refine gw_intro (fun h => ?_) (fun h => ?_) <;> try simp only [AVH] at h)
set_option maxHeartbeats 16000000 in
theorem rbody_L (ahead : List Nd) (n : Nd) (hn : BigN n) (h : parOk ahead n.p = true) : callL Tryz.prog (ext11b chk) 26 [.list (ahead.map Nd.d), n.d] [] = some (.bool (bodyF n), [.no], []) := by
 obtain ⟨p, k, sp, nm, la, ls, tx⟩ := n
 have lN := lenM ahead Nd.d
 unfold parOk at h
 simp only [Bool.and_eq_true, Bool.not_eq_eq_eq_not, Bool.not_true, decide_eq_false_iff_not] at h
 obtain ⟨h1, h2, h3⟩ := h
 simp only [bodyF, txtF, Nd.d]
 by_cases h0 : 0 ≤ p
 ·obtain ⟨p', k', sp', nm', la', ls', tx', ha, hk⟩ := kind_at (ahead := ahead) h0 (by omega)
  rw [hk] at h3
  have h5 : ¬ p < 0 := by omega
  have h4 : (k' != 1) = false := by simpa [h0] using h3
  clear h3 hk
  generalize ahead.map Nd.d = AH at *
  have gp : p < AH.length := by omega
  have h2' : ¬ (AH.length : Int) ≤ p := by omega
  clear lN h2
  by_cases k1 : k = 1
  ·subst k1
   rw [if_pos rfl]
   exact relm1_L AH p sp nm la ls tx hn h1 h2' h0 gp p' k' sp' nm' la' ls' tx' ha h4
  ·obtain ⟨s1, s2, s3, s4, s5, s6⟩ := hn
   have q3 := rright_L (chk := chk) tx s5
   have lA := lenM la At.d
   have lS := lenM ls D.str
   clear s1 s2 s3 s4 s5 s6
   generalize goodB tx = e3 at *
   generalize la.map At.d = LA at *
   generalize ls.map D.str = LS at *
   by_cases k2 : k = 2
   ·subst k2
    cases c1 : (sp == []) with
    | false =>
     refine callK (m := 185) (res := [4]) (rs := [.tmp 4]) rfl Tryz.func26 rfl rfl rfl rfl rfl ?_
     repeat' (first|simp only [*, AVB, ↓reduceIte, Nat.reduceEqDiff, Nat.reduceLT, reduceCtorEq, Nat.reduceBEq, Nat.reduceAdd, dIntBin]|refine drW_intro (by kernel_rfl) ?_|refine gw_intro (fun h => ?_) (fun h => ?_) <;> try simp only [AVH] at h)
    | true =>
     cases c2 : (nm == []) with
     | false =>
      refine callK (m := 185) (res := [4]) (rs := [.tmp 4]) rfl Tryz.func26 rfl rfl rfl rfl rfl ?_
      repeat' (first|simp only [*, AVB, ↓reduceIte, Nat.reduceEqDiff, Nat.reduceLT, reduceCtorEq, Nat.reduceBEq, Nat.reduceAdd, dIntBin]|refine drW_intro (by kernel_rfl) ?_|refine gw_intro (fun h => ?_) (fun h => ?_) <;> try simp only [AVH] at h)
     | true =>
      cases c3 : ((la.length : Int) == 0) with
      | false =>
       refine callK (m := 185) (res := [4]) (rs := [.tmp 4]) rfl Tryz.func26 rfl rfl rfl rfl rfl ?_
       repeat' (first|simp only [*, AVB, ↓reduceIte, Nat.reduceEqDiff, Nat.reduceLT, reduceCtorEq, Nat.reduceBEq, Nat.reduceAdd, dIntBin]|refine drW_intro (by kernel_rfl) ?_|refine gw_intro (fun h => ?_) (fun h => ?_) <;> try simp only [AVH] at h)
      | true =>
       cases c4 : ((ls.length : Int) == 0) with
       | false =>
        refine callK (m := 185) (res := [4]) (rs := [.tmp 4]) rfl Tryz.func26 rfl rfl rfl rfl rfl ?_
        repeat' (first|simp only [*, AVB, ↓reduceIte, Nat.reduceEqDiff, Nat.reduceLT, reduceCtorEq, Nat.reduceBEq, Nat.reduceAdd, dIntBin]|refine drW_intro (by kernel_rfl) ?_|refine gw_intro (fun h => ?_) (fun h => ?_) <;> try simp only [AVH] at h)
       | true =>
        cases e3 with
        | false =>
         refine callK (m := 185) (res := [4]) (rs := [.tmp 4]) rfl Tryz.func26 rfl rfl rfl rfl rfl ?_
         repeat' (first|simp only [*, AVB, ↓reduceIte, Nat.reduceEqDiff, Nat.reduceLT, reduceCtorEq, Nat.reduceBEq, Nat.reduceAdd, dIntBin]|refine drW_intro (by kernel_rfl) ?_|refine gw_intro (fun h => ?_) (fun h => ?_) <;> try simp only [AVH] at h)
        | true =>
         refine callK (m := 185) (res := [4]) (rs := [.tmp 4]) rfl Tryz.func26 rfl rfl rfl rfl rfl ?_
         repeat' (first|simp only [*, AVB, ↓reduceIte, Nat.reduceEqDiff, Nat.reduceLT, reduceCtorEq, Nat.reduceBEq, Nat.reduceAdd, Int.reduceBEq, dIntBin]|refine drW_intro (by kernel_rfl) ?_|refine gw_intro (fun h => ?_) (fun h => ?_) <;> try simp only [AVH] at h)
   ·by_cases k3 : k = 3
    ·subst k3
     cases c1 : (sp == []) with
     | false =>
      refine callK (m := 185) (res := [4]) (rs := [.tmp 4]) rfl Tryz.func26 rfl rfl rfl rfl rfl ?_
      repeat' (first|simp only [*, AVB, ↓reduceIte, Nat.reduceEqDiff, Nat.reduceLT, reduceCtorEq, Nat.reduceBEq, Nat.reduceAdd, Int.reduceBEq, dIntBin]|refine drW_intro (by kernel_rfl) ?_|refine gw_intro (fun h => ?_) (fun h => ?_) <;> try simp only [AVH] at h)
     | true =>
      cases c2 : (nm == []) with
      | false =>
       refine callK (m := 185) (res := [4]) (rs := [.tmp 4]) rfl Tryz.func26 rfl rfl rfl rfl rfl ?_
       repeat' (first|simp only [*, AVB, ↓reduceIte, Nat.reduceEqDiff, Nat.reduceLT, reduceCtorEq, Nat.reduceBEq, Nat.reduceAdd, Int.reduceBEq, dIntBin]|refine drW_intro (by kernel_rfl) ?_|refine gw_intro (fun h => ?_) (fun h => ?_) <;> try simp only [AVH] at h)
      | true =>
       cases c3 : ((la.length : Int) == 0) with
       | false =>
        refine callK (m := 185) (res := [4]) (rs := [.tmp 4]) rfl Tryz.func26 rfl rfl rfl rfl rfl ?_
        repeat' (first|simp only [*, AVB, ↓reduceIte, Nat.reduceEqDiff, Nat.reduceLT, reduceCtorEq, Nat.reduceBEq, Nat.reduceAdd, Int.reduceBEq, dIntBin]|refine drW_intro (by kernel_rfl) ?_|refine gw_intro (fun h => ?_) (fun h => ?_) <;> try simp only [AVH] at h)
       | true =>
        cases c4 : ((ls.length : Int) == 0) with
        | false =>
         refine callK (m := 185) (res := [4]) (rs := [.tmp 4]) rfl Tryz.func26 rfl rfl rfl rfl rfl ?_
         repeat' (first|simp only [*, AVB, ↓reduceIte, Nat.reduceEqDiff, Nat.reduceLT, reduceCtorEq, Nat.reduceBEq, Nat.reduceAdd, Int.reduceBEq, dIntBin]|refine drW_intro (by kernel_rfl) ?_|refine gw_intro (fun h => ?_) (fun h => ?_) <;> try simp only [AVH] at h)
        | true =>
         cases e3 with
         | false =>
          refine callK (m := 185) (res := [4]) (rs := [.tmp 4]) rfl Tryz.func26 rfl rfl rfl rfl rfl ?_
          repeat' (first|simp only [*, AVB, ↓reduceIte, Nat.reduceEqDiff, Nat.reduceLT, reduceCtorEq, Nat.reduceBEq, Nat.reduceAdd, Int.reduceBEq, dIntBin]|refine drW_intro (by kernel_rfl) ?_|refine gw_intro (fun h => ?_) (fun h => ?_) <;> try simp only [AVH] at h)
         | true =>
          refine callK (m := 185) (res := [4]) (rs := [.tmp 4]) rfl Tryz.func26 rfl rfl rfl rfl rfl ?_
          repeat' (first|simp only [*, AVB, ↓reduceIte, Nat.reduceEqDiff, Nat.reduceLT, reduceCtorEq, Nat.reduceBEq, Nat.reduceAdd, Int.reduceBEq, dIntBin]|refine drW_intro (by kernel_rfl) ?_|refine gw_intro (fun h => ?_) (fun h => ?_) <;> try simp only [AVH] at h)
    ·have b1 : (k != 1) = true := by simpa using k1
     have b2 : (k == 2) = false := by simpa using k2
     have b3 : (k == 3) = false := by simpa using k3
     refine callK (m := 185) (res := [4]) (rs := [.tmp 4]) rfl Tryz.func26 rfl rfl rfl rfl rfl ?_
     repeat' (first|simp only [*, AVB, ↓reduceIte, Nat.reduceEqDiff, Nat.reduceLT, reduceCtorEq, Nat.reduceAdd, dIntBin]|refine drW_intro (by kernel_rfl) ?_|refine gw_intro (fun h => ?_) (fun h => ?_) <;> try simp only [AVH] at h)
 ·have h5 : p < 0 := by omega
  clear h3
  generalize ahead.map Nd.d = AH at *
  have h2' : ¬ (AH.length : Int) ≤ p := by omega
  clear lN h2
  by_cases k1 : k = 1
  ·subst k1
   rw [if_pos rfl]
   exact relm2_L AH p sp nm la ls tx hn h1 h2' h0
  ·obtain ⟨s1, s2, s3, s4, s5, s6⟩ := hn
   have q3 := rright_L (chk := chk) tx s5
   have lA := lenM la At.d
   have lS := lenM ls D.str
   clear s1 s2 s3 s4 s5 s6
   generalize goodB tx = e3 at *
   generalize la.map At.d = LA at *
   generalize ls.map D.str = LS at *
   by_cases k2 : k = 2
   ·subst k2
    cases c1 : (sp == []) with
    | false =>
     refine callK (m := 185) (res := [4]) (rs := [.tmp 4]) rfl Tryz.func26 rfl rfl rfl rfl rfl ?_
     repeat' (first|simp only [*, AVB, ↓reduceIte, Nat.reduceEqDiff, Nat.reduceLT, reduceCtorEq, Nat.reduceBEq, Nat.reduceAdd, dIntBin]|refine drW_intro (by kernel_rfl) ?_|refine gw_intro (fun h => ?_) (fun h => ?_) <;> try simp only [AVH] at h)
    | true =>
     cases c2 : (nm == []) with
     | false =>
      refine callK (m := 185) (res := [4]) (rs := [.tmp 4]) rfl Tryz.func26 rfl rfl rfl rfl rfl ?_
      repeat' (first|simp only [*, AVB, ↓reduceIte, Nat.reduceEqDiff, Nat.reduceLT, reduceCtorEq, Nat.reduceBEq, Nat.reduceAdd, dIntBin]|refine drW_intro (by kernel_rfl) ?_|refine gw_intro (fun h => ?_) (fun h => ?_) <;> try simp only [AVH] at h)
     | true =>
      cases c3 : ((la.length : Int) == 0) with
      | false =>
       refine callK (m := 185) (res := [4]) (rs := [.tmp 4]) rfl Tryz.func26 rfl rfl rfl rfl rfl ?_
       repeat' (first|simp only [*, AVB, ↓reduceIte, Nat.reduceEqDiff, Nat.reduceLT, reduceCtorEq, Nat.reduceBEq, Nat.reduceAdd, dIntBin]|refine drW_intro (by kernel_rfl) ?_|refine gw_intro (fun h => ?_) (fun h => ?_) <;> try simp only [AVH] at h)
      | true =>
       cases c4 : ((ls.length : Int) == 0) with
       | false =>
        refine callK (m := 185) (res := [4]) (rs := [.tmp 4]) rfl Tryz.func26 rfl rfl rfl rfl rfl ?_
        repeat' (first|simp only [*, AVB, ↓reduceIte, Nat.reduceEqDiff, Nat.reduceLT, reduceCtorEq, Nat.reduceBEq, Nat.reduceAdd, dIntBin]|refine drW_intro (by kernel_rfl) ?_|refine gw_intro (fun h => ?_) (fun h => ?_) <;> try simp only [AVH] at h)
       | true =>
        cases e3 with
        | false =>
         refine callK (m := 185) (res := [4]) (rs := [.tmp 4]) rfl Tryz.func26 rfl rfl rfl rfl rfl ?_
         repeat' (first|simp only [*, AVB, ↓reduceIte, Nat.reduceEqDiff, Nat.reduceLT, reduceCtorEq, Nat.reduceBEq, Nat.reduceAdd, dIntBin]|refine drW_intro (by kernel_rfl) ?_|refine gw_intro (fun h => ?_) (fun h => ?_) <;> try simp only [AVH] at h)
        | true =>
         refine callK (m := 185) (res := [4]) (rs := [.tmp 4]) rfl Tryz.func26 rfl rfl rfl rfl rfl ?_
         repeat' (first|simp only [*, AVB, ↓reduceIte, Nat.reduceEqDiff, Nat.reduceLT, reduceCtorEq, Nat.reduceBEq, Nat.reduceAdd, Int.reduceBEq, dIntBin]|refine drW_intro (by kernel_rfl) ?_|refine gw_intro (fun h => ?_) (fun h => ?_) <;> try simp only [AVH] at h)
   ·by_cases k3 : k = 3
    ·subst k3
     cases c1 : (sp == []) with
     | false =>
      refine callK (m := 185) (res := [4]) (rs := [.tmp 4]) rfl Tryz.func26 rfl rfl rfl rfl rfl ?_
      repeat' (first|simp only [*, AVB, ↓reduceIte, Nat.reduceEqDiff, Nat.reduceLT, reduceCtorEq, Nat.reduceBEq, Nat.reduceAdd, Int.reduceBEq, dIntBin]|refine drW_intro (by kernel_rfl) ?_|refine gw_intro (fun h => ?_) (fun h => ?_) <;> try simp only [AVH] at h)
     | true =>
      cases c2 : (nm == []) with
      | false =>
       refine callK (m := 185) (res := [4]) (rs := [.tmp 4]) rfl Tryz.func26 rfl rfl rfl rfl rfl ?_
       repeat' (first|simp only [*, AVB, ↓reduceIte, Nat.reduceEqDiff, Nat.reduceLT, reduceCtorEq, Nat.reduceBEq, Nat.reduceAdd, Int.reduceBEq, dIntBin]|refine drW_intro (by kernel_rfl) ?_|refine gw_intro (fun h => ?_) (fun h => ?_) <;> try simp only [AVH] at h)
      | true =>
       cases c3 : ((la.length : Int) == 0) with
       | false =>
        refine callK (m := 185) (res := [4]) (rs := [.tmp 4]) rfl Tryz.func26 rfl rfl rfl rfl rfl ?_
        repeat' (first|simp only [*, AVB, ↓reduceIte, Nat.reduceEqDiff, Nat.reduceLT, reduceCtorEq, Nat.reduceBEq, Nat.reduceAdd, Int.reduceBEq, dIntBin]|refine drW_intro (by kernel_rfl) ?_|refine gw_intro (fun h => ?_) (fun h => ?_) <;> try simp only [AVH] at h)
       | true =>
        cases c4 : ((ls.length : Int) == 0) with
        | false =>
         refine callK (m := 185) (res := [4]) (rs := [.tmp 4]) rfl Tryz.func26 rfl rfl rfl rfl rfl ?_
         repeat' (first|simp only [*, AVB, ↓reduceIte, Nat.reduceEqDiff, Nat.reduceLT, reduceCtorEq, Nat.reduceBEq, Nat.reduceAdd, Int.reduceBEq, dIntBin]|refine drW_intro (by kernel_rfl) ?_|refine gw_intro (fun h => ?_) (fun h => ?_) <;> try simp only [AVH] at h)
        | true =>
         cases e3 with
         | false =>
          refine callK (m := 185) (res := [4]) (rs := [.tmp 4]) rfl Tryz.func26 rfl rfl rfl rfl rfl ?_
          repeat' (first|simp only [*, AVB, ↓reduceIte, Nat.reduceEqDiff, Nat.reduceLT, reduceCtorEq, Nat.reduceBEq, Nat.reduceAdd, Int.reduceBEq, dIntBin]|refine drW_intro (by kernel_rfl) ?_|refine gw_intro (fun h => ?_) (fun h => ?_) <;> try simp only [AVH] at h)
         | true =>
          refine callK (m := 185) (res := [4]) (rs := [.tmp 4]) rfl Tryz.func26 rfl rfl rfl rfl rfl ?_
          repeat' (first|simp only [*, AVB, ↓reduceIte, Nat.reduceEqDiff, Nat.reduceLT, reduceCtorEq, Nat.reduceBEq, Nat.reduceAdd, Int.reduceBEq, dIntBin]|refine drW_intro (by kernel_rfl) ?_|refine gw_intro (fun h => ?_) (fun h => ?_) <;> try simp only [AVH] at h)
    ·have b1 : (k != 1) = true := by simpa using k1
     have b2 : (k == 2) = false := by simpa using k2
     have b3 : (k == 3) = false := by simpa using k3
     refine callK (m := 185) (res := [4]) (rs := [.tmp 4]) rfl Tryz.func26 rfl rfl rfl rfl rfl ?_
     repeat' (first|simp only [*, AVB, ↓reduceIte, Nat.reduceEqDiff, Nat.reduceLT, reduceCtorEq, Nat.reduceAdd, dIntBin]|refine drW_intro (by kernel_rfl) ?_|refine gw_intro (fun h => ?_) (fun h => ?_) <;> try simp only [AVH] at h)
theorem rnode_L2 (ahead : List Nd) (n : Nd) (hn : BigN n) : callL Tryz.prog (ext11b chk) 26 [.list (ahead.map Nd.d), n.d] [] = some (.bool (nodeF ahead n), [.no], []) := by
 unfold nodeF
 cases h : parOk ahead n.p with
 | true => rw [Bool.true_and]; exact rbody_L ahead n hn h
 | false => rw [Bool.false_and]; exact rpar_L ahead n h
end Go.Av
namespace Go.Av
open Go.Proofs
variable [Rk] {chk : List D → Bool}
def rootB (n : Nd) : Bool := n.k == 1 && decide (n.p < 0)
def chkG : List Nd → List Nd → Int → Int × Int
 | a, [], roots => if roots = 1 then (0, 0) else (15, a.length)
 | a, n :: r, roots => if nodeF a n = true then chkG (a ++ [n]) r (if rootB n = true then roots + 1 else roots) else (10, a.length)
def chkF (ns : List Nd) : Int × Int := chkG [] ns 0
theorem chkG_at {xs : List Nd} {i : Nat} {x : Nd} (roots : Int) (hx : xs[i]? = some x) : chkG (xs.take i) (xs.drop i) roots = if nodeF (xs.take i) x = true then chkG (xs.take (i + 1)) (xs.drop (i + 1)) (if rootB x = true then roots + 1 else roots) else (10, (i : Int)) := by
 have h1 : i < xs.length := (List.getElem?_eq_some_iff.1 hx).1
 have e1 : xs[i] = x := (List.getElem?_eq_some_iff.1 hx).2
 rw [List.drop_eq_getElem_cons h1, e1, chkG, List.take_succ_eq_append_getElem h1, e1, List.length_take, Nat.min_eq_left (by omega)]
theorem chkG_end {xs : List Nd} {i : Nat} (roots : Int) (h : xs.length = i) : chkG (xs.take i) (xs.drop i) roots = if roots = 1 then (0, 0) else (15, (i : Int)) := by
 subst h
 rw [List.drop_length, List.take_length, chkG]
def BigD (ns : List Nd) : Prop := ns.length ≤ 140737488355328 ∧ ∀ n ∈ ns, BigN n
def SmallD (ns : List Nd) : Prop := ns.length ≤ 10000 ∧ ∀ n ∈ ns, SmallN n
theorem SmallD.small {ns : List Nd} (h : SmallD ns) : Small ns := ⟨h.1, fun n hn => ⟨(h.2 n hn).1, (h.2 n hn).2.1⟩⟩
theorem great_smallD {ns : List Nd} {m : Nat} (h : greatF ns m = false) (hm : m ≤ 10000) : SmallD ns := by
 unfold greatF at h
 simp only [Bool.or_eq_false_iff, decide_eq_false_iff_not, List.any_eq_false] at h
 refine ⟨by omega, fun n hn => ?_⟩
 have h1 := h.2 n hn
 unfold ndG ndG0 at h1
 simp only [Bool.or_eq_true, decide_eq_true_eq, not_or, List.any_eq_true, not_exists, not_and] at h1
 refine ⟨by omega, by omega, by omega, by omega, by omega, fun a ha => ?_⟩
 have h2 := h1.2 a ha
 unfold atG at h2
 simp only [Bool.or_eq_true, decide_eq_true_eq, not_or] at h2
 exact ⟨by omega, by omega, by omega⟩
set_option maxHeartbeats 16000000 in
theorem rcheck_L (ns : List Nd) (hS : BigD ns) : callL Tryz.prog (ext11b chk) 9 [.list (ns.map Nd.d)] [] = some (.tuple [.int .i64 (chkF ns).1, .int .i64 (chkF ns).2], [.no, .no], []) := by
 have lN := lenM ns Nd.d
 have HL := Hd.mk hS.1
 have HS := Hd.mk hS
 clear hS
 obtain ⟨R1, R2, hR⟩ : ∃ R1 R2, Hd ((R1, R2) = chkG (ns.take 0) (ns.drop 0) 0) := ⟨_, _, rfl⟩
 have e : chkF ns = (R1, R2) := (show (R1, R2) = chkG (ns.take 0) (ns.drop 0) 0 from hR).symm
 rw [e]
 clear e
 refine callK (m := 42) (res := [2, 3]) (rs := [.tmp 2, .tmp 3]) rfl Tryz.func9 rfl rfl rfl rfl rfl ?_
 repeat' (first|simp only [*, AVB, ↓reduceIte, Nat.reduceLT]|refine drW_intro (by kernel_rfl) ?_|refine gw_intro (fun h => ?_) (fun h => ?_) <;> try simp only [AVH] at h)
 refine loopH (fun st => ∃ (i : Nat) (roots : Int), i ≤ ns.length ∧ (0 ≤ roots ∧ roots ≤ i) ∧ st.slot 5 = .int .i64 i ∧ st.room 5 = [] ∧ st.slot 4 = .int .i64 roots ∧ st.slot 0 = .list (ns.map Nd.d) ∧ st.slot 2 = .int .i64 0 ∧ st.room 2 = [] ∧ st.slot 3 = .int .i64 0 ∧ st.room 3 = [] ∧ Hd ((R1, R2) = chkG (ns.take i) (ns.drop i) roots)) (fun st => ns.length - slotI st 5) ?_ ?_
 ·refine ⟨0, 0, Nat.zero_le _, ⟨by decide, by decide⟩, ?_, ?_, ?_, ?_, ?_, ?_, ?_, ?_, hR⟩
  all_goals simp only [*, AVB, ↓reduceIte, Nat.reduceEqDiff, reduceCtorEq]
  all_goals rfl
 ·rintro st K ⟨i, roots, hi, hro, g5, r5, g4, g0, g2, r2, g3, r3, hO⟩ hn hx hr
  have hl : ns.length ≤ 140737488355328 := HL
  have hO' : (R1, R2) = chkG (ns.take i) (ns.drop i) roots := hO
  clear hO
  by_cases h : i < ns.length
  ·have g9 : (i : Int) < ns.length := by omega
   have hw := wrapS i (by omega)
   have hwr : IntKind.i64.wrap (roots + 1) = roots + 1 := wrap64 _ (by omega) (by omega)
   obtain ⟨x, hx1⟩ := some_at h
   have hS : BigD ns := HS
   have hsx := hS.2 x (List.mem_of_getElem? hx1)
   rw [chkG_at roots hx1] at hO'
   have ha := getD_map (f := Nd.d) hx1
   have q1 : callL Tryz.prog (ext11b chk) 26 [.list ((ns.map Nd.d).take i), x.d] [] = some (.bool (nodeF (ns.take i) x), [.no], []) := by
    rw [← List.map_take]
    exact rnode_L2 (ns.take i) x hsx
   have sz := szN ns
   have gle : (i : Int) ≤ ns.length := by omega
   rw [ndat] at ha q1
   have hrt : rootB x = (x.k == 1 && decide (x.p < 0)) := rfl
   rw [hrt] at hO'
   generalize x.at_.map At.d = LA at *
   generalize x.st.map D.str = LS at *
   generalize nodeF (ns.take i) x = b at *
   generalize x.p = p at *
   generalize x.k = k at *
   generalize x.sp = sp at *
   generalize x.nm = nm at *
   generalize x.tx = tx at *
   clear hS hsx hrt hx1
   cases b with
   | false =>
    rw [if_neg (by decide)] at hO'
    simp only [Prod.mk.injEq] at hO'
    obtain ⟨o1, o2⟩ := hO'
    subst o1 o2
    clear hn hx hl hR
    repeat' (first|simp only [*, AVB, ↓reduceIte, Nat.reduceEqDiff, Nat.reduceLT, reduceCtorEq, Nat.reduceBEq, Nat.reduceAdd, dIntBin]|refine drW_intro (by kernel_rfl) ?_|refine gw_intro (fun h => ?_) (fun h => ?_) <;> try simp only [AVH] at h)
    refine hr _ ?_
    repeat' (first|simp only [*, AVB, ↓reduceIte, Nat.reduceEqDiff]|refine drW_intro (by kernel_rfl) ?_|refine gw_intro (fun h => ?_) (fun h => ?_) <;> try simp only [AVH] at h)
   | true =>
    rw [if_pos rfl] at hO'
    by_cases c1 : p < 0
    ·cases c2 : (k == 1) with
     | true =>
      rw [c2, decide_eq_true c1, Bool.true_and, if_pos rfl] at hO'
      have HO := Hd.mk hO'
      have HR := Hd.mk hro
      clear hO' hx hr hl hro
      repeat' (first|simp only [*, AVB, ↓reduceIte, Nat.reduceEqDiff, Nat.reduceLT, reduceCtorEq, Nat.reduceBEq, Nat.reduceAdd, dIntBin]|refine drW_intro (by kernel_rfl) ?_|refine gw_intro (fun h => ?_) (fun h => ?_) <;> try simp only [AVH] at h)
      have hro : 0 ≤ roots ∧ roots ≤ i := HR
      refine hn _ ⟨i + 1, roots + 1, h, ⟨by omega, by omega⟩, ?_, ?_, ?_, ?_, ?_, ?_, ?_, ?_, HO⟩ ?_
      ·simp only [*, AVL, ↓reduceIte]
      ·simp only [*, AVL, ↓reduceIte]
      ·simp only [*, AVL, ↓reduceIte, Nat.reduceEqDiff]
      ·simp only [*, AVL, ↓reduceIte, reduceCtorEq]
      ·simp only [*, AVL, ↓reduceIte, Nat.reduceEqDiff]
      ·simp only [*, AVL, ↓reduceIte, Nat.reduceEqDiff]
      ·simp only [*, AVL, ↓reduceIte, Nat.reduceEqDiff]
      ·simp only [*, AVL, ↓reduceIte, Nat.reduceEqDiff]
      ·simp only [slotI, *, AVB, ↓reduceIte]
       omega
     | false =>
      rw [c2, Bool.false_and, if_neg (by decide)] at hO'
      have HO := Hd.mk hO'
      have HR := Hd.mk hro
      clear hO' hx hr hl hro
      repeat' (first|simp only [*, AVB, ↓reduceIte, Nat.reduceEqDiff, Nat.reduceLT, reduceCtorEq, Nat.reduceBEq, Nat.reduceAdd, dIntBin]|refine drW_intro (by kernel_rfl) ?_|refine gw_intro (fun h => ?_) (fun h => ?_) <;> try simp only [AVH] at h)
      have hro : 0 ≤ roots ∧ roots ≤ i := HR
      refine hn _ ⟨i + 1, roots, h, ⟨by omega, by omega⟩, ?_, ?_, ?_, ?_, ?_, ?_, ?_, ?_, HO⟩ ?_
      ·simp only [*, AVL, ↓reduceIte]
      ·simp only [*, AVL, ↓reduceIte]
      ·simp only [*, AVL, ↓reduceIte, Nat.reduceEqDiff]
      ·simp only [*, AVL, ↓reduceIte, reduceCtorEq]
      ·simp only [*, AVL, ↓reduceIte, Nat.reduceEqDiff]
      ·simp only [*, AVL, ↓reduceIte, Nat.reduceEqDiff]
      ·simp only [*, AVL, ↓reduceIte, Nat.reduceEqDiff]
      ·simp only [*, AVL, ↓reduceIte, Nat.reduceEqDiff]
      ·simp only [slotI, *, AVB, ↓reduceIte]
       omega
    ·rw [decide_eq_false c1, Bool.and_false, if_neg (by decide)] at hO'
     have HO := Hd.mk hO'
     have HR := Hd.mk hro
     clear hO' hx hr hl hro
     repeat' (first|simp only [*, AVB, ↓reduceIte, Nat.reduceEqDiff, Nat.reduceLT, reduceCtorEq, Nat.reduceBEq, Nat.reduceAdd, dIntBin]|refine drW_intro (by kernel_rfl) ?_|refine gw_intro (fun h => ?_) (fun h => ?_) <;> try simp only [AVH] at h)
     have hro : 0 ≤ roots ∧ roots ≤ i := HR
     refine hn _ ⟨i + 1, roots, h, ⟨by omega, by omega⟩, ?_, ?_, ?_, ?_, ?_, ?_, ?_, ?_, HO⟩ ?_
     ·simp only [*, AVL, ↓reduceIte]
     ·simp only [*, AVL, ↓reduceIte]
     ·simp only [*, AVL, ↓reduceIte, Nat.reduceEqDiff]
     ·simp only [*, AVL, ↓reduceIte, reduceCtorEq]
     ·simp only [*, AVL, ↓reduceIte, Nat.reduceEqDiff]
     ·simp only [*, AVL, ↓reduceIte, Nat.reduceEqDiff]
     ·simp only [*, AVL, ↓reduceIte, Nat.reduceEqDiff]
     ·simp only [*, AVL, ↓reduceIte, Nat.reduceEqDiff]
     ·simp only [slotI, *, AVB, ↓reduceIte]
      omega
  ·have g9 : ¬ (i : Int) < ns.length := by omega
   have hie : i = ns.length := by omega
   rw [chkG_end roots hie.symm] at hO'
   by_cases c1 : roots = 1
   ·rw [if_pos c1] at hO'
    simp only [Prod.mk.injEq] at hO'
    obtain ⟨o1, o2⟩ := hO'
    subst o1 o2 c1
    have b1 : ((1 : Int) != 1) = false := rfl
    clear hn hr hl hR hie
    repeat' (first|simp only [*, AVB, ↓reduceIte, Nat.reduceEqDiff, Nat.reduceLT, reduceCtorEq, Nat.reduceBEq, dIntBin]|refine drW_intro (by kernel_rfl) ?_|refine gw_intro (fun h => ?_) (fun h => ?_) <;> try simp only [AVH] at h)
    refine hx _ _ ?_
    repeat' (first|simp only [*, AVB, ↓reduceIte, Nat.reduceEqDiff, Nat.reduceLT, Nat.reduceBEq, dIntBin]|refine drW_intro (by kernel_rfl) ?_|refine gw_intro (fun h => ?_) (fun h => ?_) <;> try simp only [AVH] at h)
   ·rw [if_neg c1] at hO'
    simp only [Prod.mk.injEq] at hO'
    obtain ⟨o1, o2⟩ := hO'
    have b1 : (roots != 1) = true := by simpa using c1
    subst hie
    subst o1 o2
    clear hn hr hl hR c1
    repeat' (first|simp only [*, AVB, ↓reduceIte, Nat.reduceEqDiff, Nat.reduceLT, reduceCtorEq, Nat.reduceBEq, dIntBin]|refine drW_intro (by kernel_rfl) ?_|refine gw_intro (fun h => ?_) (fun h => ?_) <;> try simp only [AVH] at h)
    refine hx _ _ ?_
    repeat' (first|simp only [*, AVB, ↓reduceIte, Nat.reduceEqDiff, Nat.reduceLT, reduceCtorEq, Nat.reduceBEq, dIntBin]|refine drW_intro (by kernel_rfl) ?_|refine gw_intro (fun h => ?_) (fun h => ?_) <;> try simp only [AVH] at h)
def errD (r : Int × Int) : D := if r.1 = 0 then .con .nilIface else faultD r.1 r.2
theorem fail_L (k a : Int) : callL Tryz.prog (ext11b chk) 57 [.int .i64 k, .int .i64 a] [] = some (faultD k a, [], []) := callL_ext (ext_in rfl)
set_option maxHeartbeats 16000000 in
theorem check_L (ns : List Nd) (hS : SmallD ns) : callL Tryz.prog (ext11b chk) 31 [.list (ns.map Nd.d)] [] = some (errD (chkF ns), [.no], []) := by
 have lN := lenM ns Nd.d
 have HL := Hd.mk hS.1
 have HS := Hd.mk hS
 clear hS
 obtain ⟨R, hR⟩ : ∃ R, Hd (R = errD (chkG (ns.take 0) (ns.drop 0) 0)) := ⟨_, rfl⟩
 rw [show errD (chkF ns) = R from (show R = errD (chkG (ns.take 0) (ns.drop 0) 0) from hR).symm]
 have hpb : pureB R = true := by
  have e : R = errD (chkG (ns.take 0) (ns.drop 0) 0) := hR
  rw [e]
  unfold errD
  split <;> rfl
 refine callK (m := 37) (res := [2]) (rs := [.tmp 2]) rfl Tryz.func31 rfl rfl rfl rfl rfl ?_
 repeat' (first|simp only [*, AVB, ↓reduceIte, Nat.reduceLT, reduceCtorEq, Nat.reduceBEq]|refine drW_intro (by kernel_rfl) ?_|refine gw_intro (fun h => ?_) (fun h => ?_) <;> try simp only [AVH] at h)
 refine loopH (fun st => ∃ (i : Nat) (roots : Int), i ≤ ns.length ∧ (0 ≤ roots ∧ roots ≤ i) ∧ st.slot 8 = .int .i64 i ∧ st.slot 3 = .int .i64 roots ∧ st.slot 0 = .list (ns.map Nd.d) ∧ st.slot 6 = .list (ns.map Nd.d) ∧ st.slot 7 = .int .i64 ns.length ∧ st.slot 2 = .con .nilIface ∧ st.room 2 = [] ∧ Hd (R = errD (chkG (ns.take i) (ns.drop i) roots))) (fun st => ns.length - slotI st 8) ?_ ?_
 ·refine ⟨0, 0, Nat.zero_le _, ⟨by decide, by decide⟩, ?_, ?_, ?_, ?_, ?_, ?_, ?_, hR⟩
  all_goals simp only [*, AVB, ↓reduceIte, Nat.reduceEqDiff, reduceCtorEq]
  all_goals rfl
 ·rintro st K ⟨i, roots, hi, hro, g8, g3, g0, g6, g7, g2, r2, hO⟩ hn hx hr
  have hl : ns.length ≤ 10000 := HL
  have hO' : R = errD (chkG (ns.take i) (ns.drop i) roots) := hO
  clear hO hpb
  by_cases h : i < ns.length
  ·have g9 : (i : Int) < ns.length := by omega
   have hw := wrapS i (by omega)
   have hwr : IntKind.i64.wrap (roots + 1) = roots + 1 := wrap64 _ (by omega) (by omega)
   obtain ⟨x, hx1⟩ := some_at h
   have hS : SmallD ns := HS
   have hsx := hS.2 x (List.mem_of_getElem? hx1)
   rw [chkG_at roots hx1] at hO'
   have ha := getD_map (f := Nd.d) hx1
   have q1 : callL Tryz.prog (ext11b chk) 56 [.list ((ns.map Nd.d).take i), x.d] [] = some (.bool (nodeF (ns.take i) x), [.no], []) := by
    rw [← List.map_take]
    exact node_L (ns.take i) x hsx
   have sz := szN ns
   have gle : (i : Int) ≤ ns.length := by omega
   rw [ndat] at ha q1
   have hrt : rootB x = (x.k == 1 && decide (x.p < 0)) := rfl
   rw [hrt] at hO'
   generalize x.at_.map At.d = LA at *
   generalize x.st.map D.str = LS at *
   generalize nodeF (ns.take i) x = b at *
   generalize x.p = p at *
   generalize x.k = k at *
   generalize x.sp = sp at *
   generalize x.nm = nm at *
   generalize x.tx = tx at *
   clear hS hsx hrt hx1
   cases b with
   | false =>
    rw [if_neg (by decide)] at hO'
    have hO2 : R = faultD 10 i := hO'
    have hf := fail_L (chk := chk) 10 i
    unfold faultD at hO2 hf
    subst hO2
    clear hn hx hl hR hO'
    repeat' (first|simp only [*, AVB, ↓reduceIte, Nat.reduceEqDiff, Nat.reduceLT, Nat.reduceLeDiff, reduceCtorEq, Nat.reduceBEq, Nat.reduceAdd, dIntBin]|refine drW_intro (by kernel_rfl) ?_|refine gw_intro (fun h => ?_) (fun h => ?_) <;> try simp only [AVH] at h)
    refine hr _ ?_
    repeat' (first|simp only [*, AVB, ↓reduceIte]|refine drW_intro (by kernel_rfl) ?_|refine gw_intro (fun h => ?_) (fun h => ?_) <;> try simp only [AVH] at h)
   | true =>
    rw [if_pos rfl] at hO'
    by_cases c1 : p < 0
    ·cases c2 : (k == 1) with
     | true =>
      rw [c2, decide_eq_true c1, Bool.true_and, if_pos rfl] at hO'
      have HO := Hd.mk hO'
      have HR := Hd.mk hro
      clear hO' hx hr hl hro
      repeat' (first|simp only [*, AVB, ↓reduceIte, Nat.reduceEqDiff, Nat.reduceLT, Nat.reduceLeDiff, reduceCtorEq, Nat.reduceBEq, Nat.reduceAdd, dIntBin]|refine drW_intro (by kernel_rfl) ?_|refine gw_intro (fun h => ?_) (fun h => ?_) <;> try simp only [AVH] at h)
      have hro : 0 ≤ roots ∧ roots ≤ i := HR
      refine hn _ ⟨i + 1, roots + 1, h, ⟨by omega, by omega⟩, ?_, ?_, ?_, ?_, ?_, ?_, ?_, HO⟩ ?_
      ·simp only [*, AVL, ↓reduceIte]
      ·simp only [*, AVL, ↓reduceIte, Nat.reduceEqDiff]
      ·simp only [*, AVL, ↓reduceIte, reduceCtorEq]
      ·simp only [*, AVL, ↓reduceIte, Nat.reduceEqDiff]
      ·simp only [*, AVL, ↓reduceIte, Nat.reduceEqDiff]
      ·simp only [*, AVL, ↓reduceIte, Nat.reduceEqDiff]
      ·simp only [*, AVL, ↓reduceIte, Nat.reduceEqDiff]
      ·simp only [slotI, *, AVB, ↓reduceIte]
       omega
     | false =>
      rw [c2, Bool.false_and, if_neg (by decide)] at hO'
      have HO := Hd.mk hO'
      have HR := Hd.mk hro
      clear hO' hx hr hl hro
      repeat' (first|simp only [*, AVB, ↓reduceIte, Nat.reduceEqDiff, Nat.reduceLT, Nat.reduceLeDiff, reduceCtorEq, Nat.reduceBEq, Nat.reduceAdd, dIntBin]|refine drW_intro (by kernel_rfl) ?_|refine gw_intro (fun h => ?_) (fun h => ?_) <;> try simp only [AVH] at h)
      have hro : 0 ≤ roots ∧ roots ≤ i := HR
      refine hn _ ⟨i + 1, roots, h, ⟨by omega, by omega⟩, ?_, ?_, ?_, ?_, ?_, ?_, ?_, HO⟩ ?_
      ·simp only [*, AVL, ↓reduceIte]
      ·simp only [*, AVL, ↓reduceIte, Nat.reduceEqDiff]
      ·simp only [*, AVL, ↓reduceIte, reduceCtorEq]
      ·simp only [*, AVL, ↓reduceIte, Nat.reduceEqDiff]
      ·simp only [*, AVL, ↓reduceIte, Nat.reduceEqDiff]
      ·simp only [*, AVL, ↓reduceIte, Nat.reduceEqDiff]
      ·simp only [*, AVL, ↓reduceIte, Nat.reduceEqDiff]
      ·simp only [slotI, *, AVB, ↓reduceIte]
       omega
    ·rw [decide_eq_false c1, Bool.and_false, if_neg (by decide)] at hO'
     have HO := Hd.mk hO'
     have HR := Hd.mk hro
     clear hO' hx hr hl hro
     have hlt : i + 1 ≤ ns.length := h
     repeat' (first|simp only [*, AVB, ↓reduceIte, Nat.reduceEqDiff, Nat.reduceLT, Nat.reduceLeDiff, reduceCtorEq, Nat.reduceBEq, Nat.reduceAdd, dIntBin]|refine drW_intro (by kernel_rfl) ?_|refine gw_intro (fun h => ?_) (fun h => ?_) <;> try simp only [AVH] at h)
     all_goals (
      have hro : 0 ≤ roots ∧ roots ≤ i := HR
      refine hn _ ⟨i + 1, roots, hlt, ⟨by omega, by omega⟩, ?_, ?_, ?_, ?_, ?_, ?_, ?_, HO⟩ ?_
      ·simp only [*, AVL, ↓reduceIte]
      ·simp only [*, AVL, ↓reduceIte, Nat.reduceEqDiff]
      ·simp only [*, AVL, ↓reduceIte, reduceCtorEq]
      ·simp only [*, AVL, ↓reduceIte, Nat.reduceEqDiff]
      ·simp only [*, AVL, ↓reduceIte, Nat.reduceEqDiff]
      ·simp only [*, AVL, ↓reduceIte, Nat.reduceEqDiff]
      ·simp only [*, AVL, ↓reduceIte, Nat.reduceEqDiff]
      ·simp only [slotI, *, AVB, ↓reduceIte]
       omega)
  ·have g9 : ¬ (i : Int) < ns.length := by omega
   have hie : i = ns.length := by omega
   rw [chkG_end roots hie.symm] at hO'
   by_cases c1 : roots = 1
   ·rw [if_pos c1] at hO'
    have hO2 : R = .con .nilIface := hO'
    subst hO2 c1
    have b1 : ((1 : Int) != 1) = false := rfl
    clear hn hr hl hR hie hO'
    repeat' (first|simp only [*, AVB, ↓reduceIte, Nat.reduceLT, dIntBin]|refine drW_intro (by kernel_rfl) ?_|refine gw_intro (fun h => ?_) (fun h => ?_) <;> try simp only [AVH] at h)
    refine hx _ _ ?_
    repeat' (first|simp only [*, AVB, ↓reduceIte, Nat.reduceEqDiff, Nat.reduceLT, Nat.reduceBEq, dIntBin]|refine drW_intro (by kernel_rfl) ?_|refine gw_intro (fun h => ?_) (fun h => ?_) <;> try simp only [AVH] at h)
   ·rw [if_neg c1] at hO'
    have hO2 : R = faultD 15 i := hO'
    have b1 : (roots != 1) = true := by simpa using c1
    subst hie
    have hf := fail_L (chk := chk) 15 ns.length
    unfold faultD at hO2 hf
    subst hO2
    clear hn hr hl hR c1 hO'
    repeat' (first|simp only [*, AVB, ↓reduceIte, Nat.reduceLT, dIntBin]|refine drW_intro (by kernel_rfl) ?_|refine gw_intro (fun h => ?_) (fun h => ?_) <;> try simp only [AVH] at h)
    refine hx _ _ ?_
    repeat' (first|simp only [*, AVB, ↓reduceIte, Nat.reduceEqDiff, Nat.reduceLT, reduceCtorEq, Nat.reduceBEq, dIntBin]|refine drW_intro (by kernel_rfl) ?_|refine gw_intro (fun h => ?_) (fun h => ?_) <;> try simp only [AVH] at h)
end Go.Av
