/- The evaluator, in one text: over any program; no conditions but those that each law names. -/
import Derived.Test.YtaghfmgeccapbaaGreatDoorAvse
import Derived.Test.YtaghfmgeccapbaaGreatDoorAvsc
import Derived.Test.YtaghfmgeccapbaaGreatDoorAvsd
set_option linter.unusedSimpArgs false
set_option linter.unusedVariables false
set_option linter.unusedSectionVars false
set_option maxRecDepth 100000
namespace Go.Av
open Go.Proofs
variable [Rk] {chk : List D → Bool}
theorem range_any_succ (p : Nat → Bool) (i : Nat) : (List.range (i + 1)).any p = ((List.range i).any p || p i) := by
  rw [List.range_succ]; simp
set_option maxHeartbeats 2000000 in
theorem rholds3_L (t : List UInt8) (fold : Bool) (v : List UInt8) (ht : t.length < 400000000) (hv : v.length < 400000000) :
    callL Tryz.prog (ext11b chk) 53 [condD 3 t fold, .str v] [] = some (.bool (rholdF 3 (lowC1 fold t) (lowC1 fold v)), [.no], []) := by
  unfold condD
  have hv' : (lowC1 fold v).length < 400000000 := by rw [lowC1_len]; exact hv
  have ht' : (lowC1 fold t).length < 400000000 := by rw [lowC1_len]; exact ht
  obtain ⟨r1, hl1⟩ := rlower_L (chk := chk) t (by omega)
  obtain ⟨r2, hl2⟩ := rlower_L (chk := chk) v (by omega)
  have hbl := rblank_L (chk := chk) (lowC1 fold t) (by omega)
  have hnm := rnames_L (chk := chk) (lowC1 fold v) (by omega)
  have hpl := parts_len (lowC1 fold v) []
  have hR : rholdF 3 (lowC1 fold t) (lowC1 fold v) = if ((lowC1 fold t) == []) = true then false else (!(lowC1 fold t).any blankB && (partsB (lowC1 fold v) []).any (· == (lowC1 fold t))) := rfl
  rw [hR]
  clear hR
  have hlow : ∃ t' v', lowC1 fold t = t' ∧ lowC1 fold v = v' := ⟨_, _, rfl, rfl⟩
  obtain ⟨t', v', e1, e2⟩ := hlow
  have f1 : fold = true → lowB t = t' ∧ lowB v = v' := fun h => by subst h; exact ⟨e1, e2⟩
  have f0 : fold = false → t = t' ∧ v = v' := fun h => by subst h; exact ⟨e1, e2⟩
  rw [e1] at hbl ht' ⊢
  rw [e2] at hnm hpl hv' ⊢
  generalize hws : partsB v' [] = ws at *
  have hwl : ws.length < 1000000000 := by omega
  clear hpl hws e1 e2
  refine cK 102 4 Tryz.func53 ?_
  have hcase : (fold = true ∧ lowB t = t' ∧ lowB v = v') ∨ (fold = false ∧ t = t' ∧ v = v') := by
    cases fold with
    | true => exact .inl ⟨rfl, f1 rfl⟩
    | false => exact .inr ⟨rfl, f0 rfl⟩
  clear f0 f1
  rcases hcase with ⟨rfl, g1, g2⟩ | ⟨rfl, g1, g2⟩
  all_goals
    repeat' (first|simp only [*, AVB, AVY, ↓reduceIte, Nat.reduceEqDiff, Nat.reduceLT, Nat.reduceBEq, Nat.reduceAdd, Int.reduceBEq, dIntBin]|refine gw_intro (fun h => ?_) (fun h => ?_) <;> try simp only [AVH] at h)
    all_goals try (simp_all; done)
    refine loopH (fun s => ∃ i : Nat, i ≤ ws.length ∧ s.slot 9 = .int .i64 i ∧ s.slot 8 = .list (ws.map .str) ∧ s.slot 5 = .str t' ∧ s.slot 7 = .bool ((ws.take i).any (· == t')) ∧ s.room 7 = [] ∧ s.slot 2 = .ptr 2 1 0 ∧ ∃ c d rs, s.box 2 = some ⟨1, [.int .i64 3, c, d], rs⟩) (fun s => ws.length - slotI s 9) ?_ ?_
    · refine ⟨0, Nat.zero_le _, ?_, ?_, ?_, ?_, ?_, ?_, .str t, ?_⟩
      rotate_right
      · first
        | (refine ⟨.bool true, (padR [] 3).take 3, ?_⟩
           simp only [*, AVB, ↓reduceIte]
           done)
        | (refine ⟨.bool false, (padR [] 3).take 3, ?_⟩
           simp only [*, AVB, ↓reduceIte]
           done)
      all_goals simp only [*, AVB, ↓reduceIte, Nat.reduceEqDiff]
      all_goals rfl
    · rintro s K ⟨i, hi, h9, h8, h5, h7, hr7, h2, c, d, rs, hb⟩ hn hx hr
      by_cases hlt : i < ws.length
      · obtain ⟨w, hwl'⟩ : ∃ w, ws[i]? = some w := ⟨ws[i], List.getElem?_eq_getElem hlt⟩
        have hlt' : (i : Int) < ws.length := by omega
        have hlm : ((ws.map D.str).length : Int) = ws.length := by simp
        have hgd : (ws.map D.str).getD i .bad = .str w := by simp [List.getD, hwl']
        have hw1 : IntKind.i64.wrap ((i : Int) + 1) = ((i + 1 : Nat) : Int) := by rw [wrap64 _ (by omega) (by omega)]; omega
        have hta := take_any (p := (· == t')) hwl'
        cases hany : (ws.take i).any (· == t') with
        | true =>
          rw [hany] at h7 hta
          clear hany
          rw [Bool.true_or] at hta
          have hta' := Hd.mk hta
          clear hta
          refine Gy ?_
          refine hn _ ⟨i + 1, hlt, ?_, ?_, ?_, ?_, ?_, ?_, c, d, rs, ?_⟩ ?_
          ·exact L
          ·exact L
          ·exact L
          · rw [show ((ws.take (i + 1)).any (· == t')) = true from hta']; simp only [*, AVB, ↓reduceIte, Nat.reduceEqDiff]
          ·exact L
          ·exact L
          ·exact L
          ·exact Zy
        | false =>
          rw [hany] at h7 hta
          clear hany
          rw [Bool.false_or] at hta
          have hta' := Hd.mk hta
          clear hta
          refine Gy ?_
          refine hn _ ⟨i + 1, hlt, ?_, ?_, ?_, ?_, ?_, ?_, c, d, rs, ?_⟩ ?_
          ·exact L
          ·exact L
          ·exact L
          · rw [show ((ws.take (i + 1)).any (· == t')) = (w == t') from hta']; simp only [*, AVB, ↓reduceIte, Nat.reduceEqDiff]
          ·exact L
          ·exact L
          ·exact L
          ·exact Zy
      · have hge : ¬ (i : Int) < ws.length := by omega
        have hlm : ((ws.map D.str).length : Int) = ws.length := by simp
        refine Gy ?_
        refine hx _ _ ?_
        have hil : i = ws.length := by omega
        subst hil
        rw [List.take_length] at h7
        refine Gy ?_
        all_goals try (simp_all; done)
end Go.Av
namespace Go.Av
open Go.Proofs
variable [Rk] {chk : List D → Bool}
set_option maxHeartbeats 2000000 in
theorem rholds7_L (t : List UInt8) (fold : Bool) (v : List UInt8) (ht : t.length < 400000000) (hv : v.length < 400000000) :
    callL Tryz.prog (ext11b chk) 53 [condD 7 t fold, .str v] [] = some (.bool (rholdF 7 (lowC1 fold t) (lowC1 fold v)), [.no], []) := by
  unfold condD
  have hv' : (lowC1 fold v).length < 400000000 := by rw [lowC1_len]; exact hv
  have ht' : (lowC1 fold t).length < 400000000 := by rw [lowC1_len]; exact ht
  obtain ⟨r1, hl1⟩ := rlower_L (chk := chk) t (by omega)
  obtain ⟨r2, hl2⟩ := rlower_L (chk := chk) v (by omega)
  have hat := fun k hk => at_L (chk := chk) (lowC1 fold v) (lowC1 fold t) k (by omega) (by omega) hk
  have hR : rholdF 7 (lowC1 fold t) (lowC1 fold v) = if ((lowC1 fold t) == []) = true then false else (List.range (lowC1 fold v).length).any (atF (lowC1 fold v) · (lowC1 fold t)) := rfl
  rw [hR]
  clear hR
  have hlow : ∃ t' v', lowC1 fold t = t' ∧ lowC1 fold v = v' := ⟨_, _, rfl, rfl⟩
  obtain ⟨t', v', e1, e2⟩ := hlow
  have f1 : fold = true → lowB t = t' ∧ lowB v = v' := fun h => by subst h; exact ⟨e1, e2⟩
  have f0 : fold = false → t = t' ∧ v = v' := fun h => by subst h; exact ⟨e1, e2⟩
  rw [e1] at ht' ⊢
  rw [e2] at hv' ⊢
  rw [e1, e2] at hat
  have hat' := Hd.mk hat
  clear hat e1 e2
  refine cK 102 4 Tryz.func53 ?_
  have hcase : (fold = true ∧ lowB t = t' ∧ lowB v = v') ∨ (fold = false ∧ t = t' ∧ v = v') := by
    cases fold with
    | true => exact .inl ⟨rfl, f1 rfl⟩
    | false => exact .inr ⟨rfl, f0 rfl⟩
  clear f0 f1
  rcases hcase with ⟨rfl, g1, g2⟩ | ⟨rfl, g1, g2⟩
  all_goals
    repeat' (first|simp only [*, AVB, AVY, ↓reduceIte, Nat.reduceEqDiff, Nat.reduceLT, Nat.reduceLeDiff, reduceCtorEq, Nat.reduceBEq, String.reduceBEq, Nat.reduceAdd, Nat.reduceSub, Nat.reduceMul, Int.reduceLE, Int.reduceLT, Int.reduceToNat, Int.reduceBEq, Int.reduceBNe, List.zipWith, dIntBin]|refine gw_intro (fun h => ?_) (fun h => ?_) <;> try simp only [AVH] at h)
    all_goals try (simp_all; done)
    refine loopH (fun s => ∃ i : Nat, i ≤ v'.length ∧ s.slot 10 = .int .i64 i ∧ s.slot 6 = .str v' ∧ s.slot 5 = .str t' ∧ s.slot 7 = .bool ((List.range i).any (atF v' · t')) ∧ s.room 7 = []) (fun s => v'.length - slotI s 10) ?_ ?_
    · exact ⟨0, Nat.zero_le _, Iy, Iy, Iy, Iy, Iy⟩
    · rintro s K ⟨i, hi, h9, h8, h5, h7, hr7⟩ hn hx hr
      by_cases hlt : i < v'.length
      · have hcall := hat' i (by omega)
        have hlt' : (i : Int) < v'.length := by omega
        have hw1 : IntKind.i64.wrap ((i : Int) + 1) = ((i + 1 : Nat) : Int) := by rw [wrap64 _ (by omega) (by omega)]; omega
        have hta := range_any_succ (atF v' · t') i
        cases hany : (List.range i).any (atF v' · t') with
        | true =>
          rw [hany] at h7 hta
          clear hany
          rw [Bool.true_or] at hta
          have hta' := Hd.mk hta
          clear hta
          refine Gy ?_
          refine hn _ ⟨i + 1, hlt, ?_, ?_, ?_, ?_, ?_⟩ ?_
          ·exact L
          ·exact L
          ·exact L
          · rw [show ((List.range (i + 1)).any (atF v' · t')) = true from hta']; simp only [*, AVB, AVY, ↓reduceIte, Nat.reduceEqDiff, Nat.reduceLT, Nat.reduceLeDiff, reduceCtorEq, Nat.reduceBEq, String.reduceBEq, Nat.reduceAdd, Nat.reduceSub, Nat.reduceMul, Int.reduceLE, Int.reduceLT, Int.reduceToNat, Int.reduceBEq, Int.reduceBNe, List.zipWith, dIntBin]
          ·exact L
          ·exact Zy
        | false =>
          rw [hany] at h7 hta
          clear hany
          rw [Bool.false_or] at hta
          have hta' := Hd.mk hta
          clear hta
          refine Gy ?_
          refine hn _ ⟨i + 1, hlt, ?_, ?_, ?_, ?_, ?_⟩ ?_
          ·exact L
          ·exact L
          ·exact L
          · rw [show ((List.range (i + 1)).any (atF v' · t')) = atF v' i t' from hta']; simp only [*, AVB, AVY, ↓reduceIte, Nat.reduceEqDiff, Nat.reduceLT, Nat.reduceLeDiff, reduceCtorEq, Nat.reduceBEq, String.reduceBEq, Nat.reduceAdd, Nat.reduceSub, Nat.reduceMul, Int.reduceLE, Int.reduceLT, Int.reduceToNat, Int.reduceBEq, Int.reduceBNe, List.zipWith, dIntBin]
          ·exact L
          ·exact Zy
      · have hge : ¬ (i : Int) < v'.length := by omega
        refine Gy ?_
        refine hx _ _ ?_
        have hil : i = v'.length := by omega
        subst hil
        refine Gy ?_
        all_goals try (simp_all; done)
end Go.Av
namespace Go.Av
open Go.Proofs
variable [Rk] {chk : List D → Bool}
theorem rholds_L (op : Int) (t : List UInt8) (fold : Bool) (v : List UInt8) (ht : t.length < 400000000) (hv : v.length < 400000000) :
    callL Tryz.prog (ext11b chk) 53 [condD op t fold, .str v] [] = some (.bool (rholdF op (lowC1 fold t) (lowC1 fold v)), [.no], []) := by
  by_cases h3 : op = 3
  · subst h3; exact rholds3_L t fold v ht hv
  · by_cases h7 : op = 7
    · subst h7; exact rholds7_L t fold v ht hv
    · exact rholdsO_L op t fold v ht hv (by simpa using h3) (by simpa using h7)
end Go.Av
namespace Go.Av
variable [Rk]
open Go.Proofs

theorem preB_at (t v : List UInt8) : preB t v = atF v 0 t := by
  rw [preB_eq, atF]
  simp
theorem sufB_at (t v : List UInt8) : sufF t v = (decide (t.length ≤ v.length) && atF v (v.length - t.length) t) := by
  unfold sufF atF
  by_cases h : t.length ≤ v.length
  · rw [decide_eq_true h, Nat.sub_add_cancel h, List.take_length]
    simp
  · rw [decide_eq_false h]
    rfl
theorem lowC_blank (x : UInt8) : blankB (lowC x) = blankB x := by
  rw [blank_nat, blank_nat]
  have h := x.toNat_lt
  unfold lowC
  split
  · rw [UInt8.toNat_add]
    have : (32 : UInt8).toNat = 32 := rfl
    congr 1
    apply propext
    omega
  · rfl
theorem lowB_blank (l : List UInt8) : (lowB l).any blankB = l.any blankB := by
  induction l with
  | nil => rfl
  | cons x r ih =>
    simp only [lowB, List.map_cons, List.any_cons] at ih ⊢
    rw [lowC_blank, ih]
theorem lowC1_blank (fold : Bool) (l : List UInt8) : (lowC1 fold l).any blankB = l.any blankB := by
  unfold lowC1
  split
  · exact lowB_blank l
  · rfl
theorem lowC1_nil (fold : Bool) (l : List UInt8) : (lowC1 fold l == []) = (l == []) := by
  rw [Bool.eq_iff_iff, beq_iff_eq, beq_iff_eq]
  constructor
  · intro h
    have := congrArg List.length h
    rw [lowC1_len] at this
    exact List.length_eq_zero_iff.1 this
  · intro h
    subst h
    cases fold <;> rfl
theorem has_at (t : List UInt8) (ht : t ≠ []) : ∀ (v : List UInt8), hasB t v = (List.range v.length).any (atF v · t)
  | [] => by
    cases t with
    | nil => exact absurd rfl ht
    | cons a r => rfl
  | x :: r => by
    rw [hasB, has_at t ht r, preB_at, List.length_cons, List.range_succ_eq_map, List.any_cons, List.any_map]
    congr 1
    congr 1
    funext k
    simp only [Function.comp, atF, List.length_cons]
    rw [show k.succ + t.length = (k + t.length) + 1 from by omega, List.take_succ_cons, List.drop_succ_cons]
    congr 1
    simp
theorem dash_at (t v : List UInt8) : dashF t v = (t == v || atF v 0 (t ++ [45])) := by
  unfold dashF
  rw [← preB_at]
  induction t generalizing v with
  | nil =>
    cases v with
    | nil => rfl
    | cons x r =>
      simp only [preB, List.length_nil, List.drop_zero, List.nil_append, List.getD_cons_zero, Bool.true_and, Bool.and_true]
      rw [show ((x :: r : List UInt8) == []) = false from rfl, show (([] : List UInt8) == x :: r) = false from rfl]
      simp only [Bool.false_or]
      rw [Bool.eq_iff_iff, beq_iff_eq, beq_iff_eq]
      exact eq_comm
  | cons a t ih =>
    cases v with
    | nil => rfl
    | cons x r =>
      simp only [preB, List.length_cons, List.drop_succ_cons, List.cons_append, List.cons_beq_cons]
      rw [Bool.and_assoc, ih r]
      cases (a == x) <;> simp
theorem contains_any (ls : List (List UInt8)) (t : List UInt8) : ls.contains t = ls.any (· == t) := by
  induction ls with
  | nil => rfl
  | cons x r ih =>
    rw [List.contains_cons, List.any_cons, ih]
    congr 1
    rw [Bool.eq_iff_iff, beq_iff_eq, beq_iff_eq]
    exact eq_comm
theorem holds_eq (op : Int) (t : List UInt8) (fold : Bool) (v : List UInt8) : holdsF op t fold v = rholdF op (lowC1 fold t) (lowC1 fold v) := by
  have hb := lowC1_blank fold t
  have hn := lowC1_nil fold t
  unfold holdsF neverF
  rw [← hb, ← hn]
  generalize lowC1 fold t = t'
  generalize lowC1 fold v = v'
  unfold holdF rholdF
  simp only [beq_iff_eq]
  by_cases h1 : op = 1
  · subst h1; simp
  by_cases h2 : op = 2
  · subst h2
    simp only [Int.reduceEq, if_true, if_false, Bool.false_eq_true, reduceIte]
    rw [Bool.eq_iff_iff, beq_iff_eq, beq_iff_eq]
    exact eq_comm
  by_cases h4 : op = 4
  · subst h4
    simp only [Int.reduceEq, if_true, if_false, Bool.false_eq_true, reduceIte]
    exact dash_at t' v'
  by_cases h3 : op = 3
  · subst h3
    simp only [Int.reduceEq, if_true, if_false, Bool.false_eq_true, reduceIte]
    rw [contains_any]
    by_cases hz : t' = []
    · simp [hz]
    · cases t'.any blankB <;> simp [hz]
  by_cases h5 : op = 5
  · subst h5
    simp only [Int.reduceEq, if_true, if_false, Bool.false_eq_true, reduceIte]
    rw [preB_at]
    by_cases hz : t' = []
    · simp [hz]
    · simp [hz]
  by_cases h6 : op = 6
  · subst h6
    simp only [Int.reduceEq, if_true, if_false, Bool.false_eq_true, reduceIte]
    rw [sufB_at]
    by_cases hz : t' = []
    · simp [hz]
    · simp [hz]
  by_cases h7 : op = 7
  · subst h7
    simp only [Int.reduceEq, if_true, if_false, Bool.false_eq_true, reduceIte]
    by_cases hz : t' = []
    · simp [hz]
    · rw [has_at t' hz]
      simp [hz]
  · simp [h1, h2, h3, h4, h5, h6, h7]
end Go.Av
namespace Go.Av
open Go.Proofs
variable [Rk] {chk : List D → Bool}
def Nam.ok (nm : Nam) : Prop := nm.pre.length ≤ 1000 ∧ nm.sps.length ≤ 1000
theorem str_getD {l : List (List UInt8)} {j : Nat} (h : j < l.length) : (l.map D.str).getD j .bad = .str (l.getD j []) := by
  simp [List.getD, h]
theorem str_over {l : List (List UInt8)} {j : Nat} (h : ¬ j < l.length) : l.getD j [] = [] := by
  simp [List.getD, List.getElem?_eq_none (Nat.le_of_not_lt h)]
end Go.Av
namespace Go.Av
open Go.Proofs
variable [Rk] {chk : List D → Bool}
theorem space_hit {nm : Nam} {p x : List UInt8} {i : Nat} (ha : ∀ (j : Nat) y, j < i → nm.pre[j]? = some y → (y == p) = false) (h : nm.pre[i]? = some x) (hx : (x == p) = true) : spaceF nm p = (nm.sps.getD i [], true) := by
  have : nm.pre.findIdx? (· == p) = some i := by
    rw [List.findIdx?_eq_some_iff_getElem]
    obtain ⟨hl, he⟩ := List.getElem?_eq_some_iff.1 h
    refine ⟨hl, by rw [he]; exact hx, fun j hj => ?_⟩
    have := ha j _ hj (List.getElem?_eq_getElem (by omega))
    simp [this]
  unfold spaceF
  rw [this]
theorem space_no {nm : Nam} {p : List UInt8} (ha : ∀ (j : Nat) y, nm.pre[j]? = some y → (y == p) = false) : spaceF nm p = ([], false) := by
  have : nm.pre.findIdx? (· == p) = none := by
    rw [List.findIdx?_eq_none_iff]
    intro x hx
    obtain ⟨j, hj⟩ := List.mem_iff_getElem?.1 hx
    exact ha j x hj
  unfold spaceF
  rw [this]
set_option maxHeartbeats 1000000 in
theorem rspace_L (nm : Nam) (p : List UInt8) (hn : nm.ok) : callL Tryz.prog (ext11b chk) 69 [.agg nm.cs, .str p] [] = some (.tuple [.str (spaceF nm p).1, .bool (spaceF nm p).2], [.no, .no], []) := by
  have lN := lenM nm.sps D.str
  have lP := lenM nm.pre D.str
  have hp1 := hn.1
  clear hn
  unfold Nam.cs
  refine callK (m := 31) (res := [4, 5]) (rs := [.tmp 4, .tmp 5]) rfl Tryz.func69 rfl rfl rfl rfl rfl ?_
  refine Gy ?_
  refine loopH (fun s => ∃ i : Nat, i ≤ nm.pre.length ∧ s.slot 6 = .int .i64 i ∧ s.slot 1 = .str p ∧ s.slot 2 = .ptr 2 1 0 ∧ (∃ rs, s.box 2 = some ⟨1, [.bool nm.has, .str nm.dft, .list (nm.pre.map .str), .list (nm.sps.map .str)], rs⟩) ∧ (∀ (j : Nat) y, j < i → nm.pre[j]? = some y → (y == p) = false)) (fun s => nm.pre.length - slotI s 6) ?_ ?_
  · exact ⟨0, Nat.zero_le _, Iy, Iy, Iy, ⟨(padR [] 4).take 4, Iy⟩, fun j y hj => absurd hj (Nat.not_lt_zero j)⟩
  · rintro s K ⟨i, hi, h6, h1, h2, ⟨rs, hb⟩, hany⟩ hn hx hr
    have hany' := Hd.mk hany
    clear hany
    by_cases hlt : i < nm.pre.length
    · obtain ⟨x, hxl⟩ : ∃ x, nm.pre[i]? = some x := ⟨nm.pre[i], List.getElem?_eq_getElem hlt⟩
      have hlt' : (i : Int) < nm.pre.length := by omega
      have hgd : (nm.pre.map D.str).getD i .bad = .str x := by simp [List.getD, hxl]
      have hw1 := wrapS i (by omega)
      cases htx : (x == p) with
      | true =>
        have hres := space_hit hany' hxl htx
        by_cases hs : i < nm.sps.length
        · have hg := str_getD hs
          have hs2 : (i : Int) < nm.sps.length := by omega
          clear hs
          rw [hres] at hr
          refine Gy ?_
          exact hr _ Wy
        · have hg := str_over hs
          have hs2 : ¬ (i : Int) < nm.sps.length := by omega
          clear hs
          rw [hres] at hr
          refine Gy ?_
          exact hr _ Wy
      | false =>
        refine Gy ?_
        refine hn _ ⟨i + 1, hlt, ?_, ?_, ?_, ⟨rs, ?_⟩, ?_⟩ ?_
        ·exact L
        ·exact L
        ·exact L
        ·exact L
        · intro j y hj hy
          rcases Nat.lt_succ_iff_lt_or_eq.1 hj with h | rfl
          · exact hany' j y h hy
          · rw [hxl] at hy
            injection hy with hy
            rw [← hy]
            exact htx
        ·exact Zy
    · have hge : ¬ (i : Int) < nm.pre.length := by omega
      have hres := space_no (nm := nm) (p := p) fun j y hy => hany' j y (by have := (List.getElem?_eq_some_iff.1 hy).1; omega) hy
      rw [hres] at hx
      refine Gy ?_
      exact hx 0 _ Wy
theorem beq_sym (a b : List UInt8) : (a == b) = (b == a) := by rw [Bool.eq_iff_iff, beq_iff_eq, beq_iff_eq]; exact eq_comm
end Go.Av
namespace Go.Av
open Go.Proofs
variable [Rk] {chk : List D → Bool}
theorem val_small {ns : List Nd} (hS : SmallD ns) (n : Int) (sp nm : List UInt8) : (valI ns n sp nm).1.length ≤ 1000000 := by
  unfold valI
  split
  · cases h : (atsAt ns n.toNat).find? (sameN sp nm) with
    | none => simp [foundF]
    | some a =>
      have hm := List.mem_of_find?_eq_some h
      unfold atsAt at hm
      cases e : ns[n.toNat]? with
      | none => rw [e] at hm; cases hm
      | some x =>
        rw [e] at hm
        have := ((hS.2 x (List.mem_of_getElem? e)).2.2.2.2.2 a hm).2.2
        simp only [foundF]
        omega
  · simp
set_option maxHeartbeats 1000000 in
theorem rattr_L (ns : List Nd) (n : Int) (name : List UInt8) (op : Int) (tx : List UInt8) (hS : SmallD ns) (ht : tx.length ≤ 1000) :
    callL Tryz.prog (ext11b chk) 52 [.list (ns.map Nd.d), .int .i64 n, .str name, .agg [.int .i64 op, .str tx, .bool false]] [] = some (.bool (plainV ns n name op tx), [.no], []) := by
  have hv := rval39_L (chk := chk) ns n [] name hS
  have hl := val_small hS n [] name
  have hh : callL Tryz.prog (ext11b chk) 53 [.agg [.int .i64 op, .str tx, .bool false], .str (valI ns n [] name).1] [] = _ := rholds_L (chk := chk) op tx false (valI ns n [] name).1 (by omega) (by omega)
  rw [← holds_eq] at hh
  unfold plainV
  clear hl hS
  generalize valI ns n [] name = z at hv hh ⊢
  obtain ⟨z1, z2⟩ := z
  generalize holdsF op tx false (z1, z2).1 = q at hh ⊢
  generalize ns.map Nd.d = L at *
  cases z2 with
  | true =>
    exact cWy 24 8 Tryz.func52
  | false =>
    exact cWy 24 8 Tryz.func52
set_option maxHeartbeats 2000000 in
theorem rinPlace_L (nm : Nam) (s : Sf) (sp : List UInt8) (at_ : Bool) (hn : nm.ok) : callL Tryz.prog (ext11b chk) 51 [s.d, .str sp, .agg nm.cs, .bool at_] [] = some (.bool (inPlF nm s.ns s.pre sp at_), [.no], []) := by
  have hs : callL Tryz.prog (ext11b chk) 69 [.agg [.bool nm.has, .str nm.dft, .list (nm.pre.map .str), .list (nm.sps.map .str)], .str s.pre] [] = _ := rspace_L nm s.pre hn
  have bs1 := beq_sym nm.dft sp
  have bs2 := beq_sym (spaceF nm s.pre).1 sp
  unfold Nam.cs Sf.d inPlF
  generalize hP : spaceF nm s.pre = z at hs bs2 ⊢
  obtain ⟨z1, z2⟩ := z
  clear hP hn
  by_cases k0 : s.ns = 0
  · rw [if_pos k0]
    rw [k0]
    clear k0
    cases at_ with
    | true =>
      exact cWy 57 8 Tryz.func51
    | false =>
      cases hh : nm.has with
      | true =>
        rw [hh] at hs
        exact cWy 57 8 Tryz.func51
      | false =>
        rw [hh] at hs
        exact cWy 57 8 Tryz.func51
  · rw [if_neg k0]
    obtain ⟨j1, j2, j3⟩ := neI k0
    clear k0
    by_cases k1 : s.ns = 1
    · rw [if_pos k1]
      rw [k1]
      clear k1 j1 j2 j3
      exact cWy 57 8 Tryz.func51
    · rw [if_neg k1]
      obtain ⟨i1, i2, i3⟩ := neI k1
      clear k1
      by_cases k2 : s.ns = 2
      · rw [if_pos k2]
        rw [k2]
        clear k2 j1 j2 j3 i1 i2 i3
        exact cWy 57 8 Tryz.func51
      · rw [if_neg k2]
        obtain ⟨l1, l2, l3⟩ := neI k2
        clear k2
        by_cases k3 : s.ns = 3
        · rw [if_pos k3]
          obtain ⟨m1, m2, m3⟩ := eqI k3
          clear k3
          cases z2 with
          | true =>
            exact cWy 57 8 Tryz.func51
          | false =>
            exact cWy 57 8 Tryz.func51
        · rw [if_neg k3]
          obtain ⟨m1, m2, m3⟩ := neI k3
          clear k3
          exact cWy 57 8 Tryz.func51
end Go.Av
namespace Go.Av
open Go.Proofs
variable [Rk] {chk : List D → Bool}
theorem tmod0 (x a : Int) : (x.tmod a == 0) = (x % a == 0) := by
  rw [Bool.eq_iff_iff, beq_iff_eq, beq_iff_eq, ← Int.dvd_iff_tmod_eq_zero, ← Int.dvd_iff_emod_eq_zero]
theorem has_ref (a b n : Int) : hasAB a b n = (if n < 1 then false else if a = 0 then n == b else (if (n - b).tmod a == 0 then decide (0 ≤ (n - b).tdiv a) else false)) := by
  unfold hasAB
  by_cases h1 : n < 1
  · rw [if_pos h1, if_pos h1]
  rw [if_neg h1, if_neg h1]
  by_cases h2 : a = 0
  · rw [if_pos (.inl h2), if_pos h2]
  rw [if_neg h2]
  by_cases h3 : n = b
  · subst h3
    rw [if_pos (.inr rfl), Int.sub_self, Int.zero_tmod, Int.zero_tdiv]
    simp
  rw [if_neg (by simp [h2, h3])]
  rw [tmod0]
  cases hm : ((n - b) % a == 0) with
  | false => simp
  | true =>
    rw [beq_iff_eq, ← Int.dvd_iff_emod_eq_zero] at hm
    obtain ⟨q, hq⟩ := hm
    rw [if_pos rfl, hq, Int.mul_tdiv_cancel_left _ h2]
    have hq0 : q ≠ 0 := fun e => by rw [e] at hq; omega
    by_cases ha : 0 < a
    · rw [decide_eq_true ha]
      by_cases hq1 : 0 < q
      · have : 0 < a * q := Int.mul_pos ha hq1
        rw [decide_eq_true (show b < n by omega), decide_eq_true (show 0 ≤ q by omega)]
        rfl
      · have : a * q < 0 := Int.mul_neg_of_pos_of_neg ha (by omega)
        rw [decide_eq_false (show ¬ b < n by omega), decide_eq_false (show ¬ 0 ≤ q by omega)]
        rfl
    · rw [decide_eq_false ha]
      by_cases hq1 : 0 < q
      · have : a * q < 0 := Int.mul_neg_of_neg_of_pos (by omega) hq1
        rw [decide_eq_false (show ¬ b < n by omega), decide_eq_true (show 0 ≤ q by omega)]
        rfl
      · have : 0 < a * q := Int.mul_pos_of_neg_of_neg (by omega) (by omega)
        rw [decide_eq_true (show b < n by omega), decide_eq_false (show ¬ 0 ≤ q by omega)]
        rfl
set_option maxHeartbeats 1000000 in
theorem ranbHas_L (a b n : Int) (ha : a ≤ 1099511627776 ∧ -1099511627776 ≤ a) (hb : b ≤ 1099511627776 ∧ -1099511627776 ≤ b) (hn : n ≤ 1000000 ∧ 0 ≤ n) : callL Tryz.prog (ext11b chk) 74 [.int .i64 a, .int .i64 b, .int .i64 n] [] = some (.bool (hasAB a b n), [.no], []) := by
  rw [has_ref]
  by_cases h1 : n < 1
  · rw [if_pos h1]
    exact cWy 28 6 Tryz.func74
  rw [if_neg h1]
  by_cases h2 : a = 0
  · rw [if_pos h2]
    subst h2
    exact cWy 28 6 Tryz.func74
  rw [if_neg h2]
  obtain ⟨j1, j2, j3⟩ := neI h2
  have hw : IntKind.i64.wrap (n - b) = n - b := wrap64 _ (by omega) (by omega)
  have hq : IntKind.i64.wrap ((n - b).tdiv a) = (n - b).tdiv a := by
    have h3 : ((n - b).tdiv a).natAbs ≤ (n - b).natAbs := by rw [Int.natAbs_tdiv]; exact Nat.div_le_self _ _
    exact wrap64 _ (by omega) (by omega)
  clear ha hb hn
  cases hm : ((n - b).tmod a == 0) with
  | false =>
    exact cWy 28 6 Tryz.func74
  | true =>
    exact cWy 28 6 Tryz.func74
end Go.Av
namespace Go.Av
open Go.Proofs
variable [Rk] {chk : List D → Bool}
end Go.Av
namespace Go.Av
open Go.Proofs
variable [Rk] {chk : List D → Bool}
set_option maxHeartbeats 1000000 in
theorem rpseudo_L {k : Nat} (c : D) (h : cxOk 100 (smOk 100 (k + 1)) c = true) : callL Tryz.prog (ext11b chk) 35 [c] [] = some (.str (pseudoF c), [.no], []) := by
  obtain ⟨l, rfl, hl, hx⟩ := cxOk_inv h
  unfold pseudoF cxD cxL
  dsimp only
  cases hL : l.getLast? with
  | none =>
    rw [List.getLast?_eq_none_iff] at hL
    subst hL
    clear hx hl h
    exact cWy 44 2 Tryz.func35
  | some x =>
    obtain ⟨cc, sl, rfl, hsl, hs⟩ := cpOk_inv (hx x (List.mem_of_getLast? hL))
    obtain ⟨hg, h0⟩ := last_getD hL
    have h0' := ne0 h0
    have hw := wrapL (by omega) h0
    have hlt : ((l.length - 1 : Nat) : Int) < l.length := by omega
    have hge : (0 : Int) ≤ ((l.length - 1 : Nat) : Int) := by omega
    clear hL hx h hl
    unfold cpD at hg ⊢
    simp only [cpL]
    cases hS : sl.getLast? with
    | none =>
      rw [List.getLast?_eq_none_iff] at hS
      subst hS
      clear hs hsl
      exact cWy 44 2 Tryz.func35
    | some s =>
      obtain ⟨e, _⟩ := smOk_inv (hs s (List.mem_of_getLast? hS))
      obtain ⟨sg, s0⟩ := last_getD hS
      have s0' := ne0 s0
      have sw := wrapL (by omega) s0
      have slt : ((sl.length - 1 : Nat) : Int) < sl.length := by omega
      have sge : (0 : Int) ≤ ((sl.length - 1 : Nat) : Int) := by omega
      rw [e] at sg
      show callL Tryz.prog (ext11b chk) 35 [.agg [.list l]] [] = some (.str (if (sf s).kd = 13 then (sf s).nm else []), [.no], [])
      clear hS hs hsl
      generalize sf s = S at *
      clear e
      unfold Sf.d at sg
      by_cases hk : S.kd = 13
      · rw [if_pos hk]
        obtain ⟨k1, k2, k3⟩ := eqI hk
        clear hk
        exact cWy 44 2 Tryz.func35
      · rw [if_neg hk]
        obtain ⟨k1, k2, k3⟩ := neI hk
        clear hk
        exact cWy 44 2 Tryz.func35
def slotP (s : St) (j : Nat) : Nat := match s.slot j with | .int _ i => (i + 1).toNat | _ => 0
theorem nd_at {ns : List Nd} {n : Int} (he : elB ns n = true) : ∃ (i : Nat) (x : Nd), n = (i : Int) ∧ i < ns.length ∧ ns[i]? = some x ∧ pAt ns i = x.p ∧ kAt ns i = x.k ∧ (ns.map Nd.d).getD i .bad = .agg [.int .i64 x.p, .int .i64 x.k, .str x.sp, .str x.nm, .list (x.at_.map At.d), .list (x.st.map .str), .str x.tx] := by
  obtain ⟨h0, h1, hk⟩ := elB_nat he
  obtain ⟨x, hx⟩ := some_at (show n.toNat < ns.length by omega)
  refine ⟨n.toNat, x, by omega, by omega, hx, by unfold pAt; rw [hx], by unfold kAt; rw [hx], ?_⟩
  have := getD_map (f := Nd.d) hx
  rw [ndat] at this
  exact this
set_option maxHeartbeats 8000000 in
theorem stands1_L (ns : List Nd) (a b : Int) (hS : ns.length ≤ 10000) (hR : RightT ns) (hb : elB ns b = true) :
    callL Tryz.prog (ext11b chk) 37 [.list (ns.map Nd.d), .int .i64 a, .int .i64 b, .int .i64 1] [] = some (.bool ((upsI ns (b.toNat + 1) b).any (· == a)), [.no], []) := by
  obtain ⟨R, hRe⟩ : ∃ R, Hd (R = (upsI ns (b.toNat + 1) b).any (· == a)) := ⟨_, rfl⟩
  rw [← (show R = (upsI ns (b.toNat + 1) b).any (· == a) from hRe)]
  have lN := lenM ns Nd.d
  obtain ⟨i, x, rfl, hi, hx, hp, hk, hg⟩ := nd_at hb
  have g1 : (i : Int) < ns.length := by omega
  have HB := Hd.mk hb
  have HS := Hd.mk hS
  have HP := Hd.mk hp
  have HR := Hd.mk hR
  clear hb hS hp hR hx hk
  generalize x.at_.map At.d = XA at *
  generalize x.st.map D.str = XS at *
  refine cK 73 8 Tryz.func37 ?_
  refine Gy ?_
  clear hg g1
  refine loopH (fun st => ∃ (m : Int) (f : Nat), elB ns m = true ∧ st.slot 9 = .int .i64 (pAt ns m.toNat) ∧ st.slot 0 = .list (ns.map Nd.d) ∧ st.slot 1 = .int .i64 a ∧ m.toNat ≤ f ∧ Hd (R = (upsI ns (f + 1) m).any (· == a))) (fun st => slotP st 9) ?_ ?_
  · have hp : pAt ns i = x.p := HP
    refine ⟨(i : Int), i, HB, ?_, ?_, ?_, by simp, hRe⟩
    all_goals simp only [*, Int.toNat_natCast, AVB, AVY, ↓reduceIte, Nat.reduceEqDiff, Nat.reduceLT, Nat.reduceLeDiff, reduceCtorEq, Nat.reduceBEq, String.reduceBEq, Nat.reduceAdd, Nat.reduceSub, Nat.reduceMul, Int.reduceLE, Int.reduceLT, Int.reduceToNat, Int.reduceBEq, Int.reduceBNe, List.zipWith, dIntBin]
    all_goals rfl
  · rintro st K ⟨m, f, hm, g9, g0, g1, hf, hO⟩ hn hx hr
    have hO' : R = (upsI ns (f + 1) m).any (· == a) := hO
    have hS : ns.length ≤ 10000 := HS
    by_cases h0 : 0 ≤ pAt ns m.toNat
    · have hpar : parI ns m = (pAt ns m.toNat, true) := by
        unfold parI
        rw [if_pos ⟨hm, h0⟩]
      rw [upsI, if_pos (by rw [hpar]), hpar] at hO'
      obtain ⟨h3, h4⟩ := (show RightT ns from HR).par m hm (by rw [hpar])
      rw [hpar] at h3 h4
      dsimp only at hO' h3 h4
      rw [List.any_cons] at hO'
      obtain ⟨j, y, hj, hjl, hy, hp2, hk2, hg2⟩ := nd_at h3
      rw [hj] at hO' h3 h4 g9 h0
      have k1 : (j : Int) < ns.length := by omega
      obtain ⟨f', rfl⟩ : ∃ f', f = f' + 1 := ⟨f - 1, by have := (elB_nat hm).1; omega⟩
      have hfj : j ≤ f' := by have := (elB_nat hm).1; omega
      generalize y.at_.map At.d = YA at *
      generalize y.st.map D.str = YS at *
      cases hq : ((j : Int) == a) with
      | true =>
        rw [hq, Bool.true_or] at hO'
        subst hO'
        clear hn hx hO hm hS hRe hpar h3 h4 hj hy hp2 hk2
        refine Gy ?_
        exact hr _ Wy
      | false =>
        rw [hq, Bool.false_or] at hO'
        have HO := Hd.mk hO'
        have HP2 := Hd.mk hp2
        have H3 := Hd.mk h3
        have HY := Hd.mk (show y.p < (j : Int) ∨ y.p < 0 from by
          by_cases e : 0 ≤ pAt ns j
          · have hp3 : parI ns (j : Int) = (pAt ns j, true) := by
              unfold parI
              rw [Int.toNat_natCast, if_pos ⟨h3, e⟩]
            obtain ⟨_, h6⟩ := (show RightT ns from HR).par (j : Int) h3 (by rw [hp3])
            rw [hp3] at h6
            dsimp only at h6
            omega
          · omega)
        clear hr hx hO hO' hm hS hRe hpar h3 h4 hj hy hp2 hk2
        refine Gy ?_
        refine hn _ ⟨(j : Int), f', H3, ?_, ?_, ?_, by simpa using hfj, HO⟩ ?_
        · rw [Int.toNat_natCast, show pAt ns j = y.p from HP2]
          simp only [*, AVB, AVY, ↓reduceIte, Nat.reduceEqDiff, Nat.reduceLT, Nat.reduceLeDiff, reduceCtorEq, Nat.reduceBEq, String.reduceBEq, Nat.reduceAdd, Nat.reduceSub, Nat.reduceMul, Int.reduceLE, Int.reduceLT, Int.reduceToNat, Int.reduceBEq, Int.reduceBNe, List.zipWith, dIntBin]
        ·exact L
        ·exact L
        · have hyy : y.p < (j : Int) ∨ y.p < 0 := HY
          simp only [slotP, *, AVB, AVY, ↓reduceIte, Nat.reduceEqDiff, Nat.reduceLT, Nat.reduceLeDiff, reduceCtorEq, Nat.reduceBEq, String.reduceBEq, Nat.reduceAdd, Nat.reduceSub, Nat.reduceMul, Int.reduceLE, Int.reduceLT, Int.reduceToNat, Int.reduceBEq, Int.reduceBNe, List.zipWith, dIntBin]
          omega
    · have hpar : (parI ns m).2 = false := by
        unfold parI
        rw [if_neg (fun h => h0 h.2)]
      rw [upsI, if_neg (by rw [hpar]; decide)] at hO'
      have hO2 : R = false := hO'
      subst hO2
      clear hn hr hO hO' hm hS hRe hpar
      refine Gy ?_
      exact hx _ _ Wy
end Go.Av
namespace Go.Av
open Go.Proofs
variable [Rk] {chk : List D → Bool}
end Go.Av
namespace Go.Av
open Go.Proofs
variable [Rk] {chk : List D → Bool}
end Go.Av
namespace Go.Av
open Go.Proofs
variable [Rk] {chk : List D → Bool}
theorem node_small {ns : List Nd} (hS : SmallD ns) (n : Int) : (nodeI ns n).at_.length ≤ 1000000 ∧ (nodeI ns n).st.length ≤ 1000000 ∧ ∀ a ∈ (nodeI ns n).at_, a.vl.length ≤ 1000000 := by
  unfold nodeI
  split
  · rename_i h
    unfold inB' at h
    simp only [Bool.and_eq_true, decide_eq_true_eq] at h
    obtain ⟨x, hx⟩ := some_at (show n.toNat < ns.length by omega)
    have hg : ns.getD n.toNat zeroN = x := by simp [List.getD, hx]
    rw [hg]
    have h1 := hS.2 x (List.mem_of_getElem? hx)
    refine ⟨h1.1, h1.2.1, fun a ha => ?_⟩
    have := (h1.2.2.2.2.2 a ha).2.2
    omega
  · refine ⟨by simp [zeroN], by simp [zeroN], fun a ha => by simp [zeroN] at ha⟩
end Go.Av
namespace Go.Av
open Go.Proofs
variable [Rk] {chk : List D → Bool}
def complexP (ns : List Nd) (nm : Nam) (c : D) (n : Int) (ps : List UInt8) : Bool := elB ns n && (pseudoF c == ps && rowV (sV ns nm) ns (cxL c).reverse n)
end Go.Av
namespace Go.Av
open Go.Proofs
variable [Rk] {chk : List D → Bool}
theorem row_snoc {ns : List Nd} {n : Int} (he : elB ns n = true) : rowI ns n = rowL ns (pAt ns n.toNat) n.toNat ++ [n] := by
  obtain ⟨h0, h1, hk⟩ := elB_nat he
  unfold rowI
  rw [if_pos he, rowL_succ hk]
  rw [show ((n.toNat : Nat) : Int) = n by omega]
set_option maxHeartbeats 8000000 in
theorem stands2_L (ns : List Nd) (a b : Int) (hb : elB ns b = true) (ha : 0 ≤ a) :
    callL Tryz.prog (ext11b chk) 37 [.list (ns.map Nd.d), .int .i64 a, .int .i64 b, .int .i64 2] [] = some (.bool ((parI ns b).2 && (parI ns b).1 == a), [.no], []) := by
  have lN := lenM ns Nd.d
  have hv : ((parI ns b).2 && (parI ns b).1 == a) = (pAt ns b.toNat == a) := by
    unfold parI
    by_cases h : 0 ≤ pAt ns b.toNat
    · rw [if_pos ⟨hb, h⟩]; simp
    · rw [if_neg (fun e => h e.2)]
      have : (pAt ns b.toNat == a) = false := by rw [beq_eq_false_iff_ne]; omega
      rw [this]; rfl
  rw [hv]
  obtain ⟨i, x, rfl, hi, hx, hp, hk, hg⟩ := nd_at hb
  have g1 : (i : Int) < ns.length := by omega
  rw [Int.toNat_natCast, hp]
  clear hx hk hv hb hp
  generalize x.at_.map At.d = XA at *
  generalize x.st.map D.str = XS at *
  exact cWy 73 8 Tryz.func37
set_option maxHeartbeats 8000000 in
theorem stands3_L (ns : List Nd) (a b : Int) (hS : ns.length ≤ 10000) (hb : elB ns b = true) :
    callL Tryz.prog (ext11b chk) 37 [.list (ns.map Nd.d), .int .i64 a, .int .i64 b, .int .i64 3] [] = some (.bool ((ahdI ns b).2 && (ahdI ns b).1 == a), [.no], []) := by
  have hr := rrow_L (chk := chk) ns b hS
  have hs := row_snoc hb
  have hlen := rowL_len (ns := ns) (key := pAt ns b.toNat) (m := b.toNat)
  have hbl : b.toNat ≤ 10000 := by have := (elB_nat hb).2.1; omega
  unfold ahdI
  rw [if_pos hb]
  rw [hs] at hr
  generalize rowL ns (pAt ns b.toNat) b.toNat = P at *
  generalize roomOf (P ++ [b]) = rm at *
  generalize ns.map Nd.d = L at *
  clear hs hb hS
  have lN := lenM (P ++ [b]) (D.int .i64)
  have hl2 : ((P ++ [b]).length : Int) = P.length + 1 := by simp
  cases hL : P.getLast? with
  | none =>
    rw [List.getLast?_eq_none_iff] at hL
    subst hL
    have g1 : ¬ (1 : Int) < ((([] : List Int) ++ [b]).length : Int) := by simp
    dsimp only
    rw [Bool.false_and]
    clear hl2 hlen hbl
    generalize ([] : List Int) ++ [b] = Q at *
    exact cWy 73 8 Tryz.func37
  | some z =>
    have hp0 : P.length ≠ 0 := by rintro e; rw [List.eq_nil_of_length_eq_zero e] at hL; simp at hL
    have g1 : (1 : Int) < ((P ++ [b]).length : Int) := by omega
    have hw : IntKind.i64.wrap (((P ++ [b]).length : Int) - 2) = ((P.length - 1 : Nat) : Int) := by rw [hl2, wrap64 _ (by omega) (by omega)]; omega
    have g2 : ((P.length - 1 : Nat) : Int) < ((P ++ [b]).length : Int) := by omega
    have g3 : (0 : Int) ≤ ((P.length - 1 : Nat) : Int) := by omega
    have hg : ((P ++ [b]).map (D.int .i64)).getD (P.length - 1) .bad = .int .i64 z := by
      rw [List.getLast?_eq_getElem?] at hL
      have : (P ++ [b])[P.length - 1]? = some z := by rw [List.getElem?_append_left (by omega)]; exact hL
      exact getD_map (f := D.int .i64) this
    dsimp only
    rw [Bool.true_and]
    clear hl2 hlen hbl hL hp0
    generalize P.length - 1 = k at *
    generalize P ++ [b] = Q at *
    exact cWy 73 8 Tryz.func37
set_option maxHeartbeats 8000000 in
theorem stands4_L (ns : List Nd) (a b comb : Int) (hS : ns.length ≤ 10000) (hb : elB ns b = true) (h1 : comb ≠ 1) (h2 : comb ≠ 2) (h3 : comb ≠ 3) :
    callL Tryz.prog (ext11b chk) 37 [.list (ns.map Nd.d), .int .i64 a, .int .i64 b, .int .i64 comb] [] = some (.bool (comb == 4 && (rowI ns b).dropLast.any (· == a)), [.no], []) := by
  have hr := rrow_L (chk := chk) ns b hS
  have hs := row_snoc hb
  have hlen := rowL_len (ns := ns) (key := pAt ns b.toNat) (m := b.toNat)
  have hbl : b.toNat ≤ 10000 := by have := (elB_nat hb).2.1; omega
  have hd : (rowI ns b).dropLast = rowL ns (pAt ns b.toNat) b.toNat := by rw [hs]; simp
  rw [hd]
  rw [hs] at hr
  clear hd hs hS hb
  generalize rowL ns (pAt ns b.toNat) b.toNat = P at *
  generalize roomOf (P ++ [b]) = rm at *
  generalize ns.map Nd.d = L at *
  have lN := lenM (P ++ [b]) (D.int .i64)
  have hw : IntKind.i64.wrap (((P ++ [b]).length : Int) - 1) = (P.length : Int) := by
    have : ((P ++ [b]).length : Int) = P.length + 1 := by simp
    rw [this, wrap64 _ (by omega) (by omega)]; omega
  have hg : ∀ (i : Nat) (z : Int), P[i]? = some z → ((P ++ [b]).map (D.int .i64)).getD i .bad = .int .i64 z ∧ (i : Int) < ((P ++ [b]).length : Int) := fun i z h => by
    have hi := (List.getElem?_eq_some_iff.1 h).1
    refine ⟨getD_map (f := D.int .i64) (by rw [List.getElem?_append_left hi]; exact h), by simp; omega⟩
  have HG := Hd.mk hg
  have HL := Hd.mk (show P.length ≤ 10000 by omega)
  clear hg hlen hbl
  generalize P ++ [b] = Q at *
  obtain ⟨i1, i2, i3⟩ := neI h1
  obtain ⟨j1, j2, j3⟩ := neI h2
  obtain ⟨l1, l2, l3⟩ := neI h3
  clear h1 h2 h3
  obtain ⟨R, hRe⟩ : ∃ R, Hd (R = (comb == 4 && P.any (· == a))) := ⟨_, rfl⟩
  rw [← (show R = (comb == 4 && P.any (· == a)) from hRe)]
  refine cK 73 8 Tryz.func37 ?_
  refine Gy ?_
  clear hr i1 i2 i3 j1 j2 j3 l1 l2 l3
  refine loopH (fun st => ∃ i : Nat, i ≤ P.length ∧ st.slot 11 = .int .i64 i ∧ st.slot 10 = .list (Q.map (D.int .i64)) ∧ st.slot 1 = .int .i64 a ∧ st.slot 3 = .int .i64 comb ∧ Hd (R = (comb == 4 && (P.drop i).any (· == a)))) (fun st => P.length - slotI st 11) ?_ ?_
  · exact ⟨0, Nat.zero_le _, Iy, Iy, Iy, Iy, hRe⟩
  · rintro st K ⟨i, hi, g11, g10, g1, g3, hO⟩ hn hx hr
    have hO' : R = (comb == 4 && (P.drop i).any (· == a)) := hO
    have hl : P.length ≤ 10000 := HL
    by_cases h : i < P.length
    · have k9 : (i : Int) < P.length := by omega
      have hw2 := wrapS i (by omega)
      obtain ⟨z, hz⟩ := some_at h
      obtain ⟨q1, q2⟩ := (show ∀ (i : Nat) (z : Int), P[i]? = some z → _ from HG) i z hz
      rw [any_drop _ hz] at hO'
      cases hza : (z == a) with
      | true =>
        rw [hza, Bool.true_or, Bool.and_true] at hO'
        cases h4 : (comb == 4) with
        | true =>
          rw [h4] at hO'
          subst hO'
          clear hn hx hO hRe hz hl h
          refine Gy ?_
          exact hr _ Wy
        | false =>
          rw [h4] at hO'
          have HO := Hd.mk (show R = (comb == 4 && (P.drop (i + 1)).any (· == a)) by rw [h4]; exact hO')
          clear hr hx hO hO' hRe hz hl
          refine Gy ?_
          refine hn _ ⟨i + 1, h, ?_, ?_, ?_, ?_, HO⟩ ?_
          · simp only [*, AVL, ↓reduceIte, Nat.reduceEqDiff, Nat.reduceLT, Nat.reduceLeDiff, reduceCtorEq]
          · simp only [*, AVL, ↓reduceIte, Nat.reduceEqDiff, Nat.reduceLT, Nat.reduceLeDiff, reduceCtorEq]
          · simp only [*, AVL, ↓reduceIte, Nat.reduceEqDiff, Nat.reduceLT, Nat.reduceLeDiff, reduceCtorEq]
          · simp only [*, AVL, ↓reduceIte, Nat.reduceEqDiff, Nat.reduceLT, Nat.reduceLeDiff, reduceCtorEq]
          ·exact Zy
      | false =>
        rw [hza, Bool.false_or] at hO'
        have HO := Hd.mk hO'
        clear hr hx hO hO' hRe hz hl
        refine Gy ?_
        refine hn _ ⟨i + 1, h, ?_, ?_, ?_, ?_, HO⟩ ?_
        · simp only [*, AVL, ↓reduceIte, Nat.reduceEqDiff, Nat.reduceLT, Nat.reduceLeDiff, reduceCtorEq]
        · simp only [*, AVL, ↓reduceIte, Nat.reduceEqDiff, Nat.reduceLT, Nat.reduceLeDiff, reduceCtorEq]
        · simp only [*, AVL, ↓reduceIte, Nat.reduceEqDiff, Nat.reduceLT, Nat.reduceLeDiff, reduceCtorEq]
        · simp only [*, AVL, ↓reduceIte, Nat.reduceEqDiff, Nat.reduceLT, Nat.reduceLeDiff, reduceCtorEq]
        ·exact Zy
    · have k9 : ¬ (i : Int) < P.length := by omega
      rw [any_end _ (by omega), Bool.and_false] at hO'
      subst hO'
      clear hn hr hO hRe hl h
      refine Gy ?_
      exact hx _ _ Wy
theorem stands_L (ns : List Nd) (a b comb : Int) (hS : ns.length ≤ 10000) (hR : RightT ns) (hb : elB ns b = true) (ha : 0 ≤ a) :
    callL Tryz.prog (ext11b chk) 37 [.list (ns.map Nd.d), .int .i64 a, .int .i64 b, .int .i64 comb] [] = some (.bool (standsF ns (b.toNat + 1) a b comb), [.no], []) := by
  unfold standsF
  by_cases h2 : comb = 2
  · subst h2; rw [if_pos rfl]; exact stands2_L ns a b hb ha
  rw [if_neg h2]
  by_cases h1 : comb = 1
  · subst h1; rw [if_pos rfl]; exact stands1_L ns a b hS hR hb
  rw [if_neg h1]
  by_cases h3 : comb = 3
  · subst h3; rw [if_pos rfl]; exact stands3_L ns a b hS hb
  rw [if_neg h3]
  exact stands4_L ns a b comb hS hb h1 h2 h3
end Go.Av
namespace Go.Av
open Go.Proofs
variable [Rk] {chk : List D → Bool}
theorem drop_at {α : Type} {xs : List α} {i : Nat} {x : α} (hx : xs[i]? = some x) : xs.drop i = x :: xs.drop (i + 1) := by
  have h1 : i < xs.length := (List.getElem?_eq_some_iff.1 hx).1
  have e1 : xs[i] = x := (List.getElem?_eq_some_iff.1 hx).2
  rw [List.drop_eq_getElem_cons h1, e1]
theorem self_getD {l : List D} {i : Nat} {x : D} (h : l[i]? = some x) : l.getD i .bad = x := by simp [List.getD, h]
structure CntH (prog : Prop → Prop) (C : List D → Int) (call : List D → Prop) (s : D) : Prop where
  d : s = .agg [.int .i64 (sf s).kd, .int .i64 (sf s).ns, .str (sf s).pre, .str (sf s).nm, .int .i64 (sf s).op, .str (sf s).tx, .bool (sf s).fold, .int .i64 (sf s).mark, .int .i64 (sf s).a, .int .i64 (sf s).b, .list (sf s).of_]
  c : call (sf s).of_
  lo : 0 ≤ C (sf s).of_
  hi : C (sf s).of_ ≤ 1125899906842624
set_option maxHeartbeats 16000000 in
theorem count_step (C : List D → Int) (most deep : Int) (hm : 0 ≤ most ∧ most ≤ 1000) (hd : 0 ≤ deep ∧ deep ≤ 1000000) (l : List D) (hl : l.length ≤ 140737488355328)
    (hL : ∀ c ∈ l, c = .agg [.list (cxL c)] ∧ (cxL c).length ≤ 140737488355328 ∧ ∀ x ∈ cxL c, x = .agg [.int .i64 (cpC x), .list (cpL x)] ∧ (cpL x).length ≤ 140737488355328 ∧ ∀ s ∈ cpL x,
      CntH id C (fun o => deep ≤ 40 → callL Tryz.prog (ext11b chk) 34 [.list o, .int .i64 most, .int .i64 (deep + 1)] [] = some (.int .i64 (C o), [.no], [])) s) :
    callL Tryz.prog (ext11b chk) 34 [.list l, .int .i64 most, .int .i64 deep] [] = some (.int .i64 ((cntC C (badS deep) most l l.length).getD (most + 1)), [.no], []) := by
  have HL := Hd.mk hL
  have HM := Hd.mk hm
  have HD := Hd.mk hd
  have HN := Hd.mk hl
  clear hL hm hd hl
  obtain ⟨R, hR⟩ : ∃ R, Hd (R = (cntC C (badS deep) most l l.length).getD (most + 1)) := ⟨_, rfl⟩
  rw [← (show R = (cntC C (badS deep) most l l.length).getD (most + 1) from hR)]
  refine cK 114 6 Tryz.func34 ?_
  refine Gy ?_
  refine loopH (fun st => ∃ (i : Nat) (n : Int), i ≤ l.length ∧ st.slot 8 = .int .i64 i ∧ st.slot 0 = .list l ∧ st.slot 1 = .int .i64 most ∧ st.slot 2 = .int .i64 deep ∧ st.slot 7 = .int .i64 n ∧ st.room 7 = [] ∧ Hd (0 ≤ n ∧ n ≤ 1125899906852624) ∧ Hd (R = (cntC C (badS deep) most (l.drop i) n).getD (most + 1))) (fun st => l.length - slotI st 8) ?_ ?_
  · have hl : l.length ≤ 140737488355328 := HN
    exact ⟨0, (l.length : Int), Nat.zero_le _, Iy, Iy, Iy, Iy, Iy, Iy, Hd.mk ⟨by omega, by omega⟩, hR⟩
  · rintro st K ⟨i, n, hi, g8, g0, g1, g2, g7, gr, hnn, hO⟩ hn hx hr
    have hl : l.length ≤ 140737488355328 := HN
    have hO' : R = (cntC C (badS deep) most (l.drop i) n).getD (most + 1) := hO
    by_cases h : i < l.length
    · have g9 : (i : Int) < l.length := by omega
      have hw := wrapS i (by omega)
      obtain ⟨c, hc1⟩ := some_at h
      rw [drop_at hc1, cntC] at hO'
      by_cases h2 : n ≤ most
      · rw [if_pos h2] at hO'
        obtain ⟨e1, hx1, hX⟩ := (show ∀ c ∈ l, _ from HL) c (List.mem_of_getElem? hc1)
        have ha := (self_getD hc1).trans e1
        generalize cxL c = X at *
        obtain ⟨m1, m2⟩ := (show 0 ≤ most ∧ most ≤ 1000 from HM)
        obtain ⟨n1, n2⟩ := (show 0 ≤ n ∧ n ≤ 1125899906852624 from hnn)
        obtain ⟨n0, hn0⟩ : ∃ n0 : Int, n + (X.length : Int) = n0 := ⟨_, rfl⟩
        have hw2 : IntKind.i64.wrap (n + (X.length : Int)) = n0 := by rw [hn0]; exact wrap64 _ (by omega) (by omega)
        rw [hn0] at hO'
        have HI := Hd.mk h
        have HX := Hd.mk hX
        have HO := Hd.mk hO'
        have HX1 := Hd.mk hx1
        have HB : Hd (0 ≤ n0 ∧ n0 ≤ 1125899906852624) := Hd.mk ⟨by omega, by omega⟩
        clear hn0 hl hO hO' hx hX hc1 e1 hx1 h m1 m2 n1 n2 hnn hR
        refine Gy ?_
        clear h2
        refine loopH (fun st' => ∃ (k : Nat) (n : Int), k ≤ X.length ∧ st'.slot 9 = .int .i64 k ∧ st'.slot 8 = .int .i64 i ∧ st'.slot 0 = .list l ∧ st'.slot 1 = .int .i64 most ∧ st'.slot 2 = .int .i64 deep ∧ st'.slot 7 = .int .i64 n ∧ st'.room 7 = [] ∧ Hd (0 ≤ n ∧ n ≤ 1125899906852624) ∧ Hd (R = ((cntP C (badS deep) most (X.drop k) n).bind (cntC C (badS deep) most (l.drop (i + 1)))).getD (most + 1))) (fun st' => X.length - slotI st' 9) ?_ ?_
        · exact ⟨0, n0, Nat.zero_le _, Iy, Iy, Iy, Iy, Iy, Iy, Iy, HB, HO⟩
        · rintro st' K' ⟨k, n, hk, e9, e8, e0, e1, e2, e7, er, hnn, hO⟩ hn2 hx2 hr2
          have G8 := Hd.mk g8
          clear g0 g1 g2 g7 g8 gr HO hw2
          have hxl : X.length ≤ 140737488355328 := HX1
          have hO' : R = ((cntP C (badS deep) most (X.drop k) n).bind (cntC C (badS deep) most (l.drop (i + 1)))).getD (most + 1) := hO
          by_cases h : k < X.length
          · have g10 : (k : Int) < X.length := by omega
            have hw3 := wrapS k (by omega)
            obtain ⟨x, hx1⟩ := some_at h
            rw [drop_at hx1, cntP] at hO'
            by_cases h2 : n ≤ most
            · rw [if_pos h2] at hO'
              obtain ⟨f1, f2, hS⟩ := (show ∀ x ∈ X, _ from HX) x (List.mem_of_getElem? hx1)
              have hb := (self_getD hx1).trans f1
              generalize cpL x = Y at *
              generalize cpC x = cc at *
              have HK := Hd.mk h
              have HS := Hd.mk hS
              have HO := Hd.mk hO'
              have HY1 := Hd.mk f2
              have HN0 := hnn
              clear hO hO' hx2 hS hx1 f1 f2 h hxl hnn hn
              refine Gy ?_
              clear h2
              refine loopH (fun st2 => ∃ (m : Nat) (n : Int), m ≤ Y.length ∧ st2.slot 11 = .int .i64 m ∧ st2.slot 10 = .list Y ∧ st2.slot 9 = .int .i64 k ∧ st2.slot 8 = .int .i64 i ∧ st2.slot 0 = .list l ∧ st2.slot 1 = .int .i64 most ∧ st2.slot 2 = .int .i64 deep ∧ st2.slot 7 = .int .i64 n ∧ st2.room 7 = [] ∧ Hd (0 ≤ n ∧ n ≤ 1125899906852624) ∧ Hd (R = (((cntX C (badS deep) most (Y.drop m) n).bind (cntP C (badS deep) most (X.drop (k + 1)))).bind (cntC C (badS deep) most (l.drop (i + 1)))).getD (most + 1))) (fun st2 => Y.length - slotI st2 11) ?_ ?_
              · exact ⟨0, n, Nat.zero_le _, Iy, Iy, Iy, Iy, Iy, Iy, Iy, Iy, Iy, HN0, HO⟩
              · rintro st2 K2 ⟨m, n, hmm, u11, u10, u9, u8, u0, u1, u2, u7, ur, hnn, hO⟩ hn3 hx3 hr3
                have E9 := Hd.mk e9
                clear e0 e1 e2 e7 e8 e9 er HO HN0
                have hyl : Y.length ≤ 140737488355328 := HY1
                have hO' : R = (((cntX C (badS deep) most (Y.drop m) n).bind (cntP C (badS deep) most (X.drop (k + 1)))).bind (cntC C (badS deep) most (l.drop (i + 1)))).getD (most + 1) := hO
                by_cases h : m < Y.length
                · have g11 : (m : Int) < Y.length := by omega
                  have hw4 := wrapS m (by omega)
                  obtain ⟨s, hs1⟩ := some_at h
                  rw [drop_at hs1, cntX] at hO'
                  by_cases h2 : n ≤ most
                  · rw [if_pos h2] at hO'
                    obtain ⟨q1, q2, q3, q4⟩ := (show ∀ s ∈ Y, _ from HS) s (List.mem_of_getElem? hs1)
                    have hz := (self_getD hs1).trans q1
                    have hbad : badS deep s = (decide (100 < ((sf s).nm.length : Int)) || (decide (100 < ((sf s).pre.length : Int)) || (decide (100 < ((sf s).tx.length : Int)) || decide (40 < deep)))) := rfl
                    rw [hbad] at hO'
                    clear hbad
                    generalize sf s = S at *
                    obtain ⟨m1, m2⟩ := (show 0 ≤ most ∧ most ≤ 1000 from HM)
                    obtain ⟨d1, d2⟩ := (show 0 ≤ deep ∧ deep ≤ 1000000 from HD)
                    obtain ⟨n1, n2⟩ := (show 0 ≤ n ∧ n ≤ 1125899906852624 from hnn)
                    have hw5 : IntKind.i64.wrap (n + 1) = n + 1 := wrap64 _ (by omega) (by omega)
                    have hw6 : IntKind.i64.wrap (most + 1) = most + 1 := wrap64 _ (by omega) (by omega)
                    have hw7 : IntKind.i64.wrap (deep + 1) = deep + 1 := wrap64 _ (by omega) (by omega)
                    have HM0 := Hd.mk h
                    clear hO hx3 hs1 q1 h hyl hnn
                    by_cases c1 : (100 : Int) < (S.nm.length : Int)
                    · rw [decide_eq_true c1, Bool.true_or, if_pos rfl] at hO'
                      have hO2 : R = most + 1 := hO'
                      subst hO2
                      clear hn3 hn2 hO' m1 m2 d1 d2 n1 n2 q2 q3 q4
                      refine Gy ?_
                      refine hr3 _ ?_
                      refine hr2 _ ?_
                      exact hr _ Wy
                    rw [decide_eq_false c1, Bool.false_or] at hO'
                    by_cases c2 : (100 : Int) < (S.pre.length : Int)
                    · rw [decide_eq_true c2, Bool.true_or, if_pos rfl] at hO'
                      have hO2 : R = most + 1 := hO'
                      subst hO2
                      clear hn3 hn2 hO' m1 m2 d1 d2 n1 n2 q2 q3 q4
                      refine Gy ?_
                      refine hr3 _ ?_
                      refine hr2 _ ?_
                      exact hr _ Wy
                    rw [decide_eq_false c2, Bool.false_or] at hO'
                    by_cases c3 : (100 : Int) < (S.tx.length : Int)
                    · rw [decide_eq_true c3, Bool.true_or, if_pos rfl] at hO'
                      have hO2 : R = most + 1 := hO'
                      subst hO2
                      clear hn3 hn2 hO' m1 m2 d1 d2 n1 n2 q2 q3 q4
                      refine Gy ?_
                      refine hr3 _ ?_
                      refine hr2 _ ?_
                      exact hr _ Wy
                    rw [decide_eq_false c3, Bool.false_or] at hO'
                    by_cases c4 : (40 : Int) < deep
                    · rw [decide_eq_true c4, if_pos rfl] at hO'
                      have hO2 : R = most + 1 := hO'
                      subst hO2
                      clear hn3 hn2 hO' m1 m2 d1 d2 n1 n2 q2 q3 q4
                      refine Gy ?_
                      refine hr3 _ ?_
                      refine hr2 _ ?_
                      exact hr _ Wy
                    rw [decide_eq_false c4, if_neg (by decide)] at hO'
                    have hcall := q2 (by omega)
                    have hw8 : IntKind.i64.wrap (n + 1 + C S.of_) = n + 1 + C S.of_ := wrap64 _ (by omega) (by omega)
                    have HB : Hd (0 ≤ n + 1 + C S.of_ ∧ n + 1 + C S.of_ ≤ 1125899906852624) := Hd.mk ⟨by omega, by omega⟩
                    have HO2 := Hd.mk hO'
                    clear hO' hr3 hn2 hr2 hr m1 m2 d1 d2 n1 n2 q2 q3 q4
                    refine Gy ?_
                    refine hn3 _ ⟨m + 1, n + 1 + C S.of_, HM0, L, L, L, L, L, L, L, L, L, HB, HO2⟩ ?_
                    · have hm2 : m < Y.length := HM0
                      simp only [slotI, *, AVB, AVY, ↓reduceIte, Nat.reduceEqDiff, Nat.reduceLT, Nat.reduceLeDiff, reduceCtorEq, Nat.reduceBEq, String.reduceBEq, Nat.reduceAdd, Nat.reduceSub, Nat.reduceMul, Int.reduceLE, Int.reduceLT, Int.reduceToNat, Int.reduceBEq, Int.reduceBNe, List.zipWith, dIntBin]
                      omega
                  · rw [if_neg h2, Option.bind_some] at hO'
                    have HO2 := Hd.mk hO'
                    clear hO hO' hr3 hn3 hr2 hr hs1 hyl h
                    refine Gy ?_
                    refine hx3 _ _ ?_
                    refine Gy ?_
                    have hk2 : k < X.length := HK
                    refine hn2 _ ⟨k + 1, n, hk2, L, L, L, L, L, L, L, hnn, HO2⟩ ?_
                    · have e9 : st'.slot 9 = .int .i64 k := E9
                      simp only [slotI, *, AVB, AVY, ↓reduceIte, Nat.reduceEqDiff, Nat.reduceLT, Nat.reduceLeDiff, reduceCtorEq, Nat.reduceBEq, String.reduceBEq, Nat.reduceAdd, Nat.reduceSub, Nat.reduceMul, Int.reduceLE, Int.reduceLT, Int.reduceToNat, Int.reduceBEq, Int.reduceBNe, List.zipWith, dIntBin]
                      omega
                · have g11 : ¬ (m : Int) < Y.length := by omega
                  rw [List.drop_eq_nil_of_le (by omega), cntX, Option.bind_some] at hO'
                  have HO2 := Hd.mk hO'
                  clear hO hO' hr3 hn3 hr2 hr hyl h
                  refine Gy ?_
                  refine hx3 _ _ ?_
                  refine Gy ?_
                  have hk2 : k < X.length := HK
                  refine hn2 _ ⟨k + 1, n, hk2, L, L, L, L, L, L, L, hnn, HO2⟩ ?_
                  · have e9 : st'.slot 9 = .int .i64 k := E9
                    simp only [slotI, *, AVB, AVY, ↓reduceIte, Nat.reduceEqDiff, Nat.reduceLT, Nat.reduceLeDiff, reduceCtorEq, Nat.reduceBEq, String.reduceBEq, Nat.reduceAdd, Nat.reduceSub, Nat.reduceMul, Int.reduceLE, Int.reduceLT, Int.reduceToNat, Int.reduceBEq, Int.reduceBNe, List.zipWith, dIntBin]
                    omega
            · rw [if_neg h2, Option.bind_some] at hO'
              have HO2 := Hd.mk hO'
              clear hO hO' hr2 hn2 hx1 hxl h hr
              refine Gy ?_
              refine hx2 _ _ ?_
              refine Gy ?_
              have hi2 : i < l.length := HI
              refine hn _ ⟨i + 1, n, hi2, L, L, L, L, L, L, hnn, HO2⟩ ?_
              · have g8 : st.slot 8 = .int .i64 i := G8
                simp only [slotI, *, AVB, AVY, ↓reduceIte, Nat.reduceEqDiff, Nat.reduceLT, Nat.reduceLeDiff, reduceCtorEq, Nat.reduceBEq, String.reduceBEq, Nat.reduceAdd, Nat.reduceSub, Nat.reduceMul, Int.reduceLE, Int.reduceLT, Int.reduceToNat, Int.reduceBEq, Int.reduceBNe, List.zipWith, dIntBin]
                omega
          · have g10 : ¬ (k : Int) < X.length := by omega
            rw [List.drop_eq_nil_of_le (by omega), cntP, Option.bind_some] at hO'
            have HO2 := Hd.mk hO'
            clear hO hO' hr2 hn2 hxl h hr
            refine Gy ?_
            refine hx2 _ _ ?_
            refine Gy ?_
            have hi2 : i < l.length := HI
            refine hn _ ⟨i + 1, n, hi2, L, L, L, L, L, L, hnn, HO2⟩ ?_
            · have g8 : st.slot 8 = .int .i64 i := G8
              simp only [slotI, *, AVB, AVY, ↓reduceIte, Nat.reduceEqDiff, Nat.reduceLT, Nat.reduceLeDiff, reduceCtorEq, Nat.reduceBEq, String.reduceBEq, Nat.reduceAdd, Nat.reduceSub, Nat.reduceMul, Int.reduceLE, Int.reduceLT, Int.reduceToNat, Int.reduceBEq, Int.reduceBNe, List.zipWith, dIntBin]
              omega
      · rw [if_neg h2] at hO'
        have hO2 : R = n := hO'
        subst hO2
        clear hO hO' hn hr hl hR hc1 h hw
        refine Gy ?_
        exact hx _ _ Wy
    · have g9 : ¬ (i : Int) < l.length := by omega
      rw [List.drop_eq_nil_of_le (by omega), cntC] at hO'
      have hO2 : R = n := hO'
      subst hO2
      clear hO hO' hn hr hl hR h
      refine Gy ?_
      exact hx _ _ Wy
end Go.Av
namespace Go.Av
open Go.Proofs
variable [Rk] {chk : List D → Bool}
theorem nd_any {ns : List Nd} {i : Nat} (hi : i < ns.length) : ∃ x : Nd, ns[i]? = some x ∧ kAt ns i = x.k ∧ (ns.map Nd.d).getD i .bad = .agg [.int .i64 x.p, .int .i64 x.k, .str x.sp, .str x.nm, .list (x.at_.map At.d), .list (x.st.map .str), .str x.tx] := by
  obtain ⟨x, hx⟩ := some_at hi
  refine ⟨x, hx, by unfold kAt; rw [hx], ?_⟩
  have := getD_map (f := Nd.d) hx
  rw [ndat] at this
  exact this
theorem all_drop {α : Type} {xs : List α} {i : Nat} {x : α} (f : α → Bool) (hx : xs[i]? = some x) : (xs.drop i).all f = (f x && (xs.drop (i + 1)).all f) := by
  rw [drop_at hx, List.all_cons]
theorem all_end {α : Type} {xs : List α} {i : Nat} (f : α → Bool) (h : xs.length ≤ i) : (xs.drop i).all f = true := by
  rw [List.drop_eq_nil_of_le h]
  rfl
def fitK (p : Int → Bool) (k : Nat) : List Int := ((List.range k).map (Int.ofNat ·)).filter p
theorem fitK_succ (p : Int → Bool) (k : Nat) : fitK p (k + 1) = fitK p k ++ (if p (k : Int) = true then [(k : Int)] else []) := by
  unfold fitK
  rw [List.range_succ, List.map_append, List.filter_append]
  congr 1
  show List.filter p [Int.ofNat k] = _
  by_cases h : p (k : Int) = true
  · rw [if_pos h]; exact List.filter_cons_of_pos (by exact h)
  · rw [if_neg h]; exact List.filter_cons_of_neg (by exact h)
def fitP (S : D → Int → Bool) (ns : List Nd) (first : Bool) (fit : List Int) (cc : Int) (sl : List D) (k : Int) : Bool := kAt ns k.toNat == 1 && sl.all (S · k) && (first || fit.any fun m => standsF ns (k.toNat + 1) m k cc)
theorem fitStep_K (S : D → Int → Bool) (ns : List Nd) (node : Nat) (first : Bool) (fit : List Int) (cc : Int) (sl : List D) : fitStep S ns node first fit (.agg [.int .i64 cc, .list sl]) = fitK (fitP S ns first fit cc sl) (node + 1) := rfl
theorem fitK_ok (p : Int → Bool) (k : Nat) : (fitK p k).length ≤ k ∧ ∀ m ∈ fitK p k, 0 ≤ m := by
  unfold fitK
  refine ⟨Nat.le_trans (List.length_filter_le _ _) (by simp), fun m hm => ?_⟩
  have := (List.mem_filter.1 hm).1
  obtain ⟨j, _, rfl⟩ := List.mem_map.1 this
  exact Int.natCast_nonneg j
theorem getLast_map (l : List Int) (h : l ≠ []) : ∃ z, l.getLast? = some z ∧ (l.map (D.int .i64)).getD (l.length - 1) .bad = .int .i64 z := by
  cases hL : l.getLast? with
  | none => rw [List.getLast?_eq_none_iff] at hL; exact absurd hL h
  | some z =>
    rw [List.getLast?_eq_getElem?] at hL
    exact ⟨z, rfl, getD_map (f := D.int .i64) hL⟩
set_option maxHeartbeats 32000000 in
theorem rcomplex_L (ns : List Nd) (nm : Nam) (X : List D) (node : Nat) (hS : ns.length ≤ 10000) (hR : RightT ns) (he : elB ns node = true) (S : D → Int → Bool) (hX0 : X ≠ []) (hXl : X.length ≤ 100)
    (hX : ∀ x ∈ X, x = .agg [.int .i64 (cpC x), .list (cpL x)] ∧ (cpL x).length ≤ 100 ∧ ∀ s ∈ cpL x, s = (sf s).d ∧ ∀ j, elB ns j = true → callL Tryz.prog (ext11b chk) 36 [.list (ns.map Nd.d), (sf s).d, .agg nm.cs, .int .i64 j] [] = some (.bool (S s j), [.no], []))
    (ps : List UInt8) (hp : callL Tryz.prog (ext11b chk) 35 [.agg [.list X]] [] = some (.str ps, [.no], [])) :
    callL Tryz.prog (ext11b chk) 21 [.list (ns.map Nd.d), .agg [.list X], .agg nm.cs, .agg [.int .i64 (node : Int), .str ps]] [] = some (.bool ((fitAll S ns node true [] X).getLast? == some (node : Int)), [.no], []) := by
  have hE := relem_L (chk := chk) ns node
  rw [he] at hE
  have lN := lenM ns Nd.d
  have hnode := (elB_nat he).2.1
  have hst : ∀ a b comb : Int, elB ns b = true → 0 ≤ a → _ := fun a b comb h1 h2 => stands_L (chk := chk) ns a b comb hS hR h1 h2
  have HST := Hd.mk hst
  have HX := Hd.mk hX
  have HS := Hd.mk hS
  have HXL := Hd.mk hXl
  have HND := Hd.mk hnode
  have hna : ∀ i, i < ns.length → _ := fun i hi => nd_any (ns := ns) (i := i) hi
  have HNA := Hd.mk hna
  have hx0 : ((X.length : Int) == 0) = false := ne0 (fun e => hX0 (List.eq_nil_of_length_eq_zero e))
  clear hst hX hX0 hXl hR he hna hnode hS
  unfold Nam.cs at *
  obtain ⟨R, hRe⟩ : ∃ R, Hd (R = ((fitAll S ns node true [] X).getLast? == some (node : Int))) := ⟨_, rfl⟩
  rw [← (show R = ((fitAll S ns node true [] X).getLast? == some (node : Int)) from hRe)]
  refine cK 134 8 Tryz.func21 ?_
  refine Qy ?_
  clear hx0 hE hp
  refine loopH (fun st => ∃ (i : Nat) (fit : List Int) (r5 r6 r7 : List Room), i ≤ X.length ∧ st.slot 10 = .int .i64 i ∧ st.slot 0 = .list (ns.map Nd.d) ∧ st.slot 5 = .ptr 5 1 0 ∧ st.box 5 = some ⟨1, [.list X], r5⟩ ∧ st.slot 6 = .ptr 6 1 0 ∧ st.box 6 = some ⟨1, [.bool nm.has, .str nm.dft, .list (nm.pre.map .str), .list (nm.sps.map .str)], r6⟩ ∧ st.slot 7 = .ptr 7 1 0 ∧ st.box 7 = some ⟨1, [.int .i64 (node : Int), .str ps], r7⟩ ∧ st.slot 9 = .list (fit.map (D.int .i64)) ∧ Hd (fit.length ≤ 20000 ∧ ∀ m ∈ fit, 0 ≤ m) ∧ Hd (R = ((fitAll S ns node (i == 0) fit (X.drop i)).getLast? == some (node : Int)))) (fun st => X.length - slotI st 10) ?_ ?_
  · exact ⟨0, [], (padR [] 1).take 1, (padR [] 4).take 4, (padR [] 2).take 2, Nat.zero_le _, Iy, Iy, Iy, Iy, Iy, Iy, Iy, Iy, Iy, Hd.mk ⟨by simp, fun m h => by cases h⟩, hRe⟩
  · rintro st K ⟨i, fit, r5, r6, r7, hi, g10, g0, g5, b5, g6, b6, g7, b7, g9, hfit, hO⟩ hn hx hr
    have hO' : R = ((fitAll S ns node (i == 0) fit (X.drop i)).getLast? == some (node : Int)) := hO
    have hxl : X.length ≤ 100 := HXL
    by_cases h : i < X.length
    · have k10 : (i : Int) < X.length := by omega
      have hw := wrapS i (by omega)
      obtain ⟨x, hx1⟩ := some_at h
      obtain ⟨e1, e2, e3⟩ := (show ∀ x ∈ X, _ from HX) x (List.mem_of_getElem? hx1)
      have hg := (self_getD hx1).trans e1
      rw [drop_at hx1, fitAll, e1, fitStep_K] at hO'
      generalize cpL x = Y at *
      generalize cpC x = cc at *
      obtain ⟨b0, hb0⟩ : ∃ b0, (i == 0) = b0 := ⟨_, rfl⟩
      have hi0 : ((i : Int) == 0) = b0 := by rw [← hb0, Bool.eq_iff_iff, beq_iff_eq, beq_iff_eq]; omega
      rw [hb0] at hO'
      have hP : ∀ k : Nat, fitP S ns b0 fit cc Y (k : Int) = ((kAt ns k == 1 && Y.all (S · (k : Int))) && (b0 || fit.any fun m => standsF ns (k + 1) m k cc)) := fun k => by unfold fitP; rw [Int.toNat_natCast]
      generalize fitP S ns b0 fit cc Y = P at *
      have HP := Hd.mk hP
      have HI := Hd.mk h
      have HY := Hd.mk e3
      have HYL := Hd.mk e2
      have HO := Hd.mk hO'
      clear hO hO' hx hx1 e1 e2 e3 h hxl hRe hr hP hb0
      refine Gy ?_
      refine loopH (fun st' => ∃ (k : Nat) (r5 r6 r7 : List Room), k ≤ node + 1 ∧ st'.slot 12 = .int .i64 k ∧ st'.slot 10 = .int .i64 i ∧ st'.slot 0 = .list (ns.map Nd.d) ∧ st'.slot 5 = .ptr 5 1 0 ∧ st'.box 5 = some ⟨1, [.list X], r5⟩ ∧ st'.slot 6 = .ptr 6 1 0 ∧ st'.box 6 = some ⟨1, [.bool nm.has, .str nm.dft, .list (nm.pre.map .str), .list (nm.sps.map .str)], r6⟩ ∧ st'.slot 7 = .ptr 7 1 0 ∧ st'.box 7 = some ⟨1, [.int .i64 (node : Int), .str ps], r7⟩ ∧ st'.slot 9 = .list (fit.map (D.int .i64)) ∧ st'.slot 11 = .list ((fitK P k).map (D.int .i64)) ∧ st'.room 11 = [roomOf (fitK P k)]) (fun st' => node + 1 - slotI st' 12) ?_ ?_
      · exact ⟨0, r5, r6, r7, Nat.zero_le _, Iy, Iy, Iy, Iy, Iy, Iy, Iy, Iy, Iy, Iy, Iy, Iy⟩
      · rintro st' K' ⟨k, r5', r6', r7', hk, f12, f10, f0, f5, c5, f6, c6, f7, c7, f9, f11, n11⟩ hn2 hx2 hr2
        have G10 := Hd.mk g10
        clear g10 g0 g5 b5 g6 b6 g7 b7 g9
        by_cases h : k < node + 1
        · have k12 : (k : Int) ≤ (node : Int) := by omega
          have hnl : (node : Int) < ns.length := HND
          have hnS : ns.length ≤ 10000 := HS
          have k13 : (k : Int) < ns.length := by omega
          have hw2 := wrapS k (by omega)
          obtain ⟨nx, hnx, hkk, hgn⟩ := (show ∀ i, i < ns.length → _ from HNA) k (by omega)
          have hsucc := fitK_succ P k
          have hPk := (show ∀ k : Nat, P (k : Int) = _ from HP) k
          obtain ⟨T, hT⟩ : ∃ T, (kAt ns k == 1 && Y.all (S · (k : Int))) = T := ⟨_, rfl⟩
          rw [hT] at hPk
          rw [hkk] at hT
          have HT := Hd.mk hT
          have HPK := Hd.mk hPk
          have HK := Hd.mk h
          have HSU := Hd.mk hsucc
          have HEK := Hd.mk (show nx.k = 1 → elB ns (k : Int) = true from fun e => by
            unfold elB
            rw [Int.toNat_natCast, hkk, e]
            simp
            omega)
          clear hsucc hT hPk hnx hkk hx2 hr2 hn hnS hnl h
          generalize nx.at_.map At.d = NA at *
          generalize nx.st.map D.str = NT at *
          refine Gy ?_
          refine loopH (fun s2 => ∃ (m : Nat) (ok : Bool) (r5 r6 r7 : List Room), m ≤ Y.length ∧ s2.slot 14 = .int .i64 m ∧ s2.slot 13 = .bool ok ∧ s2.slot 12 = .int .i64 k ∧ s2.slot 10 = .int .i64 i ∧ s2.slot 0 = .list (ns.map Nd.d) ∧ s2.slot 5 = .ptr 5 1 0 ∧ s2.box 5 = some ⟨1, [.list X], r5⟩ ∧ s2.slot 6 = .ptr 6 1 0 ∧ s2.box 6 = some ⟨1, [.bool nm.has, .str nm.dft, .list (nm.pre.map .str), .list (nm.sps.map .str)], r6⟩ ∧ s2.slot 7 = .ptr 7 1 0 ∧ s2.box 7 = some ⟨1, [.int .i64 (node : Int), .str ps], r7⟩ ∧ s2.slot 9 = .list (fit.map (D.int .i64)) ∧ s2.slot 11 = .list ((fitK P k).map (D.int .i64)) ∧ s2.room 11 = [roomOf (fitK P k)] ∧ Hd (T = (ok && (Y.drop m).all (S · (k : Int)))) ∧ Hd (ok = true → nx.k = 1)) (fun s2 => Y.length - slotI s2 14) ?_ ?_
          · exact ⟨0, nx.k == 1, r5', r6', r7', Nat.zero_le _, Iy, Iy, Iy, Iy, Iy, Iy, Iy, Iy, Iy, Iy, Iy, Iy, Iy, Iy, Hd.mk (show T = _ from (show _ = T from HT).symm), Hd.mk (fun e => by simpa using e)⟩
          · rintro s2 K2 ⟨m, ok, q5, q6, q7, hm, u14, u13, u12, u10, u0, u5, d5, u6, d6, u7, d7, u9, u11, w11, hO2, hok⟩ hn3 hx3 hr3
            have F12 := Hd.mk f12
            clear f12 f10 f0 f5 c5 f6 c6 f7 c7 f9 f11 n11
            have hyl : Y.length ≤ 100 := HYL
            have hO3 : T = (ok && (Y.drop m).all (S · (k : Int))) := hO2
            by_cases h : m < Y.length ∧ ok = true
            · obtain ⟨h, rfl⟩ := h
              have k14 : (m : Int) < Y.length := by omega
              have hw3 := wrapS m (by omega)
              obtain ⟨s, hs1⟩ := some_at h
              obtain ⟨a1, a2⟩ := (show ∀ s ∈ Y, _ from HY) s (List.mem_of_getElem? hs1)
              have hek : elB ns (k : Int) = true := (show nx.k = 1 → _ from HEK) ((show true = true → nx.k = 1 from hok) rfl)
              have hcall := a2 (k : Int) hek
              have hz := (self_getD hs1).trans a1
              rw [Bool.true_and, all_drop _ hs1] at hO3
              obtain ⟨v, hv⟩ : ∃ v, S s (k : Int) = v := ⟨_, rfl⟩
              rw [hv] at hcall
              have hO4 : T = (v && (Y.drop (m + 1)).all (S · (k : Int))) := by rw [hO3, hv]
              generalize sf s = Z at *
              unfold Sf.d at *
              have HM := Hd.mk h
              have HO3 := Hd.mk hO4
              have HOK : Hd (v = true → nx.k = 1) := Hd.mk (fun _ => (show true = true → nx.k = 1 from hok) rfl)
              clear hO2 hO3 hO4 hx3 hr3 hs1 a1 a2 h hyl hek hok hv hn2
              refine Qy ?_
              refine hn3 _ ⟨m + 1, v, q5, q6, q7, HM, L, L, L, L, L, L, L, L, L, L, L, L, L, L, HO3, HOK⟩ ?_
              · have hm2 : m < Y.length := HM
                simp only [slotI, *, AVB, ↓reduceIte]
                omega
            · have hTok : T = ok := by
                cases ok with
                | false => rw [hO3, Bool.false_and]
                | true =>
                  have hml : Y.length ≤ m := by
                    rcases Nat.lt_or_ge m Y.length with e | e
                    · exact absurd ⟨e, rfl⟩ h
                    · exact e
                  rw [hO3, all_end _ hml]; rfl
              subst hTok
              have hend : ¬ (m : Int) < Y.length ∨ T = false := by
                cases T with
                | false => exact .inr rfl
                | true => exact .inl (fun e => h ⟨by omega, rfl⟩)
              have KK := Hd.mk hok
              clear hO2 hO3 hn3 hr3 h hyl hok
              have hro := room_ok (fitK P k)
              have hra := room_app (fitK P k) k
              have hsz := sz1b (fitK P k)
              have hs1 : szOk 1 [D.int .i64 (k : Int)] = true := rfl
              have hfk := (fitK_ok P k).1
              have hl1 : ((fitK P k).map (D.int .i64)).length + 1 ≤ 1073741824 := by rw [List.length_map]; have hS : ns.length ≤ 10000 := HS; have hnl : (node : Int) < ns.length := HND; have hkn : k < node + 1 := HK; omega
              have RO := Hd.mk hro
              have RA := Hd.mk hra
              have RZ := Hd.mk hsz
              have RS := Hd.mk hs1
              have RL := Hd.mk hl1
              clear hro hra hsz hs1 hfk hl1
              have lF := lenM fit (D.int .i64)
              obtain ⟨Q, hQ⟩ : ∃ Q, (b0 || fit.any fun m => standsF ns (k + 1) m k cc) = Q := ⟨_, rfl⟩
              have HQ := Hd.mk hQ.symm
              have HPQ := Hd.mk (show P (k : Int) = (T && Q) from by rw [← hQ]; exact HPK)
              clear hQ
              have HEND := Hd.mk hend
              clear hend
              cases T with
                | true =>
                  have hml : ¬ (m : Int) < Y.length := (show ¬ (m : Int) < Y.length ∨ true = false from HEND).resolve_right (by decide)
                  refine Gy ?_
                  refine hx3 _ _ ?_
                  refine Gy ?_
                  clear hx3 hml
                  refine loopH (fun s4 => ∃ (m : Nat) (th : Bool) (r5 r6 r7 : List Room), m ≤ fit.length ∧ s4.slot 16 = .int .i64 m ∧ s4.slot 15 = .bool th ∧ s4.slot 13 = .bool true ∧ s4.slot 12 = .int .i64 k ∧ s4.slot 10 = .int .i64 i ∧ s4.slot 0 = .list (ns.map Nd.d) ∧ s4.slot 5 = .ptr 5 1 0 ∧ s4.box 5 = some ⟨1, [.list X], r5⟩ ∧ s4.slot 6 = .ptr 6 1 0 ∧ s4.box 6 = some ⟨1, [.bool nm.has, .str nm.dft, .list (nm.pre.map .str), .list (nm.sps.map .str)], r6⟩ ∧ s4.slot 7 = .ptr 7 1 0 ∧ s4.box 7 = some ⟨1, [.int .i64 (node : Int), .str ps], r7⟩ ∧ s4.slot 9 = .list (fit.map (D.int .i64)) ∧ s4.slot 11 = .list ((fitK P k).map (D.int .i64)) ∧ s4.room 11 = [roomOf (fitK P k)] ∧ Hd (Q = (th || (fit.drop m).any fun a => standsF ns (k + 1) a k cc))) (fun s4 => fit.length - slotI s4 16) ?_ ?_
                  · exact ⟨0, b0, q5, q6, q7, Nat.zero_le _, Iy, Iy, Iy, Iy, Iy, Iy, Iy, Iy, Iy, Iy, Iy, Iy, Iy, Iy, Iy, HQ⟩
                  · rintro s4 K4 ⟨m4, th, p5, p6, p7, hm4, v16, v15, v13, v12, v10, v0, v5, y5, v6, y6, v7, y7, v9, v11, x11, hO4⟩ hn4 hx4 hr4
                    clear u14 u13 u12 u10 u0 u5 d5 u6 d6 u7 d7 u9 u11 w11
                    have hO5 : Q = (th || (fit.drop m4).any fun a => standsF ns (k + 1) a k cc) := hO4
                    have hfl : fit.length ≤ 20000 := (show fit.length ≤ 20000 ∧ _ from hfit).1
                    by_cases h : m4 < fit.length ∧ th = false
                    · obtain ⟨h, rfl⟩ := h
                      have k16 : (m4 : Int) < fit.length := by omega
                      have hw4 := wrapS m4 (by omega)
                      obtain ⟨a, ha1⟩ := some_at h
                      have hga : (fit.map (D.int .i64)).getD m4 .bad = .int .i64 a := getD_map (f := D.int .i64) ha1
                      have ha0 : 0 ≤ a := (show fit.length ≤ 20000 ∧ ∀ m ∈ fit, 0 ≤ m from hfit).2 a (List.mem_of_getElem? ha1)
                      have hek : elB ns (k : Int) = true := (show nx.k = 1 → _ from HEK) ((show true = true → nx.k = 1 from KK) rfl)
                      have hsc := (show ∀ a b comb : Int, elB ns b = true → 0 ≤ a → _ from HST) a (k : Int) cc hek ha0
                      rw [Int.toNat_natCast] at hsc
                      rw [Bool.false_or, any_drop _ ha1] at hO5
                      generalize hv : standsF ns (k + 1) a (k : Int) cc = v at *
                      have HM4 := Hd.mk h
                      have HO5 := Hd.mk hO5
                      clear hO4 hO5 hx4 hr4 ha1 ha0 hek hv h hfl hn2
                      refine Qy ?_
                      refine hn4 _ ⟨m4 + 1, v, p5, p6, p7, HM4, L, L, L, L, L, L, L, L, L, L, L, L, L, L, L, HO5⟩ ?_
                      · have hm2 : m4 < fit.length := HM4
                        simp only [slotI, *, AVB, ↓reduceIte]
                        omega
                    · have hQth : Q = th := by
                        cases th with
                        | true => rw [hO5, Bool.true_or]
                        | false =>
                          have : fit.length ≤ m4 := by
                            rcases Nat.lt_or_ge m4 fit.length with e | e
                            · exact absurd ⟨e, rfl⟩ h
                            · exact e
                          rw [hO5, any_end _ this]; rfl
                      have hPk : P (k : Int) = th := by rw [← hQth]; exact (show P (k : Int) = (true && Q) from HPQ).trans (Bool.true_and _)
                      have hsu := (show fitK P (k + 1) = _ from HSU)
                      have hkn : k < node + 1 := HK
                      rw [hPk] at hsu
                      have hne : (m4 : Int) < fit.length → th = true := fun e => by
                        cases th with
                        | true => rfl
                        | false => exact absurd ⟨by omega, rfl⟩ h
                      have HSV := Hd.mk hsu
                      have HNE := Hd.mk hne
                      clear hO4 hO5 hn4 hr4 h hQth hPk hsu hne hfl
                      cases th with
                      | true =>
                        have hsu : fitK P (k + 1) = fitK P k ++ [(k : Int)] := (show fitK P (k + 1) = _ from HSV)
                        have hro : roomOf (fitK P k) = .full ∨ roomOf (fitK P k) = .own 3 ∨ roomOf (fitK P k) = .fresh := RO
                        have hra : roomOf (fitK P k ++ [(k : Int)]) = .own 3 := RA
                        have hsz : szOk 1 ((fitK P k).map (D.int .i64)) = true := RZ
                        have hs1 : szOk 1 [D.int .i64 (k : Int)] = true := RS
                        have hl1 : ((fitK P k).map (D.int .i64)).length + 1 ≤ 1073741824 := RL
                        repeat' (first|simp only [*, AVB, AVY, ↓reduceIte, Nat.reduceEqDiff, Nat.reduceLT, Nat.reduceBEq, dIntBin]|refine gw_intro (fun h => ?_) (fun h => ?_) <;> try simp only [AVH] at h)
                        all_goals
                          refine hx4 _ _ ?_
                          refine Gy ?_
                          refine hn2 _ ⟨k + 1, p5, p6, p7, hkn, ?_, ?_, ?_, ?_, ?_, ?_, ?_, ?_, ?_, ?_, ?_, ?_⟩ ?_
                          . simp only [*, AVB, ↓reduceIte]
                          . simp only [*, AVB, ↓reduceIte, Nat.reduceEqDiff]
                          . simp only [*, AVB, ↓reduceIte, reduceCtorEq]
                          . simp only [*, AVB, ↓reduceIte, Nat.reduceEqDiff]
                          . simp only [*, AVB]
                          . simp only [*, AVB, ↓reduceIte, Nat.reduceEqDiff]
                          . simp only [*, AVB]
                          . simp only [*, AVB, ↓reduceIte, Nat.reduceEqDiff]
                          . simp only [*, AVB]
                          . simp only [*, AVB, ↓reduceIte, Nat.reduceEqDiff]
                          . simp only [*, List.map_append, AVB, ↓reduceIte, Nat.reduceEqDiff]
                          . simp only [*, AVB, ↓reduceIte, Nat.reduceEqDiff]
                          . have f12 : st'.slot 12 = .int .i64 k := F12
                            simp only [slotI, *, AVB, ↓reduceIte]
                            omega
                      | false =>
                        have hsu : fitK P (k + 1) = fitK P k := (show fitK P (k + 1) = fitK P k ++ [] from HSV).trans (List.append_nil _)
                        have hne : ¬ (m4 : Int) < fit.length := fun e => absurd ((show (m4 : Int) < fit.length → false = true from HNE) e) (by decide)
                        refine Gy ?_
                        refine hx4 _ _ ?_
                        refine Gy ?_
                        refine hn2 _ ⟨k + 1, p5, p6, p7, hkn, ?_, ?_, ?_, ?_, ?_, ?_, ?_, ?_, ?_, ?_, ?_, ?_⟩ ?_
                        . simp only [*, AVB, ↓reduceIte]
                        . simp only [*, AVB, ↓reduceIte, Nat.reduceEqDiff]
                        . simp only [*, AVB, ↓reduceIte, reduceCtorEq]
                        . simp only [*, AVB, ↓reduceIte, Nat.reduceEqDiff]
                        . simp only [*, AVB]
                        . simp only [*, AVB, ↓reduceIte, Nat.reduceEqDiff]
                        . simp only [*, AVB]
                        . simp only [*, AVB, ↓reduceIte, Nat.reduceEqDiff]
                        . simp only [*, AVB]
                        . simp only [*, AVB, ↓reduceIte, Nat.reduceEqDiff]
                        . simp only [*, AVB, ↓reduceIte, Nat.reduceEqDiff]
                        . simp only [*, AVB, ↓reduceIte, Nat.reduceEqDiff]
                        . have f12 : st'.slot 12 = .int .i64 k := F12
                          simp only [slotI, *, AVB, ↓reduceIte]
                          omega
                | false =>
                  have hsu0 : fitK P (k + 1) = fitK P k := by
                    have h1 := (show fitK P (k + 1) = _ from HSU)
                    rw [(show P (k : Int) = (false && Q) from HPQ)] at h1
                    exact h1.trans (List.append_nil _)
                  have hkn : k < node + 1 := HK
                  have hsu := hsu0
                  clear hsu0
                  by_cases hml : (m : Int) < Y.length
                  all_goals
                    refine Gy ?_
                    refine hx3 _ _ ?_
                    refine Gy ?_
                    clear hx3 hml
                    refine loopH (fun s4 => ∃ (m : Nat) (th : Bool) (r5 r6 r7 : List Room), s4.slot 16 = .int .i64 m ∧ s4.slot 15 = .bool th ∧ s4.slot 13 = .bool false ∧ s4.slot 12 = .int .i64 k ∧ s4.slot 10 = .int .i64 i ∧ s4.slot 0 = .list (ns.map Nd.d) ∧ s4.slot 5 = .ptr 5 1 0 ∧ s4.box 5 = some ⟨1, [.list X], r5⟩ ∧ s4.slot 6 = .ptr 6 1 0 ∧ s4.box 6 = some ⟨1, [.bool nm.has, .str nm.dft, .list (nm.pre.map .str), .list (nm.sps.map .str)], r6⟩ ∧ s4.slot 7 = .ptr 7 1 0 ∧ s4.box 7 = some ⟨1, [.int .i64 (node : Int), .str ps], r7⟩ ∧ s4.slot 9 = .list (fit.map (D.int .i64)) ∧ s4.slot 11 = .list ((fitK P k).map (D.int .i64)) ∧ s4.room 11 = [roomOf (fitK P k)]) (fun s4 => 0) ?_ ?_
                    · exact ⟨0, b0, q5, q6, q7, Iy, Iy, Iy, Iy, Iy, Iy, Iy, Iy, Iy, Iy, Iy, Iy, Iy, Iy, Iy⟩
                    · rintro s4 K4 ⟨m4, th, p5, p6, p7, v16, v15, v13, v12, v10, v0, v5, y5, v6, y6, v7, y7, v9, v11, x11⟩ hn4 hx4 hr4
                      clear u14 u13 u12 u10 u0 u5 d5 u6 d6 u7 d7 u9 u11 w11 hn4 hr4
                      repeat' (first|simp only [*, AVB, AVY, ↓reduceIte, Nat.reduceEqDiff, Nat.reduceLT, Nat.reduceBEq, dIntBin]|refine gw_intro (fun h => ?_) (fun h => ?_) <;> try simp only [AVH] at h)
                      all_goals
                        refine hx4 _ _ ?_
                        refine Gy ?_
                        refine hn2 _ ⟨k + 1, p5, p6, p7, hkn, ?_, ?_, ?_, ?_, ?_, ?_, ?_, ?_, ?_, ?_, ?_, ?_⟩ ?_
                        . simp only [*, AVB, ↓reduceIte]
                        . simp only [*, AVB, ↓reduceIte, Nat.reduceEqDiff]
                        . simp only [*, AVB, ↓reduceIte, reduceCtorEq]
                        . simp only [*, AVB, ↓reduceIte, Nat.reduceEqDiff]
                        . simp only [*, AVB]
                        . simp only [*, AVB, ↓reduceIte, Nat.reduceEqDiff]
                        . simp only [*, AVB]
                        . simp only [*, AVB, ↓reduceIte, Nat.reduceEqDiff]
                        . simp only [*, AVB]
                        . simp only [*, AVB, ↓reduceIte, Nat.reduceEqDiff]
                        . simp only [*, AVB, ↓reduceIte, Nat.reduceEqDiff]
                        . simp only [*, AVB, ↓reduceIte, Nat.reduceEqDiff]
                        . have f12 : st'.slot 12 = .int .i64 k := F12
                          simp only [slotI, *, AVB, ↓reduceIte]
                          omega
        · have k12 : ¬ (k : Int) ≤ (node : Int) := by omega
          obtain rfl : k = node + 1 := by omega
          have hi2 : i < X.length := HI
          have hff : fitK P (node + 1) = fitK P (node + 1) := rfl
          have hb1 := (fitK_ok P (node + 1))
          have HF : Hd ((fitK P (node + 1)).length ≤ 20000 ∧ ∀ m ∈ fitK P (node + 1), 0 ≤ m) := Hd.mk ⟨by have hS : ns.length ≤ 10000 := HS; have hnl : (node : Int) < ns.length := HND; omega, hb1.2⟩
          have HR2 : Hd (R = ((fitAll S ns node (i + 1 == 0) (fitK P (node + 1)) (X.drop (i + 1))).getLast? == some (node : Int))) := Hd.mk (by rw [show (i + 1 == 0) = false from by simp]; exact HO)
          clear hb1 hff hn2 hr2 h
          refine Gy ?_
          refine hx2 _ _ ?_
          refine Gy ?_
          refine hn _ ⟨i + 1, fitK P (node + 1), r5', r6', r7', hi2, L, L, L, L, L, L, L, L, L, HF, HR2⟩ ?_
          · have g10 : st.slot 10 = .int .i64 i := G10
            simp only [slotI, *, AVB, ↓reduceIte]
            omega
    · have k10 : ¬ (i : Int) < X.length := by omega
      rw [List.drop_eq_nil_of_le (by omega), fitAll] at hO'
      have lF := lenM fit (D.int .i64)
      have hfl : fit.length ≤ 20000 := (show fit.length ≤ 20000 ∧ _ from hfit).1
      by_cases hf0 : fit = []
      · have hO2 : R = false := by rw [hO', hf0]; rfl
        subst hO2
        have z1 : ¬ (0 : Int) < fit.length := by rw [hf0]; simp
        clear hO hO' hn hr hRe h hxl hf0
        refine Gy ?_
        exact hx _ _ Wy
      · obtain ⟨z, hz1, hz2⟩ := getLast_map fit hf0
        have hl0 : fit.length ≠ 0 := fun e => hf0 (List.eq_nil_of_length_eq_zero e)
        have z1 : (0 : Int) < fit.length := by omega
        have z2 : IntKind.i64.wrap ((fit.length : Int) - 1) = ((fit.length - 1 : Nat) : Int) := by rw [wrap64 _ (by omega) (by omega)]; omega
        have z3 : ((fit.length - 1 : Nat) : Int) < fit.length := by omega
        have z4 : (0 : Int) ≤ ((fit.length - 1 : Nat) : Int) := by omega
        rw [hz1] at hO'
        have hO2 : R = (z == (node : Int)) := hO'
        subst hO2
        clear hO hO' hn hr hRe h hxl hf0 hz1 hl0 hfl
        refine Gy ?_
        exact hx _ _ Wy
end Go.Av
namespace Go.Av
open Go.Proofs
variable [Rk] {chk : List D → Bool}
set_option maxHeartbeats 8000000 in
theorem rnth_L (ns : List Nd) (nm : Nam) (n : Int) (s : Sf) (W : Int → Bool) (hS : ns.length ≤ 10000) (he : elB ns n = true)
    (ha : s.a ≤ 1099511627776 ∧ -1099511627776 ≤ s.a) (hb : s.b ≤ 1099511627776 ∧ -1099511627776 ≤ s.b)
    (hl : ∀ j ∈ rowI ns n, s.of_ ≠ [] → callL Tryz.prog (ext11b chk) 8 [.list (ns.map Nd.d), .list s.of_, .agg nm.cs, .agg [.int .i64 j, .str []]] [] = some (.bool (W j), [.no], [])) :
    callL Tryz.prog (ext11b chk) 54 [.list (ns.map Nd.d), s.d, .agg nm.cs, .int .i64 n] [] = some (.bool ((nthGo (fun j => s.of_.isEmpty || W j) (rowI ns n) 0 false).2 && hasAB s.a s.b (nthGo (fun j => s.of_.isEmpty || W j) (rowI ns n) 0 false).1), [.no], []) := by
  have hR := rrow_L (chk := chk) ns n hS
  have hlen : (rowI ns n).length ≤ 10001 := by
    rw [row_snoc he]
    have h1 := rowL_len (ns := ns) (key := pAt ns n.toNat) (m := n.toNat)
    have h2 := (elB_nat he).2.1
    have h3 := (elB_nat he).1
    simp only [List.length_append, List.length_singleton]
    omega
  generalize rowI ns n = R at *
  have hh : ∀ m : Nat, m ≤ 20000 → callL Tryz.prog (ext11b chk) 74 [.int .i64 s.a, .int .i64 s.b, .int .i64 (m : Int)] [] = some (.bool (hasAB s.a s.b m), [.no], []) := fun m hm => ranbHas_L (chk := chk) s.a s.b (m : Int) ha hb (by omega)
  have HH := Hd.mk hh
  have HL := Hd.mk hlen
  have lN := lenM R (D.int .i64)
  obtain ⟨E, hE⟩ : ∃ E, s.of_.isEmpty = E := ⟨_, rfl⟩
  have hz : ((s.of_.length : Int) == 0) = E := by
    rw [← hE]
    cases s.of_ with
    | nil => rfl
    | cons x r => exact ne0 (by simp)
  have HC := Hd.mk (show ∀ j ∈ R, E = false → _ from fun j hj e => hl j hj (by rintro e2; rw [e2] at hE; rw [← hE] at e; cases e))
  rw [hE]
  obtain ⟨G, hG⟩ : ∃ G, Hd (nthGo (fun j => E || W j) R 0 false = G) := ⟨_, rfl⟩
  rw [show nthGo (fun j => E || W j) R 0 false = G from hG]
  clear hh hlen hl hE ha hb he hS
  unfold Nam.cs Sf.d at *
  generalize ns.map Nd.d = L at *
  refine cK 52 8 Tryz.func54 ?_
  refine Gy ?_
  clear hR
  refine loopH (fun st => ∃ (i p : Nat) (b : Bool) (r5 r6 : List Room), i ≤ R.length ∧ st.slot 12 = .int .i64 i ∧ st.slot 10 = .int .i64 (p : Int) ∧ st.slot 11 = .bool b ∧ st.slot 9 = .list (R.map (D.int .i64)) ∧ st.slot 0 = .list L ∧ st.slot 5 = .ptr 5 1 0 ∧ st.box 5 = some ⟨1, [.int .i64 s.kd, .int .i64 s.ns, .str s.pre, .str s.nm, .int .i64 s.op, .str s.tx, .bool s.fold, .int .i64 s.mark, .int .i64 s.a, .int .i64 s.b, .list s.of_], r5⟩ ∧ st.slot 6 = .ptr 6 1 0 ∧ st.box 6 = some ⟨1, [.bool nm.has, .str nm.dft, .list (nm.pre.map .str), .list (nm.sps.map .str)], r6⟩ ∧ Hd (p ≤ i ∧ nthGo (fun j => E || W j) (R.drop i) p b = G)) (fun st => R.length - slotI st 12) ?_ ?_
  · exact ⟨0, 0, false, (padR [] 11).take 11, (padR [] 4).take 4, Nat.zero_le _, Iy, Iy, Iy, Iy, Iy, Iy, Iy, Iy, Iy, Hd.mk ⟨Nat.le_refl _, hG⟩⟩
  · rintro st K ⟨i, p, b, r5, r6, hi, g12, g10, g11, g9, g0, g5, b5, g6, b6, hO⟩ hn hx hr
    have hO' : p ≤ i ∧ nthGo (fun j => E || W j) (R.drop i) p b = G := hO
    have hll : R.length ≤ 10001 := HL
    by_cases h : i < R.length
    · have k9 : (i : Int) < R.length := by omega
      have hw := wrapS i (by omega)
      have hw2 := wrapS p (by omega)
      obtain ⟨x, hx1⟩ := some_at h
      have ha : (R.map (D.int .i64)).getD i .bad = .int .i64 x := getD_map (f := D.int .i64) hx1
      rw [drop_at hx1, nthGo] at hO'
      have hcl := (show ∀ j ∈ R, E = false → _ from HC) x (List.mem_of_getElem? hx1)
      cases hEE : E with
      | true =>
        rw [hEE, Bool.true_or, if_pos rfl] at hO'
        have HO := Hd.mk (show p + 1 ≤ i + 1 ∧ nthGo (fun j => E || W j) (R.drop (i + 1)) (p + 1) true = G from ⟨by omega, by rw [hEE]; exact hO'.2⟩)
        rw [hEE] at hz
        clear hcl hO hO' hx hr hx1 hll hG
        repeat' (first|simp only [*, AVB, AVY, ↓reduceIte, Nat.reduceEqDiff, Nat.reduceLT, Nat.reduceBEq, dIntBin]|refine drW_intro (by kernel_rfl) ?_)
        refine hn _ ⟨i + 1, p + 1, true, r5, r6, h, ?_, ?_, ?_, ?_, ?_, ?_, ?_, ?_, ?_, HO⟩ ?_
        · simp only [*, AVL, ↓reduceIte]
        · simp only [*, AVL, ↓reduceIte, Nat.reduceEqDiff]
        · simp only [*, AVL, ↓reduceIte, Nat.reduceEqDiff]
        · simp only [*, AVL, ↓reduceIte, Nat.reduceEqDiff]
        · simp only [*, AVL, ↓reduceIte, reduceCtorEq]
        · simp only [*, AVL, ↓reduceIte, Nat.reduceEqDiff]
        · simp only [*, AVL]
        · simp only [*, AVL, ↓reduceIte, Nat.reduceEqDiff]
        · simp only [*, AVL]
        ·exact Zy
      | false =>
        have hc := hcl hEE
        rw [hEE, Bool.false_or] at hO'
        rw [hEE] at hz
        cases hW : W x with
        | true =>
          rw [hW] at hc
          rw [hW, if_pos rfl] at hO'
          have HO := Hd.mk (show p + 1 ≤ i + 1 ∧ nthGo (fun j => E || W j) (R.drop (i + 1)) (p + 1) true = G from ⟨by omega, by rw [hEE]; exact hO'.2⟩)
          clear hcl hO hO' hx hr hx1 hll hG hW
          repeat' (first|simp only [*, AVB, AVY, ↓reduceIte, Nat.reduceEqDiff, Nat.reduceLT, reduceCtorEq, Nat.reduceBEq, dIntBin]|refine drW_intro (by kernel_rfl) ?_)
          refine hn _ ⟨i + 1, p + 1, true, r5, r6, h, ?_, ?_, ?_, ?_, ?_, ?_, ?_, ?_, ?_, HO⟩ ?_
          · simp only [*, AVL, ↓reduceIte]
          · simp only [*, AVL, ↓reduceIte, Nat.reduceEqDiff]
          · simp only [*, AVL, ↓reduceIte, Nat.reduceEqDiff]
          · simp only [*, AVL, ↓reduceIte, Nat.reduceEqDiff]
          · simp only [*, AVL, ↓reduceIte, reduceCtorEq]
          · simp only [*, AVL, ↓reduceIte, Nat.reduceEqDiff]
          · simp only [*, AVL]
          · simp only [*, AVL, ↓reduceIte, Nat.reduceEqDiff]
          · simp only [*, AVL]
          ·exact Zy
        | false =>
          rw [hW] at hc
          rw [hW, if_neg (by decide)] at hO'
          have HO := Hd.mk (show p ≤ i + 1 ∧ nthGo (fun j => E || W j) (R.drop (i + 1)) p false = G from ⟨by omega, by rw [hEE]; exact hO'.2⟩)
          clear hcl hO hO' hx hr hx1 hll hG hW
          repeat' (first|simp only [*, AVB, AVY, ↓reduceIte, Nat.reduceEqDiff, Nat.reduceLT, reduceCtorEq, Nat.reduceBEq, dIntBin]|refine drW_intro (by kernel_rfl) ?_)
          refine hn _ ⟨i + 1, p, false, r5, r6, h, ?_, ?_, ?_, ?_, ?_, ?_, ?_, ?_, ?_, HO⟩ ?_
          · simp only [*, AVL, ↓reduceIte]
          · simp only [*, AVL, ↓reduceIte, Nat.reduceEqDiff]
          · simp only [*, AVL, ↓reduceIte, Nat.reduceEqDiff]
          · simp only [*, AVL, ↓reduceIte, Nat.reduceEqDiff]
          · simp only [*, AVL, ↓reduceIte, reduceCtorEq]
          · simp only [*, AVL, ↓reduceIte, Nat.reduceEqDiff]
          · simp only [*, AVL]
          · simp only [*, AVL, ↓reduceIte, Nat.reduceEqDiff]
          · simp only [*, AVL]
          ·exact Zy
    · have k9 : ¬ (i : Int) < R.length := by omega
      have hhp := (show ∀ m : Nat, m ≤ 20000 → _ from HH) p (by omega)
      rw [List.drop_eq_nil_of_le (by omega), nthGo] at hO'
      obtain ⟨_, hGe⟩ := hO'
      subst hGe
      clear hn hr hO hll hG
      cases b with
      | true =>
        refine Gy ?_
        exact hx _ _ Wy
      | false =>
        refine Gy ?_
        exact hx _ _ Wy
set_option maxHeartbeats 4000000 in
theorem rlist_L (ns : List Nd) (nm : Nam) (l : List D) (n : Int) (ps : List UInt8) (V : D → Bool) (hl : l.length ≤ 100)
    (hf : ∀ c ∈ l, c = cxD (cxL c)) (hc : ∀ c ∈ l, callL Tryz.prog (ext11b chk) 21 [.list (ns.map Nd.d), c, .agg nm.cs, .agg [.int .i64 n, .str ps]] [] = some (.bool (V c), [.no], [])) :
    callL Tryz.prog (ext11b chk) 8 [.list (ns.map Nd.d), .list l, .agg nm.cs, .agg [.int .i64 n, .str ps]] [] = some (.bool (l.any V), [.no], []) := by
  have HC := Hd.mk hc
  have HF := Hd.mk hf
  have HL := Hd.mk hl
  obtain ⟨R, hRe⟩ : ∃ R, Hd (R = l.any V) := ⟨_, rfl⟩
  rw [← (show R = l.any V from hRe)]
  clear hc hl hf
  unfold Nam.cs at *
  generalize ns.map Nd.d = L at *
  refine cK 24 8 Tryz.func8 ?_
  refine Gy ?_
  refine loopH (fun st => ∃ (i : Nat) (r6 r7 : List Room), i ≤ l.length ∧ st.slot 9 = .int .i64 i ∧ st.slot 1 = .list l ∧ st.slot 0 = .list L ∧ st.slot 6 = .ptr 6 1 0 ∧ st.box 6 = some ⟨1, [.bool nm.has, .str nm.dft, .list (nm.pre.map .str), .list (nm.sps.map .str)], r6⟩ ∧ st.slot 7 = .ptr 7 1 0 ∧ st.box 7 = some ⟨1, [.int .i64 n, .str ps], r7⟩ ∧ Hd (R = (l.drop i).any V)) (fun st => l.length - slotI st 9) ?_ ?_
  · exact ⟨0, (padR [] 4).take 4, (padR [] 2).take 2, Nat.zero_le _, Iy, Iy, Iy, Iy, Iy, Iy, Iy, hRe⟩
  · rintro st K ⟨i, r6, r7, hi, g9, g1, g0, g6, b6, g7, b7, hO⟩ hn hx hr
    have hO' : R = (l.drop i).any V := hO
    have hll : l.length ≤ 100 := HL
    by_cases h : i < l.length
    · have k9 : (i : Int) < l.length := by omega
      have hw := wrapS i (by omega)
      obtain ⟨c, hc1⟩ := some_at h
      have hm := List.mem_of_getElem? hc1
      have hcf := (show ∀ c ∈ l, c = cxD (cxL c) from HF) c hm
      have hcc := (show ∀ c ∈ l, _ from HC) c hm
      rw [any_drop _ hc1] at hO'
      have hg := self_getD hc1
      obtain ⟨v, hv⟩ : ∃ v, V c = v := ⟨_, rfl⟩
      rw [hv] at hcc hO'
      generalize cxL c = Y at *
      subst hcf
      unfold cxD at *
      cases v with
      | true =>
        rw [Bool.true_or] at hO'
        subst hO'
        clear hn hx hO hRe hc1 hm h hll hv
        repeat' (first|simp only [*, AVB, AVY, ↓reduceIte, Nat.reduceEqDiff, Nat.reduceLT, reduceCtorEq, Nat.reduceBEq, dIntBin]|refine drW_intro (by kernel_rfl) ?_)
        exact hr _ Wy
      | false =>
        rw [Bool.false_or] at hO'
        have HO := Hd.mk hO'
        clear hr hx hO hO' hRe hc1 hm hll hv
        repeat' (first|simp only [*, AVB, AVY, ↓reduceIte, Nat.reduceEqDiff, Nat.reduceLT, reduceCtorEq, Nat.reduceBEq, dIntBin]|refine drW_intro (by kernel_rfl) ?_)
        refine hn _ ⟨i + 1, r6, r7, h, ?_, ?_, ?_, ?_, ?_, ?_, ?_, HO⟩ ?_
        · simp only [*, AVL, ↓reduceIte]
        · simp only [*, AVL, ↓reduceIte, Nat.reduceEqDiff]
        · simp only [*, AVL, ↓reduceIte, reduceCtorEq]
        · simp only [*, AVL, ↓reduceIte, Nat.reduceEqDiff]
        · simp only [*, AVL]
        · simp only [*, AVL, ↓reduceIte, Nat.reduceEqDiff]
        · simp only [*, AVL]
        ·exact Zy
    · have k9 : ¬ (i : Int) < l.length := by omega
      rw [any_end _ (by omega)] at hO'
      subst hO'
      clear hn hr hO hRe h hll
      refine Gy ?_
      exact hx _ _ Wy
theorem cp_mono0 {m : Nat} {S S' : D → Bool} (h : ∀ d, S d = true → S' d = true) {x : D} (hx : cpOk m S x = true) : cpOk m S' x = true := by
  obtain ⟨c, l, rfl, h1, h2⟩ := cpOk_inv hx
  simp only [cpD, cpOk, lenB, Bool.and_eq_true, decide_eq_true_eq, List.all_eq_true]
  exact ⟨h1, fun s hs => h s (h2 s hs)⟩
theorem cx_mono0 {m : Nat} {S S' : D → Bool} (h : ∀ d, S d = true → S' d = true) {x : D} (hx : cxOk m S x = true) : cxOk m S' x = true := by
  obtain ⟨l, rfl, h1, h2⟩ := cxOk_inv hx
  simp only [cxD, cxOk, lenB, Bool.and_eq_true, decide_eq_true_eq, List.all_eq_true]
  exact ⟨h1, fun s hs => cp_mono0 h (h2 s hs)⟩
set_option maxHeartbeats 2000000 in
theorem rcomp_L (ns : List Nd) (nm : Nam) (c : D) (n : Int) (ps : List UInt8) {k : Nat} {Q : D → Bool} (hQ : ∀ s, Q s = true → smOk 100 (k + 1) s = true) (S : D → Int → Bool) (hS : ns.length ≤ 10000) (hR : RightT ns) (hc : cxOk 100 Q c = true)
    (hs : ∀ s, Q s = true → ∀ j, elB ns j = true → callL Tryz.prog (ext11b chk) 36 [.list (ns.map Nd.d), (sf s).d, .agg nm.cs, .int .i64 j] [] = some (.bool (S s j), [.no], [])) :
    callL Tryz.prog (ext11b chk) 21 [.list (ns.map Nd.d), c, .agg nm.cs, .agg [.int .i64 n, .str ps]] [] = some (.bool (complexV S ns c n ps), [.no], []) := by
  have hp := rpseudo_L (chk := chk) c (cx_mono0 hQ hc)
  obtain ⟨X, rfl, hXl, hX⟩ := cxOk_inv hc
  unfold complexV
  have hxx : cxL (cxD X) = X := rfl
  rw [hxx]
  cases he : elB ns n with
  | false =>
    have hE := relem_L (chk := chk) ns n
    rw [he] at hE
    rw [Bool.false_and]
    clear hp hs hX hXl hc he
    unfold Nam.cs cxD at *
    generalize ns.map Nd.d = L at *
    exact cWy 134 8 Tryz.func21
  | true =>
    rw [Bool.true_and]
    cases hq : (pseudoF (cxD X) == ps) with
    | false =>
      have hE := relem_L (chk := chk) ns n
      rw [he] at hE
      rw [Bool.false_and]
      generalize pseudoF (cxD X) = qs at *
      have hq2 : (qs != ps) = true := by rw [bne, hq]; rfl
      clear hs hX hXl hc he
      unfold Nam.cs cxD at *
      generalize ns.map Nd.d = L at *
      exact cWy 134 8 Tryz.func21
    | true =>
      have hq1 : pseudoF (cxD X) = ps := by simpa using hq
      rw [hq1] at hp
      rw [Bool.true_and]
      by_cases h0 : X = []
      · have hE := relem_L (chk := chk) ns n
        rw [he] at hE
        subst h0
        rw [show (!([] : List D).isEmpty && _) = false from rfl]
        clear hs hX hXl hc he hq hq1
        unfold Nam.cs cxD at *
        generalize ns.map Nd.d = L at *
        exact cWy 134 8 Tryz.func21
      · have h1 : X.isEmpty = false := by cases X with
          | nil => exact absurd rfl h0
          | cons _ _ => rfl
        rw [h1, Bool.not_false, Bool.true_and]
        obtain ⟨m, rfl⟩ : ∃ m : Nat, n = (m : Int) := ⟨n.toNat, by have := (elB_nat he).1; omega⟩
        have := rcomplex_L (chk := chk) ns nm X m hS hR he S h0 hXl (fun x hx => by
          obtain ⟨cc, sl, rfl, hsl, hs1⟩ := cpOk_inv (hX x hx)
          exact ⟨rfl, hsl, fun s hs2 => ⟨(smOk_inv (hQ s (hs1 s hs2))).1, hs s (hs1 s hs2)⟩⟩) ps hp
        exact this
end Go.Av
namespace Go.Av
open Go.Proofs
variable [Rk] {chk : List D → Bool}
theorem nthGo_row {ns : List Nd} {n : Int} (he : elB ns n = true) (W : Int → Bool) : nthGo W (rowI ns n) 0 false = ((rowI ns n).countP W, W n) := by
  rw [row_snoc he, nthGo_snoc, Nat.zero_add]
theorem nodeI_el {ns : List Nd} {n : Int} (he : elB ns n = true) : ∃ i : Nat, n = (i : Int) ∧ i < ns.length ∧ ns[i]? = some (nodeI ns n) := by
  obtain ⟨h0, h1, hk⟩ := elB_nat he
  refine ⟨n.toNat, by omega, by omega, ?_⟩
  have hb : inB' ns n = true := by unfold inB'; simp; omega
  unfold nodeI
  rw [if_pos hb]
  obtain ⟨x, hx⟩ := some_at (show n.toNat < ns.length by omega)
  rw [hx]
  simp [List.getD, hx]
set_option maxHeartbeats 8000000 in
theorem rattr18_L (L0 : D) (X : Nd) (LS : List D) (nm : Nam) (n : Int) (S : Sf) (Ln : Nat) (i : Nat)
    (hkd : S.kd = 5) (hL0 : ∃ L, L0 = .list L ∧ (L.length : Int) = Ln ∧ L.getD i .bad = .agg [.int .i64 X.p, .int .i64 X.k, .str X.sp, .str X.nm, .list (X.at_.map At.d), .list LS, .str X.tx]) (hi : i < Ln) (hx : X.at_.length ≤ 1000000)
    (f : At → Bool) (f1 : At → Bool) (f2 : At → Bool)
    (hf : ∀ a ∈ X.at_, f a = (a.nm == S.nm && (f1 a && f2 a)))
    (h1 : ∀ a ∈ X.at_, callL Tryz.prog (ext11b chk) 51 [.agg [.int .i64 S.kd, .int .i64 S.ns, .str S.pre, .str S.nm, .int .i64 S.op, .str S.tx, .bool S.fold, .int .i64 S.mark, .int .i64 S.a, .int .i64 S.b, .list S.of_], .str a.sp, .agg [.bool nm.has, .str nm.dft, .list (nm.pre.map .str), .list (nm.sps.map .str)], .bool true] [] = some (.bool (f1 a), [.no], []))
    (h2 : ∀ a ∈ X.at_, callL Tryz.prog (ext11b chk) 53 [.agg [.int .i64 S.op, .str S.tx, .bool S.fold], .str a.vl] [] = some (.bool (f2 a), [.no], [])) :
    callL Tryz.prog (ext11b chk) 36 [L0, .agg [.int .i64 S.kd, .int .i64 S.ns, .str S.pre, .str S.nm, .int .i64 S.op, .str S.tx, .bool S.fold, .int .i64 S.mark, .int .i64 S.a, .int .i64 S.b, .list S.of_], .agg [.bool nm.has, .str nm.dft, .list (nm.pre.map .str), .list (nm.sps.map .str)], .int .i64 i] [] = some (.bool (X.at_.any f), [.no], []) := by
  obtain ⟨L, rfl, lN, hg⟩ := hL0
  have g1 : (i : Int) < Ln := by omega
  have HF := Hd.mk hf
  have H1 := Hd.mk h1
  have H2 := Hd.mk h2
  have HX := Hd.mk hx
  have lA := lenM X.at_ At.d
  obtain ⟨R, hRe⟩ : ∃ R, Hd (R = X.at_.any f) := ⟨_, rfl⟩
  rw [← (show R = X.at_.any f from hRe)]
  clear hf h1 h2 hi hx
  obtain ⟨k1, k2, k3⟩ := eqI hkd
  rw [hkd]
  generalize hA : X.at_ = A at *
  have H1' := Hd.mk (show ∀ a ∈ A, callL Tryz.prog (ext11b chk) 51 [.agg [.int .i64 5, .int .i64 S.ns, .str S.pre, .str S.nm, .int .i64 S.op, .str S.tx, .bool S.fold, .int .i64 S.mark, .int .i64 S.a, .int .i64 S.b, .list S.of_], .str a.sp, .agg [.bool nm.has, .str nm.dft, .list (nm.pre.map .str), .list (nm.sps.map .str)], .bool true] [] = some (.bool (f1 a), [.no], []) from by have := (show _ from H1); rw [hkd] at this; exact this)
  clear hkd k1 k2 k3 H1 hA
  refine cK 172 8 Tryz.func36 ?_
  refine Gy ?_
  clear hg g1
  refine loopH (fun st => ∃ (j : Nat) (r5 r6 r9 : List Room), j ≤ A.length ∧ st.slot 10 = .int .i64 j ∧ st.slot 5 = .ptr 5 1 0 ∧ st.box 5 = some ⟨1, [.int .i64 5, .int .i64 S.ns, .str S.pre, .str S.nm, .int .i64 S.op, .str S.tx, .bool S.fold, .int .i64 S.mark, .int .i64 S.a, .int .i64 S.b, .list S.of_], r5⟩ ∧ st.slot 6 = .ptr 6 1 0 ∧ st.box 6 = some ⟨1, [.bool nm.has, .str nm.dft, .list (nm.pre.map .str), .list (nm.sps.map .str)], r6⟩ ∧ st.slot 9 = .ptr 9 1 0 ∧ st.box 9 = some ⟨1, [.int .i64 X.p, .int .i64 X.k, .str X.sp, .str X.nm, .list (A.map At.d), .list LS, .str X.tx], r9⟩ ∧ Hd (R = (A.drop j).any f)) (fun st => A.length - slotI st 10) ?_ ?_
  · exact ⟨0, (padR [] 11).take 11, (padR [] 4).take 4, (padR [] 7).take 7, Nat.zero_le _, Iy, Iy, Iy, Iy, Iy, Iy, Iy, hRe⟩
  · rintro st K ⟨j, r5, r6, r9, hj, g10, g5, b5, g6, b6, g9, b9, hO⟩ hn hx hr
    have hO' : R = (A.drop j).any f := hO
    have hll : A.length ≤ 1000000 := HX
    by_cases h : j < A.length
    · have k9 : (j : Int) < A.length := by omega
      have hw := wrapS j (by omega)
      obtain ⟨a, ha1⟩ := some_at h
      have hm := List.mem_of_getElem? ha1
      have hga : (A.map At.d).getD j .bad = .agg [.str a.sp, .str a.nm, .str a.vl] := getD_map (f := At.d) ha1
      have hff := (show ∀ a ∈ A, _ from HF) a hm
      have hc1 := (show ∀ a ∈ A, _ from H1') a hm
      have hc2 := (show ∀ a ∈ A, _ from H2) a hm
      rw [any_drop _ ha1, hff] at hO'
      generalize f1 a = v1 at *
      generalize f2 a = v2 at *
      cases hq : (a.nm == S.nm) with
      | false =>
        rw [hq, Bool.false_and, Bool.false_or] at hO'
        have HO := Hd.mk hO'
        clear hc1 hc2 hr hx hO hO' hRe ha1 hm hll hff
        repeat' (first|simp only [*, AVB, AVY, ↓reduceIte, Nat.reduceEqDiff, Nat.reduceLT, Nat.reduceBEq, Nat.reduceAdd, dIntBin]|refine drW_intro (by kernel_rfl) ?_)
        refine hn _ ⟨j + 1, r5, r6, r9, h, ?_, ?_, ?_, ?_, ?_, ?_, ?_, HO⟩ ?_
        · simp only [*, AVL, ↓reduceIte]
        · simp only [*, AVL, ↓reduceIte, Nat.reduceEqDiff]
        · simp only [*, AVL]
        · simp only [*, AVL, ↓reduceIte, Nat.reduceEqDiff]
        · simp only [*, AVL]
        · simp only [*, AVL, ↓reduceIte, Nat.reduceEqDiff]
        · simp only [*, AVL]
        ·exact Zy
      | true =>
        rw [hq, Bool.true_and] at hO'
        cases v1 with
        | false =>
          rw [Bool.false_and, Bool.false_or] at hO'
          have HO := Hd.mk hO'
          clear hc2 hr hx hO hO' hRe ha1 hm hll hff
          repeat' (first|simp only [*, AVB, AVY, ↓reduceIte, Nat.reduceEqDiff, Nat.reduceLT, Nat.reduceBEq, Nat.reduceAdd, dIntBin]|refine drW_intro (by kernel_rfl) ?_)
          refine hn _ ⟨j + 1, r5, r6, r9, h, ?_, ?_, ?_, ?_, ?_, ?_, ?_, HO⟩ ?_
          · simp only [*, AVL, ↓reduceIte]
          · simp only [*, AVL, ↓reduceIte, Nat.reduceEqDiff]
          · simp only [*, AVL]
          · simp only [*, AVL, ↓reduceIte, Nat.reduceEqDiff]
          · simp only [*, AVL]
          · simp only [*, AVL, ↓reduceIte, Nat.reduceEqDiff]
          · simp only [*, AVL]
          ·exact Zy
        | true =>
          rw [Bool.true_and] at hO'
          cases v2 with
          | false =>
            rw [Bool.false_or] at hO'
            have HO := Hd.mk hO'
            clear hr hx hO hO' hRe ha1 hm hll hff
            repeat' (first|simp only [*, AVB, AVY, ↓reduceIte, Nat.reduceEqDiff, Nat.reduceLT, Nat.reduceBEq, Nat.reduceAdd, dIntBin]|refine drW_intro (by kernel_rfl) ?_)
            refine hn _ ⟨j + 1, r5, r6, r9, h, ?_, ?_, ?_, ?_, ?_, ?_, ?_, HO⟩ ?_
            · simp only [*, AVL, ↓reduceIte]
            · simp only [*, AVL, ↓reduceIte, Nat.reduceEqDiff]
            · simp only [*, AVL]
            · simp only [*, AVL, ↓reduceIte, Nat.reduceEqDiff]
            · simp only [*, AVL]
            · simp only [*, AVL, ↓reduceIte, Nat.reduceEqDiff]
            · simp only [*, AVL]
            ·exact Zy
          | true =>
            rw [Bool.true_or] at hO'
            subst hO'
            clear hn hx hO hRe ha1 hm h hll hff
            repeat' (first|simp only [*, AVB, AVY, ↓reduceIte, Nat.reduceEqDiff, Nat.reduceLT, Nat.reduceBEq, Nat.reduceAdd, dIntBin]|refine drW_intro (by kernel_rfl) ?_)
            exact hr _ Wy
    · have k9 : ¬ (j : Int) < A.length := by omega
      rw [any_end _ (by omega)] at hO'
      subst hO'
      clear hn hr hO hRe h hll
      refine Gy ?_
      exact hx _ _ Wy
set_option maxHeartbeats 8000000 in
theorem rsimple18_L (ns : List Nd) (nm : Nam) (n : Int) (S : Sf) (hn : nm.ok) (hS : SmallD ns) (he : elB ns n = true) (hrE : ∀ j ∈ rowI ns n, elB ns j = true) (hnm : S.nm.length ≤ 1000) (ht : S.tx.length ≤ 1000)
    (ha : S.a ≤ 1099511627776 ∧ -1099511627776 ≤ S.a) (hb : S.b ≤ 1099511627776 ∧ -1099511627776 ≤ S.b) (L : List D → Int → Bool)
    (hl : ∀ j, elB ns j = true → callL Tryz.prog (ext11b chk) 8 [.list (ns.map Nd.d), .list S.of_, .agg nm.cs, .agg [.int .i64 j, .str []]] [] = some (.bool (L S.of_ j), [.no], [])) :
    callL Tryz.prog (ext11b chk) 36 [.list (ns.map Nd.d), S.d, .agg nm.cs, .int .i64 n] [] = some (.bool (stepV ns nm L S.d n), [.no], []) := by
  obtain ⟨x1, x2, x3⟩ := node_small hS n
  have hnth := rnth_L (chk := chk) ns nm n S (L S.of_) hS.1 he ha hb (fun j hj _ => hl j (hrE j hj))
  rw [nthGo_row he] at hnth
  dsimp only at hnth
  have hlst := hl n he
  have hsta : callL Tryz.prog (ext11b chk) 33 [.list ((nodeI ns n).st.map D.str), .str S.nm] [] = some (.bool (staI ns n S.nm), [.no], []) := by
    obtain ⟨i, hi, hil, hx⟩ := nodeI_el he
    have := has_L (chk := chk) (nodeI ns n).st S.nm (by omega)
    have e : staI ns n S.nm = (nodeI ns n).st.contains S.nm := by
      unfold staI stsAt
      have hin : n.toNat = i := by omega
      rw [he, Bool.true_and, hin, hx]
    rw [e]
    exact this
  have hpar : (decide ((nodeI ns n).p < 0)) = !(parI ns n).2 := by
    obtain ⟨i, hi, hil, hx⟩ := nodeI_el he
    have hin : n.toNat = i := by omega
    have hp : pAt ns i = (nodeI ns n).p := by unfold pAt; rw [hx]
    unfold parI
    rw [hin, hp]
    by_cases h0 : 0 ≤ (nodeI ns n).p
    · rw [if_pos ⟨he, h0⟩]; simp; omega
    · rw [if_neg (fun e => h0 e.2)]; simp; omega
  have hcl := rattr_L (chk := chk) ns n sClass 3 S.nm hS hnm
  have hid := rattr_L (chk := chk) ns n sId 2 S.nm hS hnm
  have hlk1 : callL Tryz.prog (ext11b chk) 51 [.agg [.int .i64 0, .int .i64 0, .str [], .str [], .int .i64 0, .str [], .bool false, .int .i64 0, .int .i64 0, .int .i64 0, .list []], .str (nodeI ns n).sp, .agg nm.cs, .bool false] [] = _ := rinPlace_L (chk := chk) nm ⟨0, 0, [], [], 0, [], false, 0, 0, 0, []⟩ (nodeI ns n).sp false hn
  have hlk2 := rattr_L (chk := chk) ns n sHref 1 [] hS (by decide)
  dsimp only at hlk1
  have hip := rinPlace_L (chk := chk) nm S (nodeI ns n).sp false hn
  have hat : S.kd = 5 → callL Tryz.prog (ext11b chk) 36 [.list (ns.map Nd.d), S.d, .agg nm.cs, .int .i64 n] [] = some (.bool ((nodeI ns n).at_.any fun a => a.nm == S.nm && (inPlF nm S.ns S.pre a.sp true && holdsF S.op S.tx S.fold a.vl)), [.no], []) := fun k5 => by
    obtain ⟨i, rfl, hil, hx⟩ := nodeI_el he
    have hgd : (ns.map Nd.d).getD i .bad = (nodeI ns (i : Int)).d := getD_map (f := Nd.d) hx
    rw [ndat] at hgd
    exact rattr18_L (chk := chk) _ (nodeI ns (i : Int)) _ nm (i : Int) S ns.length i k5 ⟨_, rfl, lenM ns Nd.d, hgd⟩ hil x1 _ (fun a => inPlF nm S.ns S.pre a.sp true) (fun a => holdsF S.op S.tx S.fold a.vl) (fun a _ => rfl) (fun a _ => rinPlace_L (chk := chk) nm S a.sp true hn) (fun a ha2 => by
      have := rholds_L (chk := chk) S.op S.tx S.fold a.vl (by omega) (by have := x3 a ha2; omega)
      rw [← holds_eq] at this
      exact this)
  have lN := lenM ns Nd.d
  obtain ⟨i, rfl, hil, hx⟩ := nodeI_el he
  have hgd : (ns.map Nd.d).getD i .bad = (nodeI ns (i : Int)).d := getD_map (f := Nd.d) hx
  have g1 : (i : Int) < ns.length := by omega
  rw [ndat] at hgd
  unfold stepV
  rw [sf_d]
  dsimp only
  by_cases k5 : S.kd = 5
  · rw [k5]
    simp only [show ((5 : Int) = 1) = False from by decide, show ((5 : Int) = 2) = False from by decide, show ((5 : Int) = 3) = False from by decide, show ((5 : Int) = 4) = False from by decide, if_false, if_true]
    exact hat k5
  clear hat hl hrE ha hb ht hnm he hn hS x1 x2 x3 hx hil
  unfold nthV
  generalize nodeI ns (i : Int) = X at *
  generalize ((S.of_.isEmpty || L S.of_ (i : Int)) && hasAB S.a S.b ((rowI ns (i : Int)).countP fun j => S.of_.isEmpty || L S.of_ j)) = q7 at *
  generalize L S.of_ (i : Int) = q8 at *
  generalize staI ns (i : Int) S.nm = q11 at *
  generalize plainV ns (i : Int) sClass 3 S.nm = q3 at *
  generalize plainV ns (i : Int) sId 2 S.nm = q4 at *
  generalize plainV ns (i : Int) sHref 1 [] = p2 at *
  generalize inPlF nm 0 [] X.sp false = p1 at *
  generalize inPlF nm S.ns S.pre X.sp false = q2 at *
  rw [← hpar]
  clear hpar
  generalize X.at_.map At.d = LA at *
  generalize X.st.map D.str = LS at *
  generalize ns.map Nd.d = NS at *
  unfold sClass at hcl
  unfold sId at hid
  unfold sHref at hlk2
  unfold sArea
  unfold Nam.cs Sf.d at *
  by_cases k1 : S.kd = 1
  · rw [if_pos k1]
    generalize hkd : S.kd = kd at *
    subst k1
    clear hkd k5
    clear hnth hlst hsta hcl hid hlk1 hlk2
    cases c1 : (X.nm == S.nm) with
    | true =>
      exact cWy 172 8 Tryz.func36
    | false =>
      exact cWy 172 8 Tryz.func36
  rw [if_neg k1]
  by_cases k2 : S.kd = 2
  · rw [if_pos k2]
    generalize hkd : S.kd = kd at *
    subst k2
    clear hkd k5 k1
    clear hnth hlst hsta hcl hid hlk1 hlk2
    exact cWy 172 8 Tryz.func36
  rw [if_neg k2]
  by_cases k3 : S.kd = 3
  · rw [if_pos k3]
    generalize hkd : S.kd = kd at *
    subst k3
    clear hkd k5 k1 k2
    clear hnth hlst hsta hid hlk1 hlk2 hip
    exact cWy 172 8 Tryz.func36
  rw [if_neg k3]
  by_cases k4 : S.kd = 4
  · rw [if_pos k4]
    generalize hkd : S.kd = kd at *
    subst k4
    clear hkd k5 k1 k2 k3
    clear hnth hlst hsta hcl hlk1 hlk2 hip
    exact cWy 172 8 Tryz.func36
  rw [if_neg k4]
  rw [if_neg k5]
  by_cases k6 : S.kd = 6
  · rw [if_pos k6]
    generalize hkd : S.kd = kd at *
    subst k6
    clear hkd k5 k1 k2 k3 k4
    clear hnth hlst hsta hcl hid hlk1 hlk2 hip
    exact cWy 172 8 Tryz.func36
  rw [if_neg k6]
  by_cases k7 : S.kd = 7
  · rw [if_pos k7]
    generalize hkd : S.kd = kd at *
    subst k7
    clear hkd k5 k1 k2 k3 k4 k6
    clear hlst hsta hcl hid hlk1 hlk2 hip
    exact cWy 172 8 Tryz.func36
  rw [if_neg k7]
  by_cases k8 : S.kd = 8 ∨ S.kd = 9
  · rw [if_pos k8]
    generalize hkd : S.kd = kd at *
    clear hkd k5 k1 k2 k3 k4 k6 k7
    clear hnth hsta hcl hid hlk1 hlk2 hip
    rcases k8 with rfl | rfl
    · exact cWy 172 8 Tryz.func36
    · exact cWy 172 8 Tryz.func36
  rw [if_neg k8]
  by_cases k10 : S.kd = 10
  · rw [if_pos k10]
    generalize hkd : S.kd = kd at *
    subst k10
    clear hkd k5 k1 k2 k3 k4 k6 k7 k8
    clear hnth hsta hcl hid hlk1 hlk2 hip
    exact cWy 172 8 Tryz.func36
  rw [if_neg k10]
  by_cases k11 : S.kd = 11
  · rw [if_pos k11]
    generalize hkd : S.kd = kd at *
    subst k11
    clear hkd k5 k1 k2 k3 k4 k6 k7 k8 k10
    clear hnth hlst hcl hid hlk1 hlk2 hip
    exact cWy 172 8 Tryz.func36
  rw [if_neg k11]
  by_cases k12 : S.kd = 12
  · rw [if_pos k12]
    generalize hkd : S.kd = kd at *
    subst k12
    clear hkd k5 k1 k2 k3 k4 k6 k7 k8 k10 k11
    clear hnth hlst hsta hcl hid hip
    cases c1 : (X.nm == [97]) with
    | true =>
      cases p1 with
      | true =>
        exact cWy 172 8 Tryz.func36
      | false =>
        exact cWy 172 8 Tryz.func36
    | false =>
      cases c2 : (X.nm == [97, 114, 101, 97]) with
      | true =>
        cases p1 with
        | true =>
          exact cWy 172 8 Tryz.func36
        | false =>
          exact cWy 172 8 Tryz.func36
      | false =>
        exact cWy 172 8 Tryz.func36
  rw [if_neg k12]
  have k8' : ¬ S.kd = 8 := fun e => k8 (.inl e)
  have k9 : ¬ S.kd = 9 := fun e => k8 (.inr e)
  have n1 := (neI k1).1
  have n2 := (neI k2).1
  have n3 := (neI k3).1
  have n4 := (neI k4).1
  have n5 := (neI k5).1
  have n6 := (neI k6).1
  have n7 := (neI k7).1
  have n8 := (neI k8').1
  have n9 := (neI k9).1
  have n10 := (neI k10).1
  have n11 := (neI k11).1
  have n12 := (neI k12).1
  clear k1 k2 k3 k4 k5 k6 k7 k8 k8' k9 k10 k11 k12
  clear hnth hlst hsta hcl hid hlk1 hlk2 hip
  exact cWy 172 8 Tryz.func36
end Go.Av
namespace Go.Av
open Go.Proofs
section
variable {C : List D → Int} {bad : D → Bool} {most B M : Int}
theorem cntX_bd : ∀ (x : List D) (n r : Int), (∀ s ∈ x, bad s = false → C (sf s).of_ ≤ B) → cntX C bad most x n = some r → r ≤ max n (most + 1 + B)
  | [], n, r, _, h => by simp only [cntX, Option.some.injEq] at h; omega
  | s :: x, n, r, hC, h => by
    rw [cntX] at h
    split at h
    · split at h
      · cases h
      · rename_i h1 h2
        have h3 := hC s (List.mem_cons_self ..) (by simpa using h2)
        have h4 := cntX_bd x _ r (fun s hs => hC s (List.mem_cons_of_mem _ hs)) h
        omega
    · simp only [Option.some.injEq] at h; omega
theorem cntP_bd : ∀ (x : List D) (n r : Int), (∀ c ∈ x, ∀ s ∈ cpL c, bad s = false → C (sf s).of_ ≤ B) → cntP C bad most x n = some r → r ≤ max n (most + 1 + B)
  | [], n, r, _, h => by simp only [cntP, Option.some.injEq] at h; omega
  | c :: x, n, r, hC, h => by
    rw [cntP] at h
    split at h
    · cases e : cntX C bad most (cpL c) n with
      | none => rw [e] at h; cases h
      | some q =>
        rw [e] at h
        have h1 := cntX_bd _ _ _ (hC c (List.mem_cons_self ..)) e
        have h2 := cntP_bd x q r (fun c hc => hC c (List.mem_cons_of_mem _ hc)) h
        omega
    · simp only [Option.some.injEq] at h; omega
theorem cntC_bd : ∀ (x : List D) (n r : Int), (∀ d ∈ x, ((cxL d).length : Int) ≤ M) → (∀ d ∈ x, ∀ c ∈ cxL d, ∀ s ∈ cpL c, bad s = false → C (sf s).of_ ≤ B) → cntC C bad most x n = some r → r ≤ max n (max (most + M) (most + 1 + B))
  | [], n, r, _, _, h => by simp only [cntC, Option.some.injEq] at h; omega
  | d :: x, n, r, hM, hC, h => by
    rw [cntC] at h
    split at h
    · cases e : cntP C bad most (cxL d) (n + (cxL d).length) with
      | none => rw [e] at h; cases h
      | some q =>
        rw [e] at h
        have h0 := hM d (List.mem_cons_self ..)
        have h1 := cntP_bd _ _ _ (hC d (List.mem_cons_self ..)) e
        have h2 := cntC_bd x q r (fun c hc => hM c (List.mem_cons_of_mem _ hc)) (fun c hc => hC c (List.mem_cons_of_mem _ hc)) h
        omega
    · simp only [Option.some.injEq] at h; omega
end
theorem cnt_bd {most : Int} (hm : 0 ≤ most) {m : Nat} : ∀ (f : Nat) (d : Nat) (l : List D), lsOk m (smOk m f) l = true → cnt most (f + 1) l d ≤ m + (most + 2) * (((41 - d : Nat) : Int) + 1)
  | f, d, l, h => by
    unfold cnt
    obtain ⟨h1, h2⟩ := lsOk_mem h
    have hp : 0 ≤ (most + 2) * ((41 - d : Nat) : Int) := Int.mul_nonneg (by omega) (by omega)
    have he : (most + 2) * (((41 - d : Nat) : Int) + 1) = (most + 2) * ((41 - d : Nat) : Int) + (most + 2) := by rw [Int.mul_add, Int.mul_one]
    cases e : cntC (fun of_ => cnt most f of_ ((d : Int) + 1)) (badS d) most l l.length with
    | none => simp only [Option.getD_none]; omega
    | some r =>
      simp only [Option.getD_some]
      have key := cntC_bd (B := m + (most + 2) * ((41 - d : Nat) : Int)) (M := m) l l.length r (fun c hc => by obtain ⟨l1, rfl, g, _⟩ := cxOk_inv (h2 c hc); show ((l1.length : Nat) : Int) ≤ m; omega) (fun c hc x hx s hs hb => ?_) e
      · omega
      · have hd : d ≤ 40 := by
          unfold badS at hb
          simp only [Bool.or_eq_false_iff, decide_eq_false_iff_not] at hb
          omega
        have h3 := lsOk_s h c hc x hx s hs
        cases f with
        | zero => simp [smOk] at h3
        | succ f =>
          obtain ⟨_, _, _, _, h4⟩ := smOk_inv h3
          have h5 := cnt_bd hm f (d + 1) (sf s).of_ h4
          have h6 : (((41 - (d + 1) : Nat) : Int) + 1) = ((41 - d : Nat) : Int) := by omega
          rw [h6] at h5
          exact h5
theorem count_L [Rk] {chk : List D → Bool} {most : Int} (hm : 0 ≤ most ∧ most ≤ 1000) : ∀ (f : Nat) (d : Nat) (l : List D), d ≤ 41 → lsOk 140737488355328 (smOk 140737488355328 f) l = true →
    callL Tryz.prog (ext11b chk) 34 [.list l, .int .i64 most, .int .i64 d] [] = some (.int .i64 (cnt most (f + 1) l d), [.no], [])
  | f, d, l, hd, h => by
    obtain ⟨h1, h2⟩ := lsOk_mem h
    refine count_step (chk := chk) (fun of_ => cnt most f of_ ((d : Int) + 1)) most d hm ⟨by omega, by omega⟩ l h1 fun c hc => ?_
    obtain ⟨l1, rfl, g1, g2⟩ := cxOk_inv (h2 c hc)
    refine ⟨rfl, g1, fun x hx => ?_⟩
    obtain ⟨cc, l2, rfl, g3, g4⟩ := cpOk_inv (g2 x hx)
    refine ⟨rfl, g3, fun s hs => ?_⟩
    have h3 := g4 s hs
    cases f with
    | zero => simp [smOk] at h3
    | succ f =>
      obtain ⟨e, _, _, _, h4⟩ := smOk_inv h3
      refine ⟨e, fun h40 => ?_, cnt_nonneg hm.1 _ _ _, ?_⟩
      · have := count_L (chk := chk) hm f (d + 1) (sf s).of_ (by omega) h4
        exact this
      · have := cnt_bd hm.1 f (d + 1) (sf s).of_ h4
        have h5 : (most + 2) * (((41 - (d + 1) : Nat) : Int) + 1) ≤ 1002 * 42 := Int.mul_le_mul (by omega) (by omega) (by omega) (by omega)
        have h6 : cnt most (f + 1) (sf s).of_ ((d : Int) + 1) = cnt most (f + 1) (sf s).of_ ((d + 1 : Nat) : Int) := rfl
        show cnt most (f + 1) (sf s).of_ ((d : Int) + 1) ≤ _
        rw [h6]
        omega
end Go.Av
namespace Go.Av
open Go.Proofs
variable [Rk] {chk : List D → Bool}
def numB (s : Sf) : Bool := decide ((1099511627776 : Int) < max s.a s.b) || decide (min s.a s.b < (-1099511627776 : Int))
def numX (N : List D → Bool) (s : D) : Bool := numB (sf s) || N (sf s).of_
def numP (N : List D → Bool) (x : D) : Bool := (cpL x).any (numX N)
def numC (N : List D → Bool) (c : D) : Bool := (cxL c).any (numP N)
def nums : Nat → List D → Bool
  | 0, _ => false
  | f + 1, l => l.any (numC (nums f))
set_option maxHeartbeats 16000000 in
theorem nums_step (N : List D → Bool) (l : List D) (hl : l.length ≤ 1000)
    (hL : ∀ c ∈ l, c = .agg [.list (cxL c)] ∧ (cxL c).length ≤ 1000 ∧ ∀ x ∈ cxL c, x = .agg [.int .i64 (cpC x), .list (cpL x)] ∧ (cpL x).length ≤ 1000 ∧ ∀ s ∈ cpL x,
      s = .agg [.int .i64 (sf s).kd, .int .i64 (sf s).ns, .str (sf s).pre, .str (sf s).nm, .int .i64 (sf s).op, .str (sf s).tx, .bool (sf s).fold, .int .i64 (sf s).mark, .int .i64 (sf s).a, .int .i64 (sf s).b, .list (sf s).of_] ∧ callL Tryz.prog (ext11b chk) 20 [.list (sf s).of_] [] = some (.bool (N (sf s).of_), [.no], [])) :
    callL Tryz.prog (ext11b chk) 20 [.list l] [] = some (.bool (l.any (numC N)), [.no], []) := by
  have HL := Hd.mk hL
  have HN := Hd.mk hl
  clear hL hl
  obtain ⟨R, hR⟩ : ∃ R, Hd (R = l.any (numC N)) := ⟨_, rfl⟩
  rw [← (show R = l.any (numC N) from hR)]
  refine cK 55 2 Tryz.func20 ?_
  refine Gy ?_
  refine loopH (fun st => ∃ (i : Nat), i ≤ l.length ∧ st.slot 11 = .int .i64 i ∧ st.slot 10 = .int .i64 l.length ∧ st.slot 9 = .list l ∧ Hd (R = (l.drop i).any (numC N))) (fun st => l.length - slotI st 11) ?_ ?_
  · exact ⟨0, Nat.zero_le _, Iy, Iy, Iy, hR⟩
  · rintro st K ⟨i, hi, g11, g10, g9, hO⟩ hn hx hr
    have hl : l.length ≤ 1000 := HN
    have hO' : R = (l.drop i).any (numC N) := hO
    by_cases h : i < l.length
    · have k9 : (i : Int) < l.length := by omega
      have hw := wrapS i (by omega)
      obtain ⟨c, hc1⟩ := some_at h
      rw [any_drop _ hc1] at hO'
      unfold numC at hO'
      obtain ⟨e1, hx1, hX⟩ := (show ∀ c ∈ l, _ from HL) c (List.mem_of_getElem? hc1)
      have ha := (self_getD hc1).trans e1
      generalize cxL c = X at *
      have HI := Hd.mk h
      have HX := Hd.mk hX
      have HO := Hd.mk hO'
      have HX1 := Hd.mk hx1
      clear hl hO hO' hx hX hc1 e1 hx1 h hR
      refine Gy ?_
      refine loopH (fun st' => ∃ (k : Nat), k ≤ X.length ∧ st'.slot 18 = .int .i64 k ∧ st'.slot 17 = .int .i64 X.length ∧ st'.slot 16 = .list X ∧ st'.slot 11 = .int .i64 i ∧ st'.slot 10 = .int .i64 l.length ∧ st'.slot 9 = .list l ∧ Hd (R = ((X.drop k).any (numP N) || (l.drop (i + 1)).any (numC N)))) (fun st' => X.length - slotI st' 18) ?_ ?_
      · exact ⟨0, Nat.zero_le _, Iy, Iy, Iy, Iy, Iy, Iy, HO⟩
      · rintro st' K' ⟨k, hk, e18, e17, e16, e11, e10, e9, hO⟩ hn2 hx2 hr2
        have G11 := Hd.mk g11
        clear g9 g10 g11 HO
        have hxl : X.length ≤ 1000 := HX1
        have hO' : R = ((X.drop k).any (numP N) || (l.drop (i + 1)).any (numC N)) := hO
        by_cases h : k < X.length
        · have k10 : (k : Int) < X.length := by omega
          have hw3 := wrapS k (by omega)
          obtain ⟨x, hx1⟩ := some_at h
          rw [any_drop _ hx1] at hO'
          unfold numP at hO'
          obtain ⟨f1, f2, hS⟩ := (show ∀ x ∈ X, _ from HX) x (List.mem_of_getElem? hx1)
          have hb := (self_getD hx1).trans f1
          generalize cpL x = Y at *
          generalize cpC x = cc at *
          have HK := Hd.mk h
          have HS := Hd.mk hS
          have HO := Hd.mk hO'
          have HY1 := Hd.mk f2
          clear hO hO' hx2 hS hx1 f1 f2 h hxl hn
          refine Gy ?_
          refine loopH (fun st2 => ∃ (m : Nat), m ≤ Y.length ∧ st2.slot 25 = .int .i64 m ∧ st2.slot 24 = .int .i64 Y.length ∧ st2.slot 23 = .list Y ∧ st2.slot 18 = .int .i64 k ∧ st2.slot 17 = .int .i64 X.length ∧ st2.slot 16 = .list X ∧ st2.slot 11 = .int .i64 i ∧ st2.slot 10 = .int .i64 l.length ∧ st2.slot 9 = .list l ∧ Hd (R = (((Y.drop m).any (numX N) || (X.drop (k + 1)).any (numP N)) || (l.drop (i + 1)).any (numC N)))) (fun st2 => Y.length - slotI st2 25) ?_ ?_
          · exact ⟨0, Nat.zero_le _, Iy, Iy, Iy, Iy, Iy, Iy, Iy, Iy, Iy, HO⟩
          · rintro st2 K2 ⟨m, hmm, u25, u24, u23, u18, u17, u16, u11, u10, u9, hO⟩ hn3 hx3 hr3
            have E18 := Hd.mk e18
            clear e18 e17 e16 e11 e10 e9 HO
            have hyl : Y.length ≤ 1000 := HY1
            have hO' : R = (((Y.drop m).any (numX N) || (X.drop (k + 1)).any (numP N)) || (l.drop (i + 1)).any (numC N)) := hO
            by_cases h : m < Y.length
            · have k11 : (m : Int) < Y.length := by omega
              have hw4 := wrapS m (by omega)
              obtain ⟨s, hs1⟩ := some_at h
              rw [any_drop _ hs1] at hO'
              unfold numX at hO'
              obtain ⟨q1, hcall⟩ := (show ∀ s ∈ Y, _ from HS) s (List.mem_of_getElem? hs1)
              have hz := (self_getD hs1).trans q1
              generalize sf s = S at *
              have HM0 := Hd.mk h
              unfold numB at hO'
              clear hO hx3 hs1 q1 h hyl
              by_cases c1 : (1099511627776 : Int) < max S.a S.b
              · rw [decide_eq_true c1] at hO'
                simp only [Bool.true_or] at hO'
                subst hO'
                clear hn3 hn2 hcall
                refine Gy ?_
                refine hr3 _ ?_
                refine hr2 _ ?_
                exact hr _ Wy
              rw [decide_eq_false c1, Bool.false_or] at hO'
              by_cases c2 : min S.a S.b < (-1099511627776 : Int)
              · rw [decide_eq_true c2] at hO'
                simp only [Bool.true_or] at hO'
                subst hO'
                clear hn3 hn2 hcall
                refine Gy ?_
                refine hr3 _ ?_
                refine hr2 _ ?_
                exact hr _ Wy
              rw [decide_eq_false c2, Bool.false_or] at hO'
              cases c3 : N S.of_ with
              | true =>
                rw [c3] at hcall hO'
                simp only [Bool.true_or] at hO'
                subst hO'
                clear hn3 hn2
                refine Gy ?_
                refine hr3 _ ?_
                refine hr2 _ ?_
                exact hr _ Wy
              | false =>
                rw [c3] at hcall hO'
                simp only [Bool.false_or] at hO'
                have HO2 := Hd.mk hO'
                clear hO' hr3 hn2 hr2 hr
                refine Gy ?_
                refine hn3 _ ⟨m + 1, HM0, L, L, L, L, L, L, L, L, L, HO2⟩ ?_
                · have hm2 : m < Y.length := HM0
                  simp only [slotI, *, AVB, AVY, ↓reduceIte, Nat.reduceEqDiff, Nat.reduceLT, Nat.reduceLeDiff, reduceCtorEq, Nat.reduceBEq, String.reduceBEq, Nat.reduceAdd, Nat.reduceSub, Nat.reduceMul, Int.reduceLE, Int.reduceLT, Int.reduceToNat, Int.reduceBEq, Int.reduceBNe, List.zipWith, dIntBin]
                  omega
            · have k11 : ¬ (m : Int) < Y.length := by omega
              rw [any_end _ (by omega), Bool.false_or] at hO'
              have HO2 := Hd.mk hO'
              clear hO hO' hr3 hn3 hr2 hr hyl h
              refine Gy ?_
              refine hx3 _ _ ?_
              refine Gy ?_
              have hk2 : k < X.length := HK
              refine hn2 _ ⟨k + 1, hk2, L, L, L, L, L, L, HO2⟩ ?_
              · have e18 : st'.slot 18 = .int .i64 k := E18
                simp only [slotI, *, AVB, AVY, ↓reduceIte, Nat.reduceEqDiff, Nat.reduceLT, Nat.reduceLeDiff, reduceCtorEq, Nat.reduceBEq, String.reduceBEq, Nat.reduceAdd, Nat.reduceSub, Nat.reduceMul, Int.reduceLE, Int.reduceLT, Int.reduceToNat, Int.reduceBEq, Int.reduceBNe, List.zipWith, dIntBin]
                omega
        · have k10 : ¬ (k : Int) < X.length := by omega
          rw [any_end _ (by omega), Bool.false_or] at hO'
          have HO2 := Hd.mk hO'
          clear hO hO' hr2 hn2 hxl h hr
          refine Gy ?_
          refine hx2 _ _ ?_
          refine Gy ?_
          have hi2 : i < l.length := HI
          refine hn _ ⟨i + 1, hi2, L, L, L, HO2⟩ ?_
          · have g11 : st.slot 11 = .int .i64 i := G11
            simp only [slotI, *, AVB, AVY, ↓reduceIte, Nat.reduceEqDiff, Nat.reduceLT, Nat.reduceLeDiff, reduceCtorEq, Nat.reduceBEq, String.reduceBEq, Nat.reduceAdd, Nat.reduceSub, Nat.reduceMul, Int.reduceLE, Int.reduceLT, Int.reduceToNat, Int.reduceBEq, Int.reduceBNe, List.zipWith, dIntBin]
            omega
    · have k9 : ¬ (i : Int) < l.length := by omega
      rw [any_end _ (by omega)] at hO'
      subst hO'
      clear hO hn hr hl hR h
      refine Gy ?_
      exact hx _ _ Wy
theorem nums_L : ∀ (f : Nat) (l : List D), lsOk 100 (smOk 100 f) l = true → callL Tryz.prog (ext11b chk) 20 [.list l] [] = some (.bool (nums (f + 1) l), [.no], [])
  | f, l, h => by
    obtain ⟨h1, h2⟩ := lsOk_mem h
    refine nums_step (chk := chk) (nums f) l (by omega) fun c hc => ?_
    obtain ⟨l1, rfl, g1, g2⟩ := cxOk_inv (h2 c hc)
    refine ⟨rfl, (show l1.length ≤ 1000 by omega), fun x hx => ?_⟩
    obtain ⟨cc, l2, rfl, g3, g4⟩ := cpOk_inv (g2 x hx)
    refine ⟨rfl, (show l2.length ≤ 1000 by omega), fun s hs => ?_⟩
    have h3 := g4 s hs
    cases f with
    | zero => simp [smOk] at h3
    | succ f =>
      obtain ⟨e, _, _, _, h4⟩ := smOk_inv h3
      exact ⟨e, nums_L f (sf s).of_ h4⟩
end Go.Av
namespace Go.Av
open Go.Proofs
variable [Rk] {chk : List D → Bool}
def longS (s : List UInt8) : Bool := decide ((100 : Int) < s.length)
def gnF (nm : Nam) : Bool := decide ((30 : Int) < nm.pre.length) || (decide ((30 : Int) < nm.sps.length) || (decide ((100 : Int) < nm.dft.length) || (nm.pre ++ nm.sps).any longS))
set_option maxHeartbeats 4000000 in
theorem gnames_L (nm : Nam) (h1 : nm.pre.length ≤ 140737488355328) (h2 : nm.sps.length ≤ 140737488355328) : callL Tryz.prog (ext11b chk) 19 [.agg nm.cs] [] = some (.bool (gnF nm), [.no], []) := by
  unfold gnF Nam.cs
  have lP := lenM nm.pre D.str
  have lS := lenM nm.sps D.str
  have lQ := lenM (nm.pre ++ nm.sps) D.str
  have hap : nm.pre.map D.str ++ nm.sps.map D.str = (nm.pre ++ nm.sps).map D.str := by simp
  have l0P := lenM0 nm.pre D.str
  have l0S := lenM0 nm.sps D.str
  by_cases c1 : (30 : Int) < nm.pre.length
  · rw [decide_eq_true c1, Bool.true_or]
    clear hap lQ
    exact cWy 37 2 Tryz.func19
  rw [decide_eq_false c1, Bool.false_or]
  by_cases c2 : (30 : Int) < nm.sps.length
  · rw [decide_eq_true c2, Bool.true_or]
    clear hap lQ
    exact cWy 37 2 Tryz.func19
  rw [decide_eq_false c2, Bool.false_or]
  by_cases c3 : (100 : Int) < nm.dft.length
  · rw [decide_eq_true c3, Bool.true_or]
    clear hap lQ
    exact cWy 37 2 Tryz.func19
  rw [decide_eq_false c3, Bool.false_or]
  have hz1 : szOk 1 (nm.pre.map D.str) = true := by cases nm.pre <;> rfl
  have hz2 : szOk 1 (nm.sps.map D.str) = true := by cases nm.sps <;> rfl
  have hz0 : lenOk (0 + nm.pre.length) 16 = true := lenOk_small (by omega)
  have hz3 : lenOk (nm.pre.length + nm.sps.length) 16 = true := lenOk_small (by omega)
  have hz4 : lenOk nm.pre.length 16 = true := lenOk_small (by omega)
  have hlen : (nm.pre ++ nm.sps).length ≤ 60 := by rw [List.length_append]; omega
  have HL := Hd.mk hlen
  clear h1 h2 hlen
  obtain ⟨Q, hQ⟩ : ∃ Q, nm.pre ++ nm.sps = Q := ⟨_, rfl⟩
  rw [hQ] at lQ hap HL ⊢
  clear hQ
  obtain ⟨R, hR⟩ : ∃ R, Hd (R = Q.any longS) := ⟨_, rfl⟩
  rw [← (show R = Q.any longS from hR)]
  refine cK 37 2 Tryz.func19 ?_
  repeat' (first|simp only [*, AVB, AVY, ↓reduceIte, Nat.reduceEqDiff, Nat.reduceLT, Nat.reduceLeDiff, reduceCtorEq, Nat.reduceBEq, String.reduceBEq, Nat.reduceAdd, Nat.reduceSub, Nat.reduceMul, Int.reduceLE, Int.reduceLT, Int.reduceToNat, Int.reduceBEq, Int.reduceBNe, List.zipWith, dIntBin]|refine drW_intro (by kernel_rfl) ?_)
  refine loopH (fun st => ∃ i : Nat, i ≤ Q.length ∧ st.slot 29 = .int .i64 i ∧ st.slot 28 = .int .i64 Q.length ∧ st.slot 27 = .list (Q.map D.str) ∧ Hd (R = (Q.drop i).any longS)) (fun st => Q.length - slotI st 29) ?_ ?_
  · exact ⟨0, Nat.zero_le _, Iy, Iy, Iy, hR⟩
  · rintro st K ⟨i, hi, g29, g28, g27, hO⟩ hn hx hr
    have hl : Q.length ≤ 60 := HL
    have hO' : R = (Q.drop i).any longS := hO
    by_cases h : i < Q.length
    · have k9 : (i : Int) < Q.length := by omega
      have hw := wrapS i (by omega)
      obtain ⟨x, hx1⟩ := some_at h
      rw [any_drop _ hx1] at hO'
      have ha : (Q.map D.str).getD i .bad = .str x := getD_map (f := D.str) hx1
      unfold longS at hO'
      clear hO hx hx1 hR hap hz1 hz2 hz0 hz3 hz4 c1 c2 c3
      by_cases c4 : (100 : Int) < x.length
      · rw [decide_eq_true c4, Bool.true_or] at hO'
        subst hO'
        clear hn
        refine Gy ?_
        exact hr _ Wy
      · rw [decide_eq_false c4, Bool.false_or] at hO'
        have HO := Hd.mk hO'
        clear hO' hr
        refine Gy ?_
        exact hn _ ⟨i + 1, h, L, L, L, HO⟩ Zy
    · have k9 : ¬ (i : Int) < Q.length := by omega
      rw [any_end _ (by omega)] at hO'
      subst hO'
      clear hO hn hr hl hR hap hz1 hz2 hz0 hz3 hz4 c1 c2 c3
      refine Gy ?_
      exact hx _ _ Wy
set_option maxHeartbeats 1000000 in
theorem great28_L {M f : Nat} (l : List D) (most : Int) (hm : 0 ≤ most ∧ most ≤ 1000) (h : lsOk 140737488355328 (smOk 140737488355328 f) l = true) :
    callL Tryz.prog (ext11b chk) 18 [.list l, .int .i64 most] [] = some (.bool (decide (most < cnt most (f + 1) l 0)), [.no], []) := by
  have hc : callL Tryz.prog (ext11b chk) 34 [.list l, .int .i64 most, .int .i64 0] [] = some (.int .i64 (cnt most (f + 1) l 0), [.no], []) := count_L (chk := chk) hm f 0 l (by decide) h
  generalize cnt most (f + 1) l 0 = z at *
  clear h
  exact cWy 10 4 Tryz.func18
def greatZ (ns : List Nd) (f : Nat) (l : List D) (nm : Nam) : Bool := greatF ns 12 || (decide (24 < cnt 24 (f + 1) l 0) || (gnF nm || nums 42 l))
set_option maxHeartbeats 2000000 in
theorem greatZ_L {f : Nat} (ns : List Nd) (l : List D) (nm : Nam) (h : lsOk 140737488355328 (smOk 140737488355328 f) l = true) (h1 : nm.pre.length ≤ 140737488355328) (h2 : nm.sps.length ≤ 140737488355328) :
    callL Tryz.prog (ext11b chk) 6 [.list (ns.map Nd.d), .list l, .agg nm.cs] [] = some (.bool (greatZ ns f l nm), [.no], []) := by
  have g1 : callL Tryz.prog (ext11b chk) 17 [.list (ns.map Nd.d), .int .i64 12] [] = some (.bool (greatF ns 12), [.no], []) := great_L (chk := chk) ns 12 (by decide)
  have g2 := great28_L (chk := chk) (M := 0) l 24 (by decide) h
  have g3 := gnames_L (chk := chk) nm h1 h2
  have g4 : ¬ (24 : Int) < cnt 24 (f + 1) l 0 → callL Tryz.prog (ext11b chk) 20 [.list l] [] = some (.bool (nums 42 l), [.no], []) := fun hc =>
    nums_L (chk := chk) 41 l (cnt_small (most := 24) (by decide) (by decide) f l 0 41 rfl h (by have : cnt 24 (f + 1) l ((0 : Nat) : Int) = cnt 24 (f + 1) l 0 := rfl; omega))
  unfold greatZ Nam.cs at *
  generalize greatF ns 12 = b1 at *
  generalize gnF nm = b3 at *
  generalize cnt 24 (f + 1) l 0 = z at *
  generalize ns.map Nd.d = L at *
  clear h h1 h2
  cases b1 with
  | true =>
    clear g2 g3 g4
    exact cWy 21 6 Tryz.func6
  | false =>
    by_cases hz : (24 : Int) < z
    · rw [decide_eq_true hz] at g2 ⊢
      clear g3 g4 hz
      exact cWy 21 6 Tryz.func6
    · have g4' := g4 hz
      rw [decide_eq_false hz] at g2 ⊢
      clear g4 hz
      cases b3 with
      | true =>
        clear g4'
        exact cWy 21 6 Tryz.func6
      | false =>
        exact cWy 21 6 Tryz.func6
end Go.Av
namespace Go.Av
variable [Rk]
open Go.Proofs Go.RowKit Go.Proofs.YtaghfmgeccapbaaGreatDoor
def C1 (f : FuncId) (args : List D) (d : D) (r : List Room) : Prop :=
  (∃ fn, Tryz.prog.funcs[f]? = some fn ∧ fn.body.isSome = true) ∧
    ∀ (vals : List Value) (w : World) (F : Nat → Nat → Prop) (μ : Mu), vals.length = args.length → (∀ (i : Nat) (v : Value) (x : D), vals[i]? = some v → args[i]? = some x → Den (fun _ => 1) (argNu μ) F w v x) →
      GivenOK w 0 μ → Lt F w → GOK F w → Calls Tryz.prog f vals.toArray w (Ret Tryz.prog 0 μ F w d r [])
theorem C1.of {call : Call} (h : CallOK Tryz.prog call) {f : FuncId} {args : List D} {d : D} {r : List Room} (e : call f args [] = some (d, r, [])) : C1 f args d r :=
  ⟨(h f args [] d r [] e).1, fun vals w F μ hl hd hgv hlt hg => (h f args [] d r [] e).2 vals w F μ hl hd (fun i bx hb => by simp at hb) hgv hlt hg⟩
theorem C1.callL {ext : Call} (h : CallOK Tryz.prog ext) {f : FuncId} {args : List D} {d : D} {r : List Room} (e : callL Tryz.prog ext f args [] = some (d, r, [])) : C1 f args d r := by
  obtain ⟨N, hN⟩ := callL_aev e
  exact C1.of (aev_sound fineS h N) hN
theorem C1.room {f : FuncId} {args : List D} {d : D} {r : List Room} (h : C1 f args d r) : C1 f args d [] :=
  ⟨h.1, fun vals w F μ hl hd hgv hlt hg => (h.2 vals w F μ hl hd hgv hlt hg).mono fun e w' hr => hr.retD.ret hlt⟩
end Go.Av
namespace Go.Av
variable [Rk]
open Go.Proofs Go.RowKit Go.Proofs.YtaghfmgeccapbaaGreatDoor
def smN : Nat → D → Bool
  | 0, _ => false
  | k + 1, d => smOk 100 (k + 1) d && (decide ((sf d).a ≤ 1099511627776) && (decide (-1099511627776 ≤ (sf d).a) && (decide ((sf d).b ≤ 1099511627776) && (decide (-1099511627776 ≤ (sf d).b) && lsOk 100 (smN k) (sf d).of_))))
theorem smN_inv {k : Nat} {d : D} (h : smN (k + 1) d = true) : smOk 100 (k + 1) d = true ∧ ((sf d).a ≤ 1099511627776 ∧ -1099511627776 ≤ (sf d).a) ∧ ((sf d).b ≤ 1099511627776 ∧ -1099511627776 ≤ (sf d).b) ∧ lsOk 100 (smN k) (sf d).of_ = true := by
  simp only [smN, Bool.and_eq_true, decide_eq_true_eq] at h
  exact ⟨h.1, ⟨h.2.1, h.2.2.1⟩, ⟨h.2.2.2.1, h.2.2.2.2.1⟩, h.2.2.2.2.2⟩
theorem smN_ok {k : Nat} {d : D} (h : smN k d = true) : smOk 100 k d = true := by
  cases k with
  | zero => simp [smN] at h
  | succ k => exact (smN_inv h).1
theorem cp_mono {m : Nat} {S S' : D → Bool} (h : ∀ d, S d = true → S' d = true) {x : D} (hx : cpOk m S x = true) : cpOk m S' x = true := by
  obtain ⟨c, l, rfl, h1, h2⟩ := cpOk_inv hx
  simp only [cpD, cpOk, lenB, Bool.and_eq_true, decide_eq_true_eq, List.all_eq_true]
  exact ⟨h1, fun s hs => h s (h2 s hs)⟩
theorem cx_mono {m : Nat} {S S' : D → Bool} (h : ∀ d, S d = true → S' d = true) {x : D} (hx : cxOk m S x = true) : cxOk m S' x = true := by
  obtain ⟨l, rfl, h1, h2⟩ := cxOk_inv hx
  simp only [cxD, cxOk, lenB, Bool.and_eq_true, decide_eq_true_eq, List.all_eq_true]
  exact ⟨h1, fun s hs => cp_mono h (h2 s hs)⟩
theorem ls_mono {m : Nat} {S S' : D → Bool} (h : ∀ d, S d = true → S' d = true) {l : List D} (hx : lsOk m S l = true) : lsOk m S' l = true := by
  obtain ⟨h1, h2⟩ := lsOk_mem hx
  simp only [lsOk, lenB, Bool.and_eq_true, decide_eq_true_eq, List.all_eq_true]
  exact ⟨h1, fun s hs => cx_mono h (h2 s hs)⟩
end Go.Av
namespace Go.Av
variable [Rk]
open Go.Proofs Go.RowKit Go.Proofs.YtaghfmgeccapbaaGreatDoor
end Go.Av
namespace Go.Av
variable [Rk]
open Go.Proofs Go.RowKit Go.Proofs.YtaghfmgeccapbaaGreatDoor
theorem chkG_all : ∀ {r a : List Nd} {roots : Int}, chkG a r roots = (0, 0) → ∀ (i : Nat) (n : Nd), r[i]? = some n → nodeF (a ++ r.take i) n = true
  | [], _, _, _, i, n, hi => by simp at hi
  | x :: r, a, roots, h, i, n, hi => by
    rw [chkG] at h
    split at h
    · rename_i hx
      cases i with
      | zero => simp at hi; subst hi; simpa using hx
      | succ i =>
        have := chkG_all h i n (by simpa using hi)
        simpa using this
    · simp at h
theorem par_of {a : List Nd} {n : Nd} (h : nodeF a n = true) : -1 ≤ n.p ∧ n.p < a.length ∧ (0 ≤ n.p → kindAt a n.p = 1) := by
  unfold nodeF parOk at h
  simp only [Bool.and_eq_true, Bool.not_eq_eq_eq_not, Bool.not_true, decide_eq_false_iff_not, Bool.and_eq_false_iff] at h
  obtain ⟨⟨h1, h2, h3⟩, _⟩ := h
  refine ⟨by omega, by omega, fun h0 => ?_⟩
  rcases h3 with h3 | h3
  · exact absurd h0 h3
  · simpa using h3
theorem right_chk {ns : List Nd} (h : chkF ns = (0, 0)) : RightT ns := right_of fun j n hj => par_of (by have := chkG_all h j n hj; simpa using this)
theorem ls_num : ∀ (k : Nat) (l : List D), lsOk 100 (smOk 100 k) l = true → nums (k + 1) l = false → lsOk 100 (smN k) l = true
  | k, l, h, hn => by
    obtain ⟨h1, h2⟩ := lsOk_mem h
    simp only [nums, List.any_eq_false] at hn
    simp only [lsOk, lenB, Bool.and_eq_true, decide_eq_true_eq, List.all_eq_true]
    refine ⟨h1, fun c hc => ?_⟩
    obtain ⟨l1, rfl, f1, f2⟩ := cxOk_inv (h2 c hc)
    have n1 := hn _ hc
    unfold numC at n1
    rw [show cxL (cxD l1) = l1 from rfl] at n1
    simp only [List.any_eq_true, not_exists, not_and] at n1
    simp only [cxD, cxOk, lenB, Bool.and_eq_true, decide_eq_true_eq, List.all_eq_true]
    refine ⟨f1, fun x hx => ?_⟩
    obtain ⟨y, l2, rfl, f3, f4⟩ := cpOk_inv (f2 x hx)
    have n2 := n1 _ hx
    unfold numP at n2
    rw [show cpL (cpD y l2) = l2 from rfl] at n2
    simp only [List.any_eq_true, not_exists, not_and] at n2
    simp only [cpD, cpOk, lenB, Bool.and_eq_true, decide_eq_true_eq, List.all_eq_true]
    refine ⟨f3, fun s hs => ?_⟩
    have n3 := n2 s hs
    have h3 := f4 s hs
    cases k with
    | zero => simp [smOk] at h3
    | succ k =>
      obtain ⟨_, _, _, _, h4⟩ := smOk_inv h3
      unfold numX numB at n3
      simp only [Bool.or_eq_true, decide_eq_true_eq, not_or] at n3
      have h5 := ls_num k (sf s).of_ h4 (by simpa using n3.2)
      simp only [smN, Bool.and_eq_true, decide_eq_true_eq]
      exact ⟨h3, by omega, by omega, by omega, by omega, h5⟩
def selV (ns : List Nd) (nm : Nam) (l : List D) (n : Int) (ps : List UInt8) : Bool := l.any fun c => complexP ns nm c n ps
end Go.Av
namespace Go.Av
open Go.Proofs
variable [Rk] {chk : List D → Bool}
theorem rowI_el {ns : List Nd} (hR : RightT ns) {n : Int} (he : elB ns n = true) : ∀ j ∈ rowI ns n, elB ns j = true := fun j hj => by
  rcases row_last he j hj with h | rfl
  · exact (hR.row n he j h).1
  · exact he
theorem ls_form {m : Nat} {S : D → Bool} {l : List D} (h : lsOk m S l = true) : ∀ c ∈ l, c = cxD (cxL c) := fun c hc => by
  obtain ⟨l1, rfl, _, _⟩ := cxOk_inv ((lsOk_mem h).2 c hc)
  rfl
theorem rS18 {ns : List Nd} {nm : Nam} (hn : nm.ok) (hS : SmallD ns) (hR : RightT ns) : ∀ (k : Nat), k ≤ 45 → ∀ s, smN k s = true → ∀ j, elB ns j = true →
    callL Tryz.prog (ext11b chk) 36 [.list (ns.map Nd.d), (sf s).d, .agg nm.cs, .int .i64 j] [] = some (.bool (sV ns nm s j), [.no], [])
  | 0, _, s, h, _, _ => by simp [smN] at h
  | k + 1, hk, s, h, j, hj => by
    obtain ⟨h1, h2, h3, h4⟩ := smN_inv h
    obtain ⟨e, e1, e2, e3, _⟩ := smOk_inv h1
    rw [sV_step h1 (by omega) j]
    have hst : stepV ns nm (listV (sV ns nm) ns) s j = stepV ns nm (listV (sV ns nm) ns) (sf s).d j := by rw [← e]
    rw [hst]
    refine rsimple18_L (chk := chk) ns nm j (sf s) hn hS hj (rowI_el hR hj) (by omega) (by omega) h2 h3 (listV (sV ns nm) ns) fun i hi => ?_
    have hl := lsOk_mem h4
    have := rlist_L (chk := chk) ns nm (sf s).of_ i [] (fun c => complexV (sV ns nm) ns c i []) hl.1 (ls_form h4) (fun c hc =>
      rcomp_L (k := 49) (Q := smN k) ns nm c i [] (fun d hd => smOk_up _ _ (smN_ok hd) 50 (by omega)) (sV ns nm) hS.1 hR (hl.2 c hc) (fun d hd i' hi' => rS18 hn hS hR k (by omega) d hd i' hi'))
    rw [this]
    have h5 : ((sf s).of_.any fun c => complexV (sV ns nm) ns c i []) = listV (sV ns nm) ns (sf s).of_ i := rlist_eq hR (S := sV ns nm) (S' := sV ns nm) (fun _ _ _ _ => rfl) (sf s).of_ i hi
    rw [h5]
theorem rcompA_L {ns : List Nd} {nm : Nam} {c : D} {k : Nat} (hk : k ≤ 45) (hS : SmallD ns) (hR : RightT ns) (hn : nm.ok) (hc : cxOk 100 (smN k) c = true) (n : Int) (ps : List UInt8) :
    callL Tryz.prog (ext11b chk) 21 [.list (ns.map Nd.d), c, .agg nm.cs, .agg [.int .i64 n, .str ps]] [] = some (.bool (complexP ns nm c n ps), [.no], []) := by
  have := rcomp_L (chk := chk) (k := 49) (Q := smN k) ns nm c n ps (fun d hd => smOk_up _ _ (smN_ok hd) 50 (by omega)) (sV ns nm) hS.1 hR hc (fun d hd i' hi' => rS18 hn hS hR k hk d hd i' hi')
  rw [this, complex_row hR]
  rfl
theorem rselA_L {ns : List Nd} {nm : Nam} {l : List D} {k : Nat} (hk : k ≤ 45) (hS : SmallD ns) (hR : RightT ns) (hn : nm.ok) (hl : lsOk 100 (smN k) l = true) (n : Int) (ps : List UInt8) :
    callL Tryz.prog (ext11b chk) 8 [.list (ns.map Nd.d), .list l, .agg nm.cs, .agg [.int .i64 n, .str ps]] [] = some (.bool (selV ns nm l n ps), [.no], []) := by
  obtain ⟨h1, h2⟩ := lsOk_mem hl
  exact rlist_L (chk := chk) ns nm l n ps (fun c => complexP ns nm c n ps) h1 (ls_form hl) (fun c hc => rcompA_L hk hS hR hn (h2 c hc) n ps)
end Go.Av
