/- The evaluator, in one text: over any program; no conditions but those that each law names. -/
import Derived.Test.YtcogfddcdpgpkaaGreatDoorAvsf
import Derived.Test.YtcogfddcdpgpkaaGreatDoorAvsb
set_option linter.unusedSimpArgs false
set_option linter.unusedVariables false
set_option linter.unusedSectionVars false
namespace Go.Av
open Go.Proofs
def rootN : List Nd → Int
  | [] => 0
  | n :: r => (if rootB n = true then 1 else 0) + rootN r
theorem rootN_app (a b : List Nd) : rootN (a ++ b) = rootN a + rootN b := by
  induction a with
  | nil => simp [rootN]
  | cons x r ih => rw [List.cons_append, rootN, rootN, ih]; omega
theorem rootN_nn : ∀ a : List Nd, 0 ≤ rootN a
  | [] => Int.le_refl _
  | n :: r => by
    have := rootN_nn r
    rw [rootN]
    split <;> omega
theorem rootN_pos : ∀ {a : List Nd} {j : Nat} {n : Nd}, a[j]? = some n → rootB n = true → 1 ≤ rootN a
  | [], j, n, h, _ => by simp at h
  | x :: r, 0, n, h, hr => by
    simp at h
    subst h
    have := rootN_nn r
    rw [rootN, if_pos hr]
    omega
  | x :: r, j + 1, n, h, hr => by
    have := rootN_pos (a := r) (j := j) (by simpa using h) hr
    rw [rootN]
    split <;> omega
theorem chkG_iff : ∀ {r a : List Nd} {roots : Int}, chkG a r roots = (0, 0) ↔ (∀ (j : Nat) (n : Nd), r[j]? = some n → nodeF (a ++ r.take j) n = true) ∧ roots + rootN r = 1
  | [], a, roots => by
    rw [chkG]
    simp only [rootN, Int.add_zero]
    constructor
    · intro h
      split at h
      · rename_i hr
        exact ⟨fun j n hj => by simp at hj, hr⟩
      · simp at h
    · rintro ⟨_, h⟩
      rw [if_pos h]
  | n :: r, a, roots => by
    rw [chkG]
    have ih := chkG_iff (r := r) (a := a ++ [n]) (roots := if rootB n = true then roots + 1 else roots)
    constructor
    · intro h
      split at h
      · rename_i hn
        obtain ⟨h1, h2⟩ := ih.1 h
        refine ⟨fun j m hj => ?_, ?_⟩
        · cases j with
          | zero =>
            simp only [List.getElem?_cons_zero, Option.some.injEq] at hj
            subst hj
            simpa using hn
          | succ j =>
            have := h1 j m (by simpa using hj)
            simpa using this
        · rw [rootN]
          split at h2 <;> rename_i hb
          · rw [if_pos hb]; omega
          · rw [if_neg hb]; omega
      · simp at h
    · rintro ⟨h1, h2⟩
      have hn := h1 0 n rfl
      rw [List.take_zero, List.append_nil] at hn
      rw [if_pos hn]
      refine ih.2 ⟨fun j m hj => ?_, ?_⟩
      · have := h1 (j + 1) m (by simpa using hj)
        simpa using this
      · rw [rootN] at h2
        split at h2 <;> rename_i hb
        · rw [if_pos hb]; omega
        · rw [if_neg hb]; omega
theorem chkF_iff {ns : List Nd} : chkF ns = (0, 0) ↔ (∀ (j : Nat) (n : Nd), ns[j]? = some n → nodeF (ns.take j) n = true) ∧ rootN ns = 1 := by
  unfold chkF
  rw [chkG_iff]
  simp
theorem root_above {ns : List Nd} (h : ∀ (j : Nat) (n : Nd), ns[j]? = some n → nodeF (ns.take j) n = true) : ∀ (i : Nat) (n : Nd), ns[i]? = some n → n.k = 1 → ∃ j m, j ≤ i ∧ ns[j]? = some m ∧ rootB m = true := by
  intro i
  induction i using Nat.strongRecOn with
  | ind i ih =>
    intro n hn hk
    obtain ⟨p1, p2, p3⟩ := par_of (h i n hn)
    by_cases hp : n.p < 0
    · exact ⟨i, n, Nat.le_refl _, hn, by unfold rootB; rw [hk, decide_eq_true hp]; rfl⟩
    · have h0 := p3 (by omega)
      have hl : i < ns.length := (List.getElem?_eq_some_iff.1 hn).1
      have ht : (ns.take i).length = i := by rw [List.length_take]; omega
      rw [ht] at p2
      unfold kindAt at h0
      rw [List.getElem?_take, if_pos (by omega)] at h0
      cases e : ns[n.p.toNat]? with
      | none => rw [e] at h0; simp at h0
      | some m =>
        rw [e] at h0
        obtain ⟨j, q, h1, h2, h3⟩ := ih n.p.toNat (by omega) m e h0
        exact ⟨j, q, by omega, h2, h3⟩
theorem chk_take {ns : List Nd} (h : chkF ns = (0, 0)) {i : Nat} {n : Nd} (hn : ns[i]? = some n) (hk : n.k = 1) : chkF (ns.take (i + 1)) = (0, 0) := by
  obtain ⟨h1, h2⟩ := chkF_iff.1 h
  refine chkF_iff.2 ⟨fun j m hj => ?_, ?_⟩
  · rw [List.getElem?_take] at hj
    split at hj
    · rename_i hlt
      rw [List.take_take, Nat.min_eq_left (by omega)]
      exact h1 j m hj
    · cases hj
  · obtain ⟨j, m, a1, a2, a3⟩ := root_above h1 i n hn hk
    have b1 : 1 ≤ rootN (ns.take (i + 1)) := rootN_pos (j := j) (n := m) (by rw [List.getElem?_take, if_pos (by omega)]; exact a2) a3
    have b2 := rootN_nn (ns.drop (i + 1))
    have b3 := rootN_app (ns.take (i + 1)) (ns.drop (i + 1))
    rw [List.take_append_drop, h2] at b3
    omega
theorem upTo_take (ns : List Nd) (i : Nat) : UpTo ns (ns.take (i + 1)) i := fun j hj => by rw [List.getElem?_take, if_pos (by omega)]
theorem later_eq {ns : List Nd} (hR : RightT ns) (nm : Nam) (l : List D) {i : Nat} (he : elB ns i = true) : selV ns nm l i [] = selV (ns.take (i + 1)) nm l i [] := by
  have hU := upTo_take ns i
  have he' : elB (ns.take (i + 1)) i = true := by rw [← hU.el (Int.le_refl _)]; exact he
  rw [sel_list l he, sel_list l he']
  exact list_congr hU hR (fun d n hn h => simple_congr hU hR nm 50 d n hn h) l i (Int.le_refl _) he
end Go.Av
set_option maxRecDepth 100000
namespace Go.Av
open Go.Proofs
variable [R : Rk]
set_option maxHeartbeats 8000000 in
theorem later_law (hA : RowA R) {f : Nat} (ns : List Nd) (l : List D) (nm : Nam) (n : Int) (hB : BigD ns) (hl : lsOk 140737488355328 (smOk 140737488355328 f) l = true) (hn1 : nm.pre.length ≤ 140737488355328) (hn2 : nm.sps.length ≤ 140737488355328) :
    callL Tryz.prog (ext11b chkB) 4 [.list (ns.map Nd.d), .list l, .agg nm.cs, .int .i64 n] [] = some (.bool true, [.no], []) := by
  have h8 := sp8_L hA (chk := chkB)
  have h9 := rcheck_L (chk := chkB) ns hB
  have h10 := greatZ_L (chk := chkB) ns l nm hl hn1 hn2
  have h11 := relem_L (chk := chkB) ns n
  by_cases c1 : greatZ ns f l nm = true
  · rw [c1] at h10
    unfold Nam.cs at *
    generalize ns.map Nd.d = NS at *
    generalize chkF ns = z at *
    clear c1 hB hl hn1 hn2 h11
    refine callK (m := 82) (res := [8]) (rs := [.tmp 8]) rfl Tryz.func4 rfl rfl rfl rfl rfl ?_
    repeat' (first|simp only [*, AVB, AVY, ↓reduceIte, Nat.reduceEqDiff, Nat.reduceLT, reduceCtorEq, Nat.reduceBEq, Nat.reduceAdd]|refine drW_intro (by kernel_rfl) ?_|refine gw_intro (fun h => ?_) (fun h => ?_) <;> try simp only [AVH] at h)
  have c1 : greatZ ns f l nm = false := by simpa using c1
  rw [c1] at h10
  by_cases c2 : (chkF ns).1 = 0
  · by_cases c3 : elB ns n = true
    · rw [c3] at h11
      have hz := chkF_z c2
      rw [hz] at h9
      unfold greatZ at c1
      simp only [Bool.or_eq_false_iff, decide_eq_false_iff_not] at c1
      obtain ⟨g1, g2, g3, g4⟩ := c1
      have hS := great_smallD g1 (by decide)
      have hR := right_chk hz
      have hnm : nm.ok := by
        unfold gnF at g3
        simp only [Bool.or_eq_false_iff, decide_eq_false_iff_not] at g3
        exact ⟨by omega, by omega⟩
      have hls : lsOk 100 (smN 41) l = true := ls_num 41 l (cnt_small (most := 24) (by decide) (by decide) f l 0 41 rfl hl (by have : cnt 24 (f + 1) l ((0 : Nat) : Int) = cnt 24 (f + 1) l 0 := rfl; omega)) g4
      have h12 := new_L hS hz
      obtain ⟨e0, e1, ek⟩ := elB_nat c3
      obtain ⟨i, rfl⟩ : ∃ i : Nat, n = (i : Int) := ⟨n.toNat, by omega⟩
      rw [Int.toNat_natCast] at ek
      obtain ⟨x, hx⟩ := some_at (show i < ns.length by omega)
      have hk : x.k = 1 := by
        unfold kAt at ek
        rw [hx] at ek
        exact ek
      have hz' := chk_take hz hx hk
      have hS' : SmallD (ns.take (i + 1)) := ⟨by rw [List.length_take]; have := hS.1; omega, fun m hm => hS.2 m (List.mem_of_mem_take hm)⟩
      have hR' := right_chk hz'
      have h13 := new_L hS' hz'
      have q0 : callL Tryz.prog (ext11b chkB) 14 [treeN ns, .list l, .agg nm.cs, .agg [.int .i64 (i : Int), .str []]] [] = _ := selA_L hA (k := 41) (by decide) hS hR hnm hls i []
      have q1 : callL Tryz.prog (ext11b chkB) 14 [treeN (ns.take (i + 1)), .list l, .agg nm.cs, .agg [.int .i64 (i : Int), .str []]] [] = _ := selA_L hA (k := 41) (by decide) hS' hR' hnm hls i []
      rw [← later_eq hR nm l c3] at q1
      generalize selV ns nm l i [] = t at *
      have htk : (ns.map Nd.d).take (i + 1) = (ns.take (i + 1)).map Nd.d := by rw [List.map_take]
      have hi10 := hS.1
      have hw := wrapS i (by omega)
      have hsz : szOk 7 (ns.map Nd.d) = true := by cases ns <;> rfl
      have lN := lenM ns Nd.d
      have l0 := lenM0 ns Nd.d
      have b1 : ((i + 1 : Nat) : Int) ≤ ns.length := by omega
      have b2 : (0 : Int) ≤ ((i + 1 : Nat) : Int) := by omega
      unfold Nam.cs at *
      obtain ⟨T, hTr⟩ := tree_fix ns
      generalize treeN ns = T0 at *
      subst hTr
      obtain ⟨T', hTr'⟩ := tree_fix (ns.take (i + 1))
      generalize treeN (ns.take (i + 1)) = T1 at *
      subst hTr'
      generalize (ns.take (i + 1)).map Nd.d = NS1 at *
      clear hB hl hn1 hn2 c2 c3 hz g1 g2 g3 g4 hS hR hnm hls hz' hS' hR' hx hk ek e0 e1 hi10
      refine callK (m := 82) (res := [8]) (rs := [.tmp 8]) rfl Tryz.func4 rfl rfl rfl rfl rfl ?_
      repeat' (first|simp only [*, upd, AVB, AVY, ↓reduceIte, Nat.reduceEqDiff, Nat.reduceLT, Nat.reduceLeDiff, reduceCtorEq, Nat.reduceBEq, Nat.reduceAdd, Int.reduceBNe, dIntBin]|refine drW_intro (by kernel_rfl) ?_|refine gw_intro (fun h => ?_) (fun h => ?_) <;> try simp only [AVH] at h)
    · have c3 : elB ns n = false := by simpa using c3
      rw [c3] at h11
      rw [chkF_z c2] at h9
      unfold Nam.cs at *
      generalize ns.map Nd.d = NS at *
      clear c1 c2 c3 hB hl hn1 hn2
      refine callK (m := 82) (res := [8]) (rs := [.tmp 8]) rfl Tryz.func4 rfl rfl rfl rfl rfl ?_
      repeat' (first|simp only [*, AVB, AVY, ↓reduceIte, Nat.reduceEqDiff, Nat.reduceLT, reduceCtorEq, Nat.reduceBEq, Nat.reduceAdd, Int.reduceBNe, dIntBin]|refine drW_intro (by kernel_rfl) ?_|refine gw_intro (fun h => ?_) (fun h => ?_) <;> try simp only [AVH] at h)
  · obtain ⟨j1, j2, j3⟩ := neI c2
    unfold Nam.cs at *
    generalize ns.map Nd.d = NS at *
    generalize chkF ns = z at *
    clear c1 c2 hB hl hn1 hn2 h11
    refine callK (m := 82) (res := [8]) (rs := [.tmp 8]) rfl Tryz.func4 rfl rfl rfl rfl rfl ?_
    repeat' (first|simp only [*, AVB, AVY, ↓reduceIte, Nat.reduceEqDiff, Nat.reduceLT, reduceCtorEq, Nat.reduceBEq, Nat.reduceAdd, dIntBin]|refine drW_intro (by kernel_rfl) ?_|refine gw_intro (fun h => ?_) (fun h => ?_) <;> try simp only [AVH] at h)
end Go.Av
