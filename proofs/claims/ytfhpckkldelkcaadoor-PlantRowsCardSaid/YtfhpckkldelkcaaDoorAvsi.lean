/- The evaluator, in one text: over any program; no conditions but those that each law names. -/
import Derived.Test.YtfhpckkldelkcaaDoorAvsg
set_option linter.unusedSimpArgs false
set_option linter.unusedVariables false
set_option linter.unusedSectionVars false
set_option maxRecDepth 100000
namespace Go.Av
open Go.Proofs
variable [Ek] {chk : List D → Bool}
theorem cons_of {ms : List Mv} (i : Nat) : ∃ z r, (rowT ms i).map (D.int .i64) = .int .i64 z :: r ∧ rowT ms i = z :: r.map (fun d => match d with | .int _ n => n | _ => 0) := by
  obtain ⟨z, r, h⟩ := rowT_head (ms := ms) i
  refine ⟨z, r.map (D.int .i64), by rw [h]; rfl, ?_⟩
  rw [h, List.map_map]
  congr 1
  exact (List.map_id'' (fun _ => rfl) r).symm
theorem rowT_map {ms : List Mv} {j : Nat} {m : Mv} (hm : ms[j + 1]? = some m) : (rowT ms (j + 1)).map (D.int .i64) = (if m.dn = true then [] else (rowT ms j).map (D.int .i64)) ++ [.int .i64 ((j + 1 : Nat) : Int)] := by
  have e : dnAt ms (j + 1) = m.dn := by unfold dnAt; rw [hm]
  rw [rowT, e]
  by_cases h : m.dn = true
  · rw [if_pos h, if_pos h]
    rfl
  · rw [if_neg h, if_neg h, List.map_append]
    rfl
set_option maxHeartbeats 32000000 in
theorem law3_L (ms : List Mv) (hl : ms.length * 120 ≤ 140737488355328) : callL Tryd.prog (ext11b chk) 3 [.list (ms.map Mv.d)] [] = some (.bool true, [.no], []) := by
  have lN := lenMv ms
  have h6 := sp11 (chk := chk)
  have HL := Hd.mk hl
  clear hl
  refine callK (m := 91) (res := [2]) (rs := [.tmp 2]) rfl Tryd.func3 rfl rfl rfl rfl rfl ?_
  repeat' (first
    | simp only [*, guardG, opG, inB, sval, stake, eats, eaters, get, cval, cval1, croom, St.taken, ↓reduceIte, Nat.reduceLT, reduceCtorEq, List.filterMap_cons, List.filterMap_nil, Option.bind_some, Option.map_some, Option.bind_none, List.getD_cons_zero, List.contains_cons, List.contains_nil, List.map_nil, Nat.reduceBEq, okR, callG, List.all_nil, List.append_nil, List.length_nil, dun, ptrArgs, callArgs, vroom, Option.isSome_none, bs22e, bt22, lenMs, AVB]
    | (refine drW_intro (by kernel_rfl) ?_)
    | (refine gw_intro (fun h => ?_) (fun h => ?_) <;> (try simp only [beq_true, beq_false, Bool.not_eq_eq_eq_not, Bool.not_true, Bool.not_false, Bool.not_not, decide_eq_true_eq, decide_eq_false_iff_not, ge_iff_le, gt_iff_lt] at h)))
  refine loopH (fun st => ∃ i : Nat, i ≤ ms.length ∧ st.slot 15 = .int .i64 i ∧ st.slot 13 = .list (ms.map Mv.d) ∧ st.slot 14 = .int .i64 ms.length ∧ st.slot 0 = .list (ms.map Mv.d) ∧ st.slot 3 = .list (((ms.map Mv.nd).take i).map Nd.d) ∧ st.room 3 = [roomN ((ms.map Mv.nd).take i)]) (fun st => ms.length - slotI st 15) ?_ ?_
  · refine ⟨0, Nat.zero_le _, ?_, ?_, ?_, ?_, ?_, ?_⟩
    all_goals simp only [*, put_slot, put_room, dem_slot, entry_slot, ↓reduceIte, Nat.reduceEqDiff, reduceCtorEq, List.getD_cons_zero, List.map_nil, List.take_zero, and_true, List.cons.injEq]
    all_goals rfl
  · rintro st K ⟨i, hi, g15, g13, g14, g0, g3, r3⟩ hn hx hr
    have hl : ms.length * 120 ≤ 140737488355328 := HL
    by_cases h : i < ms.length
    · have g9 : (i : Int) < ms.length := by omega
      have hw := wrapS i (by omega)
      obtain ⟨m, hm⟩ := some_at h
      have hb := getD_map (f := Mv.d) hm
      rw [mvat] at hb
      have hre := nds_at hm
      have hAl : ((ms.map Mv.nd).take i).length = i := by rw [List.length_take, List.length_map]; omega
      obtain ⟨A, hA⟩ : ∃ A, A = (ms.map Mv.nd).take i := ⟨_, rfl⟩
      rw [← hA] at hre hAl g3 r3
      have hro := roomN_ok A
      have hra := roomN_app A m.nd
      have hsz := szN A
      have hk1 : lenOk ((A.map Nd.d).length + 1) 112 = true := by
        rw [List.length_map, hAl]
        unfold lenOk
        simp only [Bool.or_eq_true, Bool.and_eq_true, decide_eq_true_eq]
        right
        omega
      have hap := apN A m.nd
      rw [ndat] at hap
      obtain ⟨Q, hQ⟩ : ∃ Q, (ms.map Mv.nd).take (i + 1) = Q := ⟨_, rfl⟩
      have HQ := Hd.mk hQ
      have hq : Q.map Nd.d = A.map Nd.d ++ [.agg [.int .i64 m.nd.p, .int .i64 m.nd.k, .str m.nd.sp, .str m.nd.nm, .list (m.nd.at_.map At.d), .list (m.nd.st.map .str), .str m.nd.tx]] := by rw [← hQ, hre]; exact hap
      have hqr : roomN Q = .own 28 := by rw [← hQ, hre]; exact hra
      have hs1 : szOk 7 [D.agg [.int .i64 m.nd.p, .int .i64 m.nd.k, .str m.nd.sp, .str m.nd.nm, .list (m.nd.at_.map At.d), .list (m.nd.st.map .str), .str m.nd.tx]] = true := rfl
      have HI := Hd.mk h
      clear hQ hre hap hra hA hAl hm hl h hr hx hi h6
      obtain ⟨dn, ⟨p, k, sp, nm, la, ls, tx⟩⟩ := m
      simp only [] at hb hq hs1
      generalize la.map At.d = LA at *
      generalize ls.map D.str = LS at *
      repeat' (first
    | simp only [*, guardG, opG, inB, sval, stake, eats, eaters, get, cval, cval1, St.taken, ↓reduceIte, Nat.reduceEqDiff, Nat.reduceLT, Nat.reduceLeDiff, List.filterMap_cons, List.filterMap_nil, Option.map_some, Option.bind_none, List.getElem?_cons_zero, List.contains_cons, List.contains_nil, List.map_cons, List.map_nil, beq_self_eq_true, beq_iff_eq, Nat.reduceBEq, dbin, dIntBin, pureB, leaf, leafN, List.all_cons, List.all_nil, List.nil_append, List.append_nil, List.length_nil, List.length_cons, List.take_zero, List.drop_succ_cons, dcells, Nat.reduceAdd, stepBox, List.cons.injEq, List.getElem?_toArray, takes, ptrArgs, callArgs, given, oroom, Option.isSome_none, ap22, bs22, Option.some.injEq, List.drop_succ_cons, List.drop_nil, bt22, tyM, dpM, dpM1, fpM_1, zrM, zrmM, iaM, putR8, List.nil_append, AVB]
    | (refine drW_intro (by kernel_rfl) ?_)
    | (refine gw_intro (fun h => ?_) (fun h => ?_) <;> (try simp only [beq_true, beq_false, Bool.not_eq_eq_eq_not, Bool.not_true, Bool.not_false, Bool.not_not, decide_eq_true_eq, decide_eq_false_iff_not, ge_iff_le, gt_iff_lt] at h)))
      have hi2 : i < ms.length := HI
      refine hn _ ⟨i + 1, hi2, ?_, ?_, ?_, ?_, ?_, ?_⟩ ?_
      · simp only [*, put_slot, ↓reduceIte]
      · simp only [*, put_slot, dem_slot, setBox_slot, ↓reduceIte, Nat.reduceEqDiff]
      · simp only [*, put_slot, dem_slot, setBox_slot, ↓reduceIte, Nat.reduceEqDiff]
      · simp only [*, put_slot, dem_slot, setBox_slot, ↓reduceIte, reduceCtorEq]
      · rw [show (ms.map Mv.nd).take (i + 1) = Q from HQ]
        simp only [*, put_slot, ↓reduceIte, Nat.reduceEqDiff]
      · rw [show (ms.map Mv.nd).take (i + 1) = Q from HQ]
        simp only [*, put_room, ↓reduceIte, Nat.reduceEqDiff]
      · simp only [slotI, *, put_slot, ↓reduceIte, Int.toNat_natCast]
        omega
    · obtain rfl : i = ms.length := by omega
      have g9 : ¬ (ms.length : Int) < ms.length := by omega
      rw [show (ms.map Mv.nd).take ms.length = ms.map Mv.nd by rw [← List.length_map Mv.nd, List.take_length]] at g3 r3
      have h7 : callL Tryd.prog (ext11b chk) 7 [.list ((ms.map Mv.nd).map Nd.d), .int .i64 60] [] = some (.bool (greatF (ms.map Mv.nd) 60), [.no], []) := great_L (chk := chk) (ms.map Mv.nd) 60 (by decide)
      obtain ⟨ND, hND⟩ : ∃ ND, ND = (ms.map Mv.nd).map Nd.d := ⟨_, rfl⟩
      rw [← hND] at g3 h7
      clear hND hn hr h h6 hl
      cases hgr : greatF (ms.map Mv.nd) 60 with
      | true =>
        rw [hgr] at h7
        clear hgr
        repeat' (first
    | simp only [*, guardG, opG, inB, sval, stake, eats, eaters, get, ↓reduceIte, Nat.reduceLT, List.filterMap_cons, List.filterMap_nil, Option.map_some, List.contains_cons, List.contains_nil, dbin, dIntBin, List.append_nil, AVB]
    | (refine drW_intro (by kernel_rfl) ?_)
    | (refine gw_intro (fun h => ?_) (fun h => ?_) <;> (try simp only [beq_true, beq_false, Bool.not_eq_eq_eq_not, Bool.not_true, Bool.not_false, Bool.not_not, decide_eq_true_eq, decide_eq_false_iff_not, ge_iff_le, gt_iff_lt] at h)))
        refine hx _ _ ?_
        repeat' (first
    | simp only [*, guardG, opG, inB, sval, stake, eats, eaters, get, cval, cval1, croom, St.taken, endQ, endR, endV, rvars, rvar, room1, ↓reduceIte, Nat.reduceEqDiff, Nat.reduceLT, List.filterMap_cons, List.filterMap_nil, Option.bind_some, Option.bind_none, List.getElem?_cons_zero, List.getElem?_cons_succ, List.contains_cons, List.contains_nil, List.map_cons, List.map_nil, beq_self_eq_true, beq_iff_eq, dbin, dIntBin, okR, callG, pureB, leaf, leafN, List.all_cons, List.all_nil, List.nil_append, List.append_nil, List.take_nil, dStrBin, ptrArgs, callArgs, vroom, Option.isSome_none, stepPtr, notAgg, dNilEq, isLit, Option.some.injEq, List.nil_append, AVB]
    | (refine drW_intro (by kernel_rfl) ?_)
    | (refine gw_intro (fun h => ?_) (fun h => ?_) <;> (try simp only [beq_true, beq_false, Bool.not_eq_eq_eq_not, Bool.not_true, Bool.not_false, Bool.not_not, decide_eq_true_eq, decide_eq_false_iff_not, ge_iff_le, gt_iff_lt] at h)))
      | false =>
        rw [hgr] at h7
        obtain ⟨hl60, hSm⟩ := nds_small hgr
        by_cases hm0 : ms = []
        · subst hm0
          have z0 : ((0 : Nat) : Int) = 0 := rfl
          have ln : (([] : List Mv).length : Int) = 0 := rfl
          have ln2 : (([] : List D).length : Int) = 0 := rfl
          have mn : ([] : List Mv).map Mv.d = [] := rfl
          clear hgr lN hl60 hSm
          repeat' (first
    | simp only [*, guardG, opG, inB, sval, stake, eats, eaters, get, ↓reduceIte, Nat.reduceLT, List.filterMap_cons, List.filterMap_nil, Option.map_some, List.contains_cons, List.contains_nil, dbin, dIntBin, List.append_nil, List.length_nil, Int.reduceLT, AVB]
    | (refine drW_intro (by kernel_rfl) ?_)
    | (refine gw_intro (fun h => ?_) (fun h => ?_) <;> (try simp only [beq_true, beq_false, Bool.not_eq_eq_eq_not, Bool.not_true, Bool.not_false, Bool.not_not, decide_eq_true_eq, decide_eq_false_iff_not, ge_iff_le, gt_iff_lt] at h)))
          refine hx _ _ ?_
          repeat' (first
    | simp only [*, guardG, opG, inB, sval, stake, eats, eaters, get, cval, cval1, croom, St.taken, endQ, endR, endV, rvars, rvar, room1, ↓reduceIte, Nat.reduceEqDiff, Nat.reduceLT, reduceCtorEq, List.filterMap_cons, List.filterMap_nil, Option.bind_some, Option.map_some, Option.bind_none, List.getElem?_cons_zero, List.getElem?_cons_succ, List.contains_cons, List.contains_nil, List.map_cons, List.map_nil, beq_self_eq_true, beq_iff_eq, dbin, dIntBin, okR, callG, pureB, leaf, leafN, List.all_cons, List.all_nil, List.nil_append, List.append_nil, List.take_nil, List.length_nil, dStrBin, ptrArgs, callArgs, vroom, Option.isSome_none, stepPtr, notAgg, dNilEq, isLit, Option.some.injEq, lenMs, List.nil_append, AVB]
    | (refine drW_intro (by kernel_rfl) ?_)
    | (refine gw_intro (fun h => ?_) (fun h => ?_) <;> (try simp only [beq_true, beq_false, Bool.not_eq_eq_eq_not, Bool.not_true, Bool.not_false, Bool.not_not, decide_eq_true_eq, decide_eq_false_iff_not, ge_iff_le, gt_iff_lt] at h)))
        · have h9 := doc_L (chk := chk) ms hm0 (by omega) hSm
          have h8 := path_L (chk := chk) ms (by omega) hSm
          have lpos : 0 < ms.length := List.length_pos_iff.2 hm0
          have lz : ((ms.length : Int) == 0) = false := by
            simp
            omega
          unfold docD docR at h9
          by_cases hp : pathF ms = -1
          · rw [if_pos hp, if_pos hp] at h9
            rw [hp] at h8
            have hsd := doc_small (ms := ms) (by omega) hSm
            have hdl : (docT ms ms.length).length = ms.length := docT_len (Nat.le_refl _)
            have ldt := lenM (docT ms ms.length) Nd.d
            rw [hdl] at ldt
            have bne : ((ms.length : Int) != ms.length) = false := by simp
            have HP := Hd.mk hp
            have HSD := Hd.mk hsd
            obtain ⟨n0, hn0⟩ := some_at (show 0 < (docT ms ms.length).length by omega)
            have hz0 := getD_map (f := Nd.d) hn0
            have hp0 := ((tidy_step hp ms.length (Nat.le_refl _)).1 0 n0 hn0).2.1 rfl
            rw [ndat, hp0] at hz0
            have g0p : (0 : Int) < ms.length := by omega
            have H60 := Hd.mk hl60
            have HN := Hd.mk lpos
            clear hn0 hp0 hp hsd hm0 hSm hl60 hgr hdl lpos
            generalize n0.at_.map At.d = LA0 at *
            generalize n0.st.map D.str = LS0 at *
            obtain ⟨DT, hDT⟩ : ∃ DT, DT = (docT ms ms.length).map Nd.d := ⟨_, rfl⟩
            rw [← hDT] at ldt hz0 h9
            have HDT := Hd.mk hDT
            clear hDT
            repeat' (first
    | simp only [*, guardG, opG, inB, sval, stake, eats, eaters, get, ↓reduceIte, Nat.reduceLT, List.filterMap_cons, List.filterMap_nil, Option.map_some, List.contains_cons, List.contains_nil, dbin, dIntBin, List.append_nil, AVB]
    | (refine drW_intro (by kernel_rfl) ?_)
    | (refine gw_intro (fun h => ?_) (fun h => ?_) <;> (try simp only [beq_true, beq_false, Bool.not_eq_eq_eq_not, Bool.not_true, Bool.not_false, Bool.not_not, decide_eq_true_eq, decide_eq_false_iff_not, ge_iff_le, gt_iff_lt] at h)))
            refine hx _ _ ?_
            repeat' (first
    | simp only [*, guardG, opG, inB, sval, stake, eats, eaters, get, cval, cval1, croom, St.taken, ↓reduceIte, Nat.reduceEqDiff, Nat.reduceLT, reduceCtorEq, List.filterMap_cons, List.filterMap_nil, Option.bind_some, Option.map_some, Option.bind_none, List.getElem?_cons_zero, List.getElem?_cons_succ, List.contains_cons, List.contains_nil, List.map_cons, List.map_nil, beq_self_eq_true, beq_iff_eq, Nat.reduceBEq, dbin, dIntBin, okR, callG, pureB, leaf, leafN, List.all_cons, List.all_nil, List.nil_append, List.append_nil, ge_iff_le, dStrBin, Int.reduceLE, ptrArgs, callArgs, vroom, Option.isSome_none, stepPtr, bs39, shA34, dNilEq, isLit, Option.some.injEq, bt39, lenMs, List.nil_append, AVB]
    | (refine drW_intro (by kernel_rfl) ?_)
    | (refine gw_intro (fun h => ?_) (fun h => ?_) <;> (try simp only [beq_true, beq_false, Bool.not_eq_eq_eq_not, Bool.not_true, Bool.not_false, Bool.not_not, decide_eq_true_eq, decide_eq_false_iff_not, ge_iff_le, gt_iff_lt] at h)))
            clear h7 h8 h9 lz bne
            refine loopH (fun s2 => ∃ j : Nat, j + 1 ≤ ms.length ∧ s2.slot 9 = .int .i64 ((j + 1 : Nat) : Int) ∧ s2.slot 0 = .list (ms.map Mv.d) ∧ s2.slot 6 = .list DT ∧ s2.slot 8 = .list ((rowT ms j).map (D.int .i64)) ∧ (∃ q, s2.room 8 = [q] ∧ (q = .full ∨ q = .own 3 ∨ q = .fresh))) (fun s2 => ms.length - slotI s2 9) ?_ ?_
            · refine ⟨0, (show 0 < ms.length from HN), ?_, ?_, ?_, ?_, .full, ?_, .inl rfl⟩
              all_goals simp only [*, put_slot, put_room, dem_slot, ↓reduceIte, Nat.reduceEqDiff, reduceCtorEq, Nat.zero_add]
              all_goals rfl
            · rintro s2 K2 ⟨j, hj, e9, e0, e6, e8, q, er, hq0⟩ hn2 hx2 hr2
              have G0 := Hd.mk g0
              have G16 := Hd.mk g15
              have G13 := Hd.mk g13
              have G14 := Hd.mk g14
              have G3 := Hd.mk g3
              have R3 := Hd.mk r3
              clear g0 g15 g13 g14 g3 r3
              have hl60 : ms.length ≤ 60 := H60
              by_cases hlt : j + 1 < ms.length
              · have g9' : ((j + 1 : Nat) : Int) < ms.length := by omega
                have hw := wrapS (j + 1) (by omega)
                obtain ⟨m, hm⟩ := some_at hlt
                have hb := getD_map (f := Mv.d) hm
                rw [mvat] at hb
                have hp : pathF ms = -1 := HP
                have hsd : SmallD (docT ms ms.length) := HSD
                have hdl : (docT ms ms.length).length = ms.length := docT_len (Nat.le_refl _)
                obtain ⟨n, hnn⟩ := some_at (show j + 1 < (docT ms ms.length).length by omega)
                have hdn := getD_map (f := Nd.d) hnn
                rw [ndat] at hdn
                have h11 := rrow_L (chk := chk) (docT ms ms.length) ((j + 1 : Nat) : Int) (by omega)
                rw [rowI_is hp hlt] at h11
                have hrl := rowT_len (ms := ms) (j + 1)
                have h10 : callL Tryd.prog (ext11b chk) 10 [.list ((rowT ms (j + 1)).map (.int .i64)), .list ((rowT ms (j + 1)).map (.int .i64))] [] = some (.bool (decide (rowT ms (j + 1) = rowT ms (j + 1))), [.no], []) := usame_L (chk := chk) (rowT ms (j + 1)) (rowT ms (j + 1)) (by omega) (by omega)
                rw [decide_eq_true rfl] at h10
                obtain ⟨z, r, hzr⟩ := rowT_head (ms := ms) (j + 1)
                have hpz := (row_is hp (j + 1) hlt).1 z r hzr
                have hpn : pAt (docT ms ms.length) (j + 1) = n.p := by unfold pAt; rw [hnn]
                have hpr := ((tidy_step hp ms.length (Nat.le_refl _)).1 (j + 1) n hnn).2.2 (Nat.succ_pos _)
                have wz : IntKind.i64.wrap (z - 1) = n.p := by rw [wrap64 _ (by omega) (by omega)]; omega
                have bnp : (n.p != n.p) = false := by simp
                have hrp := rowT_len (ms := ms) j
                have hl1 : ((rowT ms j).map (D.int .i64)).length + 1 ≤ 1073741824 := by rw [List.length_map]; omega
                have hl2 : ((rowT ms j).map (D.int .i64)).length ≤ 1073741823 := by rw [List.length_map]; omega
                have hsz := sz1b (rowT ms j)
                have hs1 : szOk 1 [D.int .i64 ((j + 1 : Nat) : Int)] = true := rfl
                have hRT := rowT_map hm
                have hg0 : ((rowT ms (j + 1)).map (D.int .i64)).getD 0 .bad = .int .i64 z := by rw [hzr]; rfl
                have hgl : (0 : Int) < ((rowT ms (j + 1)).map (D.int .i64)).length := by rw [hzr, List.map_cons, List.length_cons]; omega
                obtain ⟨RT, hRTe⟩ : ∃ RT, RT = (rowT ms (j + 1)).map (D.int .i64) := ⟨_, rfl⟩
                have HRT := Hd.mk hRTe
                rw [← hRTe] at h11 h10 hRT hg0 hgl
                rw [← show DT = (docT ms ms.length).map Nd.d from HDT] at hdn h11
                have HI := Hd.mk hlt
                clear hRTe hm hp hsd hdl hnn hrl hzr hpz hpn hpr hrp hlt hx2 hl60
                generalize roomOf (rowT ms (j + 1)) = RM at *
                generalize (rowT ms j).map (D.int .i64) = RP at *
                generalize n.at_.map At.d = YA at *
                generalize n.st.map D.str = YS at *
                generalize n.p = np at *
                cases hdn' : m.dn with
                | true =>
                  rw [hdn'] at hb hRT
                  rw [if_pos rfl, List.nil_append] at hRT
                  subst hRT
                  have one1 : (0 : Int) < ((1 : Nat) : Int) := by decide
                  clear hdn' e8 er hq0
                  repeat' (first
    | simp only [*, guardG, opG, opD, inB, sval, stake, eats, eaters, get, cval, cval1, croom, St.taken, ↓reduceIte, Nat.reduceEqDiff, Nat.reduceLT, Nat.reduceLeDiff, reduceCtorEq, List.filterMap_cons, List.filterMap_nil, Option.bind_some, Option.map_some, Option.bind_none, List.getElem?_cons_zero, List.getElem?_cons_succ, List.contains_cons, List.contains_nil, List.map_cons, List.map_nil, beq_self_eq_true, Nat.reduceBEq, dbin, dIntBin, isLocal, isAlloc, loadsOwn, pureB, leaf, leafN, List.all_cons, List.all_nil, List.nil_append, List.append_nil, List.length_nil, List.length_cons, dun, dcells, Nat.reduceAdd, List.cons.injEq, List.getElem?_toArray, dStrBin, Int.reduceLE, Int.reduceToNat, isBar, allocKeys, takes, ptrArgs, callArgs, vroom, Option.isSome_none, stepTake, ap39, bs39e, bs39, dNilEq, isLit, bt39, lenOk_small, faM_0, iaM, lenMs, List.nil_append, AVB]
    | (refine drW_intro (by kernel_rfl) ?_)
    | (refine gw_intro (fun h => ?_) (fun h => ?_) <;> (try simp only [beq_true, beq_false, Bool.not_eq_eq_eq_not, Bool.not_true, Bool.not_false, Bool.not_not, decide_eq_true_eq, decide_eq_false_iff_not, ge_iff_le, gt_iff_lt] at h)))
                  have hi2 : j + 1 < ms.length := HI
                  refine hn2 _ ⟨j + 1, hi2, ?_, ?_, ?_, ?_, .own 3, ?_, .inr (.inl rfl)⟩ ?_
                  · simp only [*, put_slot, ↓reduceIte]
                  · simp only [*, put_slot, dem_slot, ↓reduceIte, reduceCtorEq]
                  · simp only [*, put_slot, dem_slot, ↓reduceIte, Nat.reduceEqDiff]
                  · rw [← show _ = (rowT ms (j + 1)).map (D.int .i64) from HRT]
                    simp only [*, put_slot, dem_slot, ↓reduceIte, Nat.reduceEqDiff]
                  · simp only [*, put_room, dem_room, ↓reduceIte, Nat.reduceEqDiff]
                  · simp only [slotI, *, put_slot, ↓reduceIte, Int.toNat_natCast]
                    omega
                | false =>
                  rw [hdn'] at hb hRT
                  rw [if_neg (by decide)] at hRT
                  replace hRT := hRT.symm
                  clear hdn'
                  repeat' (first
    | simp only [*, guardG, opG, opD, inB, sval, stake, eats, eaters, get, cval, cval1, croom, St.taken, ↓reduceIte, Nat.reduceEqDiff, Nat.reduceLT, reduceCtorEq, List.filterMap_cons, List.filterMap_nil, Option.bind_some, Option.map_some, Option.bind_none, List.getElem?_cons_zero, List.getElem?_cons_succ, List.contains_cons, List.contains_nil, List.map_cons, List.map_nil, beq_self_eq_true, Nat.reduceBEq, dbin, dIntBin, isLocal, isAlloc, loadsOwn, pureB, leaf, leafN, List.all_cons, List.all_nil, List.nil_append, List.append_nil, List.length_nil, List.length_cons, dun, dcells, Nat.reduceAdd, List.cons.injEq, List.getElem?_toArray, dStrBin, Int.reduceLE, Int.reduceToNat, isBar, allocKeys, takes, ptrArgs, callArgs, vroom, Option.isSome_none, stepTake, ap39, bs39, dNilEq, isLit, bt39, lenOk_small, faM_0, iaM, lenMs, List.nil_append, AVB]
    | (refine drW_intro (by kernel_rfl) ?_)
    | (refine gw_intro (fun h => ?_) (fun h => ?_) <;> (try simp only [beq_true, beq_false, Bool.not_eq_eq_eq_not, Bool.not_true, Bool.not_false, Bool.not_not, decide_eq_true_eq, decide_eq_false_iff_not, ge_iff_le, gt_iff_lt] at h)))
                  have hi2 : j + 1 < ms.length := HI
                  refine hn2 _ ⟨j + 1, hi2, ?_, ?_, ?_, ?_, .own 3, ?_, .inr (.inl rfl)⟩ ?_
                  · simp only [*, put_slot, ↓reduceIte]
                  · simp only [*, put_slot, dem_slot, ↓reduceIte, reduceCtorEq]
                  · simp only [*, put_slot, dem_slot, ↓reduceIte, Nat.reduceEqDiff]
                  · rw [← show _ = (rowT ms (j + 1)).map (D.int .i64) from HRT]
                    simp only [*, put_slot, dem_slot, ↓reduceIte, Nat.reduceEqDiff]
                  · simp only [*, put_room, dem_room, ↓reduceIte, Nat.reduceEqDiff]
                  · simp only [slotI, *, put_slot, ↓reduceIte, Int.toNat_natCast]
                    omega
              · have g9' : ¬ ((j + 1 : Nat) : Int) < ms.length := by omega
                clear hn2 hr2 hlt hq0 e8 er hl60
                repeat' (first
    | simp only [*, guardG, opG, inB, sval, stake, eats, eaters, get, St.taken, ↓reduceIte, Nat.reduceEqDiff, Nat.reduceLT, reduceCtorEq, List.filterMap_cons, List.filterMap_nil, Option.map_some, Option.bind_none, List.contains_cons, List.contains_nil, Nat.reduceBEq, dbin, dIntBin, List.append_nil, ptrArgs, callArgs, Option.isSome_none, lenMs, AVB]
    | (refine drW_intro (by kernel_rfl) ?_)
    | (refine gw_intro (fun h => ?_) (fun h => ?_) <;> (try simp only [beq_true, beq_false, Bool.not_eq_eq_eq_not, Bool.not_true, Bool.not_false, Bool.not_not, decide_eq_true_eq, decide_eq_false_iff_not, ge_iff_le, gt_iff_lt] at h)))
                refine hx2 _ _ ?_
                repeat' (first
    | simp only [*, guardG, opG, inB, sval, stake, eats, eaters, get, cval, cval1, St.taken, endQ, endR, endV, rvars, rvar, room1, ↓reduceIte, Nat.reduceEqDiff, Nat.reduceLT, List.filterMap_cons, List.filterMap_nil, Option.map_some, List.getElem?_cons_zero, List.contains_cons, List.contains_nil, List.map_nil, beq_self_eq_true, Nat.reduceBEq, dbin, dIntBin, pureB, leaf, leafN, List.append_nil, List.take_nil, List.length_nil, List.length_cons, dcells, Nat.reduceAdd, Int.reduceLE, Int.reduceToNat, takes, notAgg, AVB]
    | (refine drW_intro (by kernel_rfl) ?_)
    | (refine gw_intro (fun h => ?_) (fun h => ?_) <;> (try simp only [beq_true, beq_false, Bool.not_eq_eq_eq_not, Bool.not_true, Bool.not_false, Bool.not_not, decide_eq_true_eq, decide_eq_false_iff_not, ge_iff_le, gt_iff_lt] at h)))
          · rw [if_neg hp] at h9
            have hge : 0 ≤ pathF ms := by
              rcases pathG_ge (r := ms) (i := 0) with h | h
              · exact absurd h hp
              · exact h
            generalize pathF ms = Z at *
            clear hp hm0 hSm hl60 hgr h9 lpos
            repeat' (first
    | simp only [*, guardG, opG, inB, sval, stake, eats, eaters, get, ↓reduceIte, Nat.reduceLT, List.filterMap_cons, List.filterMap_nil, Option.map_some, List.contains_cons, List.contains_nil, dbin, dIntBin, List.append_nil, AVB]
    | (refine drW_intro (by kernel_rfl) ?_)
    | (refine gw_intro (fun h => ?_) (fun h => ?_) <;> (try simp only [beq_true, beq_false, Bool.not_eq_eq_eq_not, Bool.not_true, Bool.not_false, Bool.not_not, decide_eq_true_eq, decide_eq_false_iff_not, ge_iff_le, gt_iff_lt] at h)))
            refine hx _ _ ?_
            repeat' (first
    | simp only [*, guardG, opG, inB, sval, stake, eats, eaters, get, cval, cval1, croom, St.taken, endQ, endR, endV, rvars, rvar, room1, ↓reduceIte, Nat.reduceEqDiff, Nat.reduceLT, reduceCtorEq, List.filterMap_cons, List.filterMap_nil, Option.bind_some, Option.map_some, Option.bind_none, List.getElem?_cons_zero, List.getElem?_cons_succ, List.contains_cons, List.contains_nil, List.map_cons, List.map_nil, beq_self_eq_true, beq_iff_eq, dbin, dIntBin, okR, callG, pureB, leaf, leafN, List.all_cons, List.all_nil, List.nil_append, List.append_nil, List.take_nil, ge_iff_le, dStrBin, ptrArgs, callArgs, vroom, Option.isSome_none, stepPtr, notAgg, dNilEq, isLit, Option.some.injEq, lenMs, List.nil_append, AVB]
    | (refine drW_intro (by kernel_rfl) ?_)
    | (refine gw_intro (fun h => ?_) (fun h => ?_) <;> (try simp only [beq_true, beq_false, Bool.not_eq_eq_eq_not, Bool.not_true, Bool.not_false, Bool.not_not, decide_eq_true_eq, decide_eq_false_iff_not, ge_iff_le, gt_iff_lt] at h)))
end Go.Av
