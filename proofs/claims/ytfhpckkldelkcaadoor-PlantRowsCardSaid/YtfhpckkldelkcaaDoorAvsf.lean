/- The evaluator, in one text: over any program; no conditions but those that each law names. -/
import Derived.Test.YtfhpckkldelkcaaDoorAvse
import Derived.Test.YtfhpckkldelkcaaDoorAvsb
import Derived.Test.YtfhpckkldelkcaaDoorRows
import Derived.Test.YtfhpckkldelkcaaDoorTie
import Derived.Test.YtfhpckkldelkcaaDoorAvb
import Derived.Test.YtfhpckkldelkcaaDoorAvsc
set_option linter.unusedSimpArgs false
set_option linter.unusedVariables false
set_option linter.unusedSectionVars false
set_option maxRecDepth 100000
namespace Go.Av
open Go.Proofs
variable [Ek] {chk : List D → Bool}
def rootB (n : Nd) : Bool := n.k == 1 && decide (n.p < 0)
def chkG : List Nd → List Nd → Int → Int × Int
  | a, [], roots => if roots = 1 then (0, 0) else (15, a.length)
  | a, n :: r, roots => if nodeF a n = true then chkG (a ++ [n]) r (if rootB n = true then roots + 1 else roots) else (10, a.length)
def chkF (ns : List Nd) : Int × Int := chkG [] ns 0
theorem chkG_at {xs : List Nd} {i : Nat} {x : Nd} (roots : Int) (hx : xs[i]? = some x) : chkG (xs.take i) (xs.drop i) roots = if nodeF (xs.take i) x = true then chkG (xs.take (i + 1)) (xs.drop (i + 1)) (if rootB x = true then roots + 1 else roots) else (10, (i : Int)) := by
  have h1 : i < xs.length := (List.getElem?_eq_some_iff.1 hx).1
  have e1 : xs[i] = x := (List.getElem?_eq_some_iff.1 hx).2
  rw [List.drop_eq_getElem_cons h1, e1, chkG, List.take_succ_eq_append_getElem h1, e1, List.length_take, Nat.min_eq_left (by omega)]
theorem chkG_end {xs : List Nd} {i : Nat} (roots : Int) (h : xs.length = i) : chkG (xs.take i) (xs.drop i) roots = if roots = 1 then (0, 0) else (15, (i : Int)) := by
  subst h
  rw [List.drop_length, List.take_length, chkG]
def BigD (ns : List Nd) : Prop := ns.length ≤ 140737488355328 ∧ ∀ n ∈ ns, BigN n
def SmallD (ns : List Nd) : Prop := ns.length ≤ 10000 ∧ ∀ n ∈ ns, SmallN n
theorem SmallA.big {a : At} (h : SmallA a) : BigA a := ⟨Nat.le_trans h.1 (by decide), Nat.le_trans h.2.1 (by decide), Nat.le_trans h.2.2 (by decide)⟩
theorem SmallN.big {n : Nd} (h : SmallN n) : BigN n := ⟨Nat.le_trans h.1 (by decide), Nat.le_trans h.2.1 (by decide), Nat.le_trans h.2.2.1 (by decide), Nat.le_trans h.2.2.2.1 (by decide), Nat.le_trans h.2.2.2.2.1 (by decide), fun a ha => (h.2.2.2.2.2 a ha).big⟩
theorem SmallD.big {ns : List Nd} (h : SmallD ns) : BigD ns := ⟨Nat.le_trans h.1 (by decide), fun n hn => (h.2 n hn).big⟩
theorem SmallD.small {ns : List Nd} (h : SmallD ns) : Small ns := ⟨h.1, fun n hn => ⟨(h.2 n hn).1, (h.2 n hn).2.1⟩⟩
theorem great_smallD {ns : List Nd} {m : Nat} (h : greatF ns m = false) (hm : m ≤ 10000) : SmallD ns := by
  unfold greatF at h
  simp only [Bool.or_eq_false_iff, decide_eq_false_iff_not, List.any_eq_false] at h
  refine ⟨by omega, fun n hn => ?_⟩
  have h1 := h.2 n hn
  unfold ndG ndG0 at h1
  simp only [Bool.or_eq_true, decide_eq_true_eq, not_or, List.any_eq_true, not_exists, not_and] at h1
  refine ⟨by omega, by omega, by omega, by omega, by omega, fun a ha => ?_⟩
  have h2 := h1.2 a ha
  unfold atG at h2
  simp only [Bool.or_eq_true, decide_eq_true_eq, not_or] at h2
  exact ⟨by omega, by omega, by omega⟩
set_option maxHeartbeats 16000000 in
theorem rcheck_L (ns : List Nd) (hS : BigD ns) : callL Tryd.prog (ext11b chk) 15 [.list (ns.map Nd.d)] [] = some (.tuple [.int .i64 (chkF ns).1, .int .i64 (chkF ns).2], [.no, .no], []) := by
  have lN := lenM ns Nd.d
  have HL := Hd.mk hS.1
  have HS := Hd.mk hS
  clear hS
  obtain ⟨R1, R2, hR⟩ : ∃ R1 R2, Hd ((R1, R2) = chkG (ns.take 0) (ns.drop 0) 0) := ⟨_, _, rfl⟩
  have e : chkF ns = (R1, R2) := (show (R1, R2) = chkG (ns.take 0) (ns.drop 0) 0 from hR).symm
  rw [e]
  clear e
  refine callK (m := 42) (res := [2, 3]) (rs := [.tmp 2, .tmp 3]) rfl Tryd.func15 rfl rfl rfl rfl rfl ?_
  repeat' (first
    | simp only [*, guardG, opG, inB, sval, stake, eats, eaters, get, cval, cval1, croom, ↓reduceIte, Nat.reduceLT, List.filterMap_cons, List.filterMap_nil, List.contains_cons, List.contains_nil, List.append_nil, List.length_nil, vroom, AVB]
    | (refine drW_intro (by kernel_rfl) ?_)
    | (refine gw_intro (fun h => ?_) (fun h => ?_) <;> (try simp only [beq_true, beq_false, Bool.not_eq_eq_eq_not, Bool.not_true, Bool.not_false, Bool.not_not, decide_eq_true_eq, decide_eq_false_iff_not, ge_iff_le, gt_iff_lt] at h)))
  refine loopH (fun st => ∃ (i : Nat) (roots : Int), i ≤ ns.length ∧ (0 ≤ roots ∧ roots ≤ i) ∧ st.slot 5 = .int .i64 i ∧ st.room 5 = [] ∧ st.slot 4 = .int .i64 roots ∧ st.slot 0 = .list (ns.map Nd.d) ∧ st.slot 2 = .int .i64 0 ∧ st.room 2 = [] ∧ st.slot 3 = .int .i64 0 ∧ st.room 3 = [] ∧ Hd ((R1, R2) = chkG (ns.take i) (ns.drop i) roots)) (fun st => ns.length - slotI st 5) ?_ ?_
  · refine ⟨0, 0, Nat.zero_le _, ⟨by decide, by decide⟩, ?_, ?_, ?_, ?_, ?_, ?_, ?_, ?_, hR⟩
    all_goals simp only [*, put_slot, put_room, entry_slot, ↓reduceIte, Nat.reduceEqDiff, reduceCtorEq, List.getD_cons_zero]
    all_goals rfl
  · rintro st K ⟨i, roots, hi, hro, g5, r5, g4, g0, g2, r2, g3, r3, hO⟩ hn hx hr
    have hl : ns.length ≤ 140737488355328 := HL
    have hO' : (R1, R2) = chkG (ns.take i) (ns.drop i) roots := hO
    clear hO
    by_cases h : i < ns.length
    · have g9 : (i : Int) < ns.length := by omega
      have hw := wrapS i (by omega)
      have hwr : IntKind.i64.wrap (roots + 1) = roots + 1 := wrap64 _ (by omega) (by omega)
      obtain ⟨x, hx1⟩ := some_at h
      have hS : BigD ns := HS
      have hsx := hS.2 x (List.mem_of_getElem? hx1)
      rw [chkG_at roots hx1] at hO'
      have ha := getD_map (f := Nd.d) hx1
      have q1 : callL Tryd.prog (ext11b chk) 27 [.list ((ns.map Nd.d).take i), x.d] [] = some (.bool (nodeF (ns.take i) x), [.no], []) := by
        rw [← List.map_take]
        exact rnode_L2 (ns.take i) x hsx
      have sz := szN ns
      have gle : (i : Int) ≤ ns.length := by omega
      rw [ndat] at ha q1
      have hrt : rootB x = (x.k == 1 && decide (x.p < 0)) := rfl
      rw [hrt] at hO'
      generalize x.at_.map At.d = LA at *
      generalize x.st.map D.str = LS at *
      generalize nodeF (ns.take i) x = b at *
      generalize x.p = p at *
      generalize x.k = k at *
      generalize x.sp = sp at *
      generalize x.nm = nm at *
      generalize x.tx = tx at *
      clear hS hsx hrt hx1
      cases b with
      | false =>
        rw [if_neg (by decide)] at hO'
        simp only [Prod.mk.injEq] at hO'
        obtain ⟨o1, o2⟩ := hO'
        subst o1 o2
        clear hn hx hl hR
        repeat' (first
    | simp only [*, guardG, opG, opD, inB, sval, stake, eats, eaters, get, cval, cval1, croom, St.taken, ↓reduceIte, Nat.reduceEqDiff, Nat.reduceLT, reduceCtorEq, List.filterMap_cons, List.filterMap_nil, Option.bind_some, Option.map_some, Option.bind_none, Option.map_none, List.contains_cons, List.contains_nil, List.map_cons, List.map_nil, beq_self_eq_true, Nat.reduceBEq, dbin, dIntBin, loadsOwn, pureB, leaf, leafN, List.all_cons, List.all_nil, List.nil_append, List.append_nil, List.length_nil, List.length_cons, dun, List.drop_zero, dcells, Nat.reduceAdd, dopt, dbound, isBar, takes, ptrArgs, callArgs, vroom, Option.isSome_none, List.drop_zero, AVB]
    | (refine drW_intro (by kernel_rfl) ?_)
    | (refine gw_intro (fun h => ?_) (fun h => ?_) <;> (try simp only [beq_true, beq_false, Bool.not_eq_eq_eq_not, Bool.not_true, Bool.not_false, Bool.not_not, decide_eq_true_eq, decide_eq_false_iff_not, ge_iff_le, gt_iff_lt] at h)))
        refine hr _ ?_
        repeat' (first
    | simp only [*, endQ, endR, endV, rvars, rvar, room1, ↓reduceIte, Nat.reduceEqDiff, List.map_cons, List.map_nil, pureB, leaf, leafN, List.take_nil, notAgg, AVB]
    | (refine drW_intro (by kernel_rfl) ?_)
    | (refine gw_intro (fun h => ?_) (fun h => ?_) <;> (try simp only [beq_true, beq_false, Bool.not_eq_eq_eq_not, Bool.not_true, Bool.not_false, Bool.not_not, decide_eq_true_eq, decide_eq_false_iff_not, ge_iff_le, gt_iff_lt] at h)))
      | true =>
        rw [if_pos rfl] at hO'
        by_cases c1 : p < 0
        · cases c2 : (k == 1) with
          | true =>
            rw [c2, decide_eq_true c1, Bool.true_and, if_pos rfl] at hO'
            have HO := Hd.mk hO'
            have HR := Hd.mk hro
            clear hO' hx hr hl hro
            repeat' (first
    | simp only [*, guardG, opG, opD, inB, sval, stake, eats, eaters, get, cval, cval1, croom, St.taken, ↓reduceIte, Nat.reduceEqDiff, Nat.reduceLT, reduceCtorEq, List.filterMap_cons, List.filterMap_nil, Option.bind_some, Option.map_some, Option.bind_none, Option.map_none, List.getElem?_cons_zero, List.getElem?_cons_succ, List.contains_cons, List.contains_nil, List.map_cons, List.map_nil, beq_self_eq_true, Nat.reduceBEq, dbin, dIntBin, loadsOwn, pureB, leaf, leafN, List.all_cons, List.all_nil, List.nil_append, List.append_nil, List.length_nil, List.length_cons, dun, List.drop_zero, dcells, Nat.reduceAdd, dopt, dbound, dStrBin, isBar, takes, ptrArgs, callArgs, vroom, Option.isSome_none, stepTake, List.drop_zero, AVB]
    | (refine drW_intro (by kernel_rfl) ?_)
    | (refine gw_intro (fun h => ?_) (fun h => ?_) <;> (try simp only [beq_true, beq_false, Bool.not_eq_eq_eq_not, Bool.not_true, Bool.not_false, Bool.not_not, decide_eq_true_eq, decide_eq_false_iff_not, ge_iff_le, gt_iff_lt] at h)))
            have hro : 0 ≤ roots ∧ roots ≤ i := HR
            refine hn _ ⟨i + 1, roots + 1, h, ⟨by omega, by omega⟩, ?_, ?_, ?_, ?_, ?_, ?_, ?_, ?_, HO⟩ ?_
            · simp only [*, put_slot, ↓reduceIte]
            · simp only [*, put_room, ↓reduceIte]
            · simp only [*, put_slot, dem_slot, ↓reduceIte, Nat.reduceEqDiff]
            · simp only [*, put_slot, dem_slot, ↓reduceIte, reduceCtorEq]
            · simp only [*, put_slot, dem_slot, ↓reduceIte, Nat.reduceEqDiff]
            · simp only [*, put_room, dem_room, ↓reduceIte, Nat.reduceEqDiff]
            · simp only [*, put_slot, dem_slot, ↓reduceIte, Nat.reduceEqDiff]
            · simp only [*, put_room, dem_room, ↓reduceIte, Nat.reduceEqDiff]
            · simp only [slotI, *, put_slot, ↓reduceIte, Int.toNat_natCast]
              omega
          | false =>
            rw [c2, Bool.false_and, if_neg (by decide)] at hO'
            have HO := Hd.mk hO'
            have HR := Hd.mk hro
            clear hO' hx hr hl hro
            repeat' (first
    | simp only [*, guardG, opG, opD, inB, sval, stake, eats, eaters, get, cval, cval1, croom, St.taken, ↓reduceIte, Nat.reduceEqDiff, Nat.reduceLT, reduceCtorEq, List.filterMap_cons, List.filterMap_nil, Option.bind_some, Option.map_some, Option.bind_none, Option.map_none, List.getElem?_cons_zero, List.getElem?_cons_succ, List.contains_cons, List.contains_nil, List.map_cons, List.map_nil, beq_self_eq_true, Nat.reduceBEq, dbin, dIntBin, loadsOwn, pureB, leaf, leafN, List.all_cons, List.all_nil, List.nil_append, List.append_nil, List.length_nil, List.length_cons, dun, List.drop_zero, dcells, Nat.reduceAdd, dopt, dbound, dStrBin, isBar, takes, ptrArgs, callArgs, vroom, Option.isSome_none, stepTake, List.drop_zero, AVB]
    | (refine drW_intro (by kernel_rfl) ?_)
    | (refine gw_intro (fun h => ?_) (fun h => ?_) <;> (try simp only [beq_true, beq_false, Bool.not_eq_eq_eq_not, Bool.not_true, Bool.not_false, Bool.not_not, decide_eq_true_eq, decide_eq_false_iff_not, ge_iff_le, gt_iff_lt] at h)))
            have hro : 0 ≤ roots ∧ roots ≤ i := HR
            refine hn _ ⟨i + 1, roots, h, ⟨by omega, by omega⟩, ?_, ?_, ?_, ?_, ?_, ?_, ?_, ?_, HO⟩ ?_
            · simp only [*, put_slot, ↓reduceIte]
            · simp only [*, put_room, ↓reduceIte]
            · simp only [*, put_slot, dem_slot, ↓reduceIte, Nat.reduceEqDiff]
            · simp only [*, put_slot, dem_slot, ↓reduceIte, reduceCtorEq]
            · simp only [*, put_slot, dem_slot, ↓reduceIte, Nat.reduceEqDiff]
            · simp only [*, put_room, dem_room, ↓reduceIte, Nat.reduceEqDiff]
            · simp only [*, put_slot, dem_slot, ↓reduceIte, Nat.reduceEqDiff]
            · simp only [*, put_room, dem_room, ↓reduceIte, Nat.reduceEqDiff]
            · simp only [slotI, *, put_slot, ↓reduceIte, Int.toNat_natCast]
              omega
        · rw [decide_eq_false c1, Bool.and_false, if_neg (by decide)] at hO'
          have HO := Hd.mk hO'
          have HR := Hd.mk hro
          clear hO' hx hr hl hro
          repeat' (first
    | simp only [*, guardG, opG, opD, inB, sval, stake, eats, eaters, get, cval, cval1, croom, St.taken, ↓reduceIte, Nat.reduceEqDiff, Nat.reduceLT, reduceCtorEq, List.filterMap_cons, List.filterMap_nil, Option.bind_some, Option.map_some, Option.bind_none, Option.map_none, List.getElem?_cons_zero, List.getElem?_cons_succ, List.contains_cons, List.contains_nil, List.map_cons, List.map_nil, beq_self_eq_true, Nat.reduceBEq, dbin, dIntBin, loadsOwn, pureB, leaf, leafN, List.all_cons, List.all_nil, List.nil_append, List.append_nil, List.length_nil, List.length_cons, dun, List.drop_zero, dcells, Nat.reduceAdd, dopt, dbound, dStrBin, isBar, takes, ptrArgs, callArgs, vroom, Option.isSome_none, stepTake, List.drop_zero, AVB]
    | (refine drW_intro (by kernel_rfl) ?_)
    | (refine gw_intro (fun h => ?_) (fun h => ?_) <;> (try simp only [beq_true, beq_false, Bool.not_eq_eq_eq_not, Bool.not_true, Bool.not_false, Bool.not_not, decide_eq_true_eq, decide_eq_false_iff_not, ge_iff_le, gt_iff_lt] at h)))
          have hro : 0 ≤ roots ∧ roots ≤ i := HR
          refine hn _ ⟨i + 1, roots, h, ⟨by omega, by omega⟩, ?_, ?_, ?_, ?_, ?_, ?_, ?_, ?_, HO⟩ ?_
          · simp only [*, put_slot, ↓reduceIte]
          · simp only [*, put_room, ↓reduceIte]
          · simp only [*, put_slot, dem_slot, ↓reduceIte, Nat.reduceEqDiff]
          · simp only [*, put_slot, dem_slot, ↓reduceIte, reduceCtorEq]
          · simp only [*, put_slot, dem_slot, ↓reduceIte, Nat.reduceEqDiff]
          · simp only [*, put_room, dem_room, ↓reduceIte, Nat.reduceEqDiff]
          · simp only [*, put_slot, dem_slot, ↓reduceIte, Nat.reduceEqDiff]
          · simp only [*, put_room, dem_room, ↓reduceIte, Nat.reduceEqDiff]
          · simp only [slotI, *, put_slot, ↓reduceIte, Int.toNat_natCast]
            omega
    · have g9 : ¬ (i : Int) < ns.length := by omega
      have hie : i = ns.length := by omega
      rw [chkG_end roots hie.symm] at hO'
      by_cases c1 : roots = 1
      · rw [if_pos c1] at hO'
        simp only [Prod.mk.injEq] at hO'
        obtain ⟨o1, o2⟩ := hO'
        subst o1 o2 c1
        have b1 : ((1 : Int) != 1) = false := rfl
        clear hn hr hl hR hie
        repeat' (first
    | simp only [*, guardG, opG, inB, sval, stake, eats, eaters, get, St.taken, ↓reduceIte, Nat.reduceEqDiff, Nat.reduceLT, reduceCtorEq, List.filterMap_cons, List.filterMap_nil, Option.map_some, Option.bind_none, List.contains_cons, List.contains_nil, Nat.reduceBEq, dbin, dIntBin, List.append_nil, ptrArgs, callArgs, Option.isSome_none, AVB]
    | (refine drW_intro (by kernel_rfl) ?_)
    | (refine gw_intro (fun h => ?_) (fun h => ?_) <;> (try simp only [beq_true, beq_false, Bool.not_eq_eq_eq_not, Bool.not_true, Bool.not_false, Bool.not_not, decide_eq_true_eq, decide_eq_false_iff_not, ge_iff_le, gt_iff_lt] at h)))
        refine hx _ _ ?_
        repeat' (first
    | simp only [*, guardG, opG, inB, sval, stake, eats, eaters, get, cval, cval1, croom, St.taken, endQ, endR, endV, rvars, rvar, room1, ↓reduceIte, Nat.reduceEqDiff, Nat.reduceLT, List.filterMap_cons, List.filterMap_nil, Option.map_some, List.contains_cons, List.contains_nil, List.map_cons, List.map_nil, Nat.reduceBEq, dbin, dIntBin, pureB, leaf, leafN, List.append_nil, List.take_nil, vroom, notAgg, AVB]
    | (refine drW_intro (by kernel_rfl) ?_)
    | (refine gw_intro (fun h => ?_) (fun h => ?_) <;> (try simp only [beq_true, beq_false, Bool.not_eq_eq_eq_not, Bool.not_true, Bool.not_false, Bool.not_not, decide_eq_true_eq, decide_eq_false_iff_not, ge_iff_le, gt_iff_lt] at h)))
      · rw [if_neg c1] at hO'
        simp only [Prod.mk.injEq] at hO'
        obtain ⟨o1, o2⟩ := hO'
        have b1 : (roots != 1) = true := by simpa using c1
        subst hie
        subst o1 o2
        clear hn hr hl hR c1
        repeat' (first
    | simp only [*, guardG, opG, inB, sval, stake, eats, eaters, get, St.taken, ↓reduceIte, Nat.reduceEqDiff, Nat.reduceLT, reduceCtorEq, List.filterMap_cons, List.filterMap_nil, Option.map_some, Option.bind_none, List.contains_cons, List.contains_nil, Nat.reduceBEq, dbin, dIntBin, List.append_nil, ptrArgs, callArgs, Option.isSome_none, AVB]
    | (refine drW_intro (by kernel_rfl) ?_)
    | (refine gw_intro (fun h => ?_) (fun h => ?_) <;> (try simp only [beq_true, beq_false, Bool.not_eq_eq_eq_not, Bool.not_true, Bool.not_false, Bool.not_not, decide_eq_true_eq, decide_eq_false_iff_not, ge_iff_le, gt_iff_lt] at h)))
        refine hx _ _ ?_
        repeat' (first
    | simp only [*, guardG, opG, inB, sval, stake, eats, eaters, get, cval, cval1, croom, St.taken, endQ, endR, endV, rvars, rvar, room1, ↓reduceIte, Nat.reduceEqDiff, Nat.reduceLT, reduceCtorEq, List.filterMap_cons, List.filterMap_nil, Option.map_some, Option.bind_none, List.contains_cons, List.contains_nil, List.map_cons, List.map_nil, beq_self_eq_true, Nat.reduceBEq, dbin, dIntBin, pureB, leaf, leafN, List.append_nil, List.take_nil, ptrArgs, callArgs, vroom, Option.isSome_none, notAgg, AVB]
    | (refine drW_intro (by kernel_rfl) ?_)
    | (refine gw_intro (fun h => ?_) (fun h => ?_) <;> (try simp only [beq_true, beq_false, Bool.not_eq_eq_eq_not, Bool.not_true, Bool.not_false, Bool.not_not, decide_eq_true_eq, decide_eq_false_iff_not, ge_iff_le, gt_iff_lt] at h)))
def errD (r : Int × Int) : D := if r.1 = 0 then .con .nilIface else faultD r.1 r.2
theorem fail_L (k a : Int) : callL Tryd.prog (ext11b chk) 28 [.int .i64 k, .int .i64 a] [] = some (faultD k a, [], []) := callL_ext (ext_in rfl)
set_option maxHeartbeats 16000000 in
theorem check_L (ns : List Nd) (hS : SmallD ns) : callL Tryd.prog (ext11b chk) 33 [.list (ns.map Nd.d)] [] = some (errD (chkF ns), [.no], []) := by
  have lN := lenM ns Nd.d
  have HL := Hd.mk hS.1
  have HS := Hd.mk hS
  clear hS
  obtain ⟨R, hR⟩ : ∃ R, Hd (R = errD (chkG (ns.take 0) (ns.drop 0) 0)) := ⟨_, rfl⟩
  rw [show errD (chkF ns) = R from (show R = errD (chkG (ns.take 0) (ns.drop 0) 0) from hR).symm]
  have hpb : pureB R = true := by
    have e : R = errD (chkG (ns.take 0) (ns.drop 0) 0) := hR
    rw [e]
    unfold errD
    split <;> rfl
  refine callK (m := 37) (res := [2]) (rs := [.tmp 2]) rfl Tryd.func33 rfl rfl rfl rfl rfl ?_
  repeat' (first
    | simp only [*, guardG, opG, inB, sval, stake, eats, eaters, get, cval, cval1, croom, St.taken, ↓reduceIte, Nat.reduceLT, reduceCtorEq, List.filterMap_cons, List.filterMap_nil, Option.map_some, Option.bind_none, List.getD_cons_zero, List.contains_cons, List.contains_nil, Nat.reduceBEq, List.append_nil, List.length_nil, ptrArgs, callArgs, vroom, Option.isSome_none, AVB]
    | (refine drW_intro (by kernel_rfl) ?_)
    | (refine gw_intro (fun h => ?_) (fun h => ?_) <;> (try simp only [beq_true, beq_false, Bool.not_eq_eq_eq_not, Bool.not_true, Bool.not_false, Bool.not_not, decide_eq_true_eq, decide_eq_false_iff_not, ge_iff_le, gt_iff_lt] at h)))
  refine loopH (fun st => ∃ (i : Nat) (roots : Int), i ≤ ns.length ∧ (0 ≤ roots ∧ roots ≤ i) ∧ st.slot 8 = .int .i64 i ∧ st.slot 3 = .int .i64 roots ∧ st.slot 0 = .list (ns.map Nd.d) ∧ st.slot 6 = .list (ns.map Nd.d) ∧ st.slot 7 = .int .i64 ns.length ∧ st.slot 2 = .con .nilIface ∧ st.room 2 = [] ∧ Hd (R = errD (chkG (ns.take i) (ns.drop i) roots))) (fun st => ns.length - slotI st 8) ?_ ?_
  · refine ⟨0, 0, Nat.zero_le _, ⟨by decide, by decide⟩, ?_, ?_, ?_, ?_, ?_, ?_, ?_, hR⟩
    all_goals simp only [*, put_slot, put_room, entry_slot, ↓reduceIte, Nat.reduceEqDiff, reduceCtorEq, List.getD_cons_zero]
    all_goals rfl
  · rintro st K ⟨i, roots, hi, hro, g8, g3, g0, g6, g7, g2, r2, hO⟩ hn hx hr
    have hl : ns.length ≤ 10000 := HL
    have hO' : R = errD (chkG (ns.take i) (ns.drop i) roots) := hO
    clear hO hpb
    by_cases h : i < ns.length
    · have g9 : (i : Int) < ns.length := by omega
      have hw := wrapS i (by omega)
      have hwr : IntKind.i64.wrap (roots + 1) = roots + 1 := wrap64 _ (by omega) (by omega)
      obtain ⟨x, hx1⟩ := some_at h
      have hS : SmallD ns := HS
      have hsx := hS.2 x (List.mem_of_getElem? hx1)
      rw [chkG_at roots hx1] at hO'
      have ha := getD_map (f := Nd.d) hx1
      have q1 : callL Tryd.prog (ext11b chk) 48 [.list ((ns.map Nd.d).take i), x.d] [] = some (.bool (nodeF (ns.take i) x), [.no], []) := by
        rw [← List.map_take]
        exact node_L (ns.take i) x hsx
      have sz := szN ns
      have gle : (i : Int) ≤ ns.length := by omega
      rw [ndat] at ha q1
      have hrt : rootB x = (x.k == 1 && decide (x.p < 0)) := rfl
      rw [hrt] at hO'
      generalize x.at_.map At.d = LA at *
      generalize x.st.map D.str = LS at *
      generalize nodeF (ns.take i) x = b at *
      generalize x.p = p at *
      generalize x.k = k at *
      generalize x.sp = sp at *
      generalize x.nm = nm at *
      generalize x.tx = tx at *
      clear hS hsx hrt hx1
      cases b with
      | false =>
        rw [if_neg (by decide)] at hO'
        have hO2 : R = faultD 10 i := hO'
        have hf := fail_L (chk := chk) 10 i
        unfold faultD at hO2 hf
        subst hO2
        clear hn hx hl hR hO'
        repeat' (first
    | simp only [*, guardG, opG, opD, inB, sval, stake, eats, eaters, get, cval, cval1, St.taken, ↓reduceIte, Nat.reduceEqDiff, Nat.reduceLT, Nat.reduceLeDiff, reduceCtorEq, List.filterMap_cons, List.filterMap_nil, Option.bind_some, Option.map_some, Option.map_none, List.contains_cons, List.contains_nil, List.map_cons, List.map_nil, beq_self_eq_true, Nat.reduceBEq, dbin, dIntBin, okR, callG, isAlloc, loadsOwn, pureB, leaf, leafN, List.all_cons, List.all_nil, List.nil_append, List.append_nil, List.length_nil, List.length_cons, dun, List.take_zero, List.drop_zero, List.drop_succ_cons, dcells, Nat.reduceAdd, stepBox, dopt, dbound, isBar, allocKeys, takes, ptrArgs, callArgs, given, oroom, Option.isSome_none, List.drop_succ_cons, List.drop_nil, List.drop_zero, AVB]
    | (refine drW_intro (by kernel_rfl) ?_)
    | (refine gw_intro (fun h => ?_) (fun h => ?_) <;> (try simp only [beq_true, beq_false, Bool.not_eq_eq_eq_not, Bool.not_true, Bool.not_false, Bool.not_not, decide_eq_true_eq, decide_eq_false_iff_not, ge_iff_le, gt_iff_lt] at h)))
        refine hr _ ?_
        repeat' (first
    | simp only [*, put_slot, put_room, put_box, dem_box, setBox_box, endQ, endR, endV, rvars, rvar, room1, ↓reduceIte, List.map_nil, pureB, leaf, leafN, List.take_nil, List.range_zero, and_self, notAgg]
    | (refine drW_intro (by kernel_rfl) ?_)
    | (refine gw_intro (fun h => ?_) (fun h => ?_) <;> (try simp only [beq_true, beq_false, Bool.not_eq_eq_eq_not, Bool.not_true, Bool.not_false, Bool.not_not, decide_eq_true_eq, decide_eq_false_iff_not, ge_iff_le, gt_iff_lt] at h)))
      | true =>
        rw [if_pos rfl] at hO'
        by_cases c1 : p < 0
        · cases c2 : (k == 1) with
          | true =>
            rw [c2, decide_eq_true c1, Bool.true_and, if_pos rfl] at hO'
            have HO := Hd.mk hO'
            have HR := Hd.mk hro
            clear hO' hx hr hl hro
            repeat' (first
    | simp only [*, guardG, opG, opD, inB, sval, stake, eats, eaters, get, cval, cval1, St.taken, ↓reduceIte, Nat.reduceEqDiff, Nat.reduceLT, Nat.reduceLeDiff, reduceCtorEq, List.filterMap_cons, List.filterMap_nil, Option.bind_some, Option.map_some, Option.map_none, List.getElem?_cons_zero, List.getElem?_cons_succ, List.contains_cons, List.contains_nil, List.map_cons, List.map_nil, beq_self_eq_true, beq_iff_eq, Nat.reduceBEq, dbin, dIntBin, isAlloc, loadsOwn, pureB, leaf, leafN, List.all_cons, List.all_nil, List.nil_append, List.append_nil, List.length_nil, List.length_cons, dun, List.take_zero, List.drop_zero, List.drop_succ_cons, dcells, Nat.reduceAdd, stepBox, dopt, dbound, dStrBin, isBar, allocKeys, takes, ptrArgs, callArgs, given, oroom, Option.isSome_none, stepTake, Option.some.injEq, List.drop_succ_cons, List.drop_nil, List.drop_zero, AVB]
    | (refine drW_intro (by kernel_rfl) ?_)
    | (refine gw_intro (fun h => ?_) (fun h => ?_) <;> (try simp only [beq_true, beq_false, Bool.not_eq_eq_eq_not, Bool.not_true, Bool.not_false, Bool.not_not, decide_eq_true_eq, decide_eq_false_iff_not, ge_iff_le, gt_iff_lt] at h)))
            have hro : 0 ≤ roots ∧ roots ≤ i := HR
            refine hn _ ⟨i + 1, roots + 1, h, ⟨by omega, by omega⟩, ?_, ?_, ?_, ?_, ?_, ?_, ?_, HO⟩ ?_
            · simp only [*, put_slot, ↓reduceIte]
            · simp only [*, put_slot, ↓reduceIte, Nat.reduceEqDiff]
            · simp only [*, put_slot, dem_slot, setBox_slot, ↓reduceIte, reduceCtorEq]
            · simp only [*, put_slot, dem_slot, setBox_slot, ↓reduceIte, Nat.reduceEqDiff]
            · simp only [*, put_slot, dem_slot, setBox_slot, ↓reduceIte, Nat.reduceEqDiff]
            · simp only [*, put_slot, dem_slot, setBox_slot, ↓reduceIte, Nat.reduceEqDiff]
            · simp only [*, put_room, dem_room, setBox_room, ↓reduceIte, Nat.reduceEqDiff]
            · simp only [slotI, *, put_slot, ↓reduceIte, Int.toNat_natCast]
              omega
          | false =>
            rw [c2, Bool.false_and, if_neg (by decide)] at hO'
            have HO := Hd.mk hO'
            have HR := Hd.mk hro
            clear hO' hx hr hl hro
            repeat' (first
    | simp only [*, guardG, opG, opD, inB, sval, stake, eats, eaters, get, cval, cval1, St.taken, ↓reduceIte, Nat.reduceEqDiff, Nat.reduceLT, Nat.reduceLeDiff, reduceCtorEq, List.filterMap_cons, List.filterMap_nil, Option.bind_some, Option.map_some, Option.map_none, List.getElem?_cons_zero, List.getElem?_cons_succ, List.contains_cons, List.contains_nil, List.map_cons, List.map_nil, beq_self_eq_true, Nat.reduceBEq, dbin, dIntBin, isAlloc, loadsOwn, pureB, leaf, leafN, List.all_cons, List.all_nil, List.nil_append, List.append_nil, List.length_nil, List.length_cons, dun, List.take_zero, List.drop_zero, List.drop_succ_cons, dcells, Nat.reduceAdd, stepBox, dopt, dbound, dStrBin, isBar, allocKeys, takes, ptrArgs, callArgs, given, oroom, Option.isSome_none, stepTake, List.drop_succ_cons, List.drop_nil, List.drop_zero, AVB]
    | (refine drW_intro (by kernel_rfl) ?_)
    | (refine gw_intro (fun h => ?_) (fun h => ?_) <;> (try simp only [beq_true, beq_false, Bool.not_eq_eq_eq_not, Bool.not_true, Bool.not_false, Bool.not_not, decide_eq_true_eq, decide_eq_false_iff_not, ge_iff_le, gt_iff_lt] at h)))
            have hro : 0 ≤ roots ∧ roots ≤ i := HR
            refine hn _ ⟨i + 1, roots, h, ⟨by omega, by omega⟩, ?_, ?_, ?_, ?_, ?_, ?_, ?_, HO⟩ ?_
            · simp only [*, put_slot, ↓reduceIte]
            · simp only [*, put_slot, dem_slot, setBox_slot, ↓reduceIte, Nat.reduceEqDiff]
            · simp only [*, put_slot, dem_slot, setBox_slot, ↓reduceIte, reduceCtorEq]
            · simp only [*, put_slot, dem_slot, setBox_slot, ↓reduceIte, Nat.reduceEqDiff]
            · simp only [*, put_slot, dem_slot, setBox_slot, ↓reduceIte, Nat.reduceEqDiff]
            · simp only [*, put_slot, dem_slot, setBox_slot, ↓reduceIte, Nat.reduceEqDiff]
            · simp only [*, put_room, dem_room, setBox_room, ↓reduceIte, Nat.reduceEqDiff]
            · simp only [slotI, *, put_slot, ↓reduceIte, Int.toNat_natCast]
              omega
        · rw [decide_eq_false c1, Bool.and_false, if_neg (by decide)] at hO'
          have HO := Hd.mk hO'
          have HR := Hd.mk hro
          clear hO' hx hr hl hro
          have hlt : i + 1 ≤ ns.length := h
          repeat' (first
    | simp only [*, guardG, opG, opD, inB, sval, stake, eats, eaters, get, cval, cval1, St.taken, ↓reduceIte, Nat.reduceEqDiff, Nat.reduceLT, Nat.reduceLeDiff, reduceCtorEq, List.filterMap_cons, List.filterMap_nil, Option.bind_some, Option.map_some, Option.map_none, List.getElem?_cons_zero, List.getElem?_cons_succ, List.contains_cons, List.contains_nil, List.map_cons, List.map_nil, beq_self_eq_true, Nat.reduceBEq, dbin, dIntBin, isAlloc, loadsOwn, pureB, leaf, leafN, List.all_cons, List.all_nil, List.nil_append, List.append_nil, List.length_nil, List.length_cons, dun, List.take_zero, List.drop_zero, List.drop_succ_cons, dcells, Nat.reduceAdd, stepBox, dopt, dbound, dStrBin, isBar, allocKeys, takes, ptrArgs, callArgs, given, oroom, Option.isSome_none, stepTake, List.drop_succ_cons, List.drop_nil, List.drop_zero, AVB]
    | (refine drW_intro (by kernel_rfl) ?_)
    | (refine gw_intro (fun h => ?_) (fun h => ?_) <;> (try simp only [beq_true, beq_false, Bool.not_eq_eq_eq_not, Bool.not_true, Bool.not_false, Bool.not_not, decide_eq_true_eq, decide_eq_false_iff_not, ge_iff_le, gt_iff_lt] at h)))
          all_goals (
            have hro : 0 ≤ roots ∧ roots ≤ i := HR
            refine hn _ ⟨i + 1, roots, hlt, ⟨by omega, by omega⟩, ?_, ?_, ?_, ?_, ?_, ?_, ?_, HO⟩ ?_
            · simp only [*, put_slot, ↓reduceIte]
            · simp only [*, put_slot, dem_slot, setBox_slot, ↓reduceIte, Nat.reduceEqDiff]
            · simp only [*, put_slot, dem_slot, setBox_slot, ↓reduceIte, reduceCtorEq]
            · simp only [*, put_slot, dem_slot, setBox_slot, ↓reduceIte, Nat.reduceEqDiff]
            · simp only [*, put_slot, dem_slot, setBox_slot, ↓reduceIte, Nat.reduceEqDiff]
            · simp only [*, put_slot, dem_slot, setBox_slot, ↓reduceIte, Nat.reduceEqDiff]
            · simp only [*, put_room, dem_room, setBox_room, ↓reduceIte, Nat.reduceEqDiff]
            · simp only [slotI, *, put_slot, ↓reduceIte, Int.toNat_natCast]
              omega)
    · have g9 : ¬ (i : Int) < ns.length := by omega
      have hie : i = ns.length := by omega
      rw [chkG_end roots hie.symm] at hO'
      by_cases c1 : roots = 1
      · rw [if_pos c1] at hO'
        have hO2 : R = .con .nilIface := hO'
        subst hO2 c1
        have b1 : ((1 : Int) != 1) = false := rfl
        clear hn hr hl hR hie hO'
        repeat' (first
    | simp only [*, guardG, opG, inB, sval, stake, eats, eaters, get, ↓reduceIte, Nat.reduceLT, List.filterMap_cons, List.filterMap_nil, Option.map_some, List.contains_cons, List.contains_nil, dbin, dIntBin, List.append_nil, AVB]
    | (refine drW_intro (by kernel_rfl) ?_)
    | (refine gw_intro (fun h => ?_) (fun h => ?_) <;> (try simp only [beq_true, beq_false, Bool.not_eq_eq_eq_not, Bool.not_true, Bool.not_false, Bool.not_not, decide_eq_true_eq, decide_eq_false_iff_not, ge_iff_le, gt_iff_lt] at h)))
        refine hx _ _ ?_
        repeat' (first
    | simp only [*, guardG, opG, inB, sval, stake, eats, eaters, get, cval, cval1, croom, St.taken, endQ, endR, endV, rvars, rvar, room1, ↓reduceIte, Nat.reduceEqDiff, Nat.reduceLT, List.filterMap_cons, List.filterMap_nil, Option.map_some, List.contains_cons, List.contains_nil, List.map_nil, beq_self_eq_true, beq_iff_eq, dbin, dIntBin, pureB, leaf, leafN, List.append_nil, List.take_nil, vroom, notAgg, Option.some.injEq, AVB]
    | (refine drW_intro (by kernel_rfl) ?_)
    | (refine gw_intro (fun h => ?_) (fun h => ?_) <;> (try simp only [beq_true, beq_false, Bool.not_eq_eq_eq_not, Bool.not_true, Bool.not_false, Bool.not_not, decide_eq_true_eq, decide_eq_false_iff_not, ge_iff_le, gt_iff_lt] at h)))
      · rw [if_neg c1] at hO'
        have hO2 : R = faultD 15 i := hO'
        have b1 : (roots != 1) = true := by simpa using c1
        subst hie
        have hf := fail_L (chk := chk) 15 ns.length
        unfold faultD at hO2 hf
        subst hO2
        clear hn hr hl hR c1 hO'
        repeat' (first
    | simp only [*, guardG, opG, inB, sval, stake, eats, eaters, get, ↓reduceIte, Nat.reduceLT, List.filterMap_cons, List.filterMap_nil, Option.map_some, List.contains_cons, List.contains_nil, dbin, dIntBin, List.append_nil, AVB]
    | (refine drW_intro (by kernel_rfl) ?_)
    | (refine gw_intro (fun h => ?_) (fun h => ?_) <;> (try simp only [beq_true, beq_false, Bool.not_eq_eq_eq_not, Bool.not_true, Bool.not_false, Bool.not_not, decide_eq_true_eq, decide_eq_false_iff_not, ge_iff_le, gt_iff_lt] at h)))
        refine hx _ _ ?_
        repeat' (first
    | simp only [*, guardG, opG, inB, sval, stake, eats, eaters, get, cval, cval1, St.taken, endQ, endR, endV, rvars, rvar, room1, ↓reduceIte, Nat.reduceEqDiff, Nat.reduceLT, reduceCtorEq, List.filterMap_cons, List.filterMap_nil, Option.bind_some, Option.map_some, Option.bind_none, List.contains_cons, List.contains_nil, List.map_cons, List.map_nil, beq_self_eq_true, beq_iff_eq, Nat.reduceBEq, dbin, dIntBin, okR, callG, pureB, leaf, leafN, List.all_cons, List.all_nil, List.nil_append, List.append_nil, List.take_nil, ptrArgs, callArgs, Option.isSome_none, notAgg, Option.some.injEq, AVB]
    | (refine drW_intro (by kernel_rfl) ?_)
    | (refine gw_intro (fun h => ?_) (fun h => ?_) <;> (try simp only [beq_true, beq_false, Bool.not_eq_eq_eq_not, Bool.not_true, Bool.not_false, Bool.not_not, decide_eq_true_eq, decide_eq_false_iff_not, ge_iff_le, gt_iff_lt] at h)))
end Go.Av
set_option maxRecDepth 10000
namespace Go.Av
variable [Ek]
open Go.Proofs
theorem en34 (t : TypeId) (d : D) : dbin Tryd.prog true .neq 34 (.iface t d) (.con .nilIface) = some (.bool true) := by kernel_rfl
theorem en34n : dbin Tryd.prog true .neq 34 (.con .nilIface) (.con .nilIface) = some (.bool false) := by kernel_rfl
theorem ee34n : dbin Tryd.prog true .eql 34 (.con .nilIface) (.con .nilIface) = some (.bool true) := by kernel_rfl
theorem shA34 : shapeOk Tryd.prog 34 (.con .nilIface) (.con .nilIface) = true := by kernel_rfl
theorem shB34 (t : TypeId) (d : D) : shapeOk Tryd.prog 34 (.iface t d) (.con .nilIface) = true := by kernel_rfl
theorem ap22 (es fs : List D) (r : List Room) : dappend Tryd.prog #[24, 24] (.list es) (.list fs) r = if lenOk (es.length + fs.length) 112 = true ∧ szOk 7 fs = true ∧ szOk 7 es = true ∧ (r = [.full] ∨ r = [.own 28] ∨ r = [.fresh]) then some (.list (es ++ fs), 28) else none := by
  have : (Tryd.prog.info? 28).map (fun i => (infoOk i, i.size, i.bytes)) = some (true, 7, 112) := by kernel_rfl
  obtain ⟨i, hi, h⟩ := Option.map_eq_some_iff.1 this
  injection h with h1 h2
  injection h2 with h2 h3
  simp only [dappend, ty22.1, hi, h1, h2, h3, if_true, true_and]
theorem ap39 (es fs : List D) (r : List Room) : dappend Tryd.prog #[37, 37] (.list es) (.list fs) r = if lenOk (es.length + fs.length) 8 = true ∧ szOk 1 fs = true ∧ szOk 1 es = true ∧ (r = [.full] ∨ r = [.own 3] ∨ r = [.fresh]) then some (.list (es ++ fs), 3) else none := by
  have : (Tryd.prog.info? 3).map (fun i => (infoOk i, i.size, i.bytes)) = some (true, 1, 8) := by kernel_rfl
  obtain ⟨i, hi, h⟩ := Option.map_eq_some_iff.1 this
  injection h with h1 h2
  injection h2 with h2 h3
  simp only [dappend, ty39.1, hi, h1, h2, h3, if_true, true_and]
theorem bs22e : dbuildSlice Tryd.prog 24 0 [] = some (.list []) := by kernel_rfl
theorem bs39e : dbuildSlice Tryd.prog 37 0 [] = some (.list []) := by kernel_rfl
theorem bs39 (z : Int) : dbuildSlice Tryd.prog 37 1 [(0, .int .i64 z)] = some (.list [.int .i64 z]) := by kernel_rfl
theorem bs22 (p k : Int) (sp nm : List UInt8) (la ls : List D) (tx : List UInt8) : dbuildSlice Tryd.prog 24 1 [(0, .agg [.int .i64 p, .int .i64 k, .str sp, .str nm, .list la, .list ls, .str tx])] = some (.list [.agg [.int .i64 p, .int .i64 k, .str sp, .str nm, .list la, .list ls, .str tx]]) := by kernel_rfl
theorem bd26 : dbuild Tryd.prog 28 [] = some (.agg [.int .i64 0, .int .i64 0, .str [], .str [], .list [], .list [], .str []]) := by kernel_rfl
theorem bt39 : bytesT Tryd.prog 37 = false := by kernel_rfl
theorem bt22 : bytesT Tryd.prog 24 = false := by kernel_rfl
theorem bt23 : bytesT Tryd.prog 25 = false := by kernel_rfl
theorem bt24 : bytesT Tryd.prog 26 = false := by kernel_rfl
end Go.Av
set_option maxRecDepth 100000
namespace Go.Av
open Go.Proofs
variable [Ek] {chk : List D → Bool}
def kAt (ns : List Nd) (i : Nat) : Int := match ns[i]? with | some n => n.k | none => 0
def pAt (ns : List Nd) (i : Nat) : Int := match ns[i]? with | some n => n.p | none => 0
def rowL (ns : List Nd) (key : Int) : Nat → List Int
  | 0 => []
  | k + 1 => if kAt ns k = 1 ∧ pAt ns k = key then rowL ns key k ++ [(k : Int)] else rowL ns key k
theorem rowL_pre {ns : List Nd} {key : Int} {k : Nat} : ∀ {m : Nat}, k ≤ m → (rowL ns key m).take (rowL ns key k).length = rowL ns key k ∧ (rowL ns key k).length ≤ (rowL ns key m).length
  | 0, h => by
    obtain rfl : k = 0 := by omega
    exact ⟨rfl, Nat.le_refl _⟩
  | m + 1, h => by
    by_cases e : k = m + 1
    · subst e
      exact ⟨List.take_length, Nat.le_refl _⟩
    · obtain ⟨h1, h2⟩ := rowL_pre (key := key) (ns := ns) (show k ≤ m by omega)
      rw [rowL]
      split
      · rw [List.take_append_of_le_length h2, h1]
        exact ⟨rfl, by simp; omega⟩
      · exact ⟨h1, h2⟩
theorem rowL_len {ns : List Nd} {key : Int} : ∀ {m : Nat}, (rowL ns key m).length ≤ m
  | 0 => Nat.le_refl _
  | m + 1 => by
    have := rowL_len (ns := ns) (key := key) (m := m)
    rw [rowL]
    split
    · simp; omega
    · omega
theorem rowL_succ {ns : List Nd} {i : Nat} (hk : kAt ns i = 1) : rowL ns (pAt ns i) (i + 1) = rowL ns (pAt ns i) i ++ [(i : Int)] := by
  rw [rowL, if_pos ⟨hk, rfl⟩]
theorem elB_at {ns : List Nd} {n : Int} (h : (decide (0 ≤ n) && (decide (n < ns.length) && kAt ns n.toNat == 1)) = true) : ∃ i : Nat, n = (i : Int) ∧ i < ns.length ∧ kAt ns i = 1 := by
  simp only [Bool.and_eq_true, decide_eq_true_eq, beq_iff_eq] at h
  exact ⟨n.toNat, by omega, by omega, h.2.2⟩
def elB (ns : List Nd) (n : Int) : Bool := decide (0 ≤ n) && (decide (n < ns.length) && kAt ns n.toNat == 1)
def rowI (ns : List Nd) (n : Int) : List Int := if elB ns n = true then rowL ns (pAt ns n.toNat) (n.toNat + 1) else []
theorem relem_L (ns : List Nd) (n : Int) : callL Tryd.prog (ext11b chk) 31 [.list (ns.map Nd.d), .int .i64 n] [] = some (.bool (elB ns n), [.no], []) := by
  have lN := lenM ns Nd.d
  unfold elB
  by_cases h0 : 0 ≤ n
  · by_cases h1 : n < ns.length
    · obtain ⟨x, hx⟩ := some_at (show n.toNat < ns.length by omega)
      have ha := getD_map (f := Nd.d) hx
      rw [ndat] at ha
      have hk : kAt ns n.toNat = x.k := by unfold kAt; rw [hx]
      rw [decide_eq_true h0, decide_eq_true h1, hk, Bool.true_and, Bool.true_and]
      generalize x.at_.map At.d = LA at *
      generalize x.st.map D.str = LS at *
      generalize x.p = p at *
      generalize x.k = k at *
      generalize x.sp = sp at *
      generalize x.nm = nm at *
      generalize x.tx = tx at *
      clear hx hk
      refine callK (m := 21) (res := [4]) (rs := [.tmp 4]) rfl Tryd.func31 rfl rfl rfl rfl rfl ?_
      repeat' (first
    | simp only [*, guardG, opG, inB, sval, stake, eats, eaters, get, cval, cval1, croom, St.taken, endQ, endR, endV, rvars, rvar, room1, ↓reduceIte, Nat.reduceEqDiff, Nat.reduceLT, reduceCtorEq, List.filterMap_cons, List.filterMap_nil, Option.bind_some, Option.map_some, Option.bind_none, List.getElem?_cons_zero, List.getElem?_cons_succ, List.getD_cons_zero, List.getD_cons_succ, List.contains_cons, List.contains_nil, List.map_nil, beq_self_eq_true, Nat.reduceBEq, dbin, dIntBin, okR, callG, pureB, leaf, leafN, List.append_nil, List.take_nil, List.length_nil, List.length_cons, List.getElem?_nil, dcells, Nat.reduceAdd, ge_iff_le, dStrBin, takes, ptrArgs, callArgs, vroom, Option.isSome_none, stepTake, stepPtr, notAgg, ite_self, dNilEq, isLit, AVB]
    | (refine drW_intro (by kernel_rfl) ?_)
    | (refine gw_intro (fun h => ?_) (fun h => ?_) <;> (try simp only [beq_true, beq_false, Bool.not_eq_eq_eq_not, Bool.not_true, Bool.not_false, Bool.not_not, decide_eq_true_eq, decide_eq_false_iff_not, ge_iff_le, gt_iff_lt] at h)))
    · rw [decide_eq_true h0, decide_eq_false h1, Bool.true_and, Bool.false_and]
      refine callK (m := 21) (res := [4]) (rs := [.tmp 4]) rfl Tryd.func31 rfl rfl rfl rfl rfl ?_
      repeat' (first
    | simp only [*, guardG, opG, inB, sval, stake, eats, eaters, get, cval, cval1, croom, St.taken, endQ, endR, endV, rvars, rvar, room1, ↓reduceIte, Nat.reduceEqDiff, Nat.reduceLT, reduceCtorEq, List.filterMap_cons, List.filterMap_nil, Option.bind_some, Option.map_some, Option.bind_none, List.getElem?_cons_zero, List.getElem?_cons_succ, List.getD_cons_zero, List.getD_cons_succ, List.contains_cons, List.contains_nil, List.map_nil, beq_self_eq_true, Nat.reduceBEq, dbin, dIntBin, okR, callG, pureB, leaf, leafN, List.append_nil, List.take_nil, List.length_nil, List.getElem?_nil, dcells, ge_iff_le, dStrBin, takes, ptrArgs, callArgs, vroom, Option.isSome_none, stepTake, stepPtr, notAgg, ite_self, dNilEq, isLit, AVB]
    | (refine drW_intro (by kernel_rfl) ?_)
    | (refine gw_intro (fun h => ?_) (fun h => ?_) <;> (try simp only [beq_true, beq_false, Bool.not_eq_eq_eq_not, Bool.not_true, Bool.not_false, Bool.not_not, decide_eq_true_eq, decide_eq_false_iff_not, ge_iff_le, gt_iff_lt] at h)))
  · rw [decide_eq_false h0, Bool.false_and]
    refine callK (m := 21) (res := [4]) (rs := [.tmp 4]) rfl Tryd.func31 rfl rfl rfl rfl rfl ?_
    repeat' (first
    | simp only [*, guardG, opG, inB, sval, stake, eats, eaters, get, cval, cval1, croom, St.taken, endQ, endR, endV, rvars, rvar, room1, ↓reduceIte, Nat.reduceEqDiff, Nat.reduceLT, List.filterMap_cons, List.filterMap_nil, Option.bind_some, Option.map_some, Option.bind_none, List.getElem?_cons_zero, List.getElem?_cons_succ, List.getD_cons_zero, List.getD_cons_succ, List.contains_cons, List.contains_nil, List.map_nil, beq_self_eq_true, Nat.reduceBEq, dbin, dIntBin, okR, callG, pureB, leaf, leafN, List.append_nil, List.take_nil, List.length_nil, List.getElem?_nil, dcells, ge_iff_le, dStrBin, takes, ptrArgs, callArgs, vroom, Option.isSome_none, stepTake, stepPtr, notAgg, ite_self, dNilEq, isLit, AVB]
    | (refine drW_intro (by kernel_rfl) ?_)
    | (refine gw_intro (fun h => ?_) (fun h => ?_) <;> (try simp only [beq_true, beq_false, Bool.not_eq_eq_eq_not, Bool.not_true, Bool.not_false, Bool.not_not, decide_eq_true_eq, decide_eq_false_iff_not, ge_iff_le, gt_iff_lt] at h)))
theorem sz1 (l : List Int) : szOk 1 (l.map (D.int .i64)) = true := by cases l <;> rfl
set_option maxHeartbeats 4000000 in
theorem usame_L (xs ys : List Int) (hl : xs.length ≤ 1000000) (hl2 : ys.length ≤ 1000000) : callL Tryd.prog (ext11b chk) 10 [.list (xs.map (.int .i64)), .list (ys.map (.int .i64))] [] = some (.bool (decide (xs = ys)), [.no], []) := by
  have lN := lenM xs (D.int .i64)
  have lM := lenM ys (D.int .i64)
  refine callK (m := 26) (res := [4]) (rs := [.tmp 4]) rfl Tryd.func10 rfl rfl rfl rfl rfl ?_
  by_cases hne : xs.length = ys.length
  · have hb : (((xs.length : Int) != ys.length)) = false := by simp [hne]
    have HL := Hd.mk hl
    have HE := Hd.mk hne
    clear hl hl2 hne
    obtain ⟨R, hR⟩ : ∃ R, Hd (R = decide (xs = ys)) := ⟨_, rfl⟩
    rw [← (show R = decide (xs = ys) from hR)]
    repeat' (first
    | simp only [*, guardG, opG, inB, sval, stake, eats, eaters, get, cval, cval1, croom, St.taken, ↓reduceIte, Nat.reduceEqDiff, Nat.reduceLT, reduceCtorEq, List.filterMap_cons, List.filterMap_nil, Option.map_some, Option.bind_none, List.getD_cons_zero, List.getD_cons_succ, List.contains_cons, List.contains_nil, Nat.reduceBEq, dbin, dIntBin, List.append_nil, List.length_nil, ptrArgs, callArgs, vroom, Option.isSome_none, AVB]
    | (refine drW_intro (by kernel_rfl) ?_)
    | (refine gw_intro (fun h => ?_) (fun h => ?_) <;> (try simp only [beq_true, beq_false, Bool.not_eq_eq_eq_not, Bool.not_true, Bool.not_false, Bool.not_not, decide_eq_true_eq, decide_eq_false_iff_not, ge_iff_le, gt_iff_lt] at h)))
    refine loopH (fun st => ∃ i : Nat, i ≤ xs.length ∧ st.slot 5 = .int .i64 i ∧ st.slot 0 = .list (xs.map (.int .i64)) ∧ st.slot 1 = .list (ys.map (.int .i64)) ∧ st.slot 4 = .bool false ∧ st.room 4 = [] ∧ Hd (R = decide (xs.drop i = ys.drop i))) (fun st => xs.length - slotI st 5) ?_ ?_
    · refine ⟨0, Nat.zero_le _, ?_, ?_, ?_, ?_, ?_, hR⟩
      all_goals simp only [*, put_slot, put_room, entry_slot, ↓reduceIte, Nat.reduceEqDiff, reduceCtorEq, List.getD_cons_zero, List.getD_cons_succ]
      all_goals rfl
    · rintro st K ⟨i, hi, g0, g1, g2, g3, g4, hO⟩ hn hx hr
      have hl : xs.length ≤ 1000000 := HL
      have hO' : R = decide (xs.drop i = ys.drop i) := hO
      by_cases h : i < xs.length
      · have g9 : (i : Int) < xs.length := by omega
        have hw := wrapS i (by omega)
        obtain ⟨x, hx1⟩ := some_at h
        have ha := getD_map (f := (D.int .i64)) hx1
        have hne : xs.length = ys.length := HE
        obtain ⟨y, hy1⟩ := some_at (show i < ys.length by omega)
        rw [drop_eq hx1 hy1] at hO'
        have hb1 := getD_map (f := D.int .i64) hy1
        have g9' : (i : Int) < ys.length := by omega
        cases he : decide (x = y) with
        | false =>
          rw [he, Bool.false_and] at hO'
          subst hO'
          have hxy : (x != y) = true := by simpa using he
          clear hO hn hx hl hne hx1 hy1 hR he
          repeat' (first
    | simp only [*, guardG, opG, opD, inB, sval, stake, eats, eaters, get, cval, cval1, croom, St.taken, ↓reduceIte, Nat.reduceEqDiff, Nat.reduceLT, reduceCtorEq, List.filterMap_cons, List.filterMap_nil, Option.map_some, Option.bind_none, List.getElem?_cons_zero, List.contains_cons, List.contains_nil, Nat.reduceBEq, dbin, dIntBin, loadsOwn, List.nil_append, List.append_nil, List.length_nil, List.length_cons, dcells, isBar, takes, ptrArgs, callArgs, vroom, Option.isSome_none, AVB]
    | (refine drW_intro (by kernel_rfl) ?_)
    | (refine gw_intro (fun h => ?_) (fun h => ?_) <;> (try simp only [beq_true, beq_false, Bool.not_eq_eq_eq_not, Bool.not_true, Bool.not_false, Bool.not_not, decide_eq_true_eq, decide_eq_false_iff_not, ge_iff_le, gt_iff_lt] at h)))
          refine hr _ ?_
          repeat' (first
    | simp only [*, put_slot, put_room, put_box, endQ, endR, endV, rvars, rvar, room1, ↓reduceIte, List.map_nil, pureB, leaf, leafN, List.take_nil, List.range_zero, and_self, notAgg]
    | (refine drW_intro (by kernel_rfl) ?_)
    | (refine gw_intro (fun h => ?_) (fun h => ?_) <;> (try simp only [beq_true, beq_false, Bool.not_eq_eq_eq_not, Bool.not_true, Bool.not_false, Bool.not_not, decide_eq_true_eq, decide_eq_false_iff_not, ge_iff_le, gt_iff_lt] at h)))
        | true =>
          rw [he, Bool.true_and] at hO'
          have hxy : (x != y) = false := by simpa using he
          have HO := Hd.mk hO'
          clear hO hO' hx hr hl hne hx1 hy1 he
          repeat' (first
    | simp only [*, guardG, opG, opD, inB, sval, stake, eats, eaters, get, cval, cval1, St.taken, ↓reduceIte, Nat.reduceEqDiff, Nat.reduceLT, reduceCtorEq, List.filterMap_cons, List.filterMap_nil, Option.map_some, Option.bind_none, List.getElem?_cons_zero, List.contains_cons, List.contains_nil, beq_self_eq_true, Nat.reduceBEq, dbin, dIntBin, loadsOwn, List.nil_append, List.append_nil, List.length_nil, List.length_cons, dcells, isBar, takes, ptrArgs, callArgs, Option.isSome_none, AVB]
    | (refine drW_intro (by kernel_rfl) ?_)
    | (refine gw_intro (fun h => ?_) (fun h => ?_) <;> (try simp only [beq_true, beq_false, Bool.not_eq_eq_eq_not, Bool.not_true, Bool.not_false, Bool.not_not, decide_eq_true_eq, decide_eq_false_iff_not, ge_iff_le, gt_iff_lt] at h)))
          refine hn _ ⟨i + 1, h, ?_, ?_, ?_, ?_, ?_, HO⟩ ?_
          · simp only [*, put_slot, ↓reduceIte]
          · simp only [*, put_slot, dem_slot, ↓reduceIte, reduceCtorEq]
          · simp only [*, put_slot, dem_slot, ↓reduceIte, Nat.reduceEqDiff]
          · simp only [*, put_slot, dem_slot, ↓reduceIte, Nat.reduceEqDiff]
          · simp only [*, put_room, dem_room, ↓reduceIte, Nat.reduceEqDiff]
          · simp only [slotI, *, put_slot, ↓reduceIte, Int.toNat_natCast]
            omega
      · have g9 : ¬ (i : Int) < xs.length := by omega
        have hne : xs.length = ys.length := HE
        rw [drop_end hne (by omega)] at hO'
        subst hO'
        clear hO hn hr hl hR hne
        repeat' (first
    | simp only [*, guardG, opG, inB, sval, stake, eats, eaters, get, St.taken, ↓reduceIte, Nat.reduceEqDiff, Nat.reduceLT, reduceCtorEq, List.filterMap_cons, List.filterMap_nil, Option.map_some, Option.bind_none, List.contains_cons, List.contains_nil, Nat.reduceBEq, dbin, dIntBin, List.append_nil, ptrArgs, callArgs, Option.isSome_none, AVB]
    | (refine drW_intro (by kernel_rfl) ?_)
    | (refine gw_intro (fun h => ?_) (fun h => ?_) <;> (try simp only [beq_true, beq_false, Bool.not_eq_eq_eq_not, Bool.not_true, Bool.not_false, Bool.not_not, decide_eq_true_eq, decide_eq_false_iff_not, ge_iff_le, gt_iff_lt] at h)))
        refine hx _ _ ?_
        repeat' (first
    | simp only [*, guardG, opG, inB, sval, stake, eats, eaters, get, cval, cval1, croom, endQ, endR, endV, rvars, rvar, room1, ↓reduceIte, Nat.reduceLT, List.filterMap_cons, List.filterMap_nil, List.contains_cons, List.contains_nil, List.map_nil, pureB, leaf, leafN, List.append_nil, List.take_nil, vroom, notAgg, AVB]
    | (refine drW_intro (by kernel_rfl) ?_)
    | (refine gw_intro (fun h => ?_) (fun h => ?_) <;> (try simp only [beq_true, beq_false, Bool.not_eq_eq_eq_not, Bool.not_true, Bool.not_false, Bool.not_not, decide_eq_true_eq, decide_eq_false_iff_not, ge_iff_le, gt_iff_lt] at h)))
  · have hb : (((xs.length : Int) != ys.length)) = true := by simp; omega
    rw [len_ne hne]
    clear hl hl2 hne
    repeat' (first
    | simp only [*, guardG, opG, inB, sval, stake, eats, eaters, get, cval, cval1, croom, St.taken, endQ, endR, endV, rvars, rvar, room1, ↓reduceIte, Nat.reduceEqDiff, Nat.reduceLT, reduceCtorEq, List.filterMap_cons, List.filterMap_nil, Option.map_some, Option.bind_none, List.getD_cons_zero, List.getD_cons_succ, List.contains_cons, List.contains_nil, List.map_nil, Nat.reduceBEq, dbin, dIntBin, pureB, leaf, leafN, List.append_nil, List.take_nil, List.length_nil, List.getElem?_nil, ptrArgs, callArgs, vroom, Option.isSome_none, notAgg, ite_self, AVB]
    | (refine drW_intro (by kernel_rfl) ?_)
    | (refine gw_intro (fun h => ?_) (fun h => ?_) <;> (try simp only [beq_true, beq_false, Bool.not_eq_eq_eq_not, Bool.not_true, Bool.not_false, Bool.not_not, decide_eq_true_eq, decide_eq_false_iff_not, ge_iff_le, gt_iff_lt] at h)))
def roomOf (l : List Int) : Room := if l = [] then .full else .own 3
theorem room_ok (l : List Int) : roomOf l = .full ∨ roomOf l = .own 3 ∨ roomOf l = .fresh := by
  unfold roomOf
  split
  · exact .inl rfl
  · exact .inr (.inl rfl)
theorem room_app (l : List Int) (z : Int) : roomOf (l ++ [z]) = .own 3 := by simp [roomOf]
theorem sz1b (l : List Int) : szOk 1 (l.map (D.int .i64)) = true := by cases l <;> rfl
set_option maxHeartbeats 8000000 in
theorem rrow_L (ns : List Nd) (n : Int) (hS : ns.length ≤ 10000) : callL Tryd.prog (ext11b chk) 11 [.list (ns.map Nd.d), .int .i64 n] [] = some (.list ((rowI ns n).map (.int .i64)), [roomOf (rowI ns n)], []) := by
  have hE := relem_L (chk := chk) ns n
  have lN := lenM ns Nd.d
  unfold rowI
  cases he : elB ns n with
  | false =>
    rw [he] at hE
    rw [if_neg (by simp)]
    have hr0 : roomOf [] = .full := rfl
    clear he hS
    refine callK (m := 42) (res := [4]) (rs := [.tmp 4]) rfl Tryd.func11 rfl rfl rfl rfl rfl ?_
    repeat' (first
    | simp only [*, guardG, opG, inB, sval, stake, eats, eaters, get, cval, cval1, croom, St.taken, ↓reduceIte, Nat.reduceLT, List.filterMap_cons, List.filterMap_nil, Option.map_some, List.contains_cons, List.contains_nil, List.map_nil, Nat.reduceBEq, List.append_nil, List.length_nil, vroom, bs39e, bt39, AVB]
    | (refine drW_intro (by kernel_rfl) ?_)
    | (refine gw_intro (fun h => ?_) (fun h => ?_) <;> (try simp only [beq_true, beq_false, Bool.not_eq_eq_eq_not, Bool.not_true, Bool.not_false, Bool.not_not, decide_eq_true_eq, decide_eq_false_iff_not, ge_iff_le, gt_iff_lt] at h)))
    refine loopH (fun st => st.slot 0 = .list (ns.map Nd.d) ∧ st.slot 1 = .int .i64 n ∧ st.slot 6 = .int .i64 0 ∧ st.slot 5 = .list [] ∧ st.room 5 = [.full]) (fun st => 0) ?_ ?_
    · refine ⟨?_, ?_, ?_, ?_, ?_⟩
      all_goals simp only [*, put_slot, put_room, dem_slot, entry_slot, ↓reduceIte, Nat.reduceEqDiff, reduceCtorEq, List.getD_cons_zero, List.getD_cons_succ]
      all_goals rfl
    · rintro st K ⟨g0, g1, g6, g5, r5⟩ hn hx hr
      clear hn hr
      repeat' (first
    | simp only [*, guardG, opG, inB, sval, stake, eats, eaters, get, cval, cval1, croom, St.taken, ↓reduceIte, Nat.reduceEqDiff, Nat.reduceLT, List.filterMap_cons, List.filterMap_nil, Option.bind_some, List.getElem?_cons_zero, List.getElem?_cons_succ, List.contains_cons, List.contains_nil, List.map_cons, List.map_nil, Nat.reduceBEq, dbin, dIntBin, okR, callG, pureB, leaf, leafN, List.all_cons, List.all_nil, List.nil_append, List.append_nil, dStrBin, ptrArgs, callArgs, vroom, Option.isSome_none, dNilEq, isLit, AVB]
    | (refine drW_intro (by kernel_rfl) ?_)
    | (refine gw_intro (fun h => ?_) (fun h => ?_) <;> (try simp only [beq_true, beq_false, Bool.not_eq_eq_eq_not, Bool.not_true, Bool.not_false, Bool.not_not, decide_eq_true_eq, decide_eq_false_iff_not, ge_iff_le, gt_iff_lt] at h)))
      refine hx _ _ ?_
      repeat' (first
    | simp only [*, guardG, opG, inB, sval, stake, eats, eaters, get, St.taken, endQ, endR, endV, rvars, rvar, room1, ↓reduceIte, Nat.reduceEqDiff, Nat.reduceLT, List.filterMap_cons, List.filterMap_nil, List.contains_cons, List.contains_nil, List.map_nil, beq_self_eq_true, Nat.reduceBEq, pureB, leaf, leafN, List.append_nil, List.take_nil, List.take_succ_cons, notAgg, AVB]
    | (refine drW_intro (by kernel_rfl) ?_)
    | (refine gw_intro (fun h => ?_) (fun h => ?_) <;> (try simp only [beq_true, beq_false, Bool.not_eq_eq_eq_not, Bool.not_true, Bool.not_false, Bool.not_not, decide_eq_true_eq, decide_eq_false_iff_not, ge_iff_le, gt_iff_lt] at h)))
  | true =>
    rw [he] at hE
    obtain ⟨i, rfl, hi, hk⟩ := elB_at (ns := ns) (n := n) he
    obtain ⟨x, hx⟩ := some_at hi
    have ha := getD_map (f := Nd.d) hx
    rw [ndat] at ha
    have g9 : (i : Int) < ns.length := by omega
    have tn : (i : Int).toNat = i := by omega
    have hp : pAt ns i = x.p := by unfold pAt; rw [hx]
    rw [if_pos rfl, tn, hp]
    have HI := Hd.mk hi
    have HS := Hd.mk hS
    clear hk he hx hp hi hS
    generalize x.at_.map At.d = LA at *
    generalize x.st.map D.str = LS at *
    generalize x.k = xk at *
    generalize x.sp = xsp at *
    generalize x.nm = xnm at *
    generalize x.tx = xtx at *
    generalize x.p = key at *
    refine callK (m := 42) (res := [4]) (rs := [.tmp 4]) rfl Tryd.func11 rfl rfl rfl rfl rfl ?_
    repeat' (first
    | simp only [*, guardG, opG, inB, sval, stake, eats, eaters, get, cval, cval1, croom, St.taken, ↓reduceIte, Nat.reduceLT, List.filterMap_cons, List.filterMap_nil, Option.map_some, List.contains_cons, List.contains_nil, List.map_nil, Nat.reduceBEq, List.append_nil, List.length_nil, vroom, bs39e, bt39, AVB]
    | (refine drW_intro (by kernel_rfl) ?_)
    | (refine gw_intro (fun h => ?_) (fun h => ?_) <;> (try simp only [beq_true, beq_false, Bool.not_eq_eq_eq_not, Bool.not_true, Bool.not_false, Bool.not_not, decide_eq_true_eq, decide_eq_false_iff_not, ge_iff_le, gt_iff_lt] at h)))
    refine loopH (fun st => ∃ m : Nat, m ≤ i + 1 ∧ st.slot 6 = .int .i64 m ∧ st.slot 0 = .list (ns.map Nd.d) ∧ st.slot 1 = .int .i64 i ∧ st.slot 5 = .list ((rowL ns key m).map (.int .i64)) ∧ st.room 5 = [roomOf (rowL ns key m)]) (fun st => i + 1 - slotI st 6) ?_ ?_
    · refine ⟨0, Nat.zero_le _, ?_, ?_, ?_, ?_, ?_⟩
      all_goals simp only [*, put_slot, put_room, dem_slot, entry_slot, ↓reduceIte, Nat.reduceEqDiff, reduceCtorEq, List.getD_cons_zero, List.getD_cons_succ, and_true, List.cons.injEq]
      all_goals rfl
    · rintro st K ⟨m, hm, g6, g0, g1, g5, r5⟩ hn hx hr
      have hi : i < ns.length := HI
      have hS : ns.length ≤ 10000 := HS
      by_cases h : m < i + 1
      · have gm : (m : Int) ≤ i := by omega
        have gm2 : (m : Int) < ns.length := by omega
        have hw := wrapS m (by omega)
        obtain ⟨y, hy⟩ := some_at (show m < ns.length by omega)
        have hb := getD_map (f := Nd.d) hy
        rw [ndat] at hb
        have hpk : kAt ns m = y.k ∧ pAt ns m = y.p := by unfold kAt pAt; rw [hy]; exact ⟨rfl, rfl⟩
        have hrl := rowL_len (ns := ns) (key := key) (m := m)
        have hro := room_ok (rowL ns key m)
        have hra := room_app (rowL ns key m) m
        have hsz := sz1b (rowL ns key m)
        have hs1 : szOk 1 [D.int .i64 (m : Int)] = true := rfl
        have hl1 : ((rowL ns key m).map (D.int .i64)).length + 1 ≤ 1073741824 := by rw [List.length_map]; omega
        have hl2 : ((rowL ns key m).map (D.int .i64)).length ≤ 1073741823 := by rw [List.length_map]; omega
        have hre : rowL ns key (m + 1) = if y.k = 1 ∧ y.p = key then rowL ns key m ++ [(m : Int)] else rowL ns key m := by rw [rowL, hpk.1, hpk.2]
        clear hy hpk hrl hi hS hx hr
        generalize y.at_.map At.d = YA at *
        generalize y.st.map D.str = YS at *
        generalize y.k = yk at *
        generalize y.p = yp at *
        by_cases c1 : yk = 1
        · by_cases c2 : yp = key
          · rw [if_pos ⟨c1, c2⟩] at hre
            subst c1 c2
            repeat' (first
    | simp only [*, guardG, opG, opD, inB, sval, stake, eats, eaters, get, cval, cval1, croom, St.taken, ↓reduceIte, Nat.reduceEqDiff, Nat.reduceLT, reduceCtorEq, List.filterMap_cons, List.filterMap_nil, Option.bind_some, Option.map_some, Option.bind_none, List.getElem?_cons_zero, List.getElem?_cons_succ, List.contains_cons, List.contains_nil, List.map_cons, List.map_nil, beq_self_eq_true, Nat.reduceBEq, dbin, dIntBin, okR, callG, isLocal, isAlloc, loadsOwn, pureB, leaf, leafN, List.all_cons, List.all_nil, List.nil_append, List.append_nil, List.length_nil, List.length_cons, dcells, Nat.reduceAdd, List.cons.injEq, List.getElem?_toArray, dStrBin, isBar, allocKeys, takes, ptrArgs, callArgs, vroom, Option.isSome_none, stepTake, ap39, bs39, dNilEq, isLit, bt39, lenOk_small, AVB]
    | (refine drW_intro (by kernel_rfl) ?_)
    | (refine gw_intro (fun h => ?_) (fun h => ?_) <;> (try simp only [beq_true, beq_false, Bool.not_eq_eq_eq_not, Bool.not_true, Bool.not_false, Bool.not_not, decide_eq_true_eq, decide_eq_false_iff_not, ge_iff_le, gt_iff_lt] at h)))
            refine hn _ ⟨m + 1, h, ?_, ?_, ?_, ?_, ?_⟩ ?_
            · simp only [*, put_slot, ↓reduceIte]
            · simp only [*, put_slot, dem_slot, ↓reduceIte, reduceCtorEq]
            · simp only [*, put_slot, dem_slot, ↓reduceIte, Nat.reduceEqDiff]
            · simp only [*, List.map_append, put_slot, dem_slot, ↓reduceIte, Nat.reduceEqDiff, List.map_cons, List.map_nil]
            · simp only [*, put_room, dem_room, ↓reduceIte, Nat.reduceEqDiff]
            · have hgt : m < i + 1 := h
              simp only [slotI, *, put_slot, ↓reduceIte, Int.toNat_natCast, gt_iff_lt]
              omega
          · rw [if_neg (fun h => c2 h.2)] at hre
            have b2 : (yp == key) = false := by simpa using c2
            subst c1
            clear c2 hra hs1 hl1 hl2 hsz hro
            repeat' (first
    | simp only [*, guardG, opG, opD, inB, sval, stake, eats, eaters, get, cval, cval1, croom, St.taken, ↓reduceIte, Nat.reduceEqDiff, Nat.reduceLT, reduceCtorEq, List.filterMap_cons, List.filterMap_nil, Option.bind_some, Option.map_some, List.getElem?_cons_zero, List.getElem?_cons_succ, List.contains_cons, List.contains_nil, List.map_cons, List.map_nil, beq_self_eq_true, Nat.reduceBEq, dbin, dIntBin, okR, callG, isLocal, isAlloc, loadsOwn, pureB, leaf, leafN, List.all_cons, List.all_nil, List.nil_append, List.append_nil, List.length_nil, List.length_cons, dcells, Nat.reduceAdd, dStrBin, isBar, allocKeys, takes, ptrArgs, callArgs, vroom, Option.isSome_none, stepTake, dNilEq, isLit, AVB]
    | (refine drW_intro (by kernel_rfl) ?_)
    | (refine gw_intro (fun h => ?_) (fun h => ?_) <;> (try simp only [beq_true, beq_false, Bool.not_eq_eq_eq_not, Bool.not_true, Bool.not_false, Bool.not_not, decide_eq_true_eq, decide_eq_false_iff_not, ge_iff_le, gt_iff_lt] at h)))
            refine hn _ ⟨m + 1, h, ?_, ?_, ?_, ?_, ?_⟩ ?_
            · simp only [*, put_slot, ↓reduceIte]
            · simp only [*, put_slot, dem_slot, ↓reduceIte, reduceCtorEq]
            · simp only [*, put_slot, dem_slot, ↓reduceIte, Nat.reduceEqDiff]
            · simp only [*, put_slot, dem_slot, ↓reduceIte, Nat.reduceEqDiff]
            · simp only [*, put_room, dem_room, ↓reduceIte, Nat.reduceEqDiff]
            · have hgt : m < i + 1 := h
              simp only [slotI, *, put_slot, ↓reduceIte, Int.toNat_natCast, gt_iff_lt]
              omega
        · rw [if_neg (fun h => c1 h.1)] at hre
          have b1 : (yk == 1) = false := by simpa using c1
          clear c1 hra hs1 hl1 hl2 hsz hro
          repeat' (first
    | simp only [*, guardG, opG, opD, inB, sval, stake, eats, eaters, get, cval, cval1, croom, St.taken, ↓reduceIte, Nat.reduceEqDiff, Nat.reduceLT, reduceCtorEq, List.filterMap_cons, List.filterMap_nil, Option.bind_some, Option.map_some, List.getElem?_cons_zero, List.getElem?_cons_succ, List.contains_cons, List.contains_nil, List.map_cons, List.map_nil, beq_self_eq_true, Nat.reduceBEq, dbin, dIntBin, okR, callG, isLocal, isAlloc, loadsOwn, pureB, leaf, leafN, List.all_cons, List.all_nil, List.nil_append, List.append_nil, List.length_nil, List.length_cons, dcells, Nat.reduceAdd, dStrBin, isBar, allocKeys, takes, ptrArgs, callArgs, vroom, Option.isSome_none, stepTake, dNilEq, isLit, AVB]
    | (refine drW_intro (by kernel_rfl) ?_)
    | (refine gw_intro (fun h => ?_) (fun h => ?_) <;> (try simp only [beq_true, beq_false, Bool.not_eq_eq_eq_not, Bool.not_true, Bool.not_false, Bool.not_not, decide_eq_true_eq, decide_eq_false_iff_not, ge_iff_le, gt_iff_lt] at h)))
          refine hn _ ⟨m + 1, h, ?_, ?_, ?_, ?_, ?_⟩ ?_
          · simp only [*, put_slot, ↓reduceIte]
          · simp only [*, put_slot, dem_slot, ↓reduceIte, reduceCtorEq]
          · simp only [*, put_slot, dem_slot, ↓reduceIte, Nat.reduceEqDiff]
          · simp only [*, put_slot, dem_slot, ↓reduceIte, Nat.reduceEqDiff]
          · simp only [*, put_room, dem_room, ↓reduceIte, Nat.reduceEqDiff]
          · have hgt : m < i + 1 := h
            simp only [slotI, *, put_slot, ↓reduceIte, Int.toNat_natCast, gt_iff_lt]
            omega
      · obtain rfl : m = i + 1 := by omega
        have gm : ¬ ((i + 1 : Nat) : Int) ≤ i := by omega
        clear hn hr hi hS h
        repeat' (first
    | simp only [*, guardG, opG, inB, sval, stake, eats, eaters, get, croom, St.taken, ↓reduceIte, Nat.reduceEqDiff, Nat.reduceLT, List.filterMap_cons, List.filterMap_nil, Option.bind_some, Option.map_some, List.getElem?_cons_zero, List.getElem?_cons_succ, List.contains_cons, List.contains_nil, List.map_cons, List.map_nil, beq_self_eq_true, Nat.reduceBEq, dbin, dIntBin, okR, callG, pureB, leaf, leafN, List.all_cons, List.all_nil, List.nil_append, List.append_nil, dStrBin, ptrArgs, callArgs, vroom, Option.isSome_none, dNilEq, isLit, AVB]
    | (refine drW_intro (by kernel_rfl) ?_)
    | (refine gw_intro (fun h => ?_) (fun h => ?_) <;> (try simp only [beq_true, beq_false, Bool.not_eq_eq_eq_not, Bool.not_true, Bool.not_false, Bool.not_not, decide_eq_true_eq, decide_eq_false_iff_not, ge_iff_le, gt_iff_lt] at h)))
        refine hx _ _ ?_
        repeat' (first
    | simp only [*, guardG, opG, inB, sval, stake, eats, eaters, get, St.taken, endQ, endR, endV, rvars, rvar, room1, ↓reduceIte, Nat.reduceEqDiff, Nat.reduceLT, List.filterMap_cons, List.filterMap_nil, List.contains_cons, List.contains_nil, List.map_nil, beq_self_eq_true, Nat.reduceBEq, pureB, leaf, leafN, List.append_nil, List.take_nil, List.take_succ_cons, notAgg, AVB]
    | (refine drW_intro (by kernel_rfl) ?_)
    | (refine gw_intro (fun h => ?_) (fun h => ?_) <;> (try simp only [beq_true, beq_false, Bool.not_eq_eq_eq_not, Bool.not_true, Bool.not_false, Bool.not_not, decide_eq_true_eq, decide_eq_false_iff_not, ge_iff_le, gt_iff_lt] at h)))
end Go.Av
namespace Go.Av
open Go.Proofs
variable [Ek]
structure Mv where
  dn : Bool
  nd : Nd
def Nd.at' (n : Nd) (pr : Int) : Nd := { n with p := pr }
def Mv.d (m : Mv) : D := .agg [.bool m.dn, .int .i64 m.nd.p, .int .i64 m.nd.k, .str m.nd.sp, .str m.nd.nm, .list (m.nd.at_.map At.d), .list (m.nd.st.map .str), .str m.nd.tx]
theorem mvat (m : Mv) : m.d = .agg [.bool m.dn, .int .i64 m.nd.p, .int .i64 m.nd.k, .str m.nd.sp, .str m.nd.nm, .list (m.nd.at_.map At.d), .list (m.nd.st.map .str), .str m.nd.tx] := rfl
theorem atat (n : Nd) (q : Int) : (n.at' q).d = .agg [.int .i64 q, .int .i64 n.k, .str n.sp, .str n.nm, .list (n.at_.map At.d), .list (n.st.map .str), .str n.tx] := rfl
theorem tyM : aggOf Tryd.prog 30 = some true ∧ sizeT Tryd.prog 30 = some 8 := ⟨by kernel_rfl, by kernel_rfl⟩
theorem dpM (x0 x1 x2 x3 x4 x5 x6 x7 : D) : dpart Tryd.prog 30 [x0, x1, x2, x3, x4, x5, x6, x7] 0 = some (.agg [x0, x1, x2, x3, x4, x5, x6, x7]) := by simp only [dpart, tyM.1, tyM.2]; rfl
theorem dpM1 (x0 x1 x2 x3 x4 x5 x6 x7 : D) : dpart Tryd.prog 28 [x0, x1, x2, x3, x4, x5, x6, x7] 1 = some (.agg [x1, x2, x3, x4, x5, x6, x7]) := by simp only [dpart, ty26.1, ty26.2]; rfl
theorem faM_0 (d : D) (off : Nat) : dfieldAddr Tryd.prog 30 (.fix d off) 0 = some (.fix d (off + 0)) := by kernel_rfl
theorem faM_1 (d : D) (off : Nat) : dfieldAddr Tryd.prog 30 (.fix d off) 1 = some (.fix d (off + 1)) := by kernel_rfl
theorem fpM_0 (k g off : Nat) : dfieldAddr Tryd.prog 30 (.ptr k g off) 0 = some (.ptr k g (off + 0)) := by kernel_rfl
theorem fpM_1 (k g off : Nat) : dfieldAddr Tryd.prog 30 (.ptr k g off) 1 = some (.ptr k g (off + 1)) := by kernel_rfl
theorem zrM : zeroOf Tryd.prog 30 = some [.bool false, .int .i64 0, .int .i64 0, .str [], .str [], .list [], .list [], .str []] := by kernel_rfl
theorem zrmM : zrooms Tryd.prog 30 = [.no, .no, .no, .no, .no, .full, .full, .no] := by kernel_rfl
theorem tyMs : elemT Tryd.prog 22 = some 30 ∧ Tryd.prog.underlying 22 = some (.slice 30) ∧ aggOf Tryd.prog 22 = some false := ⟨by kernel_rfl, by kernel_rfl, by kernel_rfl⟩
theorem iaM (es : List D) (ki : IntKind) (i : Int) : dindexAddr Tryd.prog 22 (.list es) (.int ki i) = if 0 ≤ i ∧ i < es.length then (if (dcells (es.getD i.toNat .bad)).length = 8 then some (.fix (es.getD i.toNat .bad) 0) else none) else none := by
  simp only [dindexAddr, tyMs.1, tyM.2]
theorem lenMs (l : List D) : dlen Tryd.prog #[22] (.list l) = some (.int .i64 l.length) := by kernel_rfl
theorem putR8 (rs : List Room) : putR rs 0 8 [] = [.no, .no, .no, .no, .no, .no, .no, .no] ++ rs.drop 8 := rfl
theorem putR1 (rs : List Room) : putR rs 0 1 [] = [.no] ++ rs.drop 1 := rfl
theorem l8 (x0 x1 x2 x3 x4 x5 x6 x7 : D) : (dcells (.agg [x0, x1, x2, x3, x4, x5, x6, x7])).length = 8 := rfl
theorem ee34 (t : TypeId) (d : D) : dbin Tryd.prog true .eql 34 (.iface t d) (.con .nilIface) = some (.bool false) := by kernel_rfl
theorem ptrIn_ifx (t : TypeId) (d : D) (o : Nat) (l : List D) : ptrIn (.iface t (.fix d o) :: l) = ptrIn l := rfl
def roomN (l : List Nd) : Room := if l = [] then .full else .own 28
theorem roomN_ok (l : List Nd) : roomN l = .full ∨ roomN l = .own 28 ∨ roomN l = .fresh := by
  unfold roomN
  split
  · exact .inl rfl
  · exact .inr (.inl rfl)
theorem roomN_app (l : List Nd) (z : Nd) : roomN (l ++ [z]) = .own 28 := by simp [roomN]
theorem roomN_nil : roomN [] = .full := rfl
end Go.Av
namespace Go.Proofs.YtfhpckkldelkcaaDoor
open Go.RowKit Go.Av Go.ChangeShapes Go.WideShapes
theorem own : ownKnob Tryd.prog.godebug = none := by kernel_rfl
theorem laidOut : laidOutB Tryd.prog = true := by kernel_rfl
def laid11 : List (String × DataW Unit) := Rows.plantRowsRow.laid
def nm (i : Nat) : String := (laid11.map (·.1)).getD i default
def accP : List (Int × Int) := [(128, 191), (160, 191), (128, 159), (144, 191), (128, 143), (0, 0), (0, 0), (0, 0), (0, 0), (0, 0), (0, 0), (0, 0), (0, 0), (0, 0), (0, 0), (0, 0)]
theorem acc_data : (Rows.laid_unicode_utf8_acceptRanges : DataW Unit) = .agg (accP.map fun z => .agg [.lit (.int .u8 z.1), .lit (.int .u8 z.2)]) := rfl
theorem first_data : Rows.laid_unicode_utf8_first = .agg ((Go.Pinned.utf8FirstZ.map fun n => ((n : Nat) : Int)).map fun z => .lit (.int .u8 z)) := by kernel_rfl
theorem accP_at (i : Nat) (h : i < 16) : (accP.getD i (0, 0)).1 = (accN.getD (i * 2) 0 : Nat) ∧ (accP.getD i (0, 0)).2 = (accN.getD (i * 2 + 1) 0 : Nat) := by
  rcases (by omega : i = 0 ∨ i = 1 ∨ i = 2 ∨ i = 3 ∨ i = 4 ∨ i = 5 ∨ i = 6 ∨ i = 7 ∨ i = 8 ∨ i = 9 ∨ i = 10 ∨ i = 11 ∨ i = 12 ∨ i = 13 ∨ i = 14 ∨ i = 15) with rfl | rfl | rfl | rfl | rfl | rfl | rfl | rfl | rfl | rfl | rfl | rfl | rfl | rfl | rfl | rfl <;> exact ⟨rfl, rfl⟩
theorem fs126 : ∃ fs, Tryd.prog.underlying 127 = some (.struct fs) ∧ fs.size = 2 ∧ Go.Deep.oneCellFields Tryd.prog fs = true ∧ ∀ (i : Nat) (f : Field), fs[i]? = some f → Tryd.prog.underlying f.type = some (.int .u8) := by
  have h : (match Tryd.prog.underlying 127 with | some (.struct fs) => fs.size == 2 && Go.Deep.oneCellFields Tryd.prog fs && fs.toList.all (fun f => f.type == 5) | _ => false) = true := by kernel_rfl
  split at h
  · rename_i fs hu
    simp only [Bool.and_eq_true, beq_iff_eq, List.all_eq_true] at h
    refine ⟨fs, hu, h.1.1, h.1.2, fun i f hf => ?_⟩
    rw [h.2 f (by rw [Array.mem_toList_iff]; exact Array.mem_of_getElem? hf)]
    exact Tryd.underlying5
  · cases h
theorem st_data : (Rows.laid_wattle_sel_states : DataW Unit) = .agg (stS.map fun z => .lit (.string z)) := rfl
section
variable {H : Type} {enc : TypeId × Value → H} {P : Program} {w : World} {base : Nat} {spare : Nat → Bool} {held : Bool}
theorem cells_strs {t e : TypeId} {n fuel : Nat} {cs : List Value} {p : List MemPlace} {zs : List (List UInt8)} (ht : P.underlying t = some (.array n e)) (he : P.underlying e = some .string) (hc : P.cellsOf e = 1)
    (h : DataW.trod enc P w base spare held fuel t cs = some (.agg (zs.map fun z => .lit (.string z)), p)) : ∀ i, i < n → cs[i]? = some (.string ⟨(zs.getD i []).toArray⟩) := by
  obtain ⟨xs, m, _, ex, _, hl, hel⟩ := DataW.trod_array ht h
  intro i hi
  have hE := hel i hi
  rw [hc, Nat.mul_one, List.getElem?_eq_getElem (by omega)] at hE
  obtain ⟨z, e1, e2, _⟩ := DataW.trod_string he hE
  have e3 : xs.map (·.1) = zs.map fun z => .lit (.string z) := (DataW.agg.inj (Prod.mk.inj ex).1).symm
  have hlen : zs.length = xs.length := by have := congrArg List.length e3; simpa using this.symm
  have e4 : (xs.map (·.1))[i]? = (zs.map fun z => (DataW.lit (.string z) : DataW H))[i]? := by rw [e3]
  rw [List.getElem?_map, List.getElem?_map, List.getElem?_eq_getElem (by omega : i < xs.length), List.getElem?_eq_getElem (by omega : i < zs.length), e2] at e4
  have hz : z.data.toList = zs.getD i [] := by
    simp only [Option.map_some, Option.some.injEq, DataW.lit.injEq, Lit.string.injEq] at e4
    rw [e4, List.getD, List.getElem?_eq_getElem (by omega : i < zs.length)]; rfl
  rw [← hz]
  have h0 : ((cs.drop i).take 1)[0]? = some (.string z) := by rw [e1]; rfl
  simpa using h0
end
theorem pw_strs {F : Nat → Nat → Prop} {w : World} (ss : List (List UInt8)) : ∀ (i : Nat) (v : Value) (x : D), (ss.map fun s => Value.string ⟨s.toArray⟩)[i]? = some v → (ss.map D.str)[i]? = some x → Den0 F w v x := by
  intro i v x hv hx
  simp only [List.getElem?_map, Option.map_eq_some_iff] at hv hx
  obtain ⟨z, hz, rfl⟩ := hv
  obtain ⟨z', hz', rfl⟩ := hx
  rw [hz] at hz'
  obtain rfl := Option.some.inj hz'
  exact .str z
theorem fix_of {W : World} {g : Nat} {ss : List (List UInt8)} (h : ∀ c, c < ss.length → W.cell? ⟨g, c, none⟩ = some (.string ⟨(ss.getD c []).toArray⟩)) : Den0 (old W) W (.pointer (some ⟨g, 0, none⟩)) (.fix (.agg (ss.map .str)) 0) := by
  refine Den0.fix (.agg (ss.map D.str)) g 0 0 (ss.map fun s => Value.string ⟨s.toArray⟩) (by simp [dcells]) (fun i v hv => ?_) (pw_strs _)
  simp only [List.getElem?_map, Option.map_eq_some_iff] at hv
  obtain ⟨z, hz, rfl⟩ := hv
  have hlt : i < ss.length := (List.getElem?_eq_some_iff.1 hz).1
  have hcell := h i hlt
  rw [List.getD, hz] at hcell
  rw [Nat.zero_add]
  exact ⟨cell_old hcell, hcell, rfl⟩
theorem pw_ints {F : Nat → Nat → Prop} {w : World} (ns : List Nat) : ∀ (i : Nat) (v : Value) (x : D), (ns.map fun n => Value.int .u8 (n : Nat))[i]? = some v → (ns.map fun n => D.int .u8 (n : Nat))[i]? = some x → Den0 F w v x := by
  intro i v x hv hx
  simp only [List.getElem?_map, Option.map_eq_some_iff] at hv hx
  obtain ⟨z, hz, rfl⟩ := hv
  obtain ⟨z', hz', rfl⟩ := hx
  rw [hz] at hz'
  obtain rfl := Option.some.inj hz'
  exact .int _ _
theorem fix_ints {W : World} {g : Nat} {ns : List Nat} (h : ∀ c, c < ns.length → W.cell? ⟨g, c, none⟩ = some (.int .u8 (ns.getD c 0 : Nat))) : Den0 (old W) W (.pointer (some ⟨g, 0, none⟩)) (.fix (.agg (ns.map fun n => .int .u8 (n : Nat))) 0) := by
  refine Den0.fix (.agg (ns.map fun n => D.int .u8 (n : Nat))) g 0 0 (ns.map fun n => Value.int .u8 (n : Nat)) (by simp [dcells]) (fun i v hv => ?_) (pw_ints _)
  simp only [List.getElem?_map, Option.map_eq_some_iff] at hv
  obtain ⟨z, hz, rfl⟩ := hv
  have hlt : i < ns.length := (List.getElem?_eq_some_iff.1 hz).1
  have hcell := h i hlt
  rw [List.getD, hz] at hcell
  rw [Nat.zero_add]
  exact ⟨cell_old hcell, hcell, rfl⟩
theorem gok11 [Ek] {W : World} (h : laidMet Tryd.prog laid11 W) (he : Ek.b = true → ErrT W) : GOK (old W) W := by
  obtain ⟨ps, ⟨g0, t0, cs0, f0, p0, q0, hg0, ht0, hv0, hd0, ⟨g1, t1, cs1, f1, p1, q1, hg1, ht1, hv1, hd1, ⟨g2, t2, cs2, f2, p2, q2, hg2, ht2, hv2, hd2, _⟩, _⟩, _⟩, _, _⟩ := h
  obtain rfl := Option.some.inj ((show Tryd.prog.globalNamed (nm 0) = some 3 by kernel_rfl).symm.trans hg0)
  obtain rfl := Option.some.inj ((show (Tryd.prog.globals[3]?).map (·.type) = some 128 by kernel_rfl).symm.trans ht0)
  obtain rfl := Option.some.inj ((show Tryd.prog.globalNamed (nm 1) = some 1 by kernel_rfl).symm.trans hg1)
  obtain rfl := Option.some.inj ((show (Tryd.prog.globals[1]?).map (·.type) = some 121 by kernel_rfl).symm.trans ht1)
  obtain rfl := Option.some.inj ((show Tryd.prog.globalNamed (nm 2) = some 2 by kernel_rfl).symm.trans hg2)
  obtain rfl := Option.some.inj ((show (Tryd.prog.globals[2]?).map (·.type) = some 125 by kernel_rfl).symm.trans ht2)
  have h1 : ∀ c, c < stS.length → W.cell? ⟨1, c, none⟩ = some (.string ⟨(stS.getD c []).toArray⟩) := by
    intro c hc
    rw [st_data] at hd1
    have := cells_strs Tryd.underlying121 Tryd.underlying9 (by kernel_rfl) hd1 c hc
    rw [World.var?_cell (show Tryd.prog.globalNamed (nm 1) = some 1 by kernel_rfl) hv1 c]
    simpa using this
  have h2 : ∀ c, c < ((List.range 256).map firstN).length → W.cell? ⟨2, c, none⟩ = some (.int .u8 (((List.range 256).map firstN).getD c 0 : Nat)) := by
    intro c hc
    have hc : c < 256 := by simpa using hc
    rw [first_data] at hd2
    have := cells_ints (k := .u8) Tryd.underlying125 Tryd.underlying5 (by kernel_rfl) hd2 c hc
    rw [World.var?_cell (show Tryd.prog.globalNamed (nm 2) = some 2 by kernel_rfl) hv2 c]
    have hz : (Go.Pinned.utf8FirstZ.map fun n => ((n : Nat) : Int)).getD c 0 = (firstN c : Nat) := by
      unfold firstN
      have hlen : Go.Pinned.utf8FirstZ.length = 256 := by kernel_rfl
      rw [List.getD, List.getD, List.getElem?_map, List.getElem?_eq_getElem (by omega : c < Go.Pinned.utf8FirstZ.length)]
      rfl
    rw [hz] at this
    have e : ((List.range 256).map firstN).getD c 0 = firstN c := by
      rw [List.getD, List.getElem?_map, List.getElem?_range hc]
      rfl
    rw [e]
    simpa using this
  have h3 : ∀ c, c < accN.length → W.cell? ⟨3, c, none⟩ = some (.int .u8 (accN.getD c 0 : Nat)) := by
    intro i hi
    have hi : i < 32 := hi
    rw [acc_data] at hd0
    obtain ⟨fs, h1, h2, h3, h4⟩ := fs126
    have := cells_pairs (u := 5) (k := .u8) Tryd.underlying128 h1 h2 h3 h4 (by kernel_rfl) hd0 (i / 2) (by omega)
    obtain ⟨e1, e2⟩ := accP_at (i / 2) (by omega)
    rw [e1, e2] at this
    rw [World.var?_cell (show Tryd.prog.globalNamed (nm 0) = some 3 by kernel_rfl) hv0 i]
    rcases (by omega : i = i / 2 * 2 ∨ i = i / 2 * 2 + 1) with e | e
    · rw [← e] at this; simpa using this.1
    · rw [← e] at this; simpa using this.2
  refine ⟨fun g => ?_, (fun x hx => by cases hx), fun x hx => ?_⟩
  case refine_2 =>
    replace hx : x ∈ (if Ek.b = true then [((0 : Nat), Value.iface 102 (.agg #[.pointer (some ⟨4, 34, none⟩)]))] else []) := hx
    by_cases hk : Ek.b = true
    · rw [if_pos hk] at hx
      obtain rfl := List.mem_singleton.1 hx
      exact ⟨(he hk).lt, he hk⟩
    · rw [if_neg hk] at hx
      cases hx
  show (if g = 1 then D.fix (.agg stD) 0 else if g = 2 then .fix (.agg firstD) 0 else if g = 3 then .fix (.agg accD) 0 else .bad) = .bad ∨ Den0 (old W) W (.pointer (some ⟨g, 0, none⟩)) (if g = 1 then D.fix (.agg stD) 0 else if g = 2 then .fix (.agg firstD) 0 else if g = 3 then .fix (.agg accD) 0 else .bad)
  by_cases c1 : g = 1
  · subst c1; exact .inr (fix_of h1)
  · by_cases c2 : g = 2
    · subst c2
      right
      have := fix_ints h2
      rw [List.map_map] at this
      exact this
    · by_cases c3 : g = 3
      · subst c3; exact .inr (fix_ints h3)
      · left; rw [if_neg c1, if_neg c2, if_neg c3]
theorem law_calls [Ek] {ext : Av.Call} (hext : CallOK Tryd.prog ext) {f : FuncId} {xs : List D} {r : List Room} {vals : List Value} {W : World} (hg : GOK (old W) W) (h : callL Tryd.prog ext f xs [] = some (.bool true, r, [])) (hl : vals.length = xs.length)
    (hd : ∀ (i : Nat) (v : Value) (x : D), vals[i]? = some v → xs[i]? = some x → Den0 (old W) W v x) : Calls Tryd.prog f vals.toArray W fun e W' => e = .returned (.bool true) ∧ Below W.heap.size W W' := by
  obtain ⟨N, hN⟩ := callL_aev h
  obtain ⟨_, hcall⟩ := aev_sound fineS hext N f _ [] _ _ _ hN
  have hcalls := hcall vals W (old W) mu0 hl (fun i v x hv hx => .pure _ _ (hd i v x hv hx)) (fun i bx hb => by simp at hb) (given0 W) (old_lt W) hg
  refine hcalls.mono ?_
  rintro e W' ⟨v, F', ncl, rfl, hE, _, _, hd, _⟩
  rcases hd with ⟨_, hd, _⟩ | ⟨hl, _⟩
  · exact ⟨by rw [(hd (fun _ => 0) fun _ _ => 0).bool_], hE.os, hE.tape, hE.output, hE.size, fun k hk => hE.block k hk (S_zero _ k)⟩
  · simp at hl
theorem reach_le : reachBytes ≤ 140737488355328 := by decide
section
variable {P : Program}
theorem str_ok {t : TypeId} (hu : P.underlying t = some .string) {d : D} (h : TyD P t d) : ∃ s, d = .str s ∧ s.length ≤ 140737488355328 := by
  cases h with
  | str _ l _ hl => exact ⟨_, rfl, Nat.le_trans hl reach_le⟩
  | bool _ b h => rw [hu] at h; cases h
  | int _ k n h _ => rw [hu] at h; cases h
  | list _ e es h _ _ => rw [hu] at h; cases h
  | agg _ fs ds h _ _ => rw [hu] at h; cases h
theorem int_ok {t : TypeId} (hu : P.underlying t = some (.int .i64)) {d : D} (h : TyD P t d) : ∃ z : Int, d = .int .i64 z ∧ -9223372036854775808 ≤ z ∧ z < 9223372036854775808 := by
  cases h with
  | int _ k n h hw =>
    rw [hu] at h
    cases h
    have : (Lit.int .i64 n).wf = true := hw
    simp [Lit.wf, IntKind.min, IntKind.max, IntKind.signed, IntKind.bits] at this
    exact ⟨n, rfl, by omega, by omega⟩
  | bool _ b h => rw [hu] at h; cases h
  | str _ l h hl => rw [hu] at h; cases h
  | list _ e es h _ _ => rw [hu] at h; cases h
  | agg _ fs ds h _ _ => rw [hu] at h; cases h
theorem bool_ok {t : TypeId} (hu : P.underlying t = some .bool) {d : D} (h : TyD P t d) : ∃ b, d = .bool b := by
  cases h with
  | bool _ b h => exact ⟨b, rfl⟩
  | int _ k n h _ => rw [hu] at h; cases h
  | str _ l h hl => rw [hu] at h; cases h
  | list _ e es h _ _ => rw [hu] at h; cases h
  | agg _ fs ds h _ _ => rw [hu] at h; cases h
theorem list_ok {α : Type} {f : α → D} {t e : TypeId} {Q : α → Prop} (hu : P.underlying t = some (.slice e)) (hf : ∀ d, TyD P e d → ∃ a, d = f a ∧ Q a) {d : D} (h : TyD P t d) : ∃ l : List α, d = .list (l.map f) ∧ l.length * P.bytesOf e ≤ 140737488355328 ∧ ∀ a ∈ l, Q a := by
  cases h with
  | list _ e' es h hl hes =>
    rw [hu] at h
    cases h
    have key : ∀ es : List D, (∀ d ∈ es, TyD P e d) → ∃ l : List α, es = l.map f ∧ ∀ a ∈ l, Q a := by
      intro es
      induction es with
      | nil => exact fun _ => ⟨[], rfl, fun a h => by cases h⟩
      | cons x r ih =>
        intro h
        obtain ⟨l, rfl, hq⟩ := ih fun d hd => h d (by simp [hd])
        obtain ⟨a, rfl, ha⟩ := hf x (h x (by simp))
        refine ⟨a :: l, rfl, fun b hb => ?_⟩
        rcases List.mem_cons.1 hb with rfl | hb
        · exact ha
        · exact hq b hb
    obtain ⟨l, rfl, hq⟩ := key es hes
    exact ⟨l, rfl, by rw [List.length_map] at hl; exact Nat.le_trans hl reach_le, hq⟩
  | bool _ b h => rw [hu] at h; cases h
  | int _ k n h _ => rw [hu] at h; cases h
  | str _ l h hl => rw [hu] at h; cases h
  | agg _ fs ds h _ _ => rw [hu] at h; cases h
theorem agg_ok {t : TypeId} {fs : Array Field} (hu : P.underlying t = some (.struct fs)) {d : D} (h : TyD P t d) : ∃ ds : List D, d = .agg (ds.flatMap dcells) ∧ ds.length = fs.size ∧ ∀ (i : Nat) (f : Field) (d : D), fs[i]? = some f → ds[i]? = some d → TyD P f.type d := by
  cases h with
  | agg _ fs' ds h hl hds =>
    rw [hu] at h
    cases h
    exact ⟨ds, rfl, hl, hds⟩
  | bool _ b h => rw [hu] at h; cases h
  | int _ k n h _ => rw [hu] at h; cases h
  | str _ l h hl => rw [hu] at h; cases h
  | list _ e es h _ _ => rw [hu] at h; cases h
def fieldTs (P : Program) (t : TypeId) : Option (List TypeId) := match P.underlying t with | some (.struct fs) => some (fs.toList.map (·.type)) | _ => none
theorem agg_ok' {t : TypeId} {ts : List TypeId} (hu : fieldTs P t = some ts) {d : D} (h : TyD P t d) : ∃ ds : List D, d = .agg (ds.flatMap dcells) ∧ ds.length = ts.length ∧ ∀ (i : Nat) (u : TypeId) (d : D), ts[i]? = some u → ds[i]? = some d → TyD P u d := by
  unfold fieldTs at hu
  split at hu
  · rename_i fs hf
    injection hu with hu
    subst hu
    obtain ⟨ds, h1, h2, h3⟩ := agg_ok hf h
    refine ⟨ds, h1, by simpa using h2, fun i u d hi hd => ?_⟩
    rw [List.getElem?_map] at hi
    obtain ⟨f, hf1, rfl⟩ := Option.map_eq_some_iff.1 hi
    exact h3 i f d (by simpa using hf1) hd
  · cases hu
end
theorem at_ok {d : D} (h : TyD Tryd.prog 54 d) : ∃ a : At, d = a.d ∧ BigA a := by
  obtain ⟨ds, rfl, hl, h⟩ := agg_ok' (ts := [9, 9, 9]) (by kernel_rfl) h
  match ds, hl with
  | [x, y, z], _ =>
    obtain ⟨a, rfl, ha⟩ := str_ok Tryd.underlying9 (h 0 _ _ rfl rfl)
    obtain ⟨b, rfl, hb⟩ := str_ok Tryd.underlying9 (h 1 _ _ rfl rfl)
    obtain ⟨c, rfl, hc⟩ := str_ok Tryd.underlying9 (h 2 _ _ rfl rfl)
    exact ⟨⟨a, b, c⟩, rfl, ha, hb, hc⟩
theorem le_of_mul {n b m : Nat} (h : n * b ≤ m) (hb : 0 < b) : n ≤ m := Nat.le_trans (Nat.le_mul_of_pos_right n hb) h
theorem nd_ok {d : D} (h : TyD Tryd.prog 28 d) : ∃ n : Nd, d = n.d ∧ BigN n := by
  obtain ⟨ds, rfl, hl, h⟩ := agg_ok' (ts := [3, 3, 9, 9, 25, 26, 9]) (by kernel_rfl) h
  match ds, hl with
  | [x0, x1, x2, x3, x4, x5, x6], _ =>
    obtain ⟨p, rfl, _⟩ := int_ok Tryd.underlying3 (h 0 _ _ rfl rfl)
    obtain ⟨k, rfl, _⟩ := int_ok Tryd.underlying3 (h 1 _ _ rfl rfl)
    obtain ⟨sp, rfl, h2⟩ := str_ok Tryd.underlying9 (h 2 _ _ rfl rfl)
    obtain ⟨nm, rfl, h3⟩ := str_ok Tryd.underlying9 (h 3 _ _ rfl rfl)
    obtain ⟨la, rfl, h4, h4'⟩ := list_ok (f := At.d) (Q := BigA) Tryd.underlying25 (fun d h => at_ok h) (h 4 _ _ rfl rfl)
    obtain ⟨ls, rfl, h5, _⟩ := list_ok (f := D.str) (Q := fun _ => True) Tryd.underlying26 (fun d h => (str_ok Tryd.underlying9 h).imp fun _ h => ⟨h.1, trivial⟩) (h 5 _ _ rfl rfl)
    obtain ⟨tx, rfl, h6⟩ := str_ok Tryd.underlying9 (h 6 _ _ rfl rfl)
    exact ⟨⟨p, k, sp, nm, la, ls, tx⟩, rfl, le_of_mul h4 (by decide +kernel), le_of_mul h5 (by decide +kernel), h3, h2, h6, h4'⟩
theorem doc_ok {d : D} (h : TyD Tryd.prog 24 d) : ∃ ns : List Nd, d = .list (ns.map Nd.d) ∧ BigD ns := by
  obtain ⟨l, h1, h2, h3⟩ := list_ok (f := Nd.d) (Q := BigN) Tryd.underlying24 (fun d h => nd_ok h) h
  exact ⟨l, h1, le_of_mul h2 (by decide +kernel), h3⟩
theorem mv_ok {d : D} (h : TyD Tryd.prog 30 d) : ∃ m : Mv, d = m.d ∧ True := by
  obtain ⟨ds, rfl, hl, h⟩ := agg_ok' (ts := [4, 28]) (by kernel_rfl) h
  match ds, hl with
  | [x0, x1], _ =>
    obtain ⟨b, rfl⟩ := bool_ok Tryd.underlying4 (h 0 _ _ rfl rfl)
    obtain ⟨n, rfl, _⟩ := nd_ok (h 1 _ _ rfl rfl)
    exact ⟨⟨b, n⟩, rfl, trivial⟩
theorem path_ok {d : D} (h : TyD Tryd.prog 22 d) : ∃ ms : List Mv, d = .list (ms.map Mv.d) ∧ ms.length * 120 ≤ 140737488355328 := by
  obtain ⟨l, h1, h2, h3⟩ := list_ok (f := Mv.d) (Q := fun _ => True) Tryd.underlying22 (fun d h => mv_ok h) h
  have hb : Tryd.prog.bytesOf 30 = 120 := by kernel_rfl
  rw [hb] at h2
  exact ⟨l, h1, h2⟩
def us17 : List TypeId := [3, 4, 9, 26, 54, 25, 28, 24, 30, 22]
theorem us17_ok : okTs Tryd.prog us17 = true := by kernel_rfl
theorem witness11 {H : Type} (enc : TypeId × Value → H) (os : Os) (args : Array Value) : laidMetH Tryd.prog laid11 ((World.laidAll Tryd.prog os laid11).forCall (fun _ _ => 0) ⟨#[], args, []⟩).memory := by
  rw [MakeChecks.laidMetH_plain _ _ _ (by kernel_rfl)]
  exact laidMet_laidAll _ (by kernel_rfl) (by kernel_rfl)
end Go.Proofs.YtfhpckkldelkcaaDoor
namespace Go.Av
open Go.Proofs
variable [Ek] {chk : List D → Bool}
set_option maxHeartbeats 4000000 in
theorem texts_L (xs ys : List (List UInt8)) (hl : xs.length ≤ 1000000) (hl2 : ys.length ≤ 1000000) : callL Tryd.prog (ext11b chk) 38 [.list (xs.map D.str), .list (ys.map D.str)] [] = some (.bool (decide (xs = ys)), [.no], []) := by
  have lN := lenM xs D.str
  have lM := lenM ys D.str
  refine callK (m := 26) (res := [4]) (rs := [.tmp 4]) rfl Tryd.func38 rfl rfl rfl rfl rfl ?_
  by_cases hne : xs.length = ys.length
  · have hb : (((xs.length : Int) != ys.length)) = false := by simp [hne]
    have HL := Hd.mk hl
    have HE := Hd.mk hne
    clear hl hl2 hne
    obtain ⟨R, hR⟩ : ∃ R, Hd (R = decide (xs = ys)) := ⟨_, rfl⟩
    rw [← (show R = decide (xs = ys) from hR)]
    repeat' (first
    | simp only [*, guardG, opG, inB, sval, stake, eats, eaters, get, cval, cval1, croom, St.taken, ↓reduceIte, Nat.reduceEqDiff, Nat.reduceLT, reduceCtorEq, List.filterMap_cons, List.filterMap_nil, Option.map_some, Option.bind_none, List.getD_cons_zero, List.getD_cons_succ, List.contains_cons, List.contains_nil, Nat.reduceBEq, dbin, dIntBin, List.append_nil, List.length_nil, ptrArgs, callArgs, vroom, Option.isSome_none, AVB]
    | (refine drW_intro (by kernel_rfl) ?_)
    | (refine gw_intro (fun h => ?_) (fun h => ?_) <;> (try simp only [beq_true, beq_false, Bool.not_eq_eq_eq_not, Bool.not_true, Bool.not_false, Bool.not_not, decide_eq_true_eq, decide_eq_false_iff_not, ge_iff_le, gt_iff_lt] at h)))
    refine loopH (fun st => ∃ i : Nat, i ≤ xs.length ∧ st.slot 5 = .int .i64 i ∧ st.slot 0 = .list (xs.map D.str) ∧ st.slot 1 = .list (ys.map D.str) ∧ st.slot 4 = .bool false ∧ st.room 4 = [] ∧ Hd (R = decide (xs.drop i = ys.drop i))) (fun st => xs.length - slotI st 5) ?_ ?_
    · refine ⟨0, Nat.zero_le _, ?_, ?_, ?_, ?_, ?_, hR⟩
      all_goals simp only [*, put_slot, put_room, entry_slot, ↓reduceIte, Nat.reduceEqDiff, reduceCtorEq, List.getD_cons_zero, List.getD_cons_succ]
      all_goals rfl
    · rintro st K ⟨i, hi, g8, g0, g1, g3, gr, hO⟩ hn hx hr
      have hl : xs.length ≤ 1000000 := HL
      have hne : xs.length = ys.length := HE
      by_cases h : i < xs.length
      · have g9 : (i : Int) < xs.length := by omega
        have g9' : (i : Int) < ys.length := by omega
        have hw := wrapS i (by omega)
        obtain ⟨x, hx1⟩ := some_at h
        obtain ⟨y, hy1⟩ := some_at (show i < ys.length by omega)
        have hO' : R = decide (xs.drop i = ys.drop i) := hO
        rw [drop_eq hx1 hy1] at hO'
        have ha := getD_map (f := D.str) hx1
        have hb1 := getD_map (f := D.str) hy1
        cases he : decide (x = y) with
        | false =>
          rw [he, Bool.false_and] at hO'
          subst hO'
          have hqs : (x == y) = decide (x = y) := by rw [Bool.eq_iff_iff]; simp
          rw [he] at hqs
          clear hO hn hx hl hne hx1 hy1 hR
          repeat' (first
    | simp only [*, guardG, opG, opD, inB, sval, stake, eats, eaters, get, cval, cval1, croom, St.taken, ↓reduceIte, Nat.reduceEqDiff, Nat.reduceLT, reduceCtorEq, List.filterMap_cons, List.filterMap_nil, Option.map_some, Option.bind_none, List.getElem?_cons_zero, List.contains_cons, List.contains_nil, Nat.reduceBEq, dbin, dIntBin, loadsOwn, List.nil_append, List.append_nil, List.length_nil, List.length_cons, dcells, dStrBin, isBar, takes, ptrArgs, callArgs, vroom, Option.isSome_none, AVB]
    | (refine drW_intro (by kernel_rfl) ?_)
    | (refine gw_intro (fun h => ?_) (fun h => ?_) <;> (try simp only [beq_true, beq_false, Bool.not_eq_eq_eq_not, Bool.not_true, Bool.not_false, Bool.not_not, decide_eq_true_eq, decide_eq_false_iff_not, ge_iff_le, gt_iff_lt] at h)))
          refine hr _ ?_
          repeat' (first
    | simp only [*, put_slot, put_room, put_box, endQ, endR, endV, rvars, rvar, room1, ↓reduceIte, List.map_nil, pureB, leaf, leafN, List.take_nil, List.range_zero, and_self, notAgg]
    | (refine drW_intro (by kernel_rfl) ?_)
    | (refine gw_intro (fun h => ?_) (fun h => ?_) <;> (try simp only [beq_true, beq_false, Bool.not_eq_eq_eq_not, Bool.not_true, Bool.not_false, Bool.not_not, decide_eq_true_eq, decide_eq_false_iff_not, ge_iff_le, gt_iff_lt] at h)))
        | true =>
          rw [he, Bool.true_and] at hO'
          have hqs : (x == y) = decide (x = y) := by rw [Bool.eq_iff_iff]; simp
          rw [he] at hqs
          have HO := Hd.mk hO'
          clear hO hO' hx hr hl hne hx1 hy1
          repeat' (first
    | simp only [*, guardG, opG, opD, inB, sval, stake, eats, eaters, get, cval, cval1, St.taken, ↓reduceIte, Nat.reduceEqDiff, Nat.reduceLT, reduceCtorEq, List.filterMap_cons, List.filterMap_nil, Option.map_some, Option.bind_none, List.getElem?_cons_zero, List.contains_cons, List.contains_nil, beq_self_eq_true, Nat.reduceBEq, dbin, dIntBin, loadsOwn, List.nil_append, List.append_nil, List.length_nil, List.length_cons, dcells, dStrBin, isBar, takes, ptrArgs, callArgs, Option.isSome_none, AVB]
    | (refine drW_intro (by kernel_rfl) ?_)
    | (refine gw_intro (fun h => ?_) (fun h => ?_) <;> (try simp only [beq_true, beq_false, Bool.not_eq_eq_eq_not, Bool.not_true, Bool.not_false, Bool.not_not, decide_eq_true_eq, decide_eq_false_iff_not, ge_iff_le, gt_iff_lt] at h)))
          refine hn _ ⟨i + 1, h, ?_, ?_, ?_, ?_, ?_, HO⟩ ?_
          · simp only [*, put_slot, ↓reduceIte]
          · simp only [*, put_slot, dem_slot, ↓reduceIte, reduceCtorEq]
          · simp only [*, put_slot, dem_slot, ↓reduceIte, Nat.reduceEqDiff]
          · simp only [*, put_slot, dem_slot, ↓reduceIte, Nat.reduceEqDiff]
          · simp only [*, put_room, dem_room, ↓reduceIte, Nat.reduceEqDiff]
          · simp only [slotI, *, put_slot, ↓reduceIte, Int.toNat_natCast]
            omega
      · have g9 : ¬ (i : Int) < xs.length := by omega
        have hO' : R = decide (xs.drop i = ys.drop i) := hO
        rw [drop_end hne (by omega)] at hO'
        subst hO'
        clear hO hn hr hl hne hR
        repeat' (first
    | simp only [*, guardG, opG, inB, sval, stake, eats, eaters, get, St.taken, ↓reduceIte, Nat.reduceEqDiff, Nat.reduceLT, reduceCtorEq, List.filterMap_cons, List.filterMap_nil, Option.map_some, Option.bind_none, List.contains_cons, List.contains_nil, Nat.reduceBEq, dbin, dIntBin, List.append_nil, ptrArgs, callArgs, Option.isSome_none, AVB]
    | (refine drW_intro (by kernel_rfl) ?_)
    | (refine gw_intro (fun h => ?_) (fun h => ?_) <;> (try simp only [beq_true, beq_false, Bool.not_eq_eq_eq_not, Bool.not_true, Bool.not_false, Bool.not_not, decide_eq_true_eq, decide_eq_false_iff_not, ge_iff_le, gt_iff_lt] at h)))
        refine hx _ _ ?_
        repeat' (first
    | simp only [*, guardG, opG, inB, sval, stake, eats, eaters, get, cval, cval1, croom, endQ, endR, endV, rvars, rvar, room1, ↓reduceIte, Nat.reduceLT, List.filterMap_cons, List.filterMap_nil, List.contains_cons, List.contains_nil, List.map_nil, pureB, leaf, leafN, List.append_nil, List.take_nil, vroom, notAgg, AVB]
    | (refine drW_intro (by kernel_rfl) ?_)
    | (refine gw_intro (fun h => ?_) (fun h => ?_) <;> (try simp only [beq_true, beq_false, Bool.not_eq_eq_eq_not, Bool.not_true, Bool.not_false, Bool.not_not, decide_eq_true_eq, decide_eq_false_iff_not, ge_iff_le, gt_iff_lt] at h)))
  · have hb : (((xs.length : Int) != ys.length)) = true := by simp; omega
    rw [len_ne hne]
    clear hl hl2 hne
    repeat' (first
    | simp only [*, guardG, opG, inB, sval, stake, eats, eaters, get, cval, cval1, croom, St.taken, endQ, endR, endV, rvars, rvar, room1, ↓reduceIte, Nat.reduceEqDiff, Nat.reduceLT, reduceCtorEq, List.filterMap_cons, List.filterMap_nil, Option.map_some, Option.bind_none, List.getD_cons_zero, List.getD_cons_succ, List.contains_cons, List.contains_nil, List.map_nil, Nat.reduceBEq, dbin, dIntBin, pureB, leaf, leafN, List.append_nil, List.take_nil, List.length_nil, List.getElem?_nil, ptrArgs, callArgs, vroom, Option.isSome_none, notAgg, ite_self, AVB]
    | (refine drW_intro (by kernel_rfl) ?_)
    | (refine gw_intro (fun h => ?_) (fun h => ?_) <;> (try simp only [beq_true, beq_false, Bool.not_eq_eq_eq_not, Bool.not_true, Bool.not_false, Bool.not_not, decide_eq_true_eq, decide_eq_false_iff_not, ge_iff_le, gt_iff_lt] at h)))
end Go.Av
namespace Go.Av
open Go.Proofs
variable [Ek] {chk : List D → Bool}
theorem nd_eq (p k : Int) (sp nm : List UInt8) (a : List At) (s : List (List UInt8)) (tx : List UInt8) (p' k' : Int) (sp' nm' : List UInt8) (a' : List At) (s' : List (List UInt8)) (tx' : List UInt8) :
    decide ((⟨p, k, sp, nm, a, s, tx⟩ : Nd) = ⟨p', k', sp', nm', a', s', tx'⟩) = ((p == p') && ((k == k') && ((sp == sp') && ((nm == nm') && ((tx == tx') && (decide (a = a') && decide (s = s'))))))) := by
  rw [Bool.eq_iff_iff]
  simp
  intro _ _ _ _
  exact ⟨fun ⟨a, b, c⟩ => ⟨c, a, b⟩, fun ⟨c, a, b⟩ => ⟨a, b, c⟩⟩
end Go.Av
namespace Go.Av
open Go.Proofs
variable [Ek] {chk : List D → Bool}
set_option maxHeartbeats 16000000 in
theorem rnode_L (x y : Nd) (hx : x.at_.length ≤ 1000000 ∧ x.st.length ≤ 1000000) (hy : y.at_.length ≤ 1000000 ∧ y.st.length ≤ 1000000) : callL Tryd.prog (ext11b chk) 21 [x.d, y.d] [] = some (.bool (decide (x = y)), [.no], []) := by
  obtain ⟨p, k, sp, nm, a, s, tx⟩ := x
  obtain ⟨p', k', sp', nm', a', s', tx'⟩ := y
  have eS := texts_L (chk := chk) s s' hx.2 hy.2
  have lN := lenM a At.d
  have lM := lenM a' At.d
  have HX := Hd.mk hx.1
  clear hx hy
  rw [nd_eq]
  simp only [Nd.d]
  generalize (s.map D.str) = S at *
  generalize (s'.map D.str) = S' at *
  cases h1 : (p == p') with
  | false =>
    have n1 : (p != p') = true := by simp only [bne, h1]; rfl
    clear eS HX
    refine callK (m := 74) (res := [4]) (rs := [.tmp 4]) rfl Tryd.func21 rfl rfl rfl rfl rfl ?_
    repeat' (first
    | simp only [*, guardG, opG, inB, sval, stake, eats, eaters, get, cval, cval1, croom, St.taken, endQ, endR, endV, rvars, rvar, room1, ↓reduceIte, Nat.reduceEqDiff, Nat.reduceLT, reduceCtorEq, List.filterMap_cons, List.filterMap_nil, Option.bind_some, Option.map_some, Option.bind_none, List.getElem?_cons_zero, List.getElem?_cons_succ, List.getD_cons_zero, List.getD_cons_succ, List.contains_cons, List.contains_nil, List.map_nil, dbin, dIntBin, okR, callG, pureB, leaf, leafN, List.all_cons, List.all_nil, List.nil_append, List.append_nil, List.take_nil, List.length_nil, List.length_cons, dun, List.getElem?_nil, dcells, Nat.reduceAdd, stepBox, dStrBin, takes, ptrArgs, callArgs, given, oroom, vroom, Option.isSome_none, stepTake, stepPtr, notAgg, ite_self, AVB]
    | (refine drW_intro (by kernel_rfl) ?_)
    | (refine gw_intro (fun h => ?_) (fun h => ?_) <;> (try simp only [beq_true, beq_false, Bool.not_eq_eq_eq_not, Bool.not_true, Bool.not_false, Bool.not_not, decide_eq_true_eq, decide_eq_false_iff_not, ge_iff_le, gt_iff_lt] at h)))
  | true =>
    have n1 : (p != p') = false := by simp only [bne, h1]; rfl
    cases h2 : (k == k') with
    | false =>
      have n2 : (k != k') = true := by simp only [bne, h2]; rfl
      clear eS HX
      refine callK (m := 74) (res := [4]) (rs := [.tmp 4]) rfl Tryd.func21 rfl rfl rfl rfl rfl ?_
      repeat' (first
    | simp only [*, guardG, opG, inB, sval, stake, eats, eaters, get, cval, cval1, croom, St.taken, endQ, endR, endV, rvars, rvar, room1, ↓reduceIte, Nat.reduceEqDiff, Nat.reduceLT, reduceCtorEq, List.filterMap_cons, List.filterMap_nil, Option.bind_some, Option.map_some, Option.bind_none, List.getElem?_cons_zero, List.getElem?_cons_succ, List.getD_cons_zero, List.getD_cons_succ, List.contains_cons, List.contains_nil, List.map_nil, beq_self_eq_true, dbin, dIntBin, okR, callG, pureB, leaf, leafN, List.all_cons, List.all_nil, List.nil_append, List.append_nil, List.take_nil, List.length_nil, List.length_cons, dun, List.getElem?_nil, dcells, Nat.reduceAdd, stepBox, dStrBin, takes, ptrArgs, callArgs, given, oroom, vroom, Option.isSome_none, stepTake, stepPtr, notAgg, ite_self, AVB]
    | (refine drW_intro (by kernel_rfl) ?_)
    | (refine gw_intro (fun h => ?_) (fun h => ?_) <;> (try simp only [beq_true, beq_false, Bool.not_eq_eq_eq_not, Bool.not_true, Bool.not_false, Bool.not_not, decide_eq_true_eq, decide_eq_false_iff_not, ge_iff_le, gt_iff_lt] at h)))
    | true =>
      have n2 : (k != k') = false := by simp only [bne, h2]; rfl
      cases h3 : (sp == sp') with
      | false =>
        clear eS HX
        refine callK (m := 74) (res := [4]) (rs := [.tmp 4]) rfl Tryd.func21 rfl rfl rfl rfl rfl ?_
        repeat' (first
    | simp only [*, guardG, opG, inB, sval, stake, eats, eaters, get, cval, cval1, croom, St.taken, endQ, endR, endV, rvars, rvar, room1, ↓reduceIte, Nat.reduceEqDiff, Nat.reduceLT, reduceCtorEq, List.filterMap_cons, List.filterMap_nil, Option.bind_some, Option.map_some, Option.bind_none, List.getElem?_cons_zero, List.getElem?_cons_succ, List.getD_cons_zero, List.getD_cons_succ, List.contains_cons, List.contains_nil, List.map_nil, beq_self_eq_true, dbin, dIntBin, okR, callG, pureB, leaf, leafN, List.all_cons, List.all_nil, List.nil_append, List.append_nil, List.take_nil, List.length_nil, List.length_cons, dun, List.getElem?_nil, dcells, Nat.reduceAdd, stepBox, dStrBin, takes, ptrArgs, callArgs, given, oroom, vroom, Option.isSome_none, stepTake, stepPtr, notAgg, ite_self, AVB]
    | (refine drW_intro (by kernel_rfl) ?_)
    | (refine gw_intro (fun h => ?_) (fun h => ?_) <;> (try simp only [beq_true, beq_false, Bool.not_eq_eq_eq_not, Bool.not_true, Bool.not_false, Bool.not_not, decide_eq_true_eq, decide_eq_false_iff_not, ge_iff_le, gt_iff_lt] at h)))
      | true =>
        cases h4 : (nm == nm') with
        | false =>
          clear eS HX
          refine callK (m := 74) (res := [4]) (rs := [.tmp 4]) rfl Tryd.func21 rfl rfl rfl rfl rfl ?_
          repeat' (first
    | simp only [*, guardG, opG, inB, sval, stake, eats, eaters, get, cval, cval1, croom, St.taken, endQ, endR, endV, rvars, rvar, room1, ↓reduceIte, Nat.reduceEqDiff, Nat.reduceLT, reduceCtorEq, List.filterMap_cons, List.filterMap_nil, Option.bind_some, Option.map_some, Option.bind_none, List.getElem?_cons_zero, List.getElem?_cons_succ, List.getD_cons_zero, List.getD_cons_succ, List.contains_cons, List.contains_nil, List.map_nil, beq_self_eq_true, dbin, dIntBin, okR, callG, pureB, leaf, leafN, List.all_cons, List.all_nil, List.nil_append, List.append_nil, List.take_nil, List.length_nil, List.length_cons, dun, List.getElem?_nil, dcells, Nat.reduceAdd, stepBox, dStrBin, takes, ptrArgs, callArgs, given, oroom, vroom, Option.isSome_none, stepTake, stepPtr, notAgg, ite_self, AVB]
    | (refine drW_intro (by kernel_rfl) ?_)
    | (refine gw_intro (fun h => ?_) (fun h => ?_) <;> (try simp only [beq_true, beq_false, Bool.not_eq_eq_eq_not, Bool.not_true, Bool.not_false, Bool.not_not, decide_eq_true_eq, decide_eq_false_iff_not, ge_iff_le, gt_iff_lt] at h)))
        | true =>
          cases h5 : (tx == tx') with
          | false =>
            clear eS HX
            refine callK (m := 74) (res := [4]) (rs := [.tmp 4]) rfl Tryd.func21 rfl rfl rfl rfl rfl ?_
            repeat' (first
    | simp only [*, guardG, opG, inB, sval, stake, eats, eaters, get, cval, cval1, croom, St.taken, endQ, endR, endV, rvars, rvar, room1, ↓reduceIte, Nat.reduceEqDiff, Nat.reduceLT, reduceCtorEq, List.filterMap_cons, List.filterMap_nil, Option.bind_some, Option.map_some, Option.bind_none, List.getElem?_cons_zero, List.getElem?_cons_succ, List.getD_cons_zero, List.getD_cons_succ, List.contains_cons, List.contains_nil, List.map_nil, beq_self_eq_true, dbin, dIntBin, okR, callG, pureB, leaf, leafN, List.all_cons, List.all_nil, List.nil_append, List.append_nil, List.take_nil, List.length_nil, List.length_cons, dun, List.getElem?_nil, dcells, Nat.reduceAdd, stepBox, dStrBin, takes, ptrArgs, callArgs, given, oroom, vroom, Option.isSome_none, stepTake, stepPtr, notAgg, ite_self, AVB]
    | (refine drW_intro (by kernel_rfl) ?_)
    | (refine gw_intro (fun h => ?_) (fun h => ?_) <;> (try simp only [beq_true, beq_false, Bool.not_eq_eq_eq_not, Bool.not_true, Bool.not_false, Bool.not_not, decide_eq_true_eq, decide_eq_false_iff_not, ge_iff_le, gt_iff_lt] at h)))
          | true =>
            by_cases hne : a.length = a'.length
            · have n6 : ((a.length : Int) != a'.length) = false := by simp [hne]
              cases h7 : decide (s = s') with
              | false =>
                rw [Bool.and_false]
                rw [h7] at eS
                clear HX h7 hne
                refine callK (m := 74) (res := [4]) (rs := [.tmp 4]) rfl Tryd.func21 rfl rfl rfl rfl rfl ?_
                repeat' (first
    | simp only [*, guardG, opG, inB, sval, stake, eats, eaters, get, cval, cval1, croom, St.taken, endQ, endR, endV, rvars, rvar, room1, ↓reduceIte, Nat.reduceEqDiff, Nat.reduceLT, reduceCtorEq, List.filterMap_cons, List.filterMap_nil, Option.bind_some, Option.map_some, Option.bind_none, List.getElem?_cons_zero, List.getElem?_cons_succ, List.getD_cons_zero, List.getD_cons_succ, List.contains_cons, List.contains_nil, List.map_cons, List.map_nil, beq_self_eq_true, dbin, dIntBin, okR, callG, pureB, leaf, leafN, List.all_cons, List.all_nil, List.nil_append, List.append_nil, List.take_nil, List.length_nil, List.length_cons, dun, List.getElem?_nil, dcells, Nat.reduceAdd, stepBox, dStrBin, takes, ptrArgs, callArgs, given, oroom, vroom, Option.isSome_none, stepTake, stepPtr, notAgg, ite_self, AVB]
    | (refine drW_intro (by kernel_rfl) ?_)
    | (refine gw_intro (fun h => ?_) (fun h => ?_) <;> (try simp only [beq_true, beq_false, Bool.not_eq_eq_eq_not, Bool.not_true, Bool.not_false, Bool.not_not, decide_eq_true_eq, decide_eq_false_iff_not, ge_iff_le, gt_iff_lt] at h)))
              | true =>
                rw [h7] at eS
                have HE := Hd.mk hne
                clear h7 hne
                simp only [Bool.and_true, Bool.true_and]
                obtain ⟨R, hR⟩ : ∃ R, Hd (R = decide (a = a')) := ⟨_, rfl⟩
                rw [← (show R = decide (a = a') from hR)]
                refine callK (m := 74) (res := [4]) (rs := [.tmp 4]) rfl Tryd.func21 rfl rfl rfl rfl rfl ?_
                repeat' (first
    | simp only [*, guardG, opG, inB, sval, stake, eats, eaters, get, cval, cval1, croom, St.taken, ↓reduceIte, Nat.reduceEqDiff, Nat.reduceLT, reduceCtorEq, List.filterMap_cons, List.filterMap_nil, Option.bind_some, Option.map_some, Option.bind_none, List.getElem?_cons_zero, List.getElem?_cons_succ, List.getD_cons_zero, List.getD_cons_succ, List.contains_cons, List.contains_nil, List.map_cons, List.map_nil, beq_self_eq_true, dbin, dIntBin, okR, callG, pureB, leaf, leafN, List.all_cons, List.all_nil, List.nil_append, List.append_nil, List.length_nil, List.length_cons, dun, dcells, Nat.reduceAdd, stepBox, dStrBin, takes, ptrArgs, callArgs, given, oroom, vroom, Option.isSome_none, stepTake, stepPtr, AVB]
    | (refine drW_intro (by kernel_rfl) ?_)
    | (refine gw_intro (fun h => ?_) (fun h => ?_) <;> (try simp only [beq_true, beq_false, Bool.not_eq_eq_eq_not, Bool.not_true, Bool.not_false, Bool.not_not, decide_eq_true_eq, decide_eq_false_iff_not, ge_iff_le, gt_iff_lt] at h)))
                refine loopH (fun st => ∃ i : Nat, i ≤ a.length ∧ st.slot 5 = .int .i64 i ∧ st.slot 2 = .ptr 2 1 0 ∧ st.box 2 = some ⟨1, [.int .i64 p, .int .i64 k, .str sp, .str nm, .list (a.map At.d), .list S, .str tx], [.no, .no, .no, .no, .no, .no, .no]⟩ ∧ st.slot 3 = .ptr 3 1 0 ∧ st.box 3 = some ⟨1, [.int .i64 p', .int .i64 k', .str sp', .str nm', .list (a'.map At.d), .list S', .str tx'], [.no, .no, .no, .no, .no, .no, .no]⟩ ∧ st.slot 4 = .bool false ∧ st.room 4 = [] ∧ Hd (R = decide (a.drop i = a'.drop i))) (fun st => a.length - slotI st 5) ?_ ?_
                · refine ⟨0, Nat.zero_le _, ?_, ?_, ?_, ?_, ?_, ?_, ?_, hR⟩
                  all_goals simp only [*, put_slot, put_room, put_box, dem_box, setBox_box, ↓reduceIte, Nat.reduceEqDiff, Option.some.injEq]
                  all_goals rfl
                · rintro st K ⟨i, hi, g5, g2, b2, g3, b3, g4, gr, hO⟩ hn hx hr
                  have hl : a.length ≤ 1000000 := HX
                  have hne : a.length = a'.length := HE
                  by_cases h : i < a.length
                  · have g9 : (i : Int) < a.length := by omega
                    have g9' : (i : Int) < a'.length := by omega
                    have hw := wrapS i (by omega)
                    obtain ⟨x, hx1⟩ := some_at h
                    obtain ⟨y, hy1⟩ := some_at (show i < a'.length by omega)
                    have hO' : R = decide (a.drop i = a'.drop i) := hO
                    rw [drop_eq hx1 hy1] at hO'
                    have ha := getD_map (f := At.d) hx1
                    have hb1 := getD_map (f := At.d) hy1
                    obtain ⟨a1, a2, a3⟩ := x
                    obtain ⟨b1, b2', b3'⟩ := y
                    have ha2 : (a.map At.d).getD i .bad = .agg [.str a1, .str a2, .str a3] := ha
                    have hb2 : (a'.map At.d).getD i .bad = .agg [.str b1, .str b2', .str b3'] := hb1
                    clear ha hb1
                    have hqq := at_eq ⟨a1, a2, a3⟩ ⟨b1, b2', b3'⟩
                    simp only [] at hqq
                    cases he : decide ((⟨a1, a2, a3⟩ : At) = ⟨b1, b2', b3'⟩) with
                    | false =>
                      rw [he, Bool.false_and] at hO'
                      subst hO'
                      rw [he] at hqq
                      clear hO hn hx hl hne hx1 hy1 hR
                      repeat' (first
    | simp only [*, guardG, opG, opD, inB, sval, stake, eats, eaters, get, cval, cval1, croom, St.taken, ↓reduceIte, Nat.reduceEqDiff, Nat.reduceLT, List.filterMap_cons, List.filterMap_nil, Option.map_some, Option.bind_none, List.getElem?_cons_zero, List.getElem?_cons_succ, List.contains_cons, List.contains_nil, Nat.reduceBEq, dbin, dIntBin, isAlloc, loadsOwn, List.nil_append, List.append_nil, List.length_nil, List.length_cons, dcells, Nat.reduceAdd, isBar, allocKeys, takes, ptrArgs, callArgs, vroom, Option.isSome_none, AVB]
    | (refine drW_intro (by kernel_rfl) ?_)
    | (refine gw_intro (fun h => ?_) (fun h => ?_) <;> (try simp only [beq_true, beq_false, Bool.not_eq_eq_eq_not, Bool.not_true, Bool.not_false, Bool.not_not, decide_eq_true_eq, decide_eq_false_iff_not, ge_iff_le, gt_iff_lt] at h)))
                      refine hr _ ?_
                      repeat' (first
    | simp only [*, put_slot, put_room, put_box, endQ, endR, endV, rvars, rvar, room1, ↓reduceIte, List.map_nil, pureB, leaf, leafN, List.take_nil, List.range_zero, and_self, notAgg]
    | (refine drW_intro (by kernel_rfl) ?_)
    | (refine gw_intro (fun h => ?_) (fun h => ?_) <;> (try simp only [beq_true, beq_false, Bool.not_eq_eq_eq_not, Bool.not_true, Bool.not_false, Bool.not_not, decide_eq_true_eq, decide_eq_false_iff_not, ge_iff_le, gt_iff_lt] at h)))
                    | true =>
                      rw [he, Bool.true_and] at hO'
                      rw [he] at hqq
                      have HO := Hd.mk hO'
                      clear hO hO' hx hr hl hne hx1 hy1
                      repeat' (first
    | simp only [*, guardG, opG, opD, inB, sval, stake, eats, eaters, get, cval, cval1, St.taken, ↓reduceIte, Nat.reduceEqDiff, Nat.reduceLT, List.filterMap_cons, List.filterMap_nil, Option.map_some, Option.bind_none, List.getElem?_cons_zero, List.getElem?_cons_succ, List.contains_cons, List.contains_nil, beq_self_eq_true, Nat.reduceBEq, dbin, dIntBin, isAlloc, loadsOwn, List.nil_append, List.append_nil, List.length_nil, List.length_cons, dcells, Nat.reduceAdd, isBar, allocKeys, takes, ptrArgs, callArgs, Option.isSome_none, AVB]
    | (refine drW_intro (by kernel_rfl) ?_)
    | (refine gw_intro (fun h => ?_) (fun h => ?_) <;> (try simp only [beq_true, beq_false, Bool.not_eq_eq_eq_not, Bool.not_true, Bool.not_false, Bool.not_not, decide_eq_true_eq, decide_eq_false_iff_not, ge_iff_le, gt_iff_lt] at h)))
                      refine hn _ ⟨i + 1, h, ?_, ?_, ?_, ?_, ?_, ?_, ?_, HO⟩ ?_
                      · simp only [*, put_slot, ↓reduceIte]
                      · simp only [*, put_slot, dem_slot, ↓reduceIte, Nat.reduceEqDiff]
                      · simp only [*, put_box, dem_box]
                      · simp only [*, put_slot, dem_slot, ↓reduceIte, Nat.reduceEqDiff]
                      · simp only [*, put_box, dem_box]
                      · simp only [*, put_slot, dem_slot, ↓reduceIte, Nat.reduceEqDiff]
                      · simp only [*, put_room, dem_room, ↓reduceIte, Nat.reduceEqDiff]
                      · simp only [slotI, *, put_slot, ↓reduceIte, Int.toNat_natCast]
                        omega
                  · have g9 : ¬ (i : Int) < a.length := by omega
                    have hO' : R = decide (a.drop i = a'.drop i) := hO
                    rw [drop_end hne (by omega)] at hO'
                    subst hO'
                    clear hO hn hr hl hne hR
                    repeat' (first
    | simp only [*, guardG, opG, inB, sval, stake, eats, eaters, get, St.taken, ↓reduceIte, Nat.reduceEqDiff, Nat.reduceLT, List.filterMap_cons, List.filterMap_nil, Option.map_some, Option.bind_none, List.getElem?_cons_zero, List.getElem?_cons_succ, List.contains_cons, List.contains_nil, Nat.reduceBEq, dbin, dIntBin, List.append_nil, takes, ptrArgs, callArgs, Option.isSome_none, AVB]
    | (refine drW_intro (by kernel_rfl) ?_)
    | (refine gw_intro (fun h => ?_) (fun h => ?_) <;> (try simp only [beq_true, beq_false, Bool.not_eq_eq_eq_not, Bool.not_true, Bool.not_false, Bool.not_not, decide_eq_true_eq, decide_eq_false_iff_not, ge_iff_le, gt_iff_lt] at h)))
                    refine hx _ _ ?_
                    repeat' (first
    | simp only [*, guardG, opG, inB, sval, stake, eats, eaters, get, cval, cval1, croom, endQ, endR, endV, rvars, rvar, room1, ↓reduceIte, Nat.reduceLT, List.filterMap_cons, List.filterMap_nil, List.contains_cons, List.contains_nil, List.map_nil, pureB, leaf, leafN, List.append_nil, List.take_nil, vroom, notAgg, AVB]
    | (refine drW_intro (by kernel_rfl) ?_)
    | (refine gw_intro (fun h => ?_) (fun h => ?_) <;> (try simp only [beq_true, beq_false, Bool.not_eq_eq_eq_not, Bool.not_true, Bool.not_false, Bool.not_not, decide_eq_true_eq, decide_eq_false_iff_not, ge_iff_le, gt_iff_lt] at h)))
            · have n6 : ((a.length : Int) != a'.length) = true := by simp; omega
              rw [len_ne hne]
              clear eS HX hne
              refine callK (m := 74) (res := [4]) (rs := [.tmp 4]) rfl Tryd.func21 rfl rfl rfl rfl rfl ?_
              repeat' (first
    | simp only [*, guardG, opG, inB, sval, stake, eats, eaters, get, cval, cval1, croom, St.taken, endQ, endR, endV, rvars, rvar, room1, ↓reduceIte, Nat.reduceEqDiff, Nat.reduceLT, reduceCtorEq, List.filterMap_cons, List.filterMap_nil, Option.bind_some, Option.map_some, Option.bind_none, List.getElem?_cons_zero, List.getElem?_cons_succ, List.getD_cons_zero, List.getD_cons_succ, List.contains_cons, List.contains_nil, List.map_nil, beq_self_eq_true, dbin, dIntBin, okR, callG, pureB, leaf, leafN, List.all_cons, List.all_nil, List.nil_append, List.append_nil, List.take_nil, List.length_nil, List.length_cons, dun, List.getElem?_nil, dcells, Nat.reduceAdd, stepBox, dStrBin, takes, ptrArgs, callArgs, given, oroom, vroom, Option.isSome_none, stepTake, stepPtr, notAgg, ite_self, AVB]
    | (refine drW_intro (by kernel_rfl) ?_)
    | (refine gw_intro (fun h => ?_) (fun h => ?_) <;> (try simp only [beq_true, beq_false, Bool.not_eq_eq_eq_not, Bool.not_true, Bool.not_false, Bool.not_not, decide_eq_true_eq, decide_eq_false_iff_not, ge_iff_le, gt_iff_lt] at h)))
set_option maxHeartbeats 8000000 in
theorem rsame_L (xs ys : List Nd) (hx : Small xs) (hy : Small ys) : callL Tryd.prog (ext11b chk) 19 [.list (xs.map Nd.d), .list (ys.map Nd.d)] [] = some (.bool (decide (xs = ys)), [.no], []) := by
  have lN := lenM xs Nd.d
  have lM := lenM ys Nd.d
  refine callK (m := 27) (res := [4]) (rs := [.tmp 4]) rfl Tryd.func19 rfl rfl rfl rfl rfl ?_
  by_cases hne : xs.length = ys.length
  · have hb : (((xs.length : Int) != ys.length)) = false := by simp [hne]
    have HX := Hd.mk hx
    have HY := Hd.mk hy
    have HE := Hd.mk hne
    clear hx hy hne
    obtain ⟨R, hR⟩ : ∃ R, Hd (R = decide (xs = ys)) := ⟨_, rfl⟩
    rw [← (show R = decide (xs = ys) from hR)]
    repeat' (first
    | simp only [*, guardG, opG, inB, sval, stake, eats, eaters, get, cval, cval1, croom, St.taken, ↓reduceIte, Nat.reduceEqDiff, Nat.reduceLT, reduceCtorEq, List.filterMap_cons, List.filterMap_nil, Option.map_some, Option.bind_none, List.getD_cons_zero, List.getD_cons_succ, List.contains_cons, List.contains_nil, Nat.reduceBEq, dbin, dIntBin, List.append_nil, List.length_nil, ptrArgs, callArgs, vroom, Option.isSome_none, AVB]
    | (refine drW_intro (by kernel_rfl) ?_)
    | (refine gw_intro (fun h => ?_) (fun h => ?_) <;> (try simp only [beq_true, beq_false, Bool.not_eq_eq_eq_not, Bool.not_true, Bool.not_false, Bool.not_not, decide_eq_true_eq, decide_eq_false_iff_not, ge_iff_le, gt_iff_lt] at h)))
    refine loopH (fun st => ∃ i : Nat, i ≤ xs.length ∧ st.slot 5 = .int .i64 i ∧ st.slot 0 = .list (xs.map Nd.d) ∧ st.slot 1 = .list (ys.map Nd.d) ∧ st.slot 4 = .bool false ∧ st.room 4 = [] ∧ Hd (R = decide (xs.drop i = ys.drop i))) (fun st => xs.length - slotI st 5) ?_ ?_
    · refine ⟨0, Nat.zero_le _, ?_, ?_, ?_, ?_, ?_, hR⟩
      all_goals simp only [*, put_slot, put_room, entry_slot, ↓reduceIte, Nat.reduceEqDiff, reduceCtorEq, List.getD_cons_zero, List.getD_cons_succ]
      all_goals rfl
    · rintro st K ⟨i, hi, g5, g0, g1, g3, gr, hO⟩ hn hx hr
      have hX : Small xs := HX
      have hY : Small ys := HY
      have hne : xs.length = ys.length := HE
      by_cases h : i < xs.length
      · have g9 : (i : Int) < xs.length := by omega
        have g9' : (i : Int) < ys.length := by omega
        have hw := wrapS i (by have := hX.1; omega)
        obtain ⟨x, hx1⟩ := some_at h
        obtain ⟨y, hy1⟩ := some_at (show i < ys.length by omega)
        have hO' : R = decide (xs.drop i = ys.drop i) := hO
        rw [drop_eq hx1 hy1] at hO'
        have ha := getD_map (f := Nd.d) hx1
        have hb1 := getD_map (f := Nd.d) hy1
        have hs := rnode_L (chk := chk) x y (hX.2 x (List.mem_of_getElem? hx1)) (hY.2 y (List.mem_of_getElem? hy1))
        rw [ndat] at ha hb1
        rw [ndat, ndat] at hs
        generalize x.at_.map At.d = xa at *
        generalize x.st.map D.str = xs' at *
        generalize y.at_.map At.d = ya at *
        generalize y.st.map D.str = ys' at *
        cases he : decide (x = y) with
        | false =>
          rw [he, Bool.false_and] at hO'
          rw [he] at hs
          subst hO'
          clear hO hn hx hX hY hne hx1 hy1 hR
          repeat' (first
    | simp only [*, guardG, opG, opD, inB, sval, stake, eats, eaters, get, cval, cval1, croom, St.taken, ↓reduceIte, Nat.reduceEqDiff, Nat.reduceLT, reduceCtorEq, List.filterMap_cons, List.filterMap_nil, Option.bind_some, Option.map_some, Option.bind_none, List.contains_cons, List.contains_nil, List.map_cons, List.map_nil, Nat.reduceBEq, dbin, dIntBin, loadsOwn, pureB, leaf, leafN, List.all_cons, List.all_nil, List.nil_append, List.append_nil, List.length_nil, List.length_cons, dun, dcells, Nat.reduceAdd, isBar, takes, ptrArgs, callArgs, vroom, Option.isSome_none, AVB]
    | (refine drW_intro (by kernel_rfl) ?_)
    | (refine gw_intro (fun h => ?_) (fun h => ?_) <;> (try simp only [beq_true, beq_false, Bool.not_eq_eq_eq_not, Bool.not_true, Bool.not_false, Bool.not_not, decide_eq_true_eq, decide_eq_false_iff_not, ge_iff_le, gt_iff_lt] at h)))
          refine hr _ ?_
          repeat' (first
    | simp only [*, put_slot, put_room, put_box, endQ, endR, endV, rvars, rvar, room1, ↓reduceIte, List.map_nil, pureB, leaf, leafN, List.take_nil, List.range_zero, and_self, notAgg]
    | (refine drW_intro (by kernel_rfl) ?_)
    | (refine gw_intro (fun h => ?_) (fun h => ?_) <;> (try simp only [beq_true, beq_false, Bool.not_eq_eq_eq_not, Bool.not_true, Bool.not_false, Bool.not_not, decide_eq_true_eq, decide_eq_false_iff_not, ge_iff_le, gt_iff_lt] at h)))
        | true =>
          rw [he, Bool.true_and] at hO'
          rw [he] at hs
          have HO := Hd.mk hO'
          clear hO hO' hx hr hX hY hne hx1 hy1
          repeat' (first
    | simp only [*, guardG, opG, opD, inB, sval, stake, eats, eaters, get, cval, cval1, St.taken, ↓reduceIte, Nat.reduceEqDiff, Nat.reduceLT, reduceCtorEq, List.filterMap_cons, List.filterMap_nil, Option.bind_some, Option.map_some, Option.bind_none, List.contains_cons, List.contains_nil, List.map_cons, List.map_nil, beq_self_eq_true, Nat.reduceBEq, dbin, dIntBin, loadsOwn, pureB, leaf, leafN, List.all_cons, List.all_nil, List.nil_append, List.append_nil, List.length_nil, List.length_cons, dun, dcells, Nat.reduceAdd, isBar, takes, ptrArgs, callArgs, Option.isSome_none, AVB]
    | (refine drW_intro (by kernel_rfl) ?_)
    | (refine gw_intro (fun h => ?_) (fun h => ?_) <;> (try simp only [beq_true, beq_false, Bool.not_eq_eq_eq_not, Bool.not_true, Bool.not_false, Bool.not_not, decide_eq_true_eq, decide_eq_false_iff_not, ge_iff_le, gt_iff_lt] at h)))
          refine hn _ ⟨i + 1, h, ?_, ?_, ?_, ?_, ?_, HO⟩ ?_
          · simp only [*, put_slot, ↓reduceIte]
          · simp only [*, put_slot, dem_slot, ↓reduceIte, reduceCtorEq]
          · simp only [*, put_slot, dem_slot, ↓reduceIte, Nat.reduceEqDiff]
          · simp only [*, put_slot, dem_slot, ↓reduceIte, Nat.reduceEqDiff]
          · simp only [*, put_room, dem_room, ↓reduceIte, Nat.reduceEqDiff]
          · simp only [slotI, *, put_slot, ↓reduceIte, Int.toNat_natCast]
            omega
      · have g9 : ¬ (i : Int) < xs.length := by omega
        have hO' : R = decide (xs.drop i = ys.drop i) := hO
        rw [drop_end hne (by omega)] at hO'
        subst hO'
        clear hO hn hr hX hY hne hR
        repeat' (first
    | simp only [*, guardG, opG, inB, sval, stake, eats, eaters, get, St.taken, ↓reduceIte, Nat.reduceEqDiff, Nat.reduceLT, reduceCtorEq, List.filterMap_cons, List.filterMap_nil, Option.map_some, Option.bind_none, List.contains_cons, List.contains_nil, Nat.reduceBEq, dbin, dIntBin, List.append_nil, ptrArgs, callArgs, Option.isSome_none, AVB]
    | (refine drW_intro (by kernel_rfl) ?_)
    | (refine gw_intro (fun h => ?_) (fun h => ?_) <;> (try simp only [beq_true, beq_false, Bool.not_eq_eq_eq_not, Bool.not_true, Bool.not_false, Bool.not_not, decide_eq_true_eq, decide_eq_false_iff_not, ge_iff_le, gt_iff_lt] at h)))
        refine hx _ _ ?_
        repeat' (first
    | simp only [*, guardG, opG, inB, sval, stake, eats, eaters, get, cval, cval1, croom, endQ, endR, endV, rvars, rvar, room1, ↓reduceIte, Nat.reduceLT, List.filterMap_cons, List.filterMap_nil, List.contains_cons, List.contains_nil, List.map_nil, pureB, leaf, leafN, List.append_nil, List.take_nil, vroom, notAgg, AVB]
    | (refine drW_intro (by kernel_rfl) ?_)
    | (refine gw_intro (fun h => ?_) (fun h => ?_) <;> (try simp only [beq_true, beq_false, Bool.not_eq_eq_eq_not, Bool.not_true, Bool.not_false, Bool.not_not, decide_eq_true_eq, decide_eq_false_iff_not, ge_iff_le, gt_iff_lt] at h)))
  · have hb : (((xs.length : Int) != ys.length)) = true := by simp; omega
    rw [len_ne hne]
    clear hx hy hne
    repeat' (first
    | simp only [*, guardG, opG, inB, sval, stake, eats, eaters, get, cval, cval1, croom, St.taken, endQ, endR, endV, rvars, rvar, room1, ↓reduceIte, Nat.reduceEqDiff, Nat.reduceLT, reduceCtorEq, List.filterMap_cons, List.filterMap_nil, Option.map_some, Option.bind_none, List.getD_cons_zero, List.getD_cons_succ, List.contains_cons, List.contains_nil, List.map_nil, Nat.reduceBEq, dbin, dIntBin, pureB, leaf, leafN, List.append_nil, List.take_nil, List.length_nil, List.getElem?_nil, ptrArgs, callArgs, vroom, Option.isSome_none, notAgg, ite_self, AVB]
    | (refine drW_intro (by kernel_rfl) ?_)
    | (refine gw_intro (fun h => ?_) (fun h => ?_) <;> (try simp only [beq_true, beq_false, Bool.not_eq_eq_eq_not, Bool.not_true, Bool.not_false, Bool.not_not, decide_eq_true_eq, decide_eq_false_iff_not, ge_iff_le, gt_iff_lt] at h)))
end Go.Av
namespace Go.Av
open Go.Proofs
variable [Ek] {chk : List D → Bool}
theorem apN (A : List Nd) (z : Nd) : (A ++ [z]).map Nd.d = A.map Nd.d ++ [z.d] := by simp
theorem kind_L (hk : chk [] = true) (k a : Int) : callL Tryd.prog (ext11b chk) 17 [.iface 66 (.fix (.agg [.int .i64 k, .int .i64 a, .con .nilIface]) 0)] [] = some (.int .i64 k, [], []) := callL_ext (ext_ink rfl (if_pos hk))
theorem at_L (hk : chk [] = true) (k a : Int) : callL Tryd.prog (ext11b chk) 18 [.iface 66 (.fix (.agg [.int .i64 k, .int .i64 a, .con .nilIface]) 0)] [] = some (.int .i64 a, [], []) := callL_ext (ext_ink rfl (if_pos hk))
end Go.Av
namespace Go.Av
open Go.Proofs
variable [Ek] {chk : List D → Bool}
def cntN (n : Nd) : Nat := n.at_.length + n.st.length
def sumN : List Nd → Nat
  | [] => 0
  | n :: r => cntN n + sumN r
theorem sumN_app (a b : List Nd) : sumN (a ++ b) = sumN a + sumN b := by
  induction a with
  | nil => simp [sumN]
  | cons n r ih => simp [sumN, ih]; omega
theorem sumN_take {ns : List Nd} {i : Nat} {n : Nd} (h : ns[i]? = some n) : sumN (ns.take (i + 1)) = sumN (ns.take i) + cntN n := by
  rw [List.take_add_one, h, sumN_app]
  simp [sumN]
theorem sumN_le {ns : List Nd} (hS : ∀ n ∈ ns, SmallN n) (i : Nat) : sumN (ns.take i) ≤ i * 2000000 := by
  induction i with
  | zero => exact Nat.zero_le _
  | succ i this =>
    by_cases h : i < ns.length
    · obtain ⟨n, hn⟩ := some_at h
      have hs := hS n (List.mem_of_getElem? hn)
      rw [sumN_take hn, Nat.succ_mul]
      exact Nat.add_le_add this (Nat.add_le_add hs.1 hs.2.1)
    · rw [List.take_of_length_le (by omega)]
      rw [List.take_of_length_le (by omega)] at this
      exact Nat.le_trans this (Nat.mul_le_mul_right _ (Nat.le_succ i))
def sizeF (ns : List Nd) : Int := ((ns.length + sumN ns : Nat) : Int)
theorem wrapN (z : Int) (n : Nat) (h : z = (n : Int)) (h2 : n ≤ 1000000000000) : IntKind.i64.wrap z = (n : Int) := by rw [wrap64 _ (by omega) (by omega), h]
set_option maxHeartbeats 16000000 in
theorem size_L (ns : List Nd) (hS : SmallD ns) : callL Tryd.prog (ext11b chk) 12 [.list (ns.map Nd.d)] [] = some (.int .i64 (sizeF ns), [.no], []) := by
  have lN := lenM ns Nd.d
  have HS := Hd.mk hS
  have he : sizeF ns = ((ns.length + sumN (ns.take ns.length) : Nat) : Int) := by rw [List.take_length]; rfl
  clear hS
  refine callK (m := 25) (res := [2]) (rs := [.tmp 2]) rfl Tryd.func12 rfl rfl rfl rfl rfl ?_
  repeat' (first
    | simp only [*, guardG, opG, inB, sval, stake, eats, eaters, get, cval, cval1, croom, St.taken, ↓reduceIte, Nat.reduceLT, reduceCtorEq, List.filterMap_cons, List.filterMap_nil, Option.map_some, Option.bind_none, List.getD_cons_zero, List.contains_cons, List.contains_nil, beq_self_eq_true, Nat.reduceBEq, List.append_nil, List.length_nil, List.take_length, ptrArgs, callArgs, vroom, Option.isSome_none, AVB]
    | (refine drW_intro (by kernel_rfl) ?_)
    | (refine gw_intro (fun h => ?_) (fun h => ?_) <;> (try simp only [beq_true, beq_false, Bool.not_eq_eq_eq_not, Bool.not_true, Bool.not_false, Bool.not_not, decide_eq_true_eq, decide_eq_false_iff_not, ge_iff_le, gt_iff_lt] at h)))
  refine loopH (fun st => ∃ i : Nat, i ≤ ns.length ∧ st.slot 10 = .int .i64 i ∧ st.slot 8 = .list (ns.map Nd.d) ∧ st.slot 9 = .int .i64 ns.length ∧ st.slot 3 = .int .i64 ((ns.length + sumN (ns.take i) : Nat) : Int)) (fun st => ns.length - slotI st 10) ?_ ?_
  · refine ⟨0, Nat.zero_le _, ?_, ?_, ?_, ?_⟩
    all_goals simp only [*, put_slot, ↓reduceIte, Nat.reduceEqDiff, List.take_zero]
    all_goals rfl
  · rintro st K ⟨i, hi, g10, g8, g9', g3⟩ hn hx hr
    have hSD : SmallD ns := HS
    by_cases h : i < ns.length
    · have g9 : (i : Int) < ns.length := by omega
      have hlN := hSD.1
      have hw := wrapS i (by omega)
      obtain ⟨n, hm⟩ := some_at h
      have hb := getD_map (f := Nd.d) hm
      rw [ndat] at hb
      have hs := hSD.2 n (List.mem_of_getElem? hm)
      have hle := sumN_le hSD.2 i
      have e1 := sumN_take hm
      obtain ⟨S, hSe⟩ : ∃ S, S = sumN (ns.take i) := ⟨_, rfl⟩
      obtain ⟨S2, hS2⟩ : ∃ S2, S2 = sumN (ns.take (i + 1)) := ⟨_, rfl⟩
      rw [← hSe] at e1 hle g3
      have lA := lenM n.at_ At.d
      have lS := lenM n.st D.str
      have w1 : IntKind.i64.wrap ((n.at_.length : Int) + n.st.length) = ((cntN n : Nat) : Int) := wrapN _ _ (by unfold cntN; omega) (by have := hs.1; have := hs.2.1; unfold cntN; omega)
      have w2 : IntKind.i64.wrap (((ns.length + S : Nat) : Int) + ((cntN n : Nat) : Int)) = ((ns.length + S2 : Nat) : Int) := wrapN _ _ (by rw [hS2, e1]; omega) (by have := hs.1; have := hs.2.1; rw [hS2, e1]; unfold cntN; omega)
      have HS2 := Hd.mk hS2
      have HI := Hd.mk h
      clear hSe hS2 e1 hle hs hm hlN hSD h hr hx
      obtain ⟨p, k, sp, nm, la, ls, tx⟩ := n
      simp only [] at hb lA lS w1 w2
      generalize la.map At.d = LA at *
      generalize ls.map D.str = LS at *
      repeat' (first
    | simp only [*, guardG, opG, inB, sval, stake, eats, eaters, get, cval, cval1, St.taken, ↓reduceIte, Nat.reduceEqDiff, Nat.reduceLT, Nat.reduceLeDiff, List.filterMap_cons, List.filterMap_nil, Option.map_some, Option.bind_none, List.getElem?_cons_zero, List.getElem?_cons_succ, List.contains_cons, List.contains_nil, beq_self_eq_true, beq_iff_eq, Nat.reduceBEq, dbin, dIntBin, pureB, leaf, leafN, List.all_cons, List.all_nil, List.nil_append, List.append_nil, List.length_nil, List.length_cons, List.take_zero, List.drop_succ_cons, dcells, Nat.reduceAdd, stepBox, takes, ptrArgs, callArgs, given, oroom, Option.isSome_none, Option.some.injEq, List.drop_succ_cons, List.drop_nil, List.nil_append, AVB]
    | (refine drW_intro (by kernel_rfl) ?_)
    | (refine gw_intro (fun h => ?_) (fun h => ?_) <;> (try simp only [beq_true, beq_false, Bool.not_eq_eq_eq_not, Bool.not_true, Bool.not_false, Bool.not_not, decide_eq_true_eq, decide_eq_false_iff_not, ge_iff_le, gt_iff_lt] at h)))
      have hi2 : i < ns.length := HI
      refine hn _ ⟨i + 1, hi2, ?_, ?_, ?_, ?_⟩ ?_
      · simp only [*, put_slot, ↓reduceIte]
      · simp only [*, put_slot, dem_slot, setBox_slot, ↓reduceIte, Nat.reduceEqDiff]
      · simp only [*, put_slot, dem_slot, setBox_slot, ↓reduceIte, Nat.reduceEqDiff]
      · rw [← show S2 = sumN (ns.take (i + 1)) from HS2]
        simp only [*, put_slot, ↓reduceIte, Nat.reduceEqDiff]
      · simp only [slotI, *, put_slot, ↓reduceIte, Int.toNat_natCast]
        omega
    · obtain rfl : i = ns.length := by omega
      have g9 : ¬ (ns.length : Int) < ns.length := by omega
      clear hn hr hSD h
      repeat' (first
    | simp only [*, guardG, opG, inB, sval, stake, eats, eaters, get, ↓reduceIte, Nat.reduceLT, List.filterMap_cons, List.filterMap_nil, Option.map_some, List.contains_cons, List.contains_nil, dbin, dIntBin, List.append_nil, AVB]
    | (refine drW_intro (by kernel_rfl) ?_)
    | (refine gw_intro (fun h => ?_) (fun h => ?_) <;> (try simp only [beq_true, beq_false, Bool.not_eq_eq_eq_not, Bool.not_true, Bool.not_false, Bool.not_not, decide_eq_true_eq, decide_eq_false_iff_not, ge_iff_le, gt_iff_lt] at h)))
      refine hx _ _ ?_
      repeat' (first
    | simp only [*, guardG, opG, inB, sval, stake, eats, eaters, get, St.taken, endQ, endR, endV, rvars, rvar, room1, ↓reduceIte, Nat.reduceEqDiff, Nat.reduceLT, List.filterMap_cons, List.filterMap_nil, List.contains_cons, List.contains_nil, List.map_nil, beq_self_eq_true, beq_iff_eq, pureB, leaf, leafN, List.append_nil, List.take_nil, List.take_length, notAgg, Option.some.injEq, AVB]
    | (refine drW_intro (by kernel_rfl) ?_)
    | (refine gw_intro (fun h => ?_) (fun h => ?_) <;> (try simp only [beq_true, beq_false, Bool.not_eq_eq_eq_not, Bool.not_true, Bool.not_false, Bool.not_not, decide_eq_true_eq, decide_eq_false_iff_not, ge_iff_le, gt_iff_lt] at h)))
set_option maxHeartbeats 16000000 in
theorem rsize_L (ns : List Nd) (hS : SmallD ns) : callL Tryd.prog (ext11b chk) 13 [.list (ns.map Nd.d)] [] = some (.int .i64 (sizeF ns), [.no], []) := by
  have lN := lenM ns Nd.d
  have HS := Hd.mk hS
  have he : sizeF ns = ((ns.length + sumN (ns.take ns.length) : Nat) : Int) := by rw [List.take_length]; rfl
  clear hS
  refine callK (m := 28) (res := [2]) (rs := [.tmp 2]) rfl Tryd.func13 rfl rfl rfl rfl rfl ?_
  repeat' (first
    | simp only [*, guardG, opG, inB, sval, stake, eats, eaters, get, cval, cval1, croom, ↓reduceIte, Nat.reduceLT, List.filterMap_cons, List.filterMap_nil, List.contains_cons, List.contains_nil, List.append_nil, List.length_nil, List.take_length, vroom, AVB]
    | (refine drW_intro (by kernel_rfl) ?_)
    | (refine gw_intro (fun h => ?_) (fun h => ?_) <;> (try simp only [beq_true, beq_false, Bool.not_eq_eq_eq_not, Bool.not_true, Bool.not_false, Bool.not_not, decide_eq_true_eq, decide_eq_false_iff_not, ge_iff_le, gt_iff_lt] at h)))
  refine loopH (fun st => ∃ i : Nat, i ≤ ns.length ∧ st.slot 4 = .int .i64 i ∧ st.slot 0 = .list (ns.map Nd.d) ∧ st.slot 3 = .int .i64 ((i + sumN (ns.take i) : Nat) : Int)) (fun st => ns.length - slotI st 4) ?_ ?_
  · refine ⟨0, Nat.zero_le _, ?_, ?_, ?_⟩
    all_goals simp only [*, put_slot, entry_slot, ↓reduceIte, Nat.reduceEqDiff, reduceCtorEq, List.getD_cons_zero, List.take_zero, Nat.zero_add]
    all_goals rfl
  · rintro st K ⟨i, hi, g4, g0, g3⟩ hn hx hr
    have hSD : SmallD ns := HS
    by_cases h : i < ns.length
    · have g9 : (i : Int) < ns.length := by omega
      have hlN := hSD.1
      have hw := wrapS i (by omega)
      obtain ⟨n, hm⟩ := some_at h
      have hb := getD_map (f := Nd.d) hm
      rw [ndat] at hb
      have hs := hSD.2 n (List.mem_of_getElem? hm)
      have hle := sumN_le hSD.2 i
      have e1 := sumN_take hm
      obtain ⟨S, hSe⟩ : ∃ S, S = sumN (ns.take i) := ⟨_, rfl⟩
      obtain ⟨S2, hS2⟩ : ∃ S2, S2 = sumN (ns.take (i + 1)) := ⟨_, rfl⟩
      rw [← hSe] at e1 hle g3
      have lA := lenM n.at_ At.d
      have lS := lenM n.st D.str
      have w0 : IntKind.i64.wrap ((1 : Int) + n.at_.length) = ((1 + n.at_.length : Nat) : Int) := wrapN _ _ (by omega) (by have := hs.1; omega)
      have w1 : IntKind.i64.wrap (((1 + n.at_.length : Nat) : Int) + n.st.length) = ((1 + cntN n : Nat) : Int) := wrapN _ _ (by unfold cntN; omega) (by have := hs.1; have := hs.2.1; unfold cntN; omega)
      have w2 : IntKind.i64.wrap (((i + S : Nat) : Int) + ((1 + cntN n : Nat) : Int)) = ((i + 1 + S2 : Nat) : Int) := wrapN _ _ (by rw [hS2, e1]; omega) (by have := hs.1; have := hs.2.1; rw [hS2, e1]; unfold cntN; omega)
      have HS2 := Hd.mk hS2
      have HI := Hd.mk h
      clear hSe hS2 e1 hle hs hm hlN hSD h hr hx
      obtain ⟨p, k, sp, nm, la, ls, tx⟩ := n
      simp only [] at hb lA lS w0 w1 w2
      generalize la.map At.d = LA at *
      generalize ls.map D.str = LS at *
      repeat' (first
    | simp only [*, guardG, opG, opD, inB, sval, stake, eats, eaters, get, cval, cval1, St.taken, ↓reduceIte, Nat.reduceEqDiff, Nat.reduceLT, reduceCtorEq, List.filterMap_cons, List.filterMap_nil, Option.map_some, Option.bind_none, List.getElem?_cons_zero, List.getElem?_cons_succ, List.contains_cons, List.contains_nil, beq_self_eq_true, beq_iff_eq, Nat.reduceBEq, dbin, dIntBin, loadsOwn, List.nil_append, List.append_nil, List.length_nil, List.length_cons, dcells, Nat.reduceAdd, isBar, takes, ptrArgs, callArgs, Option.isSome_none, Option.some.injEq, List.nil_append, AVB]
    | (refine drW_intro (by kernel_rfl) ?_)
    | (refine gw_intro (fun h => ?_) (fun h => ?_) <;> (try simp only [beq_true, beq_false, Bool.not_eq_eq_eq_not, Bool.not_true, Bool.not_false, Bool.not_not, decide_eq_true_eq, decide_eq_false_iff_not, ge_iff_le, gt_iff_lt] at h)))
      have hi2 : i < ns.length := HI
      refine hn _ ⟨i + 1, hi2, ?_, ?_, ?_⟩ ?_
      · simp only [*, put_slot, ↓reduceIte]
      · simp only [*, put_slot, dem_slot, ↓reduceIte, reduceCtorEq]
      · rw [← show S2 = sumN (ns.take (i + 1)) from HS2]
        simp only [*, put_slot, dem_slot, ↓reduceIte, Nat.reduceEqDiff]
      · simp only [slotI, *, put_slot, ↓reduceIte, Int.toNat_natCast]
        omega
    · obtain rfl : i = ns.length := by omega
      have g9 : ¬ (ns.length : Int) < ns.length := by omega
      clear hn hr hSD h
      repeat' (first
    | simp only [*, guardG, opG, inB, sval, stake, eats, eaters, get, St.taken, ↓reduceIte, Nat.reduceEqDiff, Nat.reduceLT, reduceCtorEq, List.filterMap_cons, List.filterMap_nil, Option.map_some, Option.bind_none, List.contains_cons, List.contains_nil, Nat.reduceBEq, dbin, dIntBin, List.append_nil, ptrArgs, callArgs, Option.isSome_none, AVB]
    | (refine drW_intro (by kernel_rfl) ?_)
    | (refine gw_intro (fun h => ?_) (fun h => ?_) <;> (try simp only [beq_true, beq_false, Bool.not_eq_eq_eq_not, Bool.not_true, Bool.not_false, Bool.not_not, decide_eq_true_eq, decide_eq_false_iff_not, ge_iff_le, gt_iff_lt] at h)))
      refine hx _ _ ?_
      repeat' (first
    | simp only [*, guardG, opG, inB, sval, stake, eats, eaters, get, St.taken, endQ, endR, endV, rvars, rvar, room1, ↓reduceIte, Nat.reduceEqDiff, Nat.reduceLT, List.filterMap_cons, List.filterMap_nil, List.contains_cons, List.contains_nil, List.map_nil, beq_self_eq_true, beq_iff_eq, pureB, leaf, leafN, List.append_nil, List.take_nil, List.take_length, notAgg, Option.some.injEq, AVB]
    | (refine drW_intro (by kernel_rfl) ?_)
    | (refine gw_intro (fun h => ?_) (fun h => ?_) <;> (try simp only [beq_true, beq_false, Bool.not_eq_eq_eq_not, Bool.not_true, Bool.not_false, Bool.not_not, decide_eq_true_eq, decide_eq_false_iff_not, ge_iff_le, gt_iff_lt] at h)))
end Go.Av
