/- The evaluator, in one text: over any program; no conditions but those that each law names. -/
import Derived.Test.YtdbimjpjpgfeeaaDoorAvse
import Derived.Test.YtdbimjpjpgfeeaaDoorAvsa
import Derived.KernelRfl
import Derived.Test.YtdbimjpjpgfeeaaDoorRows
import Derived.Test.YtdbimjpjpgfeeaaDoorTie
import Derived.Test.YtdbimjpjpgfeeaaDoorAvb
import Derived.Test.YtdbimjpjpgfeeaaDoorAvsb
set_option linter.unusedSimpArgs false
set_option linter.unusedVariables false
set_option linter.unusedSectionVars false
/- Chapter 11: what is wrong with a document, both texts. -/
set_option linter.unusedSimpArgs false
set_option linter.unusedVariables false
set_option linter.unusedSectionVars false
set_option maxRecDepth 100000
namespace Go.Av
open Go.Proofs
variable {chk : List D → Bool}
def rootB (n : Nd) : Bool := n.k == 1 && decide (n.p < 0)
def chkG : List Nd → List Nd → Int → Int × Int
  | a, [], roots => if roots = 1 then (0, 0) else (15, a.length)
  | a, n :: r, roots => if nodeF a n = true then chkG (a ++ [n]) r (if rootB n = true then roots + 1 else roots) else (10, a.length)
def chkF (ns : List Nd) : Int × Int := chkG [] ns 0
theorem chkG_at {xs : List Nd} {i : Nat} {x : Nd} (roots : Int) (hx : xs[i]? = some x) : chkG (xs.take i) (xs.drop i) roots = if nodeF (xs.take i) x = true then chkG (xs.take (i + 1)) (xs.drop (i + 1)) (if rootB x = true then roots + 1 else roots) else (10, (i : Int)) := by
  have h1 : i < xs.length := (List.getElem?_eq_some_iff.1 hx).1
  have e1 : xs[i] = x := (List.getElem?_eq_some_iff.1 hx).2
  rw [List.drop_eq_getElem_cons h1, e1, chkG, List.take_succ_eq_append_getElem h1, e1, List.length_take, Nat.min_eq_left (by omega)]
theorem chkG_end {xs : List Nd} {i : Nat} (roots : Int) (h : xs.length = i) : chkG (xs.take i) (xs.drop i) roots = if roots = 1 then (0, 0) else (15, (i : Int)) := by
  subst h
  rw [List.drop_length, List.take_length, chkG]
def BigD (ns : List Nd) : Prop := ns.length ≤ 140737488355328 ∧ ∀ n ∈ ns, BigN n
def SmallD (ns : List Nd) : Prop := ns.length ≤ 10000 ∧ ∀ n ∈ ns, SmallN n
theorem SmallA.big {a : At} (h : SmallA a) : BigA a := ⟨Nat.le_trans h.1 (by decide), Nat.le_trans h.2.1 (by decide), Nat.le_trans h.2.2 (by decide)⟩
theorem SmallN.big {n : Nd} (h : SmallN n) : BigN n := ⟨Nat.le_trans h.1 (by decide), Nat.le_trans h.2.1 (by decide), Nat.le_trans h.2.2.1 (by decide), Nat.le_trans h.2.2.2.1 (by decide), Nat.le_trans h.2.2.2.2.1 (by decide), fun a ha => (h.2.2.2.2.2 a ha).big⟩
theorem SmallD.big {ns : List Nd} (h : SmallD ns) : BigD ns := ⟨Nat.le_trans h.1 (by decide), fun n hn => (h.2 n hn).big⟩
theorem SmallD.small {ns : List Nd} (h : SmallD ns) : Small ns := ⟨h.1, fun n hn => ⟨(h.2 n hn).1, (h.2 n hn).2.1⟩⟩
theorem great_smallD {ns : List Nd} {m : Nat} (h : greatF ns m = false) (hm : m ≤ 10000) : SmallD ns := by
  unfold greatF at h
  simp only [Bool.or_eq_false_iff, decide_eq_false_iff_not, List.any_eq_false] at h
  refine ⟨by omega, fun n hn => ?_⟩
  have h1 := h.2 n hn
  unfold ndG ndG0 at h1
  simp only [Bool.or_eq_true, decide_eq_true_eq, not_or, List.any_eq_true, not_exists, not_and] at h1
  refine ⟨by omega, by omega, by omega, by omega, by omega, fun a ha => ?_⟩
  have h2 := h1.2 a ha
  unfold atG at h2
  simp only [Bool.or_eq_true, decide_eq_true_eq, not_or] at h2
  exact ⟨by omega, by omega, by omega⟩
set_option maxHeartbeats 16000000 in
theorem rcheck_L (ns : List Nd) (hS : BigD ns) : callL Tryd.prog (ext11b chk) 8 [.list (ns.map Nd.d)] [] = some (.tuple [.int .i64 (chkF ns).1, .int .i64 (chkF ns).2], [.no, .no], []) := by
  have lN := lenM ns Nd.d
  have HL := Hd.mk hS.1
  have HS := Hd.mk hS
  clear hS
  obtain ⟨R1, R2, hR⟩ : ∃ R1 R2, Hd ((R1, R2) = chkG (ns.take 0) (ns.drop 0) 0) := ⟨_, _, rfl⟩
  have e : chkF ns = (R1, R2) := (show (R1, R2) = chkG (ns.take 0) (ns.drop 0) 0 from hR).symm
  rw [e]
  clear e
  refine callK (m := 42) (res := [2, 3]) (rs := [.tmp 2, .tmp 3]) rfl Tryd.func8 rfl rfl rfl rfl rfl ?_
  repeat' (first
    | simp only [*, go_seq, go_block, go_loop, go_region, go_ops_nil, go_ops, okG_some, guardG, opG, inB, sval, stake, eats, eaters, get, cval, cval1, croom, dem_none, ↓reduceIte, Nat.reduceLT, decide_true, List.filterMap_cons, List.filterMap_nil, List.contains_cons, List.contains_nil, Bool.or_false, Bool.false_eq_true, row11, frz11, frzOf_def, frz_nil, List.length_nil, frz11b]
    | (refine drW_intro (by kernel_rfl) ?_)
    | (refine gw_intro (fun h => ?_) (fun h => ?_) <;> (try simp only [beq_true, beq_false, Bool.not_eq_eq_eq_not, Bool.not_true, Bool.not_false, Bool.not_not, decide_eq_true_eq, decide_eq_false_iff_not, ge_iff_le, gt_iff_lt] at h)))
  refine loopH (fun st => ∃ (i : Nat) (roots : Int), i ≤ ns.length ∧ (0 ≤ roots ∧ roots ≤ i) ∧ st.slot 5 = .int .i64 i ∧ st.room 5 = [] ∧ st.slot 4 = .int .i64 roots ∧ st.slot 0 = .list (ns.map Nd.d) ∧ st.slot 2 = .int .i64 0 ∧ st.room 2 = [] ∧ st.slot 3 = .int .i64 0 ∧ st.room 3 = [] ∧ Hd ((R1, R2) = chkG (ns.take i) (ns.drop i) roots)) (fun st => ns.length - slotI st 5) ?_ ?_
  · refine ⟨0, 0, Nat.zero_le _, ⟨by decide, by decide⟩, ?_, ?_, ?_, ?_, ?_, ?_, ?_, ?_, hR⟩
    all_goals simp only [*, put_slot, put_room, entry_slot, ↓reduceIte, Nat.reduceEqDiff, reduceCtorEq, List.getD_cons_zero]
    all_goals rfl
  · rintro st K ⟨i, roots, hi, hro, g5, r5, g4, g0, g2, r2, g3, r3, hO⟩ hn hx hr
    have hl : ns.length ≤ 140737488355328 := HL
    have hO' : (R1, R2) = chkG (ns.take i) (ns.drop i) roots := hO
    clear hO
    by_cases h : i < ns.length
    · have g9 : (i : Int) < ns.length := by omega
      have hw := wrapS i (by omega)
      have hwr : IntKind.i64.wrap (roots + 1) = roots + 1 := wrap64 _ (by omega) (by omega)
      obtain ⟨x, hx1⟩ := some_at h
      have hS : BigD ns := HS
      have hsx := hS.2 x (List.mem_of_getElem? hx1)
      rw [chkG_at roots hx1] at hO'
      have ha := getD_map (f := Nd.d) hx1
      have q1 : callL Tryd.prog (ext11b chk) 11 [.list ((ns.map Nd.d).take i), x.d] [] = some (.bool (nodeF (ns.take i) x), [.no], []) := by
        rw [← List.map_take]
        exact rnode_L2 (ns.take i) x hsx
      have sz := szN ns
      have gle : (i : Int) ≤ ns.length := by omega
      rw [ndat] at ha q1
      have hrt : rootB x = (x.k == 1 && decide (x.p < 0)) := rfl
      rw [hrt] at hO'
      generalize x.at_.map At.d = LA at *
      generalize x.st.map D.str = LS at *
      generalize nodeF (ns.take i) x = b at *
      generalize x.p = p at *
      generalize x.k = k at *
      generalize x.sp = sp at *
      generalize x.nm = nm at *
      generalize x.tx = tx at *
      clear hS hsx hrt hx1
      cases b with
      | false =>
        rw [if_neg (by decide)] at hO'
        simp only [Prod.mk.injEq] at hO'
        obtain ⟨o1, o2⟩ := hO'
        subst o1 o2
        clear hn hx hl hR
        repeat' (first
    | simp only [*, go_seq, go_cond, go_block, go_skip, go_retc, go_region, go_draw, go_ops_nil, go_ops, go_dops1, go_dops, okG_some, cwD_bool, gw_true, guardG, opG, opD, isPtr, isStore, inB, sval, stake, eats, eaters, get, cval, cval1, croom, St.taken, put_slot, put_room, dem_none, ↓reduceIte, Nat.reduceEqDiff, Nat.reduceLT, reduceCtorEq, decide_true, List.filterMap_cons, List.filterMap_nil, Option.bind_some, Option.map_some, Option.map_none, List.contains_cons, List.contains_nil, List.map_cons, List.map_nil, beq_self_eq_true, Bool.or_false, Bool.or_true, Bool.and_true, Nat.reduceBEq, Bool.false_eq_true, dbin, dIntBin, row11, frz11, frzOf_def, frz_nil, loadsOwn, Bool.not_false, pureB, leaf, leafN, List.all_cons, List.all_nil, List.nil_append, List.append_nil, List.length_nil, List.length_cons, dun, List.drop_zero, dcells, Nat.zero_add, Nat.reduceAdd, Int.natCast_nonneg, Int.toNat_natCast, and_self, dopt, dbound, plainR_s, dp26, ia22, len22, sl22]
    | (refine drW_intro (by kernel_rfl) ?_)
    | (refine gw_intro (fun h => ?_) (fun h => ?_) <;> (try simp only [beq_true, beq_false, Bool.not_eq_eq_eq_not, Bool.not_true, Bool.not_false, Bool.not_not, decide_eq_true_eq, decide_eq_false_iff_not, ge_iff_le, gt_iff_lt] at h)))
        refine hr _ ?_
        repeat' (first
    | simp only [*, put_slot, put_room, put_box, dem_slot, dem_box, dem_room, endQ, endR, endV, rvars, rvar, room1, ↓reduceIte, Nat.reduceEqDiff, List.map_cons, List.map_nil, pureB, leaf, leafN, List.take_nil, List.range_zero, and_self]
    | (refine drW_intro (by kernel_rfl) ?_)
    | (refine gw_intro (fun h => ?_) (fun h => ?_) <;> (try simp only [beq_true, beq_false, Bool.not_eq_eq_eq_not, Bool.not_true, Bool.not_false, Bool.not_not, decide_eq_true_eq, decide_eq_false_iff_not, ge_iff_le, gt_iff_lt] at h)))
      | true =>
        rw [if_pos rfl] at hO'
        by_cases c1 : p < 0
        · cases c2 : (k == 1) with
          | true =>
            rw [c2, decide_eq_true c1, Bool.true_and, if_pos rfl] at hO'
            have HO := Hd.mk hO'
            have HR := Hd.mk hro
            clear hO' hx hr hl hro
            repeat' (first
    | simp only [*, go_nil, go_seq, go_cond, go_block, go_blk, go_skip, go_region, go_draw, go_ops_nil, go_ops, go_dops1, go_dops, okG_some, gwD_bool, cwD_bool, gw_true, gw_false, guardG, opG, opD, isPtr, isStore, inB, sval, stake, eats, eaters, get, cval, cval1, croom, St.taken, put_slot, put_room, dem_none, dem_slot, ↓reduceIte, Nat.reduceEqDiff, Nat.reduceLT, reduceCtorEq, decide_true, List.filterMap_cons, List.filterMap_nil, Option.bind_some, Option.map_some, Option.map_none, List.getElem?_cons_zero, List.getElem?_cons_succ, List.contains_cons, List.contains_nil, List.map_cons, List.map_nil, beq_self_eq_true, Bool.or_false, Bool.and_true, Nat.reduceBEq, Bool.false_eq_true, dbin, dIntBin, row11, frz11, frzOf_def, frz_nil, loadsOwn, Bool.not_true, pureB, leaf, leafN, List.all_cons, List.all_nil, List.nil_append, List.append_nil, List.length_nil, List.length_cons, dun, List.drop_zero, dcells, Nat.zero_add, Nat.reduceAdd, Int.natCast_nonneg, Int.toNat_natCast, and_self, Nat.add_zero, dopt, dbound, dStrBin, plainR_s, dp3, dp26, fa26_0, fa26_1, ia22, len22, sl22]
    | (refine drW_intro (by kernel_rfl) ?_)
    | (refine gw_intro (fun h => ?_) (fun h => ?_) <;> (try simp only [beq_true, beq_false, Bool.not_eq_eq_eq_not, Bool.not_true, Bool.not_false, Bool.not_not, decide_eq_true_eq, decide_eq_false_iff_not, ge_iff_le, gt_iff_lt] at h)))
            have hro : 0 ≤ roots ∧ roots ≤ i := HR
            refine hn _ ⟨i + 1, roots + 1, h, ⟨by omega, by omega⟩, ?_, ?_, ?_, ?_, ?_, ?_, ?_, ?_, HO⟩ ?_
            · simp only [*, put_slot, ↓reduceIte]
            · simp only [*, put_room, ↓reduceIte]
            · simp only [*, put_slot, dem_slot, ↓reduceIte, Nat.reduceEqDiff]
            · simp only [*, put_slot, dem_slot, ↓reduceIte, reduceCtorEq]
            · simp only [*, put_slot, dem_slot, ↓reduceIte, Nat.reduceEqDiff]
            · simp only [*, put_room, dem_room, ↓reduceIte, Nat.reduceEqDiff]
            · simp only [*, put_slot, dem_slot, ↓reduceIte, Nat.reduceEqDiff]
            · simp only [*, put_room, dem_room, ↓reduceIte, Nat.reduceEqDiff]
            · simp only [slotI, *, put_slot, ↓reduceIte, Int.toNat_natCast]
              omega
          | false =>
            rw [c2, Bool.false_and, if_neg (by decide)] at hO'
            have HO := Hd.mk hO'
            have HR := Hd.mk hro
            clear hO' hx hr hl hro
            repeat' (first
    | simp only [*, go_nil, go_seq, go_cond, go_block, go_blk, go_skip, go_region, go_draw, go_ops_nil, go_ops, go_dops1, go_dops, okG_some, gwD_bool, cwD_bool, gw_true, gw_false, guardG, opG, opD, isPtr, isStore, inB, sval, stake, eats, eaters, get, cval, cval1, croom, St.taken, put_slot, put_room, dem_none, ↓reduceIte, Nat.reduceEqDiff, Nat.reduceLT, reduceCtorEq, decide_true, List.filterMap_cons, List.filterMap_nil, Option.bind_some, Option.map_some, Option.map_none, List.getElem?_cons_zero, List.getElem?_cons_succ, List.contains_cons, List.contains_nil, List.map_cons, List.map_nil, beq_self_eq_true, Bool.or_false, Bool.and_true, Nat.reduceBEq, Bool.false_eq_true, dbin, dIntBin, row11, frz11, frzOf_def, frz_nil, loadsOwn, Bool.not_true, pureB, leaf, leafN, List.all_cons, List.all_nil, List.nil_append, List.append_nil, List.length_nil, List.length_cons, dun, List.drop_zero, dcells, Nat.zero_add, Nat.reduceAdd, Int.natCast_nonneg, Int.toNat_natCast, and_self, Nat.add_zero, dopt, dbound, dStrBin, plainR_s, dp3, dp26, fa26_0, fa26_1, ia22, len22, sl22]
    | (refine drW_intro (by kernel_rfl) ?_)
    | (refine gw_intro (fun h => ?_) (fun h => ?_) <;> (try simp only [beq_true, beq_false, Bool.not_eq_eq_eq_not, Bool.not_true, Bool.not_false, Bool.not_not, decide_eq_true_eq, decide_eq_false_iff_not, ge_iff_le, gt_iff_lt] at h)))
            have hro : 0 ≤ roots ∧ roots ≤ i := HR
            refine hn _ ⟨i + 1, roots, h, ⟨by omega, by omega⟩, ?_, ?_, ?_, ?_, ?_, ?_, ?_, ?_, HO⟩ ?_
            · simp only [*, put_slot, ↓reduceIte]
            · simp only [*, put_room, ↓reduceIte]
            · simp only [*, put_slot, dem_slot, ↓reduceIte, Nat.reduceEqDiff]
            · simp only [*, put_slot, dem_slot, ↓reduceIte, reduceCtorEq]
            · simp only [*, put_slot, dem_slot, ↓reduceIte, Nat.reduceEqDiff]
            · simp only [*, put_room, dem_room, ↓reduceIte, Nat.reduceEqDiff]
            · simp only [*, put_slot, dem_slot, ↓reduceIte, Nat.reduceEqDiff]
            · simp only [*, put_room, dem_room, ↓reduceIte, Nat.reduceEqDiff]
            · simp only [slotI, *, put_slot, ↓reduceIte, Int.toNat_natCast]
              omega
        · rw [decide_eq_false c1, Bool.and_false, if_neg (by decide)] at hO'
          have HO := Hd.mk hO'
          have HR := Hd.mk hro
          clear hO' hx hr hl hro
          repeat' (first
    | simp only [*, go_nil, go_seq, go_cond, go_block, go_blk, go_skip, go_region, go_draw, go_ops_nil, go_ops, go_dops1, go_dops, okG_some, gwD_bool, cwD_bool, gw_true, gw_false, guardG, opG, opD, isPtr, isStore, inB, sval, stake, eats, eaters, get, cval, cval1, croom, St.taken, put_slot, put_room, dem_none, ↓reduceIte, Nat.reduceEqDiff, Nat.reduceLT, reduceCtorEq, decide_true, decide_false, List.filterMap_cons, List.filterMap_nil, Option.bind_some, Option.map_some, Option.map_none, List.getElem?_cons_zero, List.getElem?_cons_succ, List.contains_cons, List.contains_nil, List.map_cons, List.map_nil, Bool.or_false, Bool.and_true, Nat.reduceBEq, Bool.false_eq_true, dbin, dIntBin, row11, frz11, frzOf_def, frz_nil, loadsOwn, beq_true, Bool.not_true, pureB, leaf, leafN, List.all_cons, List.all_nil, List.nil_append, List.append_nil, List.length_nil, List.length_cons, dun, List.drop_zero, dcells, Nat.zero_add, Nat.reduceAdd, Int.natCast_nonneg, Int.toNat_natCast, and_self, Nat.add_zero, dopt, dbound, dStrBin, plainR_s, dp3, dp26, fa26_0, ia22, len22, sl22]
    | (refine drW_intro (by kernel_rfl) ?_)
    | (refine gw_intro (fun h => ?_) (fun h => ?_) <;> (try simp only [beq_true, beq_false, Bool.not_eq_eq_eq_not, Bool.not_true, Bool.not_false, Bool.not_not, decide_eq_true_eq, decide_eq_false_iff_not, ge_iff_le, gt_iff_lt] at h)))
          have hro : 0 ≤ roots ∧ roots ≤ i := HR
          refine hn _ ⟨i + 1, roots, h, ⟨by omega, by omega⟩, ?_, ?_, ?_, ?_, ?_, ?_, ?_, ?_, HO⟩ ?_
          · simp only [*, put_slot, ↓reduceIte]
          · simp only [*, put_room, ↓reduceIte]
          · simp only [*, put_slot, dem_slot, ↓reduceIte, Nat.reduceEqDiff]
          · simp only [*, put_slot, dem_slot, ↓reduceIte, reduceCtorEq]
          · simp only [*, put_slot, dem_slot, ↓reduceIte, Nat.reduceEqDiff]
          · simp only [*, put_room, dem_room, ↓reduceIte, Nat.reduceEqDiff]
          · simp only [*, put_slot, dem_slot, ↓reduceIte, Nat.reduceEqDiff]
          · simp only [*, put_room, dem_room, ↓reduceIte, Nat.reduceEqDiff]
          · simp only [slotI, *, put_slot, ↓reduceIte, Int.toNat_natCast]
            omega
    · have g9 : ¬ (i : Int) < ns.length := by omega
      have hie : i = ns.length := by omega
      rw [chkG_end roots hie.symm] at hO'
      by_cases c1 : roots = 1
      · rw [if_pos c1] at hO'
        simp only [Prod.mk.injEq] at hO'
        obtain ⟨o1, o2⟩ := hO'
        subst o1 o2 c1
        have b1 : ((1 : Int) != 1) = false := rfl
        clear hn hr hl hR hie
        repeat' (first
    | simp only [*, go_nil, go_seq, go_cond, go_exit, go_xcode, go_region, go_ops_nil, go_ops, okG_some, cwD_bool, gw_false, guardG, opG, isPtr, inB, sval, stake, eats, eaters, get, St.taken, put_slot, dem_none, ↓reduceIte, Nat.reduceEqDiff, Nat.reduceLT, reduceCtorEq, decide_true, decide_false, List.filterMap_cons, List.filterMap_nil, Option.map_some, List.contains_cons, List.contains_nil, List.map_cons, List.map_nil, Bool.or_false, Bool.false_eq_true, dbin, dIntBin, row11, frz11, frzOf_def, frz_nil, len22]
    | (refine drW_intro (by kernel_rfl) ?_)
    | (refine gw_intro (fun h => ?_) (fun h => ?_) <;> (try simp only [beq_true, beq_false, Bool.not_eq_eq_eq_not, Bool.not_true, Bool.not_false, Bool.not_not, decide_eq_true_eq, decide_eq_false_iff_not, ge_iff_le, gt_iff_lt] at h)))
        refine hx _ _ ?_
        repeat' (first
    | simp only [*, go_seq, go_cond, go_skip, go_retc, go_xblk, go_region, go_ops_nil, go_ops, okG_some, cwD_bool, gw_false, guardG, opG, inB, sval, stake, eats, eaters, get, cval, cval1, croom, St.taken, put_slot, put_room, put_box, dem_none, endQ, endR, endV, rvars, rvar, room1, ↓reduceIte, Nat.reduceEqDiff, Nat.reduceLT, decide_true, List.filterMap_cons, List.filterMap_nil, Option.map_some, List.contains_cons, List.contains_nil, List.map_cons, List.map_nil, Bool.or_false, Bool.false_eq_true, dbin, dIntBin, row11, frz11, frzOf_def, frz_nil, pureB, leaf, leafN, List.take_nil, List.range_zero, and_self]
    | (refine drW_intro (by kernel_rfl) ?_)
    | (refine gw_intro (fun h => ?_) (fun h => ?_) <;> (try simp only [beq_true, beq_false, Bool.not_eq_eq_eq_not, Bool.not_true, Bool.not_false, Bool.not_not, decide_eq_true_eq, decide_eq_false_iff_not, ge_iff_le, gt_iff_lt] at h)))
      · rw [if_neg c1] at hO'
        simp only [Prod.mk.injEq] at hO'
        obtain ⟨o1, o2⟩ := hO'
        have b1 : (roots != 1) = true := by simpa using c1
        subst hie
        subst o1 o2
        clear hn hr hl hR c1
        repeat' (first
    | simp only [*, go_nil, go_seq, go_cond, go_exit, go_xcode, go_region, go_ops_nil, go_ops, okG_some, cwD_bool, gw_false, guardG, opG, isPtr, inB, sval, stake, eats, eaters, get, St.taken, put_slot, dem_none, ↓reduceIte, Nat.reduceEqDiff, Nat.reduceLT, reduceCtorEq, decide_true, decide_false, List.filterMap_cons, List.filterMap_nil, Option.map_some, List.contains_cons, List.contains_nil, List.map_cons, List.map_nil, Bool.or_false, Bool.false_eq_true, dbin, dIntBin, row11, frz11, frzOf_def, frz_nil, len22]
    | (refine drW_intro (by kernel_rfl) ?_)
    | (refine gw_intro (fun h => ?_) (fun h => ?_) <;> (try simp only [beq_true, beq_false, Bool.not_eq_eq_eq_not, Bool.not_true, Bool.not_false, Bool.not_not, decide_eq_true_eq, decide_eq_false_iff_not, ge_iff_le, gt_iff_lt] at h)))
        refine hx _ _ ?_
        repeat' (first
    | simp only [*, go_seq, go_cond, go_retc, go_xblk, go_region, go_ops_nil, go_ops, okG_some, cwD_bool, gw_true, guardG, opG, isPtr, inB, sval, stake, eats, eaters, get, cval, cval1, croom, St.taken, put_slot, put_room, put_box, dem_none, dem_slot, dem_box, dem_room, endQ, endR, endV, rvars, rvar, room1, ↓reduceIte, Nat.reduceEqDiff, Nat.reduceLT, reduceCtorEq, decide_true, List.filterMap_cons, List.filterMap_nil, Option.map_some, List.contains_cons, List.contains_nil, List.map_cons, List.map_nil, beq_self_eq_true, Bool.or_false, Bool.or_true, Nat.reduceBEq, Bool.false_eq_true, dbin, dIntBin, row11, frz11, frzOf_def, frz_nil, pureB, leaf, leafN, List.take_nil, List.range_zero, and_self, len22]
    | (refine drW_intro (by kernel_rfl) ?_)
    | (refine gw_intro (fun h => ?_) (fun h => ?_) <;> (try simp only [beq_true, beq_false, Bool.not_eq_eq_eq_not, Bool.not_true, Bool.not_false, Bool.not_not, decide_eq_true_eq, decide_eq_false_iff_not, ge_iff_le, gt_iff_lt] at h)))
/-- What Check hands back. -/
def errD (r : Int × Int) : D := if r.1 = 0 then .con .nilIface else faultD r.1 r.2
theorem fail_L (k a : Int) : callL Tryd.prog (ext11b chk) 43 [.int .i64 k, .int .i64 a] [] = some (faultD k a, [], []) := callL_ext rfl
set_option maxHeartbeats 16000000 in
theorem check_L (ns : List Nd) (hS : SmallD ns) : callL Tryd.prog (ext11b chk) 24 [.list (ns.map Nd.d)] [] = some (errD (chkF ns), [.no], []) := by
  have lN := lenM ns Nd.d
  have HL := Hd.mk hS.1
  have HS := Hd.mk hS
  clear hS
  obtain ⟨R, hR⟩ : ∃ R, Hd (R = errD (chkG (ns.take 0) (ns.drop 0) 0)) := ⟨_, rfl⟩
  rw [show errD (chkF ns) = R from (show R = errD (chkG (ns.take 0) (ns.drop 0) 0) from hR).symm]
  have hpb : pureB R = true := by
    have e : R = errD (chkG (ns.take 0) (ns.drop 0) 0) := hR
    rw [e]
    unfold errD
    split <;> rfl
  refine callK (m := 37) (res := [2]) (rs := [.tmp 2]) rfl Tryd.func24 rfl rfl rfl rfl rfl ?_
  repeat' (first
    | simp only [*, go_seq, go_block, go_loop, go_region, go_ops_nil, go_ops, okG_some, guardG, opG, isPtr, inB, sval, stake, eats, eaters, get, cval, cval1, croom, St.taken, put_slot, dem_none, entry_slot, ↓reduceIte, Nat.reduceLT, reduceCtorEq, decide_true, List.filterMap_cons, List.filterMap_nil, Option.map_some, List.getD_cons_zero, List.contains_cons, List.contains_nil, List.map_cons, List.map_nil, Bool.or_false, Bool.false_eq_true, row11, frz11, frzOf_def, frz_nil, List.length_nil, len22, frz11b]
    | (refine drW_intro (by kernel_rfl) ?_)
    | (refine gw_intro (fun h => ?_) (fun h => ?_) <;> (try simp only [beq_true, beq_false, Bool.not_eq_eq_eq_not, Bool.not_true, Bool.not_false, Bool.not_not, decide_eq_true_eq, decide_eq_false_iff_not, ge_iff_le, gt_iff_lt] at h)))
  refine loopH (fun st => ∃ (i : Nat) (roots : Int), i ≤ ns.length ∧ (0 ≤ roots ∧ roots ≤ i) ∧ st.slot 8 = .int .i64 i ∧ st.slot 3 = .int .i64 roots ∧ st.slot 0 = .list (ns.map Nd.d) ∧ st.slot 6 = .list (ns.map Nd.d) ∧ st.slot 7 = .int .i64 ns.length ∧ st.slot 2 = .con .nilIface ∧ st.room 2 = [] ∧ Hd (R = errD (chkG (ns.take i) (ns.drop i) roots))) (fun st => ns.length - slotI st 8) ?_ ?_
  · refine ⟨0, 0, Nat.zero_le _, ⟨by decide, by decide⟩, ?_, ?_, ?_, ?_, ?_, ?_, ?_, hR⟩
    all_goals simp only [*, put_slot, put_room, entry_slot, ↓reduceIte, Nat.reduceEqDiff, reduceCtorEq, List.getD_cons_zero]
    all_goals rfl
  · rintro st K ⟨i, roots, hi, hro, g8, g3, g0, g6, g7, g2, r2, hO⟩ hn hx hr
    have hl : ns.length ≤ 10000 := HL
    have hO' : R = errD (chkG (ns.take i) (ns.drop i) roots) := hO
    clear hO hpb
    by_cases h : i < ns.length
    · have g9 : (i : Int) < ns.length := by omega
      have hw := wrapS i (by omega)
      have hwr : IntKind.i64.wrap (roots + 1) = roots + 1 := wrap64 _ (by omega) (by omega)
      obtain ⟨x, hx1⟩ := some_at h
      have hS : SmallD ns := HS
      have hsx := hS.2 x (List.mem_of_getElem? hx1)
      rw [chkG_at roots hx1] at hO'
      have ha := getD_map (f := Nd.d) hx1
      have q1 : callL Tryd.prog (ext11b chk) 42 [.list ((ns.map Nd.d).take i), x.d] [] = some (.bool (nodeF (ns.take i) x), [.no], []) := by
        rw [← List.map_take]
        exact node_L (ns.take i) x hsx
      have sz := szN ns
      have gle : (i : Int) ≤ ns.length := by omega
      rw [ndat] at ha q1
      have hrt : rootB x = (x.k == 1 && decide (x.p < 0)) := rfl
      rw [hrt] at hO'
      generalize x.at_.map At.d = LA at *
      generalize x.st.map D.str = LS at *
      generalize nodeF (ns.take i) x = b at *
      generalize x.p = p at *
      generalize x.k = k at *
      generalize x.sp = sp at *
      generalize x.nm = nm at *
      generalize x.tx = tx at *
      clear hS hsx hrt hx1
      cases b with
      | false =>
        rw [if_neg (by decide)] at hO'
        have hO2 : R = faultD 10 i := hO'
        have hf := fail_L (chk := chk) 10 i
        unfold faultD at hO2 hf
        subst hO2
        clear hn hx hl hR hO'
        repeat' (first
    | simp only [*, go_seq, go_cond, go_block, go_skip, go_retc, go_region, go_draw, go_ops_nil, go_ops, go_dops1, go_dops, okG_some, okB_some, cwD_bool, gw_true, guardG, opG, opD, isPtr, isStore, inB, sval, stake, eats, eaters, get, cval, cval1, St.taken, put_slot, put_room, put_box, put_ctr, put_none, dem_none, dem_slot, dem_box, setBox_slot, setBox_room, setBox_box, ↓reduceIte, Nat.reduceEqDiff, Nat.reduceLT, Nat.reduceLeDiff, reduceCtorEq, decide_true, List.filterMap_cons, List.filterMap_nil, Option.bind_some, Option.map_some, Option.bind_none, Option.map_none, List.contains_cons, List.contains_nil, List.map_cons, List.map_nil, beq_self_eq_true, beq_iff_eq, Bool.or_false, Bool.and_true, Nat.reduceBEq, Bool.false_eq_true, dbin, dIntBin, okR, callG, row11, frz11, frzOf_def, frz_nil, allocKey, isAlloc, loadsOwn, Bool.not_false, pureB, leaf, leafN, List.all_cons, List.all_nil, List.nil_append, List.append_nil, List.length_nil, List.length_cons, List.find?_cons, List.find?_nil, dun, List.take_zero, List.drop_zero, List.drop_succ_cons, dcells, Nat.zero_add, Nat.reduceAdd, stepBox, Int.natCast_nonneg, Int.toNat_natCast, and_self, dopt, dbound, plainR_s, ty26, dp26, zr26, ia22, sl22, frz11b]
    | (refine drW_intro (by kernel_rfl) ?_)
    | (refine gw_intro (fun h => ?_) (fun h => ?_) <;> (try simp only [beq_true, beq_false, Bool.not_eq_eq_eq_not, Bool.not_true, Bool.not_false, Bool.not_not, decide_eq_true_eq, decide_eq_false_iff_not, ge_iff_le, gt_iff_lt] at h)))
        refine hr _ ?_
        repeat' (first
    | simp only [*, put_slot, put_room, put_box, dem_box, setBox_box, endQ, endR, endV, rvars, rvar, room1, ↓reduceIte, List.map_nil, pureB, leaf, leafN, List.take_nil, List.range_zero, and_self]
    | (refine drW_intro (by kernel_rfl) ?_)
    | (refine gw_intro (fun h => ?_) (fun h => ?_) <;> (try simp only [beq_true, beq_false, Bool.not_eq_eq_eq_not, Bool.not_true, Bool.not_false, Bool.not_not, decide_eq_true_eq, decide_eq_false_iff_not, ge_iff_le, gt_iff_lt] at h)))
      | true =>
        rw [if_pos rfl] at hO'
        by_cases c1 : p < 0
        · cases c2 : (k == 1) with
          | true =>
            rw [c2, decide_eq_true c1, Bool.true_and, if_pos rfl] at hO'
            have HO := Hd.mk hO'
            have HR := Hd.mk hro
            clear hO' hx hr hl hro
            repeat' (first
    | simp only [*, go_nil, go_seq, go_cond, go_block, go_blk, go_skip, go_region, go_draw, go_ops_nil, go_ops, go_dops1, go_dops, okG_some, okB_some, gwD_bool, cwD_bool, gw_true, gw_false, guardG, opG, opD, isPtr, isStore, inB, sval, stake, eats, eaters, get, cval, cval1, St.taken, put_slot, put_room, put_box, put_ctr, put_none, dem_none, dem_slot, dem_box, setBox_slot, setBox_room, setBox_box, ↓reduceIte, Nat.reduceEqDiff, Nat.reduceLT, Nat.reduceLeDiff, reduceCtorEq, decide_true, List.filterMap_cons, List.filterMap_nil, Option.bind_some, Option.map_some, Option.bind_none, Option.map_none, List.getElem?_cons_zero, List.getElem?_cons_succ, List.contains_cons, List.contains_nil, List.map_cons, List.map_nil, beq_self_eq_true, beq_iff_eq, Bool.or_false, Bool.and_true, Nat.reduceBEq, Bool.false_eq_true, dbin, dIntBin, row11, frz11, frzOf_def, frz_nil, allocKey, isAlloc, loadsOwn, Bool.not_true, pureB, leaf, leafN, List.all_cons, List.all_nil, List.nil_append, List.append_nil, List.length_nil, List.length_cons, List.find?_cons, List.find?_nil, dun, List.take_zero, List.drop_zero, List.drop_succ_cons, dcells, Nat.zero_add, Nat.reduceAdd, stepBox, Int.natCast_nonneg, Int.toNat_natCast, and_self, Nat.add_zero, dopt, dbound, dStrBin, plainR_s, dp3, ty26, dp26, fp26_0, fp26_1, zr26, ia22, sl22, frz11b]
    | (refine drW_intro (by kernel_rfl) ?_)
    | (refine gw_intro (fun h => ?_) (fun h => ?_) <;> (try simp only [beq_true, beq_false, Bool.not_eq_eq_eq_not, Bool.not_true, Bool.not_false, Bool.not_not, decide_eq_true_eq, decide_eq_false_iff_not, ge_iff_le, gt_iff_lt] at h)))
            have hro : 0 ≤ roots ∧ roots ≤ i := HR
            refine hn _ ⟨i + 1, roots + 1, h, ⟨by omega, by omega⟩, ?_, ?_, ?_, ?_, ?_, ?_, ?_, HO⟩ ?_
            · simp only [*, put_slot, ↓reduceIte]
            · simp only [*, put_slot, ↓reduceIte, Nat.reduceEqDiff]
            · simp only [*, put_slot, dem_slot, setBox_slot, ↓reduceIte, reduceCtorEq]
            · simp only [*, put_slot, dem_slot, setBox_slot, ↓reduceIte, Nat.reduceEqDiff]
            · simp only [*, put_slot, dem_slot, setBox_slot, ↓reduceIte, Nat.reduceEqDiff]
            · simp only [*, put_slot, dem_slot, setBox_slot, ↓reduceIte, Nat.reduceEqDiff]
            · simp only [*, put_room, dem_room, setBox_room, ↓reduceIte, Nat.reduceEqDiff]
            · simp only [slotI, *, put_slot, ↓reduceIte, Int.toNat_natCast]
              omega
          | false =>
            rw [c2, Bool.false_and, if_neg (by decide)] at hO'
            have HO := Hd.mk hO'
            have HR := Hd.mk hro
            clear hO' hx hr hl hro
            repeat' (first
    | simp only [*, go_nil, go_seq, go_cond, go_block, go_blk, go_skip, go_region, go_draw, go_ops_nil, go_ops, go_dops1, go_dops, okG_some, okB_some, gwD_bool, cwD_bool, gw_true, gw_false, guardG, opG, opD, isPtr, isStore, inB, sval, stake, eats, eaters, get, cval, cval1, St.taken, put_slot, put_room, put_box, put_ctr, put_none, dem_none, dem_slot, dem_box, setBox_slot, setBox_room, setBox_box, ↓reduceIte, Nat.reduceEqDiff, Nat.reduceLT, Nat.reduceLeDiff, reduceCtorEq, decide_true, List.filterMap_cons, List.filterMap_nil, Option.bind_some, Option.map_some, Option.bind_none, Option.map_none, List.getElem?_cons_zero, List.getElem?_cons_succ, List.contains_cons, List.contains_nil, List.map_cons, List.map_nil, beq_iff_eq, Bool.or_false, Bool.and_true, Nat.reduceBEq, Bool.false_eq_true, dbin, dIntBin, row11, frz11, frzOf_def, frz_nil, allocKey, isAlloc, loadsOwn, beq_true, Bool.not_true, pureB, leaf, leafN, List.all_cons, List.all_nil, List.nil_append, List.append_nil, List.length_nil, List.length_cons, List.find?_cons, List.find?_nil, dun, List.take_zero, List.drop_zero, List.drop_succ_cons, dcells, Nat.zero_add, Nat.reduceAdd, stepBox, Int.natCast_nonneg, Int.toNat_natCast, and_self, dopt, dbound, dStrBin, plainR_s, dp3, ty26, dp26, fp26_1, zr26, ia22, sl22, frz11b]
    | (refine drW_intro (by kernel_rfl) ?_)
    | (refine gw_intro (fun h => ?_) (fun h => ?_) <;> (try simp only [beq_true, beq_false, Bool.not_eq_eq_eq_not, Bool.not_true, Bool.not_false, Bool.not_not, decide_eq_true_eq, decide_eq_false_iff_not, ge_iff_le, gt_iff_lt] at h)))
            have hro : 0 ≤ roots ∧ roots ≤ i := HR
            refine hn _ ⟨i + 1, roots, h, ⟨by omega, by omega⟩, ?_, ?_, ?_, ?_, ?_, ?_, ?_, HO⟩ ?_
            · simp only [*, put_slot, ↓reduceIte]
            · simp only [*, put_slot, dem_slot, setBox_slot, ↓reduceIte, Nat.reduceEqDiff]
            · simp only [*, put_slot, dem_slot, setBox_slot, ↓reduceIte, reduceCtorEq]
            · simp only [*, put_slot, dem_slot, setBox_slot, ↓reduceIte, Nat.reduceEqDiff]
            · simp only [*, put_slot, dem_slot, setBox_slot, ↓reduceIte, Nat.reduceEqDiff]
            · simp only [*, put_slot, dem_slot, setBox_slot, ↓reduceIte, Nat.reduceEqDiff]
            · simp only [*, put_room, dem_room, setBox_room, ↓reduceIte, Nat.reduceEqDiff]
            · simp only [slotI, *, put_slot, ↓reduceIte, Int.toNat_natCast]
              omega
        · rw [decide_eq_false c1, Bool.and_false, if_neg (by decide)] at hO'
          have HO := Hd.mk hO'
          have HR := Hd.mk hro
          clear hO' hx hr hl hro
          have hlt : i + 1 ≤ ns.length := h
          repeat' (first
    | simp only [*, go_nil, go_seq, go_cond, go_block, go_blk, go_skip, go_region, go_draw, go_ops_nil, go_ops, go_dops1, go_dops, okG_some, okB_some, gwD_bool, cwD_bool, gw_true, gw_false, guardG, opG, opD, isPtr, isStore, inB, sval, stake, eats, eaters, get, cval, cval1, St.taken, put_slot, put_room, put_box, put_ctr, put_none, dem_none, dem_slot, dem_box, setBox_slot, setBox_room, setBox_box, ↓reduceIte, Nat.reduceEqDiff, Nat.reduceLT, Nat.reduceLeDiff, reduceCtorEq, decide_true, decide_false, List.filterMap_cons, List.filterMap_nil, Option.bind_some, Option.map_some, Option.bind_none, Option.map_none, List.getElem?_cons_zero, List.getElem?_cons_succ, List.contains_cons, List.contains_nil, List.map_cons, List.map_nil, beq_self_eq_true, beq_iff_eq, Bool.or_false, Bool.and_true, Nat.reduceBEq, Bool.false_eq_true, dbin, dIntBin, row11, frz11, frzOf_def, frz_nil, allocKey, isAlloc, loadsOwn, beq_true, Bool.not_true, pureB, leaf, leafN, List.all_cons, List.all_nil, List.nil_append, List.append_nil, List.length_nil, List.length_cons, List.find?_cons, List.find?_nil, dun, List.take_zero, List.drop_zero, List.drop_succ_cons, dcells, Nat.zero_add, Nat.reduceAdd, stepBox, Int.natCast_nonneg, Int.toNat_natCast, and_self, Nat.add_zero, dopt, dbound, dStrBin, plainR_s, dp3, ty26, dp26, fp26_0, fp26_1, zr26, ia22, sl22, frz11b]
    | (refine drW_intro (by kernel_rfl) ?_)
    | (refine gw_intro (fun h => ?_) (fun h => ?_) <;> (try simp only [beq_true, beq_false, Bool.not_eq_eq_eq_not, Bool.not_true, Bool.not_false, Bool.not_not, decide_eq_true_eq, decide_eq_false_iff_not, ge_iff_le, gt_iff_lt] at h)))
          all_goals (
            have hro : 0 ≤ roots ∧ roots ≤ i := HR
            refine hn _ ⟨i + 1, roots, hlt, ⟨by omega, by omega⟩, ?_, ?_, ?_, ?_, ?_, ?_, ?_, HO⟩ ?_
            · simp only [*, put_slot, ↓reduceIte]
            · simp only [*, put_slot, dem_slot, setBox_slot, ↓reduceIte, Nat.reduceEqDiff]
            · simp only [*, put_slot, dem_slot, setBox_slot, ↓reduceIte, reduceCtorEq]
            · simp only [*, put_slot, dem_slot, setBox_slot, ↓reduceIte, Nat.reduceEqDiff]
            · simp only [*, put_slot, dem_slot, setBox_slot, ↓reduceIte, Nat.reduceEqDiff]
            · simp only [*, put_slot, dem_slot, setBox_slot, ↓reduceIte, Nat.reduceEqDiff]
            · simp only [*, put_room, dem_room, setBox_room, ↓reduceIte, Nat.reduceEqDiff]
            · simp only [slotI, *, put_slot, ↓reduceIte, Int.toNat_natCast]
              omega)
    · have g9 : ¬ (i : Int) < ns.length := by omega
      have hie : i = ns.length := by omega
      rw [chkG_end roots hie.symm] at hO'
      by_cases c1 : roots = 1
      · rw [if_pos c1] at hO'
        have hO2 : R = .con .nilIface := hO'
        subst hO2 c1
        have b1 : ((1 : Int) != 1) = false := rfl
        clear hn hr hl hR hie hO'
        repeat' (first
    | simp only [*, go_nil, go_seq, go_cond, go_exit, go_xcode, go_region, go_ops_nil, go_ops, okG_some, cwD_bool, gw_false, guardG, opG, inB, sval, stake, eats, eaters, get, put_slot, dem_none, ↓reduceIte, Nat.reduceLT, decide_true, decide_false, List.filterMap_cons, List.filterMap_nil, Option.map_some, List.contains_cons, List.contains_nil, Bool.or_false, Bool.false_eq_true, dbin, dIntBin, row11, frz_nil, frz11b]
    | (refine drW_intro (by kernel_rfl) ?_)
    | (refine gw_intro (fun h => ?_) (fun h => ?_) <;> (try simp only [beq_true, beq_false, Bool.not_eq_eq_eq_not, Bool.not_true, Bool.not_false, Bool.not_not, decide_eq_true_eq, decide_eq_false_iff_not, ge_iff_le, gt_iff_lt] at h)))
        refine hx _ _ ?_
        repeat' (first
    | simp only [*, go_seq, go_cond, go_skip, go_retc, go_xblk, go_region, go_ops_nil, go_ops, okG_some, cwD_bool, gw_false, guardG, opG, inB, sval, stake, eats, eaters, get, cval, cval1, croom, St.taken, put_slot, put_room, put_box, dem_none, endQ, endR, endV, rvars, rvar, room1, ↓reduceIte, Nat.reduceEqDiff, Nat.reduceLT, decide_true, List.filterMap_cons, List.filterMap_nil, Option.map_some, List.contains_cons, List.contains_nil, List.map_nil, Bool.or_false, Bool.false_eq_true, dbin, dIntBin, row11, frz11, frzOf_def, frz_nil, pureB, leaf, leafN, List.take_nil, List.range_zero, and_self, frz11b]
    | (refine drW_intro (by kernel_rfl) ?_)
    | (refine gw_intro (fun h => ?_) (fun h => ?_) <;> (try simp only [beq_true, beq_false, Bool.not_eq_eq_eq_not, Bool.not_true, Bool.not_false, Bool.not_not, decide_eq_true_eq, decide_eq_false_iff_not, ge_iff_le, gt_iff_lt] at h)))
      · rw [if_neg c1] at hO'
        have hO2 : R = faultD 15 i := hO'
        have b1 : (roots != 1) = true := by simpa using c1
        subst hie
        have hf := fail_L (chk := chk) 15 ns.length
        unfold faultD at hO2 hf
        subst hO2
        clear hn hr hl hR c1 hO'
        repeat' (first
    | simp only [*, go_nil, go_seq, go_cond, go_exit, go_xcode, go_region, go_ops_nil, go_ops, okG_some, cwD_bool, gw_false, guardG, opG, inB, sval, stake, eats, eaters, get, put_slot, dem_none, ↓reduceIte, Nat.reduceLT, decide_true, decide_false, List.filterMap_cons, List.filterMap_nil, Option.map_some, List.contains_cons, List.contains_nil, Bool.or_false, Bool.false_eq_true, dbin, dIntBin, row11, frz_nil, frz11b]
    | (refine drW_intro (by kernel_rfl) ?_)
    | (refine gw_intro (fun h => ?_) (fun h => ?_) <;> (try simp only [beq_true, beq_false, Bool.not_eq_eq_eq_not, Bool.not_true, Bool.not_false, Bool.not_not, decide_eq_true_eq, decide_eq_false_iff_not, ge_iff_le, gt_iff_lt] at h)))
        refine hx _ _ ?_
        repeat' (first
    | simp only [*, go_seq, go_cond, go_retc, go_xblk, go_region, go_ops_nil, go_ops, okG_some, cwD_bool, gw_true, guardG, opG, isPtr, inB, sval, stake, eats, eaters, get, cval, cval1, St.taken, put_slot, put_room, put_box, dem_none, dem_box, endQ, endR, endV, rvars, rvar, room1, ↓reduceIte, Nat.reduceEqDiff, Nat.reduceLT, reduceCtorEq, decide_true, List.filterMap_cons, List.filterMap_nil, Option.map_some, List.contains_cons, List.contains_nil, List.map_cons, List.map_nil, beq_self_eq_true, Bool.or_false, Bool.and_true, Nat.reduceBEq, Bool.false_eq_true, dbin, dIntBin, okR, callG, row11, frz11, frzOf_def, frz_nil, pureB, leaf, leafN, List.all_cons, List.all_nil, List.nil_append, List.append_nil, List.take_nil, List.range_zero, and_self, len22]
    | (refine drW_intro (by kernel_rfl) ?_)
    | (refine gw_intro (fun h => ?_) (fun h => ?_) <;> (try simp only [beq_true, beq_false, Bool.not_eq_eq_eq_not, Bool.not_true, Bool.not_false, Bool.not_not, decide_eq_true_eq, decide_eq_false_iff_not, ge_iff_le, gt_iff_lt] at h)))
end Go.Av
/- Chapter 11: the tree's types, and what simple operations on them come to. -/
set_option maxRecDepth 10000
namespace Go.Av
open Go.Proofs
theorem ty57 : aggOf Tryd.prog 57 = some false := by kernel_rfl
theorem dp57 (cs : List D) (off : Nat) : dpart Tryd.prog 57 cs off = cs[off]? := by simp only [dpart, ty57]
theorem fa59_0 (d : D) (off : Nat) : dfieldAddr Tryd.prog 59 (.fix d off) 0 = some (.fix d (off + 0)) := by kernel_rfl
theorem fa59_1 (d : D) (off : Nat) : dfieldAddr Tryd.prog 59 (.fix d off) 1 = some (.fix d (off + 1)) := by kernel_rfl
theorem fa59_2 (d : D) (off : Nat) : dfieldAddr Tryd.prog 59 (.fix d off) 2 = some (.fix d (off + 2)) := by kernel_rfl
theorem fa59_3 (d : D) (off : Nat) : dfieldAddr Tryd.prog 59 (.fix d off) 3 = some (.fix d (off + 3)) := by kernel_rfl
theorem lk57 (ks : List Int) (ds : List D) (n : Int) : dlookup Tryd.prog 57 (.imap ks ds) (.int .i64 n) = some (kfind n ks ds) := by kernel_rfl
theorem en34 (t : TypeId) (d : D) : dbin Tryd.prog true .neq 34 (.iface t d) (.con .nilIface) = some (.bool true) := by kernel_rfl
theorem en34n : dbin Tryd.prog true .neq 34 (.con .nilIface) (.con .nilIface) = some (.bool false) := by kernel_rfl
theorem ee34n : dbin Tryd.prog true .eql 34 (.con .nilIface) (.con .nilIface) = some (.bool true) := by kernel_rfl
theorem ee32 (d : D) (off : Nat) : dbin Tryd.prog true .eql 32 (.fix d off) (.con (.pointer none)) = some (.bool false) := by kernel_rfl
theorem en32 (d : D) (off : Nat) : dbin Tryd.prog true .neq 32 (.fix d off) (.con (.pointer none)) = some (.bool true) := by kernel_rfl
theorem shA34 : shapeOk Tryd.prog 34 (.con .nilIface) (.con .nilIface) = true := by kernel_rfl
theorem shB34 (t : TypeId) (d : D) : shapeOk Tryd.prog 34 (.iface t d) (.con .nilIface) = true := by kernel_rfl
theorem shC32 (d : D) (off : Nat) : shapeOk Tryd.prog 32 (.fix d off) (.con (.pointer none)) = true := by kernel_rfl
theorem shD32 : shapeOk Tryd.prog 32 (.con (.pointer none)) (.con (.pointer none)) = true := by kernel_rfl
theorem ap22 (es fs : List D) (r : List Room) : dappend Tryd.prog #[22, 22] (.list es) (.list fs) r = if es.length + fs.length ≤ 1073741824 ∧ szOk 7 fs = true ∧ szOk 7 es = true ∧ (r = [.full] ∨ r = [.own 26]) then some (.list (es ++ fs), 26) else none := by
  have : (Tryd.prog.info? 26).map (fun i => (infoOk i, i.size)) = some (true, 7) := by kernel_rfl
  obtain ⟨i, hi, h⟩ := Option.map_eq_some_iff.1 this
  injection h with h1 h2
  simp only [dappend, ty22.1, hi, h1, h2, if_true, true_and]
theorem ap39 (es fs : List D) (r : List Room) : dappend Tryd.prog #[39, 39] (.list es) (.list fs) r = if es.length + fs.length ≤ 1073741824 ∧ szOk 1 fs = true ∧ szOk 1 es = true ∧ (r = [.full] ∨ r = [.own 3]) then some (.list (es ++ fs), 3) else none := by
  have : (Tryd.prog.info? 3).map (fun i => (infoOk i, i.size)) = some (true, 1) := by kernel_rfl
  obtain ⟨i, hi, h⟩ := Option.map_eq_some_iff.1 this
  injection h with h1 h2
  simp only [dappend, ty39.1, hi, h1, h2, if_true, true_and]
theorem bs22e : dbuildSlice Tryd.prog 22 0 [] = some (.list []) := by kernel_rfl
theorem bs39e : dbuildSlice Tryd.prog 39 0 [] = some (.list []) := by kernel_rfl
theorem bs39 (z : Int) : dbuildSlice Tryd.prog 39 1 [(0, .int .i64 z)] = some (.list [.int .i64 z]) := by kernel_rfl
theorem bs22 (p k : Int) (sp nm : List UInt8) (la ls : List D) (tx : List UInt8) : dbuildSlice Tryd.prog 22 1 [(0, .agg [.int .i64 p, .int .i64 k, .str sp, .str nm, .list la, .list ls, .str tx])] = some (.list [.agg [.int .i64 p, .int .i64 k, .str sp, .str nm, .list la, .list ls, .str tx]]) := by kernel_rfl
theorem bd26 : dbuild Tryd.prog 26 [] = some (.agg [.int .i64 0, .int .i64 0, .str [], .str [], .list [], .list [], .str []]) := by kernel_rfl
end Go.Av
/- Chapter 11: what a tree tells. -/
set_option linter.unusedSimpArgs false
set_option linter.unusedVariables false
set_option linter.unusedSectionVars false
set_option maxRecDepth 100000
namespace Go.Av
open Go.Proofs
variable {chk : List D → Bool}
theorem elem_L (ns : List Nd) (n : Int) : callL Tryd.prog (ext11b chk) 31 [treeN ns, .int .i64 n] [] = some (.bool (elB ns n), [.no], []) := by
  obtain ⟨E, K, V, P, ht, _, _, _⟩ := treeN_form ns
  rw [ht]
  clear ht
  have lN := lenM ns Nd.d
  unfold elB
  by_cases h0 : 0 ≤ n
  · by_cases h1 : n < ns.length
    · obtain ⟨x, hx⟩ := some_at (show n.toNat < ns.length by omega)
      have ha := getD_map (f := Nd.d) hx
      rw [ndat] at ha
      have hk : kAt ns n.toNat = x.k := by unfold kAt; rw [hx]
      rw [decide_eq_true h0, decide_eq_true h1, hk, Bool.true_and, Bool.true_and]
      generalize x.at_.map At.d = LA at *
      generalize x.st.map D.str = LS at *
      generalize x.p = p at *
      generalize x.k = k at *
      generalize x.sp = sp at *
      generalize x.nm = nm at *
      generalize x.tx = tx at *
      clear hx hk
      refine callK (m := 27) (res := [4]) (rs := [.tmp 4]) rfl Tryd.func31 rfl rfl rfl rfl rfl ?_
      repeat' (first
    | simp only [*, go_seq, go_retc, go_region, go_ops_nil, go_ops, okG_some, gwD_bool, gw_true, guardG, opG, isPtr, inB, sval, stake, eats, eaters, get, cval, cval1, croom, St.taken, put_slot, put_room, put_box, dem_none, dem_box, setBox_slot, setBox_room, entry_slot, entry_room, entry_box, endQ, endR, endV, rvars, rvar, room1, ↓reduceIte, Nat.reduceEqDiff, Nat.reduceLT, reduceCtorEq, decide_true, List.filterMap_cons, List.filterMap_nil, Option.bind_some, Option.map_some, List.getElem?_cons_zero, List.getElem?_cons_succ, List.getD_cons_zero, List.getD_cons_succ, List.contains_cons, List.contains_nil, List.map_cons, List.map_nil, beq_self_eq_true, Bool.or_false, Nat.reduceBEq, Bool.false_eq_true, dbin, dIntBin, okR, callG, row11, frz11, frzOf_def, frz_nil, pureB, leaf, leafN, List.take_nil, List.range_zero, List.length_nil, List.length_cons, List.getElem?_nil, dcells, Nat.zero_add, Nat.reduceAdd, and_self, Nat.add_zero, ge_iff_le, dStrBin, dNilEq, isLit, fa59_0, dp3, fa26_1, dp22, ia22, len22, frz11b]
    | (refine drW_intro (by kernel_rfl) ?_)
    | (refine gw_intro (fun h => ?_) (fun h => ?_) <;> (try simp only [beq_true, beq_false, Bool.not_eq_eq_eq_not, Bool.not_true, Bool.not_false, Bool.not_not, decide_eq_true_eq, decide_eq_false_iff_not, ge_iff_le, gt_iff_lt] at h)))
    · rw [decide_eq_true h0, decide_eq_false h1, Bool.true_and, Bool.false_and]
      refine callK (m := 27) (res := [4]) (rs := [.tmp 4]) rfl Tryd.func31 rfl rfl rfl rfl rfl ?_
      repeat' (first
    | simp only [*, go_seq, go_retc, go_region, go_ops_nil, go_ops, okG_some, gwD_bool, gw_true, gw_false, guardG, opG, isPtr, inB, sval, stake, eats, eaters, get, cval, cval1, croom, St.taken, put_slot, put_room, put_box, dem_none, dem_box, setBox_slot, setBox_room, entry_slot, entry_room, entry_box, endQ, endR, endV, rvars, rvar, room1, ↓reduceIte, Nat.reduceEqDiff, Nat.reduceLT, reduceCtorEq, decide_true, decide_false, List.filterMap_cons, List.filterMap_nil, Option.bind_some, Option.map_some, List.getElem?_cons_zero, List.getElem?_cons_succ, List.getD_cons_zero, List.getD_cons_succ, List.contains_cons, List.contains_nil, List.map_cons, List.map_nil, beq_self_eq_true, Bool.or_false, Nat.reduceBEq, Bool.false_eq_true, dbin, dIntBin, okR, callG, row11, frz11, frzOf_def, frz_nil, beq_true, pureB, leaf, leafN, List.take_nil, List.range_zero, List.length_nil, List.getElem?_nil, dcells, and_self, Nat.add_zero, ge_iff_le, dStrBin, dNilEq, isLit, fa59_0, dp22, len22, frz11b]
    | (refine drW_intro (by kernel_rfl) ?_)
    | (refine gw_intro (fun h => ?_) (fun h => ?_) <;> (try simp only [beq_true, beq_false, Bool.not_eq_eq_eq_not, Bool.not_true, Bool.not_false, Bool.not_not, decide_eq_true_eq, decide_eq_false_iff_not, ge_iff_le, gt_iff_lt] at h)))
  · rw [decide_eq_false h0, Bool.false_and]
    refine callK (m := 27) (res := [4]) (rs := [.tmp 4]) rfl Tryd.func31 rfl rfl rfl rfl rfl ?_
    repeat' (first
    | simp only [*, go_seq, go_retc, go_region, go_ops_nil, go_ops, okG_some, gwD_bool, gw_false, guardG, opG, isPtr, inB, sval, stake, eats, eaters, get, cval, cval1, croom, St.taken, put_slot, put_room, put_box, dem_none, dem_box, setBox_slot, setBox_room, entry_slot, entry_room, entry_box, endQ, endR, endV, rvars, rvar, room1, ↓reduceIte, Nat.reduceEqDiff, Nat.reduceLT, decide_true, decide_false, List.filterMap_cons, List.filterMap_nil, Option.bind_some, Option.map_some, List.getElem?_cons_zero, List.getElem?_cons_succ, List.getD_cons_zero, List.getD_cons_succ, List.contains_cons, List.contains_nil, List.map_nil, beq_self_eq_true, Bool.or_false, Nat.reduceBEq, Bool.false_eq_true, dbin, dIntBin, okR, callG, row11, frz11, frzOf_def, frz_nil, beq_true, pureB, leaf, leafN, List.take_nil, List.range_zero, List.length_nil, List.getElem?_nil, dcells, and_self, ge_iff_le, dStrBin, dNilEq, isLit, frz11b]
    | (refine drW_intro (by kernel_rfl) ?_)
    | (refine gw_intro (fun h => ?_) (fun h => ?_) <;> (try simp only [beq_true, beq_false, Bool.not_eq_eq_eq_not, Bool.not_true, Bool.not_false, Bool.not_not, decide_eq_true_eq, decide_eq_false_iff_not, ge_iff_le, gt_iff_lt] at h)))
theorem relem_L (ns : List Nd) (n : Int) : callL Tryd.prog (ext11b chk) 10 [.list (ns.map Nd.d), .int .i64 n] [] = some (.bool (elB ns n), [.no], []) := by
  have lN := lenM ns Nd.d
  unfold elB
  by_cases h0 : 0 ≤ n
  · by_cases h1 : n < ns.length
    · obtain ⟨x, hx⟩ := some_at (show n.toNat < ns.length by omega)
      have ha := getD_map (f := Nd.d) hx
      rw [ndat] at ha
      have hk : kAt ns n.toNat = x.k := by unfold kAt; rw [hx]
      rw [decide_eq_true h0, decide_eq_true h1, hk, Bool.true_and, Bool.true_and]
      generalize x.at_.map At.d = LA at *
      generalize x.st.map D.str = LS at *
      generalize x.p = p at *
      generalize x.k = k at *
      generalize x.sp = sp at *
      generalize x.nm = nm at *
      generalize x.tx = tx at *
      clear hx hk
      refine callK (m := 21) (res := [4]) (rs := [.tmp 4]) rfl Tryd.func10 rfl rfl rfl rfl rfl ?_
      repeat' (first
    | simp only [*, go_seq, go_retc, go_region, go_ops_nil, go_ops, okG_some, gwD_bool, gw_true, guardG, opG, isPtr, inB, sval, stake, eats, eaters, get, cval, cval1, croom, St.taken, put_slot, put_room, put_box, dem_none, dem_box, setBox_slot, setBox_room, entry_slot, entry_room, entry_box, endQ, endR, endV, rvars, rvar, room1, ↓reduceIte, Nat.reduceEqDiff, Nat.reduceLT, reduceCtorEq, decide_true, List.filterMap_cons, List.filterMap_nil, Option.bind_some, Option.map_some, List.getElem?_cons_zero, List.getElem?_cons_succ, List.getD_cons_zero, List.getD_cons_succ, List.contains_cons, List.contains_nil, List.map_cons, List.map_nil, beq_self_eq_true, Bool.or_false, Nat.reduceBEq, Bool.false_eq_true, dbin, dIntBin, okR, callG, row11, frz11, frzOf_def, frz_nil, pureB, leaf, leafN, List.take_nil, List.range_zero, List.length_nil, List.length_cons, List.getElem?_nil, dcells, Nat.zero_add, Nat.reduceAdd, and_self, ge_iff_le, dStrBin, dNilEq, isLit, dp3, fa26_1, ia22, len22, frz11b]
    | (refine drW_intro (by kernel_rfl) ?_)
    | (refine gw_intro (fun h => ?_) (fun h => ?_) <;> (try simp only [beq_true, beq_false, Bool.not_eq_eq_eq_not, Bool.not_true, Bool.not_false, Bool.not_not, decide_eq_true_eq, decide_eq_false_iff_not, ge_iff_le, gt_iff_lt] at h)))
    · rw [decide_eq_true h0, decide_eq_false h1, Bool.true_and, Bool.false_and]
      refine callK (m := 21) (res := [4]) (rs := [.tmp 4]) rfl Tryd.func10 rfl rfl rfl rfl rfl ?_
      repeat' (first
    | simp only [*, go_seq, go_retc, go_region, go_ops_nil, go_ops, okG_some, gwD_bool, gw_true, gw_false, guardG, opG, isPtr, inB, sval, stake, eats, eaters, get, cval, cval1, croom, St.taken, put_slot, put_room, put_box, dem_none, dem_box, setBox_slot, setBox_room, entry_slot, entry_room, entry_box, endQ, endR, endV, rvars, rvar, room1, ↓reduceIte, Nat.reduceEqDiff, Nat.reduceLT, reduceCtorEq, decide_true, decide_false, List.filterMap_cons, List.filterMap_nil, Option.bind_some, Option.map_some, List.getElem?_cons_zero, List.getElem?_cons_succ, List.getD_cons_zero, List.getD_cons_succ, List.contains_cons, List.contains_nil, List.map_cons, List.map_nil, beq_self_eq_true, Bool.or_false, Nat.reduceBEq, Bool.false_eq_true, dbin, dIntBin, okR, callG, row11, frz11, frzOf_def, frz_nil, beq_true, pureB, leaf, leafN, List.take_nil, List.range_zero, List.length_nil, List.getElem?_nil, dcells, and_self, ge_iff_le, dStrBin, dNilEq, isLit, len22, frz11b]
    | (refine drW_intro (by kernel_rfl) ?_)
    | (refine gw_intro (fun h => ?_) (fun h => ?_) <;> (try simp only [beq_true, beq_false, Bool.not_eq_eq_eq_not, Bool.not_true, Bool.not_false, Bool.not_not, decide_eq_true_eq, decide_eq_false_iff_not, ge_iff_le, gt_iff_lt] at h)))
  · rw [decide_eq_false h0, Bool.false_and]
    refine callK (m := 21) (res := [4]) (rs := [.tmp 4]) rfl Tryd.func10 rfl rfl rfl rfl rfl ?_
    repeat' (first
    | simp only [*, go_seq, go_retc, go_region, go_ops_nil, go_ops, okG_some, gwD_bool, gw_false, guardG, opG, isPtr, inB, sval, stake, eats, eaters, get, cval, cval1, croom, St.taken, put_slot, put_room, put_box, dem_none, dem_box, setBox_slot, setBox_room, entry_slot, entry_room, entry_box, endQ, endR, endV, rvars, rvar, room1, ↓reduceIte, Nat.reduceEqDiff, Nat.reduceLT, decide_true, decide_false, List.filterMap_cons, List.filterMap_nil, Option.bind_some, Option.map_some, List.getElem?_cons_zero, List.getElem?_cons_succ, List.getD_cons_zero, List.getD_cons_succ, List.contains_cons, List.contains_nil, List.map_nil, beq_self_eq_true, Bool.or_false, Nat.reduceBEq, Bool.false_eq_true, dbin, dIntBin, okR, callG, row11, frz11, frzOf_def, frz_nil, beq_true, pureB, leaf, leafN, List.take_nil, List.range_zero, List.length_nil, List.getElem?_nil, dcells, and_self, ge_iff_le, dStrBin, dNilEq, isLit, frz11b]
    | (refine drW_intro (by kernel_rfl) ?_)
    | (refine gw_intro (fun h => ?_) (fun h => ?_) <;> (try simp only [beq_true, beq_false, Bool.not_eq_eq_eq_not, Bool.not_true, Bool.not_false, Bool.not_not, decide_eq_true_eq, decide_eq_false_iff_not, ge_iff_le, gt_iff_lt] at h)))
theorem parent_L (ns : List Nd) (n : Int) : callL Tryd.prog (ext11b chk) 13 [treeN ns, .int .i64 n] [] = some (.tuple [.int .i64 (parI ns n).1, .bool (parI ns n).2], [.no, .no], []) := by
  have hE := elem_L (chk := chk) ns n
  obtain ⟨E, K, V, P, ht, hPl, hP, hK⟩ := treeN_form ns
  rw [ht] at hE ⊢
  clear ht
  have lN := lenM ns Nd.d
  have lP := lenM P (D.int .i64)
  rw [hPl] at lP
  unfold parI
  cases he : elB ns n with
  | false =>
    rw [he] at hE
    rw [if_neg (by simp)]
    clear hK hP lN lP hPl he
    refine callK (m := 29) (res := [4, 5]) (rs := [.tmp 4, .tmp 5]) rfl Tryd.func13 rfl rfl rfl rfl rfl ?_
    repeat' (first
    | simp only [*, go_seq, go_cond, go_retc, go_region, go_ops_nil, go_ops, okG_some, gwD_bool, cwD_bool, gw_true, gw_false, guardG, opG, isPtr, inB, sval, stake, eats, eaters, get, cval, cval1, croom, St.taken, put_slot, put_room, put_box, dem_none, entry_slot, entry_room, entry_box, endQ, endR, endV, rvars, rvar, room1, ↓reduceIte, Nat.reduceEqDiff, Nat.reduceLT, reduceCtorEq, decide_true, List.filterMap_cons, List.filterMap_nil, Option.bind_some, Option.map_some, List.getElem?_cons_zero, List.getElem?_cons_succ, List.getD_cons_zero, List.getD_cons_succ, List.contains_cons, List.contains_nil, List.map_cons, List.map_nil, Bool.or_false, Bool.and_true, Bool.false_eq_true, dbin, dIntBin, okR, callG, row11, frz11, frzOf_def, frz_nil, beq_false, Bool.not_true, Bool.not_false, pureB, leaf, leafN, List.all_cons, List.all_nil, List.nil_append, List.append_nil, List.take_nil, List.range_zero, List.length_nil, dun, List.getElem?_nil, dcells, and_self, dStrBin, dNilEq, isLit]
    | (refine drW_intro (by kernel_rfl) ?_)
    | (refine gw_intro (fun h => ?_) (fun h => ?_) <;> (try simp only [beq_true, beq_false, Bool.not_eq_eq_eq_not, Bool.not_true, Bool.not_false, Bool.not_not, decide_eq_true_eq, decide_eq_false_iff_not, ge_iff_le, gt_iff_lt] at h)))
  | true =>
    rw [he] at hE
    obtain ⟨i, rfl, hi, hk⟩ := elB_at (ns := ns) (n := n) he
    obtain ⟨x, hx⟩ := some_at hi
    have ha := getD_map (f := Nd.d) hx
    rw [ndat] at ha
    have hp : pAt ns i = x.p := by unfold pAt; rw [hx]
    have g9 : (i : Int) < ns.length := by omega
    have tn : (i : Int).toNat = i := by omega
    rw [tn, hp]
    generalize x.at_.map At.d = LA at *
    generalize x.st.map D.str = LS at *
    generalize x.k = k at *
    generalize x.sp = sp at *
    generalize x.nm = nm at *
    generalize x.tx = tx at *
    generalize x.p = p at *
    clear hK hP lP hPl he hk hx hp tn
    by_cases c : 0 ≤ p
    · rw [if_pos ⟨rfl, c⟩]
      have c' : ¬ p < 0 := by omega
      refine callK (m := 29) (res := [4, 5]) (rs := [.tmp 4, .tmp 5]) rfl Tryd.func13 rfl rfl rfl rfl rfl ?_
      repeat' (first
    | simp only [*, go_seq, go_cond, go_skip, go_retc, go_region, go_ops_nil, go_ops, okG_some, gwD_bool, cwD_bool, gw_true, gw_false, guardG, opG, isPtr, inB, sval, stake, eats, eaters, get, cval, cval1, croom, St.taken, put_slot, put_room, put_box, dem_none, dem_box, entry_slot, entry_room, entry_box, endQ, endR, endV, rvars, rvar, room1, ↓reduceIte, Nat.reduceEqDiff, Nat.reduceLT, reduceCtorEq, decide_true, decide_false, List.filterMap_cons, List.filterMap_nil, Option.bind_some, Option.map_some, List.getElem?_cons_zero, List.getElem?_cons_succ, List.getD_cons_zero, List.getD_cons_succ, List.contains_cons, List.contains_nil, List.map_cons, List.map_nil, beq_self_eq_true, Bool.or_false, Bool.and_true, Nat.reduceBEq, Bool.false_eq_true, dbin, dIntBin, okR, callG, row11, frz11, frzOf_def, frz_nil, Bool.not_true, pureB, leaf, leafN, List.all_cons, List.all_nil, List.nil_append, List.append_nil, List.take_nil, List.range_zero, List.length_nil, List.length_cons, dun, List.getElem?_nil, dcells, Nat.zero_add, Nat.reduceAdd, Int.natCast_nonneg, Int.toNat_natCast, and_self, Nat.add_zero, dStrBin, dNilEq, isLit, fa59_0, dp3, fa26_0, dp22, ia22]
    | (refine drW_intro (by kernel_rfl) ?_)
    | (refine gw_intro (fun h => ?_) (fun h => ?_) <;> (try simp only [beq_true, beq_false, Bool.not_eq_eq_eq_not, Bool.not_true, Bool.not_false, Bool.not_not, decide_eq_true_eq, decide_eq_false_iff_not, ge_iff_le, gt_iff_lt] at h)))
    · rw [if_neg (fun h => c h.2)]
      have c' : p < 0 := by omega
      refine callK (m := 29) (res := [4, 5]) (rs := [.tmp 4, .tmp 5]) rfl Tryd.func13 rfl rfl rfl rfl rfl ?_
      repeat' (first
    | simp only [*, go_seq, go_cond, go_retc, go_region, go_ops_nil, go_ops, okG_some, gwD_bool, cwD_bool, gw_true, guardG, opG, isPtr, inB, sval, stake, eats, eaters, get, cval, cval1, croom, St.taken, put_slot, put_room, put_box, dem_none, entry_slot, entry_room, entry_box, endQ, endR, endV, rvars, rvar, room1, ↓reduceIte, Nat.reduceEqDiff, Nat.reduceLT, reduceCtorEq, decide_true, List.filterMap_cons, List.filterMap_nil, Option.bind_some, Option.map_some, List.getElem?_cons_zero, List.getElem?_cons_succ, List.getD_cons_zero, List.getD_cons_succ, List.contains_cons, List.contains_nil, List.map_cons, List.map_nil, beq_self_eq_true, Bool.or_false, Bool.and_true, Bool.false_eq_true, dbin, dIntBin, okR, callG, row11, frz11, frzOf_def, frz_nil, Bool.not_true, pureB, leaf, leafN, List.all_cons, List.all_nil, List.nil_append, List.append_nil, List.take_nil, List.range_zero, List.length_nil, List.length_cons, dun, List.getElem?_nil, dcells, Nat.zero_add, Nat.reduceAdd, Int.natCast_nonneg, Int.toNat_natCast, and_self, Nat.add_zero, dStrBin, dNilEq, isLit, fa59_0, dp3, fa26_0, dp22, ia22]
    | (refine drW_intro (by kernel_rfl) ?_)
    | (refine gw_intro (fun h => ?_) (fun h => ?_) <;> (try simp only [beq_true, beq_false, Bool.not_eq_eq_eq_not, Bool.not_true, Bool.not_false, Bool.not_not, decide_eq_true_eq, decide_eq_false_iff_not, ge_iff_le, gt_iff_lt] at h)))
theorem sz1 (l : List Int) : szOk 1 (l.map (D.int .i64)) = true := by cases l <;> rfl
theorem clone_L (zs : List Int) (h : zs.length ≤ 1000000) : callL Tryd.prog (ext11b chk) 32 [.list (zs.map (.int .i64))] [] = some (.list (zs.map (.int .i64)), [], []) := by
  refine callL_ext ?_
  show (if szAll 1 (zs.map (D.int .i64)) = true then some (D.list (zs.map (.int .i64)), ([] : List Room), ([] : List Bx)) else none) = _
  rw [if_pos]
  unfold szAll
  simp only [Bool.and_eq_true, List.all_eq_true, decide_eq_true_eq, List.length_map]
  refine ⟨fun e he => ?_, h⟩
  obtain ⟨z, _, rfl⟩ := List.mem_map.1 he
  rfl
theorem row_L (ns : List Nd) (n : Int) (hS : ns.length ≤ 10000) : callL Tryd.prog (ext11b chk) 14 [treeN ns, .int .i64 n] [] = some (.list ((rowI ns n).map (.int .i64)), [if elB ns n = true then .no else .full], []) := by
  have hE := elem_L (chk := chk) ns n
  obtain ⟨E, K, V, P, ht, hPl, hP, hK⟩ := treeN_form ns
  rw [ht] at hE ⊢
  clear ht
  have lN := lenM ns Nd.d
  have lP := lenM P (D.int .i64)
  rw [hPl] at lP
  unfold rowI
  cases he : elB ns n with
  | false =>
    rw [he] at hE
    rw [if_neg (by simp)]
    clear hK hP lN lP hPl he hS
    refine callK (m := 32) (res := [4]) (rs := [.tmp 4]) rfl Tryd.func14 rfl rfl rfl rfl rfl ?_
    repeat' (first
    | simp only [*, go_seq, go_cond, go_retc, go_region, go_ops_nil, go_ops, okG_some, cwD_bool, gw_true, guardG, opG, isPtr, inB, sval, stake, eats, eaters, get, cval, cval1, croom, St.taken, put_slot, put_room, put_box, dem_none, entry_slot, entry_box, endQ, endR, endV, rvars, rvar, room1, ↓reduceIte, Nat.reduceEqDiff, Nat.reduceLT, reduceCtorEq, decide_true, List.filterMap_cons, List.filterMap_nil, Option.map_some, List.getD_cons_zero, List.getD_cons_succ, List.contains_cons, List.contains_nil, List.map_cons, List.map_nil, Bool.or_false, Bool.and_true, Bool.false_eq_true, okR, callG, row11, frz11, frzOf_def, frz_nil, Bool.not_false, pureB, leaf, leafN, List.all_cons, List.all_nil, List.nil_append, List.append_nil, List.take_nil, List.range_zero, List.length_nil, dun, List.getElem?_nil, List.take_succ_cons, and_self, frz11b]
    | (refine drW_intro (by kernel_rfl) ?_)
    | (refine gw_intro (fun h => ?_) (fun h => ?_) <;> (try simp only [beq_true, beq_false, Bool.not_eq_eq_eq_not, Bool.not_true, Bool.not_false, Bool.not_not, decide_eq_true_eq, decide_eq_false_iff_not, ge_iff_le, gt_iff_lt] at h)))
  | true =>
    rw [he] at hE
    obtain ⟨i, rfl, hi, hk⟩ := elB_at (ns := ns) (n := n) he
    obtain ⟨x, hx⟩ := some_at hi
    have ha := getD_map (f := Nd.d) hx
    rw [ndat] at ha
    have hp : pAt ns i = x.p := by unfold pAt; rw [hx]
    have g9 : (i : Int) < ns.length := by omega
    have tn : (i : Int).toNat = i := by omega
    rw [tn, if_pos rfl]
    have hpl := hP i hi
    have hkf := hK (pAt ns i)
    obtain ⟨t1, t2⟩ := rowL_pre (ns := ns) (key := pAt ns i) (show i + 1 ≤ ns.length by omega)
    have t3 := rowL_succ hk
    have t4 := rowL_len (ns := ns) (key := pAt ns i) (m := i + 1)
    have t5 : (rowL ns (pAt ns i) (i + 1)).length = (rowL ns (pAt ns i) i).length + 1 := by rw [t3]; simp
    have hcl := clone_L (chk := chk) (rowL ns (pAt ns i) (i + 1)) (by omega)
    rw [← t1, t5, List.map_take] at hcl
    rw [← t1, t5, List.map_take]
    rw [hp] at *
    generalize hm : (rowL ns x.p i).length = m at *
    have hw := wrapS m (by omega)
    have t6 : ((m + 1 : Nat) : Int) ≤ (rowL ns x.p ns.length).length := by omega
    clear t1 t2 t3 t4 t5 hP hK hS he hk hPl hm hx
    have lR := lenM (rowL ns x.p ns.length) (D.int .i64)
    have sz := sz1 (rowL ns x.p ns.length)
    generalize rowL ns x.p ns.length = Z at *
    generalize x.at_.map At.d = LA at *
    generalize x.st.map D.str = LS at *
    generalize x.k = k at *
    generalize x.sp = sp at *
    generalize x.nm = nm at *
    generalize x.tx = tx at *
    generalize x.p = p at *
    clear hp tn
    refine callK (m := 32) (res := [4]) (rs := [.tmp 4]) rfl Tryd.func14 rfl rfl rfl rfl rfl ?_
    repeat' (first
    | simp only [*, go_seq, go_cond, go_skip, go_retc, go_region, go_draw, go_ops_nil, go_ops, go_dops1, go_dops, okG_some, cwD_bool, gw_false, guardG, opG, opD, isPtr, isStore, inB, sval, stake, eats, eaters, get, cval, cval1, croom, St.taken, put_slot, put_room, put_box, dem_none, dem_box, entry_slot, entry_box, endQ, endR, endV, rvars, rvar, room1, ↓reduceIte, Nat.reduceEqDiff, Nat.reduceLT, reduceCtorEq, decide_true, List.filterMap_cons, List.filterMap_nil, Option.bind_some, Option.map_some, Option.map_none, List.getElem?_cons_zero, List.getElem?_cons_succ, List.getD_cons_zero, List.getD_cons_succ, List.contains_cons, List.contains_nil, List.map_cons, List.map_nil, beq_self_eq_true, Bool.or_false, Bool.and_true, Nat.reduceBEq, Bool.false_eq_true, dbin, dIntBin, okR, callG, row11, frz11, frzOf_def, frz_nil, loadsOwn, Bool.not_true, pureB, leaf, leafN, List.all_cons, List.all_nil, List.nil_append, List.append_nil, List.take_nil, List.range_zero, List.length_nil, List.length_cons, dun, List.getElem?_nil, List.drop_zero, dcells, Nat.zero_add, Nat.reduceAdd, Int.natCast_nonneg, Int.toNat_natCast, and_self, Nat.add_zero, dopt, dbound, plainR_s, dp57, fa59_0, fa59_2, fa59_3, lk57, dp3, fa26_0, dp22, ia22, dp39, ia39, sl39, frz11b]
    | (refine drW_intro (by kernel_rfl) ?_)
    | (refine gw_intro (fun h => ?_) (fun h => ?_) <;> (try simp only [beq_true, beq_false, Bool.not_eq_eq_eq_not, Bool.not_true, Bool.not_false, Bool.not_not, decide_eq_true_eq, decide_eq_false_iff_not, ge_iff_le, gt_iff_lt] at h)))
theorem ahead_L (ns : List Nd) (n : Int) (hS : ns.length ≤ 10000) : callL Tryd.prog (ext11b chk) 15 [treeN ns, .int .i64 n] [] = some (.tuple [.int .i64 (ahdI ns n).1, .bool (ahdI ns n).2], [.no, .no], []) := by
  have hE := elem_L (chk := chk) ns n
  obtain ⟨E, K, V, P, ht, hPl, hP, hK⟩ := treeN_form ns
  rw [ht] at hE ⊢
  clear ht
  have lN := lenM ns Nd.d
  have lP := lenM P (D.int .i64)
  rw [hPl] at lP
  unfold ahdI
  cases he : elB ns n with
  | false =>
    rw [he] at hE
    rw [if_neg (by simp)]
    clear hK hP lN lP hPl he hS
    refine callK (m := 43) (res := [4, 5]) (rs := [.tmp 4, .tmp 5]) rfl Tryd.func15 rfl rfl rfl rfl rfl ?_
    repeat' (first
    | simp only [*, go_seq, go_cond, go_retc, go_region, go_ops_nil, go_ops, okG_some, gwD_bool, cwD_bool, gw_true, gw_false, guardG, opG, isPtr, inB, sval, stake, eats, eaters, get, cval, cval1, croom, St.taken, put_slot, put_room, put_box, dem_none, entry_slot, entry_room, entry_box, endQ, endR, endV, rvars, rvar, room1, ↓reduceIte, Nat.reduceEqDiff, Nat.reduceLT, reduceCtorEq, decide_true, List.filterMap_cons, List.filterMap_nil, Option.bind_some, Option.map_some, List.getElem?_cons_zero, List.getElem?_cons_succ, List.getD_cons_zero, List.getD_cons_succ, List.contains_cons, List.contains_nil, List.map_cons, List.map_nil, Bool.or_false, Bool.and_true, Bool.false_eq_true, dbin, dIntBin, okR, callG, row11, frz11, frzOf_def, frz_nil, beq_false, Bool.not_true, Bool.not_false, pureB, leaf, leafN, List.all_cons, List.all_nil, List.nil_append, List.append_nil, List.take_nil, List.range_zero, List.length_nil, dun, List.getElem?_nil, dcells, and_self, dStrBin, dNilEq, isLit]
    | (refine drW_intro (by kernel_rfl) ?_)
    | (refine gw_intro (fun h => ?_) (fun h => ?_) <;> (try simp only [beq_true, beq_false, Bool.not_eq_eq_eq_not, Bool.not_true, Bool.not_false, Bool.not_not, decide_eq_true_eq, decide_eq_false_iff_not, ge_iff_le, gt_iff_lt] at h)))
  | true =>
    rw [he] at hE
    obtain ⟨i, rfl, hi, hk⟩ := elB_at (ns := ns) (n := n) he
    obtain ⟨x, hx⟩ := some_at hi
    have ha := getD_map (f := Nd.d) hx
    rw [ndat] at ha
    have hp : pAt ns i = x.p := by unfold pAt; rw [hx]
    have g9 : (i : Int) < ns.length := by omega
    have tn : (i : Int).toNat = i := by omega
    rw [tn, if_pos rfl]
    have hpl := hP i hi
    have hkf := hK (pAt ns i)
    obtain ⟨t1, t2⟩ := rowL_pre (ns := ns) (key := pAt ns i) (show i ≤ ns.length by omega)
    have t4 := rowL_len (ns := ns) (key := pAt ns i) (m := i)
    rw [hp] at *
    by_cases c : (rowL ns x.p i).length = 0
    · rw [List.length_eq_zero_iff.1 c]
      simp only [List.getLast?_nil]
      rw [c] at hpl
      have hpl' : (P.map (D.int .i64)).getD i .bad = .int .i64 0 := hpl
      clear t1 t2 t4 hP hK hS he hk hPl hx c hkf hpl
      generalize x.at_.map At.d = LA at *
      generalize x.st.map D.str = LS at *
      generalize x.k = k at *
      generalize x.sp = sp at *
      generalize x.nm = nm at *
      generalize x.tx = tx at *
      generalize x.p = p at *
      clear hp tn
      refine callK (m := 43) (res := [4, 5]) (rs := [.tmp 4, .tmp 5]) rfl Tryd.func15 rfl rfl rfl rfl rfl ?_
      repeat' (first
    | simp only [*, go_seq, go_cond, go_retc, go_region, go_ops_nil, go_ops, okG_some, gwD_bool, cwD_bool, gw_true, guardG, opG, isPtr, inB, sval, stake, eats, eaters, get, cval, cval1, croom, St.taken, put_slot, put_room, put_box, dem_none, entry_slot, entry_room, entry_box, endQ, endR, endV, rvars, rvar, room1, ↓reduceIte, Nat.reduceEqDiff, Nat.reduceLT, reduceCtorEq, decide_true, List.filterMap_cons, List.filterMap_nil, Option.bind_some, Option.map_some, List.getElem?_cons_zero, List.getElem?_cons_succ, List.getD_cons_zero, List.getD_cons_succ, List.contains_cons, List.contains_nil, List.map_cons, List.map_nil, beq_self_eq_true, Bool.or_false, Bool.and_true, Bool.false_eq_true, dbin, dIntBin, okR, callG, row11, frz11, frzOf_def, frz_nil, Bool.not_true, pureB, leaf, leafN, List.all_cons, List.all_nil, List.nil_append, List.append_nil, List.take_nil, List.range_zero, List.length_nil, List.length_cons, dun, List.getElem?_nil, dcells, Nat.zero_add, Int.natCast_nonneg, Int.toNat_natCast, and_self, dStrBin, dNilEq, isLit, fa59_3, dp3, dp39, ia39]
    | (refine drW_intro (by kernel_rfl) ?_)
    | (refine gw_intro (fun h => ?_) (fun h => ?_) <;> (try simp only [beq_true, beq_false, Bool.not_eq_eq_eq_not, Bool.not_true, Bool.not_false, Bool.not_not, decide_eq_true_eq, decide_eq_false_iff_not, ge_iff_le, gt_iff_lt] at h)))
    · obtain ⟨m, hm⟩ : ∃ m, (rowL ns x.p i).length = m + 1 := ⟨(rowL ns x.p i).length - 1, by omega⟩
      obtain ⟨a, hla⟩ : ∃ a, (rowL ns x.p i)[m]? = some a := ⟨_, List.getElem?_eq_getElem (by omega)⟩
      have hgl : (rowL ns x.p i).getLast? = some a := by rw [List.getLast?_eq_getElem?, hm]; exact hla
      have hat : (rowL ns x.p ns.length)[m]? = some a := by
        rw [← t1, List.getElem?_take, if_pos (by omega)] at hla
        exact hla
      have hgd := getD_map (f := D.int .i64) hat
      have lR := lenM (rowL ns x.p ns.length) (D.int .i64)
      have t6 : (m : Int) < (rowL ns x.p ns.length).length := by omega
      rw [hgl]
      rw [hm] at hpl
      have hw : IntKind.i64.wrap (((m + 1 : Nat) : Int) - 1) = (m : Int) := by rw [wrap64 _ (by omega) (by omega)]; omega
      have hz : ((((m + 1 : Nat) : Int)) == 0) = false := by simp; omega
      clear t1 t2 t4 hP hK hS he hk hPl hx c hgl hat hla hm
      generalize rowL ns x.p ns.length = Z at *
      generalize x.at_.map At.d = LA at *
      generalize x.st.map D.str = LS at *
      generalize x.k = k at *
      generalize x.sp = sp at *
      generalize x.nm = nm at *
      generalize x.tx = tx at *
      generalize x.p = p at *
      clear hp tn
      refine callK (m := 43) (res := [4, 5]) (rs := [.tmp 4, .tmp 5]) rfl Tryd.func15 rfl rfl rfl rfl rfl ?_
      repeat' (first
    | simp only [*, go_seq, go_cond, go_skip, go_retc, go_region, go_draw, go_ops_nil, go_ops, go_dops1, go_dops, okG_some, gwD_bool, cwD_bool, gw_true, gw_false, guardG, opG, opD, isPtr, isStore, inB, sval, stake, eats, eaters, get, cval, cval1, croom, St.taken, put_slot, put_room, put_box, dem_none, dem_box, entry_slot, entry_room, entry_box, endQ, endR, endV, rvars, rvar, room1, ↓reduceIte, Nat.reduceEqDiff, Nat.reduceLT, reduceCtorEq, decide_true, List.filterMap_cons, List.filterMap_nil, Option.bind_some, Option.map_some, List.getElem?_cons_zero, List.getElem?_cons_succ, List.getD_cons_zero, List.getD_cons_succ, List.contains_cons, List.contains_nil, List.map_cons, List.map_nil, beq_self_eq_true, Bool.or_false, Bool.and_true, Nat.reduceBEq, Bool.false_eq_true, dbin, dIntBin, okR, callG, row11, frz11, frzOf_def, frz_nil, loadsOwn, Bool.not_true, pureB, leaf, leafN, List.all_cons, List.all_nil, List.nil_append, List.append_nil, List.take_nil, List.range_zero, List.length_nil, List.length_cons, dun, List.getElem?_nil, dcells, Nat.zero_add, Nat.reduceAdd, Int.natCast_nonneg, Int.toNat_natCast, and_self, Nat.add_zero, dStrBin, dNilEq, isLit, dp57, fa59_0, fa59_2, fa59_3, lk57, dp3, fa26_0, dp22, ia22, dp39, ia39]
    | (refine drW_intro (by kernel_rfl) ?_)
    | (refine gw_intro (fun h => ?_) (fun h => ?_) <;> (try simp only [beq_true, beq_false, Bool.not_eq_eq_eq_not, Bool.not_true, Bool.not_false, Bool.not_not, decide_eq_true_eq, decide_eq_false_iff_not, ge_iff_le, gt_iff_lt] at h)))
set_option maxHeartbeats 4000000 in
theorem usame_L (xs ys : List Int) (hl : xs.length ≤ 1000000) (hl2 : ys.length ≤ 1000000) : callL Tryd.prog (ext11b chk) 16 [.list (xs.map (.int .i64)), .list (ys.map (.int .i64))] [] = some (.bool (decide (xs = ys)), [.no], []) := by
  have lN := lenM xs (D.int .i64)
  have lM := lenM ys (D.int .i64)
  refine callK (m := 26) (res := [4]) (rs := [.tmp 4]) rfl Tryd.func16 rfl rfl rfl rfl rfl ?_
  by_cases hne : xs.length = ys.length
  · have hb : (((xs.length : Int) != ys.length)) = false := by simp [hne]
    have HL := Hd.mk hl
    have HE := Hd.mk hne
    clear hl hl2 hne
    obtain ⟨R, hR⟩ : ∃ R, Hd (R = decide (xs = ys)) := ⟨_, rfl⟩
    rw [← (show R = decide (xs = ys) from hR)]
    repeat' (first
    | simp only [*, go_seq, go_cond, go_block, go_skip, go_loop, go_region, go_ops_nil, go_ops, okG_some, cwD_bool, gw_false, guardG, opG, isPtr, inB, sval, stake, eats, eaters, get, cval, cval1, croom, St.taken, put_slot, dem_none, entry_slot, ↓reduceIte, Nat.reduceEqDiff, Nat.reduceLT, reduceCtorEq, decide_true, List.filterMap_cons, List.filterMap_nil, Option.map_some, List.getD_cons_zero, List.getD_cons_succ, List.contains_cons, List.contains_nil, List.map_cons, List.map_nil, Bool.or_false, Bool.false_eq_true, dbin, dIntBin, row11, frz11, frzOf_def, frz_nil, List.length_nil, len39, frz11b]
    | (refine drW_intro (by kernel_rfl) ?_)
    | (refine gw_intro (fun h => ?_) (fun h => ?_) <;> (try simp only [beq_true, beq_false, Bool.not_eq_eq_eq_not, Bool.not_true, Bool.not_false, Bool.not_not, decide_eq_true_eq, decide_eq_false_iff_not, ge_iff_le, gt_iff_lt] at h)))
    refine loopH (fun st => ∃ i : Nat, i ≤ xs.length ∧ st.slot 5 = .int .i64 i ∧ st.slot 0 = .list (xs.map (.int .i64)) ∧ st.slot 1 = .list (ys.map (.int .i64)) ∧ st.slot 4 = .bool false ∧ st.room 4 = [] ∧ Hd (R = decide (xs.drop i = ys.drop i))) (fun st => xs.length - slotI st 5) ?_ ?_
    · refine ⟨0, Nat.zero_le _, ?_, ?_, ?_, ?_, ?_, hR⟩
      all_goals simp only [*, put_slot, put_room, entry_slot, ↓reduceIte, Nat.reduceEqDiff, reduceCtorEq, List.getD_cons_zero, List.getD_cons_succ]
      all_goals rfl
    · rintro st K ⟨i, hi, g0, g1, g2, g3, g4, hO⟩ hn hx hr
      have hl : xs.length ≤ 1000000 := HL
      have hO' : R = decide (xs.drop i = ys.drop i) := hO
      by_cases h : i < xs.length
      · have g9 : (i : Int) < xs.length := by omega
        have hw := wrapS i (by omega)
        obtain ⟨x, hx1⟩ := some_at h
        have ha := getD_map (f := (D.int .i64)) hx1
        have hne : xs.length = ys.length := HE
        obtain ⟨y, hy1⟩ := some_at (show i < ys.length by omega)
        rw [drop_eq hx1 hy1] at hO'
        have hb1 := getD_map (f := D.int .i64) hy1
        have g9' : (i : Int) < ys.length := by omega
        cases he : decide (x = y) with
        | false =>
          rw [he, Bool.false_and] at hO'
          subst hO'
          have hxy : (x != y) = true := by simpa using he
          clear hO hn hx hl hne hx1 hy1 hR he
          repeat' (first
    | simp only [*, go_seq, go_cond, go_block, go_skip, go_retc, go_region, go_draw, go_ops_nil, go_ops, go_dops1, go_dops, okG_some, cwD_bool, gw_true, guardG, opG, opD, isPtr, isStore, inB, sval, stake, eats, eaters, get, cval, cval1, croom, St.taken, put_slot, dem_none, ↓reduceIte, Nat.reduceEqDiff, Nat.reduceLT, reduceCtorEq, decide_true, List.filterMap_cons, List.filterMap_nil, Option.map_some, List.getElem?_cons_zero, List.contains_cons, List.contains_nil, List.map_cons, List.map_nil, Bool.or_false, Bool.false_eq_true, dbin, dIntBin, row11, frz11, frzOf_def, frz_nil, loadsOwn, List.length_nil, List.length_cons, dcells, Nat.zero_add, Int.natCast_nonneg, Int.toNat_natCast, and_self, dp3, ia39, len39, frz11b]
    | (refine drW_intro (by kernel_rfl) ?_)
    | (refine gw_intro (fun h => ?_) (fun h => ?_) <;> (try simp only [beq_true, beq_false, Bool.not_eq_eq_eq_not, Bool.not_true, Bool.not_false, Bool.not_not, decide_eq_true_eq, decide_eq_false_iff_not, ge_iff_le, gt_iff_lt] at h)))
          refine hr _ ?_
          repeat' (first
    | simp only [*, put_slot, put_room, put_box, endQ, endR, endV, rvars, rvar, room1, ↓reduceIte, List.map_nil, pureB, leaf, leafN, List.take_nil, List.range_zero, and_self]
    | (refine drW_intro (by kernel_rfl) ?_)
    | (refine gw_intro (fun h => ?_) (fun h => ?_) <;> (try simp only [beq_true, beq_false, Bool.not_eq_eq_eq_not, Bool.not_true, Bool.not_false, Bool.not_not, decide_eq_true_eq, decide_eq_false_iff_not, ge_iff_le, gt_iff_lt] at h)))
        | true =>
          rw [he, Bool.true_and] at hO'
          have hxy : (x != y) = false := by simpa using he
          have HO := Hd.mk hO'
          clear hO hO' hx hr hl hne hx1 hy1 he
          repeat' (first
    | simp only [*, go_nil, go_seq, go_cond, go_block, go_blk, go_skip, go_region, go_draw, go_ops_nil, go_ops, go_dops1, go_dops, okG_some, cwD_bool, gw_true, gw_false, guardG, opG, opD, isPtr, isStore, inB, sval, stake, eats, eaters, get, cval, cval1, St.taken, put_slot, put_room, dem_none, ↓reduceIte, Nat.reduceEqDiff, Nat.reduceLT, reduceCtorEq, decide_true, List.filterMap_cons, List.filterMap_nil, Option.map_some, List.getElem?_cons_zero, List.contains_cons, List.contains_nil, List.map_cons, List.map_nil, Bool.or_false, Nat.reduceBEq, Bool.false_eq_true, dbin, dIntBin, row11, frz11, frzOf_def, frz_nil, loadsOwn, List.length_nil, List.length_cons, dcells, Nat.zero_add, Int.natCast_nonneg, Int.toNat_natCast, and_self, dp3, ia39, len39]
    | (refine drW_intro (by kernel_rfl) ?_)
    | (refine gw_intro (fun h => ?_) (fun h => ?_) <;> (try simp only [beq_true, beq_false, Bool.not_eq_eq_eq_not, Bool.not_true, Bool.not_false, Bool.not_not, decide_eq_true_eq, decide_eq_false_iff_not, ge_iff_le, gt_iff_lt] at h)))
          refine hn _ ⟨i + 1, h, ?_, ?_, ?_, ?_, ?_, HO⟩ ?_
          · simp only [*, put_slot, ↓reduceIte]
          · simp only [*, put_slot, dem_slot, ↓reduceIte, reduceCtorEq]
          · simp only [*, put_slot, dem_slot, ↓reduceIte, Nat.reduceEqDiff]
          · simp only [*, put_slot, dem_slot, ↓reduceIte, Nat.reduceEqDiff]
          · simp only [*, put_room, dem_room, ↓reduceIte, Nat.reduceEqDiff]
          · simp only [slotI, *, put_slot, ↓reduceIte, Int.toNat_natCast]
            omega
      · have g9 : ¬ (i : Int) < xs.length := by omega
        have hne : xs.length = ys.length := HE
        rw [drop_end hne (by omega)] at hO'
        subst hO'
        clear hO hn hr hl hR hne
        repeat' (first
    | simp only [*, go_nil, go_seq, go_cond, go_exit, go_xcode, go_region, go_ops_nil, go_ops, okG_some, cwD_bool, gw_false, guardG, opG, isPtr, inB, sval, stake, eats, eaters, get, St.taken, put_slot, dem_none, ↓reduceIte, Nat.reduceEqDiff, Nat.reduceLT, reduceCtorEq, decide_true, decide_false, List.filterMap_cons, List.filterMap_nil, Option.map_some, List.contains_cons, List.contains_nil, List.map_cons, List.map_nil, Bool.or_false, Bool.false_eq_true, dbin, dIntBin, row11, frz11, frzOf_def, frz_nil, len39]
    | (refine drW_intro (by kernel_rfl) ?_)
    | (refine gw_intro (fun h => ?_) (fun h => ?_) <;> (try simp only [beq_true, beq_false, Bool.not_eq_eq_eq_not, Bool.not_true, Bool.not_false, Bool.not_not, decide_eq_true_eq, decide_eq_false_iff_not, ge_iff_le, gt_iff_lt] at h)))
        refine hx _ _ ?_
        repeat' (first
    | simp only [*, go_seq, go_retc, go_xblk, go_region, go_ops_nil, go_ops, okG_some, guardG, opG, inB, sval, stake, eats, eaters, get, cval, cval1, croom, put_slot, put_room, put_box, dem_none, endQ, endR, endV, rvars, rvar, room1, ↓reduceIte, Nat.reduceLT, decide_true, List.filterMap_cons, List.filterMap_nil, List.contains_cons, List.contains_nil, List.map_nil, Bool.or_false, Bool.false_eq_true, row11, frz_nil, pureB, leaf, leafN, List.take_nil, List.range_zero, and_self, frz11b]
    | (refine drW_intro (by kernel_rfl) ?_)
    | (refine gw_intro (fun h => ?_) (fun h => ?_) <;> (try simp only [beq_true, beq_false, Bool.not_eq_eq_eq_not, Bool.not_true, Bool.not_false, Bool.not_not, decide_eq_true_eq, decide_eq_false_iff_not, ge_iff_le, gt_iff_lt] at h)))
  · have hb : (((xs.length : Int) != ys.length)) = true := by simp; omega
    rw [len_ne hne]
    clear hl hl2 hne
    repeat' (first
    | simp only [*, go_seq, go_cond, go_retc, go_region, go_ops_nil, go_ops, okG_some, cwD_bool, gw_true, guardG, opG, isPtr, inB, sval, stake, eats, eaters, get, cval, cval1, croom, St.taken, put_slot, put_room, put_box, dem_none, entry_slot, entry_box, endQ, endR, endV, rvars, rvar, room1, ↓reduceIte, Nat.reduceEqDiff, Nat.reduceLT, reduceCtorEq, decide_true, List.filterMap_cons, List.filterMap_nil, Option.map_some, List.getD_cons_zero, List.getD_cons_succ, List.contains_cons, List.contains_nil, List.map_cons, List.map_nil, Bool.or_false, Bool.false_eq_true, dbin, dIntBin, row11, frz11, frzOf_def, frz_nil, pureB, leaf, leafN, List.take_nil, List.range_zero, List.length_nil, List.getElem?_nil, and_self, len39, frz11b]
    | (refine drW_intro (by kernel_rfl) ?_)
    | (refine gw_intro (fun h => ?_) (fun h => ?_) <;> (try simp only [beq_true, beq_false, Bool.not_eq_eq_eq_not, Bool.not_true, Bool.not_false, Bool.not_not, decide_eq_true_eq, decide_eq_false_iff_not, ge_iff_le, gt_iff_lt] at h)))
end Go.Av
/- Chapter 11: New at right documents; what is right stays so with one node more. -/
set_option linter.unusedVariables false
namespace Go.Av
open Go.Proofs
noncomputable def chkB (es : List D) : Bool := @decide (∃ ns, SmallD ns ∧ es = ns.map Nd.d ∧ chkF ns = (0, 0)) (Classical.propDecidable _)
noncomputable def chkC (es : List D) : Bool := chkA es || chkB es
theorem ext_none : ext11b (fun _ => false) = ext11a := by
  funext f args pbs
  unfold ext11b
  split
  · simp only [Bool.false_eq_true, and_false, if_false]
    rfl
  · rfl
theorem chkC_ok : ChkOK chkC := by
  intro es hn h
  unfold chkC at h
  rw [Bool.or_eq_true] at h
  rcases h with h | h
  · exact chkA_ok es hn h
  · unfold chkB at h
    obtain ⟨ns, hs, rfl, hc⟩ := @of_decide_eq_true _ (Classical.propDecidable _) h
    have h1 := check_L (chk := fun _ => false) ns hs
    rw [ext_none, hc] at h1
    obtain ⟨N, hN⟩ := callL_aev h1
    exact ⟨N, _, hN⟩
theorem ext11c_ok : CallOK Tryd.prog (ext11b chkC) := ext11b_ok chkC_ok
theorem speaks11C : aev Tryd.prog (ext11b chkC) 300 7 [] [] = some (.bool true, [.no], []) := by kernel_rfl
theorem sp11C : callL Tryd.prog (ext11b chkC) 7 [] [] = some (.bool true, [.no], []) := aev_callL speaks11C
theorem chkG_all : ∀ {r a : List Nd} {roots : Int}, chkG a r roots = (0, 0) → ∀ (i : Nat) (n : Nd), r[i]? = some n → nodeF (a ++ r.take i) n = true
  | [], _, _, _, i, n, hi => by simp at hi
  | x :: r, a, roots, h, i, n, hi => by
    rw [chkG] at h
    split at h
    · rename_i hx
      cases i with
      | zero => simp at hi; subst hi; simpa using hx
      | succ i =>
        have := chkG_all h i n (by simpa using hi)
        simpa using this
    · simp at h
theorem par_of {a : List Nd} {n : Nd} (h : nodeF a n = true) : -1 ≤ n.p ∧ n.p < a.length ∧ (0 ≤ n.p → kindAt a n.p = 1) := by
  unfold nodeF parOk at h
  simp only [Bool.and_eq_true, Bool.not_eq_eq_eq_not, Bool.not_true, decide_eq_false_iff_not, Bool.and_eq_false_iff] at h
  obtain ⟨⟨h1, h2, h3⟩, _⟩ := h
  refine ⟨by omega, by omega, fun h0 => ?_⟩
  rcases h3 with h3 | h3
  · exact absurd h0 h3
  · simpa using h3
theorem range_ok {ns : List Nd} (hS : SmallD ns) (h : chkF ns = (0, 0)) : rangeOk (ns.map Nd.d) = true := by
  unfold rangeOk
  rw [List.all_eq_true]
  intro e he
  obtain ⟨n, hn, rfl⟩ := List.mem_map.1 he
  obtain ⟨i, hi⟩ := List.mem_iff_getElem?.1 hn
  obtain ⟨h1, h2, _⟩ := par_of (chkG_all h i n hi)
  have hi' := (List.getElem?_eq_some_iff.1 hi).1
  have := hS.1
  simp only [List.nil_append, List.length_take] at h2
  show (decide (-1 ≤ n.p) && decide (n.p < 10000)) = true
  simp only [Bool.and_eq_true, decide_eq_true_eq]
  omega
theorem new_L {ns : List Nd} (hS : SmallD ns) (h : chkF ns = (0, 0)) : callL Tryd.prog (ext11b chkC) 12 [.list (ns.map Nd.d)] [] = some (.tuple [treeN ns, .con .nilIface], [], []) := by
  refine callL_ext ?_
  have hb : chkC (ns.map Nd.d) = true := by
    unfold chkC chkB
    rw [@decide_eq_true _ (Classical.propDecidable _) ⟨ns, hS, rfl, h⟩, Bool.or_true]
  show (if nodesOk (ns.map Nd.d) = true ∧ rangeOk (ns.map Nd.d) = true ∧ chkC (ns.map Nd.d) = true then some (D.tuple [treeD (ns.map Nd.d), .con .nilIface], ([] : List Room), ([] : List Bx)) else none) = _
  rw [if_pos ⟨nodes_ok hS.small, range_ok hS h, hb⟩]
  rfl
theorem chkG_app : ∀ {r a : List Nd} {roots : Int} {n : Nd}, chkG a r roots = (0, 0) → nodeF (a ++ r) n = true → rootB n = false → chkG a (r ++ [n]) roots = (0, 0)
  | [], a, roots, n, h, hn, hr => by
    rw [chkG] at h
    rw [List.append_nil] at hn
    have h1 : roots = 1 := by
      by_cases e : roots = 1
      · exact e
      · rw [if_neg e] at h; simp at h
    show chkG a [n] roots = (0, 0)
    rw [chkG, if_pos hn, hr, if_neg (by decide), chkG, if_pos h1]
  | x :: r, a, roots, n, h, hn, hr => by
    rw [chkG] at h
    split at h
    · rename_i hx
      rw [List.cons_append, chkG, if_pos hx]
      exact chkG_app h (by simpa using hn) hr
    · simp at h
theorem chkF_snoc {ns : List Nd} {n : Nd} (h : chkF ns = (0, 0)) (hn : nodeF ns n = true) (hr : rootB n = false) : chkF (ns ++ [n]) = (0, 0) := chkG_app h hn hr
theorem rowL_last {ns : List Nd} {key a : Int} {Y : List Int} : ∀ {m : Nat}, rowL ns key m = Y ++ [a] → ∃ j : Nat, j < m ∧ a = (j : Int) ∧ kAt ns j = 1 ∧ pAt ns j = key ∧ rowL ns key (j + 1) = rowL ns key m
  | 0, h => by simp [rowL] at h
  | m + 1, h => by
    rw [rowL] at h
    split at h
    · rename_i hc
      obtain ⟨_, h2⟩ := List.append_inj' h rfl
      simp only [List.cons.injEq, and_true] at h2
      exact ⟨m, by omega, h2.symm, hc.1, hc.2, rfl⟩
    · rename_i hc
      obtain ⟨j, h1, h2, h3, h4, h5⟩ := rowL_last h
      exact ⟨j, by omega, h2, h3, h4, by rw [h5, rowL, if_neg hc]⟩
end Go.Av
/- What the frames of chapter 11's laws share: the tables as the rows list them; the witness; documents as arguments. No conditions. -/
set_option linter.unusedVariables false
namespace Go.Proofs.YtdbimjpjpgfeeaaDoor
open Go.RowKit Go.Av Go.ChangeShapes Go.WideShapes
theorem own : ownKnob Tryd.prog.godebug = none := by kernel_rfl
theorem laidOut : laidOutB Tryd.prog = true := by kernel_rfl
def laid11 : List (String × DataW Unit) := Rows.domGrowsRow.laid
/-- The listed variables' names. -/
def nm (i : Nat) : String := (laid11.map (·.1)).getD i default
def accP : List (Int × Int) := [(128, 191), (160, 191), (128, 159), (144, 191), (128, 143), (0, 0), (0, 0), (0, 0), (0, 0), (0, 0), (0, 0), (0, 0), (0, 0), (0, 0), (0, 0), (0, 0)]
theorem acc_data : (Rows.laid_unicode_utf8_acceptRanges : DataW Unit) = .agg (accP.map fun z => .agg [.lit (.int .u8 z.1), .lit (.int .u8 z.2)]) := rfl
theorem first_data : Rows.laid_unicode_utf8_first = .agg ((Go.Pinned.utf8FirstZ.map fun n => ((n : Nat) : Int)).map fun z => .lit (.int .u8 z)) := by kernel_rfl
theorem accP_at (i : Nat) (h : i < 16) : (accP.getD i (0, 0)).1 = (accN.getD (i * 2) 0 : Nat) ∧ (accP.getD i (0, 0)).2 = (accN.getD (i * 2 + 1) 0 : Nat) := by
  rcases (by omega : i = 0 ∨ i = 1 ∨ i = 2 ∨ i = 3 ∨ i = 4 ∨ i = 5 ∨ i = 6 ∨ i = 7 ∨ i = 8 ∨ i = 9 ∨ i = 10 ∨ i = 11 ∨ i = 12 ∨ i = 13 ∨ i = 14 ∨ i = 15) with rfl | rfl | rfl | rfl | rfl | rfl | rfl | rfl | rfl | rfl | rfl | rfl | rfl | rfl | rfl | rfl <;> exact ⟨rfl, rfl⟩
theorem fs126 : ∃ fs, Tryd.prog.underlying 126 = some (.struct fs) ∧ fs.size = 2 ∧ Go.Deep.oneCellFields Tryd.prog fs = true ∧ ∀ (i : Nat) (f : Field), fs[i]? = some f → Tryd.prog.underlying f.type = some (.int .u8) := by
  have h : (match Tryd.prog.underlying 126 with | some (.struct fs) => fs.size == 2 && Go.Deep.oneCellFields Tryd.prog fs && fs.toList.all (fun f => f.type == 5) | _ => false) = true := by kernel_rfl
  split at h
  · rename_i fs hu
    simp only [Bool.and_eq_true, beq_iff_eq, List.all_eq_true] at h
    refine ⟨fs, hu, h.1.1, h.1.2, fun i f hf => ?_⟩
    rw [h.2 f (by rw [Array.mem_toList_iff]; exact Array.mem_of_getElem? hf)]
    exact Tryd.underlying5
  · cases h
theorem st_data : (Rows.laid_wattle_sel_states : DataW Unit) = .agg (stS.map fun z => .lit (.string z)) := rfl
section
variable {H : Type} {enc : TypeId × Value → H} {P : Program} {w : World} {base : Nat} {spare : Nat → Bool} {held : Bool}
/-- An array of texts. -/
theorem cells_strs {t e : TypeId} {n fuel : Nat} {cs : List Value} {p : List MemPlace} {zs : List (List UInt8)} (ht : P.underlying t = some (.array n e)) (he : P.underlying e = some .string) (hc : P.cellsOf e = 1)
    (h : DataW.trod enc P w base spare held fuel t cs = some (.agg (zs.map fun z => .lit (.string z)), p)) : ∀ i, i < n → cs[i]? = some (.string ⟨(zs.getD i []).toArray⟩) := by
  obtain ⟨xs, m, _, ex, _, hl, hel⟩ := DataW.trod_array ht h
  intro i hi
  have hE := hel i hi
  rw [hc, Nat.mul_one, List.getElem?_eq_getElem (by omega)] at hE
  obtain ⟨z, e1, e2, _⟩ := DataW.trod_string he hE
  have e3 : xs.map (·.1) = zs.map fun z => .lit (.string z) := (DataW.agg.inj (Prod.mk.inj ex).1).symm
  have hlen : zs.length = xs.length := by have := congrArg List.length e3; simpa using this.symm
  have e4 : (xs.map (·.1))[i]? = (zs.map fun z => (DataW.lit (.string z) : DataW H))[i]? := by rw [e3]
  rw [List.getElem?_map, List.getElem?_map, List.getElem?_eq_getElem (by omega : i < xs.length), List.getElem?_eq_getElem (by omega : i < zs.length), e2] at e4
  have hz : z.data.toList = zs.getD i [] := by
    simp only [Option.map_some, Option.some.injEq, DataW.lit.injEq, Lit.string.injEq] at e4
    rw [e4, List.getD, List.getElem?_eq_getElem (by omega : i < zs.length)]; rfl
  rw [← hz]
  have h0 : ((cs.drop i).take 1)[0]? = some (.string z) := by rw [e1]; rfl
  simpa using h0
end
theorem pw_strs {F : Nat → Nat → Prop} {w : World} (ss : List (List UInt8)) : ∀ (i : Nat) (v : Value) (x : D), (ss.map fun s => Value.string ⟨s.toArray⟩)[i]? = some v → (ss.map D.str)[i]? = some x → Den0 F w v x := by
  intro i v x hv hx
  simp only [List.getElem?_map, Option.map_eq_some_iff] at hv hx
  obtain ⟨z, hz, rfl⟩ := hv
  obtain ⟨z', hz', rfl⟩ := hx
  rw [hz] at hz'
  obtain rfl := Option.some.inj hz'
  exact .str z
theorem fix_of {W : World} {g : Nat} {ss : List (List UInt8)} (h : ∀ c, c < ss.length → W.cell? ⟨g, c, none⟩ = some (.string ⟨(ss.getD c []).toArray⟩)) : Den0 (old W) W (.pointer (some ⟨g, 0, none⟩)) (.fix (.agg (ss.map .str)) 0) := by
  refine Den0.fix (.agg (ss.map D.str)) g 0 0 (ss.map fun s => Value.string ⟨s.toArray⟩) (by simp [dcells]) (fun i v hv => ?_) (pw_strs _)
  simp only [List.getElem?_map, Option.map_eq_some_iff] at hv
  obtain ⟨z, hz, rfl⟩ := hv
  have hlt : i < ss.length := (List.getElem?_eq_some_iff.1 hz).1
  have hcell := h i hlt
  rw [List.getD, hz] at hcell
  rw [Nat.zero_add]
  exact ⟨cell_old hcell, hcell, rfl⟩
theorem pw_ints {F : Nat → Nat → Prop} {w : World} (ns : List Nat) : ∀ (i : Nat) (v : Value) (x : D), (ns.map fun n => Value.int .u8 (n : Nat))[i]? = some v → (ns.map fun n => D.int .u8 (n : Nat))[i]? = some x → Den0 F w v x := by
  intro i v x hv hx
  simp only [List.getElem?_map, Option.map_eq_some_iff] at hv hx
  obtain ⟨z, hz, rfl⟩ := hv
  obtain ⟨z', hz', rfl⟩ := hx
  rw [hz] at hz'
  obtain rfl := Option.some.inj hz'
  exact .int _ _
theorem fix_ints {W : World} {g : Nat} {ns : List Nat} (h : ∀ c, c < ns.length → W.cell? ⟨g, c, none⟩ = some (.int .u8 (ns.getD c 0 : Nat))) : Den0 (old W) W (.pointer (some ⟨g, 0, none⟩)) (.fix (.agg (ns.map fun n => .int .u8 (n : Nat))) 0) := by
  refine Den0.fix (.agg (ns.map fun n => D.int .u8 (n : Nat))) g 0 0 (ns.map fun n => Value.int .u8 (n : Nat)) (by simp [dcells]) (fun i v hv => ?_) (pw_ints _)
  simp only [List.getElem?_map, Option.map_eq_some_iff] at hv
  obtain ⟨z, hz, rfl⟩ := hv
  have hlt : i < ns.length := (List.getElem?_eq_some_iff.1 hz).1
  have hcell := h i hlt
  rw [List.getD, hz] at hcell
  rw [Nat.zero_add]
  exact ⟨cell_old hcell, hcell, rfl⟩
theorem gok11 {W : World} (h : laidMetH Tryd.prog laid11 W) : GOK (old W) W := by
  rw [MakeChecks.laidMetH_plain _ _ _ (by kernel_rfl)] at h
  obtain ⟨ps, ⟨g0, t0, cs0, f0, p0, q0, hg0, ht0, hv0, hd0, ⟨g1, t1, cs1, f1, p1, q1, hg1, ht1, hv1, hd1, ⟨g2, t2, cs2, f2, p2, q2, hg2, ht2, hv2, hd2, _⟩, _⟩, _⟩, _, _⟩ := h
  obtain rfl := Option.some.inj ((show Tryd.prog.globalNamed (nm 0) = some 3 by kernel_rfl).symm.trans hg0)
  obtain rfl := Option.some.inj ((show (Tryd.prog.globals[3]?).map (·.type) = some 127 by kernel_rfl).symm.trans ht0)
  obtain rfl := Option.some.inj ((show Tryd.prog.globalNamed (nm 1) = some 1 by kernel_rfl).symm.trans hg1)
  obtain rfl := Option.some.inj ((show (Tryd.prog.globals[1]?).map (·.type) = some 121 by kernel_rfl).symm.trans ht1)
  obtain rfl := Option.some.inj ((show Tryd.prog.globalNamed (nm 2) = some 2 by kernel_rfl).symm.trans hg2)
  obtain rfl := Option.some.inj ((show (Tryd.prog.globals[2]?).map (·.type) = some 124 by kernel_rfl).symm.trans ht2)
  have h1 : ∀ c, c < stS.length → W.cell? ⟨1, c, none⟩ = some (.string ⟨(stS.getD c []).toArray⟩) := by
    intro c hc
    rw [st_data] at hd1
    have := cells_strs Tryd.underlying121 Tryd.underlying9 (by kernel_rfl) hd1 c hc
    rw [World.var?_cell (show Tryd.prog.globalNamed (nm 1) = some 1 by kernel_rfl) hv1 c]
    simpa using this
  have h2 : ∀ c, c < ((List.range 256).map firstN).length → W.cell? ⟨2, c, none⟩ = some (.int .u8 (((List.range 256).map firstN).getD c 0 : Nat)) := by
    intro c hc
    have hc : c < 256 := by simpa using hc
    rw [first_data] at hd2
    have := cells_ints (k := .u8) Tryd.underlying124 Tryd.underlying5 (by kernel_rfl) hd2 c hc
    rw [World.var?_cell (show Tryd.prog.globalNamed (nm 2) = some 2 by kernel_rfl) hv2 c]
    have hz : (Go.Pinned.utf8FirstZ.map fun n => ((n : Nat) : Int)).getD c 0 = (firstN c : Nat) := by
      unfold firstN
      have hlen : Go.Pinned.utf8FirstZ.length = 256 := by kernel_rfl
      rw [List.getD, List.getD, List.getElem?_map, List.getElem?_eq_getElem (by omega : c < Go.Pinned.utf8FirstZ.length)]
      rfl
    rw [hz] at this
    have e : ((List.range 256).map firstN).getD c 0 = firstN c := by
      rw [List.getD, List.getElem?_map, List.getElem?_range hc]
      rfl
    rw [e]
    simpa using this
  have h3 : ∀ c, c < accN.length → W.cell? ⟨3, c, none⟩ = some (.int .u8 (accN.getD c 0 : Nat)) := by
    intro i hi
    have hi : i < 32 := hi
    rw [acc_data] at hd0
    obtain ⟨fs, h1, h2, h3, h4⟩ := fs126
    have := cells_pairs (u := 5) (k := .u8) Tryd.underlying127 h1 h2 h3 h4 (by kernel_rfl) hd0 (i / 2) (by omega)
    obtain ⟨e1, e2⟩ := accP_at (i / 2) (by omega)
    rw [e1, e2] at this
    rw [World.var?_cell (show Tryd.prog.globalNamed (nm 0) = some 3 by kernel_rfl) hv0 i]
    rcases (by omega : i = i / 2 * 2 ∨ i = i / 2 * 2 + 1) with e | e
    · rw [← e] at this; simpa using this.1
    · rw [← e] at this; simpa using this.2
  refine ⟨fun g => ?_, fun x hx => by cases hx⟩
  show (if g = 1 then D.fix (.agg stD) 0 else if g = 2 then .fix (.agg firstD) 0 else if g = 3 then .fix (.agg accD) 0 else .bad) = .bad ∨ Den0 (old W) W (.pointer (some ⟨g, 0, none⟩)) (if g = 1 then D.fix (.agg stD) 0 else if g = 2 then .fix (.agg firstD) 0 else if g = 3 then .fix (.agg accD) 0 else .bad)
  by_cases c1 : g = 1
  · subst c1; exact .inr (fix_of h1)
  · by_cases c2 : g = 2
    · subst c2
      right
      have := fix_ints h2
      rw [List.map_map] at this
      exact this
    · by_cases c3 : g = 3
      · subst c3; exact .inr (fix_ints h3)
      · left; rw [if_neg c1, if_neg c2, if_neg c3]
theorem law_calls {ext : Av.Call} (hext : CallOK Tryd.prog ext) {f : FuncId} {xs : List D} {r : List Room} {vals : List Value} {W : World} (hL : laidMetH Tryd.prog laid11 W) (h : callL Tryd.prog ext f xs [] = some (.bool true, r, [])) (hl : vals.length = xs.length)
    (hd : ∀ (i : Nat) (v : Value) (x : D), vals[i]? = some v → xs[i]? = some x → Den0 (old W) W v x) : Calls Tryd.prog f vals.toArray W fun e W' => e = .returned (.bool true) ∧ Below W.heap.size W W' := by
  obtain ⟨N, hN⟩ := callL_aev h
  obtain ⟨_, hcall⟩ := aev_sound fine11 hext N f _ [] _ _ _ hN
  have hcalls := hcall vals W (old W) (fun _ => 0) hl (fun i v x hv hx => .pure _ _ (hd i v x hv hx)) (fun i bx hb => by simp at hb) (fun i j hi => absurd hi (Nat.not_lt_zero i)) (old_lt W) (gok11 hL)
  refine hcalls.mono ?_
  rintro e W' ⟨v, F', ncl, rfl, hE, _, _, hd, _⟩
  rcases hd with ⟨_, hd, _⟩ | ⟨hl, _⟩
  · exact ⟨by rw [(hd 0 fun _ _ => 0).bool_], hE.os, hE.tape, hE.output, hE.size, fun k hk => hE.block k hk (by rintro ⟨i, hi, _⟩; exact absurd hi (Nat.not_lt_zero i))⟩
  · simp at hl
theorem witness11 {H : Type} (enc : TypeId × Value → H) (os : Os) (args : Array Value) : laidMetH Tryd.prog laid11 ((World.laidAll Tryd.prog os laid11).forCall (fun _ _ => 0) ⟨#[], args, []⟩).memory := by
  rw [MakeChecks.laidMetH_plain _ _ _ (by kernel_rfl)]
  exact laidMet_laidAll _ (by kernel_rfl) (by kernel_rfl)
theorem reach_le : reachBytes ≤ 140737488355328 := by decide
theorem str_ok {d : D} (h : TyOk .str d) : ∃ s, d = .str s ∧ s.length ≤ 140737488355328 := by
  cases h with
  | str l hl => exact ⟨_, rfl, Nat.le_trans hl reach_le⟩
theorem int_ok {d : D} (h : TyOk (.int .i64) d) : ∃ z : Int, d = .int .i64 z ∧ -9223372036854775808 ≤ z ∧ z < 9223372036854775808 := by
  cases h with
  | int k n hw =>
    have : (Lit.int .i64 n).wf = true := hw
    simp [Lit.wf, IntKind.min, IntKind.max, IntKind.signed, IntKind.bits] at this
    exact ⟨n, rfl, by omega, by omega⟩
abbrev atTy : Ty := .agg [.str, .str, .str]
abbrev ndTy : Ty := .agg [.int .i64, .int .i64, .str, .str, .list 3 atTy, .list 1 .str, .str]
theorem list_ok {α : Type} {f : α → D} {e : Ty} {sz : Nat} {Q : α → Prop} (hf : ∀ d, TyOk e d → ∃ a, d = f a ∧ Q a) {d : D} (h : TyOk (.list sz e) d) : ∃ l : List α, d = .list (l.map f) ∧ l.length ≤ 140737488355328 ∧ ∀ a ∈ l, Q a := by
  cases h with
  | list sz e es hl h =>
    have key : ∀ es : List D, (∀ d ∈ es, TyOk e d) → ∃ l : List α, es = l.map f ∧ ∀ a ∈ l, Q a := by
      intro es
      induction es with
      | nil => exact fun _ => ⟨[], rfl, fun a h => by cases h⟩
      | cons x r ih =>
        intro h
        obtain ⟨l, rfl, hq⟩ := ih fun d hd => h d (by simp [hd])
        obtain ⟨a, rfl, ha⟩ := hf x (h x (by simp))
        refine ⟨a :: l, rfl, fun b hb => ?_⟩
        rcases List.mem_cons.1 hb with rfl | hb
        · exact ha
        · exact hq b hb
    obtain ⟨l, rfl, hq⟩ := key es h
    exact ⟨l, rfl, by rw [List.length_map] at hl; exact Nat.le_trans hl reach_le, hq⟩
theorem at_ok {d : D} (h : TyOk atTy d) : ∃ a : At, d = a.d ∧ BigA a := by
  cases h with
  | agg ts ds hl h =>
    match ds, hl with
    | [x, y, z], _ =>
      obtain ⟨a, rfl, ha⟩ := str_ok (h 0 _ _ rfl rfl)
      obtain ⟨b, rfl, hb⟩ := str_ok (h 1 _ _ rfl rfl)
      obtain ⟨c, rfl, hc⟩ := str_ok (h 2 _ _ rfl rfl)
      exact ⟨⟨a, b, c⟩, rfl, ha, hb, hc⟩
theorem nd_ok {d : D} (h : TyOk ndTy d) : ∃ n : Nd, d = n.d ∧ BigN n := by
  cases h with
  | agg ts ds hl h =>
    match ds, hl with
    | [x0, x1, x2, x3, x4, x5, x6], _ =>
      obtain ⟨p, rfl, _⟩ := int_ok (h 0 _ _ rfl rfl)
      obtain ⟨k, rfl, _⟩ := int_ok (h 1 _ _ rfl rfl)
      obtain ⟨sp, rfl, h2⟩ := str_ok (h 2 _ _ rfl rfl)
      obtain ⟨nm, rfl, h3⟩ := str_ok (h 3 _ _ rfl rfl)
      obtain ⟨la, rfl, h4, h4'⟩ := list_ok (f := At.d) (Q := BigA) (fun d h => at_ok h) (h 4 _ _ rfl rfl)
      obtain ⟨ls, rfl, h5, _⟩ := list_ok (f := D.str) (Q := fun _ => True) (fun d h => (str_ok h).imp fun _ h => ⟨h.1, trivial⟩) (h 5 _ _ rfl rfl)
      obtain ⟨tx, rfl, h6⟩ := str_ok (h 6 _ _ rfl rfl)
      exact ⟨⟨p, k, sp, nm, la, ls, tx⟩, rfl, h4, h5, h3, h2, h6, h4'⟩
theorem doc_ok {d : D} (h : TyOk (.list 7 ndTy) d) : ∃ ns : List Nd, d = .list (ns.map Nd.d) ∧ BigD ns := by
  obtain ⟨l, h1, h2, h3⟩ := list_ok (f := Nd.d) (Q := BigN) (fun d h => nd_ok h) h
  exact ⟨l, h1, h2, h3⟩
end Go.Proofs.YtdbimjpjpgfeeaaDoor
/- Chapter 11: DomGrows's function hands back true. -/
set_option linter.unusedSimpArgs false
set_option linter.unusedVariables false
set_option linter.unusedSectionVars false
set_option maxRecDepth 100000
namespace Go.Av
open Go.Proofs
variable {chk : List D → Bool}
theorem chkG_zero : ∀ {r a : List Nd} {roots : Int}, (chkG a r roots).1 = 0 → chkG a r roots = (0, 0)
  | [], a, roots, h => by
    rw [chkG] at h ⊢
    split at h
    · rename_i hc
      rw [if_pos hc]
    · simp at h
  | n :: r, a, roots, h => by
    rw [chkG] at h ⊢
    split at h
    · rename_i hc
      rw [if_pos hc]
      exact chkG_zero h
    · simp at h
theorem kAt_last (ns : List Nd) (n : Nd) : kAt (ns ++ [n]) ns.length = n.k ∧ pAt (ns ++ [n]) ns.length = n.p := by
  unfold kAt pAt
  simp
/-- What the law asks of the row of a node that comes last. -/
theorem grown {ns : List Nd} {n : Nd} (hk : n.k = 1) (h0 : 0 ≤ n.p) : ∃ Z : List Int, elB (ns ++ [n]) ns.length = true ∧ parI (ns ++ [n]) ns.length = (n.p, true) ∧ rowI (ns ++ [n]) ns.length = Z ++ [(ns.length : Int)] ∧
    (ahdI (ns ++ [n]) ns.length = (match Z.getLast? with | some a => (a, true) | none => (0, false))) ∧ (∀ Y a, Z = Y ++ [a] → rowI (ns ++ [n]) a = Z ∧ elB (ns ++ [n]) a = true) ∧ Z.length ≤ ns.length := by
  obtain ⟨e1, e2⟩ := kAt_last ns n
  have he : elB (ns ++ [n]) ns.length = true := by
    unfold elB
    rw [Int.toNat_natCast, e1, hk]
    simp
    omega
  refine ⟨rowL (ns ++ [n]) n.p ns.length, he, ?_, ?_, ?_, ?_, rowL_len⟩
  · unfold parI
    rw [Int.toNat_natCast, e2, if_pos ⟨he, h0⟩]
  · unfold rowI
    rw [if_pos he, Int.toNat_natCast, rowL_succ (by rw [e1, hk]), e2]
  · unfold ahdI
    rw [if_pos he, Int.toNat_natCast, e2]
    cases (rowL (ns ++ [n]) n.p ns.length).getLast? <;> rfl
  · intro Y a hY
    obtain ⟨j, h1, rfl, h3, h4, h5⟩ := rowL_last hY
    have hj : elB (ns ++ [n]) (j : Int) = true := by
      unfold elB
      rw [Int.toNat_natCast, h3]
      simp
      omega
    refine ⟨?_, hj⟩
    unfold rowI
    rw [if_pos hj, Int.toNat_natCast, h4, h5]
def Nd.at' (n : Nd) (pr : Int) : Nd := { n with p := pr }
set_option maxHeartbeats 32000000 in
theorem law3_L (ns : List Nd) (n : Nd) (pr : Int) (hB : BigD ns) (hN : BigN n) : ∃ r, callL Tryd.prog (ext11b chkC) 3 [.list (ns.map Nd.d), n.d, .int .i64 pr] [] = some (.bool true, [r], []) := by
  have h0 := sp11C
  have h1 := rcheck_L (chk := chkC) ns hB
  have h2 : callL Tryd.prog (ext11b chkC) 9 [.list (ns.map Nd.d), .int .i64 100] [] = some (.bool (greatF ns 100), [.no], []) := great_L (chk := chkC) ns 100 (by decide)
  have h3 : callL Tryd.prog (ext11b chkC) 9 [.list [(n.at' pr).d], .int .i64 1] [] = some (.bool (greatF [n.at' pr] 1), [.no], []) := great_L (chk := chkC) [n.at' pr] 1 (by decide)
  have h4 := relem_L (chk := chkC) ns pr
  have h5 := rnode_L2 (chk := chkC) ns (n.at' pr) hN
  refine ⟨.no, ?_⟩
  obtain ⟨p0, k, sp, nm, la, ls, tx⟩ := n
  have hd : (Nd.at' ⟨p0, k, sp, nm, la, ls, tx⟩ pr).d = .agg [.int .i64 pr, .int .i64 k, .str sp, .str nm, .list (la.map At.d), .list (ls.map .str), .str tx] := rfl
  have hd0 : (Nd.d ⟨p0, k, sp, nm, la, ls, tx⟩) = .agg [.int .i64 p0, .int .i64 k, .str sp, .str nm, .list (la.map At.d), .list (ls.map .str), .str tx] := rfl
  rw [hd] at h3 h5
  rw [hd0]
  by_cases c1 : greatF ns 100 = true
  · rw [c1] at h2
    clear c1 hd hd0 h3 h4 h5 hB hN
    generalize ns.map Nd.d = NS at *
    generalize la.map At.d = LA at *
    generalize ls.map D.str = LS at *
    refine callK (m := 142) (res := [6]) (rs := [.tmp 6]) rfl Tryd.func3 rfl rfl rfl rfl rfl ?_
    repeat' (first
    | simp only [*, go_seq, go_cond, go_skip, go_retc, go_region, go_ops_nil, go_ops, okG_some, okB_some, gwD_bool, cwD_bool, gw_true, gw_false, guardG, opG, isPtr, inB, sval, stake, eats, eaters, get, cval, cval1, croom, St.taken, put_slot, put_room, put_box, put_none, dem_none, dem_slot, dem_box, dem_room, dem_room1, setBox_slot, setBox_room, setBox_box, entry_slot, entry_room, entry_box, entry_ctr, endQ, endR, endV, rvars, rvar, room1, ↓reduceIte, Nat.reduceEqDiff, Nat.reduceLT, Nat.reduceLeDiff, reduceCtorEq, decide_true, List.filterMap_cons, List.filterMap_nil, Option.bind_some, Option.map_some, List.getElem?_cons_zero, List.getElem?_cons_succ, List.getD_cons_zero, List.getD_cons_succ, List.contains_cons, List.contains_nil, List.map_cons, List.map_nil, beq_self_eq_true, Bool.or_false, Bool.or_true, Bool.and_true, Nat.reduceBEq, Bool.false_eq_true, dbin, dIntBin, okR, callG, row11, frz11, frzOf_def, frz_nil, beq_false, Bool.not_true, pureB, leaf, leafN, List.all_cons, List.all_nil, List.nil_append, List.cons_append, List.append_nil, List.take_nil, List.range_zero, List.length_nil, List.length_cons, dun, List.getElem?_nil, List.take_zero, List.drop_zero, List.drop_succ_cons, dcells, Nat.zero_add, Nat.reduceAdd, stepBox, and_self, Nat.add_zero, dStrBin, dNilEq, isLit, ty3, ty26, fp26_0, frz11b]
    | (refine drW_intro (by kernel_rfl) ?_)
    | (refine gw_intro (fun h => ?_) (fun h => ?_) <;> (try simp only [beq_true, beq_false, Bool.not_eq_eq_eq_not, Bool.not_true, Bool.not_false, Bool.not_not, decide_eq_true_eq, decide_eq_false_iff_not, ge_iff_le, gt_iff_lt] at h)))
  have c1 : greatF ns 100 = false := by simpa using c1
  rw [c1] at h2
  by_cases c2 : greatF [Nd.at' ⟨p0, k, sp, nm, la, ls, tx⟩ pr] 1 = true
  · rw [c2] at h3
    clear c1 c2 hd hd0 h4 h5 hB hN
    generalize ns.map Nd.d = NS at *
    generalize la.map At.d = LA at *
    generalize ls.map D.str = LS at *
    refine callK (m := 142) (res := [6]) (rs := [.tmp 6]) rfl Tryd.func3 rfl rfl rfl rfl rfl ?_
    repeat' (first
    | simp only [*, go_seq, go_cond, go_skip, go_retc, go_region, go_ops_nil, go_ops, okG_some, okB_some, gwD_bool, cwD_bool, gw_true, gw_false, guardG, opG, isPtr, inB, sval, stake, eats, eaters, get, cval, cval1, croom, St.taken, put_slot, put_room, put_box, put_none, dem_none, dem_slot, dem_box, dem_room, dem_room1, setBox_slot, setBox_room, setBox_box, entry_slot, entry_room, entry_box, entry_ctr, endQ, endR, endV, rvars, rvar, room1, ↓reduceIte, Nat.reduceEqDiff, Nat.reduceLT, Nat.reduceLeDiff, reduceCtorEq, decide_true, List.filterMap_cons, List.filterMap_nil, Option.bind_some, Option.map_some, List.getElem?_cons_zero, List.getElem?_cons_succ, List.getD_cons_zero, List.getD_cons_succ, List.contains_cons, List.contains_nil, List.map_cons, List.map_nil, beq_self_eq_true, Bool.or_false, Bool.or_true, Bool.and_true, Nat.reduceBEq, Bool.false_eq_true, dbin, dIntBin, okR, callG, row11, frz11, frzOf_def, frz_nil, beq_false, Bool.not_true, pureB, leaf, leafN, List.all_cons, List.all_nil, List.nil_append, List.cons_append, List.append_nil, List.take_nil, List.range_zero, List.length_nil, List.length_cons, dun, List.getElem?_nil, List.take_zero, List.drop_zero, List.drop_succ_cons, dcells, Nat.zero_add, Nat.reduceAdd, stepBox, and_self, Nat.add_zero, dStrBin, bs22, dNilEq, isLit, ty3, ty26, dp26, fp26_0, frz11b]
    | (refine drW_intro (by kernel_rfl) ?_)
    | (refine gw_intro (fun h => ?_) (fun h => ?_) <;> (try simp only [beq_true, beq_false, Bool.not_eq_eq_eq_not, Bool.not_true, Bool.not_false, Bool.not_not, decide_eq_true_eq, decide_eq_false_iff_not, ge_iff_le, gt_iff_lt] at h)))
  have c2 : greatF [Nd.at' ⟨p0, k, sp, nm, la, ls, tx⟩ pr] 1 = false := by simpa using c2
  rw [c2] at h3
  by_cases c3 : (chkF ns).1 = 0
  · by_cases c4 : elB ns pr = true
    · rw [c4] at h4
      by_cases c5 : k = 1
      · by_cases c6 : nodeF ns (Nd.at' ⟨p0, k, sp, nm, la, ls, tx⟩ pr) = true
        · rw [c6] at h5
          have hS := great_smallD c1 (by decide)
          have hz : chkF ns = (0, 0) := chkG_zero c3
          obtain ⟨j, hj, hjl, hjk⟩ := elB_at c4
          have hpr : 0 ≤ pr := by omega
          have hm : chkF (ns ++ [Nd.at' ⟨p0, k, sp, nm, la, ls, tx⟩ pr]) = (0, 0) := chkF_snoc hz c6 (by
            unfold rootB
            show ((k == 1) && decide (pr < 0)) = false
            rw [decide_eq_false (by omega), Bool.and_false])
          have hSm : SmallD (ns ++ [Nd.at' ⟨p0, k, sp, nm, la, ls, tx⟩ pr]) := by
            have hS1 := great_smallD c2 (by decide)
            refine ⟨?_, fun m hmm => ?_⟩
            · have : ns.length ≤ 100 := by
                unfold greatF at c1
                simp only [Bool.or_eq_false_iff, decide_eq_false_iff_not] at c1
                omega
              simp
              omega
            · rcases List.mem_append.1 hmm with hmm | hmm
              · exact hS.2 m hmm
              · exact hS1.2 m hmm
          have hl100 : ns.length ≤ 100 := by
            unfold greatF at c1
            simp only [Bool.or_eq_false_iff, decide_eq_false_iff_not] at c1
            omega
          have q1 := new_L hSm hm
          have hlm : (ns ++ [Nd.at' ⟨p0, k, sp, nm, la, ls, tx⟩ pr]).length ≤ 10000 := by simp; omega
          have q2 := parent_L (chk := chkC) (ns ++ [Nd.at' ⟨p0, k, sp, nm, la, ls, tx⟩ pr]) ns.length
          have q3 := row_L (chk := chkC) (ns ++ [Nd.at' ⟨p0, k, sp, nm, la, ls, tx⟩ pr]) ns.length hlm
          have q4 := ahead_L (chk := chkC) (ns ++ [Nd.at' ⟨p0, k, sp, nm, la, ls, tx⟩ pr]) ns.length hlm
          obtain ⟨Z, g1, g2, g3, g4, g5, g6⟩ := grown (ns := ns) (n := Nd.at' ⟨p0, k, sp, nm, la, ls, tx⟩ pr) c5 hpr
          have q5 : ∀ a, callL Tryd.prog (ext11b chkC) 14 [treeN (ns ++ [Nd.at' ⟨p0, k, sp, nm, la, ls, tx⟩ pr]), .int .i64 a] [] = _ := fun a => row_L (chk := chkC) (ns ++ [Nd.at' ⟨p0, k, sp, nm, la, ls, tx⟩ pr]) a hlm
          rw [g1, g3] at q3
          rw [g2] at q2
          rw [g4] at q4
          have hp' : (Nd.at' ⟨p0, k, sp, nm, la, ls, tx⟩ pr).p = pr := rfl
          rw [hp'] at q2
          rw [List.map_append, List.map_cons, List.map_nil, hd] at q1
          obtain ⟨E, K, V, P, ht, _⟩ := treeN_form (ns ++ [Nd.at' ⟨p0, k, sp, nm, la, ls, tx⟩ pr])
          rw [ht] at q1 q2 q3 q4
          simp only [ht] at q5
          have lN := lenM ns Nd.d
          have sz := szN ns
          have la30 : ns.length + 1 ≤ 1073741824 := by omega
          have la31 : (ns.map Nd.d).length + 1 ≤ 1073741824 := by rw [List.length_map]; omega
          have la32 : (ns.map Nd.d).length ≤ 1073741824 := by rw [List.length_map]; omega
          have c3' : ((chkF ns).1 != 0) = false := by rw [c3]; rfl
          have n0 : (pr != pr) = false := by simp
          have n1 : ((ns.length : Int) != ns.length) = false := by simp
          subst c5
          rcases List.eq_nil_or_concat Z with hZ | ⟨Y, a, hZ⟩
          · subst hZ
            simp only [List.nil_append, List.getLast?_nil] at q3 q4
            have a1 : (([(ns.length : Int)].map (D.int .i64)).getD 0 .bad) = .int .i64 ns.length := rfl
            have a3 : (([(ns.length : Int)].map (D.int .i64)).length : Int) = 1 := rfl
            have w1 : IntKind.i64.wrap ((1 : Int) - 1) = 0 := by decide
            generalize [(ns.length : Int)].map (D.int .i64) = ZZ at *
            generalize (chkF ns).1 = f1 at *
            generalize (chkF ns).2 = f2 at *
            generalize D.agg [.list ((ns ++ [Nd.at' ⟨p0, 1, sp, nm, la, ls, tx⟩ pr]).map Nd.d), E, .imap K V, .list (P.map (.int .i64))] = TR at *
            clear ht g1 g2 g3 g4 g5 g6 hlm hSm hm hz hS c1 c2 c4 c6 hd hd0 hB hN hjk hjl hj hpr hl100 q5 c3 hp'
            generalize ns.map Nd.d = NS at *
            generalize la.map At.d = LA at *
            generalize ls.map D.str = LS at *
            refine callK (m := 142) (res := [6]) (rs := [.tmp 6]) rfl Tryd.func3 rfl rfl rfl rfl rfl ?_
            repeat' (first
    | simp only [*, go_seq, go_cond, go_skip, go_retc, go_region, go_draw, go_ops_nil, go_ops, go_dops1, go_dops, okG_some, okB_some, gwD_bool, gwD_undef, cwD_bool, gw_true, gw_false, guardG, opG, opD, isPtr, isStore, inB, sval, stake, eats, eaters, get, cval, cval1, croom, St.taken, put_slot, put_room, put_box, put_none, dem_none, dem_slot, dem_box, dem_room, dem_room1, setBox_slot, setBox_room, setBox_box, entry_slot, entry_room, entry_box, entry_ctr, endQ, endR, endV, rvars, rvar, room1, ↓reduceIte, Nat.reduceEqDiff, Nat.reduceLT, Nat.reduceLeDiff, reduceCtorEq, decide_true, decide_false, List.filterMap_cons, List.filterMap_nil, Option.bind_some, Option.map_some, Option.bind_none, Option.map_none, List.getElem?_cons_zero, List.getElem?_cons_succ, List.getD_cons_zero, List.getD_cons_succ, List.contains_cons, List.contains_nil, List.map_cons, List.map_nil, beq_self_eq_true, beq_iff_eq, Bool.or_false, Bool.or_true, Bool.and_true, Nat.reduceBEq, Bool.false_eq_true, dbin, dIntBin, okR, callG, row11, frz11, frzOf_def, frz_nil, isLocal, allocKey, isAlloc, loadsOwn, beq_false, Bool.not_true, Bool.not_false, pureB, leaf, leafN, List.all_cons, List.all_nil, List.nil_append, List.cons_append, List.append_nil, List.take_nil, List.range_zero, List.length_nil, List.length_cons, List.find?_cons, List.find?_nil, dun, List.getElem?_nil, List.take_zero, List.drop_zero, List.drop_succ_cons, dcells, Nat.zero_add, Nat.reduceAdd, stepBox, and_true, and_self, Nat.add_zero, or_true, or_false, szOk_cons, szOk_nil, List.cons.injEq, List.getElem?_toArray, gt_iff_lt, dStrBin, Int.reduceLE, Int.reduceLT, Int.reduceToNat, Int.reduceBEq, Int.reduceBNe, ap22, bs22e, bs22, shA34, shC32, dNilEq, isLit, ty3, dp3, ty4, ty26, dp26, fp26_0, fp26_1, len22, ia39, len39]
    | (refine drW_intro (by kernel_rfl) ?_)
    | (refine gw_intro (fun h => ?_) (fun h => ?_) <;> (try simp only [beq_true, beq_false, Bool.not_eq_eq_eq_not, Bool.not_true, Bool.not_false, Bool.not_not, decide_eq_true_eq, decide_eq_false_iff_not, ge_iff_le, gt_iff_lt] at h)))
          · rw [List.concat_eq_append] at hZ
            obtain ⟨e1, e2⟩ := g5 Y a hZ
            have q6 := q5 a
            rw [e1, e2] at q6
            have q7 : callL Tryd.prog (ext11b chkC) 16 [.list (Z.map (.int .i64)), .list (Z.map (.int .i64))] [] = some (.bool (decide (Z = Z)), [.no], []) := usame_L (chk := chkC) Z Z (by omega) (by omega)
            rw [decide_eq_true rfl] at q7
            rw [hZ, List.getLast?_concat] at q4
            have a1 : ((Z ++ [(ns.length : Int)]).map (D.int .i64)).getD Z.length .bad = .int .i64 ns.length := by simp [List.getD]
            have a2 : ((Z ++ [(ns.length : Int)]).map (D.int .i64)).getD Y.length .bad = .int .i64 a := by rw [hZ]; simp [List.getD]
            have a3 : ((Z ++ [(ns.length : Int)]).map (D.int .i64)).length = Z.length + 1 := by simp
            have a4 : ((Z ++ [(ns.length : Int)]).map (D.int .i64)).take Z.length = Z.map (D.int .i64) := by rw [List.map_append, List.take_left' (by simp)]
            have a5 : Z.length = Y.length + 1 := by rw [hZ]; simp
            have a6 := sz1 (Z ++ [(ns.length : Int)])
            generalize (Z ++ [(ns.length : Int)]).map (D.int .i64) = ZZ at *
            generalize hm2 : Z.length = m at *
            generalize hm3 : Y.length = m3 at *
            have w1 : IntKind.i64.wrap (((m + 1 : Nat) : Int) - 1) = (m : Int) := by rw [wrap64 _ (by omega) (by omega)]; omega
            have w2 : IntKind.i64.wrap (((m + 1 : Nat) : Int) - 2) = (m3 : Int) := by rw [wrap64 _ (by omega) (by omega)]; omega
            have b1 : (((m + 1 : Nat) : Int) == 0) = false := by simp; omega
            have b2 : (1 : Int) < ((m + 1 : Nat) : Int) := by omega
            have b3 : (m : Int) < ((m + 1 : Nat) : Int) := by omega
            have b4 : (m3 : Int) < ((m + 1 : Nat) : Int) := by omega
            have b5 : (m : Int) ≤ ((m + 1 : Nat) : Int) := by omega
            have b6 : (a == a) = true := by simp
            generalize (chkF ns).1 = f1 at *
            generalize (chkF ns).2 = f2 at *
            generalize D.agg [.list ((ns ++ [Nd.at' ⟨p0, 1, sp, nm, la, ls, tx⟩ pr]).map Nd.d), E, .imap K V, .list (P.map (.int .i64))] = TR at *
            clear ht g1 g2 g3 g4 g5 g6 hlm hSm hm hz hS c1 c2 c4 c6 hd hd0 hB hN hjk hjl hj hpr hl100 q5 c3 hp' e1 e2 hm2 hm3 a5 hZ
            generalize ns.map Nd.d = NS at *
            generalize la.map At.d = LA at *
            generalize ls.map D.str = LS at *
            refine callK (m := 142) (res := [6]) (rs := [.tmp 6]) rfl Tryd.func3 rfl rfl rfl rfl rfl ?_
            repeat' (first
    | simp only [*, go_seq, go_cond, go_skip, go_retc, go_region, go_draw, go_ops_nil, go_ops, go_dops1, go_dops, okG_some, okB_some, gwD_bool, cwD_bool, gw_true, gw_false, guardG, opG, opD, isPtr, isStore, inB, sval, stake, eats, eaters, get, cval, cval1, croom, St.taken, put_slot, put_room, put_box, put_none, dem_none, dem_slot, dem_box, dem_room, dem_room1, setBox_slot, setBox_room, setBox_box, entry_slot, entry_room, entry_box, entry_ctr, endQ, endR, endV, rvars, rvar, room1, ↓reduceIte, Nat.reduceEqDiff, Nat.reduceLT, Nat.reduceLeDiff, reduceCtorEq, decide_true, List.filterMap_cons, List.filterMap_nil, Option.bind_some, Option.map_some, Option.bind_none, Option.map_none, List.getElem?_cons_zero, List.getElem?_cons_succ, List.getD_cons_zero, List.getD_cons_succ, List.contains_cons, List.contains_nil, List.map_cons, List.map_nil, beq_self_eq_true, beq_iff_eq, Bool.or_false, Bool.or_true, Bool.and_true, Nat.reduceBEq, Bool.false_eq_true, dbin, dIntBin, okR, callG, row11, frz11, frzOf_def, frz_nil, isLocal, allocKey, isAlloc, loadsOwn, Bool.not_true, pureB, leaf, leafN, List.all_cons, List.all_nil, List.nil_append, List.cons_append, List.append_nil, List.take_nil, List.range_zero, List.length_nil, List.length_cons, List.find?_cons, List.find?_nil, dun, List.getElem?_nil, List.take_zero, List.drop_zero, List.drop_succ_cons, dcells, Nat.zero_add, Nat.reduceAdd, stepBox, and_true, Int.natCast_nonneg, Int.toNat_natCast, and_self, Nat.add_zero, or_true, or_false, szOk_cons, szOk_nil, List.cons.injEq, List.getElem?_toArray, dopt, dbound, gt_iff_lt, dStrBin, plainR_s, Int.reduceBNe, ap22, bs22e, bs22, shA34, shC32, dNilEq, isLit, ty3, dp3, ty4, ty26, dp26, fp26_0, fp26_1, len22, ia39, len39, sl39]
    | (refine drW_intro (by kernel_rfl) ?_)
    | (refine gw_intro (fun h => ?_) (fun h => ?_) <;> (try simp only [beq_true, beq_false, Bool.not_eq_eq_eq_not, Bool.not_true, Bool.not_false, Bool.not_not, decide_eq_true_eq, decide_eq_false_iff_not, ge_iff_le, gt_iff_lt] at h)))
        · have c6 : nodeF ns (Nd.at' ⟨p0, k, sp, nm, la, ls, tx⟩ pr) = false := by simpa using c6
          rw [c6] at h5
          have c3' : ((chkF ns).1 != 0) = false := by rw [c3]; rfl
          have c5' : (k != 1) = false := by simp [c5]
          clear c1 c2 c3 c4 c5 c6 hd hd0 hB hN
          generalize ns.map Nd.d = NS at *
          generalize la.map At.d = LA at *
          generalize ls.map D.str = LS at *
          refine callK (m := 142) (res := [6]) (rs := [.tmp 6]) rfl Tryd.func3 rfl rfl rfl rfl rfl ?_
          repeat' (first
    | simp only [*, go_seq, go_cond, go_skip, go_retc, go_region, go_ops_nil, go_ops, okG_some, okB_some, gwD_bool, cwD_bool, gw_true, gw_false, guardG, opG, isPtr, inB, sval, stake, eats, eaters, get, cval, cval1, croom, St.taken, put_slot, put_room, put_box, put_none, dem_none, dem_slot, dem_box, dem_room, dem_room1, setBox_slot, setBox_room, setBox_box, entry_slot, entry_room, entry_box, entry_ctr, endQ, endR, endV, rvars, rvar, room1, ↓reduceIte, Nat.reduceEqDiff, Nat.reduceLT, Nat.reduceLeDiff, reduceCtorEq, decide_true, List.filterMap_cons, List.filterMap_nil, Option.bind_some, Option.map_some, List.getElem?_cons_zero, List.getElem?_cons_succ, List.getD_cons_zero, List.getD_cons_succ, List.contains_cons, List.contains_nil, List.map_cons, List.map_nil, beq_self_eq_true, Bool.or_false, Bool.or_true, Bool.and_true, Nat.reduceBEq, Bool.false_eq_true, dbin, dIntBin, okR, callG, row11, frz11, frzOf_def, frz_nil, Bool.not_true, Bool.not_false, pureB, leaf, leafN, List.all_cons, List.all_nil, List.nil_append, List.cons_append, List.append_nil, List.take_nil, List.range_zero, List.length_nil, List.length_cons, dun, List.getElem?_nil, List.take_zero, List.drop_zero, List.drop_succ_cons, dcells, Nat.zero_add, Nat.reduceAdd, stepBox, and_self, Nat.add_zero, dStrBin, bs22, dNilEq, isLit, ty3, dp3, ty26, dp26, fp26_0, fp26_1, frz11b]
    | (refine drW_intro (by kernel_rfl) ?_)
    | (refine gw_intro (fun h => ?_) (fun h => ?_) <;> (try simp only [beq_true, beq_false, Bool.not_eq_eq_eq_not, Bool.not_true, Bool.not_false, Bool.not_not, decide_eq_true_eq, decide_eq_false_iff_not, ge_iff_le, gt_iff_lt] at h)))
      · have c5' : (k != 1) = true := by simpa using c5
        have c3' : ((chkF ns).1 != 0) = false := by rw [c3]; rfl
        clear c1 c2 c3 c4 c5 hd hd0 hB hN h5
        generalize ns.map Nd.d = NS at *
        generalize la.map At.d = LA at *
        generalize ls.map D.str = LS at *
        refine callK (m := 142) (res := [6]) (rs := [.tmp 6]) rfl Tryd.func3 rfl rfl rfl rfl rfl ?_
        repeat' (first
    | simp only [*, go_seq, go_cond, go_skip, go_retc, go_region, go_ops_nil, go_ops, okG_some, okB_some, gwD_bool, cwD_bool, gw_true, gw_false, guardG, opG, isPtr, inB, sval, stake, eats, eaters, get, cval, cval1, croom, St.taken, put_slot, put_room, put_box, put_none, dem_none, dem_slot, dem_box, dem_room, dem_room1, setBox_slot, setBox_room, setBox_box, entry_slot, entry_room, entry_box, entry_ctr, endQ, endR, endV, rvars, rvar, room1, ↓reduceIte, Nat.reduceEqDiff, Nat.reduceLT, Nat.reduceLeDiff, reduceCtorEq, decide_true, List.filterMap_cons, List.filterMap_nil, Option.bind_some, Option.map_some, List.getElem?_cons_zero, List.getElem?_cons_succ, List.getD_cons_zero, List.getD_cons_succ, List.contains_cons, List.contains_nil, List.map_cons, List.map_nil, beq_self_eq_true, Bool.or_false, Bool.or_true, Bool.and_true, Nat.reduceBEq, Bool.false_eq_true, dbin, dIntBin, okR, callG, row11, frz11, frzOf_def, frz_nil, beq_false, Bool.not_true, pureB, leaf, leafN, List.all_cons, List.all_nil, List.nil_append, List.cons_append, List.append_nil, List.take_nil, List.range_zero, List.length_nil, List.length_cons, dun, List.getElem?_nil, List.take_zero, List.drop_zero, List.drop_succ_cons, dcells, Nat.zero_add, Nat.reduceAdd, stepBox, and_self, Nat.add_zero, dStrBin, bs22, dNilEq, isLit, ty3, dp3, ty26, dp26, fp26_0, fp26_1, frz11b]
    | (refine drW_intro (by kernel_rfl) ?_)
    | (refine gw_intro (fun h => ?_) (fun h => ?_) <;> (try simp only [beq_true, beq_false, Bool.not_eq_eq_eq_not, Bool.not_true, Bool.not_false, Bool.not_not, decide_eq_true_eq, decide_eq_false_iff_not, ge_iff_le, gt_iff_lt] at h)))
    · have c4 : elB ns pr = false := by simpa using c4
      rw [c4] at h4
      have c3' : ((chkF ns).1 != 0) = false := by rw [c3]; rfl
      clear c1 c2 c3 c4 hd hd0 hB hN h5
      generalize ns.map Nd.d = NS at *
      generalize la.map At.d = LA at *
      generalize ls.map D.str = LS at *
      refine callK (m := 142) (res := [6]) (rs := [.tmp 6]) rfl Tryd.func3 rfl rfl rfl rfl rfl ?_
      repeat' (first
    | simp only [*, go_seq, go_cond, go_skip, go_retc, go_region, go_ops_nil, go_ops, okG_some, okB_some, gwD_bool, cwD_bool, gw_true, gw_false, guardG, opG, isPtr, inB, sval, stake, eats, eaters, get, cval, cval1, croom, St.taken, put_slot, put_room, put_box, put_none, dem_none, dem_slot, dem_box, dem_room, dem_room1, setBox_slot, setBox_room, setBox_box, entry_slot, entry_room, entry_box, entry_ctr, endQ, endR, endV, rvars, rvar, room1, ↓reduceIte, Nat.reduceEqDiff, Nat.reduceLT, Nat.reduceLeDiff, reduceCtorEq, decide_true, List.filterMap_cons, List.filterMap_nil, Option.bind_some, Option.map_some, List.getElem?_cons_zero, List.getElem?_cons_succ, List.getD_cons_zero, List.getD_cons_succ, List.contains_cons, List.contains_nil, List.map_cons, List.map_nil, beq_self_eq_true, Bool.or_false, Bool.or_true, Bool.and_true, Nat.reduceBEq, Bool.false_eq_true, dbin, dIntBin, okR, callG, row11, frz11, frzOf_def, frz_nil, beq_false, Bool.not_true, Bool.not_false, pureB, leaf, leafN, List.all_cons, List.all_nil, List.nil_append, List.cons_append, List.append_nil, List.take_nil, List.range_zero, List.length_nil, List.length_cons, dun, List.getElem?_nil, List.take_zero, List.drop_zero, List.drop_succ_cons, dcells, Nat.zero_add, Nat.reduceAdd, stepBox, and_self, Nat.add_zero, dStrBin, bs22, dNilEq, isLit, ty3, ty26, dp26, fp26_0, frz11b]
    | (refine drW_intro (by kernel_rfl) ?_)
    | (refine gw_intro (fun h => ?_) (fun h => ?_) <;> (try simp only [beq_true, beq_false, Bool.not_eq_eq_eq_not, Bool.not_true, Bool.not_false, Bool.not_not, decide_eq_true_eq, decide_eq_false_iff_not, ge_iff_le, gt_iff_lt] at h)))
  · have c3' : ((chkF ns).1 != 0) = true := by simpa using c3
    clear c1 c2 c3 hd hd0 hB hN h5 h4
    generalize ns.map Nd.d = NS at *
    generalize la.map At.d = LA at *
    generalize ls.map D.str = LS at *
    refine callK (m := 142) (res := [6]) (rs := [.tmp 6]) rfl Tryd.func3 rfl rfl rfl rfl rfl ?_
    repeat' (first
    | simp only [*, go_seq, go_cond, go_skip, go_retc, go_region, go_ops_nil, go_ops, okG_some, okB_some, gwD_bool, cwD_bool, gw_true, gw_false, guardG, opG, isPtr, inB, sval, stake, eats, eaters, get, cval, cval1, croom, St.taken, put_slot, put_room, put_box, put_none, dem_none, dem_slot, dem_box, dem_room, dem_room1, setBox_slot, setBox_room, setBox_box, entry_slot, entry_room, entry_box, entry_ctr, endQ, endR, endV, rvars, rvar, room1, ↓reduceIte, Nat.reduceEqDiff, Nat.reduceLT, Nat.reduceLeDiff, reduceCtorEq, decide_true, List.filterMap_cons, List.filterMap_nil, Option.bind_some, Option.map_some, List.getElem?_cons_zero, List.getElem?_cons_succ, List.getD_cons_zero, List.getD_cons_succ, List.contains_cons, List.contains_nil, List.map_cons, List.map_nil, beq_self_eq_true, Bool.or_false, Bool.or_true, Bool.and_true, Nat.reduceBEq, Bool.false_eq_true, dbin, dIntBin, okR, callG, row11, frz11, frzOf_def, frz_nil, beq_false, Bool.not_true, pureB, leaf, leafN, List.all_cons, List.all_nil, List.nil_append, List.cons_append, List.append_nil, List.take_nil, List.range_zero, List.length_nil, List.length_cons, dun, List.getElem?_nil, List.take_zero, List.drop_zero, List.drop_succ_cons, dcells, Nat.zero_add, Nat.reduceAdd, stepBox, and_self, Nat.add_zero, dStrBin, bs22, dNilEq, isLit, ty3, ty26, dp26, fp26_0, frz11b]
    | (refine drW_intro (by kernel_rfl) ?_)
    | (refine gw_intro (fun h => ?_) (fun h => ?_) <;> (try simp only [beq_true, beq_false, Bool.not_eq_eq_eq_not, Bool.not_true, Bool.not_false, Bool.not_not, decide_eq_true_eq, decide_eq_false_iff_not, ge_iff_le, gt_iff_lt] at h)))
end Go.Av
/- Chapter 11: whether two lists are one: slices.Equal at two types, the document's Texts. -/
set_option linter.unusedSimpArgs false
set_option linter.unusedVariables false
set_option linter.unusedSectionVars false
set_option maxRecDepth 100000
namespace Go.Av
open Go.Proofs
variable {chk : List D → Bool}
set_option maxHeartbeats 4000000 in
theorem texts_L (xs ys : List (List UInt8)) (hl : xs.length ≤ 1000000) (hl2 : ys.length ≤ 1000000) : callL Tryd.prog (ext11b chk) 50 [.list (xs.map D.str), .list (ys.map D.str)] [] = some (.bool (decide (xs = ys)), [.no], []) := by
  have lN := lenM xs D.str
  have lM := lenM ys D.str
  refine callK (m := 26) (res := [4]) (rs := [.tmp 4]) rfl Tryd.func50 rfl rfl rfl rfl rfl ?_
  by_cases hne : xs.length = ys.length
  · have hb : (((xs.length : Int) != ys.length)) = false := by simp [hne]
    have HL := Hd.mk hl
    have HE := Hd.mk hne
    clear hl hl2 hne
    obtain ⟨R, hR⟩ : ∃ R, Hd (R = decide (xs = ys)) := ⟨_, rfl⟩
    rw [← (show R = decide (xs = ys) from hR)]
    repeat' (first
    | simp only [*, go_seq, go_cond, go_block, go_skip, go_loop, go_region, go_ops_nil, go_ops, okG_some, cwD_bool, gw_false, guardG, opG, isPtr, inB, sval, stake, eats, eaters, get, cval, cval1, croom, St.taken, put_slot, dem_none, entry_slot, ↓reduceIte, Nat.reduceEqDiff, Nat.reduceLT, reduceCtorEq, decide_true, List.filterMap_cons, List.filterMap_nil, Option.map_some, List.getD_cons_zero, List.getD_cons_succ, List.contains_cons, List.contains_nil, List.map_cons, List.map_nil, Bool.or_false, Bool.false_eq_true, dbin, dIntBin, row11, frz11, frzOf_def, frz_nil, List.length_nil, len24, frz11b]
    | (refine drW_intro (by kernel_rfl) ?_)
    | (refine gw_intro (fun h => ?_) (fun h => ?_) <;> (try simp only [beq_true, beq_false, Bool.not_eq_eq_eq_not, Bool.not_true, Bool.not_false, Bool.not_not, decide_eq_true_eq, decide_eq_false_iff_not, ge_iff_le, gt_iff_lt] at h)))
    refine loopH (fun st => ∃ i : Nat, i ≤ xs.length ∧ st.slot 5 = .int .i64 i ∧ st.slot 0 = .list (xs.map D.str) ∧ st.slot 1 = .list (ys.map D.str) ∧ st.slot 4 = .bool false ∧ st.room 4 = [] ∧ Hd (R = decide (xs.drop i = ys.drop i))) (fun st => xs.length - slotI st 5) ?_ ?_
    · refine ⟨0, Nat.zero_le _, ?_, ?_, ?_, ?_, ?_, hR⟩
      all_goals simp only [*, put_slot, put_room, entry_slot, ↓reduceIte, Nat.reduceEqDiff, reduceCtorEq, List.getD_cons_zero, List.getD_cons_succ]
      all_goals rfl
    · rintro st K ⟨i, hi, g8, g0, g1, g3, gr, hO⟩ hn hx hr
      have hl : xs.length ≤ 1000000 := HL
      have hne : xs.length = ys.length := HE
      by_cases h : i < xs.length
      · have g9 : (i : Int) < xs.length := by omega
        have g9' : (i : Int) < ys.length := by omega
        have hw := wrapS i (by omega)
        obtain ⟨x, hx1⟩ := some_at h
        obtain ⟨y, hy1⟩ := some_at (show i < ys.length by omega)
        have hO' : R = decide (xs.drop i = ys.drop i) := hO
        rw [drop_eq hx1 hy1] at hO'
        have ha := getD_map (f := D.str) hx1
        have hb1 := getD_map (f := D.str) hy1
        cases he : decide (x = y) with
        | false =>
          rw [he, Bool.false_and] at hO'
          subst hO'
          have hqs : (x == y) = decide (x = y) := by rw [Bool.eq_iff_iff]; simp
          rw [he] at hqs
          clear hO hn hx hl hne hx1 hy1 hR
          repeat' (first
    | simp only [*, go_seq, go_cond, go_block, go_skip, go_retc, go_region, go_draw, go_ops_nil, go_ops, go_dops1, go_dops, okG_some, cwD_bool, gw_true, guardG, opG, opD, isPtr, isStore, inB, sval, stake, eats, eaters, get, cval, cval1, croom, St.taken, put_slot, dem_none, ↓reduceIte, Nat.reduceEqDiff, Nat.reduceLT, reduceCtorEq, decide_true, List.filterMap_cons, List.filterMap_nil, Option.map_some, List.getElem?_cons_zero, List.contains_cons, List.contains_nil, List.map_cons, List.map_nil, Bool.or_false, Bool.false_eq_true, dbin, dIntBin, row11, frz11, frzOf_def, frz_nil, loadsOwn, Bool.not_false, List.length_nil, List.length_cons, dcells, Nat.zero_add, Int.natCast_nonneg, Int.toNat_natCast, and_self, dStrBin, dp9, ia24, len24, frz11b]
    | (refine drW_intro (by kernel_rfl) ?_)
    | (refine gw_intro (fun h => ?_) (fun h => ?_) <;> (try simp only [beq_true, beq_false, Bool.not_eq_eq_eq_not, Bool.not_true, Bool.not_false, Bool.not_not, decide_eq_true_eq, decide_eq_false_iff_not, ge_iff_le, gt_iff_lt] at h)))
          refine hr _ ?_
          repeat' (first
    | simp only [*, put_slot, put_room, put_box, endQ, endR, endV, rvars, rvar, room1, ↓reduceIte, List.map_nil, pureB, leaf, leafN, List.take_nil, List.range_zero, and_self]
    | (refine drW_intro (by kernel_rfl) ?_)
    | (refine gw_intro (fun h => ?_) (fun h => ?_) <;> (try simp only [beq_true, beq_false, Bool.not_eq_eq_eq_not, Bool.not_true, Bool.not_false, Bool.not_not, decide_eq_true_eq, decide_eq_false_iff_not, ge_iff_le, gt_iff_lt] at h)))
        | true =>
          rw [he, Bool.true_and] at hO'
          have hqs : (x == y) = decide (x = y) := by rw [Bool.eq_iff_iff]; simp
          rw [he] at hqs
          have HO := Hd.mk hO'
          clear hO hO' hx hr hl hne hx1 hy1
          repeat' (first
    | simp only [*, go_nil, go_seq, go_cond, go_block, go_blk, go_skip, go_region, go_draw, go_ops_nil, go_ops, go_dops1, go_dops, okG_some, cwD_bool, gw_true, gw_false, guardG, opG, opD, isPtr, isStore, inB, sval, stake, eats, eaters, get, cval, cval1, St.taken, put_slot, put_room, dem_none, ↓reduceIte, Nat.reduceEqDiff, Nat.reduceLT, reduceCtorEq, decide_true, List.filterMap_cons, List.filterMap_nil, Option.map_some, List.getElem?_cons_zero, List.contains_cons, List.contains_nil, List.map_cons, List.map_nil, Bool.or_false, Nat.reduceBEq, Bool.false_eq_true, dbin, dIntBin, row11, frz11, frzOf_def, frz_nil, loadsOwn, Bool.not_true, List.length_nil, List.length_cons, dcells, Nat.zero_add, Int.natCast_nonneg, Int.toNat_natCast, and_self, dStrBin, dp9, ia24, len24]
    | (refine drW_intro (by kernel_rfl) ?_)
    | (refine gw_intro (fun h => ?_) (fun h => ?_) <;> (try simp only [beq_true, beq_false, Bool.not_eq_eq_eq_not, Bool.not_true, Bool.not_false, Bool.not_not, decide_eq_true_eq, decide_eq_false_iff_not, ge_iff_le, gt_iff_lt] at h)))
          refine hn _ ⟨i + 1, h, ?_, ?_, ?_, ?_, ?_, HO⟩ ?_
          · simp only [*, put_slot, ↓reduceIte]
          · simp only [*, put_slot, dem_slot, ↓reduceIte, reduceCtorEq]
          · simp only [*, put_slot, dem_slot, ↓reduceIte, Nat.reduceEqDiff]
          · simp only [*, put_slot, dem_slot, ↓reduceIte, Nat.reduceEqDiff]
          · simp only [*, put_room, dem_room, ↓reduceIte, Nat.reduceEqDiff]
          · simp only [slotI, *, put_slot, ↓reduceIte, Int.toNat_natCast]
            omega
      · have g9 : ¬ (i : Int) < xs.length := by omega
        have hO' : R = decide (xs.drop i = ys.drop i) := hO
        rw [drop_end hne (by omega)] at hO'
        subst hO'
        clear hO hn hr hl hne hR
        repeat' (first
    | simp only [*, go_nil, go_seq, go_cond, go_exit, go_xcode, go_region, go_ops_nil, go_ops, okG_some, cwD_bool, gw_false, guardG, opG, isPtr, inB, sval, stake, eats, eaters, get, St.taken, put_slot, dem_none, ↓reduceIte, Nat.reduceEqDiff, Nat.reduceLT, reduceCtorEq, decide_true, decide_false, List.filterMap_cons, List.filterMap_nil, Option.map_some, List.contains_cons, List.contains_nil, List.map_cons, List.map_nil, Bool.or_false, Bool.false_eq_true, dbin, dIntBin, row11, frz11, frzOf_def, frz_nil, len24]
    | (refine drW_intro (by kernel_rfl) ?_)
    | (refine gw_intro (fun h => ?_) (fun h => ?_) <;> (try simp only [beq_true, beq_false, Bool.not_eq_eq_eq_not, Bool.not_true, Bool.not_false, Bool.not_not, decide_eq_true_eq, decide_eq_false_iff_not, ge_iff_le, gt_iff_lt] at h)))
        refine hx _ _ ?_
        repeat' (first
    | simp only [*, go_seq, go_retc, go_xblk, go_region, go_ops_nil, go_ops, okG_some, guardG, opG, inB, sval, stake, eats, eaters, get, cval, cval1, croom, put_slot, put_room, put_box, dem_none, endQ, endR, endV, rvars, rvar, room1, ↓reduceIte, Nat.reduceLT, decide_true, List.filterMap_cons, List.filterMap_nil, List.contains_cons, List.contains_nil, List.map_nil, Bool.or_false, Bool.false_eq_true, row11, frz_nil, pureB, leaf, leafN, List.take_nil, List.range_zero, and_self, frz11b]
    | (refine drW_intro (by kernel_rfl) ?_)
    | (refine gw_intro (fun h => ?_) (fun h => ?_) <;> (try simp only [beq_true, beq_false, Bool.not_eq_eq_eq_not, Bool.not_true, Bool.not_false, Bool.not_not, decide_eq_true_eq, decide_eq_false_iff_not, ge_iff_le, gt_iff_lt] at h)))
  · have hb : (((xs.length : Int) != ys.length)) = true := by simp; omega
    rw [len_ne hne]
    clear hl hl2 hne
    repeat' (first
    | simp only [*, go_seq, go_cond, go_retc, go_region, go_ops_nil, go_ops, okG_some, cwD_bool, gw_true, guardG, opG, isPtr, inB, sval, stake, eats, eaters, get, cval, cval1, croom, St.taken, put_slot, put_room, put_box, dem_none, entry_slot, entry_box, endQ, endR, endV, rvars, rvar, room1, ↓reduceIte, Nat.reduceEqDiff, Nat.reduceLT, reduceCtorEq, decide_true, List.filterMap_cons, List.filterMap_nil, Option.map_some, List.getD_cons_zero, List.getD_cons_succ, List.contains_cons, List.contains_nil, List.map_cons, List.map_nil, Bool.or_false, Bool.false_eq_true, dbin, dIntBin, row11, frz11, frzOf_def, frz_nil, pureB, leaf, leafN, List.take_nil, List.range_zero, List.length_nil, List.getElem?_nil, and_self, len24, frz11b]
    | (refine drW_intro (by kernel_rfl) ?_)
    | (refine gw_intro (fun h => ?_) (fun h => ?_) <;> (try simp only [beq_true, beq_false, Bool.not_eq_eq_eq_not, Bool.not_true, Bool.not_false, Bool.not_not, decide_eq_true_eq, decide_eq_false_iff_not, ge_iff_le, gt_iff_lt] at h)))
end Go.Av
