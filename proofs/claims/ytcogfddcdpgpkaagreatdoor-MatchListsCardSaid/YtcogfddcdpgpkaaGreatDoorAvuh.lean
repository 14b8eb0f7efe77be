/- The evaluator, in one text: over any program; no conditions but those that each law names. -/
import Derived.Test.YtcogfddcdpgpkaaGreatDoorAvug
import Derived.Test.YtcogfddcdpgpkaaGreatDoorAvuc
import Derived.Test.YtcogfddcdpgpkaaGreatDoorAvud
import Derived.Test.YtcogfddcdpgpkaaGreatDoorAvue
import Derived.Test.YtcogfddcdpgpkaaGreatDoorAvuf
set_option linter.unusedSimpArgs false
set_option linter.unusedVariables false
set_option linter.unusedSectionVars false
set_option maxRecDepth 100000
namespace Go.Av
open Go.Proofs
variable [Rk] {chk : List D → Bool}
set_option maxHeartbeats 8000000 in
theorem rnth_L (ns : List Nd) (nm : Nam) (n : Int) (s : Sf) (W : Int → Bool) (hS : ns.length ≤ 10000) (he : elB ns n = true)
  (ha : s.a ≤ 1099511627776 ∧ -1099511627776 ≤ s.a) (hb : s.b ≤ 1099511627776 ∧ -1099511627776 ≤ s.b)
  (hl : ∀ j ∈ rowI ns n, s.of_ ≠ [] → callL Tryz.prog (ext11b chk) 19 [.list (ns.map Nd.d), .list s.of_, .agg nm.cs, .agg [.int .i64 j, .str []]] [] = some (.bool (W j), [.no], [])) :
  callL Tryz.prog (ext11b chk) 43 [.list (ns.map Nd.d), s.d, .agg nm.cs, .int .i64 n] [] = some (.bool ((nthGo (fun j => s.of_.isEmpty || W j) (rowI ns n) 0 false).2 && hasAB s.a s.b (nthGo (fun j => s.of_.isEmpty || W j) (rowI ns n) 0 false).1), [.no], []) := by
 have hR := rrow_L (chk := chk) ns n hS
 have hlen : (rowI ns n).length ≤ 10001 := by
  rw [row_snoc he]
  have h1 := rowL_len (ns := ns) (key := pAt ns n.toNat) (m := n.toNat)
  have h2 := (elB_nat he).2.1
  have h3 := (elB_nat he).1
  simp only [List.length_append, List.length_singleton]
  omega
 generalize rowI ns n = R at *
 have hh : ∀ m : Nat, m ≤ 20000 → callL Tryz.prog (ext11b chk) 78 [.int .i64 s.a, .int .i64 s.b, .int .i64 (m : Int)] [] = some (.bool (hasAB s.a s.b m), [.no], []) := fun m hm => ranbHas_L (chk := chk) s.a s.b (m : Int) ha hb (by omega)
 have HH := Hd.mk hh
 have HL := Hd.mk hlen
 have lN := lenM R (D.int .i64)
 obtain ⟨E, hE⟩ : ∃ E, s.of_.isEmpty = E := ⟨_, rfl⟩
 have hz : ((s.of_.length : Int) == 0) = E := by
  rw [← hE]
  cases s.of_ with
  | nil => rfl
  | cons x r => exact ne0 (by simp)
 have HC := Hd.mk (show ∀ j ∈ R, E = false → _ from fun j hj e => hl j hj (by rintro e2; rw [e2] at hE; rw [← hE] at e; cases e))
 rw [hE]
 obtain ⟨G, hG⟩ : ∃ G, Hd (nthGo (fun j => E || W j) R 0 false = G) := ⟨_, rfl⟩
 rw [show nthGo (fun j => E || W j) R 0 false = G from hG]
 clear hh hlen hl hE ha hb he hS
 unfold Nam.cs Sf.d at *
 generalize ns.map Nd.d = L at *
 refine cK 52 8 Tryz.func43 ?_
 refine Gy ?_
 clear hR
 refine loopH (fun st => ∃ (i p : Nat) (b : Bool) (r5 r6 : List Room), i ≤ R.length ∧ st.slot 12 = .int .i64 i ∧ st.slot 10 = .int .i64 (p : Int) ∧ st.slot 11 = .bool b ∧ st.slot 9 = .list (R.map (D.int .i64)) ∧ st.slot 0 = .list L ∧ st.slot 5 = .ptr 5 1 0 ∧ st.box 5 = some ⟨1, [.int .i64 s.kd, .int .i64 s.ns, .str s.pre, .str s.nm, .int .i64 s.op, .str s.tx, .bool s.fold, .int .i64 s.mark, .int .i64 s.a, .int .i64 s.b, .list s.of_], r5⟩ ∧ st.slot 6 = .ptr 6 1 0 ∧ st.box 6 = some ⟨1, [.bool nm.has, .str nm.dft, .list (nm.pre.map .str), .list (nm.sps.map .str)], r6⟩ ∧ Hd (p ≤ i ∧ nthGo (fun j => E || W j) (R.drop i) p b = G)) (fun st => R.length - slotI st 12) ?_ ?_
 ·exact ⟨0, 0, false, (padR [] 11).take 11, (padR [] 4).take 4, Nat.zero_le _, Iy, Iy, Iy, Iy, Iy, Iy, Iy, Iy, Iy, Hd.mk ⟨Nat.le_refl _, hG⟩⟩
 ·rintro st K ⟨i, p, b, r5, r6, hi, g12, g10, g11, g9, g0, g5, b5, g6, b6, hO⟩ hn hx hr
  have hO' : p ≤ i ∧ nthGo (fun j => E || W j) (R.drop i) p b = G := hO
  have hll : R.length ≤ 10001 := HL
  by_cases h : i < R.length
  ·have k9 : (i : Int) < R.length := by omega
   have hw := wrapS i (by omega)
   have hw2 := wrapS p (by omega)
   obtain ⟨x, hx1⟩ := some_at h
   have ha : (R.map (D.int .i64)).getD i .bad = .int .i64 x := getD_map (f := D.int .i64) hx1
   rw [drop_at hx1, nthGo] at hO'
   have hcl := (show ∀ j ∈ R, E = false → _ from HC) x (List.mem_of_getElem? hx1)
   cases hEE : E with
   | true =>
    rw [hEE, Bool.true_or, if_pos rfl] at hO'
    have HO := Hd.mk (show p + 1 ≤ i + 1 ∧ nthGo (fun j => E || W j) (R.drop (i + 1)) (p + 1) true = G from ⟨by omega, by rw [hEE]; exact hO'.2⟩)
    rw [hEE] at hz
    clear hcl hO hO' hx hr hx1 hll hG
    repeat' (first|simp only [*, AVB, AVY, ↓reduceIte, Nat.reduceEqDiff, Nat.reduceLT, Nat.reduceBEq, dIntBin]|refine drW_intro (by kernel_rfl) ?_)
    refine hn _ ⟨i + 1, p + 1, true, r5, r6, h, ?_, ?_, ?_, ?_, ?_, ?_, ?_, ?_, ?_, HO⟩ ?_
    ·simp only [*, AVL, ↓reduceIte]
    ·simp only [*, AVL, ↓reduceIte, Nat.reduceEqDiff]
    ·simp only [*, AVL, ↓reduceIte, Nat.reduceEqDiff]
    ·simp only [*, AVL, ↓reduceIte, Nat.reduceEqDiff]
    ·simp only [*, AVL, ↓reduceIte, reduceCtorEq]
    ·simp only [*, AVL, ↓reduceIte, Nat.reduceEqDiff]
    ·simp only [*, AVL]
    ·simp only [*, AVL, ↓reduceIte, Nat.reduceEqDiff]
    ·simp only [*, AVL]
    ·exact Zy
   | false =>
    have hc := hcl hEE
    rw [hEE, Bool.false_or] at hO'
    rw [hEE] at hz
    cases hW : W x with
    | true =>
     rw [hW] at hc
     rw [hW, if_pos rfl] at hO'
     have HO := Hd.mk (show p + 1 ≤ i + 1 ∧ nthGo (fun j => E || W j) (R.drop (i + 1)) (p + 1) true = G from ⟨by omega, by rw [hEE]; exact hO'.2⟩)
     clear hcl hO hO' hx hr hx1 hll hG hW
     repeat' (first|simp only [*, AVB, AVY, ↓reduceIte, Nat.reduceEqDiff, Nat.reduceLT, reduceCtorEq, Nat.reduceBEq, dIntBin]|refine drW_intro (by kernel_rfl) ?_)
     refine hn _ ⟨i + 1, p + 1, true, r5, r6, h, ?_, ?_, ?_, ?_, ?_, ?_, ?_, ?_, ?_, HO⟩ ?_
     ·simp only [*, AVL, ↓reduceIte]
     ·simp only [*, AVL, ↓reduceIte, Nat.reduceEqDiff]
     ·simp only [*, AVL, ↓reduceIte, Nat.reduceEqDiff]
     ·simp only [*, AVL, ↓reduceIte, Nat.reduceEqDiff]
     ·simp only [*, AVL, ↓reduceIte, reduceCtorEq]
     ·simp only [*, AVL, ↓reduceIte, Nat.reduceEqDiff]
     ·simp only [*, AVL]
     ·simp only [*, AVL, ↓reduceIte, Nat.reduceEqDiff]
     ·simp only [*, AVL]
     ·exact Zy
    | false =>
     rw [hW] at hc
     rw [hW, if_neg (by decide)] at hO'
     have HO := Hd.mk (show p ≤ i + 1 ∧ nthGo (fun j => E || W j) (R.drop (i + 1)) p false = G from ⟨by omega, by rw [hEE]; exact hO'.2⟩)
     clear hcl hO hO' hx hr hx1 hll hG hW
     repeat' (first|simp only [*, AVB, AVY, ↓reduceIte, Nat.reduceEqDiff, Nat.reduceLT, reduceCtorEq, Nat.reduceBEq, dIntBin]|refine drW_intro (by kernel_rfl) ?_)
     refine hn _ ⟨i + 1, p, false, r5, r6, h, ?_, ?_, ?_, ?_, ?_, ?_, ?_, ?_, ?_, HO⟩ ?_
     ·simp only [*, AVL, ↓reduceIte]
     ·simp only [*, AVL, ↓reduceIte, Nat.reduceEqDiff]
     ·simp only [*, AVL, ↓reduceIte, Nat.reduceEqDiff]
     ·simp only [*, AVL, ↓reduceIte, Nat.reduceEqDiff]
     ·simp only [*, AVL, ↓reduceIte, reduceCtorEq]
     ·simp only [*, AVL, ↓reduceIte, Nat.reduceEqDiff]
     ·simp only [*, AVL]
     ·simp only [*, AVL, ↓reduceIte, Nat.reduceEqDiff]
     ·simp only [*, AVL]
     ·exact Zy
  ·have k9 : ¬ (i : Int) < R.length := by omega
   have hhp := (show ∀ m : Nat, m ≤ 20000 → _ from HH) p (by omega)
   rw [List.drop_eq_nil_of_le (by omega), nthGo] at hO'
   obtain ⟨_, hGe⟩ := hO'
   subst hGe
   clear hn hr hO hll hG
   cases b with
   | true =>
    refine Gy ?_
    exact hx _ _ Wy
   | false =>
    refine Gy ?_
    exact hx _ _ Wy
set_option maxHeartbeats 4000000 in
theorem rlist_L (ns : List Nd) (nm : Nam) (l : List D) (n : Int) (ps : List UInt8) (V : D → Bool) (hl : l.length ≤ 100)
  (hf : ∀ c ∈ l, c = cxD (cxL c)) (hc : ∀ c ∈ l, callL Tryz.prog (ext11b chk) 21 [.list (ns.map Nd.d), c, .agg nm.cs, .agg [.int .i64 n, .str ps]] [] = some (.bool (V c), [.no], [])) :
  callL Tryz.prog (ext11b chk) 19 [.list (ns.map Nd.d), .list l, .agg nm.cs, .agg [.int .i64 n, .str ps]] [] = some (.bool (l.any V), [.no], []) := by
 have HC := Hd.mk hc
 have HF := Hd.mk hf
 have HL := Hd.mk hl
 obtain ⟨R, hRe⟩ : ∃ R, Hd (R = l.any V) := ⟨_, rfl⟩
 rw [← (show R = l.any V from hRe)]
 clear hc hl hf
 unfold Nam.cs at *
 generalize ns.map Nd.d = L at *
 refine cK 24 8 Tryz.func19 ?_
 refine Gy ?_
 refine loopH (fun st => ∃ (i : Nat) (r6 r7 : List Room), i ≤ l.length ∧ st.slot 9 = .int .i64 i ∧ st.slot 1 = .list l ∧ st.slot 0 = .list L ∧ st.slot 6 = .ptr 6 1 0 ∧ st.box 6 = some ⟨1, [.bool nm.has, .str nm.dft, .list (nm.pre.map .str), .list (nm.sps.map .str)], r6⟩ ∧ st.slot 7 = .ptr 7 1 0 ∧ st.box 7 = some ⟨1, [.int .i64 n, .str ps], r7⟩ ∧ Hd (R = (l.drop i).any V)) (fun st => l.length - slotI st 9) ?_ ?_
 ·exact ⟨0, (padR [] 4).take 4, (padR [] 2).take 2, Nat.zero_le _, Iy, Iy, Iy, Iy, Iy, Iy, Iy, hRe⟩
 ·rintro st K ⟨i, r6, r7, hi, g9, g1, g0, g6, b6, g7, b7, hO⟩ hn hx hr
  have hO' : R = (l.drop i).any V := hO
  have hll : l.length ≤ 100 := HL
  by_cases h : i < l.length
  ·have k9 : (i : Int) < l.length := by omega
   have hw := wrapS i (by omega)
   obtain ⟨c, hc1⟩ := some_at h
   have hm := List.mem_of_getElem? hc1
   have hcf := (show ∀ c ∈ l, c = cxD (cxL c) from HF) c hm
   have hcc := (show ∀ c ∈ l, _ from HC) c hm
   rw [any_drop _ hc1] at hO'
   have hg := self_getD hc1
   obtain ⟨v, hv⟩ : ∃ v, V c = v := ⟨_, rfl⟩
   rw [hv] at hcc hO'
   generalize cxL c = Y at *
   subst hcf
   unfold cxD at *
   cases v with
   | true =>
    rw [Bool.true_or] at hO'
    subst hO'
    clear hn hx hO hRe hc1 hm h hll hv
    repeat' (first|simp only [*, AVB, AVY, ↓reduceIte, Nat.reduceEqDiff, Nat.reduceLT, reduceCtorEq, Nat.reduceBEq, dIntBin]|refine drW_intro (by kernel_rfl) ?_)
    exact hr _ Wy
   | false =>
    rw [Bool.false_or] at hO'
    have HO := Hd.mk hO'
    clear hr hx hO hO' hRe hc1 hm hll hv
    repeat' (first|simp only [*, AVB, AVY, ↓reduceIte, Nat.reduceEqDiff, Nat.reduceLT, reduceCtorEq, Nat.reduceBEq, dIntBin]|refine drW_intro (by kernel_rfl) ?_)
    refine hn _ ⟨i + 1, r6, r7, h, ?_, ?_, ?_, ?_, ?_, ?_, ?_, HO⟩ ?_
    ·simp only [*, AVL, ↓reduceIte]
    ·simp only [*, AVL, ↓reduceIte, Nat.reduceEqDiff]
    ·simp only [*, AVL, ↓reduceIte, reduceCtorEq]
    ·simp only [*, AVL, ↓reduceIte, Nat.reduceEqDiff]
    ·simp only [*, AVL]
    ·simp only [*, AVL, ↓reduceIte, Nat.reduceEqDiff]
    ·simp only [*, AVL]
    ·exact Zy
  ·have k9 : ¬ (i : Int) < l.length := by omega
   rw [any_end _ (by omega)] at hO'
   subst hO'
   clear hn hr hO hRe h hll
   refine Gy ?_
   exact hx _ _ Wy
theorem cp_mono0 {m : Nat} {S S' : D → Bool} (h : ∀ d, S d = true → S' d = true) {x : D} (hx : cpOk m S x = true) : cpOk m S' x = true := by
 obtain ⟨c, l, rfl, h1, h2⟩ := cpOk_inv hx
 simp only [cpD, cpOk, lenB, Bool.and_eq_true, decide_eq_true_eq, List.all_eq_true]
 exact ⟨h1, fun s hs => h s (h2 s hs)⟩
theorem cx_mono0 {m : Nat} {S S' : D → Bool} (h : ∀ d, S d = true → S' d = true) {x : D} (hx : cxOk m S x = true) : cxOk m S' x = true := by
 obtain ⟨l, rfl, h1, h2⟩ := cxOk_inv hx
 simp only [cxD, cxOk, lenB, Bool.and_eq_true, decide_eq_true_eq, List.all_eq_true]
 exact ⟨h1, fun s hs => cp_mono0 h (h2 s hs)⟩
set_option maxHeartbeats 2000000 in
theorem rcomp_L (ns : List Nd) (nm : Nam) (c : D) (n : Int) (ps : List UInt8) {k : Nat} {Q : D → Bool} (hQ : ∀ s, Q s = true → smOk 100 (k + 1) s = true) (S : D → Int → Bool) (hS : ns.length ≤ 10000) (hR : RightT ns) (hc : cxOk 100 Q c = true)
  (hs : ∀ s, Q s = true → ∀ j, elB ns j = true → callL Tryz.prog (ext11b chk) 18 [.list (ns.map Nd.d), (sf s).d, .agg nm.cs, .int .i64 j] [] = some (.bool (S s j), [.no], [])) :
  callL Tryz.prog (ext11b chk) 21 [.list (ns.map Nd.d), c, .agg nm.cs, .agg [.int .i64 n, .str ps]] [] = some (.bool (complexV S ns c n ps), [.no], []) := by
 have hp := rpseudo_L (chk := chk) c (cx_mono0 hQ hc)
 obtain ⟨X, rfl, hXl, hX⟩ := cxOk_inv hc
 unfold complexV
 have hxx : cxL (cxD X) = X := rfl
 rw [hxx]
 cases he : elB ns n with
 | false =>
  have hE := relem_L (chk := chk) ns n
  rw [he] at hE
  rw [Bool.false_and]
  clear hp hs hX hXl hc he
  unfold Nam.cs cxD at *
  generalize ns.map Nd.d = L at *
  exact cWy 134 8 Tryz.func21
 | true =>
  rw [Bool.true_and]
  cases hq : (pseudoF (cxD X) == ps) with
  | false =>
   have hE := relem_L (chk := chk) ns n
   rw [he] at hE
   rw [Bool.false_and]
   generalize pseudoF (cxD X) = qs at *
   have hq2 : (qs != ps) = true := by rw [bne, hq]; rfl
   clear hs hX hXl hc he
   unfold Nam.cs cxD at *
   generalize ns.map Nd.d = L at *
   exact cWy 134 8 Tryz.func21
  | true =>
   have hq1 : pseudoF (cxD X) = ps := by simpa using hq
   rw [hq1] at hp
   rw [Bool.true_and]
   by_cases h0 : X = []
   ·have hE := relem_L (chk := chk) ns n
    rw [he] at hE
    subst h0
    rw [show (!([] : List D).isEmpty && _) = false from rfl]
    clear hs hX hXl hc he hq hq1
    unfold Nam.cs cxD at *
    generalize ns.map Nd.d = L at *
    exact cWy 134 8 Tryz.func21
   ·have h1 : X.isEmpty = false := by cases X with
     | nil => exact absurd rfl h0
     | cons _ _ => rfl
    rw [h1, Bool.not_false, Bool.true_and]
    obtain ⟨m, rfl⟩ : ∃ m : Nat, n = (m : Int) := ⟨n.toNat, by have := (elB_nat he).1; omega⟩
    have := rcomplex_L (chk := chk) ns nm X m hS hR he S h0 hXl (fun x hx => by
     obtain ⟨cc, sl, rfl, hsl, hs1⟩ := cpOk_inv (hX x hx)
     exact ⟨rfl, hsl, fun s hs2 => ⟨(smOk_inv (hQ s (hs1 s hs2))).1, hs s (hs1 s hs2)⟩⟩) ps hp
    exact this
end Go.Av
namespace Go.Av
open Go.Proofs
variable [Rk] {chk : List D → Bool}
theorem nthGo_row {ns : List Nd} {n : Int} (he : elB ns n = true) (W : Int → Bool) : nthGo W (rowI ns n) 0 false = ((rowI ns n).countP W, W n) := by
 rw [row_snoc he, nthGo_snoc, Nat.zero_add]
theorem nodeI_el {ns : List Nd} {n : Int} (he : elB ns n = true) : ∃ i : Nat, n = (i : Int) ∧ i < ns.length ∧ ns[i]? = some (nodeI ns n) := by
 obtain ⟨h0, h1, hk⟩ := elB_nat he
 refine ⟨n.toNat, by omega, by omega, ?_⟩
 have hb : inB' ns n = true := by unfold inB'; simp; omega
 unfold nodeI
 rw [if_pos hb]
 obtain ⟨x, hx⟩ := some_at (show n.toNat < ns.length by omega)
 rw [hx]
 simp [List.getD, hx]
set_option maxHeartbeats 8000000 in
theorem rattr18_L (L0 : D) (X : Nd) (LS : List D) (nm : Nam) (n : Int) (S : Sf) (Ln : Nat) (i : Nat)
  (hkd : S.kd = 5) (hL0 : ∃ L, L0 = .list L ∧ (L.length : Int) = Ln ∧ L.getD i .bad = .agg [.int .i64 X.p, .int .i64 X.k, .str X.sp, .str X.nm, .list (X.at_.map At.d), .list LS, .str X.tx]) (hi : i < Ln) (hx : X.at_.length ≤ 1000000)
  (f : At → Bool) (f1 : At → Bool) (f2 : At → Bool)
  (hf : ∀ a ∈ X.at_, f a = (a.nm == S.nm && (f1 a && f2 a)))
  (h1 : ∀ a ∈ X.at_, callL Tryz.prog (ext11b chk) 39 [.agg [.int .i64 S.kd, .int .i64 S.ns, .str S.pre, .str S.nm, .int .i64 S.op, .str S.tx, .bool S.fold, .int .i64 S.mark, .int .i64 S.a, .int .i64 S.b, .list S.of_], .str a.sp, .agg [.bool nm.has, .str nm.dft, .list (nm.pre.map .str), .list (nm.sps.map .str)], .bool true] [] = some (.bool (f1 a), [.no], []))
  (h2 : ∀ a ∈ X.at_, callL Tryz.prog (ext11b chk) 41 [.agg [.int .i64 S.op, .str S.tx, .bool S.fold], .str a.vl] [] = some (.bool (f2 a), [.no], [])) :
  callL Tryz.prog (ext11b chk) 18 [L0, .agg [.int .i64 S.kd, .int .i64 S.ns, .str S.pre, .str S.nm, .int .i64 S.op, .str S.tx, .bool S.fold, .int .i64 S.mark, .int .i64 S.a, .int .i64 S.b, .list S.of_], .agg [.bool nm.has, .str nm.dft, .list (nm.pre.map .str), .list (nm.sps.map .str)], .int .i64 i] [] = some (.bool (X.at_.any f), [.no], []) := by
 obtain ⟨L, rfl, lN, hg⟩ := hL0
 have g1 : (i : Int) < Ln := by omega
 have HF := Hd.mk hf
 have H1 := Hd.mk h1
 have H2 := Hd.mk h2
 have HX := Hd.mk hx
 have lA := lenM X.at_ At.d
 obtain ⟨R, hRe⟩ : ∃ R, Hd (R = X.at_.any f) := ⟨_, rfl⟩
 rw [← (show R = X.at_.any f from hRe)]
 clear hf h1 h2 hi hx
 obtain ⟨k1, k2, k3⟩ := eqI hkd
 rw [hkd]
 generalize hA : X.at_ = A at *
 have H1' := Hd.mk (show ∀ a ∈ A, callL Tryz.prog (ext11b chk) 39 [.agg [.int .i64 5, .int .i64 S.ns, .str S.pre, .str S.nm, .int .i64 S.op, .str S.tx, .bool S.fold, .int .i64 S.mark, .int .i64 S.a, .int .i64 S.b, .list S.of_], .str a.sp, .agg [.bool nm.has, .str nm.dft, .list (nm.pre.map .str), .list (nm.sps.map .str)], .bool true] [] = some (.bool (f1 a), [.no], []) from by have := (show _ from H1); rw [hkd] at this; exact this)
 clear hkd k1 k2 k3 H1 hA
 refine cK 172 8 Tryz.func18 ?_
 refine Gy ?_
 clear hg g1
 refine loopH (fun st => ∃ (j : Nat) (r5 r6 r9 : List Room), j ≤ A.length ∧ st.slot 10 = .int .i64 j ∧ st.slot 5 = .ptr 5 1 0 ∧ st.box 5 = some ⟨1, [.int .i64 5, .int .i64 S.ns, .str S.pre, .str S.nm, .int .i64 S.op, .str S.tx, .bool S.fold, .int .i64 S.mark, .int .i64 S.a, .int .i64 S.b, .list S.of_], r5⟩ ∧ st.slot 6 = .ptr 6 1 0 ∧ st.box 6 = some ⟨1, [.bool nm.has, .str nm.dft, .list (nm.pre.map .str), .list (nm.sps.map .str)], r6⟩ ∧ st.slot 9 = .ptr 9 1 0 ∧ st.box 9 = some ⟨1, [.int .i64 X.p, .int .i64 X.k, .str X.sp, .str X.nm, .list (A.map At.d), .list LS, .str X.tx], r9⟩ ∧ Hd (R = (A.drop j).any f)) (fun st => A.length - slotI st 10) ?_ ?_
 ·exact ⟨0, (padR [] 11).take 11, (padR [] 4).take 4, (padR [] 7).take 7, Nat.zero_le _, Iy, Iy, Iy, Iy, Iy, Iy, Iy, hRe⟩
 ·rintro st K ⟨j, r5, r6, r9, hj, g10, g5, b5, g6, b6, g9, b9, hO⟩ hn hx hr
  have hO' : R = (A.drop j).any f := hO
  have hll : A.length ≤ 1000000 := HX
  by_cases h : j < A.length
  ·have k9 : (j : Int) < A.length := by omega
   have hw := wrapS j (by omega)
   obtain ⟨a, ha1⟩ := some_at h
   have hm := List.mem_of_getElem? ha1
   have hga : (A.map At.d).getD j .bad = .agg [.str a.sp, .str a.nm, .str a.vl] := getD_map (f := At.d) ha1
   have hff := (show ∀ a ∈ A, _ from HF) a hm
   have hc1 := (show ∀ a ∈ A, _ from H1') a hm
   have hc2 := (show ∀ a ∈ A, _ from H2) a hm
   rw [any_drop _ ha1, hff] at hO'
   generalize f1 a = v1 at *
   generalize f2 a = v2 at *
   cases hq : (a.nm == S.nm) with
   | false =>
    rw [hq, Bool.false_and, Bool.false_or] at hO'
    have HO := Hd.mk hO'
    clear hc1 hc2 hr hx hO hO' hRe ha1 hm hll hff
    repeat' (first|simp only [*, AVB, AVY, ↓reduceIte, Nat.reduceEqDiff, Nat.reduceLT, Nat.reduceBEq, Nat.reduceAdd, dIntBin]|refine drW_intro (by kernel_rfl) ?_)
    refine hn _ ⟨j + 1, r5, r6, r9, h, ?_, ?_, ?_, ?_, ?_, ?_, ?_, HO⟩ ?_
    ·simp only [*, AVL, ↓reduceIte]
    ·simp only [*, AVL, ↓reduceIte, Nat.reduceEqDiff]
    ·simp only [*, AVL]
    ·simp only [*, AVL, ↓reduceIte, Nat.reduceEqDiff]
    ·simp only [*, AVL]
    ·simp only [*, AVL, ↓reduceIte, Nat.reduceEqDiff]
    ·simp only [*, AVL]
    ·exact Zy
   | true =>
    rw [hq, Bool.true_and] at hO'
    cases v1 with
    | false =>
     rw [Bool.false_and, Bool.false_or] at hO'
     have HO := Hd.mk hO'
     clear hc2 hr hx hO hO' hRe ha1 hm hll hff
     repeat' (first|simp only [*, AVB, AVY, ↓reduceIte, Nat.reduceEqDiff, Nat.reduceLT, Nat.reduceBEq, Nat.reduceAdd, dIntBin]|refine drW_intro (by kernel_rfl) ?_)
     refine hn _ ⟨j + 1, r5, r6, r9, h, ?_, ?_, ?_, ?_, ?_, ?_, ?_, HO⟩ ?_
     ·simp only [*, AVL, ↓reduceIte]
     ·simp only [*, AVL, ↓reduceIte, Nat.reduceEqDiff]
     ·simp only [*, AVL]
     ·simp only [*, AVL, ↓reduceIte, Nat.reduceEqDiff]
     ·simp only [*, AVL]
     ·simp only [*, AVL, ↓reduceIte, Nat.reduceEqDiff]
     ·simp only [*, AVL]
     ·exact Zy
    | true =>
     rw [Bool.true_and] at hO'
     cases v2 with
     | false =>
      rw [Bool.false_or] at hO'
      have HO := Hd.mk hO'
      clear hr hx hO hO' hRe ha1 hm hll hff
      repeat' (first|simp only [*, AVB, AVY, ↓reduceIte, Nat.reduceEqDiff, Nat.reduceLT, Nat.reduceBEq, Nat.reduceAdd, dIntBin]|refine drW_intro (by kernel_rfl) ?_)
      refine hn _ ⟨j + 1, r5, r6, r9, h, ?_, ?_, ?_, ?_, ?_, ?_, ?_, HO⟩ ?_
      ·simp only [*, AVL, ↓reduceIte]
      ·simp only [*, AVL, ↓reduceIte, Nat.reduceEqDiff]
      ·simp only [*, AVL]
      ·simp only [*, AVL, ↓reduceIte, Nat.reduceEqDiff]
      ·simp only [*, AVL]
      ·simp only [*, AVL, ↓reduceIte, Nat.reduceEqDiff]
      ·simp only [*, AVL]
      ·exact Zy
     | true =>
      rw [Bool.true_or] at hO'
      subst hO'
      clear hn hx hO hRe ha1 hm h hll hff
      repeat' (first|simp only [*, AVB, AVY, ↓reduceIte, Nat.reduceEqDiff, Nat.reduceLT, Nat.reduceBEq, Nat.reduceAdd, dIntBin]|refine drW_intro (by kernel_rfl) ?_)
      exact hr _ Wy
  ·have k9 : ¬ (j : Int) < A.length := by omega
   rw [any_end _ (by omega)] at hO'
   subst hO'
   clear hn hr hO hRe h hll
   refine Gy ?_
   exact hx _ _ Wy
set_option maxHeartbeats 8000000 in
theorem rsimple18_L (ns : List Nd) (nm : Nam) (n : Int) (S : Sf) (hn : nm.ok) (hS : SmallD ns) (he : elB ns n = true) (hrE : ∀ j ∈ rowI ns n, elB ns j = true) (hnm : S.nm.length ≤ 1000) (ht : S.tx.length ≤ 1000)
  (ha : S.a ≤ 1099511627776 ∧ -1099511627776 ≤ S.a) (hb : S.b ≤ 1099511627776 ∧ -1099511627776 ≤ S.b) (L : List D → Int → Bool)
  (hl : ∀ j, elB ns j = true → callL Tryz.prog (ext11b chk) 19 [.list (ns.map Nd.d), .list S.of_, .agg nm.cs, .agg [.int .i64 j, .str []]] [] = some (.bool (L S.of_ j), [.no], [])) :
  callL Tryz.prog (ext11b chk) 18 [.list (ns.map Nd.d), S.d, .agg nm.cs, .int .i64 n] [] = some (.bool (stepV ns nm L S.d n), [.no], []) := by
 obtain ⟨x1, x2, x3⟩ := node_small hS n
 have hnth := rnth_L (chk := chk) ns nm n S (L S.of_) hS.1 he ha hb (fun j hj _ => hl j (hrE j hj))
 rw [nthGo_row he] at hnth
 dsimp only at hnth
 have hlst := hl n he
 have hsta : callL Tryz.prog (ext11b chk) 42 [.list ((nodeI ns n).st.map D.str), .str S.nm] [] = some (.bool (staI ns n S.nm), [.no], []) := by
  obtain ⟨i, hi, hil, hx⟩ := nodeI_el he
  have := has_L (chk := chk) (nodeI ns n).st S.nm (by omega)
  have e : staI ns n S.nm = (nodeI ns n).st.contains S.nm := by
   unfold staI stsAt
   have hin : n.toNat = i := by omega
   rw [he, Bool.true_and, hin, hx]
  rw [e]
  exact this
 have hpar : (decide ((nodeI ns n).p < 0)) = !(parI ns n).2 := by
  obtain ⟨i, hi, hil, hx⟩ := nodeI_el he
  have hin : n.toNat = i := by omega
  have hp : pAt ns i = (nodeI ns n).p := by unfold pAt; rw [hx]
  unfold parI
  rw [hin, hp]
  by_cases h0 : 0 ≤ (nodeI ns n).p
  ·rw [if_pos ⟨he, h0⟩]; simp; omega
  ·rw [if_neg (fun e => h0 e.2)]; simp; omega
 have hcl := rattr_L (chk := chk) ns n sClass 3 S.nm hS hnm
 have hid := rattr_L (chk := chk) ns n sId 2 S.nm hS hnm
 have hlk1 : callL Tryz.prog (ext11b chk) 39 [.agg [.int .i64 0, .int .i64 0, .str [], .str [], .int .i64 0, .str [], .bool false, .int .i64 0, .int .i64 0, .int .i64 0, .list []], .str (nodeI ns n).sp, .agg nm.cs, .bool false] [] = _ := rinPlace_L (chk := chk) nm ⟨0, 0, [], [], 0, [], false, 0, 0, 0, []⟩ (nodeI ns n).sp false hn
 have hlk2 := rattr_L (chk := chk) ns n sHref 1 [] hS (by decide)
 dsimp only at hlk1
 have hip := rinPlace_L (chk := chk) nm S (nodeI ns n).sp false hn
 have hat : S.kd = 5 → callL Tryz.prog (ext11b chk) 18 [.list (ns.map Nd.d), S.d, .agg nm.cs, .int .i64 n] [] = some (.bool ((nodeI ns n).at_.any fun a => a.nm == S.nm && (inPlF nm S.ns S.pre a.sp true && holdsF S.op S.tx S.fold a.vl)), [.no], []) := fun k5 => by
  obtain ⟨i, rfl, hil, hx⟩ := nodeI_el he
  have hgd : (ns.map Nd.d).getD i .bad = (nodeI ns (i : Int)).d := getD_map (f := Nd.d) hx
  rw [ndat] at hgd
  exact rattr18_L (chk := chk) _ (nodeI ns (i : Int)) _ nm (i : Int) S ns.length i k5 ⟨_, rfl, lenM ns Nd.d, hgd⟩ hil x1 _ (fun a => inPlF nm S.ns S.pre a.sp true) (fun a => holdsF S.op S.tx S.fold a.vl) (fun a _ => rfl) (fun a _ => rinPlace_L (chk := chk) nm S a.sp true hn) (fun a ha2 => by
   have := rholds_L (chk := chk) S.op S.tx S.fold a.vl (by omega) (by have := x3 a ha2; omega)
   rw [← holds_eq] at this
   exact this)
 have lN := lenM ns Nd.d
 obtain ⟨i, rfl, hil, hx⟩ := nodeI_el he
 have hgd : (ns.map Nd.d).getD i .bad = (nodeI ns (i : Int)).d := getD_map (f := Nd.d) hx
 have g1 : (i : Int) < ns.length := by omega
 rw [ndat] at hgd
 unfold stepV
 rw [sf_d]
 dsimp only
 by_cases k5 : S.kd = 5
 ·rw [k5]
  simp only [show ((5 : Int) = 1) = False from by decide, show ((5 : Int) = 2) = False from by decide, show ((5 : Int) = 3) = False from by decide, show ((5 : Int) = 4) = False from by decide, if_false, if_true]
  exact hat k5
 clear hat hl hrE ha hb ht hnm he hn hS x1 x2 x3 hx hil
 unfold nthV
 generalize nodeI ns (i : Int) = X at *
 generalize ((S.of_.isEmpty || L S.of_ (i : Int)) && hasAB S.a S.b ((rowI ns (i : Int)).countP fun j => S.of_.isEmpty || L S.of_ j)) = q7 at *
 generalize L S.of_ (i : Int) = q8 at *
 generalize staI ns (i : Int) S.nm = q11 at *
 generalize plainV ns (i : Int) sClass 3 S.nm = q3 at *
 generalize plainV ns (i : Int) sId 2 S.nm = q4 at *
 generalize plainV ns (i : Int) sHref 1 [] = p2 at *
 generalize inPlF nm 0 [] X.sp false = p1 at *
 generalize inPlF nm S.ns S.pre X.sp false = q2 at *
 rw [← hpar]
 clear hpar
 generalize X.at_.map At.d = LA at *
 generalize X.st.map D.str = LS at *
 generalize ns.map Nd.d = NS at *
 unfold sClass at hcl
 unfold sId at hid
 unfold sHref at hlk2
 unfold sArea
 unfold Nam.cs Sf.d at *
 by_cases k1 : S.kd = 1
 ·rw [if_pos k1]
  generalize hkd : S.kd = kd at *
  subst k1
  clear hkd k5
  clear hnth hlst hsta hcl hid hlk1 hlk2
  cases c1 : (X.nm == S.nm) with
  | true =>
   exact cWy 172 8 Tryz.func18
  | false =>
   exact cWy 172 8 Tryz.func18
 rw [if_neg k1]
 by_cases k2 : S.kd = 2
 ·rw [if_pos k2]
  generalize hkd : S.kd = kd at *
  subst k2
  clear hkd k5 k1
  clear hnth hlst hsta hcl hid hlk1 hlk2
  exact cWy 172 8 Tryz.func18
 rw [if_neg k2]
 by_cases k3 : S.kd = 3
 ·rw [if_pos k3]
  generalize hkd : S.kd = kd at *
  subst k3
  clear hkd k5 k1 k2
  clear hnth hlst hsta hid hlk1 hlk2 hip
  exact cWy 172 8 Tryz.func18
 rw [if_neg k3]
 by_cases k4 : S.kd = 4
 ·rw [if_pos k4]
  generalize hkd : S.kd = kd at *
  subst k4
  clear hkd k5 k1 k2 k3
  clear hnth hlst hsta hcl hlk1 hlk2 hip
  exact cWy 172 8 Tryz.func18
 rw [if_neg k4]
 rw [if_neg k5]
 by_cases k6 : S.kd = 6
 ·rw [if_pos k6]
  generalize hkd : S.kd = kd at *
  subst k6
  clear hkd k5 k1 k2 k3 k4
  clear hnth hlst hsta hcl hid hlk1 hlk2 hip
  exact cWy 172 8 Tryz.func18
 rw [if_neg k6]
 by_cases k7 : S.kd = 7
 ·rw [if_pos k7]
  generalize hkd : S.kd = kd at *
  subst k7
  clear hkd k5 k1 k2 k3 k4 k6
  clear hlst hsta hcl hid hlk1 hlk2 hip
  exact cWy 172 8 Tryz.func18
 rw [if_neg k7]
 by_cases k8 : S.kd = 8 ∨ S.kd = 9
 ·rw [if_pos k8]
  generalize hkd : S.kd = kd at *
  clear hkd k5 k1 k2 k3 k4 k6 k7
  clear hnth hsta hcl hid hlk1 hlk2 hip
  rcases k8 with rfl | rfl
  ·exact cWy 172 8 Tryz.func18
  ·exact cWy 172 8 Tryz.func18
 rw [if_neg k8]
 by_cases k10 : S.kd = 10
 ·rw [if_pos k10]
  generalize hkd : S.kd = kd at *
  subst k10
  clear hkd k5 k1 k2 k3 k4 k6 k7 k8
  clear hnth hsta hcl hid hlk1 hlk2 hip
  exact cWy 172 8 Tryz.func18
 rw [if_neg k10]
 by_cases k11 : S.kd = 11
 ·rw [if_pos k11]
  generalize hkd : S.kd = kd at *
  subst k11
  clear hkd k5 k1 k2 k3 k4 k6 k7 k8 k10
  clear hnth hlst hcl hid hlk1 hlk2 hip
  exact cWy 172 8 Tryz.func18
 rw [if_neg k11]
 by_cases k12 : S.kd = 12
 ·rw [if_pos k12]
  generalize hkd : S.kd = kd at *
  subst k12
  clear hkd k5 k1 k2 k3 k4 k6 k7 k8 k10 k11
  clear hnth hlst hsta hcl hid hip
  cases c1 : (X.nm == [97]) with
  | true =>
   cases p1 with
   | true =>
    exact cWy 172 8 Tryz.func18
   | false =>
    exact cWy 172 8 Tryz.func18
  | false =>
   cases c2 : (X.nm == [97, 114, 101, 97]) with
   | true =>
    cases p1 with
    | true =>
     exact cWy 172 8 Tryz.func18
    | false =>
     exact cWy 172 8 Tryz.func18
   | false =>
    exact cWy 172 8 Tryz.func18
 rw [if_neg k12]
 have k8' : ¬ S.kd = 8 := fun e => k8 (.inl e)
 have k9 : ¬ S.kd = 9 := fun e => k8 (.inr e)
 have n1 := (neI k1).1
 have n2 := (neI k2).1
 have n3 := (neI k3).1
 have n4 := (neI k4).1
 have n5 := (neI k5).1
 have n6 := (neI k6).1
 have n7 := (neI k7).1
 have n8 := (neI k8').1
 have n9 := (neI k9).1
 have n10 := (neI k10).1
 have n11 := (neI k11).1
 have n12 := (neI k12).1
 clear k1 k2 k3 k4 k5 k6 k7 k8 k8' k9 k10 k11 k12
 clear hnth hlst hsta hcl hid hlk1 hlk2 hip
 exact cWy 172 8 Tryz.func18
end Go.Av
namespace Go.Av
open Go.Proofs
variable [Rk] {chk : List D → Bool}
theorem rowI_el {ns : List Nd} (hR : RightT ns) {n : Int} (he : elB ns n = true) : ∀ j ∈ rowI ns n, elB ns j = true := fun j hj => by
 rcases row_last he j hj with h | rfl
 ·exact (hR.row n he j h).1
 ·exact he
theorem ls_form {m : Nat} {S : D → Bool} {l : List D} (h : lsOk m S l = true) : ∀ c ∈ l, c = cxD (cxL c) := fun c hc => by
 obtain ⟨l1, rfl, _, _⟩ := cxOk_inv ((lsOk_mem h).2 c hc)
 rfl
theorem rS18 {ns : List Nd} {nm : Nam} (hn : nm.ok) (hS : SmallD ns) (hR : RightT ns) : ∀ (k : Nat), k ≤ 45 → ∀ s, smN k s = true → ∀ j, elB ns j = true →
  callL Tryz.prog (ext11b chk) 18 [.list (ns.map Nd.d), (sf s).d, .agg nm.cs, .int .i64 j] [] = some (.bool (sV ns nm s j), [.no], [])
 | 0, _, s, h, _, _ => by simp [smN] at h
 | k + 1, hk, s, h, j, hj => by
  obtain ⟨h1, h2, h3, h4⟩ := smN_inv h
  obtain ⟨e, e1, e2, e3, _⟩ := smOk_inv h1
  rw [sV_step h1 (by omega) j]
  have hst : stepV ns nm (listV (sV ns nm) ns) s j = stepV ns nm (listV (sV ns nm) ns) (sf s).d j := by rw [← e]
  rw [hst]
  refine rsimple18_L (chk := chk) ns nm j (sf s) hn hS hj (rowI_el hR hj) (by omega) (by omega) h2 h3 (listV (sV ns nm) ns) fun i hi => ?_
  have hl := lsOk_mem h4
  have := rlist_L (chk := chk) ns nm (sf s).of_ i [] (fun c => complexV (sV ns nm) ns c i []) hl.1 (ls_form h4) (fun c hc =>
   rcomp_L (k := 49) (Q := smN k) ns nm c i [] (fun d hd => smOk_up _ _ (smN_ok hd) 50 (by omega)) (sV ns nm) hS.1 hR (hl.2 c hc) (fun d hd i' hi' => rS18 hn hS hR k (by omega) d hd i' hi'))
  rw [this]
  have h5 : ((sf s).of_.any fun c => complexV (sV ns nm) ns c i []) = listV (sV ns nm) ns (sf s).of_ i := rlist_eq hR (S := sV ns nm) (S' := sV ns nm) (fun _ _ _ _ => rfl) (sf s).of_ i hi
  rw [h5]
theorem rcompA_L {ns : List Nd} {nm : Nam} {c : D} {k : Nat} (hk : k ≤ 45) (hS : SmallD ns) (hR : RightT ns) (hn : nm.ok) (hc : cxOk 100 (smN k) c = true) (n : Int) (ps : List UInt8) :
  callL Tryz.prog (ext11b chk) 21 [.list (ns.map Nd.d), c, .agg nm.cs, .agg [.int .i64 n, .str ps]] [] = some (.bool (complexP ns nm c n ps), [.no], []) := by
 have := rcomp_L (chk := chk) (k := 49) (Q := smN k) ns nm c n ps (fun d hd => smOk_up _ _ (smN_ok hd) 50 (by omega)) (sV ns nm) hS.1 hR hc (fun d hd i' hi' => rS18 hn hS hR k hk d hd i' hi')
 rw [this, complex_row hR]
 rfl
theorem rselA_L {ns : List Nd} {nm : Nam} {l : List D} {k : Nat} (hk : k ≤ 45) (hS : SmallD ns) (hR : RightT ns) (hn : nm.ok) (hl : lsOk 100 (smN k) l = true) (n : Int) (ps : List UInt8) :
  callL Tryz.prog (ext11b chk) 19 [.list (ns.map Nd.d), .list l, .agg nm.cs, .agg [.int .i64 n, .str ps]] [] = some (.bool (selV ns nm l n ps), [.no], []) := by
 obtain ⟨h1, h2⟩ := lsOk_mem hl
 exact rlist_L (chk := chk) ns nm l n ps (fun c => complexP ns nm c n ps) h1 (ls_form hl) (fun c hc => rcompA_L hk hS hR hn (h2 c hc) n ps)
end Go.Av
namespace Go.Av
open Go.Proofs
variable [Rk] {chk : List D → Bool}
set_option maxHeartbeats 4000000 in
theorem great89_L (l : List D) (P : D → T3) (hl : l.length ≤ 1000) (hf : ∀ c ∈ l, c = cxD (cxL c)) (hP : ∀ c ∈ l, callL Tryz.prog (ext11b chk) 50 [c] [] = some (.agg [.int .i64 (P c).1, .int .i64 (P c).2.1, .int .i64 (P c).2.2], [.no], [])) :
  callL Tryz.prog (ext11b chk) 89 [.list l] [] = some (.agg [.int .i64 (bestT (l.map P) (0, 0, 0)).1, .int .i64 (bestT (l.map P) (0, 0, 0)).2.1, .int .i64 (bestT (l.map P) (0, 0, 0)).2.2], [.no], []) := by
 have HP := Hd.mk hP
 have HF := Hd.mk hf
 have HL := Hd.mk hl
 obtain ⟨R, hRe⟩ : ∃ R, Hd (R = bestT (l.map P) (0, 0, 0)) := ⟨_, rfl⟩
 rw [← (show R = bestT (l.map P) (0, 0, 0) from hRe)]
 clear hP hl hf
 refine callK (m := 23) (res := []) (rs := [.cell 2 63]) rfl Tryz.func89 rfl rfl rfl rfl rfl ?_
 refine Gq ?_
 refine loopH (fun st => ∃ (i : Nat) (b : T3), i ≤ l.length ∧ st.slot 4 = .int .i64 i ∧ st.slot 0 = .list l ∧ st.slot 2 = .ptr 2 1 0 ∧ (∃ r2, st.box 2 = some ⟨1, [.int .i64 0, .int .i64 0, .int .i64 0], r2⟩) ∧ st.slot 3 = .ptr 3 1 0 ∧ (∃ r3, st.box 3 = some ⟨1, [.int .i64 b.1, .int .i64 b.2.1, .int .i64 b.2.2], r3⟩) ∧ Hd (R = bestT ((l.drop i).map P) b)) (fun st => l.length - slotI st 4) ?_ ?_
 ·exact ⟨0, (0, 0, 0), Nat.zero_le _, Iq, Iq, Iq, ⟨zrooms Tryz.prog 63, Iq⟩, Iq, ⟨zrooms Tryz.prog 63, Iq⟩, hRe⟩
 ·rintro st K ⟨i, b, hi, g4, g0, g2, ⟨r2, b2⟩, g3, ⟨r3, b3⟩, hO⟩ hn hx hr
  have hO' : R = bestT ((l.drop i).map P) b := hO
  have hll : l.length ≤ 1000 := HL
  obtain ⟨u0, u1, u2⟩ := b
  dsimp only at b3
  by_cases h : i < l.length
  ·have k9 : (i : Int) < l.length := by omega
   have hw := wrapS i (by omega)
   obtain ⟨c, hc1⟩ := some_at h
   have hm := List.mem_of_getElem? hc1
   have hcf := (show ∀ c ∈ l, c = cxD (cxL c) from HF) c hm
   have hcc := (show ∀ c ∈ l, _ from HP) c hm
   rw [drop_at hc1, List.map_cons] at hO'
   have hO2 : R = bestT ((l.drop (i + 1)).map P) (mx (u0, u1, u2) (P c)) := hO'
   have hg := self_getD hc1
   generalize P c = x at *
   generalize cxL c = Y at *
   subst hcf
   unfold cxD at *
   obtain ⟨x0, x1, x2⟩ := x
   have hle := rless_L (chk := chk) u0 u1 u2 x0 x1 x2
   have hlt := less_T (u0, u1, u2) (x0, x1, x2)
   dsimp only at hlt
   rw [hlt] at hle
   rw [mx_T] at hO2
   dsimp only at hle hcc
   clear hlt
   cases hv : lessT (u0, u1, u2) (x0, x1, x2) with
   | true =>
    rw [hv] at hle
    rw [hv, if_pos rfl] at hO2
    have HO := Hd.mk hO2
    clear hr hx hO hO' hO2 hRe hc1 hm hll hv
    refine Gq ?_
    refine hn _ ⟨i + 1, (x0, x1, x2), h, ?_, ?_, ?_, ⟨r2, ?_⟩, ?_, ?_, HO⟩ ?_
    ·exact L
    ·exact L
    ·exact L
    ·exact L
    ·exact L
    ·apply Exists.intro
     simp only [*, AVB, ↓reduceIte]
     rfl
    ·exact Zq
   | false =>
    rw [hv] at hle
    rw [hv, if_neg (by decide)] at hO2
    have HO := Hd.mk hO2
    clear hr hx hO hO' hO2 hRe hc1 hm hll hv
    refine Gq ?_
    exact hn _ ⟨i + 1, (u0, u1, u2), h, L, L, L, ⟨r2, L⟩, L, ⟨r3, L⟩, HO⟩ Zq
  ·have k9 : ¬ (i : Int) < l.length := by omega
   rw [List.drop_eq_nil_of_le (by omega)] at hO'
   have hO2 : R = (u0, u1, u2) := hO'
   subst hO2
   clear hn hr hO hO' hRe h hll
   refine Gq ?_
   exact hx _ _ Wq
set_option maxHeartbeats 8000000 in
theorem rspec23_L (ns : List Nd) (nm : Nam) (l : List D) (n : Int) (ps : List UInt8) (V : D → Bool) (P : D → T3) (hl : l.length ≤ 1000) (hf : ∀ c ∈ l, c = cxD (cxL c))
  (hV : ∀ c ∈ l, callL Tryz.prog (ext11b chk) 21 [.list (ns.map Nd.d), c, .agg nm.cs, .agg [.int .i64 n, .str ps]] [] = some (.bool (V c), [.no], []))
  (hP : ∀ c ∈ l, callL Tryz.prog (ext11b chk) 50 [c] [] = some (.agg [.int .i64 (P c).1, .int .i64 (P c).2.1, .int .i64 (P c).2.2], [.no], [])) :
  callL Tryz.prog (ext11b chk) 23 [.list (ns.map Nd.d), .list l, .agg nm.cs, .agg [.int .i64 n, .str ps]] [] = some (.tuple [sp3 (specV V P l).1, .bool (specV V P l).2], [.no, .no], []) := by
 have HP := Hd.mk hP
 have HF := Hd.mk hf
 have HL := Hd.mk hl
 have HV := Hd.mk hV
 unfold specV sp3
 obtain ⟨R1, hR1⟩ : ∃ R1, Hd (R1 = bestT ((l.filter V).map P) (0, 0, 0)) := ⟨_, rfl⟩
 obtain ⟨R2, hR2⟩ : ∃ R2, Hd (R2 = l.any V) := ⟨_, rfl⟩
 dsimp only
 rw [← (show R1 = bestT ((l.filter V).map P) (0, 0, 0) from hR1), ← (show R2 = l.any V from hR2)]
 have HO0 := Hd.mk (show R1 = bestT (((l.drop 0).filter V).map P) (0, 0, 0) ∧ R2 = (false || (l.drop 0).any V) from ⟨hR1, by rw [Bool.false_or]; exact hR2⟩)
 clear hP hl hf hV hR1 hR2
 unfold Nam.cs at *
 generalize ns.map Nd.d = L at *
 refine callK (m := 42) (res := [9]) (rs := [.cell 8 63, .tmp 9]) rfl Tryz.func23 rfl rfl rfl rfl rfl ?_
 refine Gq ?_
 refine loopH (fun st => ∃ (i : Nat) (b : T3) (ok : Bool) (r6 r7 : List Room), i ≤ l.length ∧ st.slot 12 = .int .i64 i ∧ st.slot 1 = .list l ∧ st.slot 0 = .list L ∧ st.slot 6 = .ptr 6 1 0 ∧ st.box 6 = some ⟨1, [.bool nm.has, .str nm.dft, .list (nm.pre.map .str), .list (nm.sps.map .str)], r6⟩ ∧ st.slot 7 = .ptr 7 1 0 ∧ st.box 7 = some ⟨1, [.int .i64 n, .str ps], r7⟩ ∧ st.slot 8 = .ptr 8 1 0 ∧ (∃ r8, st.box 8 = some ⟨1, [.int .i64 0, .int .i64 0, .int .i64 0], r8⟩) ∧ st.slot 10 = .ptr 10 1 0 ∧ (∃ r10, st.box 10 = some ⟨1, [.int .i64 b.1, .int .i64 b.2.1, .int .i64 b.2.2], r10⟩) ∧ st.slot 11 = .bool ok ∧ st.room 11 = [] ∧ Hd (R1 = bestT (((l.drop i).filter V).map P) b ∧ R2 = (ok || (l.drop i).any V))) (fun st => l.length - slotI st 12) ?_ ?_
 ·exact ⟨0, (0, 0, 0), false, (padR [] 4).take 4, (padR [] 2).take 2, Nat.zero_le _, Iq, Iq, Iq, Iq, Iq, Iq, Iq, Iq, ⟨zrooms Tryz.prog 63, Iq⟩, Iq, ⟨zrooms Tryz.prog 63, Iq⟩, Iq, Iq, HO0⟩
 ·rintro st K ⟨i, b, ok, r6, r7, hi, g12, g1, g0, g6, b6, g7, b7, g8, ⟨r8, b8⟩, g10, ⟨r10, b10⟩, g11, m11, hO⟩ hn hx hr
  have hO' : R1 = bestT (((l.drop i).filter V).map P) b ∧ R2 = (ok || (l.drop i).any V) := hO
  have hll : l.length ≤ 1000 := HL
  obtain ⟨b0, b1, b3⟩ := b
  dsimp only at b10
  by_cases h : i < l.length
  ·have k9 : (i : Int) < l.length := by omega
   have hw := wrapS i (by omega)
   obtain ⟨c, hc1⟩ := some_at h
   have hm := List.mem_of_getElem? hc1
   have hcf := (show ∀ c ∈ l, c = cxD (cxL c) from HF) c hm
   have hcc := (show ∀ c ∈ l, _ from HP) c hm
   have hcv := (show ∀ c ∈ l, _ from HV) c hm
   rw [drop_at hc1, List.any_cons, List.filter_cons] at hO'
   have hg := self_getD hc1
   obtain ⟨v, hv⟩ : ∃ v, V c = v := ⟨_, rfl⟩
   obtain ⟨Q, hQ⟩ : ∃ Q, P c = Q := ⟨_, rfl⟩
   rw [hv] at hO' hcv
   generalize cxL c = Y at *
   cases v with
   | false =>
    rw [if_neg (by decide), Bool.false_or] at hO'
    subst hcf
    unfold cxD at *
    have HO := Hd.mk hO'
    clear hr hx hO hO' hc1 hm hll hv hcc hQ
    repeat' (first|simp only [*, AVB, AVY, ↓reduceIte, Nat.reduceEqDiff, Nat.reduceLT, reduceCtorEq, Nat.reduceBEq, dIntBin]|refine drW_intro (by kernel_rfl) ?_)
    refine hn _ ⟨i + 1, (b0, b1, b3), ok, r6, r7, h, ?_, ?_, ?_, ?_, ?_, ?_, ?_, ?_, ⟨r8, ?_⟩, ?_, ⟨r10, ?_⟩, ?_, ?_, HO⟩ ?_
    ·simp only [*, AVL, ↓reduceIte]
    ·simp only [*, AVL, ↓reduceIte, Nat.reduceEqDiff]
    ·simp only [*, AVL, ↓reduceIte, reduceCtorEq]
    ·simp only [*, AVL, ↓reduceIte, Nat.reduceEqDiff]
    ·simp only [*, AVL]
    ·simp only [*, AVL, ↓reduceIte, Nat.reduceEqDiff]
    ·simp only [*, AVL]
    ·simp only [*, AVL, ↓reduceIte, Nat.reduceEqDiff]
    ·simp only [*, AVL]
    ·simp only [*, AVL, ↓reduceIte, Nat.reduceEqDiff]
    ·simp only [*, AVL]
    ·simp only [*, AVL, ↓reduceIte, Nat.reduceEqDiff]
    ·simp only [*, AVL, ↓reduceIte, Nat.reduceEqDiff]
    ·exact Zq
   | true =>
    rw [if_pos rfl, List.map_cons, hQ, Bool.true_or, Bool.or_true] at hO'
    rw [hQ] at hcc
    have hO2 : R1 = bestT (((l.drop (i + 1)).filter V).map P) (mx (b0, b1, b3) Q) ∧ R2 = true := hO'
    subst hcf
    unfold cxD at *
    obtain ⟨x0, x1, x2⟩ := Q
    have hle := rless_L (chk := chk) b0 b1 b3 x0 x1 x2
    have hlt := less_T (b0, b1, b3) (x0, x1, x2)
    dsimp only at hlt
    rw [hlt] at hle
    rw [mx_T] at hO2
    dsimp only at hle hcc
    clear hlt
    cases hq : lessT (b0, b1, b3) (x0, x1, x2) with
    | true =>
     rw [hq] at hle
     rw [hq, if_pos rfl] at hO2
     have HO := Hd.mk (show R1 = bestT (((l.drop (i + 1)).filter V).map P) (x0, x1, x2) ∧ R2 = (true || (l.drop (i + 1)).any V) from ⟨hO2.1, by rw [Bool.true_or]; exact hO2.2⟩)
     clear hr hx hO hO' hO2 hc1 hm hll hv hQ hq
     repeat' (first|simp only [*, AVB, AVY, Yq.AVQ, ↓reduceIte, Nat.reduceEqDiff, Nat.reduceLT, Nat.reduceLeDiff, reduceCtorEq, Nat.reduceBEq, Nat.reduceAdd, dIntBin]|refine drW_intro (by kernel_rfl) ?_)
     refine hn _ ⟨i + 1, (x0, x1, x2), true, r6, r7, h, ?_, ?_, ?_, ?_, ?_, ?_, ?_, ?_, ⟨r8, ?_⟩, ?_, ?_, ?_, ?_, HO⟩ ?_
     ·simp only [*, AVL, ↓reduceIte]
     ·simp only [*, AVL, ↓reduceIte, Nat.reduceEqDiff]
     ·simp only [*, AVL, ↓reduceIte, reduceCtorEq]
     ·simp only [*, AVL, ↓reduceIte, Nat.reduceEqDiff]
     ·simp only [*, AVL, ↓reduceIte, Nat.reduceEqDiff]
     ·simp only [*, AVL, ↓reduceIte, Nat.reduceEqDiff]
     ·simp only [*, AVL, ↓reduceIte, Nat.reduceEqDiff]
     ·simp only [*, AVL, ↓reduceIte, Nat.reduceEqDiff]
     ·simp only [*, AVL, ↓reduceIte, Nat.reduceEqDiff]
     ·simp only [*, AVL, ↓reduceIte, Nat.reduceEqDiff]
     ·apply Exists.intro
      simp only [*, AVB, ↓reduceIte]
      rfl
     ·simp only [*, AVL, ↓reduceIte, Nat.reduceEqDiff]
     ·simp only [*, AVL, ↓reduceIte, Nat.reduceEqDiff]
     ·exact Zq
    | false =>
     rw [hq] at hle
     rw [hq, if_neg (by decide)] at hO2
     have HO := Hd.mk (show R1 = bestT (((l.drop (i + 1)).filter V).map P) (b0, b1, b3) ∧ R2 = (true || (l.drop (i + 1)).any V) from ⟨hO2.1, by rw [Bool.true_or]; exact hO2.2⟩)
     clear hr hx hO hO' hO2 hc1 hm hll hv hQ hq
     repeat' (first|simp only [*, AVB, AVY, Yq.AVQ, ↓reduceIte, Nat.reduceEqDiff, Nat.reduceLT, reduceCtorEq, Nat.reduceBEq, dIntBin]|refine drW_intro (by kernel_rfl) ?_)
     refine hn _ ⟨i + 1, (b0, b1, b3), true, r6, r7, h, ?_, ?_, ?_, ?_, ?_, ?_, ?_, ?_, ⟨r8, ?_⟩, ?_, ⟨r10, ?_⟩, ?_, ?_, HO⟩ ?_
     ·simp only [*, AVL, ↓reduceIte]
     ·simp only [*, AVL, ↓reduceIte, Nat.reduceEqDiff]
     ·simp only [*, AVL, ↓reduceIte, reduceCtorEq]
     ·simp only [*, AVL, ↓reduceIte, Nat.reduceEqDiff]
     ·simp only [*, AVL]
     ·simp only [*, AVL, ↓reduceIte, Nat.reduceEqDiff]
     ·simp only [*, AVL]
     ·simp only [*, AVL, ↓reduceIte, Nat.reduceEqDiff]
     ·simp only [*, AVL]
     ·simp only [*, AVL, ↓reduceIte, Nat.reduceEqDiff]
     ·simp only [*, AVL]
     ·simp only [*, AVL, ↓reduceIte, Nat.reduceEqDiff]
     ·simp only [*, AVL, ↓reduceIte, Nat.reduceEqDiff]
     ·exact Zq
  ·have k9 : ¬ (i : Int) < l.length := by omega
   rw [List.drop_eq_nil_of_le (by omega)] at hO'
   have hO1 : R1 = (b0, b1, b3) := hO'.1
   have hO2 : R2 = ok := hO'.2.trans (Bool.or_false _)
   subst hO1
   subst hO2
   clear hn hr hO hO' h hll HO0
   refine Gq ?_
   exact hx _ _ Wq
theorem rspT_L : ∀ (k : Nat), k ≤ 45 → ∀ c, cxOk 100 (smOk 100 k) c = true → callL Tryz.prog (ext11b chk) 50 [c] [] = some (sp3 (spT c), [.no], [])
 | k, hk, c, hc => by
  have e := spT_step (by omega) hc
  rw [e]
  obtain ⟨X, rfl, hX1, hX2⟩ := cxOk_inv hc
  refine rspec_L (chk := chk) X (gOf spT) (by omega) fun x hx => ?_
  obtain ⟨cc, sl, rfl, h1, h2⟩ := cpOk_inv (hX2 x hx)
  refine ⟨rfl, (show sl.length ≤ 1000 by omega), fun s hs => ?_⟩
  have h3 := h2 s hs
  cases k with
  | zero => simp [smOk] at h3
  | succ k =>
   obtain ⟨e1, _, _, _, h4⟩ := smOk_inv h3
   refine ⟨e1, ?_⟩
   refine great89_L (chk := chk) (sf s).of_ spT (by have := (lsOk_mem h4).1; omega) (fun d hd => ?_) fun d hd => rspT_L k (by omega) d ((lsOk_mem h4).2 d hd)
   obtain ⟨l, rfl, _⟩ := cxOk_inv ((lsOk_mem h4).2 d hd)
   rfl
theorem rspecA_L {ns : List Nd} {nm : Nam} {l : List D} {k : Nat} (hk : k ≤ 45) (h1 : SmallD ns) (h2 : RightT ns) (h3 : nm.ok) (hl : lsOk 100 (smN k) l = true) (n : Int) (ps : List UInt8) :
  callL Tryz.prog (ext11b chk) 23 [.list (ns.map Nd.d), .list l, .agg nm.cs, .agg [.int .i64 n, .str ps]] [] = some (.tuple [sp3 (specV (fun c => complexP ns nm c n ps) spT l).1, .bool (selV ns nm l n ps)], [.no, .no], []) := by
 obtain ⟨g1, g2⟩ := lsOk_mem hl
 exact rspec23_L (chk := chk) ns nm l n ps (fun c => complexP ns nm c n ps) spT (by omega) (ls_form hl) (fun c hc => rcompA_L hk h1 h2 h3 (g2 c hc) n ps) (fun c hc => rspT_L 45 (Nat.le_refl _) c (cx_mono (fun d hd => smOk_up _ _ (smN_ok hd) 45 hk) (g2 c hc)))
end Go.Av
namespace Go.Av
open Go.Proofs
variable [R : Rk]
theorem complexA_L (hA : RowA R) {chk : List D → Bool} {ns : List Nd} {nm : Nam} {c : D} {k : Nat} (hk : k ≤ 45) (h1 : SmallD ns) (h2 : RightT ns) (h3 : nm.ok) (hc : cxOk 100 (smN k) c = true) (n : Int) (ps : List UInt8) :
  callL Tryz.prog (ext11b chk) 20 [treeN ns, c, .agg nm.cs, .agg [.int .i64 n, .str ps]] [] = some (.bool (complexP ns nm c n ps), [.no], []) := by
 have := complex_L (chk := chk) (k := 44) ns nm c n ps h1 (cx_mono (fun d hd => smOk_up _ _ (smN_ok hd) 45 hk) hc) fun he => rowA_L hA h1 h2 h3 he (okA_of hk hc)
 obtain ⟨l1, rfl, _⟩ := cxOk_inv hc
 exact this
set_option maxHeartbeats 8000000 in
theorem lists_law (hA : SpA R) {f1 : Nat} (ns : List Nd) (a : List D) (nm : Nam) (n : Int) (ps : List UInt8) (hB : BigD ns) (hl : lsOk 140737488355328 (smOk 140737488355328 f1) a = true) (hn1 : nm.pre.length ≤ 140737488355328) (hn2 : nm.sps.length ≤ 140737488355328) :
  callL Tryz.prog (ext11b chkB) 6 [.list (ns.map Nd.d), .list a, .agg nm.cs, .agg [.int .i64 n, .str ps]] [] = some (.bool true, [.no], []) := by
 have h8 := sp8_L hA.a (chk := chkB)
 have h9 := rcheck_L (chk := chkB) ns hB
 have h10 := greatZ_L (chk := chkB) ns a nm hl hn1 hn2
 by_cases c1 : greatZ ns f1 a nm = true
 ·rw [c1] at h10
  unfold Nam.cs at *
  generalize ns.map Nd.d = NS at *
  generalize chkF ns = z at *
  clear c1 hB hl hn1 hn2
  exact cWq 106 8 Tryz.func6
 have c1 : greatZ ns f1 a nm = false := by simpa using c1
 rw [c1] at h10
 by_cases e1 : (100 : Int) < ps.length
 ·unfold Nam.cs at *
  generalize ns.map Nd.d = NS at *
  generalize chkF ns = z at *
  clear c1 hB hl hn1 hn2
  exact cWq 106 8 Tryz.func6
 by_cases c2 : (chkF ns).1 = 0
 ·have hz := chkF_z c2
  rw [hz] at h9
  unfold greatZ at c1
  simp only [Bool.or_eq_false_iff, decide_eq_false_iff_not] at c1
  obtain ⟨g1, g2, g3, g4⟩ := c1
  have hS := great_smallD g1 (by decide)
  have hR := right_chk hz
  have hnm : nm.ok := by
   unfold gnF at g3
   simp only [Bool.or_eq_false_iff, decide_eq_false_iff_not] at g3
   exact ⟨by omega, by omega⟩
  have hls : lsOk 100 (smN 41) a = true := ls_num 41 a (cnt_small (most := 24) (by decide) (by decide) f1 a 0 41 rfl hl (by have : cnt 24 (f1 + 1) a ((0 : Nat) : Int) = cnt 24 (f1 + 1) a 0 := rfl; omega)) g4
  have h12 := new_L hS hz
  have q1 : callL Tryz.prog (ext11b chkB) 22 [treeN ns, .list a, .agg nm.cs, .agg [.int .i64 n, .str ps]] [] = _ := specA_L hA (k := 41) (by decide) hS hR hnm hls n ps
  have q2 := rspecA_L (chk := chkB) (k := 41) (by decide) hS hR hnm hls n ps
  have q3 : callL Tryz.prog (ext11b chkB) 14 [treeN ns, .list a, .agg nm.cs, .agg [.int .i64 n, .str ps]] [] = _ := selA_L hA.a (k := 41) (by decide) hS hR hnm hls n ps
  have q4 := rselA_L (chk := chkB) (k := 41) (by decide) hS hR hnm hls n ps
  obtain ⟨la, hc⟩ := lsOk_mem hls
  have hd : ∀ c ∈ a, c = .agg [.list (cxL c)] ∧ callL Tryz.prog (ext11b chkB) 20 [treeN ns, c, .agg nm.cs, .agg [.int .i64 n, .str ps]] [] = some (.bool (complexP ns nm c n ps), [.no], []) ∧ callL Tryz.prog (ext11b chkB) 21 [.list (ns.map Nd.d), c, .agg nm.cs, .agg [.int .i64 n, .str ps]] [] = some (.bool (complexP ns nm c n ps), [.no], []) := fun c h =>
   ⟨ls_form hls c h, complexA_L hA.a (k := 41) (by decide) hS hR hnm (hc c h) n ps, rcompA_L (chk := chkB) (k := 41) (by decide) hS hR hnm (hc c h) n ps⟩
  have HD := Hd.mk hd
  have HLA := Hd.mk la
  generalize (specV (fun c => complexP ns nm c n ps) spT a).1 = x at *
  generalize selV ns nm a n ps = p at *
  obtain ⟨x0, x1, x2⟩ := x
  unfold Nam.cs sp3 at *
  obtain ⟨T, hTr⟩ := tree_fix ns
  generalize treeN ns = T0 at *
  subst hTr
  generalize ns.map Nd.d = NS at *
  dsimp only at q1 q2
  clear hB hl hn1 hn2 c2 hz g1 g2 g3 g4 hS hR hnm hls hc hd la
  refine cK 106 8 Tryz.func6 ?_
  repeat' (first|simp only [*, AVB, AVY, Yq.AVQ, ↓reduceIte, Nat.reduceEqDiff, Nat.reduceLT, Nat.reduceLeDiff, reduceCtorEq, Nat.reduceBEq, String.reduceBEq, Nat.reduceAdd, Nat.reduceSub, Nat.reduceMul, Int.reduceLE, Int.reduceLT, Int.reduceToNat, Int.reduceBEq, Int.reduceBNe, List.zipWith, dIntBin]|refine drW_intro (by kernel_rfl) ?_)
  refine loopH (fun st => ∃ (i : Nat) (r6 r7 : List Room), i ≤ a.length ∧ st.slot 66 = .int .i64 i ∧ st.slot 65 = .int .i64 a.length ∧ st.slot 64 = .list a ∧ st.slot 0 = .list NS ∧ st.slot 1 = .list a ∧ st.slot 11 = .fix T 0 ∧ st.slot 6 = .ptr 6 1 0 ∧ st.box 6 = some ⟨1, [.bool nm.has, .str nm.dft, .list (nm.pre.map .str), .list (nm.sps.map .str)], r6⟩ ∧ st.slot 7 = .ptr 7 1 0 ∧ st.box 7 = some ⟨1, [.int .i64 n, .str ps], r7⟩) (fun st => a.length - slotI st 66) ?_ ?_
  ·exact ⟨0, (padR [] 4).take 4, (padR [] 2).take 2, Nat.zero_le _, Iq, Iq, Iq, Iq, Iq, Iq, Iq, Iq, Iq, Iq⟩
  ·rintro st K ⟨i, r6, r7, hi, g66, g65, g64, g0, g1, g11, g6, b6, g7, b7⟩ hn hx hr
   have la : a.length ≤ 100 := HLA
   by_cases h : i < a.length
   ·have k9 : (i : Int) < a.length := by omega
    have hw := wrapS i (by omega)
    obtain ⟨c, hc1⟩ := some_at h
    obtain ⟨e1, d1, d2⟩ := (show ∀ c ∈ a, _ from HD) c (List.mem_of_getElem? hc1)
    have hg := self_getD hc1
    obtain ⟨v, hv⟩ : ∃ v, complexP ns nm c n ps = v := ⟨_, rfl⟩
    rw [hv] at d1 d2
    generalize cxL c = Y at *
    subst e1
    clear hx hr hc1 hv la q1 q2 q3 q4
    cases v with
    | true =>
     repeat' (first|simp only [*, AVB, AVY, Yq.AVQ, ↓reduceIte, Nat.reduceEqDiff, Nat.reduceLT, Nat.reduceLeDiff, reduceCtorEq, Nat.reduceBEq, String.reduceBEq, Nat.reduceAdd, Nat.reduceSub, Nat.reduceMul, Int.reduceLE, Int.reduceLT, Int.reduceToNat, Int.reduceBEq, Int.reduceBNe, List.zipWith, dIntBin]|refine drW_intro (by kernel_rfl) ?_)
     exact hn _ ⟨i + 1, r6, r7, h, L, L, L, L, L, L, L, L, L, L⟩ Zq
    | false =>
     repeat' (first|simp only [*, AVB, AVY, Yq.AVQ, ↓reduceIte, Nat.reduceEqDiff, Nat.reduceLT, Nat.reduceLeDiff, reduceCtorEq, Nat.reduceBEq, String.reduceBEq, Nat.reduceAdd, Nat.reduceSub, Nat.reduceMul, Int.reduceLE, Int.reduceLT, Int.reduceToNat, Int.reduceBEq, Int.reduceBNe, List.zipWith, dIntBin]|refine drW_intro (by kernel_rfl) ?_)
     exact hn _ ⟨i + 1, r6, r7, h, L, L, L, L, L, L, L, L, L, L⟩ Zq
   ·have k9 : ¬ (i : Int) < a.length := by omega
    clear hn hr h la
    refine Gq ?_
    refine hx _ _ ?_
    cases p with
    | true => exact Wq
    | false => exact Wq
 ·obtain ⟨j1, j2, j3⟩ := neI c2
  unfold Nam.cs at *
  generalize ns.map Nd.d = NS at *
  generalize chkF ns = z at *
  clear c1 c2 hB hl hn1 hn2
  exact cWq 106 8 Tryz.func6
end Go.Av
