/- The evaluator, in one text: over any program; no conditions but those that each law names. -/
import Derived.Test.YtcogfddcdpgpkaaGreatDoorAvua
import Derived.Test.YtcogfddcdpgpkaaGreatDoorAvud
import Derived.Test.YtcogfddcdpgpkaaGreatDoorAvuc
set_option linter.unusedSimpArgs false
set_option linter.unusedVariables false
set_option linter.unusedSectionVars false
set_option maxRecDepth 100000
namespace Go.Av
open Go.Proofs
variable [Rk] {chk : List D → Bool}
theorem elem_L (ns : List Nd) (n : Int) : callL Tryz.prog (ext11b chk) 104 [treeN ns, .int .i64 n] [] = some (.bool (elB ns n), [.no], []) := by
 obtain ⟨E, K, V, P, ht, _, _, _⟩ := treeN_form ns
 rw [ht]
 clear ht
 have lN := lenM ns Nd.d
 unfold elB
 by_cases h0 : 0 ≤ n
 ·by_cases h1 : n < ns.length
  ·obtain ⟨x, hx⟩ := some_at (show n.toNat < ns.length by omega)
   have ha := getD_map (f := Nd.d) hx
   rw [ndat] at ha
   have hk : kAt ns n.toNat = x.k := by unfold kAt; rw [hx]
   rw [decide_eq_true h0, decide_eq_true h1, hk, Bool.true_and, Bool.true_and]
   generalize x.at_.map At.d = LA at *
   generalize x.st.map D.str = LS at *
   generalize x.p = p at *
   generalize x.k = k at *
   generalize x.sp = sp at *
   generalize x.nm = nm at *
   generalize x.tx = tx at *
   clear hx hk
   refine callK (m := 27) (res := [4]) (rs := [.tmp 4]) rfl Tryz.func104 rfl rfl rfl rfl rfl ?_
   repeat' (first|simp only [*, AVB, ↓reduceIte, Nat.reduceEqDiff, Nat.reduceLT, reduceCtorEq, Nat.reduceBEq, Nat.reduceAdd, dIntBin]|refine drW_intro (by kernel_rfl) ?_|refine gw_intro (fun h => ?_) (fun h => ?_) <;> try simp only [AVH] at h)
  ·rw [decide_eq_true h0, decide_eq_false h1, Bool.true_and, Bool.false_and]
   refine callK (m := 27) (res := [4]) (rs := [.tmp 4]) rfl Tryz.func104 rfl rfl rfl rfl rfl ?_
   repeat' (first|simp only [*, AVB, ↓reduceIte, Nat.reduceEqDiff, Nat.reduceLT, reduceCtorEq, Nat.reduceBEq, dIntBin]|refine drW_intro (by kernel_rfl) ?_|refine gw_intro (fun h => ?_) (fun h => ?_) <;> try simp only [AVH] at h)
 ·rw [decide_eq_false h0, Bool.false_and]
  refine callK (m := 27) (res := [4]) (rs := [.tmp 4]) rfl Tryz.func104 rfl rfl rfl rfl rfl ?_
  repeat' (first|simp only [*, AVB, ↓reduceIte, Nat.reduceEqDiff, Nat.reduceLT, Nat.reduceBEq, dIntBin]|refine drW_intro (by kernel_rfl) ?_|refine gw_intro (fun h => ?_) (fun h => ?_) <;> try simp only [AVH] at h)
theorem parent_L (ns : List Nd) (n : Int) : callL Tryz.prog (ext11b chk) 66 [treeN ns, .int .i64 n] [] = some (.tuple [.int .i64 (parI ns n).1, .bool (parI ns n).2], [.no, .no], []) := by
 have hE := elem_L (chk := chk) ns n
 obtain ⟨E, K, V, P, ht, hPl, hP, hK⟩ := treeN_form ns
 rw [ht] at hE ⊢
 clear ht
 have lN := lenM ns Nd.d
 have lP := lenM P (D.int .i64)
 rw [hPl] at lP
 unfold parI
 cases he : elB ns n with
 | false =>
  rw [he] at hE
  rw [if_neg (by simp)]
  clear hK hP lN lP hPl he
  refine callK (m := 29) (res := [4, 5]) (rs := [.tmp 4, .tmp 5]) rfl Tryz.func66 rfl rfl rfl rfl rfl ?_
  repeat' (first|simp only [*, AVB, ↓reduceIte, Nat.reduceEqDiff, Nat.reduceLT, reduceCtorEq, Nat.reduceBEq]|refine drW_intro (by kernel_rfl) ?_|refine gw_intro (fun h => ?_) (fun h => ?_) <;> try simp only [AVH] at h)
 | true =>
  rw [he] at hE
  obtain ⟨i, rfl, hi, hk⟩ := elB_at (ns := ns) (n := n) he
  obtain ⟨x, hx⟩ := some_at hi
  have ha := getD_map (f := Nd.d) hx
  rw [ndat] at ha
  have hp : pAt ns i = x.p := by unfold pAt; rw [hx]
  have g9 : (i : Int) < ns.length := by omega
  have tn : (i : Int).toNat = i := by omega
  rw [tn, hp]
  generalize x.at_.map At.d = LA at *
  generalize x.st.map D.str = LS at *
  generalize x.k = k at *
  generalize x.sp = sp at *
  generalize x.nm = nm at *
  generalize x.tx = tx at *
  generalize x.p = p at *
  clear hK hP lP hPl he hk hx hp tn
  by_cases c : 0 ≤ p
  ·rw [if_pos ⟨rfl, c⟩]
   have c' : ¬ p < 0 := by omega
   refine callK (m := 29) (res := [4, 5]) (rs := [.tmp 4, .tmp 5]) rfl Tryz.func66 rfl rfl rfl rfl rfl ?_
   repeat' (first|simp only [*, AVB, ↓reduceIte, Nat.reduceEqDiff, Nat.reduceLT, reduceCtorEq, Nat.reduceBEq, Nat.reduceAdd, dIntBin]|refine drW_intro (by kernel_rfl) ?_|refine gw_intro (fun h => ?_) (fun h => ?_) <;> try simp only [AVH] at h)
  ·rw [if_neg (fun h => c h.2)]
   have c' : p < 0 := by omega
   refine callK (m := 29) (res := [4, 5]) (rs := [.tmp 4, .tmp 5]) rfl Tryz.func66 rfl rfl rfl rfl rfl ?_
   repeat' (first|simp only [*, AVB, ↓reduceIte, Nat.reduceEqDiff, Nat.reduceLT, reduceCtorEq, Nat.reduceBEq, Nat.reduceAdd, dIntBin]|refine drW_intro (by kernel_rfl) ?_|refine gw_intro (fun h => ?_) (fun h => ?_) <;> try simp only [AVH] at h)
theorem sz1 (l : List Int) : szOk 1 (l.map (D.int .i64)) = true := by cases l <;> rfl
theorem clone_L (zs : List Int) (h : zs.length ≤ 1000000) : callL Tryz.prog (ext11b chk) 61 [.list (zs.map (.int .i64))] [] = some (.list (zs.map (.int .i64)), [], []) := by
 refine callL_ext (ext_cl rfl ?_)
 show (if szAll 1 (zs.map (D.int .i64)) = true then some (D.list (zs.map (.int .i64)), ([] : List Room), ([] : List Bx)) else none) = _
 rw [if_pos]
 unfold szAll
 simp only [Bool.and_eq_true, List.all_eq_true, decide_eq_true_eq, List.length_map]
 refine ⟨fun e he => ?_, h⟩
 obtain ⟨z, _, rfl⟩ := List.mem_map.1 he
 rfl
theorem row_L (ns : List Nd) (n : Int) (hS : ns.length ≤ 10000) : callL Tryz.prog (ext11b chk) 82 [treeN ns, .int .i64 n] [] = some (.list ((rowI ns n).map (.int .i64)), [if elB ns n = true then .no else .full], []) := by
 have hE := elem_L (chk := chk) ns n
 obtain ⟨E, K, V, P, ht, hPl, hP, hK⟩ := treeN_form ns
 rw [ht] at hE ⊢
 clear ht
 have lN := lenM ns Nd.d
 have lP := lenM P (D.int .i64)
 rw [hPl] at lP
 unfold rowI
 cases he : elB ns n with
 | false =>
  rw [he] at hE
  rw [if_neg (by simp)]
  clear hK hP lN lP hPl he hS
  refine callK (m := 32) (res := [4]) (rs := [.tmp 4]) rfl Tryz.func82 rfl rfl rfl rfl rfl ?_
  repeat' (first|simp only [*, AVB, ↓reduceIte, Nat.reduceEqDiff, Nat.reduceLT, reduceCtorEq, Nat.reduceBEq]|refine drW_intro (by kernel_rfl) ?_|refine gw_intro (fun h => ?_) (fun h => ?_) <;> try simp only [AVH] at h)
 | true =>
  rw [he] at hE
  obtain ⟨i, rfl, hi, hk⟩ := elB_at (ns := ns) (n := n) he
  obtain ⟨x, hx⟩ := some_at hi
  have ha := getD_map (f := Nd.d) hx
  rw [ndat] at ha
  have hp : pAt ns i = x.p := by unfold pAt; rw [hx]
  have g9 : (i : Int) < ns.length := by omega
  have tn : (i : Int).toNat = i := by omega
  rw [tn, if_pos rfl]
  have hpl := hP i hi
  have hkf := hK (pAt ns i)
  obtain ⟨t1, t2⟩ := rowL_pre (ns := ns) (key := pAt ns i) (show i + 1 ≤ ns.length by omega)
  have t3 := rowL_succ hk
  have t4 := rowL_len (ns := ns) (key := pAt ns i) (m := i + 1)
  have t5 : (rowL ns (pAt ns i) (i + 1)).length = (rowL ns (pAt ns i) i).length + 1 := by rw [t3]; simp
  have hcl := clone_L (chk := chk) (rowL ns (pAt ns i) (i + 1)) (by omega)
  rw [← t1, t5, List.map_take] at hcl
  rw [← t1, t5, List.map_take]
  rw [hp] at *
  generalize hm : (rowL ns x.p i).length = m at *
  have hw := wrapS m (by omega)
  have t6 : ((m + 1 : Nat) : Int) ≤ (rowL ns x.p ns.length).length := by omega
  clear t1 t2 t3 t4 t5 hP hK hS he hk hPl hm hx
  have lR := lenM (rowL ns x.p ns.length) (D.int .i64)
  have sz := sz1 (rowL ns x.p ns.length)
  generalize rowL ns x.p ns.length = Z at *
  generalize x.at_.map At.d = LA at *
  generalize x.st.map D.str = LS at *
  generalize x.k = k at *
  generalize x.sp = sp at *
  generalize x.nm = nm at *
  generalize x.tx = tx at *
  generalize x.p = p at *
  clear hp tn
  refine callK (m := 32) (res := [4]) (rs := [.tmp 4]) rfl Tryz.func82 rfl rfl rfl rfl rfl ?_
  repeat' (first|simp only [*, AVB, ↓reduceIte, Nat.reduceEqDiff, Nat.reduceLT, reduceCtorEq, Nat.reduceBEq, Nat.reduceAdd, dIntBin]|refine drW_intro (by kernel_rfl) ?_|refine gw_intro (fun h => ?_) (fun h => ?_) <;> try simp only [AVH] at h)
theorem ahead_L (ns : List Nd) (n : Int) (hS : ns.length ≤ 10000) : callL Tryz.prog (ext11b chk) 80 [treeN ns, .int .i64 n] [] = some (.tuple [.int .i64 (ahdI ns n).1, .bool (ahdI ns n).2], [.no, .no], []) := by
 have hE := elem_L (chk := chk) ns n
 obtain ⟨E, K, V, P, ht, hPl, hP, hK⟩ := treeN_form ns
 rw [ht] at hE ⊢
 clear ht
 have lN := lenM ns Nd.d
 have lP := lenM P (D.int .i64)
 rw [hPl] at lP
 unfold ahdI
 cases he : elB ns n with
 | false =>
  rw [he] at hE
  rw [if_neg (by simp)]
  clear hK hP lN lP hPl he hS
  refine callK (m := 43) (res := [4, 5]) (rs := [.tmp 4, .tmp 5]) rfl Tryz.func80 rfl rfl rfl rfl rfl ?_
  repeat' (first|simp only [*, AVB, ↓reduceIte, Nat.reduceEqDiff, Nat.reduceLT, reduceCtorEq, Nat.reduceBEq]|refine drW_intro (by kernel_rfl) ?_|refine gw_intro (fun h => ?_) (fun h => ?_) <;> try simp only [AVH] at h)
 | true =>
  rw [he] at hE
  obtain ⟨i, rfl, hi, hk⟩ := elB_at (ns := ns) (n := n) he
  obtain ⟨x, hx⟩ := some_at hi
  have ha := getD_map (f := Nd.d) hx
  rw [ndat] at ha
  have hp : pAt ns i = x.p := by unfold pAt; rw [hx]
  have g9 : (i : Int) < ns.length := by omega
  have tn : (i : Int).toNat = i := by omega
  rw [tn, if_pos rfl]
  have hpl := hP i hi
  have hkf := hK (pAt ns i)
  obtain ⟨t1, t2⟩ := rowL_pre (ns := ns) (key := pAt ns i) (show i ≤ ns.length by omega)
  have t4 := rowL_len (ns := ns) (key := pAt ns i) (m := i)
  rw [hp] at *
  by_cases c : (rowL ns x.p i).length = 0
  ·rw [List.length_eq_zero_iff.1 c]
   simp only [List.getLast?_nil]
   rw [c] at hpl
   have hpl' : (P.map (D.int .i64)).getD i .bad = .int .i64 0 := hpl
   clear t1 t2 t4 hP hK hS he hk hPl hx c hkf hpl
   generalize x.at_.map At.d = LA at *
   generalize x.st.map D.str = LS at *
   generalize x.k = k at *
   generalize x.sp = sp at *
   generalize x.nm = nm at *
   generalize x.tx = tx at *
   generalize x.p = p at *
   clear hp tn
   refine callK (m := 43) (res := [4, 5]) (rs := [.tmp 4, .tmp 5]) rfl Tryz.func80 rfl rfl rfl rfl rfl ?_
   repeat' (first|simp only [*, AVB, ↓reduceIte, Nat.reduceEqDiff, Nat.reduceLT, reduceCtorEq, Nat.reduceBEq, dIntBin]|refine drW_intro (by kernel_rfl) ?_|refine gw_intro (fun h => ?_) (fun h => ?_) <;> try simp only [AVH] at h)
  ·obtain ⟨m, hm⟩ : ∃ m, (rowL ns x.p i).length = m + 1 := ⟨(rowL ns x.p i).length - 1, by omega⟩
   obtain ⟨a, hla⟩ : ∃ a, (rowL ns x.p i)[m]? = some a := ⟨_, List.getElem?_eq_getElem (by omega)⟩
   have hgl : (rowL ns x.p i).getLast? = some a := by rw [List.getLast?_eq_getElem?, hm]; exact hla
   have hat : (rowL ns x.p ns.length)[m]? = some a := by
    rw [← t1, List.getElem?_take, if_pos (by omega)] at hla
    exact hla
   have hgd := getD_map (f := D.int .i64) hat
   have lR := lenM (rowL ns x.p ns.length) (D.int .i64)
   have t6 : (m : Int) < (rowL ns x.p ns.length).length := by omega
   rw [hgl]
   rw [hm] at hpl
   have hw : IntKind.i64.wrap (((m + 1 : Nat) : Int) - 1) = (m : Int) := by rw [wrap64 _ (by omega) (by omega)]; omega
   have hz : ((((m + 1 : Nat) : Int)) == 0) = false := by simp; omega
   clear t1 t2 t4 hP hK hS he hk hPl hx c hgl hat hla hm
   generalize rowL ns x.p ns.length = Z at *
   generalize x.at_.map At.d = LA at *
   generalize x.st.map D.str = LS at *
   generalize x.k = k at *
   generalize x.sp = sp at *
   generalize x.nm = nm at *
   generalize x.tx = tx at *
   generalize x.p = p at *
   clear hp tn
   refine callK (m := 43) (res := [4, 5]) (rs := [.tmp 4, .tmp 5]) rfl Tryz.func80 rfl rfl rfl rfl rfl ?_
   repeat' (first|simp only [*, AVB, ↓reduceIte, Nat.reduceEqDiff, Nat.reduceLT, reduceCtorEq, Nat.reduceBEq, Nat.reduceAdd, dIntBin]|refine drW_intro (by kernel_rfl) ?_|refine gw_intro (fun h => ?_) (fun h => ?_) <;> try simp only [AVH] at h)
end Go.Av
namespace Go.Av
open Go.Proofs
variable [Rk] {chk : List D → Bool}
def zeroN : Nd := ⟨0, 0, [], [], [], [], []⟩
def inB' (ns : List Nd) (n : Int) : Bool := decide (0 ≤ n) && decide (n < ns.length)
def nodeI (ns : List Nd) (n : Int) : Nd := if inB' ns n = true then ns.getD n.toNat zeroN else zeroN
theorem node_is {x : Nd} (h : x.at_.length ≤ 1000000 ∧ x.st.length ≤ 1000000) : isNode x.d = true := by
 show ((x.at_.map At.d).all (fun e => (dcells e).length == 3) && (x.st.map D.str).all (fun e => (dcells e).length == 1) && decide ((x.at_.map At.d).length ≤ 1000000) && decide ((x.st.map D.str).length ≤ 1000000)) = true
 simp only [Bool.and_eq_true, List.all_eq_true, decide_eq_true_eq, List.length_map]
 refine ⟨⟨⟨?_, ?_⟩, h.1⟩, h.2⟩ <;> intro e he <;> obtain ⟨x, _, rfl⟩ := List.mem_map.1 he <;> rfl
theorem copy_L (x : Nd) (h : x.at_.length ≤ 1000000 ∧ x.st.length ≤ 1000000) : callL Tryz.prog (ext11b chk) 32 [x.d] [] = some (x.d, [], []) := by
 refine callL_ext (ext_cl rfl ?_)
 show (if isNode x.d = true then some (x.d, ([] : List Room), ([] : List Bx)) else none) = _
 rw [if_pos (node_is h)]
theorem node36_L (ns : List Nd) (n : Int) (hS : SmallD ns) : callL Tryz.prog (ext11b chk) 62 [treeN ns, .int .i64 n] [] = some (.tuple [(nodeI ns n).d, .bool (inB' ns n)], [.no, .no], []) := by
 obtain ⟨E, K, V, P, ht, _⟩ := treeN_form ns
 rw [ht]
 have lN := lenM ns Nd.d
 unfold nodeI inB'
 by_cases h0 : 0 ≤ n
 ·by_cases h1 : n < ns.length
  ·rw [decide_eq_true h0, decide_eq_true h1, Bool.and_self, if_pos rfl]
   obtain ⟨x, hx⟩ := some_at (show n.toNat < ns.length by omega)
   have ha := getD_map (f := Nd.d) hx
   have hc := copy_L (chk := chk) x ⟨(hS.2 x (List.mem_of_getElem? hx)).1, (hS.2 x (List.mem_of_getElem? hx)).2.1⟩
   have hg : ns.getD n.toNat zeroN = x := by simp [List.getD, hx]
   rw [hg]
   rw [ndat] at ha hc ⊢
   have hn : ¬ n < 0 := by omega
   have hn2 : ¬ (ns.length : Int) ≤ n := by omega
   clear hx hg hS ht
   generalize x.at_.map At.d = LA at *
   generalize x.st.map D.str = LS at *
   refine callK (m := 26) (res := [5]) (rs := [.cell 4 71, .tmp 5]) rfl Tryz.func62 rfl rfl rfl rfl rfl ?_
   repeat' (first|simp only [*, AVB, ↓reduceIte, Nat.reduceEqDiff, Nat.reduceLT, Nat.reduceLeDiff, reduceCtorEq, Nat.reduceBEq, Nat.reduceAdd, dIntBin]|refine drW_intro (by kernel_rfl) ?_|refine gw_intro (fun h => ?_) (fun h => ?_) <;> try simp only [AVH] at h)
  ·rw [decide_eq_true h0, decide_eq_false h1, Bool.true_and, if_neg (by decide)]
   have hn : ¬ n < 0 := by omega
   have hn2 : (ns.length : Int) ≤ n := by omega
   have hz : zeroN.d = .agg [.int .i64 0, .int .i64 0, .str [], .str [], .list [], .list [], .str []] := rfl
   rw [hz]
   clear hS ht
   refine callK (m := 26) (res := [5]) (rs := [.cell 4 71, .tmp 5]) rfl Tryz.func62 rfl rfl rfl rfl rfl ?_
   repeat' (first|simp only [*, AVB, ↓reduceIte, Nat.reduceEqDiff, Nat.reduceLT, Nat.reduceLeDiff, reduceCtorEq, Nat.reduceBEq, Nat.reduceAdd, dIntBin]|refine drW_intro (by kernel_rfl) ?_|refine gw_intro (fun h => ?_) (fun h => ?_) <;> try simp only [AVH] at h)
 ·rw [decide_eq_false h0, Bool.false_and, if_neg (by decide)]
  have hn : n < 0 := by omega
  have hz : zeroN.d = .agg [.int .i64 0, .int .i64 0, .str [], .str [], .list [], .list [], .str []] := rfl
  rw [hz]
  clear hS ht
  refine callK (m := 26) (res := [5]) (rs := [.cell 4 71, .tmp 5]) rfl Tryz.func62 rfl rfl rfl rfl rfl ?_
  repeat' (first|simp only [*, AVB, ↓reduceIte, Nat.reduceEqDiff, Nat.reduceLT, Nat.reduceLeDiff, Nat.reduceBEq, Nat.reduceAdd, dIntBin]|refine drW_intro (by kernel_rfl) ?_|refine gw_intro (fun h => ?_) (fun h => ?_) <;> try simp only [AVH] at h)
theorem idxN_find {α : Type} (f : α → Bool) : ∀ (l : List α) (k : Nat), (l.find? f = none ∧ idxN f k l = -1) ∨ ∃ (j : Nat) (a : α), l.find? f = some a ∧ l[j]? = some a ∧ idxN f k l = ((k + j : Nat) : Int)
 | [], k => .inl ⟨rfl, rfl⟩
 | a :: r, k => by
  rw [idxN, List.find?_cons]
  cases h : f a with
  | true => exact .inr ⟨0, a, rfl, rfl, by simp⟩
  | false =>
   rcases idxN_find f r (k + 1) with ⟨h1, h2⟩ | ⟨j, b, h1, h2, h3⟩
   ·exact .inl ⟨h1, by simpa using h2⟩
   ·refine .inr ⟨j + 1, b, h1, h2, ?_⟩
    rw [if_neg (by decide), h3]
    omega
def atsAt (ns : List Nd) (i : Nat) : List At := match ns[i]? with | some n => n.at_ | none => []
def stsAt (ns : List Nd) (i : Nat) : List (List UInt8) := match ns[i]? with | some n => n.st | none => []
def foundF : Option At → List UInt8 × Bool
 | some a => (a.vl, true)
 | none => ([], false)
def valI (ns : List Nd) (n : Int) (sp nm : List UInt8) : List UInt8 × Bool := if elB ns n = true then foundF ((atsAt ns n.toNat).find? (sameN sp nm)) else ([], false)
def staI (ns : List Nd) (n : Int) (nm : List UInt8) : Bool := elB ns n && (stsAt ns n.toNat).contains nm
theorem val38_L (ns : List Nd) (n : Int) (sp nm : List UInt8) (hS : SmallD ns) : callL Tryz.prog (ext11b chk) 100 [treeN ns, .int .i64 n, .str sp, .str nm] [] = some (.tuple [.str (valI ns n sp nm).1, .bool (valI ns n sp nm).2], [.no, .no], []) := by
 have hE := elem_L (chk := chk) ns n
 obtain ⟨E, K, V, P, ht, _⟩ := treeN_form ns
 rw [ht] at hE ⊢
 clear ht
 have lN := lenM ns Nd.d
 unfold valI
 cases he : elB ns n with
 | false =>
  rw [he] at hE
  rw [if_neg (by simp)]
  clear he hS
  refine callK (m := 40) (res := [8, 9]) (rs := [.tmp 8, .tmp 9]) rfl Tryz.func100 rfl rfl rfl rfl rfl ?_
  repeat' (first|simp only [*, AVB, ↓reduceIte, Nat.reduceEqDiff, Nat.reduceLT, reduceCtorEq, Nat.reduceBEq]|refine drW_intro (by kernel_rfl) ?_|refine gw_intro (fun h => ?_) (fun h => ?_) <;> try simp only [AVH] at h)
 | true =>
  rw [he] at hE
  obtain ⟨i, rfl, hi, hk⟩ := elB_at (ns := ns) (n := n) he
  obtain ⟨x, hx⟩ := some_at hi
  have ha := getD_map (f := Nd.d) hx
  rw [ndat] at ha
  have g9 : (i : Int) < ns.length := by omega
  have tn : (i : Int).toNat = i := by omega
  have hat : atsAt ns i = x.at_ := by unfold atsAt; rw [hx]
  have hst : stsAt ns i = x.st := by unfold stsAt; rw [hx]
  have hsx := hS.2 x (List.mem_of_getElem? hx)
  rw [if_pos rfl, tn, hat]
  have hi1 := attr_L (chk := chk) x.at_ sp nm hsx.1
  have lA := lenM x.at_ At.d
  rcases idxN_find (sameN sp nm) x.at_ 0 with ⟨f1, f2⟩ | ⟨j, a, f1, f2, f3⟩
  ·rw [f1]
   rw [f2] at hi1
   simp only [foundF]
   clear hS hsx hx hat hst hk f1 f2 hi
   generalize x.at_.map At.d = LA at *
   generalize x.st.map D.str = LS at *
   refine callK (m := 40) (res := [8, 9]) (rs := [.tmp 8, .tmp 9]) rfl Tryz.func100 rfl rfl rfl rfl rfl ?_
   repeat' (first|simp only [*, AVB, ↓reduceIte, Nat.reduceEqDiff, Nat.reduceLT, reduceCtorEq, Nat.reduceBEq, Nat.reduceAdd, Int.reduceLT, dIntBin]|refine drW_intro (by kernel_rfl) ?_|refine gw_intro (fun h => ?_) (fun h => ?_) <;> try simp only [AVH] at h)
  ·rw [f1]
   rw [f3, Nat.zero_add] at hi1
   have hg := getD_map (f := At.d) f2
   have hj : (j : Int) < x.at_.length := by have := (List.getElem?_eq_some_iff.1 f2).1; omega
   have hj0 : ¬ (j : Int) < 0 := by omega
   simp only [foundF]
   obtain ⟨a1, a2, a3⟩ := a
   have hg2 : (x.at_.map At.d).getD j .bad = .agg [.str a1, .str a2, .str a3] := hg
   clear hS hsx hx hat hst hk f1 f2 f3 hi hg
   generalize x.at_.map At.d = LA at *
   generalize x.st.map D.str = LS at *
   refine callK (m := 40) (res := [8, 9]) (rs := [.tmp 8, .tmp 9]) rfl Tryz.func100 rfl rfl rfl rfl rfl ?_
   repeat' (first|simp only [*, AVB, ↓reduceIte, Nat.reduceEqDiff, Nat.reduceLT, reduceCtorEq, Nat.reduceBEq, Nat.reduceAdd, dIntBin]|refine drW_intro (by kernel_rfl) ?_|refine gw_intro (fun h => ?_) (fun h => ?_) <;> try simp only [AVH] at h)
theorem sta40_L (ns : List Nd) (n : Int) (nm : List UInt8) (hS : SmallD ns) : callL Tryz.prog (ext11b chk) 69 [treeN ns, .int .i64 n, .str nm] [] = some (.bool (staI ns n nm), [.no], []) := by
 have hE := elem_L (chk := chk) ns n
 obtain ⟨E, K, V, P, ht, _⟩ := treeN_form ns
 rw [ht] at hE ⊢
 clear ht
 have lN := lenM ns Nd.d
 unfold staI
 cases he : elB ns n with
 | false =>
  rw [he] at hE
  rw [Bool.false_and]
  clear he hS
  refine callK (m := 22) (res := [6]) (rs := [.tmp 6]) rfl Tryz.func69 rfl rfl rfl rfl rfl ?_
  repeat' (first|simp only [*, AVB, ↓reduceIte, Nat.reduceEqDiff, Nat.reduceLT, reduceCtorEq, Nat.reduceBEq]|refine drW_intro (by kernel_rfl) ?_|refine gw_intro (fun h => ?_) (fun h => ?_) <;> try simp only [AVH] at h)
 | true =>
  rw [he] at hE
  obtain ⟨i, rfl, hi, hk⟩ := elB_at (ns := ns) (n := n) he
  obtain ⟨x, hx⟩ := some_at hi
  have ha := getD_map (f := Nd.d) hx
  rw [ndat] at ha
  have g9 : (i : Int) < ns.length := by omega
  have tn : (i : Int).toNat = i := by omega
  have hat : atsAt ns i = x.at_ := by unfold atsAt; rw [hx]
  have hst : stsAt ns i = x.st := by unfold stsAt; rw [hx]
  have hsx := hS.2 x (List.mem_of_getElem? hx)
  rw [Bool.true_and, tn, hst]
  have hc := contains_L (chk := chk) x.st nm hsx.2.1
  generalize x.st.contains nm = R at *
  clear hS hsx hx hat hst hk hi
  generalize x.at_.map At.d = LA at *
  generalize x.st.map D.str = LS at *
  refine callK (m := 22) (res := [6]) (rs := [.tmp 6]) rfl Tryz.func69 rfl rfl rfl rfl rfl ?_
  repeat' (first|simp only [*, AVB, ↓reduceIte, Nat.reduceEqDiff, Nat.reduceLT, reduceCtorEq, Nat.reduceBEq, Nat.reduceAdd]|refine drW_intro (by kernel_rfl) ?_|refine gw_intro (fun h => ?_) (fun h => ?_) <;> try simp only [AVH] at h)
end Go.Av
namespace Go.Av
open Go.Proofs
variable [Rk] {chk : List D → Bool}
def lowC (x : UInt8) : UInt8 := if 65 ≤ x.toNat ∧ x.toNat ≤ 90 then x + 32 else x
def lowB (l : List UInt8) : List UInt8 := l.map lowC
def lowI (n : Int) : Int := if n ≥ 65 ∧ n ≤ 90 then n + 32 else n
set_option maxHeartbeats 1000000 in
theorem small_L (n : Int) (h0 : 0 ≤ n) (h1 : n ≤ 1000000) : callL Tryz.prog (ext11b chk) 184 [.int .i64 n] [] = some (.int .i64 (lowI n), [.no], []) := by
 refine callK (m := 13) (res := [2]) (rs := [.tmp 2]) rfl Tryz.func184 rfl rfl rfl rfl rfl ?_
 repeat' (first|simp only [*, AVB, ↓reduceIte, Nat.reduceEqDiff, Nat.reduceLT, reduceCtorEq, Nat.reduceBEq, dIntBin]|refine drW_intro (by kernel_rfl) ?_|refine gw_intro (fun h => ?_) (fun h => ?_) <;> try simp only [AVH] at h)
 ·rw [wrap64 (n + 97) (by omega) (by omega), wrap64 _ (by omega) (by omega), lowI, if_pos (by omega)]
  congr 3
  omega
 ·rw [lowI, if_neg (by omega)]
 ·rw [lowI, if_neg (by omega)]
theorem lowC_I (x : UInt8) : IntKind.u8.wrap (lowI x.toNat) = ((lowC x).toNat : Int) := by
 have h := x.toNat_lt
 unfold lowI lowC
 rw [IntKind.wrap_u8]
 split <;> split
 ·rw [UInt8.toNat_add]
  have : (32 : UInt8).toNat = 32 := rfl
  omega
 ·omega
 ·omega
 ·omega
def byteD (b : UInt8) : D := .int .u8 b.toNat
theorem row_bytes : ∀ (n : Nat) (l : List UInt8), l.length = n → rowList 1 false n (l.map byteD) = l.map byteD
 | 0, [], _ => rfl
 | n + 1, x :: r, h => by
  simp only [List.map_cons, rowList, List.take_succ_cons, List.take_zero, List.drop_succ_cons, List.drop_zero, rowElem, List.headD_cons]
  rw [row_bytes n r (by simpa using h)]
  rfl
theorem bytes_of : ∀ (l : List UInt8), bytesOf (l.map byteD) = some l
 | [] => rfl
 | x :: r => by
  show (bytesOf (r.map byteD)).map (UInt8.ofNat ((x.toNat : Int)).toNat :: ·) = _
  rw [bytes_of r]
  simp
set_option maxHeartbeats 1000000 in
theorem lower_L (l : List UInt8) (hl : l.length < 1099511627776) : callL Tryz.prog (ext11b chk) 163 [.str l] [] = some (.str (lowB l), [.no], []) := by
 refine callK (m := 25) (res := [2]) (rs := [.tmp 2]) rfl Tryz.func163 rfl rfl rfl rfl rfl ?_
 have e0 : (fun b : UInt8 => D.int .u8 b.toNat) = byteD := rfl
 repeat' (first|simp only [*, AVB, AVY, ↓reduceIte, Nat.reduceEqDiff, Nat.reduceLT, reduceCtorEq, Nat.reduceBEq, Nat.reduceAdd]|refine drW_intro (by kernel_rfl) ?_|refine gw_intro (fun h => ?_) (fun h => ?_) <;> try simp only [AVH] at h)
 refine loopH (fun s => ∃ i : Nat, i ≤ l.length ∧ s.slot 10 = .int .i64 i ∧ s.slot 9 = .int .i64 l.length ∧ s.slot 8 = .row 7 1 l.length 1 false ∧ s.slot 3 = .row 7 1 l.length 1 false ∧
  ∃ rs, s.box 7 = some ⟨1, ((lowB (l.take i)) ++ l.drop i).map byteD, rs⟩) (fun s => l.length - slotI s 10) ?_ ?_
 ·refine ⟨0, Nat.zero_le _, ?_, ?_, ?_, ?_, [], ?_⟩
  all_goals simp only [*, AVB, ↓reduceIte, Nat.reduceEqDiff, List.length_map]
  all_goals rfl
 ·rintro s K ⟨i, hi, h10, h9, h8, h3, rs, hb⟩ hn hx hr
  by_cases hlt : i < l.length
  ·obtain ⟨x, hxl⟩ : ∃ x, l[i]? = some x := ⟨l[i], List.getElem?_eq_getElem hlt⟩
   have hlt' : (i : Int) < l.length := by omega
   have hlen : (lowB (l.take i)).length = i := by simp [lowB]; omega
   have hget : (((lowB (l.take i)) ++ l.drop i).map byteD)[i]? = some (.int .u8 x.toNat) := by
    rw [List.getElem?_map, List.getElem?_append_right (by omega), hlen, Nat.sub_self, List.getElem?_drop, Nat.add_zero, hxl]
    rfl
   have hxb := x.toNat_lt
   have hw : IntKind.i64.wrap (x.toNat : Int) = x.toNat := wrap64 _ (by omega) (by omega)
   have hs := small_L (chk := chk) (x.toNat : Int) (by omega) (by omega)
   have hc := lowC_I x
   have hfit : i + 1 ≤ (((lowB (l.take i)) ++ l.drop i).map byteD).length := by simp [hlen]; omega
   have hw1 : IntKind.i64.wrap ((i : Int) + 1) = ((i + 1 : Nat) : Int) := by rw [wrap64 _ (by omega) (by omega)]; omega
   repeat' (first|simp only [*, AVB, AVY, ↓reduceIte, Nat.reduceEqDiff, Nat.reduceLT, Nat.reduceBEq, dIntBin]|refine drW_intro (by kernel_rfl) ?_|refine gw_intro (fun h => ?_) (fun h => ?_) <;> try simp only [AVH] at h)
   refine hn _ ⟨i + 1, hlt, ?_, ?_, ?_, ?_, putR rs i 1 [], ?_⟩ ?_
   ·simp only [*, AVL, ↓reduceIte]
   ·simp only [*, AVL, ↓reduceIte, Nat.reduceEqDiff]
   ·simp only [*, AVL, ↓reduceIte, Nat.reduceEqDiff]
   ·simp only [*, AVL, ↓reduceIte, Nat.reduceEqDiff]
   ·simp only [*, AVL, ↓reduceIte]
    congr 2
    rw [List.map_append, List.take_append_of_le_length (by simp [hlen]), List.take_of_length_le (by simp [hlen]), List.drop_append, List.drop_eq_nil_of_le (by simp [hlen])]
    rw [show l.take (i + 1) = l.take i ++ [x] from by rw [List.take_add_one, hxl]; rfl]
    simp [lowB, byteD]
    omega
   ·simp only [slotI, *, AVB, ↓reduceIte]
    omega
  ·have hge : ¬ (i : Int) < l.length := by omega
   repeat' (first|simp only [*, AVB, ↓reduceIte, Nat.reduceLT, dIntBin]|refine drW_intro (by kernel_rfl) ?_|refine gw_intro (fun h => ?_) (fun h => ?_) <;> try simp only [AVH] at h)
   refine hx 0 _ ?_
   have hil : i = l.length := by omega
   subst hil
   rw [List.take_length, List.drop_length, List.append_nil] at hb
   have hfr : l.length ≤ ((lowB l).map byteD).length := by simp [lowB]
   have hrl : rowList 1 false l.length ((lowB l).map byteD) = (lowB l).map byteD := row_bytes l.length (lowB l) (by simp [lowB])
   have hby := bytes_of (lowB l)
   repeat' (first|simp only [*, AVB, AVY, ↓reduceIte, Nat.reduceEqDiff, Nat.reduceLT, Nat.reduceBEq]|refine drW_intro (by kernel_rfl) ?_|refine gw_intro (fun h => ?_) (fun h => ?_) <;> try simp only [AVH] at h)
end Go.Av
namespace Go.Av
open Go.Proofs
variable [Rk] {chk : List D → Bool}
theorem at_get {l : List UInt8} {i : Nat} (h : i < l.length) : ∃ x, l[i]? = some x ∧ l.getD i 0 = x := ⟨l[i], List.getElem?_eq_getElem h, by simp [List.getD, h]⟩
end Go.Av
namespace Go.Av
open Go.Proofs
variable [Rk] {chk : List D → Bool}
theorem take_any {α : Type} {p : α → Bool} {l : List α} {i : Nat} {x : α} (h : l[i]? = some x) : (l.take (i + 1)).any p = ((l.take i).any p || p x) := by
 rw [List.take_add_one, h]; simp
theorem any_at {α : Type} {p : α → Bool} {l : List α} {i : Nat} {x : α} (h : l[i]? = some x) (hp : p x = true) : l.any p = true := List.any_eq_true.2 ⟨x, List.mem_of_getElem? h, hp⟩
theorem blank_idx (x : UInt8) : (0 : Int) ≤ idxB (UInt8.ofNat (x.toNat : Int).toNat) 0 [32, 9, 10, 12, 13] ↔ blankB x = true := by
 simp only [idxB, blankB, Int.toNat_natCast, UInt8.ofNat_toNat, Bool.or_eq_true, beq_iff_eq]
 constructor
 ·intro h
  split at h
  ·rename_i e; simp [← e]
  split at h
  ·rename_i e; simp [← e]
  split at h
  ·rename_i e; simp [← e]
  split at h
  ·rename_i e; simp [← e]
  split at h
  ·rename_i e; simp [← e]
  ·omega
 ·rintro ((((rfl | rfl) | rfl) | rfl) | rfl) <;> decide
set_option maxHeartbeats 1000000 in
theorem blank_L (l : List UInt8) (hl : l.length < 1000000000) : callL Tryz.prog (ext11b chk) 162 [.str l] [] = some (.bool (l.any blankB), [.no], []) := by
 refine callK (m := 15) (res := [2]) (rs := [.tmp 2]) rfl Tryz.func162 rfl rfl rfl rfl rfl ?_
 repeat' (first|simp only [*, AVB, AVY, ↓reduceIte, Nat.reduceLT, reduceCtorEq, Nat.reduceBEq]|refine drW_intro (by kernel_rfl) ?_|refine gw_intro (fun h => ?_) (fun h => ?_) <;> try simp only [AVH] at h)
 refine loopH (fun s => ∃ i : Nat, i ≤ l.length ∧ s.slot 6 = .int .i64 i ∧ s.slot 5 = .int .i64 l.length ∧ s.slot 0 = .str l ∧ (l.take i).any blankB = false) (fun s => l.length - slotI s 6) ?_ ?_
 ·refine ⟨0, Nat.zero_le _, ?_, ?_, ?_, ?_⟩
  all_goals simp only [*, AVB, ↓reduceIte, Nat.reduceEqDiff, reduceCtorEq]
  all_goals rfl
 ·rintro s K ⟨i, hi, h6, h5, h0, hany⟩ hn hx hr
  by_cases hlt : i < l.length
  ·obtain ⟨x, hxl, hxd⟩ := at_get hlt
   have hlt' : (i : Int) < l.length := by omega
   have hw1 : IntKind.i64.wrap ((i : Int) + 1) = ((i + 1 : Nat) : Int) := by rw [wrap64 _ (by omega) (by omega)]; omega
   have hs : callL Tryz.prog (ext11b chk) 166 [.str [32, 9, 10, 12, 13], .int .u8 x.toNat] [] = some (.int .i64 (idxB (UInt8.ofNat (x.toNat : Int).toNat) 0 [32, 9, 10, 12, 13]), [], []) := callL_ext (ext_6 (by decide) rfl)
   have hb := blank_idx x
   have hta := take_any (p := blankB) hxl
   have hat := any_at (p := blankB) hxl
   generalize idxB (UInt8.ofNat (x.toNat : Int).toNat) 0 [32, 9, 10, 12, 13] = z at hs hb
   by_cases hz : z ≥ 0
   ·have hbl := hat (hb.1 hz)
    clear hb hta hat
    repeat' (first|simp only [*, AVB, AVY, ↓reduceIte, Nat.reduceEqDiff, Nat.reduceLT, reduceCtorEq, Nat.reduceBEq, dIntBin]|refine drW_intro (by kernel_rfl) ?_|refine gw_intro (fun h => ?_) (fun h => ?_) <;> try simp only [AVH] at h)
    refine hr _ ?_
    repeat' (first|simp only [*, AVB, ↓reduceIte]|refine drW_intro (by kernel_rfl) ?_|refine gw_intro (fun h => ?_) (fun h => ?_) <;> try simp only [AVH] at h)
   ·have hbl : blankB x = false := by
     cases hbx : blankB x with
     | false => rfl
     | true => exact absurd (hb.2 hbx) hz
    rw [hany, hbl] at hta
    clear hb hat
    repeat' (first|simp only [*, AVB, AVY, ↓reduceIte, Nat.reduceEqDiff, Nat.reduceLT, reduceCtorEq, Nat.reduceBEq, dIntBin]|refine drW_intro (by kernel_rfl) ?_|refine gw_intro (fun h => ?_) (fun h => ?_) <;> try simp only [AVH] at h)
    refine hn _ ⟨i + 1, hlt, ?_, ?_, ?_, hta⟩ ?_
    ·simp only [*, AVL, ↓reduceIte]
    ·simp only [*, AVL, ↓reduceIte, Nat.reduceEqDiff]
    ·simp only [*, AVL, ↓reduceIte, reduceCtorEq]
    ·simp only [slotI, *, AVB, ↓reduceIte]
     omega
  ·have hge : ¬ (i : Int) < l.length := by omega
   repeat' (first|simp only [*, AVB, ↓reduceIte, Nat.reduceLT, dIntBin]|refine drW_intro (by kernel_rfl) ?_|refine gw_intro (fun h => ?_) (fun h => ?_) <;> try simp only [AVH] at h)
   refine hx 0 _ ?_
   have hil : i = l.length := by omega
   subst hil
   rw [List.take_length] at hany
   repeat' (first|simp only [*, AVB, ↓reduceIte, Nat.reduceLT]|refine drW_intro (by kernel_rfl) ?_|refine gw_intro (fun h => ?_) (fun h => ?_) <;> try simp only [AVH] at h)
end Go.Av
namespace Go.Av
open Go.Proofs
variable [Rk] {chk : List D → Bool}
def idxL (t : List UInt8) : Nat → List (List UInt8) → Int
 | _, [] => -1
 | k, x :: r => if (t == x) = true then (k : Int) else idxL t (k + 1) r
theorem idxL_at {t : List UInt8} : ∀ {ls : List (List UInt8)} {k i : Nat} {x : List UInt8}, (∀ j y, j < i → ls[j]? = some y → (t == y) = false) → ls[i]? = some x → (t == x) = true → idxL t k ls = ((k + i : Nat) : Int)
 | [], k, i, x, _, h, _ => by simp at h
 | y :: r, k, 0, x, _, h, hx => by
  simp at h
  subst h
  simp [idxL, hx]
 | y :: r, k, i + 1, x, ha, h, hx => by
  have h0 := ha 0 y (Nat.succ_pos i) rfl
  simp only [idxL, h0, Bool.false_eq_true, if_false]
  rw [idxL_at (i := i) (x := x) (fun j z hj hz => ha (j + 1) z (by omega) hz) h hx]
  congr 1
  omega
theorem idxL_no {t : List UInt8} : ∀ {ls : List (List UInt8)} {k : Nat}, (∀ (j : Nat) y, ls[j]? = some y → (t == y) = false) → idxL t k ls = -1
 | [], _, _ => rfl
 | y :: r, k, h => by
  have h0 := h 0 y rfl
  simp only [idxL, h0, Bool.false_eq_true, if_false]
  exact idxL_no fun j z hz => h (j + 1) z hz
theorem idxL_has {t : List UInt8} : ∀ {ls : List (List UInt8)} {k : Nat}, decide (idxL t k ls ≥ 0) = ls.contains t
 | [], k => rfl
 | y :: r, k => by
  simp only [idxL, List.contains_cons]
  split
  ·rename_i h; simp [h]
  ·rename_i h
   rw [idxL_has]
   have : (t == y) = false := by simpa using h
   rw [this]
   rfl
set_option maxHeartbeats 1000000 in
theorem index6_L (ls : List (List UInt8)) (t : List UInt8) (hl : ls.length < 1000000000) : callL Tryz.prog (ext11b chk) 130 [.list (ls.map .str), .str t] [] = some (.int .i64 (idxL t 0 ls), [.no], []) := by
 refine callK (m := 19) (res := [4]) (rs := [.tmp 4]) rfl Tryz.func130 rfl rfl rfl rfl rfl ?_
 repeat' (first|simp only [*, AVB, AVY, ↓reduceIte, Nat.reduceLT, reduceCtorEq, Nat.reduceBEq]|refine drW_intro (by kernel_rfl) ?_|refine gw_intro (fun h => ?_) (fun h => ?_) <;> try simp only [AVH] at h)
 refine loopH (fun s => ∃ i : Nat, i ≤ ls.length ∧ s.slot 8 = .int .i64 i ∧ s.slot 7 = .int .i64 ls.length ∧ s.slot 0 = .list (ls.map .str) ∧ s.slot 1 = .str t ∧ (∀ (j : Nat) y, j < i → ls[j]? = some y → (t == y) = false)) (fun s => ls.length - slotI s 8) ?_ ?_
 ·refine ⟨0, Nat.zero_le _, ?_, ?_, ?_, ?_, fun j y hj => absurd hj (Nat.not_lt_zero j)⟩
  all_goals simp only [*, AVB, ↓reduceIte, Nat.reduceEqDiff, reduceCtorEq, List.length_map]
  all_goals rfl
 ·rintro s K ⟨i, hi, h8, h7, h0, h1, hany⟩ hn hx hr
  by_cases hlt : i < ls.length
  ·obtain ⟨x, hxl⟩ : ∃ x, ls[i]? = some x := ⟨ls[i], List.getElem?_eq_getElem hlt⟩
   have hlt' : (i : Int) < ls.length := by omega
   have hlm : ((ls.map D.str).length : Int) = ls.length := by simp
   have hgd : (ls.map D.str).getD i .bad = .str x := by simp [List.getD, hxl]
   have hw1 : IntKind.i64.wrap ((i : Int) + 1) = ((i + 1 : Nat) : Int) := by rw [wrap64 _ (by omega) (by omega)]; omega
   have hany' := Hd.mk hany
   clear hany
   cases htx : (t == x) with
   | true =>
    have hres := idxL_at (k := 0) hany' hxl htx
    rw [Nat.zero_add] at hres
    repeat' (first|simp only [*, AVB, AVY, ↓reduceIte, Nat.reduceEqDiff, Nat.reduceLT, reduceCtorEq, Nat.reduceBEq, dIntBin]|refine drW_intro (by kernel_rfl) ?_|refine gw_intro (fun h => ?_) (fun h => ?_) <;> try simp only [AVH] at h)
    refine hr _ ?_
    repeat' (first|simp only [*, AVB, ↓reduceIte]|refine drW_intro (by kernel_rfl) ?_|refine gw_intro (fun h => ?_) (fun h => ?_) <;> try simp only [AVH] at h)
   | false =>
    repeat' (first|simp only [*, AVB, AVY, ↓reduceIte, Nat.reduceEqDiff, Nat.reduceLT, reduceCtorEq, Nat.reduceBEq, dIntBin]|refine drW_intro (by kernel_rfl) ?_|refine gw_intro (fun h => ?_) (fun h => ?_) <;> try simp only [AVH] at h)
    refine hn _ ⟨i + 1, hlt, ?_, ?_, ?_, ?_, ?_⟩ ?_
    ·simp only [*, AVL, ↓reduceIte]
    ·simp only [*, AVL, ↓reduceIte, Nat.reduceEqDiff]
    ·simp only [*, AVL, ↓reduceIte, reduceCtorEq]
    ·simp only [*, AVL, ↓reduceIte, Nat.reduceEqDiff]
    ·intro j y hj hy
     rcases Nat.lt_succ_iff_lt_or_eq.1 hj with h | rfl
     ·exact hany' j y h hy
     ·rw [hxl] at hy
      injection hy with hy
      rw [← hy]
      exact htx
    ·simp only [slotI, *, AVB, ↓reduceIte]
     omega
  ·have hge : ¬ (i : Int) < ls.length := by omega
   have hany' := Hd.mk hany
   clear hany
   repeat' (first|simp only [*, AVB, ↓reduceIte, Nat.reduceLT, dIntBin]|refine drW_intro (by kernel_rfl) ?_|refine gw_intro (fun h => ?_) (fun h => ?_) <;> try simp only [AVH] at h)
   refine hx 0 _ ?_
   have hres := idxL_no (k := 0) fun j y hy => hany' j y (by have := (List.getElem?_eq_some_iff.1 hy).1; omega) hy
   repeat' (first|simp only [*, AVB, ↓reduceIte, Nat.reduceLT]|refine drW_intro (by kernel_rfl) ?_|refine gw_intro (fun h => ?_) (fun h => ?_) <;> try simp only [AVH] at h)
theorem has6_L (ls : List (List UInt8)) (t : List UInt8) (hl : ls.length < 1000000000) : callL Tryz.prog (ext11b chk) 108 [.list (ls.map .str), .str t] [] = some (.bool (ls.contains t), [.no], []) := by
 refine callK (m := 9) (res := [4]) (rs := [.tmp 4]) rfl Tryz.func108 rfl rfl rfl rfl rfl ?_
 have hs := index6_L (chk := chk) ls t hl
 have hc := idxL_has (t := t) (ls := ls) (k := 0)
 repeat' (first|simp only [*, AVB, ↓reduceIte, Nat.reduceEqDiff, Nat.reduceLT, reduceCtorEq, Nat.reduceBEq, dIntBin]|refine drW_intro (by kernel_rfl) ?_|refine gw_intro (fun h => ?_) (fun h => ?_) <;> try simp only [AVH] at h)
def condD (op : Int) (t : List UInt8) (fold : Bool) : D := .agg [.int .i64 op, .str t, .bool fold]
def lowC1 (fold : Bool) (l : List UInt8) : List UInt8 := if fold = true then lowB l else l
theorem plain_L (op : Int) (t v : List UInt8) (fold : Bool) (ht : t.length < 1099511627776) (hv : v.length < 1099511627776) : callL Tryz.prog (ext11b chk) 132 [condD op t fold, .str v] [] = some (.tuple [condD op (lowC1 fold t) fold, .str (lowC1 fold v)], [.no, .no], []) := by
 unfold condD
 refine callK (m := 16) (res := [5]) (rs := [.cell 4 38, .tmp 5]) rfl Tryz.func132 rfl rfl rfl rfl rfl ?_
 have h1 := lower_L (chk := chk) t ht
 have h2 := lower_L (chk := chk) v hv
 cases fold
 all_goals
  simp only [lowC1]
  repeat' (first|simp only [*, AVB, AVY, ↓reduceIte, Nat.reduceEqDiff, Nat.reduceLT, Nat.reduceLeDiff, reduceCtorEq, Nat.reduceBEq, Nat.reduceAdd]|refine drW_intro (by kernel_rfl) ?_|refine gw_intro (fun h => ?_) (fun h => ?_) <;> try simp only [AVH] at h)
theorem preB_eq : ∀ (p s : List UInt8), preB p s = (decide (p.length ≤ s.length) && (s.take p.length == p))
 | [], s => by simp [preB]
 | _ :: _, [] => by simp [preB]
 | a :: p, b :: s => by
  rw [preB, preB_eq p s]
  simp only [List.length_cons, List.take_succ_cons, List.cons_beq_cons]
  rw [show decide (p.length + 1 ≤ s.length + 1) = decide (p.length ≤ s.length) from by simp]
  rw [show (b == a) = (a == b) from by rw [Bool.eq_iff_iff, beq_iff_eq, beq_iff_eq]; exact eq_comm]
  cases (a == b) <;> cases decide (p.length ≤ s.length) <;> rfl
theorem pre38_L (s p : List UInt8) : callL Tryz.prog (ext11b chk) 168 [.str s, .str p] [] = some (.bool (preB p s), [.no], []) := by
 refine callK (m := 18) (res := [4]) (rs := [.tmp 4]) rfl Tryz.func168 rfl rfl rfl rfl rfl ?_
 rw [preB_eq]
 by_cases h : p.length ≤ s.length
 ·have h' : (p.length : Int) ≤ s.length := by omega
  repeat' (first|simp only [*, AVB, AVY, ↓reduceIte, Nat.reduceEqDiff, Nat.reduceLT, reduceCtorEq, Nat.reduceBEq, dIntBin]|refine drW_intro (by kernel_rfl) ?_|refine gw_intro (fun h => ?_) (fun h => ?_) <;> try simp only [AVH] at h)
 ·have h' : ¬ (p.length : Int) ≤ s.length := by omega
  repeat' (first|simp only [*, AVB, AVY, ↓reduceIte, Nat.reduceEqDiff, Nat.reduceLT, reduceCtorEq, Nat.reduceBEq, dIntBin]|refine drW_intro (by kernel_rfl) ?_|refine gw_intro (fun h => ?_) (fun h => ?_) <;> try simp only [AVH] at h)
theorem pre_L (s p : List UInt8) : callL Tryz.prog (ext11b chk) 135 [.str s, .str p] [] = some (.bool (preB p s), [.no], []) := by
 refine callK (m := 8) (res := [4]) (rs := [.tmp 4]) rfl Tryz.func135 rfl rfl rfl rfl rfl ?_
 have h1 := pre38_L (chk := chk) s p
 repeat' (first|simp only [*, AVB, ↓reduceIte, Nat.reduceEqDiff, Nat.reduceLT, reduceCtorEq, Nat.reduceBEq]|refine drW_intro (by kernel_rfl) ?_|refine gw_intro (fun h => ?_) (fun h => ?_) <;> try simp only [AVH] at h)
theorem suf39_L (s p : List UInt8) (hs : s.length < 1099511627776) (hp : p.length < 1099511627776) : callL Tryz.prog (ext11b chk) 169 [.str s, .str p] [] = some (.bool (decide (p.length ≤ s.length) && (s.drop (s.length - p.length) == p)), [.no], []) := by
 refine callK (m := 21) (res := [4]) (rs := [.tmp 4]) rfl Tryz.func169 rfl rfl rfl rfl rfl ?_
 by_cases h : p.length ≤ s.length
 ·have h' : (p.length : Int) ≤ s.length := by omega
  have hw : IntKind.i64.wrap ((s.length : Int) - p.length) = ((s.length - p.length : Nat) : Int) := by rw [wrap64 _ (by omega) (by omega)]; omega
  have hle : ((s.length - p.length : Nat) : Int) ≤ s.length := by omega
  repeat' (first|simp only [*, AVB, AVY, ↓reduceIte, Nat.reduceEqDiff, Nat.reduceLT, reduceCtorEq, Nat.reduceBEq, dIntBin]|refine drW_intro (by kernel_rfl) ?_|refine gw_intro (fun h => ?_) (fun h => ?_) <;> try simp only [AVH] at h)
 ·have h' : ¬ (p.length : Int) ≤ s.length := by omega
  repeat' (first|simp only [*, AVB, AVY, ↓reduceIte, Nat.reduceEqDiff, Nat.reduceLT, reduceCtorEq, Nat.reduceBEq, dIntBin]|refine drW_intro (by kernel_rfl) ?_|refine gw_intro (fun h => ?_) (fun h => ?_) <;> try simp only [AVH] at h)
theorem suf_L (s p : List UInt8) (hs : s.length < 1099511627776) (hp : p.length < 1099511627776) : callL Tryz.prog (ext11b chk) 136 [.str s, .str p] [] = some (.bool (decide (p.length ≤ s.length) && (s.drop (s.length - p.length) == p)), [.no], []) := by
 refine callK (m := 8) (res := [4]) (rs := [.tmp 4]) rfl Tryz.func136 rfl rfl rfl rfl rfl ?_
 have h1 := suf39_L (chk := chk) s p hs hp
 repeat' (first|simp only [*, AVB, ↓reduceIte, Nat.reduceEqDiff, Nat.reduceLT, reduceCtorEq, Nat.reduceBEq]|refine drW_intro (by kernel_rfl) ?_|refine gw_intro (fun h => ?_) (fun h => ?_) <;> try simp only [AVH] at h)
theorem cut37_L (s p : List UInt8) : callL Tryz.prog (ext11b chk) 167 [.str s, .str p] [] = some (.tuple [.str (if preB p s = true then s.drop p.length else s), .bool (preB p s)], [.no, .no], []) := by
 refine callK (m := 15) (res := [4, 5]) (rs := [.tmp 4, .tmp 5]) rfl Tryz.func167 rfl rfl rfl rfl rfl ?_
 have h1 := pre38_L (chk := chk) s p
 cases h2 : preB p s with
 | false => repeat' (first|simp only [*, AVB, ↓reduceIte, Nat.reduceEqDiff, Nat.reduceLT, reduceCtorEq, Nat.reduceBEq]|refine drW_intro (by kernel_rfl) ?_|refine gw_intro (fun h => ?_) (fun h => ?_) <;> try simp only [AVH] at h)
 | true =>
  have h : p.length ≤ s.length := by
   rw [preB_eq] at h2
   simp only [Bool.and_eq_true, decide_eq_true_eq] at h2
   exact h2.1
  have h' : (p.length : Int) ≤ s.length := by omega
  repeat' (first|simp only [*, AVB, AVY, ↓reduceIte, Nat.reduceEqDiff, Nat.reduceLT, reduceCtorEq, Nat.reduceBEq]|refine drW_intro (by kernel_rfl) ?_|refine gw_intro (fun h => ?_) (fun h => ?_) <;> try simp only [AVH] at h)
theorem cut_L (s p : List UInt8) : ∃ r, callL Tryz.prog (ext11b chk) 134 [.str s, .str p] [] = some (.tuple [.str (if preB p s = true then s.drop p.length else s), .bool (preB p s)], r, []) := by
 refine ⟨[.no, .no], ?_⟩
 refine callK (m := 11) (res := [4, 5]) (rs := [.tmp 4, .tmp 5]) rfl Tryz.func134 rfl rfl rfl rfl rfl ?_
 have h1 := cut37_L (chk := chk) s p
 repeat' (first|simp only [*, AVB, ↓reduceIte, Nat.reduceEqDiff, Nat.reduceLT, reduceCtorEq, Nat.reduceBEq]|refine drW_intro (by kernel_rfl) ?_|refine gw_intro (fun h => ?_) (fun h => ?_) <;> try simp only [AVH] at h)
 rfl
end Go.Av
namespace Go.Av
open Go.Proofs
variable [Rk] {chk : List D → Bool}
theorem lowC1_len (fold : Bool) (l : List UInt8) : (lowC1 fold l).length = l.length := by
 unfold lowC1 lowB
 split
 ·simp
 ·rfl
theorem names_L (s : List UInt8) (hs : s.length < 1000000000) : callL Tryz.prog (ext11b chk) 133 [.str s] [] = some (.list ((partsB s []).map .str), [.no], []) := by
 refine callK (m := 5) (res := [2]) (rs := [.tmp 2]) rfl Tryz.func133 rfl rfl rfl rfl rfl ?_
 have h1 : callL Tryz.prog (ext11b chk) 164 [.str s, .func (.func 165) [] []] [] = some (.list ((partsB s []).map .str), [], []) := callL_ext (ext_6 (by decide) (by
  show (if s.length ≤ 4294967296 then _ else _) = _
  rw [if_pos (by omega)]))
 repeat' (first|simp only [*, AVB, ↓reduceIte, Nat.reduceLT, reduceCtorEq, Nat.reduceBEq]|refine drW_intro (by kernel_rfl) ?_|refine gw_intro (fun h => ?_) (fun h => ?_) <;> try simp only [AVH] at h)
def neverF (op : Int) (t : List UInt8) : Bool :=
 if (op == 1) = true then false else if (op == 2) = true then false else if (op == 4) = true then false else
 if (op == 3) = true then (t.any blankB || t == []) else if (op == 5) = true then t == [] else if (op == 6) = true then t == [] else if (op == 7) = true then t == [] else true
set_option maxHeartbeats 1000000 in
theorem never_L (op : Int) (t : List UInt8) (fold : Bool) (ht : t.length < 1000000000) : callL Tryz.prog (ext11b chk) 131 [condD op t fold] [] = some (.bool (neverF op t), [.no], []) := by
 unfold condD neverF
 refine callK (m := 21) (res := [2]) (rs := [.tmp 2]) rfl Tryz.func131 rfl rfl rfl rfl rfl ?_
 have h1 := blank_L (chk := chk) t ht
 repeat' (first|simp only [*, AVB, AVY, ↓reduceIte, Nat.reduceEqDiff, Nat.reduceLT, reduceCtorEq, Nat.reduceBEq, Nat.reduceAdd, dIntBin]|refine drW_intro (by kernel_rfl) ?_|refine gw_intro (fun h => ?_) (fun h => ?_) <;> try simp only [AVH] at h)
 all_goals simp_all
def dashF (t v : List UInt8) : Bool := preB t v && (v.drop t.length == [] || (v.drop t.length).getD 0 0 == 45)
def sufF (t v : List UInt8) : Bool := decide (t.length ≤ v.length) && (v.drop (v.length - t.length) == t)
def holdF (op : Int) (t v : List UInt8) : Bool :=
 if (op == 2) = true then v == t else if (op == 3) = true then (partsB v []).contains t else if (op == 4) = true then dashF t v else
 if (op == 5) = true then preB t v else if (op == 6) = true then sufF t v else if (op == 7) = true then hasB t v else true
def holdsF (op : Int) (t : List UInt8) (fold : Bool) (v : List UInt8) : Bool := if neverF op t = true then false else holdF op (lowC1 fold t) (lowC1 fold v)
theorem parts_len : ∀ (s p : List UInt8), (partsB s p).length ≤ s.length + 1
 | [], p => by unfold partsB; split <;> simp
 | x :: r, p => by
  unfold partsB
  have h1 := parts_len r []
  have h2 := parts_len r (p ++ [x])
  split
  ·split
   ·simp; omega
   ·simp; omega
  ·simp; omega
theorem byte45 (x : UInt8) : ((x.toNat : Int) == 45) = (x == 45) := by
 rw [Bool.eq_iff_iff, beq_iff_eq, beq_iff_eq, ← UInt8.toNat_inj]
 have : (45 : UInt8).toNat = 45 := rfl
 omega
set_option maxHeartbeats 2000000 in
theorem holds_L (op : Int) (t : List UInt8) (fold : Bool) (v : List UInt8) (ht : t.length < 900000000) (hv : v.length < 900000000) : callL Tryz.prog (ext11b chk) 101 [condD op t fold, .str v] [] = some (.bool (holdsF op t fold v), [.no], []) := by
 have h1 : callL Tryz.prog (ext11b chk) 131 [.agg [.int .i64 op, .str t, .bool fold]] [] = _ := never_L (chk := chk) op t fold (by omega)
 have h2 : callL Tryz.prog (ext11b chk) 132 [.agg [.int .i64 op, .str t, .bool fold], .str v] [] = some (.tuple [.agg [.int .i64 op, .str (lowC1 fold t), .bool fold], .str (lowC1 fold v)], [.no, .no], []) := plain_L (chk := chk) op t v fold (by omega) (by omega)
 have hv' : (lowC1 fold v).length < 900000000 := by rw [lowC1_len]; exact hv
 have ht' : (lowC1 fold t).length < 900000000 := by rw [lowC1_len]; exact ht
 unfold condD holdsF
 generalize lowC1 fold t = t' at *
 generalize lowC1 fold v = v' at *
 have h3 := names_L (chk := chk) v' (by omega)
 have h4 := has6_L (chk := chk) (partsB v' []) t' (by have := parts_len v' []; omega)
 obtain ⟨rc, h5⟩ := cut_L (chk := chk) v' t'
 have h6 := pre_L (chk := chk) v' t'
 have h7 : callL Tryz.prog (ext11b chk) 136 [.str v', .str t'] [] = some (.bool (sufF t' v'), [.no], []) := suf_L (chk := chk) v' t' (by omega) (by omega)
 have h8 : callL Tryz.prog (ext11b chk) 137 [.str v', .str t'] [] = some (.bool (hasB t' v'), [], []) := callL_ext (ext_6 (by decide) (by
  show (if v'.length < 4294967281 then _ else _) = _
  rw [if_pos (by omega)]))
 unfold holdF dashF
 refine callK (m := 67) (res := [4]) (rs := [.tmp 4]) rfl Tryz.func101 rfl rfl rfl rfl rfl ?_
 generalize List.drop t'.length v' = rest at h5 ⊢
 cases rest with
 | nil =>
  have he : ((([] : List UInt8) == []) = true) := rfl
  repeat' (first|simp only [*, AVB, AVY, ↓reduceIte, Nat.reduceEqDiff, Nat.reduceLT, Nat.reduceLeDiff, Nat.reduceBEq, Nat.reduceAdd, dIntBin]|refine drW_intro (by kernel_rfl) ?_|refine gw_intro (fun h => ?_) (fun h => ?_) <;> try simp only [AVH] at h)
  all_goals try (simp_all; done)
 | cons x r =>
  have he : ((x :: r == []) = false) := rfl
  have hpos : (0 : Int) < ((r.length + 1 : Nat) : Int) := by omega
  have hx := byte45 x
  repeat' (first|simp only [*, AVB, AVY, ↓reduceIte, Nat.reduceEqDiff, Nat.reduceLT, Nat.reduceLeDiff, Nat.reduceBEq, Nat.reduceAdd, Int.reduceLE, Int.reduceToNat, dIntBin]|refine drW_intro (by kernel_rfl) ?_|refine gw_intro (fun h => ?_) (fun h => ?_) <;> try simp only [AVH] at h)
  all_goals try (simp_all; done)
end Go.Av
namespace Go.Av
structure Nam where
 has : Bool
 dft : List UInt8
 pre : List (List UInt8)
 sps : List (List UInt8)
def Nam.cs (n : Nam) : List D := [.bool n.has, .str n.dft, .list (n.pre.map .str), .list (n.sps.map .str)]
structure Sf where
 kd : Int
 ns : Int
 pre : List UInt8
 nm : List UInt8
 op : Int
 tx : List UInt8
 fold : Bool
 mark : Int
 a : Int
 b : Int
 of_ : List D
def Sf.d (s : Sf) : D := .agg [.int .i64 s.kd, .int .i64 s.ns, .str s.pre, .str s.nm, .int .i64 s.op, .str s.tx, .bool s.fold, .int .i64 s.mark, .int .i64 s.a, .int .i64 s.b, .list s.of_]
def sf : D → Sf
 | .agg [.int .i64 kd, .int .i64 ns, .str pre, .str nm, .int .i64 op, .str tx, .bool fold, .int .i64 mark, .int .i64 a, .int .i64 b, .list of_] => ⟨kd, ns, pre, nm, op, tx, fold, mark, a, b, of_⟩
 | _ => ⟨0, 0, [], [], 0, [], false, 0, 0, 0, []⟩
theorem sf_d (s : Sf) : sf s.d = s := rfl
def cpD (c : Int) (l : List D) : D := .agg [.int .i64 c, .list l]
def cxD (l : List D) : D := .agg [.list l]
def cpC : D → Int
 | .agg [.int .i64 c, .list _] => c
 | _ => 0
def cpL : D → List D
 | .agg [.int .i64 _, .list l] => l
 | _ => []
def cxL : D → List D
 | .agg [.list l] => l
 | _ => []
def lenB (m : Nat) (l : List D) : Bool := decide (l.length ≤ m)
def cpOk (m : Nat) (S : D → Bool) : D → Bool
 | .agg [.int .i64 _, .list l] => lenB m l && l.all S
 | _ => false
def cxOk (m : Nat) (S : D → Bool) : D → Bool
 | .agg [.list l] => lenB m l && l.all (cpOk m S)
 | _ => false
def lsOk (m : Nat) (S : D → Bool) (l : List D) : Bool := lenB m l && l.all (cxOk m S)
def smOk (m : Nat) : Nat → D → Bool
 | 0, _ => false
 | k + 1, .agg [.int .i64 _, .int .i64 _, .str pre, .str nm, .int .i64 _, .str tx, .bool _, .int .i64 _, .int .i64 _, .int .i64 _, .list of_] =>
  decide (pre.length ≤ m) && decide (nm.length ≤ m) && decide (tx.length ≤ m) && lsOk m (smOk m k) of_
 | _ + 1, _ => false
theorem cpOk_inv {m : Nat} {S : D → Bool} {d : D} (h : cpOk m S d = true) : ∃ c l, d = cpD c l ∧ l.length ≤ m ∧ ∀ s ∈ l, S s = true := by
 unfold cpOk at h
 split at h
 ·rename_i c l
  simp only [lenB, Bool.and_eq_true, decide_eq_true_eq, List.all_eq_true] at h
  exact ⟨c, l, rfl, h.1, h.2⟩
 ·cases h
theorem cxOk_inv {m : Nat} {S : D → Bool} {d : D} (h : cxOk m S d = true) : ∃ l, d = cxD l ∧ l.length ≤ m ∧ ∀ x ∈ l, cpOk m S x = true := by
 unfold cxOk at h
 split at h
 ·rename_i l
  simp only [lenB, Bool.and_eq_true, decide_eq_true_eq, List.all_eq_true] at h
  exact ⟨l, rfl, h.1, h.2⟩
 ·cases h
theorem smOk_inv {m k : Nat} {d : D} (h : smOk m (k + 1) d = true) : d = (sf d).d ∧ (sf d).pre.length ≤ m ∧ (sf d).nm.length ≤ m ∧ (sf d).tx.length ≤ m ∧ lsOk m (smOk m k) (sf d).of_ = true := by
 unfold smOk at h
 split at h
 ·cases ‹_ = _›
 ·rename_i e
  cases e
  simp only [Bool.and_eq_true, decide_eq_true_eq] at h
  exact ⟨rfl, h.1.1.1, h.1.1.2, h.1.2, h.2⟩
 ·cases h
def pseudoF (c : D) : List UInt8 := match (cxL c).getLast? with
 | some x => (match (cpL x).getLast? with
  | some s => if (sf s).kd = 13 then (sf s).nm else []
  | none => [])
 | none => []
def spaceF (n : Nam) (p : List UInt8) : List UInt8 × Bool := match n.pre.findIdx? (· == p) with
 | some i => (n.sps.getD i [], true)
 | none => ([], false)
def inPlF (nm : Nam) (ns : Int) (pre : List UInt8) (space : List UInt8) (attr : Bool) : Bool :=
 if ns = 0 then (if attr = true then space == [] else !nm.has || space == nm.dft)
 else if ns = 1 then true else if ns = 2 then space == []
 else if ns = 3 then (spaceF nm pre).2 && space == (spaceF nm pre).1 else false
def upsI (ns : List Nd) : Nat → Int → List Int
 | 0, _ => []
 | f + 1, n => if (parI ns n).2 = true then (parI ns n).1 :: upsI ns f (parI ns n).1 else []
def rowV (S : D → Int → Bool) (ns : List Nd) : List D → Int → Bool
 | [], _ => false
 | x :: r, n => (cpL x).all (S · n) && (r.isEmpty ||
  if cpC x = 2 then (parI ns n).2 && rowV S ns r (parI ns n).1
  else if cpC x = 3 then (ahdI ns n).2 && rowV S ns r (ahdI ns n).1
  else if cpC x = 1 then (upsI ns (n.toNat + 1) n).any (rowV S ns r)
  else if cpC x = 4 then (rowI ns n).dropLast.any (rowV S ns r)
  else false)
def listV (S : D → Int → Bool) (ns : List Nd) (l : List D) (n : Int) : Bool := l.any fun c => pseudoF c == [] && rowV S ns (cxL c).reverse n
def plainV (ns : List Nd) (n : Int) (name : List UInt8) (op : Int) (tx : List UInt8) : Bool := (valI ns n [] name).2 && holdsF op tx false (valI ns n [] name).1
def hasAB (a b n : Int) : Bool := if n < 1 then false else if a = 0 ∨ n = b then n == b else if decide (b < n) != decide (0 < a) then false else (n - b) % a == 0
def sClass : List UInt8 := [99, 108, 97, 115, 115]
def sId : List UInt8 := [105, 100]
def sHref : List UInt8 := [104, 114, 101, 102]
def sArea : List UInt8 := [97, 114, 101, 97]
def nthV (W : Int → Bool) (ns : List Nd) (a b n : Int) : Bool := W n && hasAB a b ((rowI ns n).countP W : Nat)
def simpleV (ns : List Nd) (nm : Nam) : Nat → D → Int → Bool
 | 0, _, _ => false
 | k + 1, d, n =>
  let s := sf d
  let x := nodeI ns n
  if s.kd = 1 then x.nm == s.nm && inPlF nm s.ns s.pre x.sp false
  else if s.kd = 2 then inPlF nm s.ns s.pre x.sp false
  else if s.kd = 3 then plainV ns n sClass 3 s.nm
  else if s.kd = 4 then plainV ns n sId 2 s.nm
  else if s.kd = 5 then x.at_.any fun a => a.nm == s.nm && (inPlF nm s.ns s.pre a.sp true && holdsF s.op s.tx s.fold a.vl)
  else if s.kd = 6 then !(parI ns n).2
  else if s.kd = 7 then nthV (fun j => s.of_.isEmpty || listV (simpleV ns nm k) ns s.of_ j) ns s.a s.b n
  else if s.kd = 8 ∨ s.kd = 9 then listV (simpleV ns nm k) ns s.of_ n
  else if s.kd = 10 then !listV (simpleV ns nm k) ns s.of_ n
  else if s.kd = 11 then staI ns n s.nm
  else if s.kd = 12 then (x.nm == [97] || x.nm == sArea) && (inPlF nm 0 [] x.sp false && plainV ns n sHref 1 [])
  else s.kd == 13
end Go.Av
namespace Go.Av
def badS (deep : Int) (s : D) : Bool := decide (100 < ((sf s).nm.length : Int)) || (decide (100 < ((sf s).pre.length : Int)) || (decide (100 < ((sf s).tx.length : Int)) || decide (40 < deep)))
def cntX (C : List D → Int) (bad : D → Bool) (most : Int) : List D → Int → Option Int
 | [], n => some n
 | s :: r, n => if n ≤ most then (if bad s = true then none else cntX C bad most r (n + 1 + C (sf s).of_)) else some n
def cntP (C : List D → Int) (bad : D → Bool) (most : Int) : List D → Int → Option Int
 | [], n => some n
 | x :: r, n => if n ≤ most then (cntX C bad most (cpL x) n).bind (cntP C bad most r) else some n
def cntC (C : List D → Int) (bad : D → Bool) (most : Int) : List D → Int → Option Int
 | [], n => some n
 | c :: r, n => if n ≤ most then (cntP C bad most (cxL c) (n + (cxL c).length)).bind (cntC C bad most r) else some n
def cnt (most : Int) : Nat → List D → Int → Int
 | 0, _, _ => 0
 | f + 1, l, deep => (cntC (fun of_ => cnt most f of_ (deep + 1)) (badS deep) most l l.length).getD (most + 1)
section
variable {C : List D → Int} {bad : D → Bool} {most : Int}
theorem cntX_le (hC : ∀ l, 0 ≤ C l) : ∀ (l : List D) (n r : Int), cntX C bad most l n = some r → n ≤ r
 | [], n, r, h => by simp only [cntX, Option.some.injEq] at h; omega
 | s :: l, n, r, h => by
  unfold cntX at h
  split at h
  ·split at h
   ·cases h
   ·have := cntX_le hC l _ _ h
    have := hC (sf s).of_
    omega
  ·simp only [Option.some.injEq] at h; omega
theorem cntX_ok (hC : ∀ l, 0 ≤ C l) : ∀ (l : List D) (n r : Int), cntX C bad most l n = some r → r ≤ most → n + l.length ≤ r ∧ ∀ s ∈ l, bad s = false ∧ n + 1 + C (sf s).of_ ≤ most
 | [], n, r, h, hr => by
  simp only [cntX, Option.some.injEq] at h
  exact ⟨by simp; omega, fun s hs => by simp at hs⟩
 | s :: l, n, r, h, hr => by
  unfold cntX at h
  split at h
  ·split at h
   ·cases h
   ·rename_i hb
    obtain ⟨h1, h2⟩ := cntX_ok hC l _ _ h hr
    have h3 := hC (sf s).of_
    have h4 := cntX_le hC l _ _ h
    refine ⟨by simp only [List.length_cons]; omega, fun t ht => ?_⟩
    rcases List.mem_cons.1 ht with rfl | ht
    ·exact ⟨by simpa using hb, by omega⟩
    ·obtain ⟨h5, h6⟩ := h2 t ht
     exact ⟨h5, by omega⟩
  ·simp only [Option.some.injEq] at h; omega
theorem cntP_le (hC : ∀ l, 0 ≤ C l) : ∀ (l : List D) (n r : Int), cntP C bad most l n = some r → n ≤ r
 | [], n, r, h => by simp only [cntP, Option.some.injEq] at h; omega
 | x :: l, n, r, h => by
  unfold cntP at h
  split at h
  ·obtain ⟨m, h1, h2⟩ := Option.bind_eq_some_iff.1 h
   have := cntX_le hC _ _ _ h1
   have := cntP_le hC l _ _ h2
   omega
  ·simp only [Option.some.injEq] at h; omega
theorem cntP_ok (hC : ∀ l, 0 ≤ C l) : ∀ (l : List D) (n r : Int), 0 ≤ n → cntP C bad most l n = some r → r ≤ most → n ≤ r ∧ ∀ x ∈ l, ((cpL x).length : Int) ≤ most ∧ ∀ s ∈ cpL x, bad s = false ∧ C (sf s).of_ ≤ most
 | [], n, r, h0, h, hr => by
  simp only [cntP, Option.some.injEq] at h
  exact ⟨by omega, fun s hs => by simp at hs⟩
 | x :: l, n, r, h0, h, hr => by
  unfold cntP at h
  split at h
  ·obtain ⟨m, h1, h2⟩ := Option.bind_eq_some_iff.1 h
   have h4 := cntP_le hC l _ _ h2
   obtain ⟨h5, h6⟩ := cntX_ok hC _ _ _ h1 (by omega)
   obtain ⟨h7, h8⟩ := cntP_ok hC l _ _ (by omega) h2 hr
   refine ⟨by omega, fun y hy => ?_⟩
   rcases List.mem_cons.1 hy with rfl | hy
   ·refine ⟨by omega, fun s hs => ?_⟩
    obtain ⟨h9, h10⟩ := h6 s hs
    exact ⟨h9, by omega⟩
   ·exact h8 y hy
  ·simp only [Option.some.injEq] at h; omega
theorem cntC_le (hC : ∀ l, 0 ≤ C l) : ∀ (l : List D) (n r : Int), cntC C bad most l n = some r → n ≤ r
 | [], n, r, h => by simp only [cntC, Option.some.injEq] at h; omega
 | c :: l, n, r, h => by
  unfold cntC at h
  split at h
  ·obtain ⟨m, h1, h2⟩ := Option.bind_eq_some_iff.1 h
   have := cntP_le hC _ _ _ h1
   have := cntC_le hC l _ _ h2
   omega
  ·simp only [Option.some.injEq] at h; omega
theorem cntC_ok (hC : ∀ l, 0 ≤ C l) : ∀ (l : List D) (n r : Int), 0 ≤ n → cntC C bad most l n = some r → r ≤ most → n ≤ r ∧ ∀ c ∈ l, ((cxL c).length : Int) ≤ most ∧ ∀ x ∈ cxL c, ((cpL x).length : Int) ≤ most ∧ ∀ s ∈ cpL x, bad s = false ∧ C (sf s).of_ ≤ most
 | [], n, r, h0, h, hr => by
  simp only [cntC, Option.some.injEq] at h
  exact ⟨by omega, fun s hs => by simp at hs⟩
 | c :: l, n, r, h0, h, hr => by
  unfold cntC at h
  split at h
  ·obtain ⟨m, h1, h2⟩ := Option.bind_eq_some_iff.1 h
   have h4 := cntC_le hC l _ _ h2
   obtain ⟨h5, h6⟩ := cntP_ok hC _ _ _ (by omega) h1 (by omega)
   obtain ⟨h7, h8⟩ := cntC_ok hC l _ _ (by omega) h2 hr
   refine ⟨by omega, fun y hy => ?_⟩
   rcases List.mem_cons.1 hy with rfl | hy
   ·exact ⟨by omega, h6⟩
   ·exact h8 y hy
  ·simp only [Option.some.injEq] at h; omega
end
theorem cnt_nonneg {most : Int} (hm : 0 ≤ most) : ∀ (f : Nat) (l : List D) (deep : Int), 0 ≤ cnt most f l deep
 | 0, _, _ => Int.le_refl _
 | f + 1, l, deep => by
  unfold cnt
  cases h : cntC (fun of_ => cnt most f of_ (deep + 1)) (badS deep) most l l.length with
  | none => simp; omega
  | some r =>
   have := cntC_le (C := fun of_ => cnt most f of_ (deep + 1)) (fun l => cnt_nonneg hm f l _) _ _ _ h
   simp
   omega
theorem cnt_small {most : Int} (hm : 0 ≤ most) (hm2 : most ≤ 100) {m : Nat} : ∀ (f : Nat) (l : List D) (d g : Nat), d + g = 41 → lsOk m (smOk m f) l = true → cnt most (f + 1) l d ≤ most → lsOk 100 (smOk 100 g) l = true
 | f, l, d, g, hd, hk, hc => by
  unfold cnt at hc
  cases h : cntC (fun of_ => cnt most f of_ ((d : Int) + 1)) (badS d) most l l.length with
  | none => rw [h] at hc; simp at hc; omega
  | some r =>
   rw [h] at hc
   simp only [Option.getD_some] at hc
   obtain ⟨h1, h2⟩ := cntC_ok (C := fun of_ => cnt most f of_ ((d : Int) + 1)) (fun l => cnt_nonneg hm f l _) _ _ _ (by omega) h hc
   simp only [lsOk, lenB, Bool.and_eq_true, decide_eq_true_eq, List.all_eq_true] at hk ⊢
   refine ⟨by omega, fun c hcm => ?_⟩
   obtain ⟨xs, rfl, _, hxs⟩ := cxOk_inv (hk.2 c hcm)
   obtain ⟨h3, h4⟩ := h2 _ hcm
   simp only [cxD, cxL] at h3 h4
   simp only [cxOk, cxD, lenB, Bool.and_eq_true, decide_eq_true_eq, List.all_eq_true]
   refine ⟨by omega, fun x hx => ?_⟩
   obtain ⟨k, ss, rfl, _, hss⟩ := cpOk_inv (hxs x hx)
   obtain ⟨h5, h6⟩ := h4 _ hx
   simp only [cpD, cpL] at h5 h6
   simp only [cpOk, cpD, lenB, Bool.and_eq_true, decide_eq_true_eq, List.all_eq_true]
   refine ⟨by omega, fun s hs => ?_⟩
   obtain ⟨h7, h8⟩ := h6 s hs
   simp only [badS, Bool.or_eq_false_iff, decide_eq_false_iff_not] at h7
   obtain ⟨b1, b2, b3, b4⟩ := h7
   match f, hss s hs, h8 with
   | 0, hz, _ => simp [smOk] at hz
   | f + 1, hz, h8 =>
    obtain ⟨e, _, _, _, ho⟩ := smOk_inv hz
    match g, hd with
    | 0, hd => omega
    | g + 1, hd =>
     have h9 := cnt_small hm hm2 f (sf s).of_ (d + 1) g (by omega) ho (by simpa using h8)
     rw [e]
     simp only [smOk, Sf.d, Bool.and_eq_true, decide_eq_true_eq]
     exact ⟨⟨⟨by omega, by omega⟩, by omega⟩, h9⟩
end Go.Av
namespace Go.Av
structure RightT (ns : List Nd) : Prop where
 par : ∀ n, elB ns n = true → (parI ns n).2 = true → elB ns (parI ns n).1 = true ∧ (parI ns n).1 < n
 ahd : ∀ n, elB ns n = true → (ahdI ns n).2 = true → elB ns (ahdI ns n).1 = true ∧ (ahdI ns n).1 < n
 row : ∀ n, elB ns n = true → ∀ a ∈ (rowI ns n).dropLast, elB ns a = true ∧ a < n
theorem ups_el {ns : List Nd} (h : RightT ns) : ∀ (f : Nat) (n : Int), elB ns n = true → ∀ a ∈ upsI ns f n, elB ns a = true ∧ a < n
 | 0, _, _, a, ha => by simp [upsI] at ha
 | f + 1, n, hn, a, ha => by
  unfold upsI at ha
  split at ha
  ·rename_i hp
   obtain ⟨h1, h2⟩ := h.par n hn hp
   rcases List.mem_cons.1 ha with rfl | ha
   ·exact ⟨h1, h2⟩
   ·obtain ⟨h3, h4⟩ := ups_el h f _ h1 a ha
    exact ⟨h3, by omega⟩
  ·simp at ha
theorem elB_nat {ns : List Nd} {n : Int} (h : elB ns n = true) : 0 ≤ n ∧ n < ns.length ∧ kAt ns n.toNat = 1 := by
 unfold elB at h
 simpa [Bool.and_eq_true] using h
theorem mem_range {node : Nat} {k : Int} : k ∈ (List.range (node + 1)).map (Int.ofNat ·) ↔ 0 ≤ k ∧ k ≤ node := by
 simp only [List.mem_map, List.mem_range]
 constructor
 ·rintro ⟨i, hi, rfl⟩
  exact ⟨Int.natCast_nonneg _, by simp; omega⟩
 ·rintro ⟨h0, h1⟩
  exact ⟨k.toNat, by omega, by simp; omega⟩
end Go.Av
namespace Go.Av
def UpTo (ns ns' : List Nd) (B : Nat) : Prop := ∀ i : Nat, i ≤ B → ns[i]? = ns'[i]?
variable {ns ns' : List Nd} {B : Nat}
theorem UpTo.k (h : UpTo ns ns' B) {i : Nat} (hi : i ≤ B) : kAt ns i = kAt ns' i := by unfold kAt; rw [h i hi]
theorem UpTo.p (h : UpTo ns ns' B) {i : Nat} (hi : i ≤ B) : pAt ns i = pAt ns' i := by unfold pAt; rw [h i hi]
theorem kAt_in {ns : List Nd} {i : Nat} (h : kAt ns i = 1) : i < ns.length := by
 unfold kAt at h
 cases e : ns[i]? with
 | none => rw [e] at h; cases h
 | some x => exact (List.getElem?_eq_some_iff.1 e).1
theorem elB_k {ns : List Nd} {n : Int} : elB ns n = (decide (0 ≤ n) && kAt ns n.toNat == 1) := by
 unfold elB
 rw [Bool.eq_iff_iff]
 simp only [Bool.and_eq_true, decide_eq_true_eq, beq_iff_eq]
 constructor
 ·rintro ⟨a, _, b⟩
  exact ⟨a, b⟩
 ·rintro ⟨a, b⟩
  have := kAt_in b
  exact ⟨a, by omega, b⟩
theorem UpTo.el (h : UpTo ns ns' B) {n : Int} (hn : n ≤ B) : elB ns n = elB ns' n := by
 rw [elB_k, elB_k, h.k (by omega)]
theorem UpTo.rowL (h : UpTo ns ns' B) (key : Int) : ∀ (m : Nat), m ≤ B + 1 → rowL ns key m = Go.Av.rowL ns' key m
 | 0, _ => rfl
 | m + 1, hm => by
  unfold Go.Av.rowL
  rw [h.k (by omega), h.p (by omega), h.rowL key m (by omega)]
theorem UpTo.par (h : UpTo ns ns' B) {n : Int} (hn : n ≤ B) : parI ns n = parI ns' n := by
 unfold parI
 rw [h.el hn, h.p (by omega)]
theorem UpTo.ahd (h : UpTo ns ns' B) {n : Int} (hn : n ≤ B) : ahdI ns n = ahdI ns' n := by
 unfold ahdI
 rw [h.el hn, h.p (by omega), h.rowL _ _ (by omega)]
theorem UpTo.row (h : UpTo ns ns' B) {n : Int} (hn : n ≤ B) : rowI ns n = rowI ns' n := by
 unfold rowI
 rw [h.el hn, h.p (by omega), h.rowL _ _ (by omega)]
theorem UpTo.val (h : UpTo ns ns' B) {n : Int} (hn : n ≤ B) (sp nm : List UInt8) : valI ns n sp nm = valI ns' n sp nm := by
 unfold valI atsAt
 rw [h.el hn, h _ (by omega)]
theorem nodeI_at {ns : List Nd} {n : Int} : nodeI ns n = if 0 ≤ n then (ns[n.toNat]?).getD zeroN else zeroN := by
 unfold nodeI inB'
 by_cases h0 : 0 ≤ n
 ·by_cases h1 : n < ns.length
  ·simp only [h0, h1, decide_true, Bool.and_self, if_true, List.getD_eq_getElem?_getD]
  ·rw [if_neg (by simp [h1]), if_pos h0, List.getElem?_eq_none (by omega)]
   rfl
 ·rw [if_neg (by simp [h0]), if_neg h0]
theorem UpTo.node (h : UpTo ns ns' B) {n : Int} (hn : n ≤ B) : nodeI ns n = nodeI ns' n := by
 rw [nodeI_at, nodeI_at, h _ (by omega)]
theorem all_congr' {α : Type} {l : List α} {f g : α → Bool} (h : ∀ x ∈ l, f x = g x) : l.all f = l.all g := by
 induction l with
 | nil => rfl
 | cons x r ih => rw [List.all_cons, List.all_cons, h x (by simp), ih fun y hy => h y (by simp [hy])]
theorem any_congr' {α : Type} {l : List α} {f g : α → Bool} (h : ∀ x ∈ l, f x = g x) : l.any f = l.any g := by
 induction l with
 | nil => rfl
 | cons x r ih => rw [List.any_cons, List.any_cons, h x (by simp), ih fun y hy => h y (by simp [hy])]
theorem row_last {n : Int} (he : elB ns n = true) : ∀ a ∈ rowI ns n, a ∈ (rowI ns n).dropLast ∨ a = n := by
 obtain ⟨h0, _, hk⟩ := elB_nat he
 unfold rowI
 have hs : rowL ns (pAt ns n.toNat) (n.toNat + 1) = rowL ns (pAt ns n.toNat) n.toNat ++ [(n.toNat : Int)] := by rw [rowL, if_pos ⟨hk, rfl⟩]
 rw [if_pos he, hs]
 intro a ha
 rw [List.dropLast_concat]
 rcases List.mem_append.1 ha with h | h
 ·exact .inl h
 ·right
  have := List.mem_singleton.1 h
  omega
end Go.Av
namespace Go.Av
end Go.Av
namespace Go.Av
theorem rowL_mem {ns : List Nd} {key : Int} : ∀ {m : Nat} {a : Int}, a ∈ rowL ns key m → 0 ≤ a ∧ a < m ∧ kAt ns a.toNat = 1
 | 0, a, h => by simp [rowL] at h
 | m + 1, a, h => by
  rw [rowL] at h
  split at h
  ·rename_i hk
   rcases List.mem_append.1 h with h | h
   ·obtain ⟨h1, h2, h3⟩ := rowL_mem h
    exact ⟨h1, by omega, h3⟩
   ·obtain rfl := List.mem_singleton.1 h
    exact ⟨by omega, by omega, by simpa using hk.1⟩
  ·obtain ⟨h1, h2, h3⟩ := rowL_mem h
   exact ⟨h1, by omega, h3⟩
theorem right_of {ns : List Nd} (h : ∀ (j : Nat) (n : Nd), ns[j]? = some n → -1 ≤ n.p ∧ n.p < (ns.take j).length ∧ (0 ≤ n.p → kindAt (ns.take j) n.p = 1)) : RightT ns := by
 refine ⟨fun n he hp => ?_, fun n he hp => ?_, fun n he a ha => ?_⟩
 ·obtain ⟨h0, h1, hk⟩ := elB_nat he
  have hx : ns[n.toNat]? = some ns[n.toNat] := List.getElem?_eq_getElem (by omega)
  obtain ⟨a1, a2, a3⟩ := h _ _ hx
  have hpp : pAt ns n.toNat = (ns[n.toNat]'(by omega)).p := by unfold pAt; rw [hx]
  unfold parI at hp ⊢
  split at hp
  ·rename_i hc
   rw [if_pos hc]
   rw [hpp] at hc ⊢
   have a4 := a3 hc.2
   rw [List.length_take] at a2
   refine ⟨?_, by omega⟩
   rw [elB_k]
   simp only [hc.2, decide_true, Bool.true_and, beq_iff_eq]
   unfold kindAt at a4
   unfold kAt
   rw [List.getElem?_take_of_lt (by omega)] at a4
   exact a4
  ·cases hp
 ·obtain ⟨h0, h1, hk⟩ := elB_nat he
  unfold ahdI at hp ⊢
  rw [if_pos he] at hp ⊢
  split at hp
  ·rename_i a ha
   obtain ⟨b1, b2, b3⟩ := rowL_mem (List.mem_of_getLast? ha)
   exact ⟨by rw [elB_k]; simp [b1, b3], by show a < n; omega⟩
  ·cases hp
 ·obtain ⟨h0, h1, hk⟩ := elB_nat he
  unfold rowI at ha
  have hs : rowL ns (pAt ns n.toNat) (n.toNat + 1) = rowL ns (pAt ns n.toNat) n.toNat ++ [(n.toNat : Int)] := by rw [rowL, if_pos ⟨hk, rfl⟩]
  rw [if_pos he, hs, List.dropLast_concat] at ha
  obtain ⟨b1, b2, b3⟩ := rowL_mem ha
  exact ⟨by rw [elB_k]; simp [b1, b3], by omega⟩
end Go.Av
namespace Go.Av
theorem rowV_eq {S S' : D → Int → Bool} {ns : List Nd} : ∀ (l : List D), (∀ x ∈ l, ∀ s ∈ cpL x, ∀ n, S s n = S' s n) → ∀ n, rowV S ns l n = rowV S' ns l n
 | [], _, _ => rfl
 | x :: r, h, n => by
  have ih := rowV_eq (ns := ns) r (fun y hy => h y (List.mem_cons_of_mem _ hy))
  have hf : rowV S ns r = rowV S' ns r := funext ih
  have ha : (cpL x).all (S · n) = (cpL x).all (S' · n) := all_congr' fun s hs => h x (List.mem_cons_self ..) s hs n
  simp only [rowV, ha, hf]
theorem listV_eq {S S' : D → Int → Bool} {ns : List Nd} {l : List D} (h : ∀ c ∈ l, ∀ x ∈ cxL c, ∀ s ∈ cpL x, ∀ n, S s n = S' s n) (n : Int) : listV S ns l n = listV S' ns l n := by
 unfold listV
 refine any_congr' fun c hc => ?_
 rw [rowV_eq (cxL c).reverse (fun x hx => h c hc x (List.mem_reverse.1 hx))]
theorem lsOk_mem {m : Nat} {S : D → Bool} {l : List D} (h : lsOk m S l = true) : l.length ≤ m ∧ ∀ c ∈ l, cxOk m S c = true := by
 unfold lsOk lenB at h
 simpa [List.all_eq_true] using h
theorem lsOk_s {m : Nat} {S : D → Bool} {l : List D} (h : lsOk m S l = true) : ∀ c ∈ l, ∀ x ∈ cxL c, ∀ s ∈ cpL x, S s = true := by
 intro c hc x hx s hs
 obtain ⟨l1, rfl, _, h1⟩ := cxOk_inv ((lsOk_mem h).2 c hc)
 obtain ⟨k, l2, rfl, _, h2⟩ := cpOk_inv (h1 x hx)
 exact h2 s hs
theorem sm_fuel {ns : List Nd} {nm : Nam} {m : Nat} : ∀ (k : Nat) (d : D), smOk m k d = true → ∀ (j : Nat), k ≤ j → ∀ n, simpleV ns nm j d n = simpleV ns nm k d n
 | 0, d, h, _, _, _ => by simp [smOk] at h
 | k + 1, d, h, 0, hj, _ => absurd hj (by omega)
 | k + 1, d, h, j + 1, hj, n => by
  obtain ⟨_, _, _, _, hl⟩ := smOk_inv h
  have hL : listV (simpleV ns nm j) ns (sf d).of_ = listV (simpleV ns nm k) ns (sf d).of_ := funext fun n => listV_eq (fun c hc x hx s hs n => sm_fuel k s (lsOk_s hl c hc x hx s hs) j (by omega) n) n
  simp only [simpleV, hL]
theorem smOk_up {m : Nat} : ∀ (k : Nat) (d : D), smOk m k d = true → ∀ j, k ≤ j → smOk m j d = true
 | 0, d, h, _, _ => by simp [smOk] at h
 | k + 1, d, h, 0, hj => absurd hj (by omega)
 | k + 1, d, h, j + 1, hj => by
  obtain ⟨e, h1, h2, h3, h4⟩ := smOk_inv h
  rw [e]
  show (decide ((sf d).pre.length ≤ m) && decide ((sf d).nm.length ≤ m) && decide ((sf d).tx.length ≤ m) && lsOk m (smOk m j) (sf d).of_) = true
  simp only [Bool.and_eq_true, decide_eq_true_eq]
  refine ⟨⟨⟨h1, h2⟩, h3⟩, ?_⟩
  obtain ⟨g1, g2⟩ := lsOk_mem h4
  simp only [lsOk, lenB, Bool.and_eq_true, decide_eq_true_eq, List.all_eq_true]
  refine ⟨g1, fun c hc => ?_⟩
  obtain ⟨l1, rfl, f1, f2⟩ := cxOk_inv (g2 c hc)
  simp only [cxD, cxOk, lenB, Bool.and_eq_true, decide_eq_true_eq, List.all_eq_true]
  refine ⟨f1, fun x hx => ?_⟩
  obtain ⟨y, l2, rfl, f3, f4⟩ := cpOk_inv (f2 x hx)
  simp only [cpD, cpOk, lenB, Bool.and_eq_true, decide_eq_true_eq, List.all_eq_true]
  exact ⟨f3, fun s hs => smOk_up k s (f4 s hs) j (by omega)⟩
def sV (ns : List Nd) (nm : Nam) : D → Int → Bool := simpleV ns nm 50
def stepV (ns : List Nd) (nm : Nam) (L : List D → Int → Bool) (d : D) (n : Int) : Bool :=
 let s := sf d
 let x := nodeI ns n
 if s.kd = 1 then x.nm == s.nm && inPlF nm s.ns s.pre x.sp false
 else if s.kd = 2 then inPlF nm s.ns s.pre x.sp false
 else if s.kd = 3 then plainV ns n sClass 3 s.nm
 else if s.kd = 4 then plainV ns n sId 2 s.nm
 else if s.kd = 5 then x.at_.any fun a => a.nm == s.nm && (inPlF nm s.ns s.pre a.sp true && holdsF s.op s.tx s.fold a.vl)
 else if s.kd = 6 then !(parI ns n).2
 else if s.kd = 7 then nthV (fun j => s.of_.isEmpty || L s.of_ j) ns s.a s.b n
 else if s.kd = 8 ∨ s.kd = 9 then L s.of_ n
 else if s.kd = 10 then !L s.of_ n
 else if s.kd = 11 then staI ns n s.nm
 else if s.kd = 12 then (x.nm == [97] || x.nm == sArea) && (inPlF nm 0 [] x.sp false && plainV ns n sHref 1 [])
 else s.kd == 13
theorem sV_step {ns : List Nd} {nm : Nam} {m k : Nat} {d : D} (h : smOk m (k + 1) d = true) (hk : k + 1 ≤ 50) (n : Int) : sV ns nm d n = stepV ns nm (listV (sV ns nm) ns) d n := by
 have h1 : sV ns nm d n = simpleV ns nm (k + 1) d n := sm_fuel (k + 1) d h 50 hk n
 rw [h1]
 obtain ⟨_, _, _, _, hl⟩ := smOk_inv h
 have hL : listV (simpleV ns nm k) ns (sf d).of_ = listV (sV ns nm) ns (sf d).of_ := funext fun n => listV_eq (fun c hc x hx s hs n => (sm_fuel k s (lsOk_s hl c hc x hx s hs) 50 (by omega) n).symm) n
 simp only [simpleV, stepV, hL]
end Go.Av
namespace Go.Proofs.YtcogfddcdpgpkaaGreatDoor
open Go.Proofs Go.RowKit Go.Shelf Go.Av
attribute [local go_sem] Oper.semAt_some
def parV (x : Int × Bool) : Value := .tuple #[.int .i64 x.1, .bool x.2]
theorem above_in (F : Fence) (n : Nat) (h17 : F.fn 81) (hro : F.round = none) (vs : Array Value) (k : Int) (w : World) (hvs : vs.size = 5) (hone : ∀ v ∈ vs, v.oneCell' = true) :
  CallsIn F n Tryz.prog 81 #[.agg vs, .int .i64 k] w fun e w' => e = .returned (.func (.func 112) #[] #[.pointer (some ⟨w.heap.size, 0, none⟩), .pointer (some ⟨w.heap.size + 1, 0, none⟩)]) ∧ w' = (w.alloc (.cells vs 92)).alloc (.cells #[.int .i64 k] 3) := by
 refine callsIn_of_wp Tryz.func81 rfl h17 ?_ hro
 simp only [Tryz.ntmps81, List.size_toArray, List.length_cons, List.length_nil, Nat.reduceAdd, Nat.reduceSub, Array.replicate_succ, Array.replicate_zero, List.push_toArray, List.append_toArray, List.nil_append, List.cons_append]
 gi_wp2
 go_ret
 exact ⟨rfl, rfl⟩
def bOf : Value → Nat → Nat
 | .bool true, n => n + 1
 | _, _ => 0
theorem upto_get {α : Type} {U : List α} {k : Nat} {x : α} {r : List α} (h : U.drop k = x :: r) : ∃ hk : k < U.length, U.get ⟨k, hk⟩ = x ∧ U.drop (k + 1) = r := by
 have hk : k < U.length := by
  rcases Nat.lt_or_ge k U.length with h1 | h1
  ·exact h1
  ·rw [List.drop_eq_nil_of_le h1] at h; cases h
 rw [List.drop_eq_getElem_cons hk] at h
 injection h with h1 h2
 exact ⟨hk, h1, h2⟩
theorem ups_zero {ns : List Nd} {m : Int} {f : Nat} (h : (parI ns m).2 = true) : upsI ns (f + 1) m = (parI ns m).1 :: upsI ns f (parI ns m).1 := by
 rw [upsI, if_pos h]
theorem ups_no {ns : List Nd} {m : Int} {f : Nat} (h : (parI ns m).2 = false) : upsI ns (f + 1) m = [] := by
 rw [upsI, if_neg (by rw [h]; decide)]
set_option maxRecDepth 100000 in
set_option maxHeartbeats 4000000 in
theorem above1_in (n : Nat) (hn : 1 ≤ n) (l Be Bn n₀ : Nat) (ns : List Nd) (hR : RightT ns) (k0 : Int) (hk0 : elB ns k0 = true) (U : List Int) (hU : U = upsI ns (k0.toNat + 1) k0) (p : Value) (J Jx : List (Fin U.length) → World → Prop)
  (W : World) (hpar : ∀ (m : Int) (W' : World), Below n₀ W W' → Calls Tryz.prog 66 #[p, .int .i64 m] W' fun e w' => e = .returned (parV (parI ns m)) ∧ Below W'.heap.size W' w')
  (hJ : AbidesFrom W.heap.size J) (hJb : ∀ pre X Y, J pre X → W.heap.size ≤ X.heap.size → Below X.heap.size X Y → J pre Y)
  (hY : ∀ pre x W, J pre W → pre.length < U.length → YieldAt Fence.wide (n - 1) Tryz.prog l #[.int .i64 (U.get x)] W fun e W' =>
   (e = .returned (.bool true) ∧ J (pre ++ [x]) W' ∧ Below n₀ W W') ∨ (e = .returned (.bool false) ∧ Jx (pre ++ [x]) W'))
  (hn₀ : n₀ ≤ W.heap.size) (hBe : Be < n₀) (hBn : Bn < n₀)
  (hce : W.cell? ⟨Be, 0, none⟩ = some p) (hcn : W.cell? ⟨Bn, 0, none⟩ = some (.int .i64 k0)) (hp1 : p.oneCell' = true) (h0 : J [] W) :
  CallsIn Fence.wide n Tryz.prog 112 #[.func (.yield l) #[] #[], .pointer (some ⟨Be, 0, none⟩), .pointer (some ⟨Bn, 0, none⟩)] W fun e W' => (∃ v, e = .returned v) ∧
   ((∃ ys, ys = List.finRange U.length ∧ J ys W') ∨ (∃ pre, (∃ k, k ≤ U.length ∧ pre = upto U.length k) ∧ Jx pre W')) := by
 refine callsIn_of_wp Tryz.func112 rfl trivial ?_ rfl
 simp only [Tryz.ntmps112, List.size_toArray, List.length_cons, List.length_nil, Nat.reduceAdd, Nat.reduceSub, Array.replicate_succ, Array.replicate_zero, List.push_toArray, List.append_toArray, List.nil_append, List.cons_append]
 have hp0 := hpar k0 W (Below.refl _ _)
 unfold parV at hp0
 gi_wp2_with (refine ⟨trivial, ?_⟩; gi_at_call 66; refine (callsIn_wide.2 hp0).mono ?_; rintro e w' ⟨rfl, hb0⟩)
 have hb0' : Below n₀ W w' := hb0.mono hn₀
 have hJ0 : J [] w' := hJb _ _ _ h0 (Nat.le_refl _) hb0
 have hs0 := hb0.size
 gi_loopw [4, 5] (fun a b wr => ∃ (k : Nat) (m : Int) (f : Nat), k ≤ U.length ∧ U.drop k = upsI ns (f + 1) m ∧ m.toNat ≤ f ∧ elB ns m = true ∧ a = .int .i64 (parI ns m).1 ∧ b = .bool (parI ns m).2 ∧ J (upto U.length k) wr ∧ Below n₀ W wr ∧ W.heap.size ≤ wr.heap.size)
  (fun a b _ => bOf b (intOf a).toNat)
 case atStart => exact ⟨0, k0, k0.toNat, Nat.zero_le _, by rw [List.drop_zero]; exact hU, Nat.le_refl _, hk0, rfl, rfl, hJ0, hb0', hs0⟩
 case round =>
  obtain ⟨k, m, f, hk, hd, hf, hm, rfl, rfl, hJk, hbk, hsk⟩ := hrel
  cases hq : (parI ns m).2 with
  | false =>
   rw [ups_no hq] at hd
   have hkl : k = U.length := by
    have := congrArg List.length hd
    simp at this
    omega
   subst hkl
   rw [upto_all] at hJk
   gi_wp2
   go_end0
   exact ⟨⟨_, rfl⟩, .inl ⟨_, rfl, hJk⟩⟩
  | true =>
   rw [ups_zero hq] at hd
   obtain ⟨hlt, hx, hd'⟩ := upto_get hd
   obtain ⟨h3, h4⟩ := hR.par m hm hq
   obtain ⟨g0, g1, _⟩ := elB_nat hm
   obtain ⟨e0, e1, _⟩ := elB_nat h3
   obtain ⟨f', rfl⟩ : ∃ f', f = f' + 1 := ⟨f - 1, by omega⟩
   obtain ⟨fn, tmps, assign, body, hy, hRr⟩ := hY (upto U.length k) ⟨k, hlt⟩ wr hJk (by rw [upto_length hk]; exact hlt)
   rw [hx] at hy
   gi_wp2
   refine hRr.mono ?_
   rintro e W3 (⟨rfl, hJ3, hb3⟩ | ⟨rfl, hJx3⟩)
   ·have hp3 := hpar (parI ns m).1 W3 (hbk.trans hb3)
    unfold parV at hp3
    have hs3 : W.heap.size ≤ W3.heap.size := Nat.le_trans hsk hb3.size
    have hce3 : W3.cell? ⟨Be, 0, none⟩ = some p := ((hbk.trans hb3).cell (p := ⟨Be, 0, none⟩) hBe).trans hce
    gi_wp2_with (refine ⟨trivial, ?_⟩; gi_at_call 66; refine (callsIn_wide.2 hp3).mono ?_; rintro e w4 ⟨rfl, hb4⟩)
    go_roundw
    case rel => exact ⟨k + 1, (parI ns m).1, f', hlt, hd', by omega, h3, rfl, rfl, by rw [upto_succ hlt]; exact hJb _ _ _ hJ3 hs3 hb4, (hbk.trans hb3).trans (hb4.mono (Nat.le_trans hn₀ hs3)), Nat.le_trans hs3 hb4.size⟩
    case measure =>
     cases hq' : (parI ns (parI ns m).1).2 with
     | false => simp [bOf]
     | true =>
      obtain ⟨h5, h6⟩ := hR.par _ h3 hq'
      have := (elB_nat h5).1
      simp [bOf, intOf]
      omega
   ·gi_wp2
    refine bodyPost_ret (results_none rfl _ _ _) rfl ?_
    exact ⟨⟨_, rfl⟩, .inr ⟨_, ⟨k + 1, by omega, (upto_succ hlt).symm⟩, hJx3⟩⟩
theorem above_stops (n : Nat) (hn : 1 ≤ n) (Be Bn n₀ : Nat) (ns : List Nd) (hR : RightT ns) (k0 : Int) (hk0 : elB ns k0 = true) (U : List Int) (hU : U = upsI ns (k0.toNat + 1) k0) (p : Value)
  (w : World) (hpar : ∀ (m : Int) (W' : World), Below n₀ w W' → Calls Tryz.prog 66 #[p, .int .i64 m] W' fun e w' => e = .returned (parV (parI ns m)) ∧ Below W'.heap.size W' w')
  (hn₀ : n₀ ≤ w.heap.size) (hBe : Be < n₀) (hBn : Bn < n₀)
  (hce : w.cell? ⟨Be, 0, none⟩ = some p) (hcn : w.cell? ⟨Bn, 0, none⟩ = some (.int .i64 k0)) (hp1 : p.oneCell' = true) :
  SeqStopsK Fence.wide n Tryz.prog 112 #[.pointer (some ⟨Be, 0, none⟩), .pointer (some ⟨Bn, 0, none⟩)] (fun x : Fin U.length => #[.int .i64 (U.get x)]) (Below n₀) (fun ys => ys = List.finRange U.length) (fun pre => ∃ k, k ≤ U.length ∧ pre = upto U.length k) U.length w := fun l J Jx W hW hJ _ hY h0 =>
 above1_in n hn l Be Bn n₀ ns hR k0 hk0 U hU p J Jx W (fun m W' hb => hpar m W' ((hW.mono hn₀).trans hb)) hJ (fun pre X Y hX hs hb => hJ _ X Y none hX ⟨hb.os, hb.tape, hb.output, hb.size, fun k hk _ => hb.block k hk⟩ (fun r e => by cases e)) hY (Nat.le_trans hn₀ hW.size) hBe hBn
  ((hW.cell (p := ⟨Be, 0, none⟩) (Nat.lt_of_lt_of_le hBe hn₀)).trans hce) ((hW.cell (p := ⟨Bn, 0, none⟩) (Nat.lt_of_lt_of_le hBn hn₀)).trans hcn) hp1 h0
end Go.Proofs.YtcogfddcdpgpkaaGreatDoor
namespace Go.Proofs.YtcogfddcdpgpkaaGreatDoor
open Go.Proofs Go.RowKit Go.Shelf
attribute [local go_sem] Oper.semAt_some
noncomputable def ops3 : Array Oper := (Tryz.f45.body.bind (findR 3)).getD #[]
noncomputable def deps3 (i : Nat) : List Nat := ((ops3[i]?).map fun o => (o.after.toList.filter fun e => Region.binds .any e).map (·.on)).getD []
theorem deps3_of {listed : Array Bool} {i : Nat} (h : i ∈ Region.ready .any ops3 listed) {d : Nat} (hd : (deps3 i).contains d = true) : listed.getD d false = true := by
 have hlt := ready_lt h
 have h2 := (ready_at (o := ops3[i]) h (Array.getElem?_eq_getElem hlt)).2
 rw [List.contains_iff_mem] at hd
 unfold deps3 at hd
 rw [Array.getElem?_eq_getElem hlt] at hd
 simp only [Option.map_some, Option.getD_some, List.mem_map, List.mem_filter] at hd
 obtain ⟨e, ⟨he, hb⟩, rfl⟩ := hd
 have := (Array.all_eq_true_iff_forall_mem.1 h2) e (by simpa using he)
 simpa [hb] using this
def V3 (b o N c : Nat) (cc : Int) (sa : Option Addr) (sn sc : Nat) : Nat → Value
 | 18 => .slice (some ⟨b, o, none⟩) (N + 1) c | 19 => .slice (some ⟨b, o, none⟩) (N + 1) c | 20 => .int .i64 ((N : Int) + 1) | 21 => .int .i64 N
 | 22 => .pointer (some ⟨b, o + N * 2, none⟩) | 23 => .agg #[.int .i64 cc, .slice sa sn sc]
 | 24 => .slice (some ⟨b, o, none⟩) (N + 1) c | 25 => .slice (some ⟨b, o, none⟩) (N + 1) c | 26 => .int .i64 ((N : Int) + 1) | 27 => .int .i64 N
 | 28 => .slice (some ⟨b, o, none⟩) N c
 | _ => undef
structure I3 (b o N c : Nat) (cc : Int) (sa : Option Addr) (sn sc : Nat) (A0 : Act) (W1 : World) (listed : Array Bool) (a : Act) (w : World) : Prop where
 sz : listed.size = 15
 tz : a.tmps.size = 94
 df : a.defers = A0.defers
 val : ∀ i, i < 11 → listed.getD i false = true → a.tmps.getD (18 + i) undef = V3 b o N c cc sa sn sc (18 + i)
 oth : ∀ d, (d < 18 ∨ 28 < d) → d ≠ 7 → d ≠ 8 → a.tmps.getD d undef = A0.tmps.getD d undef
 cl : ∀ i d, (deps3 i).contains d = true → listed.getD i false = true → listed.getD d false = true
 b7 : listed.getD 11 false = true → ∃ B, W1.heap.size ≤ B ∧ a.tmps.getD 7 undef = .pointer (some ⟨B, 0, none⟩) ∧ BoxR w B 45 (if listed.getD 13 false = true then #[.int .i64 cc, .slice sa sn sc] else #[.int .i64 0, .slice none 0 0])
 b8 : listed.getD 12 false = true → ∃ B, W1.heap.size ≤ B ∧ a.tmps.getD 8 undef = .pointer (some ⟨B, 0, none⟩) ∧ BoxR w B 46 (if listed.getD 14 false = true then #[.slice (some ⟨b, o, none⟩) N c] else #[.slice none 0 0])
 ko : KeepsOthers W1 w
 be : Below W1.heap.size W1 w
section
variable {b o N c : Nat} {cc : Int} {sa : Option Addr} {sn sc : Nat} {A0 : Act} {W1 : World} {listed : Array Bool} {a : Act} {w : World}
theorem set_ne {listed : Array Bool} {i j : Nat} (h : i < listed.size) (hj : j ≠ i) : (listed.setIfInBounds i true).getD j false = listed.getD j false := by rw [set_get h, if_neg hj]
theorem set_eq {listed : Array Bool} {i : Nat} (h : i < listed.size) : (listed.setIfInBounds i true).getD i false = true := by rw [set_get h, if_pos rfl]
theorem put_get {d k : Nat} {v : Value} (hk : k ≠ d) : (a.put (some d) v).tmps.getD k undef = a.tmps.getD k undef := by
 show (a.tmps.setIfInBounds d v).getD k undef = _
 simp only [Array.getD_eq_getD_getElem?, Array.getElem?_setIfInBounds_ne (fun e => hk e.symm)]
theorem put_at {d : Nat} {v : Value} (h : d < a.tmps.size) : (a.put (some d) v).tmps.getD d undef = v := by
 show (a.tmps.setIfInBounds d v).getD d undef = v
 simp [Array.getD, h]
theorem put_sz {d : Option Nat} {v : Value} : (a.put d v).tmps.size = a.tmps.size := by
 cases d <;> simp [Act.put]
theorem I3.put (h : I3 b o N c cc sa sn sc A0 W1 listed a w) {i : Nat} (hi : i < 11) (hr : i ∈ Region.ready .any ops3 listed) :
  I3 b o N c cc sa sn sc A0 W1 (listed.setIfInBounds i true) (a.put (some (18 + i)) (V3 b o N c cc sa sn sc (18 + i))) w := by
 have hs : i < listed.size := by rw [h.sz]; omega
 refine ⟨by simp [h.sz], by rw [put_sz]; exact h.tz, h.df, fun j hj hl => ?_, fun d hd h7 h8 => (put_get (by omega)).trans (h.oth d hd h7 h8), fun j e he hl => ?_, fun hl => ?_, fun hl => ?_, h.ko, h.be⟩
 ·rw [set_get hs] at hl
  by_cases hji : j = i
  ·subst hji
   exact put_at (by rw [h.tz]; omega)
  ·rw [if_neg hji] at hl
   exact (put_get (by omega)).trans (h.val j hj hl)
 ·rw [set_get hs] at hl ⊢
  by_cases hji : j = i
  ·subst hji
   have := deps3_of hr he
   split
   ·rfl
   ·exact this
  ·rw [if_neg hji] at hl
   split
   ·rfl
   ·exact h.cl j e he hl
 ·rw [set_ne hs (by omega)] at hl
  rw [set_ne hs (by omega)]
  obtain ⟨B, h1, h2, h3⟩ := h.b7 hl
  exact ⟨B, h1, (put_get (by omega)).trans h2, h3⟩
 ·rw [set_ne hs (by omega)] at hl
  rw [set_ne hs (by omega)]
  obtain ⟨B, h1, h2, h3⟩ := h.b8 hl
  exact ⟨B, h1, (put_get (by omega)).trans h2, h3⟩
theorem I3.closed (h : I3 b o N c cc sa sn sc A0 W1 listed a w) {i : Nat} (hi : i < 15) (hr : i ∈ Region.ready .any ops3 listed) : ∀ j e, (deps3 j).contains e = true → (listed.setIfInBounds i true).getD j false = true → (listed.setIfInBounds i true).getD e false = true := by
 intro j e he hl
 have hs : i < listed.size := by rw [h.sz]; omega
 rw [set_get hs] at hl ⊢
 by_cases hji : j = i
 ·subst hji
  have := deps3_of hr he
  split
  ·rfl
  ·exact this
 ·rw [if_neg hji] at hl
  split
  ·rfl
  ·exact h.cl j e he hl
theorem I3.not_yet (h : I3 b o N c cc sa sn sc A0 W1 listed a w) {i d : Nat} (hr : i ∈ Region.ready .any ops3 listed) (hd : (deps3 d).contains i = true) : listed.getD d false = false := by
 have hlt := ready_lt hr
 have h1 := (ready_at (o := ops3[i]) hr (Array.getElem?_eq_getElem hlt)).1
 cases hl : listed.getD d false with
 | false => rfl
 | true =>
  have h2 := h.cl d i hd hl
  have hi : i < listed.size := by rw [h.sz]; exact hlt
  simp [Array.getD, hi] at h1 h2
  rw [h1] at h2
  cases h2
theorem I3.alloc7 (h : I3 b o N c cc sa sn sc A0 W1 listed a w) (hr : 11 ∈ Region.ready .any ops3 listed) :
  I3 b o N c cc sa sn sc A0 W1 (listed.setIfInBounds 11 true) (a.put (some 7) (.pointer (some ⟨w.heap.size, 0, none⟩))) (w.alloc (.cells #[.int .i64 0, .slice none 0 0] 45)) := by
 have hs : 11 < listed.size := by rw [h.sz]; omega
 have h13 : listed.getD 13 false = false := h.not_yet hr (by kernel_rfl)
 refine ⟨by simp [h.sz], by rw [put_sz]; exact h.tz, h.df, fun j hj hl => ?_, fun d hd h7 h8 => (put_get (by omega)).trans (h.oth d hd h7 h8), h.closed (by decide) hr, fun hl => ?_, fun hl => ?_, h.ko.trans (KeepsOthers.alloc _ _), h.be.alloc h.be.size _⟩
 ·rw [set_ne hs (by omega)] at hl
  exact (put_get (by omega)).trans (h.val j hj hl)
 ·refine ⟨w.heap.size, h.be.size, put_at (by rw [h.tz]; decide), ?_⟩
  rw [set_ne hs (by decide), h13]
  exact BoxR.new w 45 _
 ·rw [set_ne hs (by decide)] at hl
  rw [set_ne hs (by decide)]
  obtain ⟨B, h1, h2, h3⟩ := h.b8 hl
  exact ⟨B, h1, (put_get (by omega)).trans h2, h3.alloc _⟩
theorem I3.alloc8 (h : I3 b o N c cc sa sn sc A0 W1 listed a w) (hr : 12 ∈ Region.ready .any ops3 listed) :
  I3 b o N c cc sa sn sc A0 W1 (listed.setIfInBounds 12 true) (a.put (some 8) (.pointer (some ⟨w.heap.size, 0, none⟩))) (w.alloc (.cells #[.slice none 0 0] 46)) := by
 have hs : 12 < listed.size := by rw [h.sz]; omega
 have h14 : listed.getD 14 false = false := h.not_yet hr (by kernel_rfl)
 refine ⟨by simp [h.sz], by rw [put_sz]; exact h.tz, h.df, fun j hj hl => ?_, fun d hd h7 h8 => (put_get (by omega)).trans (h.oth d hd h7 h8), h.closed (by decide) hr, fun hl => ?_, fun hl => ?_, h.ko.trans (KeepsOthers.alloc _ _), h.be.alloc h.be.size _⟩
 ·rw [set_ne hs (by omega)] at hl
  exact (put_get (by omega)).trans (h.val j hj hl)
 ·rw [set_ne hs (by decide)] at hl
  rw [set_ne hs (by decide)]
  obtain ⟨B, h1, h2, h3⟩ := h.b7 hl
  exact ⟨B, h1, (put_get (by omega)).trans h2, h3.alloc _⟩
 ·refine ⟨w.heap.size, h.be.size, put_at (by rw [h.tz]; decide), ?_⟩
  rw [set_ne hs (by decide), h14]
  exact BoxR.new w 46 _
theorem box_ne {B B' : Nat} {C C' : Array Value} (h : BoxR w B 45 C) (h' : BoxR w B' 46 C') : B ≠ B' := by
 rintro rfl
 unfold BoxR at h h'
 rw [h] at h'
 simp at h'
theorem I3.store7 (h : I3 b o N c cc sa sn sc A0 W1 listed a w) (hr : 13 ∈ Region.ready .any ops3 listed) {B : Nat} (hB : W1.heap.size ≤ B) (hp : a.tmps.getD 7 undef = .pointer (some ⟨B, 0, none⟩)) (hx : BoxR w B 45 #[.int .i64 0, .slice none 0 0]) :
  I3 b o N c cc sa sn sc A0 W1 (listed.setIfInBounds 13 true) a ((w.setCell ⟨B, 0, none⟩ (.int .i64 cc)).setCell ⟨B, 1, none⟩ (.slice sa sn sc)) := by
 have hs : 13 < listed.size := by rw [h.sz]; omega
 refine ⟨by simp [h.sz], h.tz, h.df, fun j hj hl => ?_, h.oth, h.closed (by decide) hr, fun hl => ?_, fun hl => ?_, (h.ko.trans (KeepsOthers.setCell _ _ _)).trans (KeepsOthers.setCell _ _ _), (h.be.setCell (p := ⟨B, 0, none⟩) hB _).setCell (p := ⟨B, 1, none⟩) hB _⟩
 ·rw [set_ne hs (by omega)] at hl
  exact h.val j hj hl
 ·refine ⟨B, hB, hp, ?_⟩
  rw [set_eq hs]
  exact (hx.set 0 (.int .i64 cc)).set 1 (.slice sa sn sc)
 ·rw [set_ne hs (by decide)] at hl
  rw [set_ne hs (by decide)]
  obtain ⟨B', h1, h2, h3⟩ := h.b8 hl
  exact ⟨B', h1, h2, (h3.other (box_ne hx h3) _ _).other (box_ne hx h3) _ _⟩
theorem I3.store8 (h : I3 b o N c cc sa sn sc A0 W1 listed a w) (hr : 14 ∈ Region.ready .any ops3 listed) {B : Nat} (hB : W1.heap.size ≤ B) (hp : a.tmps.getD 8 undef = .pointer (some ⟨B, 0, none⟩)) (hx : BoxR w B 46 #[.slice none 0 0]) :
  I3 b o N c cc sa sn sc A0 W1 (listed.setIfInBounds 14 true) a (w.setCell ⟨B, 0, none⟩ (.slice (some ⟨b, o, none⟩) N c)) := by
 have hs : 14 < listed.size := by rw [h.sz]; omega
 refine ⟨by simp [h.sz], h.tz, h.df, fun j hj hl => ?_, h.oth, h.closed (by decide) hr, fun hl => ?_, fun hl => ?_, h.ko.trans (KeepsOthers.setCell _ _ _), h.be.setCell (p := ⟨B, 0, none⟩) hB _⟩
 ·rw [set_ne hs (by omega)] at hl
  exact h.val j hj hl
 ·rw [set_ne hs (by decide)] at hl
  rw [set_ne hs (by decide)]
  obtain ⟨B', h1, h2, h3⟩ := h.b7 hl
  exact ⟨B', h1, h2, h3.other (Ne.symm (box_ne h3 hx)) _ _⟩
 ·refine ⟨B, hB, hp, ?_⟩
  rw [set_eq hs]
  exact hx.set 0 (.slice (some ⟨b, o, none⟩) N c)
theorem op3 {n i : Nat} {oo : Oper} {v : Value} {w' : World} {Q : Exit → Act → World → Prop} {K : Act → World → Prop} (ho : ops3[i]? = some oo) (hg : oo.guard = none) (hnd : ∀ c, oo.op ≠ .defer c)
  (hrun : (execOp a.eval oo).run Tryz.prog w = .ok (.value v) w') (hK : K (a.put oo.dst v) w') : wpOpIn Fence.wide n Tryz.prog ops3 Q i K a w := by
 unfold wpOpIn
 rw [ho]
 have hw : Region.wanted oo (yielded ops3 a.tmps) = true := by simp [Region.wanted, hg]
 simp only [hw, if_true]
 refine ⟨fun f _ => trivial, ?_⟩
 rw [Oper.semAt_eq _ _ _ hnd, hrun]
 exact hK
theorem op3s {n i : Nat} {oo : Oper} {w' : World} {Q : Exit → Act → World → Prop} {K : Act → World → Prop} (ho : ops3[i]? = some oo) (hdst : oo.dst = none) (hg : oo.guard = none) (hnd : ∀ c, oo.op ≠ .defer c)
  (hrun : (execOp a.eval oo).run Tryz.prog w = .ok .skip w') (hK : K a w') : wpOpIn Fence.wide n Tryz.prog ops3 Q i K a w := by
 unfold wpOpIn
 rw [ho]
 have hw : Region.wanted oo (yielded ops3 a.tmps) = true := by simp [Region.wanted, hg]
 simp only [hw, if_true]
 refine ⟨fun f _ => trivial, ?_⟩
 rw [Oper.semAt_eq _ _ _ hnd, hrun, Oper.uponIn_skip, hdst]
 exact hK
theorem ex_mv {oo : Oper} {s : Nat} {v : Value} (ho : oo.op = .move (.tmp s)) (h : a.tmps.getD s undef = v) : (execOp a.eval oo).run Tryz.prog w = .ok (.value v) w := by
 have he : a.tmps[s]?.getD undef = v := by rw [← Array.getD_eq_getD_getElem?]; exact h
 simp [go_sem, execOp, ho, he]
theorem ex_len {oo : Oper} {s : Nat} {A : Option Addr} {m k : Nat} (ho : oo.op = .call { callee := .builtin .len, args := #[.tmp s], argTypes := #[46] }) (h : a.tmps.getD s undef = .slice A m k) : (execOp a.eval oo).run Tryz.prog w = .ok (.value (.int .i64 m)) w := by
 have he : a.tmps[s]?.getD undef = .slice A m k := by rw [← Array.getD_eq_getD_getElem?]; exact h
 simp [go_sem, execOp, ho, he]
theorem ex_sub1 {oo : Oper} {s : Nat} (hN : N ≤ 1000) (ho : oo.op = .binOp .sub 3 (.tmp s) (.const (.int .i64 1)) 3) (h : a.tmps.getD s undef = .int .i64 ((N : Int) + 1)) : (execOp a.eval oo).run Tryz.prog w = .ok (.value (.int .i64 N)) w := by
 have he : a.tmps[s]?.getD undef = .int .i64 ((N : Int) + 1) := by rw [← Array.getD_eq_getD_getElem?]; exact h
 simp [go_sem, execOp, ho, he]
 rw [IntKind.wrap_i64]
 omega
theorem ex_ia {oo : Oper} {s t : Nat} (hN : N ≤ 1000) (ho : oo.op = .indexAddr 46 (.tmp s) (.tmp t)) (h : a.tmps.getD s undef = .slice (some ⟨b, o, none⟩) (N + 1) c) (h' : a.tmps.getD t undef = .int .i64 N) : (execOp a.eval oo).run Tryz.prog w = .ok (.value (.pointer (some ⟨b, o + N * 2, none⟩))) w := by
 have he : a.tmps[s]?.getD undef = .slice (some ⟨b, o, none⟩) (N + 1) c := by rw [← Array.getD_eq_getD_getElem?]; exact h
 have he' : a.tmps[t]?.getD undef = .int .i64 N := by rw [← Array.getD_eq_getD_getElem?]; exact h'
 simp [go_sem, execOp, ho, he, he']
 exact fun h => absurd h (by omega)
theorem ex_ld2 {oo : Oper} {s : Nat} (ho : oo.op = .load 45 (.tmp s)) (h : a.tmps.getD s undef = .pointer (some ⟨b, o + N * 2, none⟩)) (h1 : w.cell? ⟨b, o + N * 2, none⟩ = some (.int .i64 cc)) (h2 : w.cell? ⟨b, o + N * 2 + 1, none⟩ = some (.slice sa sn sc)) : (execOp a.eval oo).run Tryz.prog w = .ok (.value (.agg #[.int .i64 cc, .slice sa sn sc])) w := by
 have he : a.tmps[s]?.getD undef = .pointer (some ⟨b, o + N * 2, none⟩) := by rw [← Array.getD_eq_getD_getElem?]; exact h
 simp [go_sem, execOp, ho, he, h1, h2]
theorem ex_slc {oo : Oper} {s t : Nat} (hN : N ≤ 1000) (hc : N + 1 ≤ c) (ho : oo.op = .slice 46 (.tmp s) none (some (.tmp t)) none) (h : a.tmps.getD s undef = .slice (some ⟨b, o, none⟩) (N + 1) c) (h' : a.tmps.getD t undef = .int .i64 N) : (execOp a.eval oo).run Tryz.prog w = .ok (.value (.slice (some ⟨b, o, none⟩) N c)) w := by
 have he : a.tmps[s]?.getD undef = .slice (some ⟨b, o, none⟩) (N + 1) c := by rw [← Array.getD_eq_getD_getElem?]; exact h
 have he' : a.tmps[t]?.getD undef = .int .i64 N := by rw [← Array.getD_eq_getD_getElem?]; exact h'
 have f1 : (N : Int) ≤ c := by omega
 have f2 : N ≤ c := by omega
 simp [go_sem, execOp, ho, he, he', f1, f2]
theorem ex_al45 {oo : Oper} (ho : oo.op = .alloc 45) : (execOp a.eval oo).run Tryz.prog w = .ok (.value (.pointer (some ⟨w.heap.size, 0, none⟩))) (w.alloc (.cells #[.int .i64 0, .slice none 0 0] 45)) := by
 simp [go_sem, execOp, ho]
theorem ex_al46 {oo : Oper} (ho : oo.op = .alloc 46) : (execOp a.eval oo).run Tryz.prog w = .ok (.value (.pointer (some ⟨w.heap.size, 0, none⟩))) (w.alloc (.cells #[.slice none 0 0] 46)) := by
 simp [go_sem, execOp, ho]
theorem ex_st45 {oo : Oper} {s t B : Nat} (ho : oo.op = .store 45 (.tmp s) (.tmp t)) (h : a.tmps.getD s undef = .pointer (some ⟨B, 0, none⟩)) (h' : a.tmps.getD t undef = .agg #[.int .i64 cc, .slice sa sn sc]) (hx : BoxR w B 45 #[.int .i64 0, .slice none 0 0]) :
  (execOp a.eval oo).run Tryz.prog w = .ok .skip ((w.setCell ⟨B, 0, none⟩ (.int .i64 cc)).setCell ⟨B, 1, none⟩ (.slice sa sn sc)) := by
 have he : a.tmps[s]?.getD undef = .pointer (some ⟨B, 0, none⟩) := by rw [← Array.getD_eq_getD_getElem?]; exact h
 have he' : a.tmps[t]?.getD undef = .agg #[.int .i64 cc, .slice sa sn sc] := by rw [← Array.getD_eq_getD_getElem?]; exact h'
 have c0 : w.cell? ⟨B, 0, none⟩ = some (.int .i64 0) := hx.cell 0
 have c1 : w.cell? ⟨B, 1, none⟩ = some (.slice none 0 0) := hx.cell 1
 have z0 := hx.frozen 0
 have z1 := hx.frozen 1
 simp [go_sem, execOp, ho, he, he', c0, c1, z0, z1]
theorem ex_st46 {oo : Oper} {s t B : Nat} (ho : oo.op = .store 46 (.tmp s) (.tmp t)) (h : a.tmps.getD s undef = .pointer (some ⟨B, 0, none⟩)) (h' : a.tmps.getD t undef = .slice (some ⟨b, o, none⟩) N c) (hx : BoxR w B 46 #[.slice none 0 0]) :
  (execOp a.eval oo).run Tryz.prog w = .ok .skip (w.setCell ⟨B, 0, none⟩ (.slice (some ⟨b, o, none⟩) N c)) := by
 have he : a.tmps[s]?.getD undef = .pointer (some ⟨B, 0, none⟩) := by rw [← Array.getD_eq_getD_getElem?]; exact h
 have he' : a.tmps[t]?.getD undef = .slice (some ⟨b, o, none⟩) N c := by rw [← Array.getD_eq_getD_getElem?]; exact h'
 have c0 : w.cell? ⟨B, 0, none⟩ = some (.slice none 0 0) := hx.cell 0
 have z0 := hx.frozen 0
 simp [go_sem, execOp, ho, he, he', c0, z0]
theorem step3 {n : Nat} {Q : Exit → Act → World → Prop} (h : I3 b o N c cc sa sn sc A0 W1 listed a w) (t1 : A0.tmps.getD 1 undef = .slice (some ⟨b, o, none⟩) (N + 1) c) (hb : b < W1.heap.size) (hN : N ≤ 1000) (hNc : N + 1 ≤ c)
  (d1 : W1.cell? ⟨b, o + N * 2, none⟩ = some (.int .i64 cc)) (d2 : W1.cell? ⟨b, o + N * 2 + 1, none⟩ = some (.slice sa sn sc)) : ∀ i, i < 15 → i ∈ Region.ready .any ops3 listed →
  wpOpIn Fence.wide n Tryz.prog ops3 Q i (fun a' w' => I3 b o N c cc sa sn sc A0 W1 (listed.setIfInBounds i true) a' w') a w
 | 0, hi, hr => op3 (oo := ops3[0]) rfl rfl (fun c hc => by cases hc) (ex_mv (s := 1) rfl ((h.oth 1 (.inl (by decide)) (by decide) (by decide)).trans t1)) (h.put (i := 0) (by decide) hr)
 | 1, hi, hr => op3 (oo := ops3[1]) rfl rfl (fun c hc => by cases hc) (ex_mv (s := 1) rfl ((h.oth 1 (.inl (by decide)) (by decide) (by decide)).trans t1)) (h.put (i := 1) (by decide) hr)
 | 2, hi, hr => op3 (oo := ops3[2]) rfl rfl (fun c hc => by cases hc) (ex_len (s := 19) (m := N + 1) rfl (h.val 1 (by decide) (deps3_of hr (d := 1) (by kernel_rfl)))) (h.put (i := 2) (by decide) hr)
 | 3, hi, hr => op3 (oo := ops3[3]) rfl rfl (fun c hc => by cases hc) (ex_sub1 (s := 20) hN rfl (h.val 2 (by decide) (deps3_of hr (d := 2) (by kernel_rfl)))) (h.put (i := 3) (by decide) hr)
 | 4, hi, hr => op3 (oo := ops3[4]) rfl rfl (fun c hc => by cases hc) (ex_ia (s := 18) (t := 21) (c := c) hN rfl (h.val 0 (by decide) (deps3_of hr (d := 0) (by kernel_rfl))) (h.val 3 (by decide) (deps3_of hr (d := 3) (by kernel_rfl)))) (h.put (i := 4) (by decide) hr)
 | 5, hi, hr => op3 (oo := ops3[5]) rfl rfl (fun c hc => by cases hc) (ex_ld2 (s := 22) rfl (h.val 4 (by decide) (deps3_of hr (d := 4) (by kernel_rfl))) ((h.be.cell (p := ⟨b, o + N * 2, none⟩) hb).trans d1) ((h.be.cell (p := ⟨b, o + N * 2 + 1, none⟩) hb).trans d2)) (h.put (i := 5) (by decide) hr)
 | 6, hi, hr => op3 (oo := ops3[6]) rfl rfl (fun c hc => by cases hc) (ex_mv (s := 1) rfl ((h.oth 1 (.inl (by decide)) (by decide) (by decide)).trans t1)) (h.put (i := 6) (by decide) hr)
 | 7, hi, hr => op3 (oo := ops3[7]) rfl rfl (fun c hc => by cases hc) (ex_mv (s := 1) rfl ((h.oth 1 (.inl (by decide)) (by decide) (by decide)).trans t1)) (h.put (i := 7) (by decide) hr)
 | 8, hi, hr => op3 (oo := ops3[8]) rfl rfl (fun c hc => by cases hc) (ex_len (s := 25) (m := N + 1) rfl (h.val 7 (by decide) (deps3_of hr (d := 7) (by kernel_rfl)))) (h.put (i := 8) (by decide) hr)
 | 9, hi, hr => op3 (oo := ops3[9]) rfl rfl (fun c hc => by cases hc) (ex_sub1 (s := 26) hN rfl (h.val 8 (by decide) (deps3_of hr (d := 8) (by kernel_rfl)))) (h.put (i := 9) (by decide) hr)
 | 10, hi, hr => op3 (oo := ops3[10]) rfl rfl (fun c hc => by cases hc) (ex_slc (s := 24) (t := 27) hN hNc rfl (h.val 6 (by decide) (deps3_of hr (d := 6) (by kernel_rfl))) (h.val 9 (by decide) (deps3_of hr (d := 9) (by kernel_rfl)))) (h.put (i := 10) (by decide) hr)
 | 11, hi, hr => op3 (oo := ops3[11]) rfl rfl (fun c hc => by cases hc) (ex_al45 rfl) (h.alloc7 hr)
 | 12, hi, hr => op3 (oo := ops3[12]) rfl rfl (fun c hc => by cases hc) (ex_al46 rfl) (h.alloc8 hr)
 | 13, hi, hr => by
  obtain ⟨B, h1, h2, h3⟩ := h.b7 (deps3_of hr (d := 11) (by kernel_rfl))
  have hl : listed.getD 13 false = false := by
   have hlt := ready_lt hr
   have h1 := (ready_at (o := ops3[13]) hr (Array.getElem?_eq_getElem hlt)).1
   have hi : 13 < listed.size := by rw [h.sz]; decide
   simpa [Array.getD, hi] using h1
  rw [hl] at h3
  exact op3s (oo := ops3[13]) rfl rfl rfl (fun c hc => by cases hc) (ex_st45 (s := 7) (t := 23) rfl h2 (h.val 5 (by decide) (deps3_of hr (d := 5) (by kernel_rfl))) h3) (h.store7 hr h1 h2 h3)
 | 14, hi, hr => by
  obtain ⟨B, h1, h2, h3⟩ := h.b8 (deps3_of hr (d := 12) (by kernel_rfl))
  have hl : listed.getD 14 false = false := by
   have hlt := ready_lt hr
   have h1 := (ready_at (o := ops3[14]) hr (Array.getElem?_eq_getElem hlt)).1
   have hi : 14 < listed.size := by rw [h.sz]; decide
   simpa [Array.getD, hi] using h1
  rw [hl] at h3
  exact op3s (oo := ops3[14]) rfl rfl rfl (fun c hc => by cases hc) (ex_st46 (s := 8) (t := 28) rfl h2 (h.val 10 (by decide) (deps3_of hr (d := 10) (by kernel_rfl))) h3) (h.store8 hr h1 h2 h3)
 | i + 15, hi, _ => by omega
theorem deps3_lt : ((List.range 15).all fun i => (deps3 i).all fun d => decide (d < i)) = true := by kernel_rfl
theorem all_listed3 {listed : Array Bool} (hs : listed.size = 15) (hr : Region.ready .any ops3 listed = []) : ∀ i, i < 15 → listed.getD i false = true := by
 intro i
 induction i using Nat.strongRecOn with
 | ind i ih =>
  intro hi
  cases hl : listed.getD i false with
  | true => rfl
  | false =>
   exfalso
   have hlt : i < ops3.size := hi
   have hm : i ∈ Region.ready .any ops3 listed := by
    unfold Region.ready
    rw [List.mem_filter]
    refine ⟨by simpa using hlt, ?_⟩
    have h1 : listed.getD i true = false := by
     have hi' : i < listed.size := by omega
     simp [Array.getD, hi'] at hl ⊢
     exact hl
    rw [h1, Array.getElem?_eq_getElem hlt]
    simp only [Bool.not_false, Option.map_some, Option.getD_some, Bool.true_and]
    rw [Array.all_eq_true_iff_forall_mem]
    intro e he
    cases hb : Region.binds .any e with
    | false => rfl
    | true =>
     have hd : e.on ∈ deps3 i := by
      unfold deps3
      rw [Array.getElem?_eq_getElem hlt]
      simp only [Option.map_some, Option.getD_some, List.mem_map, List.mem_filter]
      exact ⟨e, ⟨by simpa using he, hb⟩, rfl⟩
     have h2 := List.all_eq_true.1 (List.all_eq_true.1 deps3_lt i (by simpa using hi)) _ hd
     have h3 := of_decide_eq_true h2
     rw [ih _ h3 (by omega)]
     rfl
   rw [hr] at hm
   cases hm
theorem getD_set {A : Array Value} {i j : Nat} {v : Value} (h : j < A.size) : (A.setIfInBounds j v).getD i undef = if i = j then v else A.getD i undef := by
 by_cases hj : i = j
 ·subst hj; simp [Array.getD, h]
 ·rw [if_neg hj]
  simp only [Array.getD_eq_getD_getElem?, Array.getElem?_setIfInBounds_ne (fun e => hj e.symm)]
theorem arr_ext {A B : Array Value} (h : A.size = B.size) (hh : ∀ i, A.getD i undef = B.getD i undef) : A = B := by
 refine Array.ext h fun i h1 h2 => ?_
 have := hh i
 simpa [Array.getD, h1, h2] using this
def act3 (b o N c : Nat) (cc : Int) (sa : Option Addr) (sn sc : Nat) (A : Array Value) (B7 B8 : Nat) : Array Value :=
 ((((((((((((A.setIfInBounds 18 (V3 b o N c cc sa sn sc 18)).setIfInBounds 19 (V3 b o N c cc sa sn sc 19)).setIfInBounds 20 (V3 b o N c cc sa sn sc 20)).setIfInBounds 21 (V3 b o N c cc sa sn sc 21)).setIfInBounds 22 (V3 b o N c cc sa sn sc 22)).setIfInBounds 23 (V3 b o N c cc sa sn sc 23)).setIfInBounds 24 (V3 b o N c cc sa sn sc 24)).setIfInBounds 25 (V3 b o N c cc sa sn sc 25)).setIfInBounds 26 (V3 b o N c cc sa sn sc 26)).setIfInBounds 27 (V3 b o N c cc sa sn sc 27)).setIfInBounds 28 (V3 b o N c cc sa sn sc 28)).setIfInBounds 7 (.pointer (some ⟨B7, 0, none⟩))).setIfInBounds 8 (.pointer (some ⟨B8, 0, none⟩))
theorem act3_eq {A T : Array Value} {B7 B8 : Nat} (hA : A.size = 94) (hT : T.size = 94) (hv : ∀ i, i < 11 → T.getD (18 + i) undef = V3 b o N c cc sa sn sc (18 + i)) (h7 : T.getD 7 undef = .pointer (some ⟨B7, 0, none⟩)) (h8 : T.getD 8 undef = .pointer (some ⟨B8, 0, none⟩))
  (ho : ∀ d, (d < 18 ∨ 28 < d) → d ≠ 7 → d ≠ 8 → T.getD d undef = A.getD d undef) : T = act3 b o N c cc sa sn sc A B7 B8 := by
 refine arr_ext (by simp [act3, hA, hT]) fun i => ?_
 unfold act3
 have z : ∀ (j : Nat) (X : Array Value), X.size = 94 → j < 94 → j < X.size := fun j X h1 h2 => by omega
 simp only [getD_set, Array.size_setIfInBounds, hA, Nat.reduceLT]
 by_cases i7 : i = 7
 ·subst i7; simpa using h7
 by_cases i8 : i = 8
 ·subst i8; simpa using h8
 by_cases hi : i < 18 ∨ 28 < i
 ·rw [ho i hi i7 i8]
  repeat rw [if_neg (by omega)]
 ·have : i = 18 ∨ i = 19 ∨ i = 20 ∨ i = 21 ∨ i = 22 ∨ i = 23 ∨ i = 24 ∨ i = 25 ∨ i = 26 ∨ i = 27 ∨ i = 28 := by omega
  have hvi := hv (i - 18) (by omega)
  rw [show 18 + (i - 18) = i by omega] at hvi
  rcases this with rfl | rfl | rfl | rfl | rfl | rfl | rfl | rfl | rfl | rfl | rfl <;> simpa using hvi
theorem reg3_in {n : Nat} {Q : Exit → Act → World → Prop} {A : Array Value} (hA : A.size = 94) (t1 : A.getD 1 undef = .slice (some ⟨b, o, none⟩) (N + 1) c) (hb : b < W1.heap.size) (hN : N ≤ 1000) (hNc : N + 1 ≤ c)
  (d1 : W1.cell? ⟨b, o + N * 2, none⟩ = some (.int .i64 cc)) (d2 : W1.cell? ⟨b, o + N * 2 + 1, none⟩ = some (.slice sa sn sc))
  (hQ : ∀ B7 B8 w', W1.heap.size ≤ B7 → W1.heap.size ≤ B8 → BoxR w' B7 45 #[.int .i64 cc, .slice sa sn sc] → BoxR w' B8 46 #[.slice (some ⟨b, o, none⟩) N c] → KeepsOthers W1 w' → Below W1.heap.size W1 w' → Q .normal { tmps := act3 b o N c cc sa sn sc A B7 B8, defers := [] } w') :
  (Code.region 3 ops3 true).wpIn Fence.wide n Tryz.prog Q { tmps := A, defers := [] } W1 := by
 refine wpIn_region_any (by kernel_rfl) ?_
 refine any_inv (I3 b o N c cc sa sn sc { tmps := A, defers := [] } W1) (fun _ _ _ h => h.sz.trans rfl) (fun listed a w i h hr => step3 h t1 hb hN hNc d1 d2 i (ready_lt hr) hr) (fun listed a w h hr => ?_) _ _ _ _ ?_ ?_
 ·have hall := all_listed3 h.sz hr
  obtain ⟨B7, g1, g2, g3⟩ := h.b7 (hall 11 (by decide))
  obtain ⟨B8, k1, k2, k3⟩ := h.b8 (hall 12 (by decide))
  rw [if_pos (hall 13 (by decide))] at g3
  rw [if_pos (hall 14 (by decide))] at k3
  have key := hQ B7 B8 w g1 k1 g3 k3 h.ko h.be
  have he := act3_eq hA h.tz (fun i hi => h.val i hi (hall i (by omega))) g2 k2 h.oth
  have hd := h.df
  obtain ⟨T, df⟩ := a
  have he' : T = _ := he
  have hd' : df = [] := hd
  rw [he', hd']
  exact key
 ·have nof : ∀ i, (Array.replicate ops3.size false).getD i false = false := fun i => by simp [Array.getD]
  refine ⟨by rfl, hA, rfl, fun i _ hl => ?_, fun d _ _ _ => rfl, fun i d _ hl => ?_, fun hl => ?_, fun hl => ?_, ⟨Nat.le_refl _, fun b o h _ => h⟩, (Below.refl _ W1).drew⟩
  ·rw [nof] at hl; cases hl
  ·rw [nof] at hl; cases hl
  ·rw [nof] at hl; cases hl
  ·rw [nof] at hl; cases hl
 ·exact Nat.le_of_eq (by rfl)
end
end Go.Proofs.YtcogfddcdpgpkaaGreatDoor
namespace Go.Proofs.YtcogfddcdpgpkaaGreatDoor
open Go.Proofs Go.RowKit Go.Shelf Go.Av
attribute [local go_sem] Oper.semAt_some
set_option maxRecDepth 100000 in
set_option maxHeartbeats 4000000 in
theorem row_any (w : World) (p v1 v2 v3 v4 : Value) (hv : p.oneCell' = true ∧ v1.oneCell' = true ∧ v2.oneCell' = true ∧ v3.oneCell' = true ∧ v4.oneCell' = true) (k0 : Int) (ns : List Nd) (hR : RightT ns) (hk0 : elB ns k0 = true)
  (b o N c : Nat) (hN : N ≤ 1000) (hN0 : N ≠ 0) (hNc : N + 1 ≤ c) (hb : b < w.heap.size) (sa : Option Addr) (sn sc : Nat)
  (hc1 : w.cell? ⟨b, o + N * 2, none⟩ = some (.int .i64 1)) (hc2 : w.cell? ⟨b, o + N * 2 + 1, none⟩ = some (.slice sa sn sc))
  (hfit : ∀ W, Below w.heap.size w W → Calls Tryz.prog 79 #[.agg #[p, v1, v2, v3, v4], .agg #[.int .i64 1, .slice sa sn sc], .int .i64 k0] W fun e W' => e = .returned (.bool true) ∧ Below W.heap.size W W')
  (hpar : ∀ (m : Int) (W : World), Below w.heap.size w W → Calls Tryz.prog 66 #[p, .int .i64 m] W fun e w' => e = .returned (parV (parI ns m)) ∧ Below W.heap.size W w')
  (V : Int → Bool) (hrec : ∀ m : Int, elB ns m = true → ∀ W, Below w.heap.size w W → Calls Tryz.prog 45 #[.agg #[p, v1, v2, v3, v4], .slice (some ⟨b, o, none⟩) N c, .int .i64 m] W fun e W' => e = .returned (.bool (V m)) ∧ Below W.heap.size W W')
  (U : List Int) (hU : U = upsI ns (k0.toNat + 1) k0) :
  Calls Tryz.prog 45 #[.agg #[p, v1, v2, v3, v4], .slice (some ⟨b, o, none⟩) (N + 1) c, .int .i64 k0] w fun e W' => e = .returned (.bool (U.any V)) ∧ Below w.heap.size w W' := by
 obtain ⟨o1, o2, o3, o4, o5⟩ := hv
 refine (callsIn_wide (n := 9)).1 ?_
 refine callsIn_of_wp_marks Tryz.func45 rfl trivial ?_ rfl
 simp only [Tryz.ntmps45, List.size_toArray, List.length_cons, List.length_nil, Nat.reduceAdd, Nat.reduceSub, Array.replicate_succ, Array.replicate_zero, List.push_toArray, List.append_toArray, List.nil_append, List.cons_append]
 gi_wp2
 rename_i Q' hz K hK
 have bE := ((BoxR.new w 92 #[p, v1, v2, v3, v4]).alloc (.cells #[.bool false] 4))
 have bR := BoxR.new (w.alloc (.cells #[p, v1, v2, v3, v4] 92)) 4 #[.bool false]
 have hB1 : Below w.heap.size w ((w.alloc (.cells #[p, v1, v2, v3, v4] 92)).alloc (.cells #[.bool false] 4)) := ((Below.refl _ w).alloc (Nat.le_refl _) _).alloc (by simp) _
 have hs1 : ((w.alloc (.cells #[p, v1, v2, v3, v4] 92)).alloc (.cells #[.bool false] 4)).heap.size = w.heap.size + 2 := by simp
 simp only [World.size_alloc] at bR
 obtain ⟨W1, hW1⟩ : ∃ W1, ((w.alloc (.cells #[p, v1, v2, v3, v4] 92)).alloc (.cells #[.bool false] 4)) = W1 := ⟨_, rfl⟩
 rw [hW1] at bE bR hB1 hs1 ⊢
 clear hW1
 have d1 := (hB1.cell (p := ⟨b, o + N * 2, none⟩) hb).trans hc1
 have d2 := (hB1.cell (p := ⟨b, o + N * 2 + 1, none⟩) hb).trans hc2
 refine reg3_in (W1 := W1) (b := b) (o := o) (N := N) (c := c) (cc := 1) (sa := sa) (sn := sn) (sc := sc) rfl rfl (by omega) hN hNc d1 d2 fun B7 B8 w2 g7 g8 b7 b8 hko hbe => ?_
 have bE2 := bE.below hbe (by omega)
 have bR2 := bR.below hbe (by omega)
 have hB2 : Below w.heap.size w w2 := hB1.trans (hbe.mono (by omega))
 have hs2 := hbe.size
 simp only [act3, V3, List.setIfInBounds_toArray, List.set_cons_succ, List.set_cons_zero]
 have e0 : w2.cell? ⟨w.heap.size, 0, none⟩ = some p := bE2.cell 0
 have e1 : w2.cell? ⟨w.heap.size, 1, none⟩ = some v1 := bE2.cell 1
 have e2 : w2.cell? ⟨w.heap.size, 2, none⟩ = some v2 := bE2.cell 2
 have e3 : w2.cell? ⟨w.heap.size, 3, none⟩ = some v3 := bE2.cell 3
 have e4 : w2.cell? ⟨w.heap.size, 4, none⟩ = some v4 := bE2.cell 4
 have s0 : w2.cell? ⟨B7, 0, none⟩ = some (.int .i64 1) := b7.cell 0
 have s1 : w2.cell? ⟨B7, 1, none⟩ = some (.slice sa sn sc) := b7.cell 1
 have hF := hfit w2 hB2
 have hNi : ((N : Int) == 0) = false := by rw [beq_eq_false_iff_ne]; omega
 refine hK _ _ ?_
 gi_wp2_with (refine ⟨trivial, ?_⟩; gi_at_call 79; refine (callsIn_wide.2 hF).mono ?_; rintro e w3 ⟨rfl, hb3⟩; have bE3 := bE2.below hb3 bE2.lt; have b73 := b7.below hb3 b7.lt; have b83 := b8.below hb3 b8.lt; have t0 : w3.cell? ⟨w.heap.size, 0, none⟩ = some p := bE3.cell 0; have t1 : w3.cell? ⟨w.heap.size, 1, none⟩ = some v1 := bE3.cell 1; have t2 : w3.cell? ⟨w.heap.size, 2, none⟩ = some v2 := bE3.cell 2; have t3 : w3.cell? ⟨w.heap.size, 3, none⟩ = some v3 := bE3.cell 3; have t4 : w3.cell? ⟨w.heap.size, 4, none⟩ = some v4 := bE3.cell 4; have t7 : w3.cell? ⟨B7, 0, none⟩ = some (.int .i64 1) := b73.cell 0; have t8 : w3.cell? ⟨B8, 0, none⟩ = some (.slice (some ⟨b, o, none⟩) N c) := b83.cell 0)
 refine ⟨trivial, ?_⟩
 gi_at_call 81
 refine (above_in Fence.wide _ trivial rfl #[p, v1, v2, v3, v4] k0 w3 rfl ?_).mono ?_
 ·intro v hv
  simp only [List.mem_toArray, List.mem_cons, List.not_mem_nil, or_false] at hv
  rcases hv with rfl | rfl | rfl | rfl | rfl <;> assumption
 rintro e w4' ⟨rfl, hw4⟩
 gi_wp2
 have bE4 := (bE3.alloc (.cells #[p, v1, v2, v3, v4] 92)).alloc (.cells #[.int .i64 k0] 3)
 have bR3 := bR2.below hb3 bR2.lt
 have bR4 := (bR3.alloc (.cells #[p, v1, v2, v3, v4] 92)).alloc (.cells #[.int .i64 k0] 3)
 have b84 := (b83.alloc (.cells #[p, v1, v2, v3, v4] 92)).alloc (.cells #[.int .i64 k0] 3)
 have bI := (BoxR.new w3 92 #[p, v1, v2, v3, v4]).alloc (.cells #[.int .i64 k0] 3)
 have bJ := BoxR.new (w3.alloc (.cells #[p, v1, v2, v3, v4] 92)) 3 #[.int .i64 k0]
 have hs3 := hb3.size
 have hB3 : Below w.heap.size w w3 := hB2.trans (hb3.mono (by omega))
 have hB4 : Below w.heap.size w ((w3.alloc (.cells #[p, v1, v2, v3, v4] 92)).alloc (.cells #[.int .i64 k0] 3)) := (hB3.alloc (by omega) _).alloc (by simp; omega) _
 have hs4 : ((w3.alloc (.cells #[p, v1, v2, v3, v4] 92)).alloc (.cells #[.int .i64 k0] 3)).heap.size = w3.heap.size + 2 := by simp
 simp only [World.size_alloc] at bJ
 clear t0 t1 t2 t3 t4 t7 t8 e0 e1 e2 e3 e4 s0 s1
 obtain ⟨W0, hW0⟩ : ∃ W0, ((w3.alloc (.cells #[p, v1, v2, v3, v4] 92)).alloc (.cells #[.int .i64 k0] 3)) = W0 := ⟨_, rfl⟩
 rw [hW0] at bE4 bR4 b84 bI bJ hB4 hs4 ⊢
 clear hW0
 have hUe : ∀ x : Fin U.length, elB ns (U.get x) = true := fun x => (ups_el hR _ k0 hk0 (U.get x) (by rw [← hU]; exact List.get_mem U x)).1
 refine wpIn_rangeFunc_ownH (F := Fence.wide) (n := 9) rfl (by omega) (gf := 112) (lb := #[.pointer (some ⟨w3.heap.size, 0, none⟩), .pointer (some ⟨w3.heap.size + 1, 0, none⟩)]) rfl trivial (enters_of Tryz.func112 (by kernel_rfl) rfl)
  (above_stops 8 (by omega) w3.heap.size (w3.heap.size + 1) W0.heap.size ns hR k0 hk0 U hU p W0 (fun m W' hb => hpar m W' (hB4.trans (hb.mono hB4.size))) (Nat.le_refl _) (by omega) (by omega) (bI.cell 0) (bJ.cell 0) o1) belowK_t (belowK_b (Nat.le_refl _)) (Below.refl _ _) (fun _ => rfl)
  (fun pre W => BoxR W w.heap.size 92 #[p, v1, v2, v3, v4] ∧ BoxR W (w.heap.size + 1) 4 #[.bool false] ∧ BoxR W B8 46 #[.slice (some ⟨b, o, none⟩) N c] ∧ Below w.heap.size w W ∧ (∀ x ∈ pre, V (U.get x) = false) ∧ W0.heap.size ≤ W.heap.size)
  (fun cd pre W => cd = .ret ∧ BoxR W (w.heap.size + 1) 4 #[.bool true] ∧ Below w.heap.size w W ∧ ∃ x ∈ pre, V (U.get x) = true)
  ?own (fun _ => ?ownx) ⟨bE4, bR4, b84, hB4, fun x hx => absurd hx (by simp), Nat.le_refl _⟩
  (fun x a' W => a' = { tmps := #[Value.agg #[p, v1, v2, v3, v4], Value.slice (some ⟨b, o, none⟩) (N + 1) c, Value.int IntKind.i64 k0, Value.pointer (some ⟨w.heap.size, 0, none⟩), undef, undef, Value.pointer (some ⟨w.heap.size + 1, 0, none⟩), Value.pointer (some ⟨B7, 0, none⟩), Value.pointer (some ⟨B8, 0, none⟩), undef, undef, undef, undef, Value.int IntKind.i64 (U.get x), undef, Value.slice (some ⟨b, o, none⟩) (N + 1) c, Value.int IntKind.i64 ((N : Int) + 1), Value.bool false, Value.slice (some ⟨b, o, none⟩) (N + 1) c, Value.slice (some ⟨b, o, none⟩) (N + 1) c, Value.int IntKind.i64 ((N : Int) + 1), Value.int IntKind.i64 (N : Int), Value.pointer (some ⟨b, o + N * 2, none⟩), Value.agg #[Value.int IntKind.i64 1, Value.slice sa sn sc], Value.slice (some ⟨b, o, none⟩) (N + 1) c, Value.slice (some ⟨b, o, none⟩) (N + 1) c, Value.int IntKind.i64 ((N : Int) + 1), Value.int IntKind.i64 (N : Int), Value.slice (some ⟨b, o, none⟩) N c, Value.agg #[p, v1, v2, v3, v4], Value.agg #[Value.int IntKind.i64 1, Value.slice sa sn sc], Value.int IntKind.i64 k0, Value.bool true, Value.bool false, Value.slice (some ⟨b, o, none⟩) N c, Value.int IntKind.i64 (N : Int), Value.bool false, Value.pointer (some ⟨B7, 0, none⟩), Value.int IntKind.i64 1, Value.bool false, Value.bool false, undef, undef, undef, undef, undef, undef, undef, undef, undef, undef, undef, undef, undef, undef, Value.bool false, Value.bool false, undef, undef, undef, undef, undef, undef, undef, undef, undef, undef, undef, undef, undef, undef, Value.bool true, Value.bool true, Value.agg #[p, v1, v2, v3, v4], Value.int IntKind.i64 k0, Value.func (Fn.func 112) #[] #[Value.pointer (some ⟨w3.heap.size, 0, none⟩), Value.pointer (some ⟨w3.heap.size + 1, 0, none⟩)], Value.int IntKind.i64 (U.get x), undef, undef, undef, undef, undef, undef, undef, undef, undef, undef, undef, undef, undef, undef, undef, undef, undef], defers := [] })
  (fun x a' _ X Y row hs hg hr => hs)
  ?assign ?body ?done ?stop
 case own =>
  intro pre X Y row hs hg hr
  obtain ⟨i1, i2, i3, i4, i5, i6⟩ := hs
  exact ⟨boxR_own _ _ (fun (_ : Unit) => _) () X Y row i1 hg (fun r e => (hr r e).2), boxR_own _ _ (fun (_ : Unit) => _) () X Y row i2 hg (fun r e => (hr r e).2), boxR_own _ _ (fun (_ : Unit) => _) () X Y row i3 hg (fun r e => (hr r e).2), (ownFrom_below (β := Unit) (Nat.le_refl _) hB4.size) () X Y row i4 hg hr, i5, Nat.le_trans i6 hg.size⟩
 case ownx =>
  intro pre X Y row hs hg hr
  obtain ⟨i1, i2, i3, i4⟩ := hs
  exact ⟨i1, boxR_own _ _ (fun (_ : Unit) => _) () X Y row i2 hg (fun r e => (hr r e).2), (ownFrom_below (β := Unit) (Nat.le_refl _) hB4.size) () X Y row i3 hg hr, i4⟩
 case assign =>
  rintro l pre x W KK hI hKK
  clear hU hUe
  gi_wp2
  exact hKK _ _ ((KeepsOthers.refl _).from _) (Below.refl _ _) hI rfl
 case body =>
  rintro l pre x a' W hl ⟨r, hr⟩ ⟨i1, i2, i3, i4, i5, i6⟩ rfl hlt
  have hO := hrec (U.get x) (hUe x) W i4
  have e0 : W.cell? ⟨w.heap.size, 0, none⟩ = some p := i1.cell 0
  have e1 : W.cell? ⟨w.heap.size, 1, none⟩ = some v1 := i1.cell 1
  have e2 : W.cell? ⟨w.heap.size, 2, none⟩ = some v2 := i1.cell 2
  have e3 : W.cell? ⟨w.heap.size, 3, none⟩ = some v3 := i1.cell 3
  have e4 : W.cell? ⟨w.heap.size, 4, none⟩ = some v4 := i1.cell 4
  have e8 : W.cell? ⟨B8, 0, none⟩ = some (.slice (some ⟨b, o, none⟩) N c) := i3.cell 0
  clear hU hUe hrec hfit hpar
  dsimp only
  generalize hm : U.get x = m at *
  cases hv : V m with
  | false =>
   rw [hv] at hO
   gi_wp2_with (refine ⟨trivial, ?_⟩; gi_at_call 45; refine (CallsIn.inRound l (callsIn_wide.2 hO)).mono ?_; rintro e W2 ⟨rfl, hb2⟩)
   refine ⟨(keeps_below hb2).from _, hb2.mono i6, i1.below hb2 i1.lt, i2.below hb2 i2.lt, i3.below hb2 i3.lt, i4.trans (hb2.mono i4.size), fun y hy => ?_, Nat.le_trans i6 hb2.size⟩
   rcases List.mem_append.1 hy with hy | hy
   ·exact i5 y hy
   ·rw [List.mem_singleton] at hy
    subst hy
    rw [hm]
    exact hv
  | true =>
   rw [hv] at hO
   gi_wp2_with (refine ⟨trivial, ?_⟩; gi_at_call 45; refine (CallsIn.inRound l (callsIn_wide.2 hO)).mono ?_; rintro e W2 ⟨rfl, hb2⟩; have i2' := i2.below hb2 i2.lt; have c6 : W2.cell? ⟨w.heap.size + 1, 0, none⟩ = some (.bool false) := i2'.cell 0; have z6 := i2'.frozen 0)
   refine ⟨((keeps_below hb2).trans (KeepsOthers.setCell _ _ _)).from _, rfl, i2'.set 0 (.bool true), (i4.trans (hb2.mono i4.size)).setCell (p := ⟨w.heap.size + 1, 0, none⟩) (Nat.le_succ _) _, x, List.mem_append_right _ (List.mem_singleton.2 rfl), ?_⟩
   rw [hm]
   exact hv
 case done =>
  rintro D ys W hD rfl ⟨i1, i2, i3, i4, i5, i6⟩ hKD
  clear hU hUe hrec hfit hpar
  have c6 : W.cell? ⟨w.heap.size + 1, 0, none⟩ = some (.bool false) := i2.cell 0
  have z6 := i2.frozen 0
  dsimp only
  gi_wp2
  have hDn : D ≠ w.heap.size + 1 := by omega
  have hUf : U.any V = false := by
   rw [List.any_eq_false]
   intro m hm
   obtain ⟨x, rfl⟩ := List.mem_iff_get.1 hm
   rw [i5 x (List.mem_finRange x)]
   decide
  rw [hUf]
  have bW := i2.set 0 (.bool false)
  have hBW := i4.setCell (p := ⟨w.heap.size + 1, 0, none⟩) (Nat.le_succ _) (.bool false)
  have hKW : (W.setCell ⟨w.heap.size + 1, 0, none⟩ (.bool false)).heap[D]? = some (.deferred (some [])) := by
   simp [World.setCell, Array.getElem?_modify, Ne.symm hDn, hKD]
  generalize W.setCell ⟨w.heap.size + 1, 0, none⟩ (.bool false) = W9 at *
  refine ⟨by simp, .inl ⟨_, _, rfl, run_takeDeferred hKW, ?_⟩⟩
  have bP : BoxR (W9.putObj D (.deferred none)) (w.heap.size + 1) 4 #[.bool false] := (show BoxR W9 _ 4 #[.bool false] from bW).kept (grownBy_putObj' _ _ _) (fun e => hDn (Option.some.inj e).symm)
  have p0 : (W9.putObj D (.deferred none)).cell? ⟨w.heap.size + 1, 0, none⟩ = some (.bool false) := bP.cell 0
  refine ⟨.bool false, ?_, rfl, hBW.trans (belowK_b (w := w) (Nat.le_refl _) W9 D _ _ (by omega) hKW rfl rfl)⟩
  generalize W9.putObj D (.deferred none) = W10 at *
  simp [results, go_sem, p0, Tryz.f45]
 case stop =>
  rintro D cd pre W hDs _ ⟨rfl, i2, i3, i4⟩ hD
  have c6 : W.cell? ⟨w.heap.size + 1, 0, none⟩ = some (.bool true) := i2.cell 0
  clear hU hUe hrec hfit hpar
  dsimp only
  gi_wp2
  have hDn : D ≠ w.heap.size + 1 := by omega
  have hUt : U.any V = true := by
   obtain ⟨x, _, hx⟩ := i4
   exact List.any_eq_true.2 ⟨U.get x, List.get_mem U x, hx⟩
  rw [hUt]
  refine ⟨by simp, .inl ⟨_, _, rfl, run_takeDeferred hD, ?_⟩⟩
  have bP : BoxR (W.putObj D (.deferred none)) (w.heap.size + 1) 4 #[.bool true] := i2.kept (grownBy_putObj' _ _ _) (fun e => hDn (Option.some.inj e).symm)
  have p0 : (W.putObj D (.deferred none)).cell? ⟨w.heap.size + 1, 0, none⟩ = some (.bool true) := bP.cell 0
  refine ⟨.bool true, ?_, rfl, i3.trans (belowK_b (w := w) (Nat.le_refl _) W D _ _ (by omega) hD rfl rfl)⟩
  generalize W.putObj D (.deferred none) = W10 at *
  simp [results, go_sem, p0, Tryz.f45]
end Go.Proofs.YtcogfddcdpgpkaaGreatDoor
namespace Go.Av
open Go.Proofs
variable [Rk] {chk : List D → Bool}
theorem wrapL {n : Nat} (h : n ≤ 1000000) (h0 : n ≠ 0) : IntKind.i64.wrap ((n : Int) - 1) = ((n - 1 : Nat) : Int) := by
 rw [wrap64 _ (by omega) (by omega)]; omega
theorem last_getD {l : List D} {x : D} (h : l.getLast? = some x) : l.getD (l.length - 1) .bad = x ∧ l.length ≠ 0 := by
 rw [List.getLast?_eq_getElem?] at h
 refine ⟨by simp [List.getD, h], ?_⟩
 have := (List.getElem?_eq_some_iff.1 h).1
 omega
theorem ne0 {n : Nat} (h : n ≠ 0) : ((n : Int) == 0) = false := by
 rw [beq_eq_false_iff_ne]; omega
theorem eqI {a b : Int} (h : a = b) : (a == b) = true ∧ (a != b) = false ∧ decide (a = b) = true := by simp [h]
theorem neI {a b : Int} (h : ¬ a = b) : (a == b) = false ∧ (a != b) = true ∧ decide (a = b) = false := by simp [h]
set_option maxHeartbeats 1000000 in
theorem pseudo_L {k : Nat} (c : D) (h : cxOk 100 (smOk 100 (k + 1)) c = true) : callL Tryz.prog (ext11b chk) 44 [c] [] = some (.str (pseudoF c), [.no], []) := by
 obtain ⟨l, rfl, hl, hx⟩ := cxOk_inv h
 unfold pseudoF cxD cxL
 dsimp only
 cases hL : l.getLast? with
 | none =>
  rw [List.getLast?_eq_none_iff] at hL
  subst hL
  clear hx hl h
  refine callK (m := 37) (res := [2]) (rs := [.tmp 2]) rfl Tryz.func44 rfl rfl rfl rfl rfl ?_
  repeat' (first|simp only [*, AVB, AVY, ↓reduceIte, Nat.reduceEqDiff, Nat.reduceLT, Nat.reduceAdd, dIntBin]|refine drW_intro (by kernel_rfl) ?_|refine gw_intro (fun h => ?_) (fun h => ?_) <;> try simp only [AVH] at h)
 | some x =>
  obtain ⟨cc, sl, rfl, hsl, hs⟩ := cpOk_inv (hx x (List.mem_of_getLast? hL))
  obtain ⟨hg, h0⟩ := last_getD hL
  have h0' := ne0 h0
  have hw := wrapL (by omega) h0
  have hlt : ((l.length - 1 : Nat) : Int) < l.length := by omega
  have hge : (0 : Int) ≤ ((l.length - 1 : Nat) : Int) := by omega
  clear hL hx h hl
  unfold cpD at hg ⊢
  simp only [cpL]
  cases hS : sl.getLast? with
  | none =>
   rw [List.getLast?_eq_none_iff] at hS
   subst hS
   clear hs hsl
   refine callK (m := 37) (res := [2]) (rs := [.tmp 2]) rfl Tryz.func44 rfl rfl rfl rfl rfl ?_
   repeat' (first|simp only [*, AVB, AVY, ↓reduceIte, Nat.reduceEqDiff, Nat.reduceLT, Nat.reduceBEq, Nat.reduceAdd, dIntBin]|refine drW_intro (by kernel_rfl) ?_|refine gw_intro (fun h => ?_) (fun h => ?_) <;> try simp only [AVH] at h)
  | some s =>
   obtain ⟨e, _⟩ := smOk_inv (hs s (List.mem_of_getLast? hS))
   obtain ⟨sg, s0⟩ := last_getD hS
   have s0' := ne0 s0
   have sw := wrapL (by omega) s0
   have slt : ((sl.length - 1 : Nat) : Int) < sl.length := by omega
   have sge : (0 : Int) ≤ ((sl.length - 1 : Nat) : Int) := by omega
   rw [e] at sg
   show callL Tryz.prog (ext11b chk) 44 [.agg [.list l]] [] = some (.str (if (sf s).kd = 13 then (sf s).nm else []), [.no], [])
   clear hS hs hsl
   generalize sf s = S at *
   clear e
   unfold Sf.d at sg
   by_cases hk : S.kd = 13
   ·rw [if_pos hk]
    obtain ⟨k1, k2, k3⟩ := eqI hk
    clear hk
    refine callK (m := 37) (res := [2]) (rs := [.tmp 2]) rfl Tryz.func44 rfl rfl rfl rfl rfl ?_
    repeat' (first|simp only [*, AVB, AVY, ↓reduceIte, Nat.reduceEqDiff, Nat.reduceLT, Nat.reduceBEq, Nat.reduceAdd, dIntBin]|refine drW_intro (by kernel_rfl) ?_|refine gw_intro (fun h => ?_) (fun h => ?_) <;> try simp only [AVH] at h)
   ·rw [if_neg hk]
    obtain ⟨k1, k2, k3⟩ := neI hk
    clear hk
    refine callK (m := 37) (res := [2]) (rs := [.tmp 2]) rfl Tryz.func44 rfl rfl rfl rfl rfl ?_
    repeat' (first|simp only [*, AVB, AVY, ↓reduceIte, Nat.reduceEqDiff, Nat.reduceLT, Nat.reduceBEq, Nat.reduceAdd, dIntBin]|refine drW_intro (by kernel_rfl) ?_|refine gw_intro (fun h => ?_) (fun h => ?_) <;> try simp only [AVH] at h)
end Go.Av
namespace Go.Av
open Go.Proofs
variable [Rk] {chk : List D → Bool}
end Go.Av
namespace Go.Av
open Go.Proofs
variable [Rk] {chk : List D → Bool}
end Go.Av
namespace Go.Av
open Go.Proofs
variable [Rk] {chk : List D → Bool}
end Go.Av
namespace Go.Av
open Go.Proofs
variable [Rk] {chk : List D → Bool}
end Go.Av
namespace Go.Av
open Go.Proofs
variable [Rk] {chk : List D → Bool}
end Go.Av
namespace Go.Av
open Go.Proofs
instance (priority := low) rk0 : Rk := ⟨fun _ _ _ => none⟩
end Go.Av
namespace Go.Av
open Go.Proofs
variable [Rk] {chk : List D → Bool}
def eyeD (ns : List Nd) (nm : Nam) : D := .agg (treeN ns :: nm.cs)
def Nam.ok (nm : Nam) : Prop := nm.pre.length ≤ 1000 ∧ nm.sps.length ≤ 1000
theorem idxN_findIdx {α : Type} (f : α → Bool) : ∀ (l : List α) (k : Nat), (l.findIdx? f = none ∧ idxN f k l = -1) ∨ ∃ j : Nat, l.findIdx? f = some j ∧ j < l.length ∧ idxN f k l = ((k + j : Nat) : Int)
 | [], k => .inl ⟨rfl, rfl⟩
 | a :: r, k => by
  rw [idxN, List.findIdx?_cons]
  cases h : f a with
  | true => exact .inr ⟨0, rfl, by simp, by simp⟩
  | false =>
   rcases idxN_findIdx f r (k + 1) with ⟨h1, h2⟩ | ⟨j, h1, h2, h3⟩
   ·exact .inl ⟨by simp [h1], by simpa using h2⟩
   ·refine .inr ⟨j + 1, by simp [h1], by simp; omega, ?_⟩
    rw [if_neg (by decide), h3]
    omega
theorem space_cases (nm : Nam) (p : List UInt8) : (idxN (p == ·) 0 nm.pre = -1 ∧ spaceF nm p = ([], false)) ∨ ∃ j : Nat, idxN (p == ·) 0 nm.pre = (j : Int) ∧ j < nm.pre.length ∧ spaceF nm p = (nm.sps.getD j [], true) := by
 have e : (fun x => x == p) = (fun x => p == x) := funext fun x => by rw [Bool.eq_iff_iff, beq_iff_eq, beq_iff_eq]; exact eq_comm
 unfold spaceF
 rw [e]
 rcases idxN_findIdx (p == ·) nm.pre 0 with ⟨h1, h2⟩ | ⟨j, h1, h2, h3⟩
 ·exact .inl ⟨h2, by rw [h1]⟩
 ·exact .inr ⟨j, by rw [h3]; simp, h2, by rw [h1]⟩
theorem str_getD {l : List (List UInt8)} {j : Nat} (h : j < l.length) : (l.map D.str).getD j .bad = .str (l.getD j []) := by
 simp [List.getD, h]
theorem str_over {l : List (List UInt8)} {j : Nat} (h : ¬ j < l.length) : l.getD j [] = [] := by
 simp [List.getD, List.getElem?_eq_none (Nat.le_of_not_lt h)]
set_option maxHeartbeats 1000000 in
theorem space_L (nm : Nam) (p : List UInt8) (hn : nm.ok) : callL Tryz.prog (ext11b chk) 99 [.agg nm.cs, .str p] [] = some (.tuple [.str (spaceF nm p).1, .bool (spaceF nm p).2], [.no, .no], []) := by
 have hi := index_L (chk := chk) nm.pre p (by have := hn.1; omega)
 have lN := lenM nm.sps D.str
 have hc := space_cases nm p
 unfold Nam.cs
 rcases hc with ⟨h1, h2⟩ | ⟨j, h1, hj, h2⟩
 ·rw [h1] at hi
  rw [h2]
  clear h1 h2 hn
  refine callK (m := 25) (res := [4, 5]) (rs := [.tmp 4, .tmp 5]) rfl Tryz.func99 rfl rfl rfl rfl rfl ?_
  repeat' (first|simp only [*, AVB, AVY, ↓reduceIte, Nat.reduceEqDiff, Nat.reduceLT, Nat.reduceLeDiff, reduceCtorEq, Nat.reduceBEq, String.reduceBEq, Nat.reduceAdd, Nat.reduceSub, Nat.reduceMul, Int.reduceLE, Int.reduceLT, Int.reduceToNat, Int.reduceBEq, Int.reduceBNe, List.zipWith, dIntBin]|refine drW_intro (by kernel_rfl) ?_|refine gw_intro (fun h => ?_) (fun h => ?_) <;> try simp only [AVH] at h)
 ·rw [h1] at hi
  rw [h2]
  clear h1 h2
  have hn1 : ¬ (j : Int) < 0 := by omega
  have hj0 : (0 : Int) ≤ j := by omega
  by_cases hs : j < nm.sps.length
  ·have hg := str_getD hs
   have hs' : ¬ (nm.sps.length : Int) ≤ j := by omega
   have hs2 : (j : Int) < nm.sps.length := by omega
   clear hs hj hn
   refine callK (m := 25) (res := [4, 5]) (rs := [.tmp 4, .tmp 5]) rfl Tryz.func99 rfl rfl rfl rfl rfl ?_
   repeat' (first|simp only [*, AVB, AVY, ↓reduceIte, Nat.reduceEqDiff, Nat.reduceLT, Nat.reduceLeDiff, reduceCtorEq, Nat.reduceBEq, String.reduceBEq, Nat.reduceAdd, Nat.reduceSub, Nat.reduceMul, Int.reduceLE, Int.reduceLT, Int.reduceToNat, Int.reduceBEq, Int.reduceBNe, List.zipWith, dIntBin]|refine drW_intro (by kernel_rfl) ?_|refine gw_intro (fun h => ?_) (fun h => ?_) <;> try simp only [AVH] at h)
  ·have hg := str_over hs
   have hs' : (nm.sps.length : Int) ≤ j := by omega
   clear hs hj hn
   refine callK (m := 25) (res := [4, 5]) (rs := [.tmp 4, .tmp 5]) rfl Tryz.func99 rfl rfl rfl rfl rfl ?_
   repeat' (first|simp only [*, AVB, AVY, ↓reduceIte, Nat.reduceEqDiff, Nat.reduceLT, Nat.reduceLeDiff, reduceCtorEq, Nat.reduceBEq, String.reduceBEq, Nat.reduceAdd, Nat.reduceSub, Nat.reduceMul, Int.reduceLE, Int.reduceLT, Int.reduceToNat, Int.reduceBEq, Int.reduceBNe, List.zipWith, dIntBin]|refine drW_intro (by kernel_rfl) ?_|refine gw_intro (fun h => ?_) (fun h => ?_) <;> try simp only [AVH] at h)
end Go.Av
namespace Go.Av
open Go.Proofs
variable [Rk] {chk : List D → Bool}
theorem tree_fix (ns : List Nd) : ∃ X, treeN ns = .fix X 0 := ⟨_, rfl⟩
set_option maxHeartbeats 2000000 in
theorem inPlace_L (ns : List Nd) (nm : Nam) (s : Sf) (sp : List UInt8) (at_ : Bool) (hn : nm.ok) : callL Tryz.prog (ext11b chk) 63 [eyeD ns nm, s.d, .str sp, .bool at_] [] = some (.bool (inPlF nm s.ns s.pre sp at_), [.no], []) := by
 have hs : callL Tryz.prog (ext11b chk) 99 [.agg [.bool nm.has, .str nm.dft, .list (nm.pre.map .str), .list (nm.sps.map .str)], .str s.pre] [] = _ := space_L nm s.pre hn
 unfold eyeD Nam.cs Sf.d inPlF
 obtain ⟨T, hT⟩ := tree_fix ns
 rw [hT]
 clear hT
 generalize hP : spaceF nm s.pre = z at hs ⊢
 obtain ⟨z1, z2⟩ := z
 clear hP hn
 by_cases k0 : s.ns = 0
 ·rw [if_pos k0]
  obtain ⟨j1, j2, j3⟩ := eqI k0
  clear k0
  cases at_ with
  | true =>
   refine callK (m := 51) (res := [8]) (rs := [.tmp 8]) rfl Tryz.func63 rfl rfl rfl rfl rfl ?_
   repeat' (first|simp only [*, AVB, AVY, ↓reduceIte, Nat.reduceEqDiff, Nat.reduceLT, reduceCtorEq, Nat.reduceBEq, Nat.reduceAdd, dIntBin]|refine drW_intro (by kernel_rfl) ?_|refine gw_intro (fun h => ?_) (fun h => ?_) <;> try simp only [AVH] at h)
  | false =>
   cases hh : nm.has with
   | true =>
    rw [hh] at hs
    refine callK (m := 51) (res := [8]) (rs := [.tmp 8]) rfl Tryz.func63 rfl rfl rfl rfl rfl ?_
    repeat' (first|simp only [*, AVB, AVY, ↓reduceIte, Nat.reduceEqDiff, Nat.reduceLT, reduceCtorEq, Nat.reduceBEq, Nat.reduceAdd, dIntBin]|refine drW_intro (by kernel_rfl) ?_|refine gw_intro (fun h => ?_) (fun h => ?_) <;> try simp only [AVH] at h)
   | false =>
    rw [hh] at hs
    refine callK (m := 51) (res := [8]) (rs := [.tmp 8]) rfl Tryz.func63 rfl rfl rfl rfl rfl ?_
    repeat' (first|simp only [*, AVB, AVY, ↓reduceIte, Nat.reduceEqDiff, Nat.reduceLT, reduceCtorEq, Nat.reduceBEq, Nat.reduceAdd, dIntBin]|refine drW_intro (by kernel_rfl) ?_|refine gw_intro (fun h => ?_) (fun h => ?_) <;> try simp only [AVH] at h)
 ·rw [if_neg k0]
  obtain ⟨j1, j2, j3⟩ := neI k0
  clear k0
  by_cases k1 : s.ns = 1
  ·rw [if_pos k1]
   obtain ⟨i1, i2, i3⟩ := eqI k1
   clear k1
   refine callK (m := 51) (res := [8]) (rs := [.tmp 8]) rfl Tryz.func63 rfl rfl rfl rfl rfl ?_
   repeat' (first|simp only [*, AVB, AVY, ↓reduceIte, Nat.reduceEqDiff, Nat.reduceLT, reduceCtorEq, Nat.reduceBEq, Nat.reduceAdd, dIntBin]|refine drW_intro (by kernel_rfl) ?_|refine gw_intro (fun h => ?_) (fun h => ?_) <;> try simp only [AVH] at h)
  ·rw [if_neg k1]
   obtain ⟨i1, i2, i3⟩ := neI k1
   clear k1
   by_cases k2 : s.ns = 2
   ·rw [if_pos k2]
    obtain ⟨l1, l2, l3⟩ := eqI k2
    clear k2
    refine callK (m := 51) (res := [8]) (rs := [.tmp 8]) rfl Tryz.func63 rfl rfl rfl rfl rfl ?_
    repeat' (first|simp only [*, AVB, AVY, ↓reduceIte, Nat.reduceEqDiff, Nat.reduceLT, reduceCtorEq, Nat.reduceBEq, Nat.reduceAdd, dIntBin]|refine drW_intro (by kernel_rfl) ?_|refine gw_intro (fun h => ?_) (fun h => ?_) <;> try simp only [AVH] at h)
   ·rw [if_neg k2]
    obtain ⟨l1, l2, l3⟩ := neI k2
    clear k2
    by_cases k3 : s.ns = 3
    ·rw [if_pos k3]
     obtain ⟨m1, m2, m3⟩ := eqI k3
     clear k3
     cases z2 with
     | true =>
      refine callK (m := 51) (res := [8]) (rs := [.tmp 8]) rfl Tryz.func63 rfl rfl rfl rfl rfl ?_
      repeat' (first|simp only [*, AVB, AVY, ↓reduceIte, Nat.reduceEqDiff, Nat.reduceLT, reduceCtorEq, Nat.reduceBEq, Nat.reduceAdd, dIntBin]|refine drW_intro (by kernel_rfl) ?_|refine gw_intro (fun h => ?_) (fun h => ?_) <;> try simp only [AVH] at h)
     | false =>
      refine callK (m := 51) (res := [8]) (rs := [.tmp 8]) rfl Tryz.func63 rfl rfl rfl rfl rfl ?_
      repeat' (first|simp only [*, AVB, AVY, ↓reduceIte, Nat.reduceEqDiff, Nat.reduceLT, reduceCtorEq, Nat.reduceBEq, Nat.reduceAdd, dIntBin]|refine drW_intro (by kernel_rfl) ?_|refine gw_intro (fun h => ?_) (fun h => ?_) <;> try simp only [AVH] at h)
    ·rw [if_neg k3]
     obtain ⟨m1, m2, m3⟩ := neI k3
     clear k3
     refine callK (m := 51) (res := [8]) (rs := [.tmp 8]) rfl Tryz.func63 rfl rfl rfl rfl rfl ?_
     repeat' (first|simp only [*, AVB, AVY, ↓reduceIte, Nat.reduceEqDiff, Nat.reduceLT, reduceCtorEq, Nat.reduceBEq, Nat.reduceAdd, dIntBin]|refine drW_intro (by kernel_rfl) ?_|refine gw_intro (fun h => ?_) (fun h => ?_) <;> try simp only [AVH] at h)
end Go.Av
namespace Go.Av
open Go.Proofs
variable [Rk] {chk : List D → Bool}
theorem val_small {ns : List Nd} (hS : SmallD ns) (n : Int) (sp nm : List UInt8) : (valI ns n sp nm).1.length ≤ 1000000 := by
 unfold valI
 split
 ·cases h : (atsAt ns n.toNat).find? (sameN sp nm) with
  | none => simp [foundF]
  | some a =>
   have hm := List.mem_of_find?_eq_some h
   unfold atsAt at hm
   cases e : ns[n.toNat]? with
   | none => rw [e] at hm; cases hm
   | some x =>
    rw [e] at hm
    have := ((hS.2 x (List.mem_of_getElem? e)).2.2.2.2.2 a hm).2.2
    simp only [foundF]
    omega
 ·simp
set_option maxHeartbeats 1000000 in
theorem plain64_L (ns : List Nd) (nm : Nam) (n : Int) (name : List UInt8) (op : Int) (tx : List UInt8) (hS : SmallD ns) (ht : tx.length ≤ 1000) :
  callL Tryz.prog (ext11b chk) 64 [eyeD ns nm, .int .i64 n, .str name, .agg [.int .i64 op, .str tx, .bool false]] [] = some (.bool (plainV ns n name op tx), [.no], []) := by
 have hv := val38_L (chk := chk) ns n [] name hS
 have hl := val_small hS n [] name
 have hh : callL Tryz.prog (ext11b chk) 101 [.agg [.int .i64 op, .str tx, .bool false], .str (valI ns n [] name).1] [] = _ := holds_L (chk := chk) op tx false (valI ns n [] name).1 (by omega) (by omega)
 unfold eyeD Nam.cs plainV
 obtain ⟨T, hT⟩ := tree_fix ns
 rw [hT] at hv ⊢
 clear hT hl hS
 generalize valI ns n [] name = z at hv hh ⊢
 obtain ⟨z1, z2⟩ := z
 generalize holdsF op tx false (z1, z2).1 = q at hh ⊢
 cases z2 with
 | true =>
  refine callK (m := 25) (res := [8]) (rs := [.tmp 8]) rfl Tryz.func64 rfl rfl rfl rfl rfl ?_
  repeat' (first|simp only [*, AVB, AVY, ↓reduceIte, Nat.reduceEqDiff, Nat.reduceLT, reduceCtorEq, Nat.reduceBEq, Nat.reduceAdd]|refine drW_intro (by kernel_rfl) ?_|refine gw_intro (fun h => ?_) (fun h => ?_) <;> try simp only [AVH] at h)
 | false =>
  refine callK (m := 25) (res := [8]) (rs := [.tmp 8]) rfl Tryz.func64 rfl rfl rfl rfl rfl ?_
  repeat' (first|simp only [*, AVB, AVY, ↓reduceIte, Nat.reduceEqDiff, Nat.reduceLT, reduceCtorEq, Nat.reduceBEq, Nat.reduceAdd]|refine drW_intro (by kernel_rfl) ?_|refine gw_intro (fun h => ?_) (fun h => ?_) <;> try simp only [AVH] at h)
end Go.Av
