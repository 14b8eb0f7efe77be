/- The evaluator, in one text: over any program; no conditions but those that each law names. -/
import Derived.Test.YtaghfmgeccapbaaGreatAvsb
import Derived.Test.YtaghfmgeccapbaaGreatAvb
set_option linter.unusedSimpArgs false
set_option linter.unusedVariables false
set_option linter.unusedSectionVars false
namespace Go.Av
def badS (deep : Int) (s : D) : Bool := decide (100 < ((sf s).nm.length : Int)) || (decide (100 < ((sf s).pre.length : Int)) || (decide (100 < ((sf s).tx.length : Int)) || decide (40 < deep)))
def cntX (C : List D → Int) (bad : D → Bool) (most : Int) : List D → Int → Option Int
  | [], n => some n
  | s :: r, n => if n ≤ most then (if bad s = true then none else cntX C bad most r (n + 1 + C (sf s).of_)) else some n
def cntP (C : List D → Int) (bad : D → Bool) (most : Int) : List D → Int → Option Int
  | [], n => some n
  | x :: r, n => if n ≤ most then (cntX C bad most (cpL x) n).bind (cntP C bad most r) else some n
def cntC (C : List D → Int) (bad : D → Bool) (most : Int) : List D → Int → Option Int
  | [], n => some n
  | c :: r, n => if n ≤ most then (cntP C bad most (cxL c) (n + (cxL c).length)).bind (cntC C bad most r) else some n
def cnt (most : Int) : Nat → List D → Int → Int
  | 0, _, _ => 0
  | f + 1, l, deep => (cntC (fun of_ => cnt most f of_ (deep + 1)) (badS deep) most l l.length).getD (most + 1)
section
variable {C : List D → Int} {bad : D → Bool} {most : Int}
theorem cntX_le (hC : ∀ l, 0 ≤ C l) : ∀ (l : List D) (n r : Int), cntX C bad most l n = some r → n ≤ r
  | [], n, r, h => by simp only [cntX, Option.some.injEq] at h; omega
  | s :: l, n, r, h => by
    unfold cntX at h
    split at h
    · split at h
      · cases h
      · have := cntX_le hC l _ _ h
        have := hC (sf s).of_
        omega
    · simp only [Option.some.injEq] at h; omega
theorem cntX_ok (hC : ∀ l, 0 ≤ C l) : ∀ (l : List D) (n r : Int), cntX C bad most l n = some r → r ≤ most → n + l.length ≤ r ∧ ∀ s ∈ l, bad s = false ∧ n + 1 + C (sf s).of_ ≤ most
  | [], n, r, h, hr => by
    simp only [cntX, Option.some.injEq] at h
    exact ⟨by simp; omega, fun s hs => by simp at hs⟩
  | s :: l, n, r, h, hr => by
    unfold cntX at h
    split at h
    · split at h
      · cases h
      · rename_i hb
        obtain ⟨h1, h2⟩ := cntX_ok hC l _ _ h hr
        have h3 := hC (sf s).of_
        have h4 := cntX_le hC l _ _ h
        refine ⟨by simp only [List.length_cons]; omega, fun t ht => ?_⟩
        rcases List.mem_cons.1 ht with rfl | ht
        · exact ⟨by simpa using hb, by omega⟩
        · obtain ⟨h5, h6⟩ := h2 t ht
          exact ⟨h5, by omega⟩
    · simp only [Option.some.injEq] at h; omega
theorem cntP_le (hC : ∀ l, 0 ≤ C l) : ∀ (l : List D) (n r : Int), cntP C bad most l n = some r → n ≤ r
  | [], n, r, h => by simp only [cntP, Option.some.injEq] at h; omega
  | x :: l, n, r, h => by
    unfold cntP at h
    split at h
    · obtain ⟨m, h1, h2⟩ := Option.bind_eq_some_iff.1 h
      have := cntX_le hC _ _ _ h1
      have := cntP_le hC l _ _ h2
      omega
    · simp only [Option.some.injEq] at h; omega
theorem cntP_ok (hC : ∀ l, 0 ≤ C l) : ∀ (l : List D) (n r : Int), 0 ≤ n → cntP C bad most l n = some r → r ≤ most → n ≤ r ∧ ∀ x ∈ l, ((cpL x).length : Int) ≤ most ∧ ∀ s ∈ cpL x, bad s = false ∧ C (sf s).of_ ≤ most
  | [], n, r, h0, h, hr => by
    simp only [cntP, Option.some.injEq] at h
    exact ⟨by omega, fun s hs => by simp at hs⟩
  | x :: l, n, r, h0, h, hr => by
    unfold cntP at h
    split at h
    · obtain ⟨m, h1, h2⟩ := Option.bind_eq_some_iff.1 h
      have h4 := cntP_le hC l _ _ h2
      obtain ⟨h5, h6⟩ := cntX_ok hC _ _ _ h1 (by omega)
      obtain ⟨h7, h8⟩ := cntP_ok hC l _ _ (by omega) h2 hr
      refine ⟨by omega, fun y hy => ?_⟩
      rcases List.mem_cons.1 hy with rfl | hy
      · refine ⟨by omega, fun s hs => ?_⟩
        obtain ⟨h9, h10⟩ := h6 s hs
        exact ⟨h9, by omega⟩
      · exact h8 y hy
    · simp only [Option.some.injEq] at h; omega
theorem cntC_le (hC : ∀ l, 0 ≤ C l) : ∀ (l : List D) (n r : Int), cntC C bad most l n = some r → n ≤ r
  | [], n, r, h => by simp only [cntC, Option.some.injEq] at h; omega
  | c :: l, n, r, h => by
    unfold cntC at h
    split at h
    · obtain ⟨m, h1, h2⟩ := Option.bind_eq_some_iff.1 h
      have := cntP_le hC _ _ _ h1
      have := cntC_le hC l _ _ h2
      omega
    · simp only [Option.some.injEq] at h; omega
theorem cntC_ok (hC : ∀ l, 0 ≤ C l) : ∀ (l : List D) (n r : Int), 0 ≤ n → cntC C bad most l n = some r → r ≤ most → n ≤ r ∧ ∀ c ∈ l, ((cxL c).length : Int) ≤ most ∧ ∀ x ∈ cxL c, ((cpL x).length : Int) ≤ most ∧ ∀ s ∈ cpL x, bad s = false ∧ C (sf s).of_ ≤ most
  | [], n, r, h0, h, hr => by
    simp only [cntC, Option.some.injEq] at h
    exact ⟨by omega, fun s hs => by simp at hs⟩
  | c :: l, n, r, h0, h, hr => by
    unfold cntC at h
    split at h
    · obtain ⟨m, h1, h2⟩ := Option.bind_eq_some_iff.1 h
      have h4 := cntC_le hC l _ _ h2
      obtain ⟨h5, h6⟩ := cntP_ok hC _ _ _ (by omega) h1 (by omega)
      obtain ⟨h7, h8⟩ := cntC_ok hC l _ _ (by omega) h2 hr
      refine ⟨by omega, fun y hy => ?_⟩
      rcases List.mem_cons.1 hy with rfl | hy
      · exact ⟨by omega, h6⟩
      · exact h8 y hy
    · simp only [Option.some.injEq] at h; omega
end
theorem cnt_nonneg {most : Int} (hm : 0 ≤ most) : ∀ (f : Nat) (l : List D) (deep : Int), 0 ≤ cnt most f l deep
  | 0, _, _ => Int.le_refl _
  | f + 1, l, deep => by
    unfold cnt
    cases h : cntC (fun of_ => cnt most f of_ (deep + 1)) (badS deep) most l l.length with
    | none => simp; omega
    | some r =>
      have := cntC_le (C := fun of_ => cnt most f of_ (deep + 1)) (fun l => cnt_nonneg hm f l _) _ _ _ h
      simp
      omega
theorem cnt_small {most : Int} (hm : 0 ≤ most) (hm2 : most ≤ 100) {m : Nat} : ∀ (f : Nat) (l : List D) (d g : Nat), d + g = 41 → lsOk m (smOk m f) l = true → cnt most (f + 1) l d ≤ most → lsOk 100 (smOk 100 g) l = true
  | f, l, d, g, hd, hk, hc => by
    unfold cnt at hc
    cases h : cntC (fun of_ => cnt most f of_ ((d : Int) + 1)) (badS d) most l l.length with
    | none => rw [h] at hc; simp at hc; omega
    | some r =>
      rw [h] at hc
      simp only [Option.getD_some] at hc
      obtain ⟨h1, h2⟩ := cntC_ok (C := fun of_ => cnt most f of_ ((d : Int) + 1)) (fun l => cnt_nonneg hm f l _) _ _ _ (by omega) h hc
      simp only [lsOk, lenB, Bool.and_eq_true, decide_eq_true_eq, List.all_eq_true] at hk ⊢
      refine ⟨by omega, fun c hcm => ?_⟩
      obtain ⟨xs, rfl, _, hxs⟩ := cxOk_inv (hk.2 c hcm)
      obtain ⟨h3, h4⟩ := h2 _ hcm
      simp only [cxD, cxL] at h3 h4
      simp only [cxOk, cxD, lenB, Bool.and_eq_true, decide_eq_true_eq, List.all_eq_true]
      refine ⟨by omega, fun x hx => ?_⟩
      obtain ⟨k, ss, rfl, _, hss⟩ := cpOk_inv (hxs x hx)
      obtain ⟨h5, h6⟩ := h4 _ hx
      simp only [cpD, cpL] at h5 h6
      simp only [cpOk, cpD, lenB, Bool.and_eq_true, decide_eq_true_eq, List.all_eq_true]
      refine ⟨by omega, fun s hs => ?_⟩
      obtain ⟨h7, h8⟩ := h6 s hs
      simp only [badS, Bool.or_eq_false_iff, decide_eq_false_iff_not] at h7
      obtain ⟨b1, b2, b3, b4⟩ := h7
      match f, hss s hs, h8 with
      | 0, hz, _ => simp [smOk] at hz
      | f + 1, hz, h8 =>
        obtain ⟨e, _, _, _, ho⟩ := smOk_inv hz
        match g, hd with
        | 0, hd => omega
        | g + 1, hd =>
          have h9 := cnt_small hm hm2 f (sf s).of_ (d + 1) g (by omega) ho (by simpa using h8)
          rw [e]
          simp only [smOk, Sf.d, Bool.and_eq_true, decide_eq_true_eq]
          exact ⟨⟨⟨by omega, by omega⟩, by omega⟩, h9⟩
end Go.Av
namespace Go.Av
structure RightT (ns : List Nd) : Prop where
  par : ∀ n, elB ns n = true → (parI ns n).2 = true → elB ns (parI ns n).1 = true ∧ (parI ns n).1 < n
  ahd : ∀ n, elB ns n = true → (ahdI ns n).2 = true → elB ns (ahdI ns n).1 = true ∧ (ahdI ns n).1 < n
  row : ∀ n, elB ns n = true → ∀ a ∈ (rowI ns n).dropLast, elB ns a = true ∧ a < n
theorem mem_range {node : Nat} {k : Int} : k ∈ (List.range (node + 1)).map (Int.ofNat ·) ↔ 0 ≤ k ∧ k ≤ node := by
  simp only [List.mem_map, List.mem_range]
  constructor
  · rintro ⟨i, hi, rfl⟩
    exact ⟨Int.natCast_nonneg _, by simp; omega⟩
  · rintro ⟨h0, h1⟩
    exact ⟨k.toNat, by omega, by simp; omega⟩
end Go.Av
namespace Go.Av
def UpTo (ns ns' : List Nd) (B : Nat) : Prop := ∀ i : Nat, i ≤ B → ns[i]? = ns'[i]?
variable {ns ns' : List Nd} {B : Nat}
theorem UpTo.k (h : UpTo ns ns' B) {i : Nat} (hi : i ≤ B) : kAt ns i = kAt ns' i := by unfold kAt; rw [h i hi]
theorem UpTo.p (h : UpTo ns ns' B) {i : Nat} (hi : i ≤ B) : pAt ns i = pAt ns' i := by unfold pAt; rw [h i hi]
theorem kAt_in {ns : List Nd} {i : Nat} (h : kAt ns i = 1) : i < ns.length := by
  unfold kAt at h
  cases e : ns[i]? with
  | none => rw [e] at h; cases h
  | some x => exact (List.getElem?_eq_some_iff.1 e).1
theorem elB_k {ns : List Nd} {n : Int} : elB ns n = (decide (0 ≤ n) && kAt ns n.toNat == 1) := by
  unfold elB
  rw [Bool.eq_iff_iff]
  simp only [Bool.and_eq_true, decide_eq_true_eq, beq_iff_eq]
  constructor
  · rintro ⟨a, _, b⟩
    exact ⟨a, b⟩
  · rintro ⟨a, b⟩
    have := kAt_in b
    exact ⟨a, by omega, b⟩
theorem UpTo.el (h : UpTo ns ns' B) {n : Int} (hn : n ≤ B) : elB ns n = elB ns' n := by
  rw [elB_k, elB_k, h.k (by omega)]
theorem UpTo.rowL (h : UpTo ns ns' B) (key : Int) : ∀ (m : Nat), m ≤ B + 1 → rowL ns key m = Go.Av.rowL ns' key m
  | 0, _ => rfl
  | m + 1, hm => by
    unfold Go.Av.rowL
    rw [h.k (by omega), h.p (by omega), h.rowL key m (by omega)]
theorem UpTo.par (h : UpTo ns ns' B) {n : Int} (hn : n ≤ B) : parI ns n = parI ns' n := by
  unfold parI
  rw [h.el hn, h.p (by omega)]
theorem UpTo.ahd (h : UpTo ns ns' B) {n : Int} (hn : n ≤ B) : ahdI ns n = ahdI ns' n := by
  unfold ahdI
  rw [h.el hn, h.p (by omega), h.rowL _ _ (by omega)]
theorem UpTo.row (h : UpTo ns ns' B) {n : Int} (hn : n ≤ B) : rowI ns n = rowI ns' n := by
  unfold rowI
  rw [h.el hn, h.p (by omega), h.rowL _ _ (by omega)]
theorem UpTo.val (h : UpTo ns ns' B) {n : Int} (hn : n ≤ B) (sp nm : List UInt8) : valI ns n sp nm = valI ns' n sp nm := by
  unfold valI atsAt
  rw [h.el hn, h _ (by omega)]
theorem nodeI_at {ns : List Nd} {n : Int} : nodeI ns n = if 0 ≤ n then (ns[n.toNat]?).getD zeroN else zeroN := by
  unfold nodeI inB'
  by_cases h0 : 0 ≤ n
  · by_cases h1 : n < ns.length
    · simp only [h0, h1, decide_true, Bool.and_self, if_true, List.getD_eq_getElem?_getD]
    · rw [if_neg (by simp [h1]), if_pos h0, List.getElem?_eq_none (by omega)]
      rfl
  · rw [if_neg (by simp [h0]), if_neg h0]
theorem UpTo.node (h : UpTo ns ns' B) {n : Int} (hn : n ≤ B) : nodeI ns n = nodeI ns' n := by
  rw [nodeI_at, nodeI_at, h _ (by omega)]
theorem UpTo.ups (h : UpTo ns ns' B) (hR : RightT ns) : ∀ (f : Nat) {n : Int}, n ≤ B → elB ns n = true → upsI ns f n = upsI ns' f n
  | 0, _, _, _ => rfl
  | f + 1, n, hn, he => by
    unfold upsI
    rw [← h.par hn]
    split
    · rename_i hp
      obtain ⟨h1, h2⟩ := hR.par n he hp
      rw [h.ups hR f (by omega) h1]
    · rfl
end Go.Av
namespace Go.Av
end Go.Av
namespace Go.Av
end Go.Av
namespace Go.Av
theorem lsOk_mem {m : Nat} {S : D → Bool} {l : List D} (h : lsOk m S l = true) : l.length ≤ m ∧ ∀ c ∈ l, cxOk m S c = true := by
  unfold lsOk lenB at h
  simpa [List.all_eq_true] using h
theorem lsOk_s {m : Nat} {S : D → Bool} {l : List D} (h : lsOk m S l = true) : ∀ c ∈ l, ∀ x ∈ cxL c, ∀ s ∈ cpL x, S s = true := by
  intro c hc x hx s hs
  obtain ⟨l1, rfl, _, h1⟩ := cxOk_inv ((lsOk_mem h).2 c hc)
  obtain ⟨k, l2, rfl, _, h2⟩ := cpOk_inv (h1 x hx)
  exact h2 s hs
theorem smOk_up {m : Nat} : ∀ (k : Nat) (d : D), smOk m k d = true → ∀ j, k ≤ j → smOk m j d = true
  | 0, d, h, _, _ => by simp [smOk] at h
  | k + 1, d, h, 0, hj => absurd hj (by omega)
  | k + 1, d, h, j + 1, hj => by
    obtain ⟨e, h1, h2, h3, h4⟩ := smOk_inv h
    rw [e]
    show (decide ((sf d).pre.length ≤ m) && decide ((sf d).nm.length ≤ m) && decide ((sf d).tx.length ≤ m) && lsOk m (smOk m j) (sf d).of_) = true
    simp only [Bool.and_eq_true, decide_eq_true_eq]
    refine ⟨⟨⟨h1, h2⟩, h3⟩, ?_⟩
    obtain ⟨g1, g2⟩ := lsOk_mem h4
    simp only [lsOk, lenB, Bool.and_eq_true, decide_eq_true_eq, List.all_eq_true]
    refine ⟨g1, fun c hc => ?_⟩
    obtain ⟨l1, rfl, f1, f2⟩ := cxOk_inv (g2 c hc)
    simp only [cxD, cxOk, lenB, Bool.and_eq_true, decide_eq_true_eq, List.all_eq_true]
    refine ⟨f1, fun x hx => ?_⟩
    obtain ⟨y, l2, rfl, f3, f4⟩ := cpOk_inv (f2 x hx)
    simp only [cpD, cpOk, lenB, Bool.and_eq_true, decide_eq_true_eq, List.all_eq_true]
    exact ⟨f3, fun s hs => smOk_up k s (f4 s hs) j (by omega)⟩
end Go.Av
set_option maxRecDepth 100000
namespace Go.Av
open Go.Proofs
variable [Rk] {chk : List D → Bool}
theorem wrapL {n : Nat} (h : n ≤ 1000000) (h0 : n ≠ 0) : IntKind.i64.wrap ((n : Int) - 1) = ((n - 1 : Nat) : Int) := by
  rw [wrap64 _ (by omega) (by omega)]; omega
theorem last_getD {l : List D} {x : D} (h : l.getLast? = some x) : l.getD (l.length - 1) .bad = x ∧ l.length ≠ 0 := by
  rw [List.getLast?_eq_getElem?] at h
  refine ⟨by simp [List.getD, h], ?_⟩
  have := (List.getElem?_eq_some_iff.1 h).1
  omega
theorem ne0 {n : Nat} (h : n ≠ 0) : ((n : Int) == 0) = false := by
  rw [beq_eq_false_iff_ne]; omega
theorem eqI {a b : Int} (h : a = b) : (a == b) = true ∧ (a != b) = false ∧ decide (a = b) = true := by simp [h]
theorem neI {a b : Int} (h : ¬ a = b) : (a == b) = false ∧ (a != b) = true ∧ decide (a = b) = false := by simp [h]
end Go.Av
namespace Go.Av
open Go.Proofs
variable [Rk] {chk : List D → Bool}
end Go.Av
namespace Go.Av
open Go.Proofs
variable [Rk] {chk : List D → Bool}
end Go.Av
namespace Go.Av
open Go.Proofs
variable [Rk] {chk : List D → Bool}
end Go.Av
namespace Go.Av
open Go.Proofs
variable [Rk] {chk : List D → Bool}
end Go.Av
namespace Go.Av
open Go.Proofs
variable [Rk] {chk : List D → Bool}
end Go.Av
namespace Go.Av
variable [Rk]
open Go.Proofs

end Go.Av
namespace Go.Av
open Go.Proofs
variable [Rk] {chk : List D → Bool}
def Nam.ok (nm : Nam) : Prop := nm.pre.length ≤ 1000 ∧ nm.sps.length ≤ 1000
theorem str_getD {l : List (List UInt8)} {j : Nat} (h : j < l.length) : (l.map D.str).getD j .bad = .str (l.getD j []) := by
  simp [List.getD, h]
theorem str_over {l : List (List UInt8)} {j : Nat} (h : ¬ j < l.length) : l.getD j [] = [] := by
  simp [List.getD, List.getElem?_eq_none (Nat.le_of_not_lt h)]
end Go.Av
namespace Go.Av
open Go.Proofs
variable [Rk] {chk : List D → Bool}
theorem space_hit {nm : Nam} {p x : List UInt8} {i : Nat} (ha : ∀ (j : Nat) y, j < i → nm.pre[j]? = some y → (y == p) = false) (h : nm.pre[i]? = some x) (hx : (x == p) = true) : spaceF nm p = (nm.sps.getD i [], true) := by
  have : nm.pre.findIdx? (· == p) = some i := by
    rw [List.findIdx?_eq_some_iff_getElem]
    obtain ⟨hl, he⟩ := List.getElem?_eq_some_iff.1 h
    refine ⟨hl, by rw [he]; exact hx, fun j hj => ?_⟩
    have := ha j _ hj (List.getElem?_eq_getElem (by omega))
    simp [this]
  unfold spaceF
  rw [this]
theorem space_no {nm : Nam} {p : List UInt8} (ha : ∀ (j : Nat) y, nm.pre[j]? = some y → (y == p) = false) : spaceF nm p = ([], false) := by
  have : nm.pre.findIdx? (· == p) = none := by
    rw [List.findIdx?_eq_none_iff]
    intro x hx
    obtain ⟨j, hj⟩ := List.mem_iff_getElem?.1 hx
    exact ha j x hj
  unfold spaceF
  rw [this]
set_option maxHeartbeats 1000000 in
theorem rspace_L (nm : Nam) (p : List UInt8) (hn : nm.ok) : callL Tryz.prog (ext11b chk) 86 [.agg nm.cs, .str p] [] = some (.tuple [.str (spaceF nm p).1, .bool (spaceF nm p).2], [.no, .no], []) := by
  have lN := lenM nm.sps D.str
  have lP := lenM nm.pre D.str
  have hp1 := hn.1
  clear hn
  unfold Nam.cs
  refine callK (m := 31) (res := [4, 5]) (rs := [.tmp 4, .tmp 5]) rfl Tryz.func86 rfl rfl rfl rfl rfl ?_
  refine Gy ?_
  refine loopH (fun s => ∃ i : Nat, i ≤ nm.pre.length ∧ s.slot 6 = .int .i64 i ∧ s.slot 1 = .str p ∧ s.slot 2 = .ptr 2 1 0 ∧ (∃ rs, s.box 2 = some ⟨1, [.bool nm.has, .str nm.dft, .list (nm.pre.map .str), .list (nm.sps.map .str)], rs⟩) ∧ (∀ (j : Nat) y, j < i → nm.pre[j]? = some y → (y == p) = false)) (fun s => nm.pre.length - slotI s 6) ?_ ?_
  · exact ⟨0, Nat.zero_le _, Iy, Iy, Iy, ⟨(padR [] 4).take 4, Iy⟩, fun j y hj => absurd hj (Nat.not_lt_zero j)⟩
  · rintro s K ⟨i, hi, h6, h1, h2, ⟨rs, hb⟩, hany⟩ hn hx hr
    have hany' := Hd.mk hany
    clear hany
    by_cases hlt : i < nm.pre.length
    · obtain ⟨x, hxl⟩ : ∃ x, nm.pre[i]? = some x := ⟨nm.pre[i], List.getElem?_eq_getElem hlt⟩
      have hlt' : (i : Int) < nm.pre.length := by omega
      have hgd : (nm.pre.map D.str).getD i .bad = .str x := by simp [List.getD, hxl]
      have hw1 := wrapS i (by omega)
      cases htx : (x == p) with
      | true =>
        have hres := space_hit hany' hxl htx
        by_cases hs : i < nm.sps.length
        · have hg := str_getD hs
          have hs2 : (i : Int) < nm.sps.length := by omega
          clear hs
          rw [hres] at hr
          refine Gy ?_
          exact hr _ Wy
        · have hg := str_over hs
          have hs2 : ¬ (i : Int) < nm.sps.length := by omega
          clear hs
          rw [hres] at hr
          refine Gy ?_
          exact hr _ Wy
      | false =>
        refine Gy ?_
        refine hn _ ⟨i + 1, hlt, ?_, ?_, ?_, ⟨rs, ?_⟩, ?_⟩ ?_
        ·exact L
        ·exact L
        ·exact L
        ·exact L
        · intro j y hj hy
          rcases Nat.lt_succ_iff_lt_or_eq.1 hj with h | rfl
          · exact hany' j y h hy
          · rw [hxl] at hy
            injection hy with hy
            rw [← hy]
            exact htx
        ·exact Zy
    · have hge : ¬ (i : Int) < nm.pre.length := by omega
      have hres := space_no (nm := nm) (p := p) fun j y hy => hany' j y (by have := (List.getElem?_eq_some_iff.1 hy).1; omega) hy
      rw [hres] at hx
      refine Gy ?_
      exact hx 0 _ Wy
end Go.Av
namespace Go.Av
open Go.Proofs
variable [Rk] {chk : List D → Bool}
end Go.Av
namespace Go.Av
open Go.Proofs
variable [Rk] {chk : List D → Bool}
end Go.Av
namespace Go.Av
open Go.Proofs
variable [Rk] {chk : List D → Bool}
end Go.Av
namespace Go.Av
open Go.Proofs
variable [Rk] {chk : List D → Bool}
end Go.Av
namespace Go.Av
open Go.Proofs
variable [Rk] {chk : List D → Bool}
end Go.Av
namespace Go.Av
open Go.Proofs
variable [Rk] {chk : List D → Bool}
end Go.Av
namespace Go.Av
open Go.Proofs
variable [Rk] {chk : List D → Bool}
end Go.Av
namespace Go.Av
open Go.Proofs
variable [Rk] {chk : List D → Bool}
theorem drop_at {α : Type} {xs : List α} {i : Nat} {x : α} (hx : xs[i]? = some x) : xs.drop i = x :: xs.drop (i + 1) := by
  have h1 : i < xs.length := (List.getElem?_eq_some_iff.1 hx).1
  have e1 : xs[i] = x := (List.getElem?_eq_some_iff.1 hx).2
  rw [List.drop_eq_getElem_cons h1, e1]
theorem self_getD {l : List D} {i : Nat} {x : D} (h : l[i]? = some x) : l.getD i .bad = x := by simp [List.getD, h]
structure CntH (prog : Prop → Prop) (C : List D → Int) (call : List D → Prop) (s : D) : Prop where
  d : s = .agg [.int .i64 (sf s).kd, .int .i64 (sf s).ns, .str (sf s).pre, .str (sf s).nm, .int .i64 (sf s).op, .str (sf s).tx, .bool (sf s).fold, .int .i64 (sf s).mark, .int .i64 (sf s).a, .int .i64 (sf s).b, .list (sf s).of_]
  c : call (sf s).of_
  lo : 0 ≤ C (sf s).of_
  hi : C (sf s).of_ ≤ 1125899906842624
set_option maxHeartbeats 16000000 in
theorem count_step (C : List D → Int) (most deep : Int) (hm : 0 ≤ most ∧ most ≤ 1000) (hd : 0 ≤ deep ∧ deep ≤ 1000000) (l : List D) (hl : l.length ≤ 140737488355328)
    (hL : ∀ c ∈ l, c = .agg [.list (cxL c)] ∧ (cxL c).length ≤ 140737488355328 ∧ ∀ x ∈ cxL c, x = .agg [.int .i64 (cpC x), .list (cpL x)] ∧ (cpL x).length ≤ 140737488355328 ∧ ∀ s ∈ cpL x,
      CntH id C (fun o => deep ≤ 40 → callL Tryz.prog (ext11b chk) 59 [.list o, .int .i64 most, .int .i64 (deep + 1)] [] = some (.int .i64 (C o), [.no], [])) s) :
    callL Tryz.prog (ext11b chk) 59 [.list l, .int .i64 most, .int .i64 deep] [] = some (.int .i64 ((cntC C (badS deep) most l l.length).getD (most + 1)), [.no], []) := by
  have HL := Hd.mk hL
  have HM := Hd.mk hm
  have HD := Hd.mk hd
  have HN := Hd.mk hl
  clear hL hm hd hl
  obtain ⟨R, hR⟩ : ∃ R, Hd (R = (cntC C (badS deep) most l l.length).getD (most + 1)) := ⟨_, rfl⟩
  rw [← (show R = (cntC C (badS deep) most l l.length).getD (most + 1) from hR)]
  refine cK 114 6 Tryz.func59 ?_
  refine Gy ?_
  refine loopH (fun st => ∃ (i : Nat) (n : Int), i ≤ l.length ∧ st.slot 8 = .int .i64 i ∧ st.slot 0 = .list l ∧ st.slot 1 = .int .i64 most ∧ st.slot 2 = .int .i64 deep ∧ st.slot 7 = .int .i64 n ∧ st.room 7 = [] ∧ Hd (0 ≤ n ∧ n ≤ 1125899906852624) ∧ Hd (R = (cntC C (badS deep) most (l.drop i) n).getD (most + 1))) (fun st => l.length - slotI st 8) ?_ ?_
  · have hl : l.length ≤ 140737488355328 := HN
    exact ⟨0, (l.length : Int), Nat.zero_le _, Iy, Iy, Iy, Iy, Iy, Iy, Hd.mk ⟨by omega, by omega⟩, hR⟩
  · rintro st K ⟨i, n, hi, g8, g0, g1, g2, g7, gr, hnn, hO⟩ hn hx hr
    have hl : l.length ≤ 140737488355328 := HN
    have hO' : R = (cntC C (badS deep) most (l.drop i) n).getD (most + 1) := hO
    by_cases h : i < l.length
    · have g9 : (i : Int) < l.length := by omega
      have hw := wrapS i (by omega)
      obtain ⟨c, hc1⟩ := some_at h
      rw [drop_at hc1, cntC] at hO'
      by_cases h2 : n ≤ most
      · rw [if_pos h2] at hO'
        obtain ⟨e1, hx1, hX⟩ := (show ∀ c ∈ l, _ from HL) c (List.mem_of_getElem? hc1)
        have ha := (self_getD hc1).trans e1
        generalize cxL c = X at *
        obtain ⟨m1, m2⟩ := (show 0 ≤ most ∧ most ≤ 1000 from HM)
        obtain ⟨n1, n2⟩ := (show 0 ≤ n ∧ n ≤ 1125899906852624 from hnn)
        obtain ⟨n0, hn0⟩ : ∃ n0 : Int, n + (X.length : Int) = n0 := ⟨_, rfl⟩
        have hw2 : IntKind.i64.wrap (n + (X.length : Int)) = n0 := by rw [hn0]; exact wrap64 _ (by omega) (by omega)
        rw [hn0] at hO'
        have HI := Hd.mk h
        have HX := Hd.mk hX
        have HO := Hd.mk hO'
        have HX1 := Hd.mk hx1
        have HB : Hd (0 ≤ n0 ∧ n0 ≤ 1125899906852624) := Hd.mk ⟨by omega, by omega⟩
        clear hn0 hl hO hO' hx hX hc1 e1 hx1 h m1 m2 n1 n2 hnn hR
        refine Gy ?_
        clear h2
        refine loopH (fun st' => ∃ (k : Nat) (n : Int), k ≤ X.length ∧ st'.slot 9 = .int .i64 k ∧ st'.slot 8 = .int .i64 i ∧ st'.slot 0 = .list l ∧ st'.slot 1 = .int .i64 most ∧ st'.slot 2 = .int .i64 deep ∧ st'.slot 7 = .int .i64 n ∧ st'.room 7 = [] ∧ Hd (0 ≤ n ∧ n ≤ 1125899906852624) ∧ Hd (R = ((cntP C (badS deep) most (X.drop k) n).bind (cntC C (badS deep) most (l.drop (i + 1)))).getD (most + 1))) (fun st' => X.length - slotI st' 9) ?_ ?_
        · exact ⟨0, n0, Nat.zero_le _, Iy, Iy, Iy, Iy, Iy, Iy, Iy, HB, HO⟩
        · rintro st' K' ⟨k, n, hk, e9, e8, e0, e1, e2, e7, er, hnn, hO⟩ hn2 hx2 hr2
          have G8 := Hd.mk g8
          clear g0 g1 g2 g7 g8 gr HO hw2
          have hxl : X.length ≤ 140737488355328 := HX1
          have hO' : R = ((cntP C (badS deep) most (X.drop k) n).bind (cntC C (badS deep) most (l.drop (i + 1)))).getD (most + 1) := hO
          by_cases h : k < X.length
          · have g10 : (k : Int) < X.length := by omega
            have hw3 := wrapS k (by omega)
            obtain ⟨x, hx1⟩ := some_at h
            rw [drop_at hx1, cntP] at hO'
            by_cases h2 : n ≤ most
            · rw [if_pos h2] at hO'
              obtain ⟨f1, f2, hS⟩ := (show ∀ x ∈ X, _ from HX) x (List.mem_of_getElem? hx1)
              have hb := (self_getD hx1).trans f1
              generalize cpL x = Y at *
              generalize cpC x = cc at *
              have HK := Hd.mk h
              have HS := Hd.mk hS
              have HO := Hd.mk hO'
              have HY1 := Hd.mk f2
              have HN0 := hnn
              clear hO hO' hx2 hS hx1 f1 f2 h hxl hnn hn
              refine Gy ?_
              clear h2
              refine loopH (fun st2 => ∃ (m : Nat) (n : Int), m ≤ Y.length ∧ st2.slot 11 = .int .i64 m ∧ st2.slot 10 = .list Y ∧ st2.slot 9 = .int .i64 k ∧ st2.slot 8 = .int .i64 i ∧ st2.slot 0 = .list l ∧ st2.slot 1 = .int .i64 most ∧ st2.slot 2 = .int .i64 deep ∧ st2.slot 7 = .int .i64 n ∧ st2.room 7 = [] ∧ Hd (0 ≤ n ∧ n ≤ 1125899906852624) ∧ Hd (R = (((cntX C (badS deep) most (Y.drop m) n).bind (cntP C (badS deep) most (X.drop (k + 1)))).bind (cntC C (badS deep) most (l.drop (i + 1)))).getD (most + 1))) (fun st2 => Y.length - slotI st2 11) ?_ ?_
              · exact ⟨0, n, Nat.zero_le _, Iy, Iy, Iy, Iy, Iy, Iy, Iy, Iy, Iy, HN0, HO⟩
              · rintro st2 K2 ⟨m, n, hmm, u11, u10, u9, u8, u0, u1, u2, u7, ur, hnn, hO⟩ hn3 hx3 hr3
                have E9 := Hd.mk e9
                clear e0 e1 e2 e7 e8 e9 er HO HN0
                have hyl : Y.length ≤ 140737488355328 := HY1
                have hO' : R = (((cntX C (badS deep) most (Y.drop m) n).bind (cntP C (badS deep) most (X.drop (k + 1)))).bind (cntC C (badS deep) most (l.drop (i + 1)))).getD (most + 1) := hO
                by_cases h : m < Y.length
                · have g11 : (m : Int) < Y.length := by omega
                  have hw4 := wrapS m (by omega)
                  obtain ⟨s, hs1⟩ := some_at h
                  rw [drop_at hs1, cntX] at hO'
                  by_cases h2 : n ≤ most
                  · rw [if_pos h2] at hO'
                    obtain ⟨q1, q2, q3, q4⟩ := (show ∀ s ∈ Y, _ from HS) s (List.mem_of_getElem? hs1)
                    have hz := (self_getD hs1).trans q1
                    have hbad : badS deep s = (decide (100 < ((sf s).nm.length : Int)) || (decide (100 < ((sf s).pre.length : Int)) || (decide (100 < ((sf s).tx.length : Int)) || decide (40 < deep)))) := rfl
                    rw [hbad] at hO'
                    clear hbad
                    generalize sf s = S at *
                    obtain ⟨m1, m2⟩ := (show 0 ≤ most ∧ most ≤ 1000 from HM)
                    obtain ⟨d1, d2⟩ := (show 0 ≤ deep ∧ deep ≤ 1000000 from HD)
                    obtain ⟨n1, n2⟩ := (show 0 ≤ n ∧ n ≤ 1125899906852624 from hnn)
                    have hw5 : IntKind.i64.wrap (n + 1) = n + 1 := wrap64 _ (by omega) (by omega)
                    have hw6 : IntKind.i64.wrap (most + 1) = most + 1 := wrap64 _ (by omega) (by omega)
                    have hw7 : IntKind.i64.wrap (deep + 1) = deep + 1 := wrap64 _ (by omega) (by omega)
                    have HM0 := Hd.mk h
                    clear hO hx3 hs1 q1 h hyl hnn
                    by_cases c1 : (100 : Int) < (S.nm.length : Int)
                    · rw [decide_eq_true c1, Bool.true_or, if_pos rfl] at hO'
                      have hO2 : R = most + 1 := hO'
                      subst hO2
                      clear hn3 hn2 hO' m1 m2 d1 d2 n1 n2 q2 q3 q4
                      refine Gy ?_
                      refine hr3 _ ?_
                      refine hr2 _ ?_
                      exact hr _ Wy
                    rw [decide_eq_false c1, Bool.false_or] at hO'
                    by_cases c2 : (100 : Int) < (S.pre.length : Int)
                    · rw [decide_eq_true c2, Bool.true_or, if_pos rfl] at hO'
                      have hO2 : R = most + 1 := hO'
                      subst hO2
                      clear hn3 hn2 hO' m1 m2 d1 d2 n1 n2 q2 q3 q4
                      refine Gy ?_
                      refine hr3 _ ?_
                      refine hr2 _ ?_
                      exact hr _ Wy
                    rw [decide_eq_false c2, Bool.false_or] at hO'
                    by_cases c3 : (100 : Int) < (S.tx.length : Int)
                    · rw [decide_eq_true c3, Bool.true_or, if_pos rfl] at hO'
                      have hO2 : R = most + 1 := hO'
                      subst hO2
                      clear hn3 hn2 hO' m1 m2 d1 d2 n1 n2 q2 q3 q4
                      refine Gy ?_
                      refine hr3 _ ?_
                      refine hr2 _ ?_
                      exact hr _ Wy
                    rw [decide_eq_false c3, Bool.false_or] at hO'
                    by_cases c4 : (40 : Int) < deep
                    · rw [decide_eq_true c4, if_pos rfl] at hO'
                      have hO2 : R = most + 1 := hO'
                      subst hO2
                      clear hn3 hn2 hO' m1 m2 d1 d2 n1 n2 q2 q3 q4
                      refine Gy ?_
                      refine hr3 _ ?_
                      refine hr2 _ ?_
                      exact hr _ Wy
                    rw [decide_eq_false c4, if_neg (by decide)] at hO'
                    have hcall := q2 (by omega)
                    have hw8 : IntKind.i64.wrap (n + 1 + C S.of_) = n + 1 + C S.of_ := wrap64 _ (by omega) (by omega)
                    have HB : Hd (0 ≤ n + 1 + C S.of_ ∧ n + 1 + C S.of_ ≤ 1125899906852624) := Hd.mk ⟨by omega, by omega⟩
                    have HO2 := Hd.mk hO'
                    clear hO' hr3 hn2 hr2 hr m1 m2 d1 d2 n1 n2 q2 q3 q4
                    refine Gy ?_
                    refine hn3 _ ⟨m + 1, n + 1 + C S.of_, HM0, L, L, L, L, L, L, L, L, L, HB, HO2⟩ ?_
                    · have hm2 : m < Y.length := HM0
                      simp only [slotI, *, AVB, AVY, ↓reduceIte, Nat.reduceEqDiff, Nat.reduceLT, Nat.reduceLeDiff, reduceCtorEq, Nat.reduceBEq, String.reduceBEq, Nat.reduceAdd, Nat.reduceSub, Nat.reduceMul, Int.reduceLE, Int.reduceLT, Int.reduceToNat, Int.reduceBEq, Int.reduceBNe, List.zipWith, dIntBin]
                      omega
                  · rw [if_neg h2, Option.bind_some] at hO'
                    have HO2 := Hd.mk hO'
                    clear hO hO' hr3 hn3 hr2 hr hs1 hyl h
                    refine Gy ?_
                    refine hx3 _ _ ?_
                    refine Gy ?_
                    have hk2 : k < X.length := HK
                    refine hn2 _ ⟨k + 1, n, hk2, L, L, L, L, L, L, L, hnn, HO2⟩ ?_
                    · have e9 : st'.slot 9 = .int .i64 k := E9
                      simp only [slotI, *, AVB, AVY, ↓reduceIte, Nat.reduceEqDiff, Nat.reduceLT, Nat.reduceLeDiff, reduceCtorEq, Nat.reduceBEq, String.reduceBEq, Nat.reduceAdd, Nat.reduceSub, Nat.reduceMul, Int.reduceLE, Int.reduceLT, Int.reduceToNat, Int.reduceBEq, Int.reduceBNe, List.zipWith, dIntBin]
                      omega
                · have g11 : ¬ (m : Int) < Y.length := by omega
                  rw [List.drop_eq_nil_of_le (by omega), cntX, Option.bind_some] at hO'
                  have HO2 := Hd.mk hO'
                  clear hO hO' hr3 hn3 hr2 hr hyl h
                  refine Gy ?_
                  refine hx3 _ _ ?_
                  refine Gy ?_
                  have hk2 : k < X.length := HK
                  refine hn2 _ ⟨k + 1, n, hk2, L, L, L, L, L, L, L, hnn, HO2⟩ ?_
                  · have e9 : st'.slot 9 = .int .i64 k := E9
                    simp only [slotI, *, AVB, AVY, ↓reduceIte, Nat.reduceEqDiff, Nat.reduceLT, Nat.reduceLeDiff, reduceCtorEq, Nat.reduceBEq, String.reduceBEq, Nat.reduceAdd, Nat.reduceSub, Nat.reduceMul, Int.reduceLE, Int.reduceLT, Int.reduceToNat, Int.reduceBEq, Int.reduceBNe, List.zipWith, dIntBin]
                    omega
            · rw [if_neg h2, Option.bind_some] at hO'
              have HO2 := Hd.mk hO'
              clear hO hO' hr2 hn2 hx1 hxl h hr
              refine Gy ?_
              refine hx2 _ _ ?_
              refine Gy ?_
              have hi2 : i < l.length := HI
              refine hn _ ⟨i + 1, n, hi2, L, L, L, L, L, L, hnn, HO2⟩ ?_
              · have g8 : st.slot 8 = .int .i64 i := G8
                simp only [slotI, *, AVB, AVY, ↓reduceIte, Nat.reduceEqDiff, Nat.reduceLT, Nat.reduceLeDiff, reduceCtorEq, Nat.reduceBEq, String.reduceBEq, Nat.reduceAdd, Nat.reduceSub, Nat.reduceMul, Int.reduceLE, Int.reduceLT, Int.reduceToNat, Int.reduceBEq, Int.reduceBNe, List.zipWith, dIntBin]
                omega
          · have g10 : ¬ (k : Int) < X.length := by omega
            rw [List.drop_eq_nil_of_le (by omega), cntP, Option.bind_some] at hO'
            have HO2 := Hd.mk hO'
            clear hO hO' hr2 hn2 hxl h hr
            refine Gy ?_
            refine hx2 _ _ ?_
            refine Gy ?_
            have hi2 : i < l.length := HI
            refine hn _ ⟨i + 1, n, hi2, L, L, L, L, L, L, hnn, HO2⟩ ?_
            · have g8 : st.slot 8 = .int .i64 i := G8
              simp only [slotI, *, AVB, AVY, ↓reduceIte, Nat.reduceEqDiff, Nat.reduceLT, Nat.reduceLeDiff, reduceCtorEq, Nat.reduceBEq, String.reduceBEq, Nat.reduceAdd, Nat.reduceSub, Nat.reduceMul, Int.reduceLE, Int.reduceLT, Int.reduceToNat, Int.reduceBEq, Int.reduceBNe, List.zipWith, dIntBin]
              omega
      · rw [if_neg h2] at hO'
        have hO2 : R = n := hO'
        subst hO2
        clear hO hO' hn hr hl hR hc1 h hw
        refine Gy ?_
        exact hx _ _ Wy
    · have g9 : ¬ (i : Int) < l.length := by omega
      rw [List.drop_eq_nil_of_le (by omega), cntC] at hO'
      have hO2 : R = n := hO'
      subst hO2
      clear hO hO' hn hr hl hR h
      refine Gy ?_
      exact hx _ _ Wy
end Go.Av
namespace Go.Av
open Go.Proofs
section
variable {C : List D → Int} {bad : D → Bool} {most B M : Int}
theorem cntX_bd : ∀ (x : List D) (n r : Int), (∀ s ∈ x, bad s = false → C (sf s).of_ ≤ B) → cntX C bad most x n = some r → r ≤ max n (most + 1 + B)
  | [], n, r, _, h => by simp only [cntX, Option.some.injEq] at h; omega
  | s :: x, n, r, hC, h => by
    rw [cntX] at h
    split at h
    · split at h
      · cases h
      · rename_i h1 h2
        have h3 := hC s (List.mem_cons_self ..) (by simpa using h2)
        have h4 := cntX_bd x _ r (fun s hs => hC s (List.mem_cons_of_mem _ hs)) h
        omega
    · simp only [Option.some.injEq] at h; omega
theorem cntP_bd : ∀ (x : List D) (n r : Int), (∀ c ∈ x, ∀ s ∈ cpL c, bad s = false → C (sf s).of_ ≤ B) → cntP C bad most x n = some r → r ≤ max n (most + 1 + B)
  | [], n, r, _, h => by simp only [cntP, Option.some.injEq] at h; omega
  | c :: x, n, r, hC, h => by
    rw [cntP] at h
    split at h
    · cases e : cntX C bad most (cpL c) n with
      | none => rw [e] at h; cases h
      | some q =>
        rw [e] at h
        have h1 := cntX_bd _ _ _ (hC c (List.mem_cons_self ..)) e
        have h2 := cntP_bd x q r (fun c hc => hC c (List.mem_cons_of_mem _ hc)) h
        omega
    · simp only [Option.some.injEq] at h; omega
theorem cntC_bd : ∀ (x : List D) (n r : Int), (∀ d ∈ x, ((cxL d).length : Int) ≤ M) → (∀ d ∈ x, ∀ c ∈ cxL d, ∀ s ∈ cpL c, bad s = false → C (sf s).of_ ≤ B) → cntC C bad most x n = some r → r ≤ max n (max (most + M) (most + 1 + B))
  | [], n, r, _, _, h => by simp only [cntC, Option.some.injEq] at h; omega
  | d :: x, n, r, hM, hC, h => by
    rw [cntC] at h
    split at h
    · cases e : cntP C bad most (cxL d) (n + (cxL d).length) with
      | none => rw [e] at h; cases h
      | some q =>
        rw [e] at h
        have h0 := hM d (List.mem_cons_self ..)
        have h1 := cntP_bd _ _ _ (hC d (List.mem_cons_self ..)) e
        have h2 := cntC_bd x q r (fun c hc => hM c (List.mem_cons_of_mem _ hc)) (fun c hc => hC c (List.mem_cons_of_mem _ hc)) h
        omega
    · simp only [Option.some.injEq] at h; omega
end
theorem cnt_bd {most : Int} (hm : 0 ≤ most) {m : Nat} : ∀ (f : Nat) (d : Nat) (l : List D), lsOk m (smOk m f) l = true → cnt most (f + 1) l d ≤ m + (most + 2) * (((41 - d : Nat) : Int) + 1)
  | f, d, l, h => by
    unfold cnt
    obtain ⟨h1, h2⟩ := lsOk_mem h
    have hp : 0 ≤ (most + 2) * ((41 - d : Nat) : Int) := Int.mul_nonneg (by omega) (by omega)
    have he : (most + 2) * (((41 - d : Nat) : Int) + 1) = (most + 2) * ((41 - d : Nat) : Int) + (most + 2) := by rw [Int.mul_add, Int.mul_one]
    cases e : cntC (fun of_ => cnt most f of_ ((d : Int) + 1)) (badS d) most l l.length with
    | none => simp only [Option.getD_none]; omega
    | some r =>
      simp only [Option.getD_some]
      have key := cntC_bd (B := m + (most + 2) * ((41 - d : Nat) : Int)) (M := m) l l.length r (fun c hc => by obtain ⟨l1, rfl, g, _⟩ := cxOk_inv (h2 c hc); show ((l1.length : Nat) : Int) ≤ m; omega) (fun c hc x hx s hs hb => ?_) e
      · omega
      · have hd : d ≤ 40 := by
          unfold badS at hb
          simp only [Bool.or_eq_false_iff, decide_eq_false_iff_not] at hb
          omega
        have h3 := lsOk_s h c hc x hx s hs
        cases f with
        | zero => simp [smOk] at h3
        | succ f =>
          obtain ⟨_, _, _, _, h4⟩ := smOk_inv h3
          have h5 := cnt_bd hm f (d + 1) (sf s).of_ h4
          have h6 : (((41 - (d + 1) : Nat) : Int) + 1) = ((41 - d : Nat) : Int) := by omega
          rw [h6] at h5
          exact h5
theorem count_L [Rk] {chk : List D → Bool} {most : Int} (hm : 0 ≤ most ∧ most ≤ 1000) : ∀ (f : Nat) (d : Nat) (l : List D), d ≤ 41 → lsOk 140737488355328 (smOk 140737488355328 f) l = true →
    callL Tryz.prog (ext11b chk) 59 [.list l, .int .i64 most, .int .i64 d] [] = some (.int .i64 (cnt most (f + 1) l d), [.no], [])
  | f, d, l, hd, h => by
    obtain ⟨h1, h2⟩ := lsOk_mem h
    refine count_step (chk := chk) (fun of_ => cnt most f of_ ((d : Int) + 1)) most d hm ⟨by omega, by omega⟩ l h1 fun c hc => ?_
    obtain ⟨l1, rfl, g1, g2⟩ := cxOk_inv (h2 c hc)
    refine ⟨rfl, g1, fun x hx => ?_⟩
    obtain ⟨cc, l2, rfl, g3, g4⟩ := cpOk_inv (g2 x hx)
    refine ⟨rfl, g3, fun s hs => ?_⟩
    have h3 := g4 s hs
    cases f with
    | zero => simp [smOk] at h3
    | succ f =>
      obtain ⟨e, _, _, _, h4⟩ := smOk_inv h3
      refine ⟨e, fun h40 => ?_, cnt_nonneg hm.1 _ _ _, ?_⟩
      · have := count_L (chk := chk) hm f (d + 1) (sf s).of_ (by omega) h4
        exact this
      · have := cnt_bd hm.1 f (d + 1) (sf s).of_ h4
        have h5 : (most + 2) * (((41 - (d + 1) : Nat) : Int) + 1) ≤ 1002 * 42 := Int.mul_le_mul (by omega) (by omega) (by omega) (by omega)
        have h6 : cnt most (f + 1) (sf s).of_ ((d : Int) + 1) = cnt most (f + 1) (sf s).of_ ((d + 1 : Nat) : Int) := rfl
        show cnt most (f + 1) (sf s).of_ ((d : Int) + 1) ≤ _
        rw [h6]
        omega
end Go.Av
namespace Go.Av
open Go.Proofs
variable [Rk] {chk : List D → Bool}
def numB (s : Sf) : Bool := decide ((1099511627776 : Int) < max s.a s.b) || decide (min s.a s.b < (-1099511627776 : Int))
def numX (N : List D → Bool) (s : D) : Bool := numB (sf s) || N (sf s).of_
def numP (N : List D → Bool) (x : D) : Bool := (cpL x).any (numX N)
def numC (N : List D → Bool) (c : D) : Bool := (cxL c).any (numP N)
def nums : Nat → List D → Bool
  | 0, _ => false
  | f + 1, l => l.any (numC (nums f))
end Go.Av
namespace Go.Av
open Go.Proofs
variable [Rk] {chk : List D → Bool}
def longS (s : List UInt8) : Bool := decide ((100 : Int) < s.length)
def gnF (nm : Nam) : Bool := decide ((30 : Int) < nm.pre.length) || (decide ((30 : Int) < nm.sps.length) || (decide ((100 : Int) < nm.dft.length) || (nm.pre ++ nm.sps).any longS))
set_option maxHeartbeats 4000000 in
theorem gnames_L (nm : Nam) (h1 : nm.pre.length ≤ 140737488355328) (h2 : nm.sps.length ≤ 140737488355328) : callL Tryz.prog (ext11b chk) 31 [.agg nm.cs] [] = some (.bool (gnF nm), [.no], []) := by
  unfold gnF Nam.cs
  have lP := lenM nm.pre D.str
  have lS := lenM nm.sps D.str
  have lQ := lenM (nm.pre ++ nm.sps) D.str
  have hap : nm.pre.map D.str ++ nm.sps.map D.str = (nm.pre ++ nm.sps).map D.str := by simp
  have l0P := lenM0 nm.pre D.str
  have l0S := lenM0 nm.sps D.str
  by_cases c1 : (30 : Int) < nm.pre.length
  · rw [decide_eq_true c1, Bool.true_or]
    clear hap lQ
    exact cWy 37 2 Tryz.func31
  rw [decide_eq_false c1, Bool.false_or]
  by_cases c2 : (30 : Int) < nm.sps.length
  · rw [decide_eq_true c2, Bool.true_or]
    clear hap lQ
    exact cWy 37 2 Tryz.func31
  rw [decide_eq_false c2, Bool.false_or]
  by_cases c3 : (100 : Int) < nm.dft.length
  · rw [decide_eq_true c3, Bool.true_or]
    clear hap lQ
    exact cWy 37 2 Tryz.func31
  rw [decide_eq_false c3, Bool.false_or]
  have hz1 : szOk 1 (nm.pre.map D.str) = true := by cases nm.pre <;> rfl
  have hz2 : szOk 1 (nm.sps.map D.str) = true := by cases nm.sps <;> rfl
  have hz0 : lenOk (0 + nm.pre.length) 16 = true := lenOk_small (by omega)
  have hz3 : lenOk (nm.pre.length + nm.sps.length) 16 = true := lenOk_small (by omega)
  have hz4 : lenOk nm.pre.length 16 = true := lenOk_small (by omega)
  have hlen : (nm.pre ++ nm.sps).length ≤ 60 := by rw [List.length_append]; omega
  have HL := Hd.mk hlen
  clear h1 h2 hlen
  obtain ⟨Q, hQ⟩ : ∃ Q, nm.pre ++ nm.sps = Q := ⟨_, rfl⟩
  rw [hQ] at lQ hap HL ⊢
  clear hQ
  obtain ⟨R, hR⟩ : ∃ R, Hd (R = Q.any longS) := ⟨_, rfl⟩
  rw [← (show R = Q.any longS from hR)]
  refine cK 37 2 Tryz.func31 ?_
  repeat' (first|simp only [*, AVB, AVY, ↓reduceIte, Nat.reduceEqDiff, Nat.reduceLT, Nat.reduceLeDiff, reduceCtorEq, Nat.reduceBEq, String.reduceBEq, Nat.reduceAdd, Nat.reduceSub, Nat.reduceMul, Int.reduceLE, Int.reduceLT, Int.reduceToNat, Int.reduceBEq, Int.reduceBNe, List.zipWith, dIntBin]|refine drW_intro (by kernel_rfl) ?_)
  refine loopH (fun st => ∃ i : Nat, i ≤ Q.length ∧ st.slot 29 = .int .i64 i ∧ st.slot 28 = .int .i64 Q.length ∧ st.slot 27 = .list (Q.map D.str) ∧ Hd (R = (Q.drop i).any longS)) (fun st => Q.length - slotI st 29) ?_ ?_
  · exact ⟨0, Nat.zero_le _, Iy, Iy, Iy, hR⟩
  · rintro st K ⟨i, hi, g29, g28, g27, hO⟩ hn hx hr
    have hl : Q.length ≤ 60 := HL
    have hO' : R = (Q.drop i).any longS := hO
    by_cases h : i < Q.length
    · have k9 : (i : Int) < Q.length := by omega
      have hw := wrapS i (by omega)
      obtain ⟨x, hx1⟩ := some_at h
      rw [any_drop _ hx1] at hO'
      have ha : (Q.map D.str).getD i .bad = .str x := getD_map (f := D.str) hx1
      unfold longS at hO'
      clear hO hx hx1 hR hap hz1 hz2 hz0 hz3 hz4 c1 c2 c3
      by_cases c4 : (100 : Int) < x.length
      · rw [decide_eq_true c4, Bool.true_or] at hO'
        subst hO'
        clear hn
        refine Gy ?_
        exact hr _ Wy
      · rw [decide_eq_false c4, Bool.false_or] at hO'
        have HO := Hd.mk hO'
        clear hO' hr
        refine Gy ?_
        exact hn _ ⟨i + 1, h, L, L, L, HO⟩ Zy
    · have k9 : ¬ (i : Int) < Q.length := by omega
      rw [any_end _ (by omega)] at hO'
      subst hO'
      clear hO hn hr hl hR hap hz1 hz2 hz0 hz3 hz4 c1 c2 c3
      refine Gy ?_
      exact hx _ _ Wy
set_option maxHeartbeats 1000000 in
theorem great28_L {M f : Nat} (l : List D) (most : Int) (hm : 0 ≤ most ∧ most ≤ 1000) (h : lsOk 140737488355328 (smOk 140737488355328 f) l = true) :
    callL Tryz.prog (ext11b chk) 32 [.list l, .int .i64 most] [] = some (.bool (decide (most < cnt most (f + 1) l 0)), [.no], []) := by
  have hc : callL Tryz.prog (ext11b chk) 59 [.list l, .int .i64 most, .int .i64 0] [] = some (.int .i64 (cnt most (f + 1) l 0), [.no], []) := count_L (chk := chk) hm f 0 l (by decide) h
  generalize cnt most (f + 1) l 0 = z at *
  clear h
  exact cWy 10 4 Tryz.func32
end Go.Av
namespace Go.Av
def tmD (k n : Int) (ts : List D) : D := .agg [.int .i64 k, .int .i64 n, .list ts]
structure Atm where
  kd : Int
  has : Bool
  sp : List UInt8
  nm : List UInt8
  op : Int
  tx : List UInt8
  fold : Bool
  deriving DecidableEq
def Atm.d (a : Atm) : D := .agg [.int .i64 a.kd, .bool a.has, .str a.sp, .str a.nm, .int .i64 a.op, .str a.tx, .bool a.fold]
structure Rw where
  first : Nat
  steps : List (Int × List D)
  ps : List UInt8
def stpD (x : Int × List D) : D := .agg [.int .i64 x.1, .list x.2]
def Rw.d (r : Rw) : D := .agg [.int .i64 (r.first : Nat), .list (r.steps.map stpD), .str r.ps]
structure Ct where
  a : Int
  b : Int
  rows : List Int
def Ct.d (c : Ct) : D := .agg [.int .i64 c.a, .int .i64 c.b, .list (c.rows.map (.int .i64))]
structure Pn where
  atoms : List Atm
  rows : List Rw
  cts : List Ct
  steps : Nat
def Pn.sz (p : Pn) : Nat := p.atoms.length + p.rows.length + p.cts.length + p.steps
def atomP (a : Atm) (p : Pn) : D × Pn := match p.atoms.findIdx? (· == a) with
  | some i => (tmD 1 (i : Nat) [], p)
  | none => (tmD 1 (p.atoms.length : Nat) [], { p with atoms := p.atoms ++ [a] })
def spaceP (nm : Nam) (ns : Int) (pre : List UInt8) (attr : Bool) : Bool × List UInt8 :=
  if ns = 1 ∨ (ns = 0 ∧ attr = false ∧ nm.has = false) then (false, []) else if ns = 0 ∧ attr = false then (true, nm.dft) else if ns = 3 then (true, (spaceF nm pre).1) else (true, [])
def elemP (nm : Nam) (name : List UInt8) (ns : Int) (pre : List UInt8) (p : Pn) : D × Pn :=
  if name = [] ∧ (spaceP nm ns pre false).1 = false then (tmD 7 0 [], p) else atomP ⟨1, (spaceP nm ns pre false).1, (spaceP nm ns pre false).2, name, 0, [], false⟩ p
def plainP (name : List UInt8) (op : Int) (text : List UInt8) (p : Pn) : D × Pn := atomP ⟨2, true, [], name, op, text, false⟩ p
def notD (t : D) : D := tmD 3 0 [t]
def someP (r : List Int × Pn) : D × Pn := (tmD 4 0 (r.1.map fun n => tmD 2 n []), r.2)
def linkP (nm : Nam) (p : Pn) : D × Pn :=
  let a := elemP nm [97] 0 [] p
  let b := elemP nm sArea 0 [] a.2
  let c := plainP sHref 1 [] b.2
  (notD (tmD 4 0 [notD (tmD 4 0 [a.1, b.1]), notD c.1]), c.2)
def nthP (a b : Int) (r : List Int × Pn) : D × Pn := (tmD 5 (r.2.cts.length : Nat) [], { r.2 with cts := r.2.cts ++ [⟨a, b, r.1⟩] })
def termP (L : List D → Pn → List Int × Pn) (nm : Nam) (s : Sf) (p : Pn) : D × Pn :=
  if s.kd = 1 ∨ s.kd = 2 then elemP nm s.nm s.ns s.pre p
  else if s.kd = 3 then plainP sClass 3 s.nm p
  else if s.kd = 4 then plainP sId 2 s.nm p
  else if s.kd = 5 then atomP ⟨2, (spaceP nm s.ns s.pre true).1, (spaceP nm s.ns s.pre true).2, s.nm, s.op, s.tx, s.fold⟩ p
  else if s.kd = 11 then atomP ⟨3, false, [], s.nm, 0, [], false⟩ p
  else if s.kd = 6 then (tmD 6 0 [], p)
  else if s.kd = 8 ∨ s.kd = 9 then someP (L s.of_ p)
  else if s.kd = 10 then (notD (someP (L s.of_ p)).1, (someP (L s.of_ p)).2)
  else if s.kd = 7 then nthP s.a s.b (L s.of_ p)
  else if s.kd = 12 then linkP nm p
  else (tmD 7 0 [], p)
def mapP {α β : Type} (f : α → Pn → β × Pn) : List α → Pn → List β × Pn
  | [], p => ([], p)
  | x :: r, p => ((f x p).1 :: (mapP f r (f x p).2).1, (mapP f r (f x p).2).2)
def compP (T : D → Pn → D × Pn) (x : D) (p : Pn) : (Int × List D) × Pn := ((cpC x, (mapP T (cpL x) p).1), (mapP T (cpL x) p).2)
def endP (c : D) (r : List (Int × List D) × Pn) : Int × Pn := ((r.2.rows.length : Nat), { r.2 with rows := r.2.rows ++ [⟨r.2.steps, r.1, pseudoF c⟩], steps := r.2.steps + (cxL c).length })
def rowP (T : D → Pn → D × Pn) (c : D) (p : Pn) : Int × Pn := endP c (mapP (compP T) (cxL c) p)
def termK (nm : Nam) : Nat → Sf → Pn → D × Pn
  | 0, _, p => (tmD 7 0 [], p)
  | k + 1, s, p => termP (fun l p => mapP (rowP fun s p => termK nm k (sf s) p) l p) nm s p
def listP (nm : Nam) (k : Nat) (l : List D) (p : Pn) : List Int × Pn := mapP (rowP fun s p => termK nm k (sf s) p) l p
theorem termK_succ (nm : Nam) (k : Nat) (s : Sf) (p : Pn) : termK nm (k + 1) s p = termP (listP nm k) nm s p := rfl
theorem mapP_snoc {α β : Type} (f : α → Pn → β × Pn) : ∀ (l : List α) (x : α) (p : Pn), mapP f (l ++ [x]) p = ((mapP f l p).1 ++ [(f x (mapP f l p).2).1], (f x (mapP f l p).2).2)
  | [], x, p => rfl
  | y :: r, x, p => by
    rw [List.cons_append, mapP, mapP_snoc f r x]
    rfl
theorem mapP_len {α β : Type} (f : α → Pn → β × Pn) : ∀ (l : List α) (p : Pn), (mapP f l p).1.length = l.length
  | [], p => rfl
  | y :: r, p => by rw [mapP, List.length_cons, mapP_len f r]; rfl
theorem mapP_take {α β : Type} (f : α → Pn → β × Pn) {l : List α} {i : Nat} {x : α} (h : l[i]? = some x) (p : Pn) : mapP f (l.take (i + 1)) p = ((mapP f (l.take i) p).1 ++ [(f x (mapP f (l.take i) p).2).1], (f x (mapP f (l.take i) p).2).2) := by
  rw [List.take_add_one, h]
  exact mapP_snoc f _ x p
theorem mapP_all {α β : Type} {f : α → Pn → β × Pn} {I : Pn → Prop} {Q : β → Prop} : ∀ (l : List α) (p : Pn), (∀ x ∈ l, ∀ p, I p → I (f x p).2 ∧ Q (f x p).1) → I p → I (mapP f l p).2 ∧ ∀ y ∈ (mapP f l p).1, Q y
  | [], p, _, h => ⟨h, fun y hy => by cases hy⟩
  | x :: r, p, hf, h => by
    obtain ⟨h1, h2⟩ := hf x (List.mem_cons_self ..) p h
    obtain ⟨h3, h4⟩ := mapP_all r _ (fun y hy => hf y (List.mem_cons_of_mem _ hy)) h1
    refine ⟨h3, fun y hy => ?_⟩
    rcases List.mem_cons.1 hy with rfl | hy
    · exact h2
    · exact h4 y hy
def costX (C : D → Nat) (l : List D) : Nat := (l.map C).sum
def costP (C : D → Nat) (l : List D) : Nat := (l.map fun x => 1 + costX C (cpL x)).sum
def costC (C : D → Nat) (l : List D) : Nat := (l.map fun c => 1 + costP C (cxL c)).sum
def costS : Nat → D → Nat
  | 0, _ => 0
  | k + 1, s => 1 + costC (costS k) (sf s).of_
def costL (k : Nat) (l : List D) : Nat := costC (costS k) l
theorem mapP_sz {α β : Type} {f : α → Pn → β × Pn} {g : α → Nat} : ∀ (l : List α) (p : Pn), (∀ x ∈ l, ∀ p, (f x p).2.sz ≤ p.sz + g x) → (mapP f l p).2.sz ≤ p.sz + (l.map g).sum
  | [], p, _ => by simp [mapP]
  | x :: r, p, h => by
    have h1 := h x (List.mem_cons_self ..) p
    have h2 := mapP_sz r (f x p).2 fun y hy => h y (List.mem_cons_of_mem _ hy)
    rw [mapP, List.map_cons, List.sum_cons]
    dsimp only
    omega
theorem atomP_sz (a : Atm) (p : Pn) : (atomP a p).2.sz ≤ p.sz + 1 := by
  unfold atomP
  split
  · exact Nat.le_succ _
  · simp only [Pn.sz, List.length_append, List.length_singleton]; omega
theorem elemP_sz (nm : Nam) (name : List UInt8) (ns : Int) (pre : List UInt8) (p : Pn) : (elemP nm name ns pre p).2.sz ≤ p.sz + 1 := by
  unfold elemP
  split
  · exact Nat.le_succ _
  · exact atomP_sz _ _
theorem termP_sz {L : List D → Pn → List Int × Pn} {C : List D → Nat} (hL : ∀ l p, (L l p).2.sz ≤ p.sz + 3 * C l) (nm : Nam) (s : Sf) (p : Pn) : (termP L nm s p).2.sz ≤ p.sz + 3 * (1 + C s.of_) := by
  have hl := hL s.of_ p
  have h0 : p.sz ≤ p.sz + 3 * (1 + C s.of_) := Nat.le_add_right _ _
  have h1 : ∀ a, (atomP a p).2.sz ≤ p.sz + 3 * (1 + C s.of_) := fun a => by have := atomP_sz a p; omega
  unfold termP
  split
  · have := elemP_sz nm s.nm s.ns s.pre p; omega
  split
  · exact h1 _
  split
  · exact h1 _
  split
  · exact h1 _
  split
  · exact h1 _
  split
  · exact h0
  split
  · show (L s.of_ p).2.sz ≤ _; omega
  split
  · show (L s.of_ p).2.sz ≤ _; omega
  split
  · unfold nthP
    simp only [Pn.sz, List.length_append, List.length_singleton] at hl ⊢
    omega
  split
  · unfold linkP
    have a1 := elemP_sz nm [97] 0 [] p
    have a2 := elemP_sz nm sArea 0 [] (elemP nm [97] 0 [] p).2
    have a3 := atomP_sz ⟨2, true, [], sHref, 1, [], false⟩ (elemP nm sArea 0 [] (elemP nm [97] 0 [] p).2).2
    show (atomP _ _).2.sz ≤ _
    omega
  · exact h0
theorem sum_mul {α : Type} (g : α → Nat) : ∀ l : List α, (l.map fun x => 3 * g x).sum = 3 * (l.map g).sum
  | [] => rfl
  | x :: r => by rw [List.map_cons, List.sum_cons, sum_mul g r, List.map_cons, List.sum_cons]; omega
theorem sum_split {α : Type} (g : α → Nat) : ∀ l : List α, (l.map fun x => 1 + g x).sum = l.length + (l.map g).sum
  | [] => rfl
  | x :: r => by rw [List.map_cons, List.sum_cons, sum_split g r, List.map_cons, List.sum_cons, List.length_cons]; omega
theorem compP_sz {T : D → Pn → D × Pn} {C : D → Nat} (x : D) (hT : ∀ s ∈ cpL x, ∀ p, (T s p).2.sz ≤ p.sz + 3 * C s) (p : Pn) : (compP T x p).2.sz ≤ p.sz + 3 * costX C (cpL x) := by
  unfold compP costX
  rw [← sum_mul]
  exact mapP_sz (cpL x) p hT
theorem rowP_sz {T : D → Pn → D × Pn} {C : D → Nat} (c : D) (hT : ∀ x ∈ cxL c, ∀ s ∈ cpL x, ∀ p, (T s p).2.sz ≤ p.sz + 3 * C s) (p : Pn) : (rowP T c p).2.sz ≤ p.sz + 3 * (1 + costP C (cxL c)) := by
  have h2 : (mapP (compP T) (cxL c) p).2.sz ≤ p.sz + ((cxL c).map fun x => 3 * costX C (cpL x)).sum := mapP_sz _ _ fun x hx p => compP_sz x (hT x hx) p
  unfold costP
  rw [sum_split]
  rw [sum_mul] at h2
  show (Pn.mk _ (_ ++ [_]) _ (_ + (cxL c).length)).sz ≤ _
  simp only [Pn.sz, List.length_append, List.length_singleton] at h2 ⊢
  omega
theorem termK_sz (nm : Nam) : ∀ (k : Nat) (s : D) (p : Pn), (termK nm k (sf s) p).2.sz ≤ p.sz + 3 * costS k s
  | 0, s, p => Nat.le_add_right _ _
  | k + 1, s, p => by
    rw [termK_succ]
    refine termP_sz (C := costC (costS k)) (fun l p => ?_) nm (sf s) p
    unfold listP costC
    rw [← sum_mul]
    exact mapP_sz l p fun c _ p => rowP_sz c (fun x _ s _ p => termK_sz nm k s p) p
theorem listP_sz (nm : Nam) (k : Nat) (l : List D) (p : Pn) : (listP nm k l p).2.sz ≤ p.sz + 3 * costL k l := by
  unfold listP costL costC
  rw [← sum_mul]
  exact mapP_sz l p fun c _ p => rowP_sz c (fun x _ s _ p => termK_sz nm k s p) p
theorem mapP_at {α β : Type} {f : α → Pn → β × Pn} {g : α → Nat} {l : List α} (hf : ∀ x ∈ l, ∀ p, (f x p).2.sz ≤ p.sz + g x) {i : Nat} {x : α} (h : l[i]? = some x) (p : Pn) : (mapP f (l.take i) p).2.sz + g x ≤ p.sz + (l.map g).sum := by
  have h1 := mapP_sz (f := f) (g := g) (l.take i) p fun y hy => hf y (List.mem_of_mem_take hy)
  have h2 : (l.map g).sum = ((l.take i).map g).sum + ((l.drop i).map g).sum := by rw [← List.sum_append, ← List.map_append, List.take_append_drop]
  obtain ⟨hi, hx⟩ := List.getElem?_eq_some_iff.1 h
  have h3 : l.drop i = x :: l.drop (i + 1) := by rw [← hx]; exact List.drop_eq_getElem_cons hi
  rw [h3, List.map_cons, List.sum_cons] at h2
  omega
end Go.Av
namespace Go.Av
open Go.Proofs
variable [Rk] {chk : List D → Bool}
def Atm.cs (a : Atm) : List D := [.int .i64 a.kd, .bool a.has, .str a.sp, .str a.nm, .int .i64 a.op, .str a.tx, .bool a.fold]
theorem atm_eq (k k' : Int) (h h' : Bool) (s s' n n' : List UInt8) (o o' : Int) (t t' : List UInt8) (f f' : Bool) :
    dStructEq Tryz.prog 127 [.int .i64 k, .bool h, .str s, .str n, .int .i64 o, .str t, .bool f] [.int .i64 k', .bool h', .str s', .str n', .int .i64 o', .str t', .bool f'] = some ((⟨k, h, s, n, o, t, f⟩ : Atm) == ⟨k', h', s', n', o', t', f'⟩) := by
  have e : dStructEq Tryz.prog 127 [.int .i64 k, .bool h, .str s, .str n, .int .i64 o, .str t, .bool f] [.int .i64 k', .bool h', .str s', .str n', .int .i64 o', .str t', .bool f'] =
      (match some (k == k') with | some true => (match some (h == h') with | some true => (match some (s == s') with | some true => (match some (n == n') with | some true => (match (match some (o == o') with | some true => (match some (t == t') with | some true => (match some (f == f') with | some true => some true | r => r) | r => r) | r => r) with | some true => some true | r => r) | r => r) | r => r) | r => r) | r => r) := by kernel_rfl
  rw [e]
  have hb : ((⟨k, h, s, n, o, t, f⟩ : Atm) == ⟨k', h', s', n', o', t', f'⟩) = (k == k' && (h == h' && (s == s' && (n == n' && (o == o' && (t == t' && f == f')))))) := by
    rw [Bool.eq_iff_iff]
    simp only [beq_iff_eq, Bool.and_eq_true, Atm.mk.injEq]
  rw [hb]
  cases k == k' <;> cases h == h' <;> cases s == s' <;> cases n == n' <;> cases o == o' <;> cases t == t' <;> cases f == f' <;> rfl
end Go.Av
namespace Go.Av
open Go.Proofs
variable [Rk] {chk : List D → Bool}
def rmE (e : TypeId) (n : Nat) : Room := if n = 0 then .full else .own e
def penC (nm : Nam) (p : Pn) (ls : List D) : List D := [.bool nm.has, .str nm.dft, .list (nm.pre.map .str), .list (nm.sps.map .str), .list (p.atoms.map Atm.d), .list (p.rows.map Rw.d), .list (p.cts.map Ct.d), .list ls, .int .i64 (p.steps : Nat)]
def penR (p : Pn) (r7 : Room) : List Room := [.no, .no, .no, .no, rmE 127 p.atoms.length, rmE 63 p.rows.length, rmE 91 p.cts.length, r7, .no]
def penB (nm : Nam) (p : Pn) (ls : List D) (r7 : Room) : Bx := ⟨0, penC nm p ls, penR p r7⟩
theorem find_hit {l : List Atm} {a : Atm} {i : Nat} (ha : ∀ (j : Nat) y, j < i → l[j]? = some y → (y == a) = false) (h : l[i]? = some a) : l.findIdx? (· == a) = some i := by
  rw [List.findIdx?_eq_some_iff_getElem]
  obtain ⟨hi, h⟩ := List.getElem?_eq_some_iff.1 h
  refine ⟨hi, by rw [h]; simp, fun j hj => ?_⟩
  have := ha j l[j] hj (List.getElem?_eq_getElem (by omega))
  simpa using this
theorem find_no {l : List Atm} {a : Atm} (ha : ∀ (j : Nat) y, l[j]? = some y → (y == a) = false) : l.findIdx? (· == a) = none := by
  rw [List.findIdx?_eq_none_iff]
  intro x hx
  obtain ⟨j, hj⟩ := List.mem_iff_getElem?.1 hx
  exact ha j x hj
theorem szOk_map {α : Type} (f : α → D) (n : Nat) (h : ∀ x, (dcells (f x)).length = n) (l : List α) : szOk n (l.map f) = true := by
  cases l with
  | nil => rfl
  | cons x r => simp [szOk, h]
theorem pr4 (r a b c x : Room) : putR ([.no, .no, .no, .no, r, a, b, c, .no].set 4 .no) 4 1 [x] = [.no, .no, .no, .no, x, a, b, c, .no] := rfl
theorem pr5 (r a b c x : Room) : putR ([.no, .no, .no, .no, a, r, b, c, .no].set 5 .no) 5 1 [x] = [.no, .no, .no, .no, a, x, b, c, .no] := rfl
theorem pr6 (r a b c x : Room) : putR ([.no, .no, .no, .no, a, b, r, c, .no].set 6 .no) 6 1 [x] = [.no, .no, .no, .no, a, b, x, c, .no] := rfl
theorem pr7 (r a b c x : Room) : putR ([.no, .no, .no, .no, a, b, c, r, .no].set 7 .no) 7 1 [x] = [.no, .no, .no, .no, a, b, c, x, .no] := rfl
theorem lenLast {α : Type} (f : α → D) (l : List α) (x : D) (h : l.length ≤ 1000000) : IntKind.i64.wrap (((l.map f ++ [x]).length : Int) - 1) = (l.length : Nat) := by
  have e : (((l.map f ++ [x]).length : Nat) : Int) - 1 = (l.length : Int) := by rw [List.length_append, List.length_map]; simp
  rw [e]
  exact wrap64 _ (by omega) (by omega)
theorem rmE_ok (e : TypeId) (n : Nat) : rmE e n = .full ∨ rmE e n = .own e := by
  unfold rmE
  split
  · exact .inl rfl
  · exact .inr rfl
set_option maxHeartbeats 4000000 in
theorem atom_L (nm : Nam) (p : Pn) (ls : List D) (r7 : Room) (a : Atm) (hp : p.sz ≤ 1000000) : callL Tryz.prog (ext11b chk) 135 [.ptr 1000000 0 0, a.d] [penB nm p ls r7] = some ((atomP a p).1, [.no], [penB nm (atomP a p).2 ls r7]) := by
  have lA := lenM p.atoms Atm.d
  have hA : p.atoms.length ≤ 1000000 := by unfold Pn.sz at hp; omega
  clear hp
  refine callK (m := 48) (res := []) (rs := [.cell 4 119]) rfl Tryz.func135 rfl rfl rfl rfl rfl ?_
  unfold Atm.d penB penC penR
  generalize nm.pre.map D.str = L1 at *
  generalize nm.sps.map D.str = L2 at *
  refine Gy ?_
  refine loopH (fun s => ∃ i : Nat, i ≤ p.atoms.length ∧ s.slot 5 = .int .i64 i ∧ s.slot 0 = .ptr 1000000 0 0 ∧ s.slot 3 = .ptr 3 1 0 ∧ s.slot 4 = .ptr 4 1 0 ∧ s.box 1000000 = some ⟨0, [.bool nm.has, .str nm.dft, .list L1, .list L2, .list (p.atoms.map Atm.d), .list (p.rows.map Rw.d), .list (p.cts.map Ct.d), .list ls, .int .i64 (p.steps : Nat)], [.no, .no, .no, .no, rmE 127 p.atoms.length, rmE 63 p.rows.length, rmE 91 p.cts.length, r7, .no]⟩ ∧ (∃ rs, s.box 3 = some ⟨1, [.int .i64 a.kd, .bool a.has, .str a.sp, .str a.nm, .int .i64 a.op, .str a.tx, .bool a.fold], rs⟩) ∧ s.box 4 = some ⟨1, [.int .i64 0, .int .i64 0, .list []], [.no, .no, .full]⟩ ∧ (∀ (j : Nat) y, j < i → p.atoms[j]? = some y → (y == a) = false)) (fun s => p.atoms.length - slotI s 5) ?_ ?_
  · exact ⟨0, Nat.zero_le _, Iy, Iy, Iy, Iy, Iy, ⟨(padR [] 7).take 7, Iy⟩, Iy, fun j y hj => absurd hj (Nat.not_lt_zero j)⟩
  · rintro s K ⟨i, hi, h5, h0, h3, h4, hB, ⟨rs, hb⟩, hc, hany⟩ hn hx hr
    have hany' := Hd.mk hany
    clear hany
    by_cases hlt : i < p.atoms.length
    · obtain ⟨x, hxl⟩ : ∃ x, p.atoms[i]? = some x := ⟨p.atoms[i], List.getElem?_eq_getElem hlt⟩
      have hlt' : (i : Int) < p.atoms.length := by omega
      have hgd : (p.atoms.map Atm.d).getD i .bad = .agg [.int .i64 x.kd, .bool x.has, .str x.sp, .str x.nm, .int .i64 x.op, .str x.tx, .bool x.fold] := getD_map hxl
      have hw1 := wrapS i (by omega)
      have heq := atm_eq x.kd a.kd x.has a.has x.sp a.sp x.nm a.nm x.op a.op x.tx a.tx x.fold a.fold
      cases htx : (x == a) with
      | true =>
        rw [show ((⟨x.kd, x.has, x.sp, x.nm, x.op, x.tx, x.fold⟩ : Atm) == ⟨a.kd, a.has, a.sp, a.nm, a.op, a.tx, a.fold⟩) = true from htx] at heq
        have hres : atomP a p = (tmD 1 (i : Nat) [], p) := by
          unfold atomP
          rw [find_hit hany' (by rw [hxl, eq_of_beq htx])]
        rw [hres] at hr
        unfold tmD at hr
        refine Qy ?_
        exact hr _ Wy
      | false =>
        rw [show ((⟨x.kd, x.has, x.sp, x.nm, x.op, x.tx, x.fold⟩ : Atm) == ⟨a.kd, a.has, a.sp, a.nm, a.op, a.tx, a.fold⟩) = false from htx] at heq
        refine Qy ?_
        refine hn _ ⟨i + 1, hlt, L, L, L, L, L, ⟨rs, L⟩, L, ?_⟩ ?_
        · intro j y hj hy
          rcases Nat.lt_succ_iff_lt_or_eq.1 hj with h | rfl
          · exact hany' j y h hy
          · rw [hxl] at hy
            injection hy with hy
            rw [← hy]
            exact htx
        · exact Zy
    · have hge : ¬ (i : Int) < p.atoms.length := by omega
      have hil : i = p.atoms.length := by omega
      subst hil
      have hno := find_no (l := p.atoms) (a := a) fun j y hj => hany' j y (List.getElem?_eq_some_iff.1 hj).1 hj
      have hres : atomP a p = (tmD 1 (p.atoms.length : Nat) [], { p with atoms := p.atoms ++ [a] }) := by
        unfold atomP
        rw [hno]
      rw [hres] at hx
      unfold tmD at hx
      clear hany' hno hres
      have ea : (p.atoms ++ [a]).map Atm.d = p.atoms.map Atm.d ++ [.agg [.int .i64 a.kd, .bool a.has, .str a.sp, .str a.nm, .int .i64 a.op, .str a.tx, .bool a.fold]] := by rw [List.map_append]; rfl
      have er : rmE 127 (p.atoms ++ [a]).length = .own 127 := by unfold rmE; rw [if_neg (by simp)]
      have eo := rmE_ok 127 p.atoms.length
      have ez : szOk 7 (p.atoms.map Atm.d) = true := szOk_map Atm.d 7 (fun _ => rfl) _
      have el : (p.atoms.map Atm.d).length + 1 ≤ 1073741824 := by rw [List.length_map]; omega
      have ew : IntKind.i64.wrap (((p.atoms.map Atm.d ++ [D.agg [.int .i64 a.kd, .bool a.has, .str a.sp, .str a.nm, .int .i64 a.op, .str a.tx, .bool a.fold]]).length : Int) - 1) = (p.atoms.length : Nat) := lenLast Atm.d _ _ (by omega)
      have ep := pr4
      simp only [ea, er] at hx
      generalize rmE 127 p.atoms.length = r0 at *
      refine Gy ?_
      refine hx 0 _ ?_
      clear hx hr hn
      rcases eo with rfl | rfl
      · exact Wy
      · exact Wy
end Go.Av
namespace Go.Av
open Go.Proofs
variable [Rk] {chk : List D → Bool}
theorem atomP_fst (a : Atm) (p : Pn) : ∃ (i : Int) (q : Pn), atomP a p = (.agg [.int .i64 1, .int .i64 i, .list []], q) := by
  unfold atomP
  split
  · exact ⟨_, _, rfl⟩
  · exact ⟨_, _, rfl⟩
theorem nspace_L (nm : Nam) (p : Pn) (ls : List D) (r7 : Room) (ns : Int) (pre : List UInt8) (attr : Bool) (hn : nm.ok) : callL Tryz.prog (ext11b chk) 134 [.ptr 1000000 0 0, .int .i64 ns, .str pre, .bool attr] [penB nm p ls r7] =
    some (.tuple [.bool (spaceP nm ns pre attr).1, .str (spaceP nm ns pre attr).2], [.no, .no], [penB nm p ls r7]) := by
  have h3 := rspace_L (chk := chk) nm pre hn
  unfold Nam.cs at h3
  unfold penB penC penR spaceP
  generalize nm.pre.map D.str = L1 at *
  generalize nm.sps.map D.str = L2 at *
  generalize p.atoms.map Atm.d = L3 at *
  generalize p.rows.map Rw.d = L4 at *
  generalize p.cts.map Ct.d = L5 at *
  generalize rmE 127 p.atoms.length = r4 at *
  generalize rmE 63 p.rows.length = r5 at *
  generalize rmE 91 p.cts.length = r6 at *
  generalize (p.steps : Int) = st at *
  generalize (spaceF nm pre).1 = X1 at *
  generalize (spaceF nm pre).2 = X2 at *
  obtain ⟨has, dft, npre, nsps⟩ := nm
  dsimp only at *
  clear hn
  by_cases c1 : ns = 1
  · subst c1
    rw [if_pos (.inl rfl)]
    clear h3
    exact callK (m := 53) (res := [8, 9]) (rs := [.tmp 8, .tmp 9]) rfl Tryz.func134 rfl rfl rfl rfl rfl Wy
  · by_cases c0 : ns = 0
    · subst c0
      clear c1 h3
      cases attr <;> cases has
      · rw [if_pos (.inr ⟨rfl, rfl, rfl⟩)]
        exact callK (m := 53) (res := [8, 9]) (rs := [.tmp 8, .tmp 9]) rfl Tryz.func134 rfl rfl rfl rfl rfl Wy
      · rw [if_neg (by simp), if_pos ⟨rfl, rfl⟩]
        exact callK (m := 53) (res := [8, 9]) (rs := [.tmp 8, .tmp 9]) rfl Tryz.func134 rfl rfl rfl rfl rfl Wy
      · rw [if_neg (by simp), if_neg (by simp), if_neg (by simp)]
        exact callK (m := 53) (res := [8, 9]) (rs := [.tmp 8, .tmp 9]) rfl Tryz.func134 rfl rfl rfl rfl rfl Wy
      · rw [if_neg (by simp), if_neg (by simp), if_neg (by simp)]
        exact callK (m := 53) (res := [8, 9]) (rs := [.tmp 8, .tmp 9]) rfl Tryz.func134 rfl rfl rfl rfl rfl Wy
    · have d1 : (ns == 1) = false := by simpa using c1
      have d0 : (ns == 0) = false := by simpa using c0
      rw [if_neg (fun h => h.elim c1 fun h => c0 h.1), if_neg (fun h => c0 h.1)]
      by_cases c3 : ns = 3
      · subst c3
        rw [if_pos rfl]
        exact callK (m := 53) (res := [8, 9]) (rs := [.tmp 8, .tmp 9]) rfl Tryz.func134 rfl rfl rfl rfl rfl Wy
      · have d3 : (ns == 3) = false := by simpa using c3
        rw [if_neg c3]
        clear h3
        exact callK (m := 53) (res := [8, 9]) (rs := [.tmp 8, .tmp 9]) rfl Tryz.func134 rfl rfl rfl rfl rfl Wy
theorem not_L {k n : Int} (t : List D) (rm : List Room) : callL Tryz.prog (ext11b chk) 137 [.agg [.int .i64 k, .int .i64 n, .list t]] [] = some (notD (tmD k n t), [.no], []) := by
  unfold notD tmD
  exact callK (m := 6) (res := []) (rs := [.cell 2 119]) rfl Tryz.func137 rfl rfl rfl rfl rfl Wy
theorem elem_L (nm : Nam) (p : Pn) (ls : List D) (r7 : Room) (name : List UInt8) (ns : Int) (pre : List UInt8) (hn : nm.ok) (hp : p.sz ≤ 1000000) : callL Tryz.prog (ext11b chk) 132 [.ptr 1000000 0 0, .str name, .int .i64 ns, .str pre] [penB nm p ls r7] =
    some ((elemP nm name ns pre p).1, [.no], [penB nm (elemP nm name ns pre p).2 ls r7]) := by
  have h1 := nspace_L (chk := chk) nm p ls r7 ns pre false hn
  have h2 := atom_L (chk := chk) nm p ls r7 ⟨1, (spaceP nm ns pre false).1, (spaceP nm ns pre false).2, name, 0, [], false⟩ hp
  unfold elemP
  generalize (spaceP nm ns pre false).1 = X1 at *
  generalize (spaceP nm ns pre false).2 = X2 at *
  unfold Atm.d at h2
  dsimp only at h2
  by_cases c : name = [] ∧ X1 = false
  · obtain ⟨rfl, rfl⟩ := c
    rw [if_pos ⟨rfl, rfl⟩]
    clear h2
    unfold penB penC penR at *
    unfold tmD
    exact callK (m := 31) (res := []) (rs := [.cell 8 119]) rfl Tryz.func132 rfl rfl rfl rfl rfl Wy
  · rw [if_neg c]
    obtain ⟨i, q, hq⟩ := atomP_fst ⟨1, X1, X2, name, 0, [], false⟩ p
    rw [hq] at h2 ⊢
    clear hq
    unfold penB penC penR at *
    have hc : (name == []) = false ∨ (name == []) = true ∧ X1 = true := by
      cases hx : (name == []) with
      | false => exact .inl rfl
      | true => exact .inr ⟨rfl, by cases X1 with | true => rfl | false => exact absurd ⟨by simpa using hx, rfl⟩ c⟩
    clear c
    rcases hc with hc | ⟨hc, rfl⟩
    · exact callK (m := 31) (res := []) (rs := [.cell 8 119]) rfl Tryz.func132 rfl rfl rfl rfl rfl Wy
    · exact callK (m := 31) (res := []) (rs := [.cell 8 119]) rfl Tryz.func132 rfl rfl rfl rfl rfl Wy
theorem plain_L (nm : Nam) (p : Pn) (ls : List D) (r7 : Room) (name : List UInt8) (op : Int) (tx : List UInt8) (hp : p.sz ≤ 1000000) : callL Tryz.prog (ext11b chk) 133 [.ptr 1000000 0 0, .str name, .int .i64 op, .str tx] [penB nm p ls r7] =
    some ((plainP name op tx p).1, [.no], [penB nm (plainP name op tx p).2 ls r7]) := by
  have h2 := atom_L (chk := chk) nm p ls r7 ⟨2, true, [], name, op, tx, false⟩ hp
  unfold plainP
  unfold Atm.d at h2
  dsimp only at h2
  obtain ⟨i, q, hq⟩ := atomP_fst ⟨2, true, [], name, op, tx, false⟩ p
  rw [hq] at h2 ⊢
  clear hq
  unfold penB penC penR at *
  exact callK (m := 16) (res := []) (rs := [.cell 8 119]) rfl Tryz.func133 rfl rfl rfl rfl rfl Wy
end Go.Av
namespace Go.Av
open Go.Proofs
variable [Rk] {chk : List D → Bool}
def dI (l : List Int) : List D := l.map (.int .i64)
theorem lsOk_parts {m : Nat} {S : D → Bool} {l : List D} (h : lsOk m S l = true) : l.length ≤ m ∧ ∀ c ∈ l, cxOk m S c = true := by
  simp only [lsOk, lenB, Bool.and_eq_true, decide_eq_true_eq, List.all_eq_true] at h
  exact h
set_option maxHeartbeats 4000000 in
theorem list_P (nm : Nam) (f : D → Pn → Int × Pn) (g : D → Nat) (hg : ∀ c p, (f c p).2.sz ≤ p.sz + g c) (ls : List D) (r7 : Room) (l : List D) (hl : l.length ≤ 100) (hc : ∀ c ∈ l, ∀ p, p.sz + g c ≤ 1000000 → callL Tryz.prog (ext11b chk) 75 [.ptr 1000000 0 0, c] [penB nm p ls r7] = some (.int .i64 (f c p).1, [.no], [penB nm (f c p).2 ls r7]))
    (h1 : ∀ c ∈ l, ∃ xs, c = cxD xs) (p : Pn) (hp : p.sz + (l.map g).sum ≤ 1000000) :
    callL Tryz.prog (ext11b chk) 47 [.ptr 1000000 0 0, .list l] [penB nm p ls r7] = some (.list (dI (mapP f l p).1), [rmE 3 l.length], [penB nm (mapP f l p).2 ls r7]) := by
  have hat := fun (i : Nat) (x : D) (h : l[i]? = some x) => mapP_at (f := f) (g := g) (l := l) (fun x _ p => hg x p) h p
  have htk := fun (i : Nat) (x : D) (h : l[i]? = some x) => mapP_take f h p
  have hln := fun i => mapP_len f (l.take i) p
  have HC := Hd.mk hc
  have HT := Hd.mk htk
  have HA := Hd.mk hat
  have HN := Hd.mk hln
  have HL := Hd.mk hl
  have H1 := Hd.mk h1
  have HP := Hd.mk hp
  clear hat htk hln hc hg hl h1 hp
  obtain ⟨R, hR⟩ : ∃ R, Hd (R = mapP f l p) := ⟨_, rfl⟩
  rw [← (show R = mapP f l p from hR)]
  unfold penB
  refine cK 24 4 Tryz.func47 ?_
  refine Gy ?_
  refine loopH (fun s => ∃ i : Nat, i ≤ l.length ∧ s.slot 6 = .int .i64 i ∧ s.slot 0 = .ptr 1000000 0 0 ∧ s.slot 1 = .list l ∧ s.slot 5 = .list (dI (mapP f (l.take i) p).1) ∧ s.room 5 = [rmE 3 i] ∧ s.box 1000000 = some ⟨0, penC nm (mapP f (l.take i) p).2 ls, penR (mapP f (l.take i) p).2 r7⟩) (fun s => l.length - slotI s 6) ?_ ?_
  · have z1 : dI (mapP f (l.take 0) p).1 = [] := rfl
    have z2 : rmE 3 0 = .full := rfl
    have z3 : (mapP f (l.take 0) p).2 = p := rfl
    exact ⟨0, Nat.zero_le _, Iy, Iy, Iy, Iy, Iy, Iy⟩
  · rintro s K ⟨i, hi, h6, h0, h1, h5, r5, hB⟩ hn hx hr
    have hl : l.length ≤ 100 := HL
    by_cases hlt : i < l.length
    · obtain ⟨c, hcl⟩ : ∃ c, l[i]? = some c := ⟨l[i], List.getElem?_eq_getElem hlt⟩
      have hcm : c ∈ l := List.mem_of_getElem? hcl
      have hlt' : (i : Int) < l.length := by omega
      have hgd : l.getD i .bad = c := by simp [List.getD, hcl]
      obtain ⟨xs, hxs⟩ := (show ∀ c ∈ l, ∃ xs, c = cxD xs from H1) c hcm
      have hw1 := wrapS i (by omega)
      have e1 : mapP f (l.take (i + 1)) p = ((mapP f (l.take i) p).1 ++ [(f c (mapP f (l.take i) p).2).1], (f c (mapP f (l.take i) p).2).2) := (show ∀ (i : Nat) (x : D), l[i]? = some x → mapP f (l.take (i + 1)) p = ((mapP f (l.take i) p).1 ++ [(f x (mapP f (l.take i) p).2).1], (f x (mapP f (l.take i) p).2).2) from HT) i c hcl
      have e2 : (mapP f (l.take i) p).2.sz + g c ≤ p.sz + (l.map g).sum := (show ∀ (i : Nat) (x : D), l[i]? = some x → (mapP f (l.take i) p).2.sz + g x ≤ p.sz + (l.map g).sum from HA) i c hcl
      have e3 : (mapP f (l.take i) p).1.length = (l.take i).length := (show ∀ i, (mapP f (l.take i) p).1.length = (l.take i).length from HN) i
      have hpp : p.sz + (l.map g).sum ≤ 1000000 := HP
      have hcall := (show ∀ c ∈ l, ∀ p, p.sz + g c ≤ 1000000 → callL Tryz.prog (ext11b chk) 75 [.ptr 1000000 0 0, c] [penB nm p ls r7] = some (.int .i64 (f c p).1, [.no], [penB nm (f c p).2 ls r7]) from HC) c hcm (mapP f (l.take i) p).2 (by omega)
      unfold penB at hcall
      have e4 : (dI (mapP f (l.take i) p).1).length + 1 ≤ 1073741824 := by unfold dI; rw [List.length_map, e3, List.length_take]; omega
      have e5 : szOk 1 (dI (mapP f (l.take i) p).1) = true := szOk_map _ 1 (fun _ => rfl) _
      have e6 : rmE 3 (i + 1) = .own 3 := by unfold rmE; rw [if_neg (by omega)]
      have e7 := rmE_ok 3 i
      have e8 : ∀ (a : List Int) (z : Int), dI (a ++ [z]) = dI a ++ [.int .i64 z] := fun a z => by unfold dI; rw [List.map_append]; rfl
      generalize mapP f (l.take i) p = A at *
      obtain ⟨a, q⟩ := A
      generalize f c q = Y at *
      obtain ⟨z, q'⟩ := Y
      dsimp only at *
      have e9 := e8 a z
      subst hxs
      unfold cxD at *
      clear e8 e2 e3 hpp hcm hlt hl hr hx hcl
      generalize rmE 3 i = r0 at *
      rcases e7 with rfl | rfl
      · refine Gy ?_
        refine hn _ ⟨i + 1, by omega, L, L, L, ?_, ?_, ?_⟩ ?_
        · rw [e1]; exact L
        · rw [e6]; exact L
        · rw [e1]; exact L
        · exact Zy
      · refine Gy ?_
        refine hn _ ⟨i + 1, by omega, L, L, L, ?_, ?_, ?_⟩ ?_
        · rw [e1]; exact L
        · rw [e6]; exact L
        · rw [e1]; exact L
        · exact Zy
    · have hge : ¬ (i : Int) < l.length := by omega
      have hil : i = l.length := by omega
      subst hil
      rw [List.take_length, ← (show R = mapP f l p from hR)] at h5 hB
      refine Gy ?_
      exact hx 0 _ Wy
end Go.Av
namespace Go.Av
open Go.Proofs
variable [Rk] {chk : List D → Bool}
def dB (l : List Bool) : List D := l.map .bool
theorem under_L (a b : List Bool) (hl : a.length ≤ 1000000) (he : a.length = b.length) (hab : ∀ (i : Nat), a[i]? = some true → b[i]? = some true) : callL Tryz.prog (ext11b chk) 15 [.list (dB a), .list (dB b)] [] = some (.bool true, [.no], []) := by
  have lA : ((dB a).length : Int) = a.length := by unfold dB; rw [List.length_map]
  have lB : ((dB b).length : Int) = a.length := by unfold dB; rw [List.length_map, he]
  have HL := Hd.mk hl
  have HE := Hd.mk he
  have HA := Hd.mk hab
  clear hl he hab
  refine cK 28 4 Tryz.func15 ?_
  have hz : ((a.length : Int) != (a.length : Int)) = false := by simp
  refine Gy ?_
  refine loopH (fun s => ∃ i : Nat, i ≤ a.length ∧ s.slot 13 = .int .i64 i ∧ s.slot 12 = .int .i64 (a.length : Nat) ∧ s.slot 0 = .list (dB a) ∧ s.slot 1 = .list (dB b)) (fun s => a.length - slotI s 13) ?_ ?_
  · exact ⟨0, Nat.zero_le _, Iy, Iy, Iy, Iy⟩
  · rintro s K ⟨i, hi, g13, g12, g0, g1⟩ hn hx hr
    by_cases hlt : i < a.length
    · have he : a.length = b.length := HE
      have hl : a.length ≤ 1000000 := HL
      obtain ⟨x, hx1⟩ : ∃ x, a[i]? = some x := ⟨a[i], List.getElem?_eq_getElem hlt⟩
      obtain ⟨y, hy1⟩ : ∃ y, b[i]? = some y := ⟨b[i], List.getElem?_eq_getElem (by omega)⟩
      have hlt' : (i : Int) < a.length := by omega
      have ga : (dB a).getD i .bad = .bool x := getD_map (f := D.bool) hx1
      have gb : (dB b).getD i .bad = .bool y := getD_map (f := D.bool) hy1
      have hw1 := wrapS i (by omega)
      have hxy : x = true → y = true := fun h => by
        have := (show ∀ (i : Nat), a[i]? = some true → b[i]? = some true from HA) i (by rw [hx1, h])
        rw [hy1] at this
        injection this
      clear hx1 hy1 HA HE HL he hl hr hx
      cases x with
      | false =>
        clear hxy
        refine Gy ?_
        exact hn _ ⟨i + 1, hlt, L, L, L, L⟩ Zy
      | true =>
        have hy := hxy rfl
        subst hy
        clear hxy
        refine Gy ?_
        exact hn _ ⟨i + 1, hlt, L, L, L, L⟩ Zy
    · have hge : ¬ (i : Int) < a.length := by omega
      refine Gy ?_
      exact hx _ _ Wy
theorem sameI_L (a : List Int) (hl : a.length ≤ 1000000) : callL Tryz.prog (ext11b chk) 16 [.list (dI a), .list (dI a)] [] = some (.bool true, [.no], []) := by
  have lA : ((dI a).length : Int) = a.length := by unfold dI; rw [List.length_map]
  have HL := Hd.mk hl
  clear hl
  refine cK 26 4 Tryz.func16 ?_
  have hz : ((a.length : Int) != (a.length : Int)) = false := by simp
  refine Gy ?_
  refine loopH (fun s => ∃ i : Nat, i ≤ a.length ∧ s.slot 5 = .int .i64 i ∧ s.slot 0 = .list (dI a) ∧ s.slot 1 = .list (dI a)) (fun s => a.length - slotI s 5) ?_ ?_
  · exact ⟨0, Nat.zero_le _, Iy, Iy, Iy⟩
  · rintro s K ⟨i, hi, g5, g0, g1⟩ hn hx hr
    by_cases hlt : i < a.length
    · have hl : a.length ≤ 1000000 := HL
      obtain ⟨x, hx1⟩ : ∃ x, a[i]? = some x := ⟨a[i], List.getElem?_eq_getElem hlt⟩
      have hlt' : (i : Int) < a.length := by omega
      have ga : (dI a).getD i .bad = .int .i64 x := getD_map (f := D.int .i64) hx1
      have hw1 := wrapS i (by omega)
      have hxx : (x != x) = false := by simp
      clear hx1 HL hl hr hx
      refine Qy ?_
      exact hn _ ⟨i + 1, hlt, L, L, L⟩ Zy
    · have hge : ¬ (i : Int) < a.length := by omega
      refine Gy ?_
      exact hx _ _ Wy
end Go.Av
namespace Go.Av
open Go.Proofs
variable [Rk] {chk : List D → Bool}
def gr30 (f : Nat) (l : List D) : Bool := decide (30 < cnt 30 (f + 1) l 0)
def gr14 (f : Nat) (ls : List (List D)) (nm : Nam) : Bool := decide ((4 : Int) < ls.length) || (gnF nm || ls.any (gr30 f))
set_option maxHeartbeats 4000000 in
theorem great14_L {f : Nat} (nm : Nam) (h1 : nm.pre.length ≤ 140737488355328) (h2 : nm.sps.length ≤ 140737488355328) (ls : List (List D)) (h : ∀ l ∈ ls, lsOk 140737488355328 (smOk 140737488355328 f) l = true) :
    callL Tryz.prog (ext11b chk) 11 [.list (ls.map .list), .agg nm.cs, .int .i64 30] [] = some (.bool (gr14 f ls nm), [.no], []) := by
  have g3 := gnames_L (chk := chk) nm h1 h2
  have g2 := fun l hl => great28_L (chk := chk) (M := 0) l 30 (by decide) (h l hl)
  have H2 := Hd.mk g2
  have lA := lenM ls D.list
  clear h1 h2 h g2
  unfold gr14 Nam.cs at *
  generalize nm.pre.map D.str = L1 at *
  generalize nm.sps.map D.str = L2 at *
  by_cases c1 : (4 : Int) < ls.length
  · rw [decide_eq_true c1, Bool.true_or]
    clear g3 H2
    exact cWy 26 6 Tryz.func11
  rw [decide_eq_false c1, Bool.false_or]
  have hlen : ls.length ≤ 4 := by omega
  have HL := Hd.mk hlen
  clear hlen
  generalize gnF nm = b at *
  cases b with
  | true =>
    rw [Bool.true_or]
    clear H2 HL
    exact cWy 26 6 Tryz.func11
  | false =>
    rw [Bool.false_or]
    obtain ⟨R, hR⟩ : ∃ R, Hd (R = ls.any (gr30 f)) := ⟨_, rfl⟩
    rw [← (show R = ls.any (gr30 f) from hR)]
    refine cK 26 6 Tryz.func11 ?_
    refine Gy ?_
    refine loopH (fun st => ∃ i : Nat, i ≤ ls.length ∧ st.slot 18 = .int .i64 i ∧ st.slot 17 = .int .i64 ls.length ∧ st.slot 16 = .list (ls.map .list) ∧ st.slot 2 = .int .i64 30 ∧ Hd (R = (ls.drop i).any (gr30 f))) (fun st => ls.length - slotI st 18) ?_ ?_
    · exact ⟨0, Nat.zero_le _, Iy, Iy, Iy, Iy, hR⟩
    · rintro st K ⟨i, hi, g18, g17, g16, g2', hO⟩ hn hx hr
      have hl : ls.length ≤ 4 := HL
      have hO' : R = (ls.drop i).any (gr30 f) := hO
      by_cases h : i < ls.length
      · have k9 : (i : Int) < ls.length := by omega
        have hw := wrapS i (by omega)
        obtain ⟨x, hx1⟩ := some_at h
        rw [any_drop _ hx1] at hO'
        have ha : (ls.map D.list).getD i .bad = .list x := getD_map (f := D.list) hx1
        have hc : callL Tryz.prog (ext11b chk) 32 [.list x, .int .i64 30] [] = some (.bool (gr30 f x), [.no], []) := (show ∀ l ∈ ls, callL Tryz.prog (ext11b chk) 32 [.list l, .int .i64 30] [] = some (.bool (gr30 f l), [.no], []) from H2) x (List.mem_of_getElem? hx1)
        clear hO hx hx1 hR c1 g3 H2 HL hl
        generalize gr30 f x = b at *
        cases b with
        | true =>
          rw [Bool.true_or] at hO'
          subst hO'
          clear hn
          refine Gy ?_
          exact hr _ Wy
        | false =>
          rw [Bool.false_or] at hO'
          have HO := Hd.mk hO'
          clear hO' hr
          refine Gy ?_
          exact hn _ ⟨i + 1, h, L, L, L, L, HO⟩ Zy
      · have k9 : ¬ (i : Int) < ls.length := by omega
        rw [any_end _ (by omega)] at hO'
        subst hO'
        clear hO hn hr hl hR c1 g3 H2 HL
        refine Gy ?_
        refine hx _ _ ?_
        clear hx
        exact Wy
end Go.Av
namespace Go.Av
open Go.Proofs
variable [Rk] {chk : List D → Bool}
def tm2 (n : Int) : D := .agg [.int .i64 2, .int .i64 n, .list []]
theorem pr2 (r a b x : Room) : putR ([a, b, r].set 2 .no) 2 1 [x] = [a, b, x] := rfl
set_option maxHeartbeats 4000000 in
theorem some_P (nm : Nam) (p q : Pn) (ls : List D) (r7 rm : Room) (l : List D) (r : List Int) (hr : r.length ≤ 100) (hl : callL Tryz.prog (ext11b chk) 47 [.ptr 1000000 0 0, .list l] [penB nm p ls r7] = some (.list (dI r), [rm], [penB nm q ls r7])) :
    callL Tryz.prog (ext11b chk) 136 [.ptr 1000000 0 0, .list l] [penB nm p ls r7] = some (tmD 4 0 (r.map tm2), [.no], [penB nm q ls r7]) := by
  have lR : (dI r).length = r.length := List.length_map _
  have lR' : ((dI r).length : Int) = r.length := by rw [lR]
  obtain ⟨T, hT⟩ : ∃ T, Hd (T = r.map tm2) := ⟨_, rfl⟩
  rw [← (show T = r.map tm2 from hT)]
  unfold penB tmD at *
  refine callK (m := 29) (res := []) (rs := [.cell 4 119]) rfl Tryz.func136 rfl rfl rfl rfl rfl ?_
  refine Gy ?_
  refine loopH (fun s => ∃ i : Nat, i ≤ r.length ∧ s.slot 7 = .int .i64 i ∧ s.slot 6 = .list (dI r) ∧ s.slot 5 = .ptr 5 1 0 ∧ s.slot 4 = .ptr 4 1 0 ∧ s.box 5 = some ⟨1, [.int .i64 4, .int .i64 0, .list ((r.take i).map tm2)], [.no, .no, rmE 119 i]⟩ ∧ (∃ cs rs, s.box 4 = some ⟨1, cs, rs⟩ ∧ cs.length = 3 ∧ rs.length = 3) ∧ s.box 1000000 = some ⟨0, penC nm q ls, penR q r7⟩) (fun s => r.length - slotI s 7) ?_ ?_
  · have z1 : (r.take 0).map tm2 = [] := rfl
    have z2 : rmE 119 0 = .full := rfl
    exact ⟨0, Nat.zero_le _, Iy, Iy, Iy, Iy, Iy, ⟨[.int .i64 0, .int .i64 0, .list []], [.no, .no, .full], Iy, rfl, rfl⟩, Iy⟩
  · rintro s K ⟨i, hi, h7, h6, h5, h4, hb5, ⟨cs, rs, hb4, c3, r3⟩, hB⟩ hn hx hr2
    match cs, rs, c3, r3 with
    | [d0, d1, d2], [q0, q1, q2], _, _ =>
    by_cases hlt : i < r.length
    · obtain ⟨z, hz⟩ : ∃ z, r[i]? = some z := ⟨r[i], List.getElem?_eq_getElem hlt⟩
      have hlt' : (i : Int) < r.length := by omega
      have hgd : (dI r).getD i .bad = .int .i64 z := getD_map (f := D.int .i64) hz
      have hw1 := wrapS i (by omega)
      have e1 : (r.take (i + 1)).map tm2 = (r.take i).map tm2 ++ [.agg [.int .i64 2, .int .i64 z, .list []]] := by rw [List.take_add_one, hz, List.map_append]; rfl
      have e4 : ((r.take i).map tm2).length + 1 ≤ 1073741824 := by rw [List.length_map, List.length_take]; omega
      have e5 : szOk 3 ((r.take i).map tm2) = true := szOk_map _ 3 (fun _ => rfl) _
      have e6 : rmE 119 (i + 1) = .own 119 := by unfold rmE; rw [if_neg (by omega)]
      have e7 := rmE_ok 119 i
      have ep := pr2
      generalize rmE 119 i = r0 at *
      generalize (r.take i).map tm2 = L0 at *
      clear hx hr2 hl hT hlt hi hz
      rcases e7 with rfl | rfl
      · refine Qy ?_
        exact hn _ ⟨i + 1, by omega, L, L, L, L, by rw [e1, e6]; exact Wy, ⟨[d0, d1, d2], [q0, q1, q2], L, rfl, rfl⟩, L⟩ Zy
      · refine Qy ?_
        exact hn _ ⟨i + 1, by omega, L, L, L, L, by rw [e1, e6]; exact Wy, ⟨[d0, d1, d2], [q0, q1, q2], L, rfl, rfl⟩, L⟩ Zy
    · have hge : ¬ (i : Int) < r.length := by omega
      have hil : i = r.length := by omega
      subst hil
      rw [List.take_length, ← (show T = r.map tm2 from hT)] at hb5
      refine Gy ?_
      exact hx 0 _ Wy
end Go.Av
namespace Go.Av
open Go.Proofs
variable [Rk] {chk : List D → Bool}
theorem elemP_fst (nm : Nam) (name : List UInt8) (ns : Int) (pre : List UInt8) (p : Pn) : ∃ (k i : Int) (q : Pn), elemP nm name ns pre p = (.agg [.int .i64 k, .int .i64 i, .list []], q) := by
  unfold elemP
  split
  · exact ⟨7, 0, p, rfl⟩
  · obtain ⟨i, q, h⟩ := atomP_fst ⟨1, (spaceP nm ns pre false).1, (spaceP nm ns pre false).2, name, 0, [], false⟩ p
    exact ⟨1, i, q, h⟩
theorem plainP_fst (name : List UInt8) (op : Int) (tx : List UInt8) (p : Pn) : ∃ (i : Int) (q : Pn), plainP name op tx p = (.agg [.int .i64 1, .int .i64 i, .list []], q) := atomP_fst _ _
set_option maxHeartbeats 8000000 in
theorem term_P {k : Nat} (nm : Nam) (hn : nm.ok) (Lf : List D → Pn → List Int × Pn) (G : List D → Nat) (hL : ∀ l p, (Lf l p).2.sz ≤ p.sz + 3 * G l) (hlen : ∀ l p, (Lf l p).1.length = l.length) (ls : List D) (r7 : Room)
    (hc : ∀ l p, lsOk 100 (smOk 100 k) l = true → p.sz + 3 * G l ≤ 1000000 → callL Tryz.prog (ext11b chk) 47 [.ptr 1000000 0 0, .list l] [penB nm p ls r7] = some (.list (dI (Lf l p).1), [rmE 3 l.length], [penB nm (Lf l p).2 ls r7]))
    (s : Sf) (hs : lsOk 100 (smOk 100 k) s.of_ = true) (p : Pn) (hp : p.sz + 3 * (1 + G s.of_) ≤ 1000000) :
    callL Tryz.prog (ext11b chk) 103 [.ptr 1000000 0 0, s.d] [penB nm p ls r7] = some ((termP Lf nm s p).1, [.no], [penB nm (termP Lf nm s p).2 ls r7]) := by
  have hl1 := hc s.of_ p hs (by omega)
  have hl2 := hlen s.of_ p
  have hl3 := hL s.of_ p
  have hl4 := (lsOk_parts hs).1
  have hsm := some_P (chk := chk) nm p (Lf s.of_ p).2 ls r7 _ s.of_ (Lf s.of_ p).1 (by omega) hl1
  have hel := fun a b c => elem_L (chk := chk) nm p ls r7 a b c hn (by omega)
  have hpl := fun a b c => plain_L (chk := chk) nm p ls r7 a b c (by omega)
  have hat := fun a => atom_L (chk := chk) nm p ls r7 a (by omega)
  have hsp := fun a b => nspace_L (chk := chk) nm p ls r7 a b true hn
  have HC := Hd.mk hc
  have HL := Hd.mk hL
  clear hc hL hlen hs
  obtain ⟨kd, ns, pre, nme, op, tx, fold, mark, sa, sb, of_⟩ := s
  dsimp only at *
  unfold Sf.d
  dsimp only
  by_cases c1 : kd = 1
  · subst c1
    have e : termP Lf nm ⟨1, ns, pre, nme, op, tx, fold, mark, sa, sb, of_⟩ p = elemP nm nme ns pre p := by unfold termP; simp
    rw [e]
    have h := hel nme ns pre
    obtain ⟨k1, i1, q1, hq⟩ := elemP_fst nm nme ns pre p
    rw [hq] at h ⊢
    clear e hq hel hpl hat hsp hsm hl1 hl2 hl3 hl4
    unfold penB at *
    exact callK (m := 144) (res := []) (rs := [.cell 4 119]) rfl Tryz.func103 rfl rfl rfl rfl rfl Wy
  have d1 : (kd == 1) = false := by simpa using c1
  by_cases c2 : kd = 2
  · subst c2
    have e : termP Lf nm ⟨2, ns, pre, nme, op, tx, fold, mark, sa, sb, of_⟩ p = elemP nm nme ns pre p := by unfold termP; simp
    rw [e]
    have h := hel nme ns pre
    obtain ⟨k1, i1, q1, hq⟩ := elemP_fst nm nme ns pre p
    rw [hq] at h ⊢
    clear e hq hel hpl hat hsp hsm hl1 hl2 hl3 hl4
    unfold penB at *
    exact callK (m := 144) (res := []) (rs := [.cell 4 119]) rfl Tryz.func103 rfl rfl rfl rfl rfl Wy
  have d2 : (kd == 2) = false := by simpa using c2
  by_cases c3 : kd = 3
  · subst c3
    have e : termP Lf nm ⟨3, ns, pre, nme, op, tx, fold, mark, sa, sb, of_⟩ p = plainP sClass 3 nme p := by unfold termP; simp
    rw [e]
    have h := hpl sClass 3 nme
    obtain ⟨i1, q1, hq⟩ := plainP_fst sClass 3 nme p
    rw [hq] at h ⊢
    clear e hq hel hpl hat hsp hsm hl1 hl2 hl3 hl4
    unfold penB sClass at *
    exact callK (m := 144) (res := []) (rs := [.cell 4 119]) rfl Tryz.func103 rfl rfl rfl rfl rfl Wy
  have d3 : (kd == 3) = false := by simpa using c3
  by_cases c4 : kd = 4
  · subst c4
    have e : termP Lf nm ⟨4, ns, pre, nme, op, tx, fold, mark, sa, sb, of_⟩ p = plainP sId 2 nme p := by unfold termP; simp
    rw [e]
    have h := hpl sId 2 nme
    obtain ⟨i1, q1, hq⟩ := plainP_fst sId 2 nme p
    rw [hq] at h ⊢
    clear e hq hel hpl hat hsp hsm hl1 hl2 hl3 hl4
    unfold penB sId at *
    exact callK (m := 144) (res := []) (rs := [.cell 4 119]) rfl Tryz.func103 rfl rfl rfl rfl rfl Wy
  have d4 : (kd == 4) = false := by simpa using c4
  by_cases c5 : kd = 5
  · subst c5
    have e : termP Lf nm ⟨5, ns, pre, nme, op, tx, fold, mark, sa, sb, of_⟩ p = atomP ⟨2, (spaceP nm ns pre true).1, (spaceP nm ns pre true).2, nme, op, tx, fold⟩ p := by unfold termP; simp
    rw [e]
    have h0 := hsp ns pre
    generalize (spaceP nm ns pre true).1 = X1 at *
    generalize (spaceP nm ns pre true).2 = X2 at *
    have h := hat ⟨2, X1, X2, nme, op, tx, fold⟩
    obtain ⟨i1, q1, hq⟩ := atomP_fst ⟨2, X1, X2, nme, op, tx, fold⟩ p
    rw [hq] at h ⊢
    clear e hq hel hpl hat hsp hsm hl1 hl2 hl3 hl4
    unfold penB Atm.d at *
    dsimp only at *
    exact callK (m := 144) (res := []) (rs := [.cell 4 119]) rfl Tryz.func103 rfl rfl rfl rfl rfl Wy
  have d5 : (kd == 5) = false := by simpa using c5
  by_cases c11 : kd = 11
  · subst c11
    have e : termP Lf nm ⟨11, ns, pre, nme, op, tx, fold, mark, sa, sb, of_⟩ p = atomP ⟨3, false, [], nme, 0, [], false⟩ p := by unfold termP; simp
    rw [e]
    have h := hat ⟨3, false, [], nme, 0, [], false⟩
    obtain ⟨i1, q1, hq⟩ := atomP_fst ⟨3, false, [], nme, 0, [], false⟩ p
    rw [hq] at h ⊢
    clear e hq hel hpl hat hsp hsm hl1 hl2 hl3 hl4
    unfold penB Atm.d at *
    dsimp only at *
    exact callK (m := 144) (res := []) (rs := [.cell 4 119]) rfl Tryz.func103 rfl rfl rfl rfl rfl Wy
  have d11 : (kd == 11) = false := by simpa using c11
  by_cases c6 : kd = 6
  · subst c6
    have e : termP Lf nm ⟨6, ns, pre, nme, op, tx, fold, mark, sa, sb, of_⟩ p = (tmD 6 0 [], p) := by unfold termP; simp
    rw [e]
    clear e hel hpl hat hsp hsm hl1 hl2 hl3 hl4
    unfold penB tmD
    exact callK (m := 144) (res := []) (rs := [.cell 4 119]) rfl Tryz.func103 rfl rfl rfl rfl rfl Wy
  have d6 : (kd == 6) = false := by simpa using c6
  by_cases c8 : kd = 8
  · subst c8
    have e : termP Lf nm ⟨8, ns, pre, nme, op, tx, fold, mark, sa, sb, of_⟩ p = (tmD 4 0 ((Lf of_ p).1.map tm2), (Lf of_ p).2) := by unfold termP; simp; rfl
    rw [e]
    clear e hel hpl hat hsp hl1 hl2 hl3 hl4
    generalize (Lf of_ p).1.map tm2 = t1 at *
    generalize (Lf of_ p).2 = q1 at *
    unfold penB tmD at *
    exact callK (m := 144) (res := []) (rs := [.cell 4 119]) rfl Tryz.func103 rfl rfl rfl rfl rfl Wy
  have d8 : (kd == 8) = false := by simpa using c8
  by_cases c9 : kd = 9
  · subst c9
    have e : termP Lf nm ⟨9, ns, pre, nme, op, tx, fold, mark, sa, sb, of_⟩ p = (tmD 4 0 ((Lf of_ p).1.map tm2), (Lf of_ p).2) := by unfold termP; simp; rfl
    rw [e]
    clear e hel hpl hat hsp hl1 hl2 hl3 hl4
    generalize (Lf of_ p).1.map tm2 = t1 at *
    generalize (Lf of_ p).2 = q1 at *
    unfold penB tmD at *
    exact callK (m := 144) (res := []) (rs := [.cell 4 119]) rfl Tryz.func103 rfl rfl rfl rfl rfl Wy
  have d9 : (kd == 9) = false := by simpa using c9
  by_cases c10 : kd = 10
  · subst c10
    have e : termP Lf nm ⟨10, ns, pre, nme, op, tx, fold, mark, sa, sb, of_⟩ p = (notD (tmD 4 0 ((Lf of_ p).1.map tm2)), (Lf of_ p).2) := by unfold termP; simp; exact ⟨rfl, rfl⟩
    rw [e]
    have h := not_L (chk := chk) (k := 4) (n := 0) ((Lf of_ p).1.map tm2) []
    clear e hel hpl hat hsp hl1 hl2 hl3 hl4
    generalize (Lf of_ p).1.map tm2 = t1 at *
    generalize (Lf of_ p).2 = q1 at *
    unfold penB notD tmD at *
    exact callK (m := 144) (res := []) (rs := [.cell 4 119]) rfl Tryz.func103 rfl rfl rfl rfl rfl Wy
  have d10 : (kd == 10) = false := by simpa using c10
  by_cases c7 : kd = 7
  · subst c7
    have e : termP Lf nm ⟨7, ns, pre, nme, op, tx, fold, mark, sa, sb, of_⟩ p = nthP sa sb (Lf of_ p) := by unfold termP; simp
    rw [e]
    clear e hel hpl hat hsp hsm
    unfold nthP
    have hcs : (Lf of_ p).2.cts.length ≤ 1000000 := by unfold Pn.sz at *; omega
    generalize Lf of_ p = R1 at *
    obtain ⟨n1, q1⟩ := R1
    dsimp only at *
    have ea : (q1.cts ++ [(⟨sa, sb, n1⟩ : Ct)]).map Ct.d = q1.cts.map Ct.d ++ [.agg [.int .i64 sa, .int .i64 sb, .list (dI n1)]] := by rw [List.map_append]; rfl
    have er : rmE 91 (q1.cts ++ [(⟨sa, sb, n1⟩ : Ct)]).length = .own 91 := by unfold rmE; rw [if_neg (by simp)]
    have eo := rmE_ok 91 q1.cts.length
    have ez : szOk 3 (q1.cts.map Ct.d) = true := szOk_map Ct.d 3 (fun _ => rfl) _
    have elc : (q1.cts.map Ct.d).length + 1 ≤ 1073741824 := by rw [List.length_map]; omega
    have ew : IntKind.i64.wrap (((q1.cts.map Ct.d ++ [D.agg [.int .i64 sa, .int .i64 sb, .list (dI n1)]]).length : Int) - 1) = (q1.cts.length : Nat) := lenLast Ct.d _ _ (by omega)
    have ep := pr6
    clear hl2 hl3 hl4 hcs hp
    unfold penB penC penR tmD at *
    dsimp only at *
    rw [ea, er]
    generalize rmE 91 q1.cts.length = r0 at *
    generalize rmE 3 of_.length = r3 at *
    rcases eo with rfl | rfl
    · exact callK (m := 144) (res := []) (rs := [.cell 4 119]) rfl Tryz.func103 rfl rfl rfl rfl rfl Wy
    · exact callK (m := 144) (res := []) (rs := [.cell 4 119]) rfl Tryz.func103 rfl rfl rfl rfl rfl Wy
  have d7 : (kd == 7) = false := by simpa using c7
  by_cases c12 : kd = 12
  · subst c12
    have e : termP Lf nm ⟨12, ns, pre, nme, op, tx, fold, mark, sa, sb, of_⟩ p = linkP nm p := by unfold termP; simp
    rw [e]
    unfold linkP
    have z1 := elemP_sz nm [97] 0 [] p
    have h1 := hel [97] 0 []
    obtain ⟨k1, i1, q1, hq1⟩ := elemP_fst nm [97] 0 [] p
    rw [hq1] at h1 z1 ⊢
    dsimp only at *
    have z2 := elemP_sz nm sArea 0 [] q1
    have h2 := elem_L (chk := chk) nm q1 ls r7 sArea 0 [] hn (by omega)
    obtain ⟨k2, i2, q2, hq2⟩ := elemP_fst nm sArea 0 [] q1
    rw [hq2] at h2 z2 ⊢
    dsimp only at *
    have h3 := plain_L (chk := chk) nm q2 ls r7 sHref 1 [] (by omega)
    obtain ⟨i3, q3, hq3⟩ := plainP_fst sHref 1 [] q2
    rw [hq3] at h3 ⊢
    dsimp only at *
    have n1 := not_L (chk := chk) (k := 4) (n := 0) [.agg [.int .i64 k1, .int .i64 i1, .list []], .agg [.int .i64 k2, .int .i64 i2, .list []]] []
    have n2 := not_L (chk := chk) (k := 1) (n := i3) [] []
    have n3 := not_L (chk := chk) (k := 4) (n := 0) [notD (tmD 4 0 [.agg [.int .i64 k1, .int .i64 i1, .list []], .agg [.int .i64 k2, .int .i64 i2, .list []]]), notD (tmD 1 i3 [])] []
    clear e hq1 hq2 hq3 hel hpl hat hsp hsm hl1 hl2 hl3 hl4 z1 z2 hp
    unfold penB notD tmD sArea sHref at *
    exact callK (m := 144) (res := []) (rs := [.cell 4 119]) rfl Tryz.func103 rfl rfl rfl rfl rfl Wy
  have d12 : (kd == 12) = false := by simpa using c12
  have e : termP Lf nm ⟨kd, ns, pre, nme, op, tx, fold, mark, sa, sb, of_⟩ p = (tmD 7 0 [], p) := by unfold termP; simp [c1, c2, c3, c4, c5, c6, c7, c8, c9, c10, c11, c12]
  rw [e]
  clear e hel hpl hat hsp hsm hl1 hl2 hl3 hl4
  unfold penB tmD
  exact callK (m := 144) (res := []) (rs := [.cell 4 119]) rfl Tryz.func103 rfl rfl rfl rfl rfl Wy
end Go.Av
namespace Go.Av
open Go.Proofs
variable [Rk] {chk : List D → Bool}
theorem cellsC (nm : Nam) (p : Pn) (ls : List D) : penC nm p ls = [.bool nm.has, .str nm.dft, .list (nm.pre.map .str), .list (nm.sps.map .str), .list (p.atoms.map Atm.d), .list (p.rows.map Rw.d), .list (p.cts.map Ct.d), .list ls, .int .i64 (p.steps : Nat)] := rfl
theorem pr8 (r a b c : Room) : putR [.no, .no, .no, .no, r, a, b, c, .no] 8 1 [] = [.no, .no, .no, .no, r, a, b, c, .no] := rfl
theorem pr1 (r a b x : Room) : putR ([a, r, b].set 1 .no) 1 1 [x] = [a, x, b] := rfl
theorem pr1' (r a x : Room) : putR ([a, r].set 1 .no) 1 1 [x] = [a, x] := rfl
theorem mapP_szOk {T : D → Pn → D × Pn} (hf : ∀ s p, ∃ k i t, (T s p).1 = .agg [.int .i64 k, .int .i64 i, .list t]) : ∀ (l : List D) (q : Pn), szOk 3 (mapP T l q).1 = true
  | [], q => rfl
  | x :: r, q => by
    obtain ⟨k, i, t, h⟩ := hf x q
    rw [mapP, h]
    rfl
set_option maxHeartbeats 16000000 in
theorem row_P (nm : Nam) (T : D → Pn → D × Pn) (C : D → Nat) (hT : ∀ s p, (T s p).2.sz ≤ p.sz + 3 * C s) (hf : ∀ s p, ∃ k i t, (T s p).1 = .agg [.int .i64 k, .int .i64 i, .list t]) (ls : List D) (r7 : Room) (xs : List D) (hxs : xs.length ≤ 100)
    (hx : ∀ x ∈ xs, ∃ cb l, x = cpD cb l ∧ l.length ≤ 100 ∧ ∀ s ∈ l, (∃ s0 : Sf, s = s0.d) ∧ ∀ p, p.sz + 3 * C s ≤ 1000000 → callL Tryz.prog (ext11b chk) 103 [.ptr 1000000 0 0, s] [penB nm p ls r7] = some ((T s p).1, [.no], [penB nm (T s p).2 ls r7]))
    (ps : List UInt8) (hps : callL Tryz.prog (ext11b chk) 41 [.agg [.list xs]] [] = some (.str ps, [.no], [])) (hpe : pseudoF (cxD xs) = ps) (p : Pn) (hp : p.sz + 3 * (1 + costP C xs) ≤ 1000000) :
    callL Tryz.prog (ext11b chk) 75 [.ptr 1000000 0 0, .agg [.list xs]] [penB nm p ls r7] = some (.int .i64 (rowP T (cxD xs) p).1, [.no], [penB nm (rowP T (cxD xs) p).2 ls r7]) := by
  have hco : ∀ x ∈ xs, ∀ p, (compP T x p).2.sz ≤ p.sz + 3 * costX C (cpL x) := fun x _ p => compP_sz x (fun s _ p => hT s p) p
  have hS := mapP_sz (f := compP T) (g := fun x => 3 * costX C (cpL x)) xs p hco
  have hA := fun (i : Nat) (x : D) (h : xs[i]? = some x) => mapP_at (f := compP T) (g := fun x => 3 * costX C (cpL x)) (l := xs) hco h p
  have hcs : costP C xs = xs.length + (xs.map fun x => costX C (cpL x)).sum := sum_split _ _
  have hms : (xs.map fun x => 3 * costX C (cpL x)).sum = 3 * (xs.map fun x => costX C (cpL x)).sum := sum_mul _ _
  have hbig : (mapP (compP T) xs p).2.sz + 3 * xs.length + 3 ≤ 1000000 := by omega
  have hbi : ∀ (i : Nat) (x : D), xs[i]? = some x → (mapP (compP T) (xs.take i) p).2.sz + 3 * costX C (cpL x) ≤ 1000000 := fun i x h => by have := hA i x h; omega
  have htk := fun (i : Nat) (x : D) (h : xs[i]? = some x) => mapP_take (compP T) h p
  have hln := fun i => mapP_len (compP T) (xs.take i) p
  have hlnX := mapP_len (compP T) xs p
  have HX := Hd.mk hx
  have HT := Hd.mk hT
  have HF := Hd.mk hf
  have HBI := Hd.mk hbi
  have HTK := Hd.mk htk
  have HLN := Hd.mk hln
  have HXS := Hd.mk hxs
  have HB := Hd.mk hbig
  have HLX := Hd.mk hlnX
  clear hx hT hf hbi htk hln hxs hco hS hA hcs hms hp hbig hlnX
  have e0 : rowP T (cxD xs) p = endP (cxD xs) (mapP (compP T) xs p) := rfl
  rw [e0]
  unfold endP
  rw [hpe]
  obtain ⟨X, hX⟩ : ∃ X, Hd (X = mapP (compP T) xs p) := ⟨_, rfl⟩
  rw [← (show X = mapP (compP T) xs p from hX)]
  clear e0 hpe
  unfold penB
  dsimp only [cxL, cxD]
  refine cK 98 4 Tryz.func75 ?_
  refine Gy ?_
  refine loopH (fun s => ∃ i : Nat, i ≤ xs.length ∧ s.slot 6 = .int .i64 i ∧ s.slot 0 = .ptr 1000000 0 0 ∧ s.slot 3 = .ptr 3 1 0 ∧ s.slot 5 = .ptr 5 1 0 ∧ s.box 3 = some ⟨1, [.list xs], [.no]⟩ ∧ s.box 5 = some ⟨1, [.int .i64 0, .list ((mapP (compP T) (xs.take i) p).1.map stpD), .str ps], [.no, rmE 116 i, .no]⟩ ∧ s.box 1000000 = some ⟨0, penC nm (mapP (compP T) (xs.take i) p).2 ls, penR (mapP (compP T) (xs.take i) p).2 r7⟩) (fun s => xs.length - slotI s 6) ?_ ?_
  · have z1 : (mapP (compP T) (xs.take 0) p).1.map stpD = [] := rfl
    have z2 : rmE 116 0 = .full := rfl
    have z3 : (mapP (compP T) (xs.take 0) p).2 = p := rfl
    exact ⟨0, Nat.zero_le _, Iy, Iy, Iy, Iy, Iy, Iy, Iy⟩
  · rintro s K ⟨i, hi, h6, h0, h3, h5, hb3, hb5, hB⟩ hn hx hr
    have hl : xs.length ≤ 100 := HXS
    have e3 : (mapP (compP T) (xs.take i) p).1.length = (xs.take i).length := (show ∀ i, (mapP (compP T) (xs.take i) p).1.length = (xs.take i).length from HLN) i
    by_cases hlt : i < xs.length
    · obtain ⟨x, hxl⟩ : ∃ x, xs[i]? = some x := ⟨xs[i], List.getElem?_eq_getElem hlt⟩
      have hlt' : (i : Int) < xs.length := by omega
      have hw1 := wrapS i (by omega)
      have e2 : (mapP (compP T) (xs.take i) p).2.sz + 3 * costX C (cpL x) ≤ 1000000 := (show ∀ (i : Nat) (x : D), xs[i]? = some x → (mapP (compP T) (xs.take i) p).2.sz + 3 * costX C (cpL x) ≤ 1000000 from HBI) i x hxl
      have e1 : mapP (compP T) (xs.take (i + 1)) p = ((mapP (compP T) (xs.take i) p).1 ++ [(compP T x (mapP (compP T) (xs.take i) p).2).1], (compP T x (mapP (compP T) (xs.take i) p).2).2) := (show ∀ (i : Nat) (x : D), xs[i]? = some x → mapP (compP T) (xs.take (i + 1)) p = ((mapP (compP T) (xs.take i) p).1 ++ [(compP T x (mapP (compP T) (xs.take i) p).2).1], (compP T x (mapP (compP T) (xs.take i) p).2).2) from HTK) i x hxl
      have e4 : ((mapP (compP T) (xs.take i) p).1.map stpD).length + 1 ≤ 1073741824 := by rw [List.length_map, e3, List.length_take]; omega
      have e5 : szOk 2 ((mapP (compP T) (xs.take i) p).1.map stpD) = true := szOk_map _ 2 (fun _ => rfl) _
      have e6 : rmE 116 (i + 1) = .own 116 := by unfold rmE; rw [if_neg (by omega)]
      have e7 := rmE_ok 116 i
      obtain ⟨cb, l, rfl, hll, hsl⟩ := (show ∀ x ∈ xs, ∃ cb l, x = cpD cb l ∧ l.length ≤ 100 ∧ ∀ s ∈ l, (∃ s0 : Sf, s = s0.d) ∧ ∀ p, p.sz + 3 * C s ≤ 1000000 → callL Tryz.prog (ext11b chk) 103 [.ptr 1000000 0 0, s] [penB nm p ls r7] = some ((T s p).1, [.no], [penB nm (T s p).2 ls r7]) from HX) x (List.mem_of_getElem? hxl)
      have hgd : xs.getD i .bad = .agg [.int .i64 cb, .list l] := by simp [List.getD, hxl]; rfl
      have e8 : ∀ (a : List (Int × List D)) (z : Int × List D), (a ++ [z]).map stpD = a.map stpD ++ [.agg [.int .i64 z.1, .list z.2]] := fun a z => by rw [List.map_append]; rfl
      have ec : ∀ q, compP T (cpD cb l) q = ((cb, (mapP T l q).1), (mapP T l q).2) := fun q => rfl
      rw [ec] at e1
      generalize mapP (compP T) (xs.take i) p = A at *
      obtain ⟨a, q⟩ := A
      dsimp only [cpL, cpD] at *
      have hT : ∀ s p, (T s p).2.sz ≤ p.sz + 3 * C s := HT
      have hcx : costX C l = (l.map C).sum := rfl
      have hm3 : (l.map fun s => 3 * C s).sum = 3 * (l.map C).sum := sum_mul _ _
      have hat : ∀ (j : Nat) (y : D), l[j]? = some y → (mapP T (l.take j) q).2.sz + 3 * C y ≤ 1000000 := fun j y hy => by
        have := mapP_at (f := T) (g := fun s => 3 * C s) (l := l) (fun s _ p => hT s p) hy q
        omega
      have hat2 : ∀ (j : Nat) (y : D), l[j]? = some y → callL Tryz.prog (ext11b chk) 103 [.ptr 1000000 0 0, y] [penB nm (mapP T (l.take j) q).2 ls r7] = some ((T y (mapP T (l.take j) q).2).1, [.no], [penB nm (T y (mapP T (l.take j) q).2).2 ls r7]) := fun j y hy => (hsl y (List.mem_of_getElem? hy)).2 _ (hat j y hy)
      have hsf : ∀ (j : Nat) (y : D), l[j]? = some y → ∃ s0 : Sf, y = s0.d := fun j y hy => (hsl y (List.mem_of_getElem? hy)).1
      have htk2 := fun (j : Nat) (y : D) (h : l[j]? = some y) => mapP_take T h q
      have hln2 := fun j => mapP_len T (l.take j) q
      have HA2 := Hd.mk hat2
      have HS2 := Hd.mk hsf
      have HTK2 := Hd.mk htk2
      have HLN2 := Hd.mk hln2
      have HE1 := Hd.mk e1
      have HLL := Hd.mk hll
      clear hat hat2 hsf htk2 hln2 hT hcx hm3 hsl e2 hxl ec hl hll e1 hr hx e3
      obtain ⟨Z, hZ⟩ : ∃ Z, Hd (Z = mapP T l q) := ⟨_, rfl⟩
      refine Gy ?_
      refine loopH (fun t => ∃ j : Nat, j ≤ l.length ∧ t.slot 8 = .int .i64 j ∧ t.slot 6 = .int .i64 i ∧ t.slot 0 = .ptr 1000000 0 0 ∧ t.slot 3 = .ptr 3 1 0 ∧ t.slot 5 = .ptr 5 1 0 ∧ t.slot 7 = .ptr 7 (s.ctr 7) 0 ∧ t.box 3 = some ⟨1, [.list xs], [.no]⟩ ∧ t.box 5 = some ⟨1, [.int .i64 0, .list (a.map stpD), .str ps], [.no, rmE 116 i, .no]⟩ ∧ t.box 7 = some ⟨s.ctr 7, [.int .i64 cb, .list (mapP T (l.take j) q).1], [.no, rmE 119 j]⟩ ∧ t.box 1000000 = some ⟨0, penC nm (mapP T (l.take j) q).2 ls, penR (mapP T (l.take j) q).2 r7⟩) (fun t => l.length - slotI t 8) ?_ ?_
      · have z1 : (mapP T (l.take 0) q).1 = [] := rfl
        have z2 : rmE 119 0 = .full := rfl
        have z3 : (mapP T (l.take 0) q).2 = q := rfl
        exact ⟨0, Nat.zero_le _, Iy, Iy, Iy, Iy, Iy, Iy, Iy, Iy, Iy, Iy⟩
      · rintro t K2 ⟨j, hj, g8, g6, g0, g3, g5, g7, gb3, gb5, gb7, gB⟩ hn2 hx2 hr2
        have hll : l.length ≤ 100 := HLL
        have f3 : (mapP T (l.take j) q).1.length = (l.take j).length := (show ∀ j, (mapP T (l.take j) q).1.length = (l.take j).length from HLN2) j
        by_cases hlt2 : j < l.length
        · obtain ⟨y, hyl⟩ : ∃ y, l[j]? = some y := ⟨l[j], List.getElem?_eq_getElem hlt2⟩
          have hlt2' : (j : Int) < l.length := by omega
          have hw2 := wrapS j (by omega)
          have hcall := (show ∀ (j : Nat) (y : D), l[j]? = some y → callL Tryz.prog (ext11b chk) 103 [.ptr 1000000 0 0, y] [penB nm (mapP T (l.take j) q).2 ls r7] = some ((T y (mapP T (l.take j) q).2).1, [.no], [penB nm (T y (mapP T (l.take j) q).2).2 ls r7]) from HA2) j y hyl
          obtain ⟨s0, rfl⟩ := (show ∀ (j : Nat) (y : D), l[j]? = some y → ∃ s0 : Sf, y = s0.d from HS2) j y hyl
          have f1 : mapP T (l.take (j + 1)) q = ((mapP T (l.take j) q).1 ++ [(T s0.d (mapP T (l.take j) q).2).1], (T s0.d (mapP T (l.take j) q).2).2) := (show ∀ (j : Nat) (y : D), l[j]? = some y → mapP T (l.take (j + 1)) q = ((mapP T (l.take j) q).1 ++ [(T y (mapP T (l.take j) q).2).1], (T y (mapP T (l.take j) q).2).2) from HTK2) j _ hyl
          have hgd2 : l.getD j .bad = .agg [.int .i64 s0.kd, .int .i64 s0.ns, .str s0.pre, .str s0.nm, .int .i64 s0.op, .str s0.tx, .bool s0.fold, .int .i64 s0.mark, .int .i64 s0.a, .int .i64 s0.b, .list s0.of_] := by simp [List.getD, hyl]; rfl
          have f5 : szOk 3 (mapP T (l.take j) q).1 = true := mapP_szOk HF _ _
          have f4 : (mapP T (l.take j) q).1.length + 1 ≤ 1073741824 := by rw [f3, List.length_take]; omega
          have f6 : rmE 119 (j + 1) = .own 119 := by unfold rmE; rw [if_neg (by omega)]
          have f7 := rmE_ok 119 j
          obtain ⟨k1, i1, t1, hT1⟩ := (show ∀ s p, ∃ k i t, (T s p).1 = .agg [.int .i64 k, .int .i64 i, .list t] from HF) s0.d (mapP T (l.take j) q).2
          rw [hT1] at hcall f1
          have ep := pr1'
          generalize (T s0.d (mapP T (l.take j) q).2).2 = q' at *
          unfold penB Sf.d at hcall
          generalize mapP T (l.take j) q = B at *
          obtain ⟨b1, b2⟩ := B
          dsimp only at *
          clear f3 hyl hT1 hlt2 hll hx2 hr2 hZ hn e4 e5 e6 e7 e8 HA2 HS2 HTK2 HLN2 HE1 HX HT HF HBI HTK HLN HXS HB HLX hX hb3 hb5 hB h6 h0 h3 h5
          generalize rmE 119 j = r0 at *
          rcases f7 with rfl | rfl
          · refine Gy ?_
            exact hn2 _ ⟨j + 1, by omega, L, L, L, L, L, L, L, L, by rw [f1, f6]; exact Wy, by rw [f1]; exact L⟩ Zy
          · refine Gy ?_
            exact hn2 _ ⟨j + 1, by omega, L, L, L, L, L, L, L, L, by rw [f1, f6]; exact Wy, by rw [f1]; exact L⟩ Zy
        · have hge2 : ¬ (j : Int) < l.length := by omega
          have hjl : j = l.length := by omega
          subst hjl
          rw [List.take_length, ← (show Z = mapP T l q from hZ)] at gb7 gB
          have e1 : mapP (compP T) (xs.take (i + 1)) p = (a ++ [(cb, (mapP T l q).1)], (mapP T l q).2) := HE1
          rw [← (show Z = mapP T l q from hZ)] at e1
          have e9 := e8 a (cb, Z.1)
          have ep := pr1
          obtain ⟨z1, z2⟩ := Z
          dsimp only at *
          refine Gy ?_
          refine hx2 2 _ ?_
          clear hx2 hr2 hn2 hZ HA2 HS2 HTK2 HLN2 HE1 HX HT HF HBI HTK HLN HXS HB HLX hX e8 f3 hb3 hb5 hB h0 h3 h5
          generalize rmE 116 i = r0 at *
          rcases e7 with rfl | rfl
          · refine Gy ?_
            exact hn _ ⟨i + 1, by omega, L, L, L, L, L, by rw [e1, e6]; exact Wy, by rw [e1]; exact L⟩ Zy
          · refine Gy ?_
            exact hn _ ⟨i + 1, by omega, L, L, L, L, L, by rw [e1, e6]; exact Wy, by rw [e1]; exact L⟩ Zy
    · have hge : ¬ (i : Int) < xs.length := by omega
      have hil : i = xs.length := by omega
      subst hil
      rw [List.take_length, ← (show X = mapP (compP T) xs p from hX)] at hb5 hB
      have hbg : (mapP (compP T) xs p).2.sz + 3 * xs.length + 3 ≤ 1000000 := HB
      rw [← (show X = mapP (compP T) xs p from hX)] at hbg
      obtain ⟨w, q⟩ := X
      dsimp only at *
      have hst : q.steps + q.rows.length + 3 * xs.length ≤ 1000000 := by unfold Pn.sz at hbg; omega
      have ea : (q.rows ++ [(⟨q.steps, w, ps⟩ : Rw)]).map Rw.d = q.rows.map Rw.d ++ [.agg [.int .i64 (q.steps : Nat), .list (w.map stpD), .str ps]] := by rw [List.map_append]; rfl
      have er : rmE 63 (q.rows ++ [(⟨q.steps, w, ps⟩ : Rw)]).length = .own 63 := by unfold rmE; rw [if_neg (by simp)]
      have eo := rmE_ok 63 q.rows.length
      have ez : szOk 3 (q.rows.map Rw.d) = true := szOk_map Rw.d 3 (fun _ => rfl) _
      have el : (q.rows.map Rw.d).length + 1 ≤ 1073741824 := by rw [List.length_map]; omega
      have ew : IntKind.i64.wrap (((q.rows.map Rw.d ++ [D.agg [.int .i64 (q.steps : Nat), .list (w.map stpD), .str ps]]).length : Int) - 1) = (q.rows.length : Nat) := lenLast Rw.d _ _ (by omega)
      have es : IntKind.i64.wrap ((q.steps : Int) + (xs.length : Int)) = ((q.steps + xs.length : Nat) : Int) := (wrap64 _ (by omega) (by omega)).trans (by omega)
      have ep := pr5
      have ep8 := pr8
      unfold penC penR at hB hx
      dsimp only at hB hx
      rw [ea, er] at hx
      clear hr hn hX HX HT HF HBI HTK HLN HXS HB HLX e3 hl hbg hst hps
      generalize rmE 63 q.rows.length = r0 at *
      generalize rmE 116 xs.length = r1 at *
      refine Gy ?_
      refine hx 0 _ ?_
      clear hx
      rcases eo with rfl | rfl
      · exact Wy
      · exact Wy
end Go.Av
namespace Go.Av
open Go.Proofs
variable [Rk] {chk : List D → Bool}
set_option maxHeartbeats 1000000 in
theorem rpseudo_L {k : Nat} (c : D) (h : cxOk 100 (smOk 100 (k + 1)) c = true) : callL Tryz.prog (ext11b chk) 41 [c] [] = some (.str (pseudoF c), [.no], []) := by
  obtain ⟨l, rfl, hl, hx⟩ := cxOk_inv h
  unfold pseudoF cxD cxL
  dsimp only
  cases hL : l.getLast? with
  | none =>
    rw [List.getLast?_eq_none_iff] at hL
    subst hL
    clear hx hl h
    exact cWy 44 2 Tryz.func41
  | some x =>
    obtain ⟨cc, sl, rfl, hsl, hs⟩ := cpOk_inv (hx x (List.mem_of_getLast? hL))
    obtain ⟨hg, h0⟩ := last_getD hL
    have h0' := ne0 h0
    have hw := wrapL (by omega) h0
    have hlt : ((l.length - 1 : Nat) : Int) < l.length := by omega
    have hge : (0 : Int) ≤ ((l.length - 1 : Nat) : Int) := by omega
    clear hL hx h hl
    unfold cpD at hg ⊢
    simp only [cpL]
    cases hS : sl.getLast? with
    | none =>
      rw [List.getLast?_eq_none_iff] at hS
      subst hS
      clear hs hsl
      exact cWy 44 2 Tryz.func41
    | some s =>
      obtain ⟨e, _⟩ := smOk_inv (hs s (List.mem_of_getLast? hS))
      obtain ⟨sg, s0⟩ := last_getD hS
      have s0' := ne0 s0
      have sw := wrapL (by omega) s0
      have slt : ((sl.length - 1 : Nat) : Int) < sl.length := by omega
      have sge : (0 : Int) ≤ ((sl.length - 1 : Nat) : Int) := by omega
      rw [e] at sg
      show callL Tryz.prog (ext11b chk) 41 [.agg [.list l]] [] = some (.str (if (sf s).kd = 13 then (sf s).nm else []), [.no], [])
      clear hS hs hsl
      generalize sf s = S at *
      clear e
      unfold Sf.d at sg
      by_cases hk : S.kd = 13
      · rw [if_pos hk]
        obtain ⟨k1, k2, k3⟩ := eqI hk
        clear hk
        exact cWy 44 2 Tryz.func41
      · rw [if_neg hk]
        obtain ⟨k1, k2, k3⟩ := neI hk
        clear hk
        exact cWy 44 2 Tryz.func41
end Go.Av
namespace Go.Av
open Go.Proofs
variable [Rk] {chk : List D → Bool}
theorem termP_form (Lf : List D → Pn → List Int × Pn) (nm : Nam) (s : Sf) (p : Pn) : ∃ k i t, (termP Lf nm s p).1 = .agg [.int .i64 k, .int .i64 i, .list t] := by
  have h1 : ∀ a, ∃ k i t, (atomP a p).1 = .agg [.int .i64 k, .int .i64 i, .list t] := fun a => by
    obtain ⟨i, q, h⟩ := atomP_fst a p
    exact ⟨1, i, [], by rw [h]⟩
  unfold termP
  split
  · obtain ⟨k, i, q, h⟩ := elemP_fst nm s.nm s.ns s.pre p
    exact ⟨k, i, [], by rw [h]⟩
  split
  · exact h1 _
  split
  · exact h1 _
  split
  · exact h1 _
  split
  · exact h1 _
  split
  · exact ⟨6, 0, [], rfl⟩
  split
  · exact ⟨_, _, _, rfl⟩
  split
  · exact ⟨_, _, _, rfl⟩
  split
  · exact ⟨_, _, _, rfl⟩
  split
  · exact ⟨_, _, _, rfl⟩
  · exact ⟨_, _, _, rfl⟩
theorem termK_form (nm : Nam) (k : Nat) (s : Sf) (p : Pn) : ∃ k' i t, (termK nm k s p).1 = .agg [.int .i64 k', .int .i64 i, .list t] := by
  cases k with
  | zero => exact ⟨7, 0, [], rfl⟩
  | succ k => exact termP_form _ nm s p
theorem cxOk_up {m k : Nat} {c : D} (h : cxOk m (smOk m k) c = true) : cxOk m (smOk m (k + 1)) c = true := by
  obtain ⟨l1, rfl, f1, f2⟩ := cxOk_inv h
  simp only [cxD, cxOk, lenB, Bool.and_eq_true, decide_eq_true_eq, List.all_eq_true]
  refine ⟨f1, fun x hx => ?_⟩
  obtain ⟨y, l2, rfl, f3, f4⟩ := cpOk_inv (f2 x hx)
  simp only [cpD, cpOk, lenB, Bool.and_eq_true, decide_eq_true_eq, List.all_eq_true]
  exact ⟨f3, fun s hs => smOk_up k s (f4 s hs) (k + 1) (by omega)⟩
theorem pen_L (nm : Nam) (hn : nm.ok) (ls : List D) (r7 : Room) : ∀ (k : Nat) (l : List D) (p : Pn), lsOk 100 (smOk 100 k) l = true → p.sz + 3 * costL k l ≤ 1000000 →
    callL Tryz.prog (ext11b chk) 47 [.ptr 1000000 0 0, .list l] [penB nm p ls r7] = some (.list (dI (listP nm k l p).1), [rmE 3 l.length], [penB nm (listP nm k l p).2 ls r7]) := by
  intro k
  induction k with
  | zero =>
    intro l p hl hp
    exact pen_step 0 (fun s p hs => by simp [smOk] at hs) l p hl hp
  | succ k ih =>
    intro l p hl hp
    refine pen_step (k + 1) (fun s p hs hp => ?_) l p hl hp
    obtain ⟨e, h1, h2, h3, h4⟩ := smOk_inv hs
    have := term_P (chk := chk) (k := k) nm hn (listP nm k) (costL k) (fun l p => listP_sz nm k l p) (fun l p => mapP_len _ _ _) ls r7 ih (sf s) h4 p (by have : costS (k + 1) s = 1 + costL k (sf s).of_ := rfl; omega)
    rw [← e] at this
    exact this
where
  pen_step (k : Nat) (ht : ∀ (s : D) (p : Pn), smOk 100 k s = true → p.sz + 3 * costS k s ≤ 1000000 → callL Tryz.prog (ext11b chk) 103 [.ptr 1000000 0 0, s] [penB nm p ls r7] = some ((termK nm k (sf s) p).1, [.no], [penB nm (termK nm k (sf s) p).2 ls r7])) (l : List D) (p : Pn) (hl : lsOk 100 (smOk 100 k) l = true) (hp : p.sz + 3 * costL k l ≤ 1000000) :
      callL Tryz.prog (ext11b chk) 47 [.ptr 1000000 0 0, .list l] [penB nm p ls r7] = some (.list (dI (listP nm k l p).1), [rmE 3 l.length], [penB nm (listP nm k l p).2 ls r7]) := by
    obtain ⟨l1, l2⟩ := lsOk_parts hl
    refine list_P nm (rowP fun s p => termK nm k (sf s) p) (fun c => 3 * (1 + costP (costS k) (cxL c))) (fun c p => rowP_sz c (fun x _ s _ p => termK_sz nm k s p) p) ls r7 l l1 (fun c hc p hp => ?_) (fun c hc => ?_) p (by rw [sum_mul]; exact hp)
    · have hcx := l2 c hc
      have hps := rpseudo_L (chk := chk) (k := k) c (cxOk_up hcx)
      obtain ⟨xs, rfl, f1, f2⟩ := cxOk_inv hcx
      refine row_P nm (fun s p => termK nm k (sf s) p) (costS k) (fun s p => termK_sz nm k s p) (fun s p => termK_form nm k (sf s) p) ls r7 xs f1 (fun x hx => ?_) _ hps rfl p hp
      obtain ⟨cb, sl, rfl, f3, f4⟩ := cpOk_inv (f2 x hx)
      refine ⟨cb, sl, rfl, f3, fun s hs => ⟨?_, fun p hp => ht s p (f4 s hs) hp⟩⟩
      cases k with
      | zero => have := f4 s hs; simp [smOk] at this
      | succ k => exact ⟨sf s, (smOk_inv (f4 s hs)).1⟩
    · obtain ⟨xs, rfl, _⟩ := cxOk_inv (l2 c hc)
      exact ⟨xs, rfl⟩
end Go.Av
namespace Go.Av
open Go.RowKit
variable [Gs]
def exQ (P : Program) (rs : List ResultVar) (m : Nat) (Y : D × List Room × List Bx → Prop) : X → St → Prop := fun x s => ∃ R, Y R ∧ endQ P rs m R x s
theorem exQ_i {P : Program} {rs : List ResultVar} {m : Nat} {Y : D × List Room × List Bx → Prop} {x : X} {s : St} (R : D × List Room × List Bx) (hY : Y R) (h : endQ P rs m R x s) : exQ P rs m Y x s := ⟨R, hY, h⟩
theorem callX {P : Program} {ext : Call} {f : FuncId} {fn : Func} {c : Code} {args : List D} {pbs : List Bx} {Y : D × List Room × List Bx → Prop} {m : Nat} {res : List Tmp} {rs : List ResultVar} (hx : ext f args pbs = none) (hf : P.funcs[f]? = some fn) (hb : fn.body = some c)
    (hm : max args.length fn.ntmps = m) (hres : resTmps fn = res) (hrs : fn.results.toList = rs) (hn : noTwice res = true) (h : goX P ext m res (exQ P rs pbs.length Y) [.code c] .normal (entry args pbs)) : ∃ R, callL P ext f args pbs = some R ∧ Y R :=
  callKx hx hf hb hm hres hrs hn h
theorem callL_ok {P : Program} (hP : Fine P) {ext : Call} (h : CallOK P ext) : CallOK P (callL P ext) := fun f args pbs d r pbs' e => by
  obtain ⟨N, hN⟩ := callL_aev e
  exact aev_sound hP h N _ _ _ _ _ _ hN
end Go.Av
namespace Go.Av
open Go.Proofs
variable [Rk] {chk : List D → Bool}
theorem right8_L (s : List UInt8) (hl : s.length ≤ 140737488355328) : callL Tryz.prog (ext11b chk) 93 [.str s] [] = some (.bool (goodB s), [.no], []) := by
  have h := good_L (chk := chk) s hl
  clear hl
  generalize goodB s = R at *
  exact cW 6 2 Tryz.func93
def nameB (s : List UInt8) : Bool := decide ((0 : Int) < s.length) && goodB s
theorem name8_L (s : List UInt8) (hl : s.length ≤ 140737488355328) : callL Tryz.prog (ext11b chk) 94 [.str s] [] = some (.bool (nameB s), [.no], []) := by
  have h := right8_L (chk := chk) s hl
  clear hl
  unfold nameB
  generalize goodB s = R at *
  by_cases c : (0 : Int) < s.length
  · rw [decide_eq_true c, Bool.true_and]
    exact cW 10 2 Tryz.func94
  · rw [decide_eq_false c, Bool.false_and]
    clear h
    exact cW 10 2 Tryz.func94
def smallB (n : Int) : Bool := decide (-1000000 ≤ n) && decide (n ≤ 1000000)
theorem small8_L (n : Int) : callL Tryz.prog (ext11b chk) 131 [.int .i64 n] [] = some (.bool (smallB n), [.no], []) := by
  unfold smallB
  by_cases c : (-1000000 : Int) ≤ n
  · rw [decide_eq_true c, Bool.true_and]
    by_cases d : n ≤ 1000000
    · rw [decide_eq_true d]
      exact cW 9 2 Tryz.func131
    · rw [decide_eq_false d]
      exact cW 9 2 Tryz.func131
  · rw [decide_eq_false c, Bool.false_and]
    exact cW 9 2 Tryz.func131
def isBoolR (R : D × List Room × List Bx) : Prop := ∃ b : Bool, R = (.bool b, [.no], [])
theorem names8_L (nm : Nam) (hn : nm.ok) (h1 : ∀ s ∈ nm.pre, s.length ≤ 140737488355328) (h2 : ∀ s ∈ nm.sps, s.length ≤ 140737488355328) (h3 : nm.dft.length ≤ 140737488355328) : ∃ b : Bool, callL Tryz.prog (ext11b chk) 68 [.agg nm.cs] [] = some (.bool b, [.no], []) := by
  have lN := lenM nm.sps D.str
  have lP := lenM nm.pre D.str
  have hd := right8_L (chk := chk) nm.dft h3
  have hhas := fun (i : Nat) (v : List UInt8) => has_L (chk := chk) (nm.pre.take i) v (by have := hn.1; rw [List.length_take]; omega)
  have hnmL := fun (i : Nat) (s : List UInt8) (h : nm.pre[i]? = some s) => name8_L (chk := chk) s (h1 s (List.mem_of_getElem? h))
  have hspL := fun (i : Nat) (s : List UInt8) (h : nm.sps[i]? = some s) => right8_L (chk := chk) s (h2 s (List.mem_of_getElem? h))
  have hp1 := hn.1
  have HH := Hd.mk hhas
  have HN := Hd.mk hnmL
  have HS := Hd.mk hspL
  clear hn h1 h2 h3 hhas hnmL hspL
  unfold Nam.cs
  obtain ⟨R, h, b, rfl⟩ := callX (Y := isBoolR) (P := Tryz.prog) (ext := ext11b chk) (args := [.agg [.bool nm.has, .str nm.dft, .list (nm.pre.map .str), .list (nm.sps.map .str)]]) (pbs := []) (f := 68) (m := 52) (res := [2]) (rs := [.tmp 2]) rfl Tryz.func68 rfl rfl rfl rfl rfl (by
    by_cases c1 : nm.pre.length = nm.sps.length
    · have c1' : ((nm.pre.length : Int) != (nm.sps.length : Int)) = false := by simp [c1]
      have HC := Hd.mk c1
      clear c1
      cases hg : goodB nm.dft with
      | false =>
        rw [hg] at hd
        refine Gy ?_
        exact exQ_i _ ⟨false, rfl⟩ Wy
      | true =>
        rw [hg] at hd
        refine Gy ?_
        refine loopH (fun s => ∃ i : Nat, i ≤ nm.pre.length ∧ s.slot 3 = .int .i64 i ∧ s.slot 1 = .ptr 1 1 0 ∧ (∃ rs, s.box 1 = some ⟨1, [.bool nm.has, .str nm.dft, .list (nm.pre.map .str), .list (nm.sps.map .str)], rs⟩)) (fun s => nm.pre.length - slotI s 3) ?_ ?_
        · exact ⟨0, Nat.zero_le _, Iy, Iy, ⟨(padR [] 4).take 4, Iy⟩⟩
        · rintro s K ⟨i, hi, g3, g1, ⟨rs, hb⟩⟩ hn hx hr
          by_cases hlt : i < nm.pre.length
          · obtain ⟨x, hxl⟩ : ∃ x, nm.pre[i]? = some x := ⟨nm.pre[i], List.getElem?_eq_getElem hlt⟩
            have c1 : nm.pre.length = nm.sps.length := HC
            obtain ⟨y, hyl⟩ : ∃ y, nm.sps[i]? = some y := ⟨nm.sps[i], List.getElem?_eq_getElem (by omega)⟩
            have k1 := (show ∀ (i : Nat) (s : List UInt8), nm.pre[i]? = some s → callL Tryz.prog (ext11b chk) 94 [.str s] [] = some (.bool (nameB s), [.no], []) from HN) i x hxl
            have k2 := (show ∀ (i : Nat) (v : List UInt8), callL Tryz.prog (ext11b chk) 52 [.list ((nm.pre.take i).map D.str), .str v] [] = some (.bool ((nm.pre.take i).contains v), [.no], []) from HH) i x
            have k3 := (show ∀ (i : Nat) (s : List UInt8), nm.sps[i]? = some s → callL Tryz.prog (ext11b chk) 93 [.str s] [] = some (.bool (goodB s), [.no], []) from HS) i y hyl
            have hlt' : (i : Int) < nm.pre.length := by omega
            have hlt2 : (i : Int) < nm.sps.length := by omega
            have hle : (i : Int) ≤ nm.pre.length := by omega
            have hgd : (nm.pre.map D.str).getD i .bad = .str x := by simp [List.getD, hxl]
            have hgd2 : (nm.sps.map D.str).getD i .bad = .str y := by simp [List.getD, hyl]
            have htk : (nm.pre.map D.str).take i = (nm.pre.take i).map D.str := (List.map_take ..).symm
            have hz : szOk 1 (nm.pre.map D.str) = true := by cases nm.pre <;> rfl
            have hw1 := wrapS i (by omega)
            generalize nameB x = b1 at *
            generalize (nm.pre.take i).contains x = b2 at *
            generalize goodB y = b3 at *
            clear HN HH HS hxl hyl hd hlt c1
            cases b1 with
            | false =>
              refine Qy ?_
              exact hr _ (exQ_i _ ⟨false, rfl⟩ Wy)
            | true =>
              cases b2 with
              | true =>
                refine Qy ?_
                exact hr _ (exQ_i _ ⟨false, rfl⟩ Wy)
              | false =>
                cases b3 with
                | false =>
                  refine Qy ?_
                  exact hr _ (exQ_i _ ⟨false, rfl⟩ Wy)
                | true =>
                  refine Qy ?_
                  exact hn _ ⟨i + 1, by omega, L, L, ⟨rs, L⟩⟩ Zy
          · have hge : ¬ (i : Int) < nm.pre.length := by omega
            refine Gy ?_
            refine hx 0 _ ?_
            clear hx hr hn
            refine Gy ?_
            exact exQ_i _ ⟨true, rfl⟩ Wy
    · have c1' : ((nm.pre.length : Int) != (nm.sps.length : Int)) = true := by simp; omega
      clear hd
      refine Gy ?_
      exact exQ_i _ ⟨false, rfl⟩ Wy)
  exact ⟨b, h⟩
end Go.Av
namespace Go.Av
open Go.Proofs
variable [Rk] {chk : List D → Bool}
set_option maxHeartbeats 8000000 in
theorem parts8_L (s : Sf) : callL Tryz.prog (ext11b chk) 127 [s.d] [] = some (.tuple [.bool ((s.ns != 0) || !(s.pre == [])), .bool (!(s.nm == [])), .bool ((s.op != 0) || (!(s.tx == []) || (s.fold || (s.mark != 0)))), .bool ((s.a != 0) || (s.b != 0)), .bool (decide ((0 : Int) < s.of_.length))], [.no, .no, .no, .no, .no], []) := by
  unfold Sf.d
  refine callK (m := 52) (res := [2, 3, 4, 5, 6]) (rs := [.tmp 2, .tmp 3, .tmp 4, .tmp 5, .tmp 6]) rfl Tryz.func127 rfl rfl rfl rfl rfl ?_
  exact Wy
theorem space8_L (s : Sf) (nm : Nam) (hn : nm.ok) : callL Tryz.prog (ext11b chk) 128 [s.d, .agg nm.cs] [] = some (.bool (if (s.ns == 3) = true then nm.pre.contains s.pre else decide ((0 : Int) ≤ s.ns) && (decide (s.ns < (3 : Int)) && (s.pre == []))), [.no], []) := by
  have h := has_L (chk := chk) nm.pre s.pre (by have := hn.1; omega)
  clear hn
  unfold Sf.d Nam.cs
  generalize nm.pre.contains s.pre = R at *
  generalize nm.pre.map D.str = L1 at *
  cases c : (s.ns == 3) with
  | true =>
    rw [if_pos rfl]
    refine cK 26 4 Tryz.func128 ?_
    exact Wy
  | false =>
    rw [if_neg (by decide)]
    clear h
    refine cK 26 4 Tryz.func128 ?_
    exact Wy
set_option maxHeartbeats 8000000 in
theorem attr8_L (s : Sf) (h1 : s.tx.length ≤ 140737488355328) : callL Tryz.prog (ext11b chk) 129 [s.d] [] = some (.bool (!(decide (s.op < (1 : Int)) || (decide ((7 : Int) < s.op) || (!(goodB s.tx) || (decide (s.mark < (0 : Int)) || decide ((2 : Int) < s.mark))))) && (!((s.op == 1) && (!(s.tx == []) || (s.mark != 0))) && (s.fold == (s.mark == 1)))), [.no], []) := by
  have h := right8_L (chk := chk) s.tx h1
  clear h1
  unfold Sf.d
  generalize goodB s.tx = R at *
  refine cK 52 2 Tryz.func129 ?_
  exact Wy
end Go.Av
namespace Go.Av
open Go.Proofs
variable [Rk] {chk : List D → Bool}
def elS8 : List (List UInt8) := [[98, 101, 102, 111, 114, 101], [97, 102, 116, 101, 114], [102, 105, 114, 115, 116, 45, 108, 105, 110, 101], [102, 105, 114, 115, 116, 45, 108, 101, 116, 116, 101, 114], [109, 97, 114, 107, 101, 114], [115, 101, 108, 101, 99, 116, 105, 111, 110], [112, 108, 97, 99, 101, 104, 111, 108, 100, 101, 114], [98, 97, 99, 107, 100, 114, 111, 112]]
def elL8 : List D := elS8.map .str
theorem bs24e : dbuildSlice Tryz.prog 24 8 [(0, .str [98, 101, 102, 111, 114, 101]), (1, .str [97, 102, 116, 101, 114]), (2, .str [102, 105, 114, 115, 116, 45, 108, 105, 110, 101]), (3, .str [102, 105, 114, 115, 116, 45, 108, 101, 116, 116, 101, 114]), (4, .str [109, 97, 114, 107, 101, 114]), (5, .str [115, 101, 108, 101, 99, 116, 105, 111, 110]), (6, .str [112, 108, 97, 99, 101, 104, 111, 108, 100, 101, 114]), (7, .str [98, 97, 99, 107, 100, 114, 111, 112])] = some (.list elL8) := by kernel_rfl
theorem relm8_L (s : List UInt8) : callL Tryz.prog (ext11b chk) 130 [.str s] [] = some (.bool (elS8.contains s), [.no], []) := by
  have h : callL Tryz.prog (ext11b chk) 52 [.list elL8, .str s] [] = some (.bool (elS8.contains s), [.no], []) := has_L (chk := chk) elS8 s (by decide)
  generalize elS8.contains s = R at *
  refine cK 6 2 Tryz.func130 ?_
  repeat' (first|simp only [*, bs24e, AVB, ↓reduceIte, Nat.reduceEqDiff, Nat.reduceLT, reduceCtorEq, Nat.reduceBEq])
def simp8 (kd : Int) (ns nb cond ab of_ S N A St El sa sb R : Bool) : Bool :=
  if kd = 1 then S && (N && (!cond && (!ab && !of_))) else if kd = 2 then S && (!nb && (!cond && (!ab && !of_))) else if kd = 5 then S && (N && (A && (!ab && !of_)))
  else if (ns || cond) = true then false
  else if kd = 3 ∨ kd = 4 then N && (!ab && !of_) else if kd = 11 then St && (!ab && !of_) else if kd = 13 then El && (!ab && !of_)
  else if nb = true then false else if kd = 6 ∨ kd = 12 then !ab && !of_
  else if kd = 7 then sa && (sb && (!of_ || R)) else if kd = 8 ∨ kd = 9 ∨ kd = 10 then !ab && R else false
set_option maxHeartbeats 16000000 in
theorem simple8_P (s : Sf) (nm : Nam) (ns nb cond ab of_ S N A St El sa sb R : Bool) (hp : callL Tryz.prog (ext11b chk) 127 [s.d] [] = some (.tuple [.bool ns, .bool nb, .bool cond, .bool ab, .bool of_], [.no, .no, .no, .no, .no], []))
    (hS : callL Tryz.prog (ext11b chk) 128 [s.d, .agg nm.cs] [] = some (.bool S, [.no], [])) (hN : callL Tryz.prog (ext11b chk) 94 [.str s.nm] [] = some (.bool N, [.no], [])) (hA : callL Tryz.prog (ext11b chk) 129 [s.d] [] = some (.bool A, [.no], []))
    (hSt : callL Tryz.prog (ext11b chk) 51 [.str s.nm] [] = some (.bool St, [.no], [])) (hEl : callL Tryz.prog (ext11b chk) 130 [.str s.nm] [] = some (.bool El, [.no], [])) (hsa : callL Tryz.prog (ext11b chk) 131 [.int .i64 s.a] [] = some (.bool sa, [.no], [])) (hsb : callL Tryz.prog (ext11b chk) 131 [.int .i64 s.b] [] = some (.bool sb, [.no], []))
    (hR : callL Tryz.prog (ext11b chk) 74 [.list s.of_, .agg nm.cs, .bool false] [] = some (.bool R, [.no], [])) :
    callL Tryz.prog (ext11b chk) 102 [s.d, .agg nm.cs] [] = some (.bool (simp8 s.kd ns nb cond ab of_ S N A St El sa sb R), [.no], []) := by
  obtain ⟨kd, ns', pre, nme, op, tx, fold, mark, a, b, ofl⟩ := s
  unfold Sf.d Nam.cs at *
  dsimp only at *
  generalize nm.pre.map D.str = L1 at *
  generalize nm.sps.map D.str = L2 at *
  by_cases c1 : kd = 1
  · subst c1
    have e : simp8 1 ns nb cond ab of_ S N A St El sa sb R = (S && (N && (!cond && (!ab && !of_)))) := by unfold simp8; simp
    rw [e]
    clear e hA hSt hEl hsa hsb hR
    exact cWy 198 4 Tryz.func102
  have d1 : (kd == 1) = false := by simpa using c1
  by_cases c2 : kd = 2
  · subst c2
    have e : simp8 2 ns nb cond ab of_ S N A St El sa sb R = (S && (!nb && (!cond && (!ab && !of_)))) := by unfold simp8; simp
    rw [e]
    clear e hN hA hSt hEl hsa hsb hR
    exact cWy 198 4 Tryz.func102
  have d2 : (kd == 2) = false := by simpa using c2
  by_cases c5 : kd = 5
  · subst c5
    have e : simp8 5 ns nb cond ab of_ S N A St El sa sb R = (S && (N && (A && (!ab && !of_)))) := by unfold simp8; simp
    rw [e]
    clear e hSt hEl hsa hsb hR
    exact cWy 198 4 Tryz.func102
  have d5 : (kd == 5) = false := by simpa using c5
  by_cases c3 : kd = 3
  · subst c3
    have e : simp8 3 ns nb cond ab of_ S N A St El sa sb R = (if (ns || cond) = true then false else N && (!ab && !of_)) := by unfold simp8; simp
    rw [e]
    clear e hS hA hSt hEl hsa hsb hR
    cases ns <;> cases cond
    · rw [if_neg (by decide)]; exact cWy 198 4 Tryz.func102
    · rw [if_pos (by decide)]; clear hN; exact cWy 198 4 Tryz.func102
    · rw [if_pos (by decide)]; clear hN; exact cWy 198 4 Tryz.func102
    · rw [if_pos (by decide)]; clear hN; exact cWy 198 4 Tryz.func102
  have d3 : (kd == 3) = false := by simpa using c3
  by_cases c4 : kd = 4
  · subst c4
    have e : simp8 4 ns nb cond ab of_ S N A St El sa sb R = (if (ns || cond) = true then false else N && (!ab && !of_)) := by unfold simp8; simp
    rw [e]
    clear e hS hA hSt hEl hsa hsb hR
    cases ns <;> cases cond
    · rw [if_neg (by decide)]; exact cWy 198 4 Tryz.func102
    · rw [if_pos (by decide)]; clear hN; exact cWy 198 4 Tryz.func102
    · rw [if_pos (by decide)]; clear hN; exact cWy 198 4 Tryz.func102
    · rw [if_pos (by decide)]; clear hN; exact cWy 198 4 Tryz.func102
  have d4 : (kd == 4) = false := by simpa using c4
  by_cases c11 : kd = 11
  · subst c11
    have e : simp8 11 ns nb cond ab of_ S N A St El sa sb R = (if (ns || cond) = true then false else St && (!ab && !of_)) := by unfold simp8; simp
    rw [e]
    clear e hS hN hA hEl hsa hsb hR
    cases ns <;> cases cond
    · rw [if_neg (by decide)]; exact cWy 198 4 Tryz.func102
    · rw [if_pos (by decide)]; clear hSt; exact cWy 198 4 Tryz.func102
    · rw [if_pos (by decide)]; clear hSt; exact cWy 198 4 Tryz.func102
    · rw [if_pos (by decide)]; clear hSt; exact cWy 198 4 Tryz.func102
  have d11 : (kd == 11) = false := by simpa using c11
  by_cases c13 : kd = 13
  · subst c13
    have e : simp8 13 ns nb cond ab of_ S N A St El sa sb R = (if (ns || cond) = true then false else El && (!ab && !of_)) := by unfold simp8; simp
    rw [e]
    clear e hS hN hA hSt hsa hsb hR
    cases ns <;> cases cond
    · rw [if_neg (by decide)]; exact cWy 198 4 Tryz.func102
    · rw [if_pos (by decide)]; clear hEl; exact cWy 198 4 Tryz.func102
    · rw [if_pos (by decide)]; clear hEl; exact cWy 198 4 Tryz.func102
    · rw [if_pos (by decide)]; clear hEl; exact cWy 198 4 Tryz.func102
  have d13 : (kd == 13) = false := by simpa using c13
  by_cases c6 : kd = 6
  · subst c6
    have e : simp8 6 ns nb cond ab of_ S N A St El sa sb R = (if (ns || cond) = true then false else if nb = true then false else !ab && !of_) := by unfold simp8; simp
    rw [e]
    clear e hS hN hA hSt hEl hsa hsb hR
    cases ns <;> cases cond
    · rw [if_neg (by decide)]; cases nb
      · rw [if_neg (by decide)]; exact cWy 198 4 Tryz.func102
      · rw [if_pos (by decide)]; exact cWy 198 4 Tryz.func102
    · rw [if_pos (by decide)]; exact cWy 198 4 Tryz.func102
    · rw [if_pos (by decide)]; exact cWy 198 4 Tryz.func102
    · rw [if_pos (by decide)]; exact cWy 198 4 Tryz.func102
  have d6 : (kd == 6) = false := by simpa using c6
  by_cases c12 : kd = 12
  · subst c12
    have e : simp8 12 ns nb cond ab of_ S N A St El sa sb R = (if (ns || cond) = true then false else if nb = true then false else !ab && !of_) := by unfold simp8; simp
    rw [e]
    clear e hS hN hA hSt hEl hsa hsb hR
    cases ns <;> cases cond
    · rw [if_neg (by decide)]; cases nb
      · rw [if_neg (by decide)]; exact cWy 198 4 Tryz.func102
      · rw [if_pos (by decide)]; exact cWy 198 4 Tryz.func102
    · rw [if_pos (by decide)]; exact cWy 198 4 Tryz.func102
    · rw [if_pos (by decide)]; exact cWy 198 4 Tryz.func102
    · rw [if_pos (by decide)]; exact cWy 198 4 Tryz.func102
  have d12 : (kd == 12) = false := by simpa using c12
  by_cases c7 : kd = 7
  · subst c7
    have e : simp8 7 ns nb cond ab of_ S N A St El sa sb R = (if (ns || cond) = true then false else if nb = true then false else sa && (sb && (!of_ || R))) := by unfold simp8; simp
    rw [e]
    clear e hS hN hA hSt hEl
    cases ns <;> cases cond
    · rw [if_neg (by decide)]; cases nb
      · rw [if_neg (by decide)]; exact cWy 198 4 Tryz.func102
      · rw [if_pos (by decide)]; clear hsa hsb hR; exact cWy 198 4 Tryz.func102
    · rw [if_pos (by decide)]; clear hsa hsb hR; exact cWy 198 4 Tryz.func102
    · rw [if_pos (by decide)]; clear hsa hsb hR; exact cWy 198 4 Tryz.func102
    · rw [if_pos (by decide)]; clear hsa hsb hR; exact cWy 198 4 Tryz.func102
  have d7 : (kd == 7) = false := by simpa using c7
  by_cases c8 : kd = 8
  · subst c8
    have e : simp8 8 ns nb cond ab of_ S N A St El sa sb R = (if (ns || cond) = true then false else if nb = true then false else !ab && R) := by unfold simp8; simp
    rw [e]
    clear e hS hN hA hSt hEl hsa hsb
    cases ns <;> cases cond
    · rw [if_neg (by decide)]; cases nb
      · rw [if_neg (by decide)]; exact cWy 198 4 Tryz.func102
      · rw [if_pos (by decide)]; clear hR; exact cWy 198 4 Tryz.func102
    · rw [if_pos (by decide)]; clear hR; exact cWy 198 4 Tryz.func102
    · rw [if_pos (by decide)]; clear hR; exact cWy 198 4 Tryz.func102
    · rw [if_pos (by decide)]; clear hR; exact cWy 198 4 Tryz.func102
  have d8 : (kd == 8) = false := by simpa using c8
  by_cases c9 : kd = 9
  · subst c9
    have e : simp8 9 ns nb cond ab of_ S N A St El sa sb R = (if (ns || cond) = true then false else if nb = true then false else !ab && R) := by unfold simp8; simp
    rw [e]
    clear e hS hN hA hSt hEl hsa hsb
    cases ns <;> cases cond
    · rw [if_neg (by decide)]; cases nb
      · rw [if_neg (by decide)]; exact cWy 198 4 Tryz.func102
      · rw [if_pos (by decide)]; clear hR; exact cWy 198 4 Tryz.func102
    · rw [if_pos (by decide)]; clear hR; exact cWy 198 4 Tryz.func102
    · rw [if_pos (by decide)]; clear hR; exact cWy 198 4 Tryz.func102
    · rw [if_pos (by decide)]; clear hR; exact cWy 198 4 Tryz.func102
  have d9 : (kd == 9) = false := by simpa using c9
  by_cases c10 : kd = 10
  · subst c10
    have e : simp8 10 ns nb cond ab of_ S N A St El sa sb R = (if (ns || cond) = true then false else if nb = true then false else !ab && R) := by unfold simp8; simp
    rw [e]
    clear e hS hN hA hSt hEl hsa hsb
    cases ns <;> cases cond
    · rw [if_neg (by decide)]; cases nb
      · rw [if_neg (by decide)]; exact cWy 198 4 Tryz.func102
      · rw [if_pos (by decide)]; clear hR; exact cWy 198 4 Tryz.func102
    · rw [if_pos (by decide)]; clear hR; exact cWy 198 4 Tryz.func102
    · rw [if_pos (by decide)]; clear hR; exact cWy 198 4 Tryz.func102
    · rw [if_pos (by decide)]; clear hR; exact cWy 198 4 Tryz.func102
  have d10 : (kd == 10) = false := by simpa using c10
  have e : simp8 kd ns nb cond ab of_ S N A St El sa sb R = false := by unfold simp8; simp [c1, c2, c3, c4, c5, c6, c7, c8, c9, c10, c11, c12, c13]
  rw [e]
  clear e hS hN hA hSt hEl hsa hsb hR
  cases ns <;> cases cond <;> cases nb <;> exact cWy 198 4 Tryz.func102
end Go.Av
