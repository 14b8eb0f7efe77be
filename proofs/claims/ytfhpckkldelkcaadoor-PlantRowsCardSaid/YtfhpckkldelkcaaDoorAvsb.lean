/- The evaluator, in one text: over any program; no conditions but those that each law names. -/
import Derived.Test.YtfhpckkldelkcaaDoorAvsa
import Derived.Test.YtfhpckkldelkcaaDoorGd
import Derived.Test.YtfhpckkldelkcaaDoorAvb
import Derived.Test.YtfhpckkldelkcaaDoorMem
import Derived.Test.YtfhpckkldelkcaaDoorChecked
import Derived.LaidEql
import Derived.Stop.Asserts
import Derived.RowKitTokens
import Derived.Test.YtfhpckkldelkcaaDoorPlX
set_option linter.unusedSimpArgs false
set_option linter.unusedVariables false
set_option linter.unusedSectionVars false
set_option maxRecDepth 100000
namespace Go.Av
open Go.Proofs Go.RowKit Go.Proofs.YtfhpckkldelkcaaDoor
variable [Ek]
theorem NodeR.move {cur cur' : Array Value} {w : World} {i i' a m b : Nat} {e : D} (h : NodeR cur w i a m b e) (hc' : ∀ j, j < 7 → cur'[i' * 7 + j]? = cur[i * 7 + j]?) : NodeR cur' w i' a m b e := by
  obtain ⟨p, k, sp, nm, la, ls, tx, u4, u5, vs4, vs5, he, ⟨c0, c1, c2, c3, c4, c5, c6⟩, h4, h5, r4, r5⟩ := h
  exact ⟨p, k, sp, nm, la, ls, tx, u4, u5, vs4, vs5, he, ⟨(hc' 0 (by decide)).trans c0, (hc' 1 (by decide)).trans c1, (hc' 2 (by decide)).trans c2, (hc' 3 (by decide)).trans c3, (hc' 4 (by decide)).trans c4, (hc' 5 (by decide)).trans c5, (hc' 6 (by decide)).trans c6⟩, h4, h5, r4, r5⟩
theorem DocC.one {w : World} {lo hi k : Nat} {cur : Array Value} {es : List D} (h : DocC w lo hi cur es k) (hk : k = es.length) : ∀ t, t < k * 7 → ∃ v, cur[t]? = some v ∧ v.oneCell' = true := by
  obtain ⟨r, m, h1, h2, h3, h4⟩ := h
  intro t ht
  obtain ⟨i, j, hj, rfl⟩ : ∃ i j, j < 7 ∧ t = i * 7 + j := ⟨t / 7, t % 7, Nat.mod_lt _ (by decide), by omega⟩
  have hi : i < k := by omega
  obtain ⟨p, kk, sp, nm, la, ls, tx, u4, u5, vs4, vs5, he, ⟨c0, c1, c2, c3, c4, c5, c6⟩, o4, o5, r4, r5⟩ := h4 i _ hi (List.getElem?_eq_getElem (by omega))
  match j, hj with
  | 0, _ => exact ⟨_, c0, rfl⟩
  | 1, _ => exact ⟨_, c1, rfl⟩
  | 2, _ => exact ⟨_, c2, rfl⟩
  | 3, _ => exact ⟨_, c3, rfl⟩
  | 4, _ => exact ⟨_, c4, o4.one⟩
  | 5, _ => exact ⟨_, c5, o5.one⟩
  | 6, _ => exact ⟨_, c6, rfl⟩
theorem DocC.erase {w : World} {lo hi k n : Nat} {cur cur' : Array Value} {es : List D} (h : DocC w lo hi cur es k) (hk : k = es.length) (hn : n < k) (hc : ∀ j, j < (k - 1) * 7 → cur'[j]? = if j < n * 7 then cur[j]? else cur[j + 7]?) : DocC w lo hi cur' (es.eraseIdx n) (k - 1) := by
  obtain ⟨r, m, h1, h2, h3, h4⟩ := h
  refine ⟨fun i => if i < n then r i else r (i + 1), fun i => if i < n then m i else m (i + 1), ?_, ?_, fun i hi => ?_, fun i e hi he => ?_⟩
  · have := h3 0 (by omega)
    by_cases h : 0 < n <;> simp only [h, if_true, if_false] <;> omega
  · have : ¬ k - 1 < n := by omega
    simp only [this, if_false]
    rw [show k - 1 + 1 = k by omega]
    exact h2
  · have a1 := h3 i (by omega)
    have a2 := h3 (i + 1) (by omega)
    by_cases h : i < n
    · by_cases h' : i + 1 < n
      · simp only [h, h', if_true]
        exact a1
      · simp only [h, h', if_true, if_false]
        omega
    · have h' : ¬ i + 1 < n := by omega
      simp only [h, h', if_false]
      exact a2
  · rw [List.getElem?_eraseIdx] at he
    by_cases h : i < n
    · rw [if_pos h] at he
      simp only [h, if_true]
      have q := h4 i e (by omega) he
      have a2 := h3 (i + 1) (by omega)
      refine (q.move (fun j hj => ?_)).mono ?_
      · rw [hc _ (by omega), if_pos (by omega)]
      · by_cases h' : i + 1 < n
        · simp only [h', if_true]; exact Nat.le_refl _
        · simp only [h', if_false]; omega
    · rw [if_neg h] at he
      have h' : ¬ i + 1 < n := by omega
      simp only [h, h', if_false]
      refine (h4 (i + 1) e (by omega) he).move (fun j hj => ?_)
      rw [hc _ (by omega), if_neg (by omega)]
      congr 1
      omega
theorem DocC.setP {w : World} {lo hi k i : Nat} {cur cur' : Array Value} {es : List D} {p p' kk : Int} {sp nm tx : List UInt8} {la ls : List D} (h : DocC w lo hi cur es k) (he : es[i]? = some (.agg [.int .i64 p, .int .i64 kk, .str sp, .str nm, .list la, .list ls, .str tx]))
    (hc : ∀ j, j ≠ i * 7 → cur'[j]? = cur[j]?) (hp : cur'[i * 7]? = some (.int .i64 p')) : DocC w lo hi cur' (es.set i (.agg [.int .i64 p', .int .i64 kk, .str sp, .str nm, .list la, .list ls, .str tx])) k := by
  obtain ⟨r, m, h1, h2, h3, h4⟩ := h
  refine ⟨r, m, h1, h2, h3, fun j x hj hx => ?_⟩
  by_cases hji : j = i
  · subst hji
    have hjl := (List.getElem?_eq_some_iff.1 he).1
    rw [List.getElem?_set_self hjl] at hx
    obtain rfl := Option.some.inj hx
    obtain ⟨p0, k0, sp0, nm0, la0, ls0, tx0, u4, u5, vs4, vs5, e0, ⟨c0, c1, c2, c3, c4, c5, c6⟩, o4, o5, r4, r5⟩ := h4 j _ hj he
    simp only [D.agg.injEq, List.cons.injEq, D.int.injEq, D.str.injEq, D.list.injEq, and_true, true_and] at e0
    obtain ⟨rfl, rfl, rfl, rfl, rfl, rfl, rfl⟩ := e0
    exact ⟨p', _, _, _, _, _, _, u4, u5, vs4, vs5, rfl, ⟨hp, (hc _ (by omega)).trans c1, (hc _ (by omega)).trans c2, (hc _ (by omega)).trans c3, (hc _ (by omega)).trans c4, (hc _ (by omega)).trans c5, (hc _ (by omega)).trans c6⟩, o4, o5, r4, r5⟩
  · rw [List.getElem?_set_ne (fun e => hji e.symm)] at hx
    exact (h4 j x hj hx).cells (fun t ht => hc _ (by omega))
theorem DocC.node {w : World} {lo hi k i : Nat} {cur : Array Value} {es : List D} {e : D} (h : DocC w lo hi cur es k) (hi : i < k) (he : es[i]? = some e) : ∃ p kk sp nm la ls tx, e = .agg [.int .i64 p, .int .i64 kk, .str sp, .str nm, .list la, .list ls, .str tx] ∧ cur[i * 7]? = some (.int .i64 p) := by
  obtain ⟨r, m, h1, h2, h3, h4⟩ := h
  obtain ⟨p0, k0, sp0, nm0, la0, ls0, tx0, u4, u5, vs4, vs5, e0, ⟨c0, c1, c2, c3, c4, c5, c6⟩, o4, o5, r4, r5⟩ := h4 i _ hi he
  exact ⟨_, _, _, _, _, _, _, e0, c0⟩
theorem cutC_at {n k j : Nat} {xs : List Value} (hl : xs.length = k * 7) (hn : n < k) : (cutC 7 n xs)[j]? = if j < n * 7 then xs[j]? else xs[j + 7]? := by
  have hl1 : (xs.take (n * 7)).length = n * 7 := by rw [List.length_take]; omega
  unfold cutC
  by_cases h : j < n * 7
  · rw [if_pos h, List.getElem?_append_left (by omega), List.getElem?_take, if_pos h]
  · rw [if_neg h, List.getElem?_append_right (by omega), hl1, List.getElem?_drop]
    congr 1
    omega
theorem DocR.del {w : World} {lo hi n : Nat} {g c : Nat} {cur : Array Value} {es : List D} {nz : Nat} (hz : nz = es.length) (hc : nz ≤ c) (hm : c ≤ maxLen) (hlo : lo ≤ g) (hh : w.heap[g]? = some (.cells cur 28 (0, 0))) (hs : nz * 7 ≤ cur.size) (hD : DocC w (g + 1) hi cur es es.length) (hn : n < nz) (j : Int) (hj : j = ((n + 1 : Nat) : Int)) :
    Calls Tryd.prog 51 #[.slice (some ⟨g, 0, none⟩) nz c, .int .i64 n, .int .i64 j] w fun e w' => e = .returned (.slice (some ⟨g, 0, none⟩) (nz - 1) c) ∧ w.grownBy w' (some g) ∧ w'.heap.size = w.heap.size ∧
      ∃ cur', w'.heap[g]? = some (.cells cur' 28 (0, 0)) ∧ cur'.size = cur.size ∧ DocC w' (g + 1) hi cur' (es.eraseIdx n) (nz - 1) := by
  subst hj
  have hB : Bk w g 28 cur := hh
  have hone := hD.one rfl
  obtain ⟨xs, hxs⟩ : ∃ xs, xs = cur.toList.take (nz * 7) := ⟨_, rfl⟩
  have hxl : xs.length = nz * 7 := by rw [hxs]; simp; omega
  have hxa : ∀ t, t < nz * 7 → xs[t]? = cur[t]? := fun t ht => by rw [hxs, List.getElem?_take, if_pos ht, Array.getElem?_toList]
  have hat : ∀ k u, xs[k]? = some u → w.cell? ⟨g, 0 + k, none⟩ = some u ∧ w.frozen? ⟨g, 0 + k, none⟩ = false ∧ u.oneCell' = true := fun k u hu => by
    have hk := (List.getElem?_eq_some_iff.1 hu).1
    rw [hxa k (by omega)] at hu
    rw [Nat.zero_add]
    obtain ⟨v, hv, ho⟩ := hone k (by rw [← hz]; omega)
    rw [hv] at hu
    injection hu with hu
    subst hu
    exact ⟨by rw [hB.cell k]; exact hv, hB.free k, ho⟩
  refine (del7_any g 0 c n (n + 1) nz xs w hxl hat hc hm hn rfl).mono ?_
  rintro e w' ⟨rfl, rfl⟩
  obtain ⟨cur', d1, d2, d3, d4, d5⟩ := del_left (zs := [.int .i64 0, .int .i64 0, .string ⟨#[]⟩, .string ⟨#[]⟩, .slice none 0 0, .slice none 0 0, .string ⟨#[]⟩]) hB hxl hs hxs.symm hn rfl
  refine ⟨rfl, d3, d4, cur', d1, d2, ?_⟩
  rw [← hz] at hD
  refine (hD.gb d3 (Nat.lt_succ_self g)).erase hz hn (fun j hj => ?_)
  have e1 : cur'[j]? = (cutC 7 n xs)[j]? := by rw [← d5, List.getElem?_take, if_pos hj, Array.getElem?_toList]
  rw [e1, cutC_at hxl hn]
  by_cases h : j < n * 7
  · rw [if_pos h, if_pos h]
    exact hxa j (by omega)
  · rw [if_neg h, if_neg h]
    exact hxa (j + 7) (by omega)
def lowP (n p : Int) : Int := if p > n then p - 1 else p
def lowN (n : Int) : D → D
  | .agg (.int k p :: r) => .agg (.int k (lowP n p) :: r)
  | d => d
def withoutF (es : List D) (n : Nat) : List D := (es.eraseIdx n).map (lowN n)
def lowTo (n : Int) (j : Nat) (es : List D) : List D := (es.take j).map (lowN n) ++ es.drop j
theorem lowTo_at {n : Int} {j : Nat} {es : List D} : (lowTo n j es)[j]? = es[j]? := by
  unfold lowTo
  by_cases h : j ≤ es.length
  · rw [List.getElem?_append_right (by simp; omega)]
    simp
    congr 1
    omega
  · rw [List.getElem?_eq_none (by simp; omega), List.getElem?_eq_none (by omega)]
theorem lowTo_len {n : Int} {j : Nat} {es : List D} : (lowTo n j es).length = es.length := by
  unfold lowTo
  simp
  omega
theorem lowTo_succ {n : Int} {j : Nat} {es : List D} {e : D} (h : es[j]? = some e) : lowTo n (j + 1) es = (lowTo n j es).set j (lowN n e) := by
  have hj := (List.getElem?_eq_some_iff.1 h).1
  have hjl : ((es.take j).map (lowN n)).length = j := by simp; omega
  unfold lowTo
  rw [List.set_append_right _ _ (by simp; omega), hjl, Nat.sub_self, List.take_add_one, h, List.drop_eq_getElem_cons hj]
  have : es[j] = e := by
    rw [List.getElem?_eq_getElem hj] at h
    injection h
  simp [this]
theorem lowTo_end {n : Int} {es : List D} : lowTo n es.length es = es.map (lowN n) := by simp [lowTo]
theorem lowTo_zero {n : Int} {es : List D} : lowTo n 0 es = es := by simp [lowTo]
theorem isNode_low {n : Int} {e : D} (h : isNode e = true) : isNode (lowN n e) = true := by
  obtain ⟨p, k, sp, nm, la, ls, tx, rfl, _⟩ := isNode_inv h
  exact h
theorem lowN_same {n p kk : Int} {sp nm tx : List UInt8} {la ls : List D} (h : ¬ n < p) : lowN n (.agg [.int .i64 p, .int .i64 kk, .str sp, .str nm, .list la, .list ls, .str tx]) = .agg [.int .i64 p, .int .i64 kk, .str sp, .str nm, .list la, .list ls, .str tx] := by
  simp [lowN, lowP, h]
theorem lowN_less {n p kk : Int} {sp nm tx : List UInt8} {la ls : List D} (h : n < p) : lowN n (.agg [.int .i64 p, .int .i64 kk, .str sp, .str nm, .list la, .list ls, .str tx]) = .agg [.int .i64 (p - 1), .int .i64 kk, .str sp, .str nm, .list la, .list ls, .str tx] := by
  simp [lowN, lowP, h]
end Go.Av
namespace Go.Av
open Go.Proofs Go.RowKit Go.Proofs.YtfhpckkldelkcaaDoor
variable [Ek]
def parSm : D → Bool
  | .agg (.int _ p :: _) => decide (-1000000 ≤ p) && decide (p ≤ 1000000)
  | _ => false
theorem without_new (es : List D) (F : Nat → Nat → Prop) (w : World) (v : Value) (n : Nat) (hlt : Lt F w) (hd : Den0 F w v (.list es)) (hdoc : docOk es = true) (hpar : ∀ e ∈ es, parSm e = true) (hn : n < es.length) :
    Calls Tryd.prog 35 #[v, .int .i64 n] w (fun e w' => ∃ u, e = .returned u ∧ Ge w w' ∧ Den0 (nw F w w') w' u (.list (withoutF es n))) := by
  obtain ⟨z1, z2, z3⟩ := docOk_inv hdoc
  obtain ⟨nz, HNZ⟩ : ∃ nz, Hid (nz = es.length) := ⟨_, rfl⟩
  have hnz : n < nz := by rw [HNZ.out]; exact hn
  have hnL : nz ≤ 10000 := by rw [HNZ.out]; exact z2
  obtain ⟨es1, HE1⟩ : ∃ es1, Hid (es1 = es.eraseIdx n) := ⟨_, rfl⟩
  have hl1 : Hid (es1.length = nz - 1) := by
    show es1.length = nz - 1
    rw [HE1.out, List.length_eraseIdx, if_pos hn, HNZ.out]
  have hp1 : Hid (∀ e ∈ es1, parSm e = true) := by
    intro e he
    rw [HE1.out] at he
    exact hpar e (List.mem_of_mem_eraseIdx he)
  have hs1 : Hid (∀ e ∈ es1, isNode e = true) := by
    intro e he
    rw [HE1.out] at he
    exact z1 e (List.mem_of_mem_eraseIdx he)
  clear hn
  go_enter Tryd.func35, Tryd.ntmps35
  go_wp2_with (first
    | (go_at_call 39; refine (whole_new es F _ _ hlt hd z3 z1 (by omega)).mono ?_; rintro e w1 ⟨u, rfl, hG1, g, cg, cur, hu, hgc, hgm, hgl, hgh, hgs, hD⟩; rw [← HNZ.out] at hu hgc hgs; subst hu)
    | (go_at_call 51; refine (DocR.del HNZ.out hgc hgm hgl hgh hgs hD hnz _ (by omega)).mono ?_; rintro e w2 ⟨rfl, hg2, hsz2, cur2, hh2, hcs2, hD2⟩))
  obtain ⟨nm, HNM⟩ : ∃ nm, Hid (nm = nz - 1) := ⟨_, rfl⟩
  rw [← HNM.out]
  have hnm : nm ≤ 10000 := by rw [HNM.out]; omega
  have hgw2 : g < w1.heap.size := (Array.getElem?_eq_some_iff.1 hgh).1
  have G2 : Ge w w2 := below_of_grown_row hG1 hg2 hgl
  have HD0 : DocC w2 (g + 1) w1.heap.size cur2 (lowTo n 0 es1) nm := by
    rw [lowTo_zero, HE1.out, HNM.out]
    exact hD2
  have hcz : nm * 7 ≤ cur2.size := by rw [HNM.out, hcs2]; omega
  go_loopw [15] (fun v wr => ∃ (j : Nat) (cu : Array Value), v = .int .i64 j ∧ j ≤ nm ∧ Ge w wr ∧ wr.heap.size = w1.heap.size ∧ wr.heap[g]? = some (.cells cu 28 (0, 0)) ∧ nm * 7 ≤ cu.size ∧ DocC wr (g + 1) w1.heap.size cu (lowTo n j es1) nm) (fun v _ => nm - (intOf v).toNat)
  case atStart => exact ⟨0, cur2, rfl, Nat.zero_le _, G2, hsz2, hh2, hcz, HD0⟩
  case round =>
    obtain ⟨j, cu, rfl, hle, hG, hsz, hh, hcs, hD⟩ := hrel
    by_cases hk : j = nm
    · subst hk
      go_wp2_with fail
      go_ret
      have hfin : lowTo n j es1 = withoutF es n := by
        have hj : j = es1.length := by rw [hl1.out, ← HNM.out]
        rw [hj, lowTo_end, HE1.out]
        rfl
      rw [hfin] at hD
      have hlw : (withoutF es n).length = j := by
        rw [← hfin, lowTo_len, hl1.out, ← HNM.out]
      refine ⟨_, rfl, hG, ?_⟩
      refine DocR.den (lo := w.heap.size) (hi := w1.heap.size) ⟨g, cg, cu, by rw [hlw]; rfl, by rw [hlw]; have := HNM.out; omega, hgm, hgl, hh, by rw [hlw]; exact hcs, by rw [hlw]; exact hD⟩ ?_ ?_
      · intro e he
        obtain ⟨x, hx, rfl⟩ := List.mem_map.1 he
        exact isNode_low (hs1.out x (by rw [HE1.out]; exact hx))
      · rintro b o hb (h | ⟨c', h⟩)
        · exact .inr ⟨hb, by rw [hsz]; exact h⟩
        · have h : Value.slice (some ⟨g, 0, none⟩) j cg = .slice (some ⟨b, 0, none⟩) (withoutF es n).length c' := h
          simp only [Value.slice.injEq, Option.some.injEq, Addr.mk.injEq] at h
          exact .inr ⟨hb, by rw [hsz, ← h.1.1]; exact hgw2⟩
    · have hlt2 : j < nm := by omega
      have hjl : j < es1.length := by rw [hl1.out, ← HNM.out]; exact hlt2
      obtain ⟨p, kk, sp, nmm, la, ls, tx, he, c0⟩ := hD.node hlt2 (lowTo_at.trans (List.getElem?_eq_getElem hjl))
      have hej : es1[j]? = some (.agg [.int .i64 p, .int .i64 kk, .str sp, .str nmm, .list la, .list ls, .str tx]) := by rw [List.getElem?_eq_getElem hjl, he]
      have hpp := hp1.out _ (List.mem_of_getElem? hej)
      have hB : Bk wr g 28 cu := hh
      have k0 := (hB.cell (j * 7)).trans c0
      have f0 := hB.free (j * 7)
      simp only [parSm, Bool.and_eq_true, decide_eq_true_eq] at hpp
      obtain ⟨pa, pb⟩ := hpp
      go_wp2_with fail
      · rename_i hgt
        have hgt : (n : Int) < p := by simpa using hgt
        have e1 : lowTo n (j + 1) es1 = (lowTo n j es1).set j (.agg [.int .i64 (p - 1), .int .i64 kk, .str sp, .str nmm, .list la, .list ls, .str tx]) := by
          rw [lowTo_succ hej, lowN_less hgt]
        have GZ := grown_put (grown_refl wr (some g)) (p := ⟨g, j * 7, none⟩) rfl (.int .i64 (p - 1))
        refine ⟨⟨j + 1, cu.setIfInBounds (j * 7) (.int .i64 (p - 1)), by simp, by omega, ge_put hG hgl _, by rw [World.size_setCell]; exact hsz, hB.put _ _, by simpa using hcs, ?_⟩, by simp [intOf]; omega⟩
        rw [e1]
        refine (hD.gb GZ (Nat.lt_succ_self g)).setP (lowTo_at.trans hej) (fun t ht => ?_) ?_
        · rw [Array.getElem?_setIfInBounds, if_neg (by omega)]
        · rw [Array.getElem?_setIfInBounds, if_pos rfl, if_pos (by omega)]
      · rename_i hgt
        have hgt : ¬ (n : Int) < p := by simpa using hgt
        have e1 : lowTo n (j + 1) es1 = (lowTo n j es1).set j (.agg [.int .i64 p, .int .i64 kk, .str sp, .str nmm, .list la, .list ls, .str tx]) := by
          rw [lowTo_succ hej, lowN_same hgt]
        refine ⟨⟨j + 1, cu, by simp, by omega, hG, hsz, hh, hcs, ?_⟩, by simp [intOf]; omega⟩
        rw [e1]
        exact hD.setP (lowTo_at.trans hej) (fun t ht => rfl) c0
end Go.Av
namespace Go.Av
open Go.Proofs Go.RowKit Go.Proofs.YtfhpckkldelkcaaDoor
variable [Ek]
def extW : Call := fun f args pbs => match f, args, pbs with
  | 35, [.list es, .int .i64 n], [] => if docOk es = true ∧ es.all parSm = true ∧ 0 ≤ n ∧ n.toNat < es.length then some (.list (withoutF es n.toNat), [], []) else none
  | _, _, _ => none
theorem extW_ok : CallOK Tryd.prog extW := by
  intro f args pbs d r pbs' h
  unfold extW at h
  split at h
  · rename_i es n
    split at h
    · rename_i hc
      obtain ⟨h1, h2, h3, h4⟩ := hc
      simp only [Option.some.injEq, Prod.mk.injEq] at h
      obtain ⟨rfl, rfl, rfl⟩ := h
      refine ⟨⟨_, Tryd.func35, rfl⟩, fun vals w F μ hv hd hb _ hlt hg => ?_⟩
      match vals, hv with
      | [v, u], _ =>
        have h0 := den_list0 (hd 0 v _ rfl rfl)
        have h5 := (hd 1 u _ rfl rfl).int_
        subst h5
        have e : (n.toNat : Int) = n := Int.toNat_of_nonneg h3
        rw [← e]
        rw [Int.toNat_natCast]
        refine (without_new es F w v n.toNat hlt h0 h1 (List.all_eq_true.1 h2) h4).mono ?_
        rintro e w' ⟨u, rfl, hG, hu⟩
        exact (RetD.of hG hu).ret hlt
    · cases h
  · cases h
def extT (call : Call) : Call := fun f args pbs => match f, args, pbs with
  | 41, [.ptr 1000000 0 0], [⟨_, [.list es, .int .i64 n, t], _⟩] => (match outerT call true es.length 0 ((es, n, t), false) with
    | some ((es', n', t'), dn) => some (.bool dn, [], [⟨0, [.list es', .int .i64 n', t'], []⟩])
    | none => none)
  | 42, [.ptr 1000000 0 0], [⟨_, [.list es, .int .i64 n, t], _⟩] => (match outerT call false es.length 0 ((es, n, t), false) with
    | some ((es', n', t'), dn) => some (.bool dn, [], [⟨0, [.list es', .int .i64 n', t'], []⟩])
    | none => none)
  | _, _, _ => none
theorem ptr_val {μ : Mu} {F : Nat → Nat → Prop} {w : World} {v : Value} (h : Den (fun _ => 1) (argNu μ) F w v (.ptr 1000000 0 0)) : v = .pointer (some ⟨μ.bl 0, 0, none⟩) := by
  cases h with
  | pure _ _ h => cases h
  | ptr k g off hg => rfl
theorem stt_ret {μ : Mu} {F : Nat → Nat → Prop} {w w' : World} {s : TS} {dn : Bool} (h : StT F w (μ.bl 0) w' s) : Ret Tryd.prog 1 μ F w (.bool dn) [] [⟨0, [.list s.1, .int .i64 s.2.1, s.2.2], []⟩] (.returned (.bool dn)) w' := by
  obtain ⟨Fr, hE, hlt, hn, hg, hb⟩ := h
  refine ⟨.bool dn, Fr, fun _ _ => none, rfl, hE.weaken (fun b _ h => .inl ⟨0, Nat.one_pos, h.symm⟩), hlt, fun b o h => (hn b o h).imp id .inl, .inl ⟨rfl, fun c ν => .pure _ _ (.bool _), rooms_nil⟩, fun j i g h => ?_, fun j i j' i' g h => ?_, fun i bx hi hbx => ?_⟩
  · cases h
  · cases h
  · have : i = 0 := by omega
    subst this
    simp only [List.getElem?_cons_zero, Option.some.injEq] at hbx
    subst hbx
    exact ⟨hb, BRooms.nil⟩
theorem stt_start {μ : Mu} {F : Nat → Nat → Prop} {w : World} {es : List D} {n : Int} {t : D} {gn : Nat} {rm : List Room} (hb : ∀ i bx, [(⟨gn, [.list es, .int .i64 n, t], rm⟩ : Bx)][i]? = some bx → BoxAt F w (μ.bl i) bx.cells ∧ bx.gen = 0 ∧ BRooms Tryd.prog F w (μ.bl i) bx.cells bx.rooms (μ.cl i)) (hlt : Lt F w) (hg : GOK F w) : StT F w (μ.bl 0) w (es, n, t) :=
  ⟨F, Ext.refl _ _ _, hlt, fun _ _ h => .inl h, hg, (hb 0 _ rfl).1⟩
theorem extT_ok {call : Call} (hc : CallOK Tryd.prog call) : CallOK Tryd.prog (extT call) := by
  intro f args pbs d r pbs' h
  unfold extT at h
  split at h
  · rename_i gn es n t rm
    split at h
    · rename_i es' n' t' dn hO
      simp only [Option.some.injEq, Prod.mk.injEq] at h
      obtain ⟨rfl, rfl, rfl⟩ := h
      refine ⟨⟨_, Tryd.func41, rfl⟩, fun vals w F μ hv hd hb _ hlt hg => ?_⟩
      match vals, hv with
      | [v], _ =>
        have hv := ptr_val (hd 0 v _ rfl rfl)
        subst hv
        refine (attrs_walk hc (stt_start hb hlt hg) hO).mono ?_
        rintro e w' ⟨rfl, h⟩
        exact stt_ret h
    · cases h
  · rename_i gn es n t rm
    split at h
    · rename_i es' n' t' dn hO
      simp only [Option.some.injEq, Prod.mk.injEq] at h
      obtain ⟨rfl, rfl, rfl⟩ := h
      refine ⟨⟨_, Tryd.func42, rfl⟩, fun vals w F μ hv hd hb _ hlt hg => ?_⟩
      match vals, hv with
      | [v], _ =>
        have hv := ptr_val (hd 0 v _ rfl rfl)
        subst hv
        refine (states_walk hc (stt_start hb hlt hg) hO).mono ?_
        rintro e w' ⟨rfl, h⟩
        exact stt_ret h
    · cases h
  · cases h
def ext17a : Call := orExt extCl extW
theorem ext17a_ok : CallOK Tryd.prog ext17a := orExt_ok extCl_ok extW_ok
noncomputable def ext17 : Call := orExt ext17a (extT (aev Tryd.prog ext17a 300))
theorem ext17_ok : CallOK Tryd.prog ext17 := orExt_ok ext17a_ok (extT_ok (aev_sound fineS ext17a_ok 300))
end Go.Av
namespace Go.Av
variable [Ek]
open Go.Proofs Go.RowKit Go.Proofs.YtfhpckkldelkcaaDoor
def byI : List D → Option (List Int)
  | [] => some []
  | .int .u8 n :: r => if 0 ≤ n ∧ n < 256 then (byI r).map (n :: ·) else none
  | _ => none
theorem byI_eq2 : ∀ {es : List D} {zs : List Int}, byI es = some zs → es = zs.map (D.int .u8) ∧ BytesOK zs
  | [], zs, h => by
    simp [byI] at h; subst h
    exact ⟨rfl, fun i hi => by simp at hi⟩
  | .int .u8 n :: r, zs, h => by
    simp only [byI] at h
    split at h
    · rename_i hn
      obtain ⟨ys, hy, rfl⟩ := Option.map_eq_some_iff.1 h
      obtain ⟨h1, h2⟩ := byI_eq2 hy
      refine ⟨by rw [h1]; rfl, fun i hi => ?_⟩
      cases i with
      | zero => exact hn
      | succ i => exact h2 i (by simpa using hi)
    · cases h
theorem flat_ints (k : IntKind) (zs : List Int) : flat (zs.map (D.int k)) = zs.map (D.int k) := by
  unfold flat
  rw [List.flatMap_map]
  induction zs with
  | nil => rfl
  | cons a r ih => rw [List.flatMap_cons, ih]; rfl
theorem sl_of_den {F : Nat → Nat → Prop} {w : World} {v : Value} {k : IntKind} {zs : List Int} (hd : Den0 F w v (.list (zs.map (D.int k)))) (hlt : Lt F w) : ∃ a c, v = .slice a zs.length c ∧ zs.length ≤ c ∧ Sl w w.heap.size a (zs.map (Value.int k)) := by
  generalize he : zs.map (D.int k) = es at hd
  cases hd with
  | list a n c sz es vs h1 h2 h3 h4 h5 h6 h7 =>
    subst he
    rw [List.length_map] at h1
    subst h1
    refine ⟨a, c, rfl, h2, fun hne => ?_⟩
    have hz : zs ≠ [] := by rintro rfl; exact hne rfl
    have hsz : sz = 1 := by
      obtain ⟨z, r, rfl⟩ := List.exists_cons_of_ne_nil hz
      have := h4 (.int k z) (by simp)
      simpa [dcells] using this.symm
    subst hsz
    rw [flat_ints] at h7
    rw [Nat.mul_one] at h5
    have hvs : vs = zs.map (Value.int k) := by
      apply List.ext_getElem?
      intro i
      by_cases hi : i < zs.length
      · have hv : vs[i]? = some vs[i] := List.getElem?_eq_getElem (by omega)
        have hx : (zs.map (D.int k))[i]? = some (.int k zs[i]) := by simp [hi]
        have := h7 i _ _ hv hx
        rw [hv]
        generalize vs[i] = u at this
        cases this
        simp [hi]
      · rw [List.getElem?_eq_none (by omega), List.getElem?_eq_none (by simp; omega)]
    rcases h6 with h6 | ⟨b, off, ha, hcell⟩
    · rw [h6] at h5
      exact absurd (List.length_eq_zero_iff.1 h5.symm) hz
    · have hpos : 0 < vs.length := by rw [h5]; exact List.length_pos_iff.2 hz
      have h0 := hcell 0 vs[0] (List.getElem?_eq_getElem hpos)
      refine ⟨b, off, ha, hlt _ _ h0.1, fun i hi => ?_⟩
      have := hcell i _ (by rw [hvs]; exact List.getElem?_eq_getElem hi)
      exact this.2.1
theorem good_calls {es : List D} {zs : List Int} (hb : byI es = some zs) (hm : zs.length ≤ 140737488355328) {F : Nat → Nat → Prop} {w : World} {v : Value} (hlt : Lt F w) (hd : Den0 F w v (.list es)) : Calls Tryd.prog 59 #[v] w (RetD F w (.bool (rGood zs))) := by
  obtain ⟨rfl, hz⟩ := byI_eq2 hb
  obtain ⟨a, c, rfl, hc, hs⟩ := sl_of_den hd hlt
  refine (rGood_any w w.heap.size a zs.length c zs (Nat.le_refl _) hz rfl hc (by omega) hs).mono ?_
  rintro e w' ⟨rfl, hb⟩
  exact RetD.of hb (.bool _)
def faultD (k a : Int) : D := .iface 66 (.fix (.agg [.int .i64 k, .int .i64 a, .con .nilIface]) 0)
theorem fault_den {F : Nat → Nat → Prop} {w : World} {b : Nat} {k a : Int} {t : TypeId} {fr : Nat × Nat} (h : w.heap[b]? = some (.cells #[.int .i64 k, .int .i64 a, .nilIface] t fr)) (hF : ∀ o, F b o) : Den0 F w (.iface 66 (.pointer (some ⟨b, 0, none⟩))) (faultD k a) := by
  refine .iface _ _ _ (Den0.fix (.agg [.int .i64 k, .int .i64 a, .con .nilIface]) b 0 0 [.int .i64 k, .int .i64 a, .nilIface] rfl (fun i v hv => ⟨hF _, ?_, ?_⟩) (fun i v x hv hx => ?_))
  · unfold World.cell?
    simp only [h, Nat.zero_add]
    match i with
    | 0 => simp at hv; subst hv; rfl
    | 1 => simp at hv; subst hv; rfl
    | 2 => simp at hv; subst hv; rfl
    | i + 3 => simp at hv
  · match i with
    | 0 => simp at hv; subst hv; rfl
    | 1 => simp at hv; subst hv; rfl
    | 2 => simp at hv; subst hv; rfl
    | i + 3 => simp at hv
  · match i with
    | 0 => simp [dcells] at hv hx; subst hv; subst hx; exact .int _ _
    | 1 => simp [dcells] at hv hx; subst hv; subst hx; exact .int _ _
    | 2 => simp [dcells] at hv hx; subst hv; subst hx; exact .con _ rfl
    | i + 3 => simp at hv
theorem fail_any (k a : Int) (F : Nat → Nat → Prop) (w : World) : Calls Tryd.prog 28 #[.int .i64 k, .int .i64 a] w (RetD F w (faultD k a)) := by
  have key : Calls Tryd.prog 28 #[.int .i64 k, .int .i64 a] w fun e w' => e = .returned (.iface 66 (.pointer (some ⟨w.heap.size, 0, none⟩))) ∧ w' = w.alloc (.cells #[.int .i64 k, .int .i64 a, .nilIface] 70) := by
    go_enter Tryd.func28, Tryd.ntmps28
    go_wp2
    go_ret
    exact ⟨rfl, rfl⟩
  refine key.mono ?_
  rintro e w' ⟨rfl, rfl⟩
  refine RetD.of ((Below.refl _ w).alloc (Nat.le_refl _) _) (fault_den (t := 70) (fr := (0, 0)) (Bk.new w 70 #[.int .i64 k, .int .i64 a, .nilIface]) fun o => .inr ⟨Nat.le_refl _, by simp⟩)
end Go.Av
namespace Go.Proofs.YtfhpckkldelkcaaDoor
open Go.RowKit Go.Extern.Stop Go.Stop Go.Extern
theorem as_nil (t : Value) (w : World) :
    Calls Tryd.prog 37 #[.nilIface, t] w fun e w' => e = .returned (.bool false) ∧ w' = w := by
  go_enter Tryd.func37, Tryd.ntmps37
  go_wp2
  go_ret
  exact ⟨rfl, rfl⟩

/-! ### CLOSED FACTS ON THE MODEL's ENTRIES FOR internal/reflectlite, at this program's types: 75: *p.E · 77: **p.E · 34: error · 106: reflectlite's rtype · 1: how many package-level variables the dump has -/
theorem As.valueOf27 (t : Addr) (w : World) : (ReflectliteValue.unpack (.iface 68 (.pointer (some t)))).run Tryd.prog w
    = .ok (.agg #[.pointer (some ⟨4, 68, none⟩), .pointer (some ⟨w.heap.size, 0, none⟩), .int .u64 150]) (w.alloc (.cells #[.pointer (some t)] 68)) := by kernel_rfl
theorem As.type27 (a : Addr) (w : World) : (ReflectliteValue.methodAny (ReflectliteValue.valueError "reflectlite.Value.Type" 0) (fun t _ _ _ => ReflectliteType.toType t) #[.agg #[.pointer (some ⟨4, 68, none⟩), .pointer (some a), .int .u64 150]]).run Tryd.prog w
    = .ok (.iface 102 (.agg #[.pointer (some ⟨4, 68, none⟩)])) w := by kernel_rfl
theorem As.methodKind (h : Value) (w : World) : (Go.method 261 102 (.agg #[h]) "Kind").run Tryd.prog w = .ok (97, h) w := by kernel_rfl
theorem As.kind27 (w : World) : ((ReflectliteType.abiMethod fun t => Functor.map (fun a : Nat => Value.int IntKind.u8 (a : Int)) (Rtype.kind t)) #[.pointer (some ⟨4, 68, none⟩)]).run Tryd.prog w = .ok (.int .u8 22) w := by kernel_rfl
theorem As.kind25 (w : World) : ((ReflectliteType.abiMethod fun t => Functor.map (fun a : Nat => Value.int IntKind.u8 (a : Int)) (Rtype.kind t)) #[.pointer (some ⟨4, 66, none⟩)]).run Tryd.prog w = .ok (.int .u8 22) w := by kernel_rfl

/-! ### THE ENTRIES THAT READ OR WRITE MEMORY: laws with a premise on the cell (after Derived/Lib/ReflectliteSlice.lean's manner: each unfolding a lemma of its own, by rfl) -/
theorem rlm (z : Sem Value) (f : TypeId → Addr → Nat → Nat → Sem Value) (v : Value) :
    ReflectliteValue.method z f #[v] = (do match ← ReflectliteValue.parts v with | none => z | some (t, a, fl) => f t a fl (fl % 32)) := rfl
theorem As.parts27 (a : Addr) (w : World) : (ReflectliteValue.parts (.agg #[.pointer (some ⟨4, 68, none⟩), .pointer (some a), .int .u64 150])).run Tryd.prog w = .ok (some (68, a, 150)) w := by kernel_rfl
theorem As.isNil27 (a p : Addr) (W : World) (ha : W.cell? a = some (.pointer (some p))) :
    (ReflectliteValue.method (ReflectliteValue.valueError "reflectlite.Value.IsNil" 0) ReflectliteValue.isNil #[.agg #[.pointer (some ⟨4, 68, none⟩), .pointer (some a), .int .u64 150]]).run Tryd.prog W = .ok (.bool false) W := by
  rw [rlm]
  simp only [Sem.run_bind, As.parts27, Result.andThen]
  simp [ReflectliteValue.isNil, loadVar, isAgg, underlying, Tryd.underlying68, ha, Result.andThen]

theorem As.methodElem (h : Value) (w : World) : (Go.method 261 102 (.agg #[h]) "Elem").run Tryd.prog w = .ok (109, .agg #[h]) w := by kernel_rfl
theorem As.methodImplements (h : Value) (w : World) : (Go.method 261 102 (.agg #[h]) "Implements").run Tryd.prog w = .ok (110, .agg #[h]) w := by kernel_rfl
theorem As.methodAssignableTo (h : Value) (w : World) : (Go.method 261 102 (.agg #[h]) "AssignableTo").run Tryd.prog w = .ok (107, .agg #[h]) w := by kernel_rfl
theorem As.elem27 (w : World) : (ReflectliteType.method ReflectliteType.elem #[.agg #[.pointer (some ⟨4, 68, none⟩)]]).run Tryd.prog w = .ok (.iface 102 (.agg #[.pointer (some ⟨4, 66, none⟩)])) w := by kernel_rfl
theorem As.implements25 (w : World) : (ReflectliteType.relation "Implements" ReflectliteType.implements_ #[.agg #[.pointer (some ⟨4, 66, none⟩)], .iface 102 (.agg #[.pointer (some ⟨4, 34, none⟩)])]).run Tryd.prog w = .ok (.bool true) w := by kernel_rfl
theorem As.typeOf25 (v : Value) (w : World) : (ReflectliteType.typeOf #[.iface 66 v]).run Tryd.prog w = .ok (.iface 102 (.agg #[.pointer (some ⟨4, 66, none⟩)])) w := by kernel_rfl
theorem As.assignable25 (w : World) : (ReflectliteType.relation "AssignableTo" ReflectliteType.assignableTo #[.agg #[.pointer (some ⟨4, 66, none⟩)], .iface 102 (.agg #[.pointer (some ⟨4, 66, none⟩)])]).run Tryd.prog w = .ok (.bool true) w := by kernel_rfl
theorem As.valueOf25 (e : Addr) (w : World) : (ReflectliteValue.unpack (.iface 66 (.pointer (some e)))).run Tryd.prog w
    = .ok (.agg #[.pointer (some ⟨4, 66, none⟩), .pointer (some ⟨w.heap.size, 0, none⟩), .int .u64 150]) (w.alloc (.cells #[.pointer (some e)] 66)) := by kernel_rfl

theorem As.elemOf27 (w : World) : (Rtype.elem? 68).run Tryd.prog w = .ok (some 66) w := by kernel_rfl
theorem As.mk25 (p : Addr) (w : World) : (ReflectliteValue.mk 66 p ReflectliteValue.flagAddr).run Tryd.prog w = .ok (.agg #[.pointer (some ⟨4, 66, none⟩), .pointer (some p), .int .u64 406]) w := by kernel_rfl
theorem As.elemV27 (a p : Addr) (W : World) (ha : W.cell? a = some (.pointer (some p))) :
    (ReflectliteValue.method (ReflectliteValue.valueError "reflectlite.Value.Elem" 0) ReflectliteValue.elem #[.agg #[.pointer (some ⟨4, 68, none⟩), .pointer (some a), .int .u64 150]]).run Tryd.prog W
      = .ok (.agg #[.pointer (some ⟨4, 66, none⟩), .pointer (some p), .int .u64 406]) W := by
  rw [rlm]
  simp only [Sem.run_bind, As.parts27, Result.andThen]
  simp [ReflectliteValue.elem, loadVar, isAgg, underlying, Tryd.underlying68, ha, Result.andThen, As.elemOf27, As.mk25]
theorem rls (v x : Value) : ∃ s1 s2 s3 s4 s5 : String, ReflectliteValue.set #[v, x] = (do
    let (some (dst, a, fl), some (src, b, _)) := (← ReflectliteValue.parts v, ← ReflectliteValue.parts x)
      | unsupported (.noEntry s1)
    if fl / ReflectliteValue.flagAddr % 2 == 0 then unsupported (.noEntry s2)
    let val ← loadVar src b
    if ← Rtype.directlyAssignable dst src then storeVar dst a val
    else if ← Rtype.implements dst src then
      if (← Rtype.kind src) == 20 then
        match val with
        | .nilIface => unsupported (.noEntry s3)
        | _ => storeVar dst a val
      else storeVar dst a (.iface src val)
    else panicString (s4 ++ (← Rtype.spelt src) ++ s5 ++ (← Rtype.spelt dst))
    pure (.tuple #[])) := ⟨_, _, _, _, _, rfl⟩
theorem As.parts25a (a : Addr) (w : World) : (ReflectliteValue.parts (.agg #[.pointer (some ⟨4, 66, none⟩), .pointer (some a), .int .u64 406])).run Tryd.prog w = .ok (some (66, a, 406)) w := by kernel_rfl
theorem As.parts25 (a : Addr) (w : World) : (ReflectliteValue.parts (.agg #[.pointer (some ⟨4, 66, none⟩), .pointer (some a), .int .u64 150])).run Tryd.prog w = .ok (some (66, a, 150)) w := by kernel_rfl
theorem As.direct25 (w : World) : (Rtype.directlyAssignable 66 66).run Tryd.prog w = .ok true w := by kernel_rfl
theorem As.size25 (w : World) : (sizeOf 66).run Tryd.prog w = .ok 1 w := by kernel_rfl
theorem As.set25 (ta b e : Addr) (old : Value) (W : World) (hb : W.cell? b = some (.pointer (some e))) (ht : W.cell? ta = some old) (hf : W.frozen? ta = false) :
    (ReflectliteValue.set #[.agg #[.pointer (some ⟨4, 66, none⟩), .pointer (some ta), .int .u64 406], .agg #[.pointer (some ⟨4, 66, none⟩), .pointer (some b), .int .u64 150]]).run Tryd.prog W
      = .ok (.tuple #[]) (W.setCell ta (.pointer (some e))) := by
  obtain ⟨s1, s2, s3, s4, s5, hs⟩ := rls (.agg #[.pointer (some ⟨4, 66, none⟩), .pointer (some ta), .int .u64 406]) (.agg #[.pointer (some ⟨4, 66, none⟩), .pointer (some b), .int .u64 150])
  rw [hs]
  simp only [Sem.run_bind, As.parts25a, As.parts25, Result.andThen]
  simp [ReflectliteValue.flagAddr, loadVar, isAgg, underlying, Tryd.underlying66, hb, Result.andThen, As.direct25, storeVar, Value.cells, storeCells, Addr.add]
  rw [run_store Tryd.prog W ta _ _ (by rfl)]
  simp [ht, hf]

set_option maxHeartbeats 4000000 in
theorem as_hit (e t : Addr) (old : Value) (w : World) (hg : w.cell? ⟨0, 0, none⟩ = some (.iface 102 (.agg #[.pointer (some ⟨4, 34, none⟩)]))) (ht0 : w.cell? t = some old) (hf0 : w.frozen? t = false) :
    Calls Tryd.prog 37 #[.iface 66 (.pointer (some e)), .iface 68 (.pointer (some t))] w fun ev w' => ev = .returned (.bool true) ∧ w' = ((((w.alloc (.cells #[.pointer (some t)] 68)).alloc (.cells #[.pointer (some ⟨4, 68, none⟩), .pointer (some ⟨w.heap.size, 0, none⟩), .int .u64 150] 85)).alloc (.cells #[.pointer (some ⟨4, 68, none⟩), .pointer (some ⟨w.heap.size, 0, none⟩), .int .u64 150] 85)).alloc (.cells #[.pointer (some e)] 66)).setCell t (.pointer (some e)) := by
  have h6 := @run_callFunc_extern Tryd.prog 52 _ (fun args => ReflectliteValue.unpack (args.getD 0 (.tuple #[]))) Tryd.func52 (by kernel_rfl) (by kernel_rfl) (by kernel_rfl) (by kernel_rfl)
  have h7 := @run_callFunc_extern Tryd.prog 53 _ (ReflectliteValue.methodAny (ReflectliteValue.valueError "reflectlite.Value.Type" 0) (fun t _ _ _ => ReflectliteType.toType t)) Tryd.func53 (by kernel_rfl) (by kernel_rfl) (by kernel_rfl) (by kernel_rfl)
  have h8 := @run_callFunc_extern Tryd.prog 54 _ (ReflectliteValue.method (ReflectliteValue.valueError "reflectlite.Value.IsNil" 0) ReflectliteValue.isNil) Tryd.func54 (by kernel_rfl) (by kernel_rfl) (by kernel_rfl) (by kernel_rfl)
  have h27 := @run_callFunc_extern Tryd.prog 97 _ (ReflectliteType.abiMethod fun t => do pure (.int .u8 (← Rtype.kind t))) Tryd.func97 (by kernel_rfl) (by kernel_rfl) (by kernel_rfl) (by kernel_rfl)
  have h37 := @run_callFunc_extern Tryd.prog 109 _ (ReflectliteType.method ReflectliteType.elem) Tryd.func109 (by kernel_rfl) (by kernel_rfl) (by kernel_rfl) (by kernel_rfl)
  have h38 := @run_callFunc_extern Tryd.prog 110 _ (ReflectliteType.relation "Implements" ReflectliteType.implements_) Tryd.func110 (by kernel_rfl) (by kernel_rfl) (by kernel_rfl) (by kernel_rfl)
  have h10 := @run_callFunc_extern Tryd.prog 64 _ ReflectliteType.typeOf Tryd.func64 (by kernel_rfl) (by kernel_rfl) (by kernel_rfl) (by kernel_rfl)
  have h35 := @run_callFunc_extern Tryd.prog 107 _ (ReflectliteType.relation "AssignableTo" ReflectliteType.assignableTo) Tryd.func107 (by kernel_rfl) (by kernel_rfl) (by kernel_rfl) (by kernel_rfl)
  have h11 := @run_callFunc_extern Tryd.prog 65 _ (ReflectliteValue.method (ReflectliteValue.valueError "reflectlite.Value.Elem" 0) ReflectliteValue.elem) Tryd.func65 (by kernel_rfl) (by kernel_rfl) (by kernel_rfl) (by kernel_rfl)
  have h12 := @run_callFunc_extern Tryd.prog 66 _ ReflectliteValue.set Tryd.func66 (by kernel_rfl) (by kernel_rfl) (by kernel_rfl) (by kernel_rfl)
  have tO := As.typeOf25
  have mA := As.methodAssignableTo
  have a25 := As.assignable25
  have v25 := As.valueOf25
  have f6 := As.valueOf27
  have f7 := As.type27
  have mK := As.methodKind
  have mE := As.methodElem
  have mI := As.methodImplements
  have k27 := As.kind27
  have k25 := As.kind25
  have e27 := As.elem27
  have i25 := As.implements25
  have n8 := As.isNil27 ⟨w.heap.size, 0, none⟩ t ((w.alloc (.cells #[.pointer (some t)] 68)).alloc (.cells #[.pointer (some ⟨4, 68, none⟩), .pointer (some ⟨w.heap.size, 0, none⟩), .int .u64 150] 85)) (by simp)
  have hlt : 0 < w.heap.size := by
    rcases Nat.eq_zero_or_pos w.heap.size with h0 | h
    · simp [World.cell?, h0] at hg
    · exact h
  have hg2 : ((w.alloc (.cells #[.pointer (some t)] 68)).alloc (.cells #[.pointer (some ⟨4, 68, none⟩), .pointer (some ⟨w.heap.size, 0, none⟩), .int .u64 150] 85)).cell? ⟨0, 0, none⟩ = some (.iface 102 (.agg #[.pointer (some ⟨4, 34, none⟩)])) := by
    rw [World.cell?_alloc_lt _ _ ⟨0, 0, none⟩ (by simp), World.cell?_alloc_lt _ _ ⟨0, 0, none⟩ hlt]; exact hg
  have htl : t.block < w.heap.size := by
    rcases Nat.lt_or_ge t.block w.heap.size with h | h
    · exact h
    · simp [World.cell?, Array.getElem?_eq_none h] at ht0
  have el := As.elemV27 ⟨w.heap.size, 0, none⟩ t (((w.alloc (.cells #[.pointer (some t)] 68)).alloc (.cells #[.pointer (some ⟨4, 68, none⟩), .pointer (some ⟨w.heap.size, 0, none⟩), .int .u64 150] 85)).alloc (.cells #[.pointer (some ⟨4, 68, none⟩), .pointer (some ⟨w.heap.size, 0, none⟩), .int .u64 150] 85)) (by rw [World.cell?_alloc_lt _ _ ⟨w.heap.size, 0, none⟩ (by simp; omega)]; simp)
  have st := As.set25 t ⟨w.heap.size + 1 + 1 + 1, 0, none⟩ e old ((((w.alloc (.cells #[.pointer (some t)] 68)).alloc (.cells #[.pointer (some ⟨4, 68, none⟩), .pointer (some ⟨w.heap.size, 0, none⟩), .int .u64 150] 85)).alloc (.cells #[.pointer (some ⟨4, 68, none⟩), .pointer (some ⟨w.heap.size, 0, none⟩), .int .u64 150] 85)).alloc (.cells #[.pointer (some e)] 66))
    (by rw [World.cell?_alloc_at _ _ _ _ (by simp)]; rfl)
    (by rw [World.cell?_alloc_lt _ _ t (by simp; omega), World.cell?_alloc_lt _ _ t (by simp; omega), World.cell?_alloc_lt _ _ t (by simp; omega), World.cell?_alloc_lt _ _ t htl]; exact ht0)
    (by rw [World.frozen?_alloc_old _ _ t (by simp; omega), World.frozen?_alloc_old _ _ t (by simp; omega), World.frozen?_alloc_old _ _ t (by simp; omega), World.frozen?_alloc_old _ _ t (Nat.ne_of_lt htl)]; exact hf0)
  go_enter Tryd.func37, Tryd.ntmps37
  go_wp2
  refine wp_loop_rounds 1 ?_
  rw [rounds_succ]
  go_wp2
  go_ret
  exact ⟨rfl, rfl⟩
def ErrT (w : World) : Prop := w.cell? ⟨0, 0, none⟩ = some (.iface 102 (.agg #[.pointer (some ⟨4, 34, none⟩)]))
theorem ErrT.lt {w : World} (h : ErrT w) : 0 < w.heap.size := by
  rcases Nat.eq_zero_or_pos w.heap.size with h0 | h1
  · simp [ErrT, World.cell?, h0] at h
  · exact h1
theorem ErrT.below {w w' : World} (h : ErrT w) (hb : Below w.heap.size w w') : ErrT w' := (hb.cell (p := ⟨0, 0, none⟩) h.lt).trans h
theorem as_box (e : Addr) (B : Nat) (w : World) (hg : ErrT w) (ht : w.cell? ⟨B, 0, none⟩ = some (.pointer none)) (hf : w.frozen? ⟨B, 0, none⟩ = false) :
    Calls Tryd.prog 37 #[.iface 66 (.pointer (some e)), .iface 68 (.pointer (some ⟨B, 0, none⟩))] w fun ev w' => ev = .returned (.bool true) ∧ Below B w w' ∧ w'.cell? ⟨B, 0, none⟩ = some (.pointer (some e)) := by
  have hB : B < w.heap.size := by
    rcases Nat.lt_or_ge B w.heap.size with h | h
    · exact h
    · simp [World.cell?, Array.getElem?_eq_none h] at ht
  refine (as_hit e ⟨B, 0, none⟩ (.pointer none) w hg ht hf).mono ?_
  rintro ev w' ⟨rfl, rfl⟩
  refine ⟨rfl, ?_, ?_⟩
  · refine Below.setCell ?_ (p := ⟨B, 0, none⟩) (Nat.le_refl _) _
    exact ((((Below.refl B w).alloc (Nat.le_of_lt hB) _).alloc (by simp; omega) _).alloc (by simp; omega) _).alloc (by simp; omega) _
  · refine World.cell?_setCell_same' _ _ _ ?_
    rw [World.cell?_alloc_lt _ _ ⟨B, 0, none⟩ (by simp; omega), World.cell?_alloc_lt _ _ ⟨B, 0, none⟩ (by simp; omega), World.cell?_alloc_lt _ _ ⟨B, 0, none⟩ (by simp; omega), World.cell?_alloc_lt _ _ ⟨B, 0, none⟩ hB, ht]
    rfl
theorem kind_any (p o : Nat) (k : Int) (w : World) (hg : ErrT w) (hc : w.cell? ⟨p, o, none⟩ = some (.int .i64 k)) :
    Calls Tryd.prog 17 #[.iface 66 (.pointer (some ⟨p, o, none⟩))] w fun e w' => e = .returned (.int .i64 k) ∧ Below w.heap.size w w' := by
  have hp : p < w.heap.size := by
    rcases Nat.lt_or_ge p w.heap.size with h | h
    · exact h
    · simp [World.cell?, Array.getElem?_eq_none h] at hc
  have hb0 := (Below.refl w.heap.size w).alloc (Nat.le_refl _) (.cells #[.pointer none] 66)
  have hA := as_box ⟨p, o, none⟩ w.heap.size (w.alloc (.cells #[.pointer none] 66)) (hg.below hb0) (by simp) (by simp)
  go_enter Tryd.func17, Tryd.ntmps17
  go_wp2_with (go_at_call 37; refine hA.mono ?_; rintro e w' ⟨rfl, hb, hl⟩; have hc' := ((hb0.trans hb).cell (p := ⟨p, o, none⟩) hp).trans hc)
  go_ret
  exact ⟨rfl, hb0.trans hb⟩
theorem at_any (p o : Nat) (k : Int) (w : World) (hg : ErrT w) (hc : w.cell? ⟨p, o + 1, none⟩ = some (.int .i64 k)) :
    Calls Tryd.prog 18 #[.iface 66 (.pointer (some ⟨p, o, none⟩))] w fun e w' => e = .returned (.int .i64 k) ∧ Below w.heap.size w w' := by
  have hp : p < w.heap.size := by
    rcases Nat.lt_or_ge p w.heap.size with h | h
    · exact h
    · simp [World.cell?, Array.getElem?_eq_none h] at hc
  have hb0 := (Below.refl w.heap.size w).alloc (Nat.le_refl _) (.cells #[.pointer none] 66)
  have hA := as_box ⟨p, o, none⟩ w.heap.size (w.alloc (.cells #[.pointer none] 66)) (hg.below hb0) (by simp) (by simp)
  go_enter Tryd.func18, Tryd.ntmps18
  go_wp2_with (go_at_call 37; refine hA.mono ?_; rintro e w' ⟨rfl, hb, hl⟩; have hc' := ((hb0.trans hb).cell (p := ⟨p, o + 1, none⟩) hp).trans hc)
  go_ret
  exact ⟨rfl, hb0.trans hb⟩
theorem kind_nil (w : World) : Calls Tryd.prog 17 #[.nilIface] w fun e w' => e = .returned (.int .i64 0) ∧ w' = w := by
  go_enter Tryd.func17, Tryd.ntmps17
  go_wp2
  go_ret
  exact ⟨rfl, rfl⟩
end Go.Proofs.YtfhpckkldelkcaaDoor
namespace Go.Av
open Go.Proofs Go.RowKit Go.Proofs.YtfhpckkldelkcaaDoor
variable [Ek]
def Flt (w : World) (b o : Nat) (k a : Int) : Prop := w.cell? ⟨b, o, none⟩ = some (.int .i64 k) ∧ w.cell? ⟨b, o + 1, none⟩ = some (.int .i64 a)
theorem flt_of {F : Nat → Nat → Prop} {w : World} {v : Value} {k a : Int} (h : Den0 F w v (.fix (.agg [.int .i64 k, .int .i64 a, .con .nilIface]) 0)) : ∃ b o, v = .pointer (some ⟨b, o, none⟩) ∧ Flt w b o k a := by
  cases h with
  | fix d b o off vs h1 h2 h3 =>
    refine ⟨b, o, rfl, ?_⟩
    have h1' : vs.length = 3 := by rw [h1]; rfl
    match vs, h1' with
    | [u0, u1, u2], _ =>
      have d0 := h3 0 u0 (.int .i64 k) rfl rfl
      have d1 := h3 1 u1 (.int .i64 a) rfl rfl
      cases d0
      cases d1
      exact ⟨(h2 0 _ rfl).2.1, (h2 1 _ rfl).2.1⟩
theorem den_flt {c : Nat → Nat} {ν : Nat → Nat → Nat} {F : Nat → Nat → Prop} {w : World} {v : Value} {k a : Int} (h : Den c ν F w v (faultD k a)) : ∃ b o, v = .iface 66 (.pointer (some ⟨b, o, none⟩)) ∧ Flt w b o k a := by
  unfold faultD at h
  cases h with
  | pure _ _ h =>
    cases h with
    | iface t u d h =>
      obtain ⟨b, o, rfl, hf⟩ := flt_of h
      exact ⟨b, o, rfl, hf⟩
  | iface t u d h =>
    obtain ⟨b, o, rfl, hf⟩ := flt_of h.fix_
    exact ⟨b, o, rfl, hf⟩
theorem errT_of (he : Ek.b = true) {F : Nat → Nat → Prop} {w : World} (hg : GOK F w) : ErrT w := by
  have h : (0, Value.iface 102 (.agg #[.pointer (some ⟨4, 34, none⟩)])) ∈ Gs.gv := by
    show _ ∈ (if Ek.b = true then _ else _)
    rw [if_pos he]
    exact List.mem_singleton.2 rfl
  exact (hg.2.2 _ h).2
def extF : Call := fun f args pbs => match f, args, pbs with
  | 28, [.int .i64 k, .int .i64 a], [] => some (faultD k a, [], [])
  | 59, [.list es], [] => (match byI es with | some zs => if zs.length ≤ 140737488355328 then some (.bool (rGood zs), [], []) else none | none => none)
  | _, _, _ => none
theorem extF_ok : CallOK Tryd.prog extF := by
  intro f args pbs d r pbs' h
  unfold extF at h
  split at h
  · rename_i k a
    simp only [Option.some.injEq, Prod.mk.injEq] at h
    obtain ⟨rfl, rfl, rfl⟩ := h
    refine ⟨⟨_, Tryd.func28, rfl⟩, fun vals w F μ hv hd hb _ hlt hg => ?_⟩
    match vals, hv with
    | [v1, v2], _ =>
      have d1 := (hd 0 v1 _ rfl rfl).int_
      have d2 := (hd 1 v2 _ rfl rfl).int_
      subst d1 d2
      exact (fail_any k a F w).mono fun e w' h => h.ret hlt
  · rename_i es
    split at h
    · rename_i zs hz
      split at h
      · rename_i hc
        simp only [Option.some.injEq, Prod.mk.injEq] at h
        obtain ⟨rfl, rfl, rfl⟩ := h
        refine ⟨⟨_, Tryd.func59, rfl⟩, fun vals w F μ hv hd hb _ hlt hg => ?_⟩
        obtain ⟨v, rfl, h0⟩ := one_den hv hd
        exact (good_calls hz hc hlt (den_list0 h0)).mono fun e w' h => h.ret hlt
      · cases h
    · cases h
  · cases h
def extK : Call := fun f args pbs => match f, args, pbs with
  | 17, [.iface 66 (.fix (.agg [.int .i64 k, .int .i64 a, .con .nilIface]) 0)], [] => some (.int .i64 k, [], [])
  | 18, [.iface 66 (.fix (.agg [.int .i64 k, .int .i64 a, .con .nilIface]) 0)], [] => some (.int .i64 a, [], [])
  | _, _, _ => none
theorem extK_ok (he : Ek.b = true) : CallOK Tryd.prog extK := by
  intro f args pbs d r pbs' h
  unfold extK at h
  split at h
  · rename_i k a
    simp only [Option.some.injEq, Prod.mk.injEq] at h
    obtain ⟨rfl, rfl, rfl⟩ := h
    refine ⟨⟨_, Tryd.func17, rfl⟩, fun vals w F μ hv hd hb _ hlt hg => ?_⟩
    obtain ⟨v, rfl, h0⟩ := one_den hv hd
    obtain ⟨b, o, rfl, hf⟩ := den_flt h0
    refine (kind_any b o k w (errT_of he hg) hf.1).mono ?_
    rintro e w' ⟨rfl, hb⟩
    exact (RetD.of hb (.int _ _)).ret hlt
  · rename_i k a
    simp only [Option.some.injEq, Prod.mk.injEq] at h
    obtain ⟨rfl, rfl, rfl⟩ := h
    refine ⟨⟨_, Tryd.func18, rfl⟩, fun vals w F μ hv hd hb _ hlt hg => ?_⟩
    obtain ⟨v, rfl, h0⟩ := one_den hv hd
    obtain ⟨b, o, rfl, hf⟩ := den_flt h0
    refine (at_any b o a w (errT_of he hg) hf.2).mono ?_
    rintro e w' ⟨rfl, hb⟩
    exact (RetD.of hb (.int _ _)).ret hlt
  · cases h
def extKc (chk : List D → Bool) : Call := fun f args pbs => match f, args, pbs with
  | 17, [.iface 66 (.fix (.agg [.int .i64 k, .int .i64 a, .con .nilIface]) 0)], [] => if chk [] = true then some (.int .i64 k, [], []) else none
  | 18, [.iface 66 (.fix (.agg [.int .i64 k, .int .i64 a, .con .nilIface]) 0)], [] => if chk [] = true then some (.int .i64 a, [], []) else none
  | _, _, _ => none
theorem extKc_ok (chk : List D → Bool) (he : chk [] = true → Ek.b = true) : CallOK Tryd.prog (extKc chk) := by
  intro f args pbs d r pbs' h
  unfold extKc at h
  split at h
  · split at h
    · rename_i hc
      exact extK_ok (he hc) _ _ _ _ _ _ (show extK _ _ _ = some (d, r, pbs') from h)
    · cases h
  · split at h
    · rename_i hc
      exact extK_ok (he hc) _ _ _ _ _ _ (show extK _ _ _ = some (d, r, pbs') from h)
    · cases h
  · cases h
noncomputable def ext11b (chk : List D → Bool) : Call := orExt extF (orExt (extKc chk) ext17)
theorem ext_in {chk : List D → Bool} {f : FuncId} {args : List D} {pbs : List Bx} {r : D × List Room × List Bx} (h : extF f args pbs = some r) : ext11b chk f args pbs = some r := by
  unfold ext11b orExt
  rw [h]
theorem ext_ink {chk : List D → Bool} {f : FuncId} {args : List D} {pbs : List Bx} {r : D × List Room × List Bx} (h0 : extF f args pbs = none) (h : extKc chk f args pbs = some r) : ext11b chk f args pbs = some r := by
  unfold ext11b
  unfold orExt
  rw [h0, h]
theorem ext11b_ok (chk : List D → Bool) (he : chk [] = true → Ek.b = true) : CallOK Tryd.prog (ext11b chk) := orExt_ok extF_ok (orExt_ok (extKc_ok chk he) ext17_ok)
theorem speaks11 (chk : List D → Bool) : aev Tryd.prog (ext11b chk) 300 6 [] [] = some (.bool true, [.no], []) := by kernel_rfl
end Go.Av
set_option maxRecDepth 10000
namespace Go.Av
variable [Ek]
open Go.Proofs
theorem frzOps_nil : frzOps [] = [] := rfl
theorem rowS (o : Oper) : Gs.rowAt o = (match o.op with | .makeSlice t (.tmp l) _ => t == 24 && l == 7 && o.dst == some 8 | _ => false) := rfl
theorem frzS (ops : List Oper) : Gs.frzAt ops = (match ops with
    | o :: _ => (match o.op with | .move (.tmp n) => if (n == 3 && o.dst == some 22) = true then [3] else frzOps ops | _ => frzOps ops)
    | [] => []) := rfl
theorem noEatS (t : TypeId) : Gs.noEat t = (t == 3) := rfl
theorem frzOf_def (o : Oper) (l : List Oper) : frzOps (o :: l) = (match o.op with
    | .makeFunc _ _ c => c.toList.filterMap (fun | .tmp t => some t | _ => none)
    | _ => []) ++ frzOps l := rfl
theorem frz_nil (s : St) : s.frz [] = s := rfl
theorem frz_cons (s : St) (t : Tmp) (l : List Tmp) : s.frz (t :: l) = (s.freeze t).frz l := rfl
theorem ptrIn_nil : ptrIn [] = none := rfl
theorem ptrIn_int (k : IntKind) (i : Int) (l : List D) : ptrIn (.int k i :: l) = ptrIn l := rfl
theorem ptrIn_bool (b : Bool) (l : List D) : ptrIn (.bool b :: l) = ptrIn l := rfl
theorem ptrIn_str (s : List UInt8) (l : List D) : ptrIn (.str s :: l) = ptrIn l := rfl
theorem ptrIn_agg (cs l : List D) : ptrIn (.agg cs :: l) = ptrIn l := rfl
theorem ptrIn_list (cs l : List D) : ptrIn (.list cs :: l) = ptrIn l := rfl
theorem ptrIn_fix (d : D) (off : Nat) (l : List D) : ptrIn (.fix d off :: l) = ptrIn l := rfl
theorem ptrIn_con (v : Value) (l : List D) : ptrIn (.con v :: l) = ptrIn l := rfl
theorem ptrIn_ptr (k g off : Nat) (l : List D) : ptrIn (.ptr k g off :: l) = some (k, g) := rfl
theorem gl2 : Gs.gl 2 = .fix (.agg firstD) 0 := rfl
theorem gl3 : Gs.gl 3 = .fix (.agg accD) 0 := rfl
theorem zrm26 : zrooms Tryd.prog 28 = [.no, .no, .no, .no, .full, .full, .no] := by kernel_rfl
theorem zrm54 : zrooms Tryd.prog 54 = [.no, .no, .no] := by kernel_rfl
theorem rep_s (n : Nat) : List.replicate (n + 1) Room.no = .no :: List.replicate n .no := rfl
theorem putR7 (rs : List Room) : putR rs 0 7 [] = [.no, .no, .no, .no, .no, .no, .no] ++ rs.drop 7 := rfl
theorem putR3 (rs : List Room) : putR rs 0 3 [] = [.no, .no, .no] ++ rs.drop 3 := rfl
theorem firstD_at (c : Nat) (h : c < 256) : firstD[c]? = some (.int .u8 (firstN c : Nat)) := by
  unfold firstD
  rw [List.getElem?_map, List.getElem?_range h]
  rfl
theorem firstD_len : firstD.length = 256 := by unfold firstD; simp
theorem ptrIn_fn0 (fn : Fn) (l : List D) : ptrIn (.func fn [] [] :: l) = ptrIn l := rfl
theorem ptrIn_fn1 (fn : Fn) (a : D) (o : Nat) (l : List D) : ptrIn (.func fn [] [.fix a o] :: l) = ptrIn l := rfl
theorem ptrIn_fn2 (fn : Fn) (a b : D) (o p : Nat) (l : List D) : ptrIn (.func fn [] [.fix a o, .fix b p] :: l) = ptrIn l := rfl
theorem ty3 : aggOf Tryd.prog 3 = some false ∧ sizeT Tryd.prog 3 = some 1 ∧ Tryd.prog.underlying 3 = some (.int .i64) := ⟨by kernel_rfl, by kernel_rfl, by kernel_rfl⟩
theorem dp3 (cs : List D) (off : Nat) : dpart Tryd.prog 3 cs off = cs[off]? := by simp only [dpart, ty3.1]
theorem ty4 : aggOf Tryd.prog 4 = some false ∧ sizeT Tryd.prog 4 = some 1 ∧ Tryd.prog.underlying 4 = some (.bool) := ⟨by kernel_rfl, by kernel_rfl, by kernel_rfl⟩
theorem dp4 (cs : List D) (off : Nat) : dpart Tryd.prog 4 cs off = cs[off]? := by simp only [dpart, ty4.1]
theorem ty9 : aggOf Tryd.prog 9 = some false ∧ sizeT Tryd.prog 9 = some 1 ∧ Tryd.prog.underlying 9 = some (.string) := ⟨by kernel_rfl, by kernel_rfl, by kernel_rfl⟩
theorem dp9 (cs : List D) (off : Nat) : dpart Tryd.prog 9 cs off = cs[off]? := by simp only [dpart, ty9.1]
theorem ty5 : aggOf Tryd.prog 5 = some false ∧ sizeT Tryd.prog 5 = some 1 ∧ Tryd.prog.underlying 5 = some (.int .u8) := ⟨by kernel_rfl, by kernel_rfl, by kernel_rfl⟩
theorem dp5 (cs : List D) (off : Nat) : dpart Tryd.prog 5 cs off = cs[off]? := by simp only [dpart, ty5.1]
theorem ty74 : aggOf Tryd.prog 60 = some false ∧ sizeT Tryd.prog 60 = some 1 ∧ Tryd.prog.underlying 60 = some (.int .i64) := ⟨by kernel_rfl, by kernel_rfl, by kernel_rfl⟩
theorem dp74 (cs : List D) (off : Nat) : dpart Tryd.prog 60 cs off = cs[off]? := by simp only [dpart, ty74.1]
theorem ty26 : aggOf Tryd.prog 28 = some true ∧ sizeT Tryd.prog 28 = some 7 := ⟨by kernel_rfl, by kernel_rfl⟩
theorem dp26 (x0 x1 x2 x3 x4 x5 x6 : D) : dpart Tryd.prog 28 [x0, x1, x2, x3, x4, x5, x6] 0 = some (.agg [x0, x1, x2, x3, x4, x5, x6]) := by simp only [dpart, ty26.1, ty26.2]; rfl
theorem fa26_0 (d : D) (off : Nat) : dfieldAddr Tryd.prog 28 (.fix d off) 0 = some (.fix d (off + 0)) := by kernel_rfl
theorem fp26_0 (k g off : Nat) : dfieldAddr Tryd.prog 28 (.ptr k g off) 0 = some (.ptr k g (off + 0)) := by kernel_rfl
theorem fa26_1 (d : D) (off : Nat) : dfieldAddr Tryd.prog 28 (.fix d off) 1 = some (.fix d (off + 1)) := by kernel_rfl
theorem fp26_1 (k g off : Nat) : dfieldAddr Tryd.prog 28 (.ptr k g off) 1 = some (.ptr k g (off + 1)) := by kernel_rfl
theorem fa26_2 (d : D) (off : Nat) : dfieldAddr Tryd.prog 28 (.fix d off) 2 = some (.fix d (off + 2)) := by kernel_rfl
theorem fp26_2 (k g off : Nat) : dfieldAddr Tryd.prog 28 (.ptr k g off) 2 = some (.ptr k g (off + 2)) := by kernel_rfl
theorem fa26_3 (d : D) (off : Nat) : dfieldAddr Tryd.prog 28 (.fix d off) 3 = some (.fix d (off + 3)) := by kernel_rfl
theorem fp26_3 (k g off : Nat) : dfieldAddr Tryd.prog 28 (.ptr k g off) 3 = some (.ptr k g (off + 3)) := by kernel_rfl
theorem fa26_4 (d : D) (off : Nat) : dfieldAddr Tryd.prog 28 (.fix d off) 4 = some (.fix d (off + 4)) := by kernel_rfl
theorem fp26_4 (k g off : Nat) : dfieldAddr Tryd.prog 28 (.ptr k g off) 4 = some (.ptr k g (off + 4)) := by kernel_rfl
theorem fa26_5 (d : D) (off : Nat) : dfieldAddr Tryd.prog 28 (.fix d off) 5 = some (.fix d (off + 5)) := by kernel_rfl
theorem fp26_5 (k g off : Nat) : dfieldAddr Tryd.prog 28 (.ptr k g off) 5 = some (.ptr k g (off + 5)) := by kernel_rfl
theorem fa26_6 (d : D) (off : Nat) : dfieldAddr Tryd.prog 28 (.fix d off) 6 = some (.fix d (off + 6)) := by kernel_rfl
theorem fp26_6 (k g off : Nat) : dfieldAddr Tryd.prog 28 (.ptr k g off) 6 = some (.ptr k g (off + 6)) := by kernel_rfl
theorem ty54 : aggOf Tryd.prog 54 = some true ∧ sizeT Tryd.prog 54 = some 3 := ⟨by kernel_rfl, by kernel_rfl⟩
theorem dp54 (x0 x1 x2 : D) : dpart Tryd.prog 54 [x0, x1, x2] 0 = some (.agg [x0, x1, x2]) := by simp only [dpart, ty54.1, ty54.2]; rfl
theorem fa54_0 (d : D) (off : Nat) : dfieldAddr Tryd.prog 54 (.fix d off) 0 = some (.fix d (off + 0)) := by kernel_rfl
theorem fp54_0 (k g off : Nat) : dfieldAddr Tryd.prog 54 (.ptr k g off) 0 = some (.ptr k g (off + 0)) := by kernel_rfl
theorem fa54_1 (d : D) (off : Nat) : dfieldAddr Tryd.prog 54 (.fix d off) 1 = some (.fix d (off + 1)) := by kernel_rfl
theorem fp54_1 (k g off : Nat) : dfieldAddr Tryd.prog 54 (.ptr k g off) 1 = some (.ptr k g (off + 1)) := by kernel_rfl
theorem fa54_2 (d : D) (off : Nat) : dfieldAddr Tryd.prog 54 (.fix d off) 2 = some (.fix d (off + 2)) := by kernel_rfl
theorem fp54_2 (k g off : Nat) : dfieldAddr Tryd.prog 54 (.ptr k g off) 2 = some (.ptr k g (off + 2)) := by kernel_rfl
theorem zr26 : zeroOf Tryd.prog 28 = some [.int .i64 0, .int .i64 0, .str [], .str [], .list [], .list [], .str []] := by kernel_rfl
theorem zr54 : zeroOf Tryd.prog 54 = some [.str [], .str [], .str []] := by kernel_rfl
theorem ty22 : elemT Tryd.prog 24 = some 28 ∧ Tryd.prog.underlying 24 = some (.slice 28) ∧ aggOf Tryd.prog 24 = some false := ⟨by kernel_rfl, by kernel_rfl, by kernel_rfl⟩
theorem dp22 (cs : List D) (off : Nat) : dpart Tryd.prog 24 cs off = cs[off]? := by simp only [dpart, ty22.2.2]
theorem ia22 (es : List D) (ki : IntKind) (i : Int) : dindexAddr Tryd.prog 24 (.list es) (.int ki i) = if 0 ≤ i ∧ i < es.length then (if (dcells (es.getD i.toNat .bad)).length = 7 then some (.fix (es.getD i.toNat .bad) 0) else none) else none := by
  simp only [dindexAddr, ty22.1, ty26.2]
theorem len22 (l : List D) : dlen Tryd.prog #[24] (.list l) = some (.int .i64 l.length) := by kernel_rfl
theorem sl22 (es : List D) (lo hi : Option D) : dslice Tryd.prog 24 (.list es) lo hi none = if szOk 7 es = true then (dopt hi es.length es.length).bind fun h => (dopt lo h 0).map fun l => .list ((es.take h).drop l) else none := by kernel_rfl
theorem ty23 : elemT Tryd.prog 25 = some 54 ∧ Tryd.prog.underlying 25 = some (.slice 54) ∧ aggOf Tryd.prog 25 = some false := ⟨by kernel_rfl, by kernel_rfl, by kernel_rfl⟩
theorem dp23 (cs : List D) (off : Nat) : dpart Tryd.prog 25 cs off = cs[off]? := by simp only [dpart, ty23.2.2]
theorem ia23 (es : List D) (ki : IntKind) (i : Int) : dindexAddr Tryd.prog 25 (.list es) (.int ki i) = if 0 ≤ i ∧ i < es.length then (if (dcells (es.getD i.toNat .bad)).length = 3 then some (.fix (es.getD i.toNat .bad) 0) else none) else none := by
  simp only [dindexAddr, ty23.1, ty54.2]
theorem len23 (l : List D) : dlen Tryd.prog #[25] (.list l) = some (.int .i64 l.length) := by kernel_rfl
theorem sl23 (es : List D) (lo hi : Option D) : dslice Tryd.prog 25 (.list es) lo hi none = if szOk 3 es = true then (dopt hi es.length es.length).bind fun h => (dopt lo h 0).map fun l => .list ((es.take h).drop l) else none := by kernel_rfl
theorem ty24 : elemT Tryd.prog 26 = some 9 ∧ Tryd.prog.underlying 26 = some (.slice 9) ∧ aggOf Tryd.prog 26 = some false := ⟨by kernel_rfl, by kernel_rfl, by kernel_rfl⟩
theorem dp24 (cs : List D) (off : Nat) : dpart Tryd.prog 26 cs off = cs[off]? := by simp only [dpart, ty24.2.2]
theorem ia24 (es : List D) (ki : IntKind) (i : Int) : dindexAddr Tryd.prog 26 (.list es) (.int ki i) = if 0 ≤ i ∧ i < es.length then (if (dcells (es.getD i.toNat .bad)).length = 1 then some (.fix (es.getD i.toNat .bad) 0) else none) else none := by
  simp only [dindexAddr, ty24.1, ty9.2.1]
theorem len24 (l : List D) : dlen Tryd.prog #[26] (.list l) = some (.int .i64 l.length) := by kernel_rfl
theorem sl24 (es : List D) (lo hi : Option D) : dslice Tryd.prog 26 (.list es) lo hi none = if szOk 1 es = true then (dopt hi es.length es.length).bind fun h => (dopt lo h 0).map fun l => .list ((es.take h).drop l) else none := by kernel_rfl
theorem ty39 : elemT Tryd.prog 37 = some 3 ∧ Tryd.prog.underlying 37 = some (.slice 3) ∧ aggOf Tryd.prog 37 = some false := ⟨by kernel_rfl, by kernel_rfl, by kernel_rfl⟩
theorem dp39 (cs : List D) (off : Nat) : dpart Tryd.prog 37 cs off = cs[off]? := by simp only [dpart, ty39.2.2]
theorem ia39 (es : List D) (ki : IntKind) (i : Int) : dindexAddr Tryd.prog 37 (.list es) (.int ki i) = if 0 ≤ i ∧ i < es.length then (if (dcells (es.getD i.toNat .bad)).length = 1 then some (.fix (es.getD i.toNat .bad) 0) else none) else none := by
  simp only [dindexAddr, ty39.1, ty3.2.1]
theorem len39 (l : List D) : dlen Tryd.prog #[37] (.list l) = some (.int .i64 l.length) := by kernel_rfl
theorem sl39 (es : List D) (lo hi : Option D) : dslice Tryd.prog 37 (.list es) lo hi none = if szOk 1 es = true then (dopt hi es.length es.length).bind fun h => (dopt lo h 0).map fun l => .list ((es.take h).drop l) else none := by kernel_rfl
theorem ty81 : elemT Tryd.prog 97 = some 5 ∧ Tryd.prog.underlying 97 = some (.slice 5) ∧ aggOf Tryd.prog 97 = some false := ⟨by kernel_rfl, by kernel_rfl, by kernel_rfl⟩
theorem dp81 (cs : List D) (off : Nat) : dpart Tryd.prog 97 cs off = cs[off]? := by simp only [dpart, ty81.2.2]
theorem ia81 (es : List D) (ki : IntKind) (i : Int) : dindexAddr Tryd.prog 97 (.list es) (.int ki i) = if 0 ≤ i ∧ i < es.length then (if (dcells (es.getD i.toNat .bad)).length = 1 then some (.fix (es.getD i.toNat .bad) 0) else none) else none := by
  simp only [dindexAddr, ty81.1, ty5.2.1]
theorem len81 (l : List D) : dlen Tryd.prog #[97] (.list l) = some (.int .i64 l.length) := by kernel_rfl
theorem sl81 (es : List D) (lo hi : Option D) : dslice Tryd.prog 97 (.list es) lo hi none = if szOk 1 es = true then (dopt hi es.length es.length).bind fun h => (dopt lo h 0).map fun l => .list ((es.take h).drop l) else none := by kernel_rfl
theorem len9 (s : List UInt8) : dlen Tryd.prog #[9] (.str s) = some (.int .i64 s.length) := by kernel_rfl
theorem eq54 (a1 a2 a3 b1 b2 b3 : List UInt8) : dStructEq Tryd.prog 54 [.str a1, .str a2, .str a3] [.str b1, .str b2, .str b3] = some (a1 == b1 && (a2 == b2 && (a3 == b3))) := by
  have h : dStructEq Tryd.prog 54 [.str a1, .str a2, .str a3] [.str b1, .str b2, .str b3] = (match some (a1 == b1) with | some true => (match some (a2 == b2) with | some true => (match some (a3 == b3) with | some true => some true | r => r) | r => r) | r => r) := by kernel_rfl
  rw [h]
  cases a1 == b1 <;> cases a2 == b2 <;> cases a3 == b3 <;> rfl
theorem sl121 : dslice Tryd.prog 121 (.fix (.agg stD) 0) none none none = some (.list stD) := by kernel_rfl
theorem cv981 (l : List UInt8) : dconv Tryd.prog 9 97 (.str l) = some (.list (l.map fun b => .int .u8 b.toNat)) := by kernel_rfl
theorem gl1 : Gs.gl 1 = .fix (.agg stD) 0 := rfl
theorem szOk_cons (sz : Nat) (e : D) (es : List D) : szOk sz (e :: es) = ((dcells e).length == sz) := rfl
theorem szOk_nil (sz : Nat) : szOk sz [] = true := rfl
theorem plainR_s (d : D) (r : List Room) : plainR (some (d, r, [])) = some (d, r) := rfl
theorem AVB : type_of% (And.intro (And.intro (And.intro (And.intro (And.intro (And.intro (And.intro (@go_nil) (@go_seq)) (And.intro (@go_cond) (And.intro (@go_block) (@go_blk)))) (And.intro (And.intro (@go_skip) (@go_exit)) (And.intro (@go_retc) (And.intro (@go_xcode) (@go_xblk))))) (And.intro (And.intro (And.intro (@go_loop) (@go_region)) (And.intro (@go_draw) (And.intro (@go_ops_nil) (@go_dops_nil)))) (And.intro (And.intro (@go_ops) (And.intro (@go_dops) (@okG_some))) (And.intro (@okB_some) (And.intro (@gwD_bool) (@gwD_undef)))))) (And.intro (And.intro (And.intro (And.intro (@cwD_bool) (@gw_true)) (And.intro (@gw_false) (And.intro (@guardG_none) (@put_slot)))) (And.intro (And.intro (@put_room) (@put_box)) (And.intro (@put_ctr) (And.intro (@put_none) (@dem_none))))) (And.intro (And.intro (And.intro (@dem_slot) (@dem_box)) (And.intro (@dem_ctr) (And.intro (@dem_room) (@dem_room1)))) (And.intro (And.intro (@setBox_slot) (And.intro (@setBox_room) (@setBox_ctr))) (And.intro (@setBox_box) (And.intro (@entry_slot) (@entry_room))))))) (And.intro (And.intro (And.intro (And.intro (And.intro (@entry_box) (@entry_ctr)) (And.intro (@decide_true) (And.intro (@decide_false) (@Bool.or_false)))) (And.intro (And.intro (@Bool.false_or) (@Bool.or_true)) (And.intro (@Bool.true_or) (And.intro (@Bool.and_true) (@Bool.true_and))))) (And.intro (And.intro (And.intro (@Bool.false_eq_true) (@rowS)) (And.intro (@frzS) (And.intro (@frzOf_def) (@frz_nil)))) (And.intro (And.intro (@frz_cons) (And.intro (@beq_true) (@beq_false))) (And.intro (@Bool.not_true) (And.intro (@Bool.not_false) (@List.range_zero)))))) (And.intro (And.intro (And.intro (And.intro (@Bool.true_beq) (@Bool.false_beq)) (And.intro (@Nat.zero_add) (And.intro (@Bool.and_false) (@Bool.false_and)))) (And.intro (And.intro (@and_true) (@true_and)) (And.intro (@Int.natCast_nonneg) (And.intro (@Int.toNat_natCast) (@and_self))))) (And.intro (And.intro (And.intro (@Nat.mul_one) (@Nat.add_zero)) (And.intro (@false_or) (And.intro (@or_true) (@true_or)))) (And.intro (And.intro (@or_false) (And.intro (@szOk_cons) (@szOk_nil))) (And.intro (@false_and) (And.intro (@and_false) (@plainR_s)))))))) (And.intro (And.intro (And.intro (And.intro (And.intro (And.intro (@ptrIn_nil) (@ptrIn_int)) (And.intro (@ptrIn_bool) (And.intro (@ptrIn_str) (@ptrIn_agg)))) (And.intro (And.intro (@ptrIn_list) (@ptrIn_fix)) (And.intro (@ptrIn_con) (And.intro (@ptrIn_ptr) (@ty3))))) (And.intro (And.intro (And.intro (@dp3) (@ty4)) (And.intro (@dp4) (And.intro (@ty9) (@dp9)))) (And.intro (And.intro (@ty5) (And.intro (@dp5) (@ty74))) (And.intro (@dp74) (And.intro (@ty26) (@dp26)))))) (And.intro (And.intro (And.intro (And.intro (@fa26_0) (@fp26_0)) (And.intro (@fa26_1) (And.intro (@fp26_1) (@fa26_2)))) (And.intro (And.intro (@fp26_2) (@fa26_3)) (And.intro (@fp26_3) (And.intro (@fa26_4) (@fp26_4))))) (And.intro (And.intro (And.intro (@fa26_5) (@fp26_5)) (And.intro (@fa26_6) (And.intro (@fp26_6) (@ty54)))) (And.intro (And.intro (@dp54) (And.intro (@fa54_0) (@fp54_0))) (And.intro (@fa54_1) (And.intro (@fp54_1) (@fa54_2))))))) (And.intro (And.intro (And.intro (And.intro (And.intro (@fp54_2) (@zr26)) (And.intro (@zr54) (And.intro (@ty22) (@dp22)))) (And.intro (And.intro (@ia22) (@len22)) (And.intro (@sl22) (And.intro (@ty23) (@dp23))))) (And.intro (And.intro (And.intro (@ia23) (@len23)) (And.intro (@sl23) (And.intro (@ty24) (@dp24)))) (And.intro (And.intro (@ia24) (And.intro (@len24) (@sl24))) (And.intro (@ty39) (And.intro (@dp39) (@ia39)))))) (And.intro (And.intro (And.intro (And.intro (@len39) (@sl39)) (And.intro (@ty81) (And.intro (@dp81) (@ia81)))) (And.intro (And.intro (@len81) (@sl81)) (And.intro (@len9) (And.intro (@eq54) (@sl121))))) (And.intro (And.intro (And.intro (@cv981) (@gl1)) (And.intro (@noEatS) (And.intro (@ptrIn_fn0) (@ptrIn_fn1)))) (And.intro (And.intro (@ptrIn_fn2) (And.intro (@frzOps_nil) (@zrm26))) (And.intro (@zrm54) (And.intro (@putR7) (@putR3))))))))) := And.intro (And.intro (And.intro (And.intro (And.intro (And.intro (And.intro (@go_nil) (@go_seq)) (And.intro (@go_cond) (And.intro (@go_block) (@go_blk)))) (And.intro (And.intro (@go_skip) (@go_exit)) (And.intro (@go_retc) (And.intro (@go_xcode) (@go_xblk))))) (And.intro (And.intro (And.intro (@go_loop) (@go_region)) (And.intro (@go_draw) (And.intro (@go_ops_nil) (@go_dops_nil)))) (And.intro (And.intro (@go_ops) (And.intro (@go_dops) (@okG_some))) (And.intro (@okB_some) (And.intro (@gwD_bool) (@gwD_undef)))))) (And.intro (And.intro (And.intro (And.intro (@cwD_bool) (@gw_true)) (And.intro (@gw_false) (And.intro (@guardG_none) (@put_slot)))) (And.intro (And.intro (@put_room) (@put_box)) (And.intro (@put_ctr) (And.intro (@put_none) (@dem_none))))) (And.intro (And.intro (And.intro (@dem_slot) (@dem_box)) (And.intro (@dem_ctr) (And.intro (@dem_room) (@dem_room1)))) (And.intro (And.intro (@setBox_slot) (And.intro (@setBox_room) (@setBox_ctr))) (And.intro (@setBox_box) (And.intro (@entry_slot) (@entry_room))))))) (And.intro (And.intro (And.intro (And.intro (And.intro (@entry_box) (@entry_ctr)) (And.intro (@decide_true) (And.intro (@decide_false) (@Bool.or_false)))) (And.intro (And.intro (@Bool.false_or) (@Bool.or_true)) (And.intro (@Bool.true_or) (And.intro (@Bool.and_true) (@Bool.true_and))))) (And.intro (And.intro (And.intro (@Bool.false_eq_true) (@rowS)) (And.intro (@frzS) (And.intro (@frzOf_def) (@frz_nil)))) (And.intro (And.intro (@frz_cons) (And.intro (@beq_true) (@beq_false))) (And.intro (@Bool.not_true) (And.intro (@Bool.not_false) (@List.range_zero)))))) (And.intro (And.intro (And.intro (And.intro (@Bool.true_beq) (@Bool.false_beq)) (And.intro (@Nat.zero_add) (And.intro (@Bool.and_false) (@Bool.false_and)))) (And.intro (And.intro (@and_true) (@true_and)) (And.intro (@Int.natCast_nonneg) (And.intro (@Int.toNat_natCast) (@and_self))))) (And.intro (And.intro (And.intro (@Nat.mul_one) (@Nat.add_zero)) (And.intro (@false_or) (And.intro (@or_true) (@true_or)))) (And.intro (And.intro (@or_false) (And.intro (@szOk_cons) (@szOk_nil))) (And.intro (@false_and) (And.intro (@and_false) (@plainR_s)))))))) (And.intro (And.intro (And.intro (And.intro (And.intro (And.intro (@ptrIn_nil) (@ptrIn_int)) (And.intro (@ptrIn_bool) (And.intro (@ptrIn_str) (@ptrIn_agg)))) (And.intro (And.intro (@ptrIn_list) (@ptrIn_fix)) (And.intro (@ptrIn_con) (And.intro (@ptrIn_ptr) (@ty3))))) (And.intro (And.intro (And.intro (@dp3) (@ty4)) (And.intro (@dp4) (And.intro (@ty9) (@dp9)))) (And.intro (And.intro (@ty5) (And.intro (@dp5) (@ty74))) (And.intro (@dp74) (And.intro (@ty26) (@dp26)))))) (And.intro (And.intro (And.intro (And.intro (@fa26_0) (@fp26_0)) (And.intro (@fa26_1) (And.intro (@fp26_1) (@fa26_2)))) (And.intro (And.intro (@fp26_2) (@fa26_3)) (And.intro (@fp26_3) (And.intro (@fa26_4) (@fp26_4))))) (And.intro (And.intro (And.intro (@fa26_5) (@fp26_5)) (And.intro (@fa26_6) (And.intro (@fp26_6) (@ty54)))) (And.intro (And.intro (@dp54) (And.intro (@fa54_0) (@fp54_0))) (And.intro (@fa54_1) (And.intro (@fp54_1) (@fa54_2))))))) (And.intro (And.intro (And.intro (And.intro (And.intro (@fp54_2) (@zr26)) (And.intro (@zr54) (And.intro (@ty22) (@dp22)))) (And.intro (And.intro (@ia22) (@len22)) (And.intro (@sl22) (And.intro (@ty23) (@dp23))))) (And.intro (And.intro (And.intro (@ia23) (@len23)) (And.intro (@sl23) (And.intro (@ty24) (@dp24)))) (And.intro (And.intro (@ia24) (And.intro (@len24) (@sl24))) (And.intro (@ty39) (And.intro (@dp39) (@ia39)))))) (And.intro (And.intro (And.intro (And.intro (@len39) (@sl39)) (And.intro (@ty81) (And.intro (@dp81) (@ia81)))) (And.intro (And.intro (@len81) (@sl81)) (And.intro (@len9) (And.intro (@eq54) (@sl121))))) (And.intro (And.intro (And.intro (@cv981) (@gl1)) (And.intro (@noEatS) (And.intro (@ptrIn_fn0) (@ptrIn_fn1)))) (And.intro (And.intro (@ptrIn_fn2) (And.intro (@frzOps_nil) (@zrm26))) (And.intro (@zrm54) (And.intro (@putR7) (@putR3))))))))
end Go.Av
namespace Go.Av
variable [Ek]
open Go.Proofs
theorem ty124 : elemT Tryd.prog 125 = none ∧ Tryd.prog.underlying 125 = some (.array 256 5) := ⟨by kernel_rfl, by kernel_rfl⟩
theorem ty126 : aggOf Tryd.prog 127 = some true ∧ sizeT Tryd.prog 127 = some 2 := ⟨by kernel_rfl, by kernel_rfl⟩
theorem ty127 : elemT Tryd.prog 128 = none ∧ Tryd.prog.underlying 128 = some (.array 16 127) := ⟨by kernel_rfl, by kernel_rfl⟩
theorem fap0 (k g off : Nat) : dfieldAddr Tryd.prog 127 (.ptr k g off) 0 = some (.ptr k g (off + 0)) := by kernel_rfl
theorem fap1 (k g off : Nat) : dfieldAddr Tryd.prog 127 (.ptr k g off) 1 = some (.ptr k g (off + 1)) := by kernel_rfl
theorem dp126 (cs : List D) (off : Nat) : dpart Tryd.prog 127 cs off = if off + 2 ≤ cs.length then some (.agg ((cs.drop off).take 2)) else none := by simp only [dpart, ty126.1, ty126.2]
theorem ia124 (d : D) (off : Nat) (ki : IntKind) (i : Int) : dindexAddr Tryd.prog 125 (.fix d off) (.int ki i) = if 0 ≤ i ∧ i < 256 then some (.fix d (off + i.toNat * 1)) else none := by
  simp only [dindexAddr, ty124.1, ty124.2, ty5.2.1]
  rfl
theorem ia127 (d : D) (off : Nat) (ki : IntKind) (i : Int) : dindexAddr Tryd.prog 128 (.fix d off) (.int ki i) = if 0 ≤ i ∧ i < 16 then some (.fix d (off + i.toNat * 2)) else none := by
  simp only [dindexAddr, ty127.1, ty127.2, ty126.2]
  rfl
theorem sl81m (es : List D) (lo : Option D) (h m : D) : dslice Tryd.prog 97 (.list es) lo (some h) (some m) = if szOk 1 es = true ∧ dbound m es.length = some es.length then (dopt (some h) es.length es.length).bind fun h => (dopt lo h 0).map fun l => .list ((es.take h).drop l) else none := by
  simp only [dslice, ty81.2.1, ty5.2.1, Option.isSome_some, and_true]
theorem cv53 (k : IntKind) (n : Int) : dconv Tryd.prog 5 3 (.int k n) = some (.int .i64 (IntKind.i64.wrap n)) := by kernel_rfl
theorem cv512 (k : IntKind) (n : Int) : dconv Tryd.prog 5 12 (.int k n) = some (.int .u64 (IntKind.u64.wrap n)) := by kernel_rfl
theorem cv5129 (k : IntKind) (n : Int) : dconv Tryd.prog 5 130 (.int k n) = some (.int .u64 (IntKind.u64.wrap n)) := by kernel_rfl
theorem cv12912 (k : IntKind) (n : Int) : dconv Tryd.prog 130 12 (.int k n) = some (.int .u64 (IntKind.u64.wrap n)) := by kernel_rfl
theorem zr126 : zeroOf Tryd.prog 127 = some [.int .u8 0, .int .u8 0] := by kernel_rfl
theorem szU8 (rs : List Int) : szOk 1 (rs.map (D.int .u8)) = true := by cases rs <;> rfl
theorem ib_add (k : IntKind) (a b : Int) : dIntBin .add k a b = some (.int k (k.wrap (a + b))) := rfl
theorem ib_sub (k : IntKind) (a b : Int) : dIntBin .sub k a b = some (.int k (k.wrap (a - b))) := rfl
theorem ib_eql (k : IntKind) (a b : Int) : dIntBin .eql k a b = some (.bool (a == b)) := rfl
theorem ib_neq (k : IntKind) (a b : Int) : dIntBin .neq k a b = some (.bool (a != b)) := rfl
theorem ib_lss (k : IntKind) (a b : Int) : dIntBin .lss k a b = some (.bool (decide (a < b))) := rfl
theorem ib_leq (k : IntKind) (a b : Int) : dIntBin .leq k a b = some (.bool (decide (a ≤ b))) := rfl
theorem ib_gtr (k : IntKind) (a b : Int) : dIntBin .gtr k a b = some (.bool (decide (a > b))) := rfl
theorem ib_geq (k : IntKind) (a b : Int) : dIntBin .geq k a b = some (.bool (decide (a ≥ b))) := rfl
theorem and_8 (a b : Int) : dIntBin .and .u8 a b = some (.int .u8 (bits .and .u8 a b)) := rfl
theorem shl8 (a : Int) : dShift .shl .u64 a 8 = some (.int .u64 (IntKind.u64.wrap (a * 256))) := rfl
theorem shl16 (a : Int) : dShift .shl .u64 a 16 = some (.int .u64 (IntKind.u64.wrap (a * 65536))) := rfl
theorem shl24 (a : Int) : dShift .shl .u64 a 24 = some (.int .u64 (IntKind.u64.wrap (a * 16777216))) := rfl
theorem shl32 (a : Int) : dShift .shl .u64 a 32 = some (.int .u64 (IntKind.u64.wrap (a * 4294967296))) := rfl
theorem shl40 (a : Int) : dShift .shl .u64 a 40 = some (.int .u64 (IntKind.u64.wrap (a * 1099511627776))) := rfl
theorem shl48 (a : Int) : dShift .shl .u64 a 48 = some (.int .u64 (IntKind.u64.wrap (a * 281474976710656))) := rfl
theorem shl56 (a : Int) : dShift .shl .u64 a 56 = some (.int .u64 (IntKind.u64.wrap (a * 72057594037927936))) := rfl
theorem takeM (rs : List Int) : (rs.map (D.int .u8)).take rs.length = rs.map (D.int .u8) := by rw [← List.length_map (D.int .u8), List.take_length]
theorem and_w (a b : Int) : dIntBin .and .u64 a b = some (.int .u64 (bits .and .u64 a b)) := rfl
theorem or_w (a b : Int) : dIntBin .or .u64 a b = some (.int .u64 (bits .or .u64 a b)) := rfl
end Go.Av
namespace Go.Av
open Go.Proofs Go.Proofs.YtfhpckkldelkcaaDoor
variable [Ek] {chk : List D → Bool}
theorem wrap_u64 (n : Int) (h1 : 0 ≤ n) (h2 : n < 18446744073709551616) : IntKind.u64.wrap n = n := by
  simp [IntKind.wrap, IntKind.signed, IntKind.bits]
  omega
theorem map_getD (rs : List Int) (i : Nat) (h : i < rs.length) : (rs.map (D.int .u8)).getD i .bad = .int .u8 (rs.getD i 0) := by
  simp [List.getD, List.getElem?_eq_getElem h]
theorem byte_nat {rs : List Int} (hz : BytesOK rs) (h : 8 ≤ rs.length) (i : Nat) (hi : i < 8) : ∃ x : Nat, rs.getD i 0 = x ∧ x < 256 ∧ (rs.map (D.int .u8)).getD i .bad = .int .u8 (x : Nat) := by
  have h1 := hz i (by omega)
  refine ⟨(rs.getD i 0).toNat, by omega, by omega, ?_⟩
  rw [map_getD rs i (by omega)]
  congr 1
  omega
set_option maxHeartbeats 2000000 in
theorem word_L (rs : List Int) (hz : BytesOK rs) (h : 8 ≤ rs.length) : callL Tryd.prog (ext11b chk) 82 [.list (rs.map (D.int .u8))] [] = some (.int .u64 (wordL rs : Nat), [.no], []) := by
  obtain ⟨x0, e0, h0, g0⟩ := byte_nat hz h 0 (by omega)
  obtain ⟨x1, e1, h1, g1⟩ := byte_nat hz h 1 (by omega)
  obtain ⟨x2, e2, h2, g2⟩ := byte_nat hz h 2 (by omega)
  obtain ⟨x3, e3, h3, g3⟩ := byte_nat hz h 3 (by omega)
  obtain ⟨x4, e4, h4, g4⟩ := byte_nat hz h 4 (by omega)
  obtain ⟨x5, e5, h5, g5⟩ := byte_nat hz h 5 (by omega)
  obtain ⟨x6, e6, h6, g6⟩ := byte_nat hz h 6 (by omega)
  obtain ⟨x7, e7, h7, g7⟩ := byte_nat hz h 7 (by omega)
  have hW : wordL rs = wordN x0 x1 x2 x3 x4 x5 x6 x7 := by unfold wordL; rw [e0, e1, e2, e3, e4, e5, e6, e7]; rfl
  have HW := word_bits h0 h1 h2 h3 h4 h5 h6 h7
  rw [hW]
  have hl : ((rs.map (D.int .u8)).length : Int) = rs.length := by simp
  have l0 : (0 : Int) < rs.length := by omega
  have l1 : (1 : Int) < rs.length := by omega
  have l2 : (2 : Int) < rs.length := by omega
  have l3 : (3 : Int) < rs.length := by omega
  have l4 : (4 : Int) < rs.length := by omega
  have l5 : (5 : Int) < rs.length := by omega
  have l6 : (6 : Int) < rs.length := by omega
  have l7 : (7 : Int) < rs.length := by omega
  have w0 : IntKind.u64.wrap (x0 : Int) = x0 := wrap_u64 _ (by omega) (by omega)
  have w1 : IntKind.u64.wrap (x1 : Int) = x1 := wrap_u64 _ (by omega) (by omega)
  have w2 : IntKind.u64.wrap (x2 : Int) = x2 := wrap_u64 _ (by omega) (by omega)
  have w3 : IntKind.u64.wrap (x3 : Int) = x3 := wrap_u64 _ (by omega) (by omega)
  have w4 : IntKind.u64.wrap (x4 : Int) = x4 := wrap_u64 _ (by omega) (by omega)
  have w5 : IntKind.u64.wrap (x5 : Int) = x5 := wrap_u64 _ (by omega) (by omega)
  have w6 : IntKind.u64.wrap (x6 : Int) = x6 := wrap_u64 _ (by omega) (by omega)
  have w7 : IntKind.u64.wrap (x7 : Int) = x7 := wrap_u64 _ (by omega) (by omega)
  have v1 : IntKind.u64.wrap ((x1 : Int) * 256) = (x1 : Int) * 256 := wrap_u64 _ (by omega) (by omega)
  have v2 : IntKind.u64.wrap ((x2 : Int) * 65536) = (x2 : Int) * 65536 := wrap_u64 _ (by omega) (by omega)
  have v3 : IntKind.u64.wrap ((x3 : Int) * 16777216) = (x3 : Int) * 16777216 := wrap_u64 _ (by omega) (by omega)
  have v4 : IntKind.u64.wrap ((x4 : Int) * 4294967296) = (x4 : Int) * 4294967296 := wrap_u64 _ (by omega) (by omega)
  have v5 : IntKind.u64.wrap ((x5 : Int) * 1099511627776) = (x5 : Int) * 1099511627776 := wrap_u64 _ (by omega) (by omega)
  have v6 : IntKind.u64.wrap ((x6 : Int) * 281474976710656) = (x6 : Int) * 281474976710656 := wrap_u64 _ (by omega) (by omega)
  have v7 : IntKind.u64.wrap ((x7 : Int) * 72057594037927936) = (x7 : Int) * 72057594037927936 := wrap_u64 _ (by omega) (by omega)
  clear e0 e1 e2 e3 e4 e5 e6 e7 h0 h1 h2 h3 h4 h5 h6 h7 hW h hz
  refine callK (m := 71) (res := [2]) (rs := [.tmp 2]) rfl Tryd.func82 rfl rfl rfl rfl rfl ?_
  repeat' (first
    | simp only [*, guardG, opG, opD, isPtr, inB, sval, stake, eats, eaters, get, cval, cval1, croom, St.taken, endQ, endR, endV, rvars, rvar, room1, ↓reduceIte, Nat.reduceEqDiff, Nat.reduceLT, Nat.reduceLeDiff, reduceCtorEq, List.filterMap_cons, List.filterMap_nil, Option.bind_some, Option.map_some, Option.bind_none, Option.map_none, List.getElem?_cons_zero, List.getElem?_cons_succ, List.getD_cons_zero, List.getD_cons_succ, List.contains_cons, List.contains_nil, List.map_cons, List.map_nil, beq_self_eq_true, beq_iff_eq, Nat.reduceBEq, dbin, okR, callG, endN, newV, frzD, rowList, rowElem, stepRow, madeRow, isLocal, isAlloc, loadsOwn, ptrAt, pureB, leaf, leafN, List.all_cons, List.all_nil, List.nil_append, List.cons_append, List.append_nil, List.take_nil, List.length_nil, List.length_cons, String.reduceBEq, List.find?_cons, List.find?_nil, dun, List.getElem?_nil, List.take_zero, List.drop_zero, List.take_succ_cons, List.drop_succ_cons, dcells, Nat.reduceAdd, Nat.reduceSub, Nat.reduceMul, stepBox, List.zipWith, Option.getD_some, List.singleton_append, List.map_map, if_true, St.freeze, List.cons.injEq, forall_const, List.getElem?_toArray, List.getElem_toArray, dopt, dbound, ge_iff_le, gt_iff_lt, dStrBin, List.take_length, Int.reduceLE, Int.reduceLT, Int.reduceToNat, Int.reduceBEq, Int.reduceBNe, isBar, optIn, allocKeys, takes, ptrArgs, callArgs, ptrIn1, ren, ren1, argOk, argOk1, given, oroom, clearR, vroom, nilR, Option.isSome_none, Option.isSome_some, stepTake, stepPtr, notAgg, ite_self, ty124, ty126, ty127, fap0, fap1, dp126, ia124, ia127, sl81m, cv53, cv512, cv5129, cv12912, zr126, szU8, takeM, and_w, or_w, and_8, ib_add, ib_sub, ib_eql, ib_neq, ib_lss, ib_leq, ib_gtr, ib_geq, shl8, shl16, shl24, shl32, shl40, shl48, shl56, gl2, gl3, Option.some.injEq, List.drop_succ_cons, List.drop_nil, List.drop_zero, AVB]
    | (refine drW_intro (by kernel_rfl) ?_)
    | (refine gw_intro (fun h => ?_) (fun h => ?_) <;> (try simp only [beq_true, beq_false, Bool.not_eq_eq_eq_not, Bool.not_true, Bool.not_false, Bool.not_not, decide_eq_true_eq, decide_eq_false_iff_not, ge_iff_le, gt_iff_lt] at h)))
end Go.Av
set_option maxRecDepth 100000
namespace Go.Av
variable [Ek]
open Go.Proofs Go.Proofs.YtfhpckkldelkcaaDoor
def clsB (n : Nat) : Bool :=
  decide (bits .and .u8 (firstN n : Nat) 7 = (firstN n % 8 : Nat)) && decide ((firstN n : Int).fdiv 16 = (firstN n / 16 : Nat)) && decide (firstN n < 256) && (n < 128 ||
  (if n < 194 ∨ 244 < n then firstN n % 8 == 1 else if n ≤ 223 then firstN n % 8 == 2 && accN.getD (firstN n / 16 * 2) 0 == 128 && accN.getD (firstN n / 16 * 2 + 1) 0 == 191
   else if n ≤ 239 then firstN n % 8 == 3 && decide ((accN.getD (firstN n / 16 * 2) 0 : Int) = L3 n) && decide ((accN.getD (firstN n / 16 * 2 + 1) 0 : Int) = H3 n)
   else firstN n % 8 == 4 && decide ((accN.getD (firstN n / 16 * 2) 0 : Int) = L4 n) && decide ((accN.getD (firstN n / 16 * 2 + 1) 0 : Int) = H4 n)))
theorem cls_all : (List.range 256).all clsB = true := by decide +kernel
theorem acc_at (q : Nat) (h : q < 16) : dpart Tryd.prog 127 accD (q * 2) = some (.agg [.int .u8 (accN.getD (q * 2) 0 : Nat), .int .u8 (accN.getD (q * 2 + 1) 0 : Nat)]) := by
  rw [dp126]
  rcases (by omega : q = 0 ∨ q = 1 ∨ q = 2 ∨ q = 3 ∨ q = 4 ∨ q = 5 ∨ q = 6 ∨ q = 7 ∨ q = 8 ∨ q = 9 ∨ q = 10 ∨ q = 11 ∨ q = 12 ∨ q = 13 ∨ q = 14 ∨ q = 15) with rfl | rfl | rfl | rfl | rfl | rfl | rfl | rfl | rfl | rfl | rfl | rfl | rfl | rfl | rfl | rfl <;> rfl
theorem cls (x : Int) (h1 : 128 ≤ x) (h2 : x < 256) : ∃ (F : Int) (q : Nat) (lo hi s : Int), firstD[x.toNat]? = some (.int .u8 F) ∧ bits .and .u8 F 7 = s ∧ dShift .shr .u8 F 4 = some (.int .u8 (q : Nat)) ∧ q < 16 ∧
    dpart Tryd.prog 127 accD (q * 2) = some (.agg [.int .u8 lo, .int .u8 hi]) ∧
    ((s = 1 ∧ (x < 194 ∨ 244 < x)) ∨ (s = 2 ∧ 194 ≤ x ∧ x ≤ 223 ∧ lo = 128 ∧ hi = 191) ∨ (s = 3 ∧ 224 ≤ x ∧ x ≤ 239 ∧ lo = L3 x ∧ hi = H3 x) ∨ (s = 4 ∧ 240 ≤ x ∧ x ≤ 244 ∧ lo = L4 x ∧ hi = H4 x)) := by
  obtain ⟨n, rfl⟩ : ∃ n : Nat, x = n := ⟨x.toNat, by omega⟩
  have h := List.all_eq_true.1 cls_all n (List.mem_range.2 (by omega))
  unfold clsB at h
  simp only [Bool.and_eq_true, decide_eq_true_eq, Bool.or_eq_true] at h
  obtain ⟨⟨⟨g1, g2⟩, g3⟩, g4⟩ := h
  have hq : firstN n / 16 < 16 := by omega
  refine ⟨(firstN n : Nat), firstN n / 16, _, _, _, firstD_at n (by omega), g1, ?_, hq, acc_at _ hq, ?_⟩
  · show some (D.int .u8 ((firstN n : Int).fdiv 16)) = _
    rw [g2]
  · have g4' := g4.resolve_left (by omega)
    split at g4'
    · rename_i hc
      simp at g4'
      exact .inl ⟨by omega, by omega⟩
    · split at g4'
      · simp only [Bool.and_eq_true, beq_iff_eq] at g4'
        exact .inr (.inl ⟨by omega, by omega, by omega, by rw [g4'.1.2]; rfl, by rw [g4'.2]; rfl⟩)
      · split at g4'
        · simp only [Bool.and_eq_true, beq_iff_eq, decide_eq_true_eq] at g4'
          exact .inr (.inr (.inl ⟨by omega, by omega, by omega, g4'.1.2, g4'.2⟩))
        · simp only [Bool.and_eq_true, beq_iff_eq, decide_eq_true_eq] at g4'
          exact .inr (.inr (.inr ⟨by omega, by omega, by omega, g4'.1.2, g4'.2⟩))
theorem low_test {a : Nat} (ha : a < 18446744073709551616) (h : (bits .and .u64 (a : Int) 9259542123273814144 == 0) = true) : LowN a := by
  rw [and_bits ha, beq_iff_eq] at h
  exact low_of (by omega)
theorem low1 {rs : List Int} (hz : BytesOK rs) (h8 : 8 ≤ rs.length) (h : (bits .and .u64 (wordL rs : Nat) 9259542123273814144 == 0) = true) : ∀ i, i < 8 → rs.getD i 0 < 128 :=
  wordL_low hz h8 (low_test (wordL_lt hz h8) h)
theorem getD_drop (rs : List Int) (k i : Nat) : (rs.drop k).getD i 0 = rs.getD (k + i) 0 := by simp [List.getD]
theorem low2 {rs : List Int} (hz : BytesOK rs) (h8 : 16 ≤ rs.length) (h : (bits .and .u64 (bits .or .u64 (wordL rs : Nat) (wordL (rs.drop 8) : Nat)) 9259542123273814144 == 0) = true) : ∀ i, i < 16 → rs.getD i 0 < 128 := by
  have z1 := wordL_lt hz (by omega : 8 ≤ rs.length)
  have z2 := wordL_lt (hz.drop 8) (by simp; omega : 8 ≤ (rs.drop 8).length)
  rw [or_bits z1 z2] at h
  obtain ⟨l1, l2⟩ := low_or (low_test (or_lt z1 z2) h)
  intro i hi
  by_cases h1 : i < 8
  · exact wordL_low hz (by omega) l1 i h1
  · have := wordL_low (hz.drop 8) (by simp; omega) l2 (i - 8) (by omega)
    rw [getD_drop] at this
    rwa [show 8 + (i - 8) = i by omega] at this
theorem low4 {rs : List Int} (hz : BytesOK rs) (h8 : 32 ≤ rs.length)
    (h : (bits .and .u64 (bits .or .u64 (bits .or .u64 (wordL rs : Nat) (wordL (rs.drop 8) : Nat)) (bits .or .u64 (wordL (rs.drop 16) : Nat) (wordL (rs.drop 24) : Nat))) 9259542123273814144 == 0) = true) : ∀ i, i < 32 → rs.getD i 0 < 128 := by
  have z1 := wordL_lt hz (by omega : 8 ≤ rs.length)
  have z2 := wordL_lt (hz.drop 8) (by simp; omega : 8 ≤ (rs.drop 8).length)
  have z3 := wordL_lt (hz.drop 16) (by simp; omega : 8 ≤ (rs.drop 16).length)
  have z4 := wordL_lt (hz.drop 24) (by simp; omega : 8 ≤ (rs.drop 24).length)
  rw [or_bits z1 z2, or_bits z3 z4, or_bits (or_lt z1 z2) (or_lt z3 z4)] at h
  obtain ⟨l12, l34⟩ := low_or (low_test (or_lt (or_lt z1 z2) (or_lt z3 z4)) h)
  obtain ⟨l1, l2⟩ := low_or l12
  obtain ⟨l3, l4⟩ := low_or l34
  intro i hi
  rcases (by omega : i < 8 ∨ (8 ≤ i ∧ i < 16) ∨ (16 ≤ i ∧ i < 24) ∨ (24 ≤ i ∧ i < 32)) with h1 | h1 | h1 | h1
  · exact wordL_low hz (by omega) l1 i h1
  · have := wordL_low (hz.drop 8) (by simp; omega) l2 (i - 8) (by omega)
    rw [getD_drop] at this
    rwa [show 8 + (i - 8) = i by omega] at this
  · have := wordL_low (hz.drop 16) (by simp; omega) l3 (i - 16) (by omega)
    rw [getD_drop] at this
    rwa [show 16 + (i - 16) = i by omega] at this
  · have := wordL_low (hz.drop 24) (by simp; omega) l4 (i - 24) (by omega)
    rw [getD_drop] at this
    rwa [show 24 + (i - 24) = i by omega] at this
end Go.Av
