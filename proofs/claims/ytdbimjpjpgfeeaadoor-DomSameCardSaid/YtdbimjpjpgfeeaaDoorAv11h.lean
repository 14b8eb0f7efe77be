/- Chapter 11: dom's New: the walk. -/
import Derived.Test.YtdbimjpjpgfeeaaDoorAv11f
set_option linter.unusedVariables false
set_option linter.unusedSimpArgs false
set_option maxRecDepth 100000
namespace Go.Av
open Go.Proofs Go.RowKit Go.Proofs.YtdbimjpjpgfeeaaDoor Go.Maps
def ndP : D → Int | .agg (.int _ p :: _) => p | _ => 0
def ndK : D → Int | .agg (_ :: .int _ k :: _) => k | _ => 0
def rowF (es : List D) (key : Int) : Nat → List Int
  | 0 => []
  | k + 1 => if ndK (es.getD k .bad) = 1 ∧ ndP (es.getD k .bad) = key then rowF es key k ++ [(k : Int)] else rowF es key k
def elF (es : List D) : Nat → List Int
  | 0 => []
  | k + 1 => if ndK (es.getD k .bad) = 1 then elF es k ++ [(k : Int)] else elF es k
def plF (es : List D) : Nat → List Int
  | 0 => []
  | k + 1 => plF es k ++ [((rowF es (ndP (es.getD k .bad)) k).length : Int)]
def i64s (zs : List Int) : D := .list (zs.map (D.int .i64))
def treeD (es : List D) : D := .fix (.agg [.list es, i64s (elF es es.length), .imap (es.map ndP) (es.map fun e => i64s (rowF es (ndP e) es.length)), i64s (plF es es.length)]) 0
section
variable {P : Program} {ops : Array Oper} {o : Oper} {a : Act} {Q : Exit → Act → World → Prop}
theorem own_form {w : World} {base e size n : Nat} {v : Value} {xs : List Value} (h : w.ownsRow base e size v n xs) : ∃ A c, v = .slice A n c ∧ n ≤ c := by
  rcases h.2 with ⟨rfl, rfl⟩ | ⟨g, cap, cur, rfl, _, _, hc, _⟩
  · exact ⟨_, _, rfl, Nat.le_refl _⟩
  · exact ⟨_, _, rfl, hc⟩
theorem step_own {K : Act → World → Prop} {F : Prop} (w0 : World) (hgd : o.guard = none) (s x : Operand) (t : TypeId) (ho : o.op = .call { callee := .builtin .append, args := #[s, x], argTypes := #[t, t] })
    {e : TypeId} {size bytes : Nat} (E : EI P t e size bytes) (base : Nat) (v : Value) (n : Nat) (xs : List Value) (hs : a.eval s = v) (hown : w0.ownsRow base e size v n xs)
    (ad : Addr) (m c : Nat) (news : List Value) (hx : a.eval x = .slice (some ad) m c) (hl : news.length = m * size) (hnews : ∀ j u, news[j]? = some u → w0.cell? (ad.add j) = some u) (h1 : ∀ u ∈ news, u.oneCell' = true)
    (h63 : n + m ≤ maxLen) (hbytes : (n + m) * bytes ≤ 140737488355328) (hbase : base ≤ w0.heap.size)
    (h : ∀ A' c' w', n + m ≤ c' → w'.ownsRow base e size (.slice A' (n + m) c') (n + m) (xs ++ news) → w0.grownBy w' v.ownBlock → ((Value.slice A' (n + m) c').ownBlock = v.ownBlock ∨ (Value.slice A' (n + m) c').ownBlock = some w0.heap.size) → K (a.put o.dst (.slice A' (n + m) c')) w') :
    if Region.wanted o (yielded ops a.tmps) = true then Oper.wp P o a w0 K Q else F := by
  obtain ⟨i, z, ht, hi, hz, hsz, hby, hzs, hpos⟩ := E
  obtain ⟨v', w', hr, h2, h3, h4, h5⟩ := run_append_own_at (P := P) w0 base t o.type e i z size bytes ht hi hz hsz hby hzs hpos v n xs hown ad m c news hl hnews h1 h63 hbytes hbase
  obtain ⟨A', c', rfl, hc⟩ := own_form h2
  have hw : Region.wanted o (yielded ops a.tmps) = true := by
    unfold Region.wanted
    rw [hgd]
  rw [if_pos hw]
  unfold Oper.wp execOp
  simp only [ho, resolve, invoke, builtin, Sem.run_bind, Sem.run_pure, Result.andThen_ok, List.map_toArray, List.map_cons, List.map_nil, hs, hx, hr]
  exact h A' c' w' hc h2 h3 h5
end
theorem kd3 : Keyed Tryd.prog 3 := int_keyed (show Tryd.prog.underlying 3 = some (.int .i64) by kernel_rfl)
/-- All cells of a node of a list in memory. -/
theorem node_all {F : Nat → Nat → Prop} {w : World} {a : Option Addr} {vs : List Value} {es : List D} (hes : ∀ e ∈ es, isNode e = true) (hvl : vs.length = es.length * 7) (hsl : Sl w w.heap.size a vs)
    (hx : ∀ (i : Nat) (v : Value) (x : D), vs[i]? = some v → (flat es)[i]? = some x → Den0 F w v x) {i : Nat} (hi : i < es.length) :
    ∃ b off p k sp nm la ls tx x4 c4 x5 c5, a = some ⟨b, off, none⟩ ∧ b < w.heap.size ∧ es.getD i .bad = .agg [.int .i64 p, .int .i64 k, .str sp, .str nm, .list la, .list ls, .str tx] ∧
      (w.cell? ⟨b, off + i * 7, none⟩ = some (.int .i64 p) ∧ w.cell? ⟨b, off + i * 7 + 1, none⟩ = some (.int .i64 k) ∧ w.cell? ⟨b, off + i * 7 + 2, none⟩ = some (.string ⟨sp.toArray⟩) ∧ w.cell? ⟨b, off + i * 7 + 3, none⟩ = some (.string ⟨nm.toArray⟩) ∧
      w.cell? ⟨b, off + i * 7 + 4, none⟩ = some (.slice x4 la.length c4) ∧ w.cell? ⟨b, off + i * 7 + 5, none⟩ = some (.slice x5 ls.length c5) ∧ w.cell? ⟨b, off + i * 7 + 6, none⟩ = some (.string ⟨tx.toArray⟩)) ∧
      Den0 F w (.slice x4 la.length c4) (.list la) ∧ Den0 F w (.slice x5 ls.length c5) (.list ls) ∧ (∀ e ∈ la, (dcells e).length = 3) ∧ (∀ e ∈ ls, (dcells e).length = 1) ∧ la.length ≤ 1000000 ∧ ls.length ≤ 1000000 := by
  have hei : es[i]? = some es[i] := List.getElem?_eq_getElem hi
  have hgd : es.getD i .bad = es[i] := by simp [List.getD, hei]
  obtain ⟨p, k, sp, nm, la, ls, tx, he, h4, h5, h6, h7⟩ := isNode_inv (hes es[i] (List.getElem_mem hi))
  rw [he] at hei
  obtain ⟨b, off, ha, hb, hc⟩ := hsl (by intro e; rw [e] at hvl; simp at hvl; omega)
  have key : ∀ j (x : D), j < 7 → (dcells (.agg [.int .i64 p, .int .i64 k, .str sp, .str nm, .list la, .list ls, .str tx]))[j]? = some x → ∃ u, w.cell? ⟨b, off + i * 7 + j, none⟩ = some u ∧ Den0 F w u x := by
    intro j x hj hxj
    have f := flat_at (isNode_len hes) hei j hj
    rw [hxj] at f
    have l : i * 7 + j < vs.length := by omega
    refine ⟨vs[i * 7 + j], ?_, hx _ _ _ (List.getElem?_eq_getElem l) f⟩
    rw [Nat.add_assoc]
    exact hc _ l
  obtain ⟨u0, g0, e0⟩ := key 0 _ (by decide) rfl
  obtain ⟨u1, g1, e1⟩ := key 1 _ (by decide) rfl
  obtain ⟨u2, g2, e2⟩ := key 2 _ (by decide) rfl
  obtain ⟨u3, g3, e3⟩ := key 3 _ (by decide) rfl
  obtain ⟨u4, g4, e4⟩ := key 4 _ (by decide) rfl
  obtain ⟨u5, g5, e5⟩ := key 5 _ (by decide) rfl
  obtain ⟨u6, g6, e6⟩ := key 6 _ (by decide) rfl
  have s4 : ∃ x c, u4 = .slice x la.length c := by
    cases e4 with
    | list a n c sz es vs h1 h2 h3 h4 h5 h6 h7 => exact ⟨a, c, by rw [h1]⟩
  have s5 : ∃ x c, u5 = .slice x ls.length c := by
    cases e5 with
    | list a n c sz es vs h1 h2 h3 h4 h5 h6 h7 => exact ⟨a, c, by rw [h1]⟩
  obtain ⟨x4, c4, rfl⟩ := s4
  obtain ⟨x5, c5, rfl⟩ := s5
  cases e0; cases e1; cases e2; cases e3; cases e6
  exact ⟨b, off, p, k, sp, nm, la, ls, tx, x4, c4, x5, c5, ha, hb, hgd.trans he, ⟨g0, g1, g2, g3, g4, g5, g6⟩, e4, e5, h4, h5, h6, h7⟩
def datL (zs : List Int) : DataW Unit := if zs = [] then .nil else .slice (ChangeShapes.lits .i64 zs) []
/-- Behind k nodes. -/
structure NR (F : Nat → Nat → Prop) (es : List D) (w : World) (bm bt k : Nat) (wr : World) : Prop where
  ex : ∃ Z vN vE vP n' D, NS F w bm bt Z vN vE vP (es.take k) (elF es k) (plF es k) wr ∧ NG Z vN vE vP bm bt n' D wr ∧ n' ≤ k ∧ Bk wr bt 59 #[vN, vE, .map (some bm), vP] ∧ IsMap D ∧ ∀ key, D.atKey (.int .i64 key) .nil = datL (rowF es key k)
theorem made_two (w : World) : (w.alloc (.map #[] 0)).ownsGroups (H := Unit) Tryd.prog 3 (w.heap.size + 1 + 1) 3 .i64 w.heap.size 0 (.map []) :=
  ⟨#[], 0, (MapKept.heap_alloc w _).1, ⟨by simp, MapKept.stamped_empty 0, by simp⟩, Nat.le_refl _, rfl, by omega, by simp, by simp⟩
theorem nr_start {F : Nat → Nat → Prop} {es : List D} {w w1 : World} (hb : Ge w w1) : NR F es w w1.heap.size (w1.heap.size + 1) 0 ((w1.alloc (.map #[] 0)).alloc (.cells #[.slice none 0 0, .slice none 0 0, .map (some w1.heap.size), .slice none 0 0] 59)) := by
  have hG : Ge w ((w1.alloc (.map #[] 0)).alloc (.cells #[.slice none 0 0, .slice none 0 0, .map (some w1.heap.size), .slice none 0 0] 59)) := (hb.new _).new _
  refine ⟨fun _ => False, .slice none 0 0, .slice none 0 0, .slice none 0 0, 0, .map [], ⟨hG, hb.size, rfl, by simp, fun b h => h.elim, ⟨[], World.ownsRow_nil _ _ _ _, by simp, by simp⟩, World.ownsInts_nil _ _ _ _, World.ownsInts_nil _ _ _ _, .inl rfl, .inl rfl, .inl rfl⟩, ?_, Nat.le_refl _, ?_, isMap_empty, fun key => rfl⟩
  · have h0 : NG (fun _ => False) (.slice none 0 0) (.slice none 0 0) (.slice none 0 0) w1.heap.size (w1.heap.size + 1) 0 (.map []) (w1.alloc (.map #[] 0)) := ⟨made_two w1, World.Shuns_made _ _⟩
    exact h0.keep rfl (r := none) ⟨rfl, rfl, rfl, by simp, fun k hk _ => (MapKept.heap_alloc _ _).2 k hk⟩ (.inl rfl)
  · have := Bk.new (w1.alloc (.map #[] 0)) 59 #[.slice none 0 0, .slice none 0 0, .map (some w1.heap.size), .slice none 0 0]
    simpa using this
def ZZ (Z : Nat → Prop) (W W' : World) (b : Nat) : Prop := Z b ∨ (W.heap.size ≤ b ∧ b < W'.heap.size)
section
variable {F : Nat → Nat → Prop} {w : World} {bm bt : Nat} {Z : Nat → Prop} {vN vE vP : Value} {ns : List D} {zE zP : List Int} {wr W W' : World} {n : Nat} {DD : DataW Unit}
theorem grown_none (h : Ge W W') : W.grownBy W' none := ⟨h.os, h.tape, h.output, h.size, fun k hk _ => h.block k hk⟩
theorem ns_ge (hlt : Lt F w) (h : NS F w bm bt Z vN vE vP ns zE zP W) (hb : Ge W W') : NS F w bm bt Z vN vE vP ns zE zP W' := h.keep hlt (grown_none hb) (by simp)
theorem ng_ge (h : NG Z vN vE vP bm bt n DD W) (ht : bt = bm + 1) (hb : Ge W W') : NG Z vN vE vP bm bt n DD W' := h.keep ht (grown_none hb) (.inl rfl)
theorem ns_grow (hlt : Lt F w) (h : NS F w bm bt Z vN vE vP ns zE zP W) (hb : Ge W W') : NS F w bm bt (ZZ Z W W') vN vE vP ns zE zP W' := by
  refine (ns_ge hlt h hb).fix (fun b h => .inl h) ?_
  obtain ⟨xs, g1, _⟩ := h.oN
  rintro b (hz | ⟨h1, h2⟩)
  · exact ⟨(h.z b hz).1, Nat.lt_of_lt_of_le (h.z b hz).2.1 hb.size, (h.z b hz).2.2⟩
  · have := h.htw
    refine ⟨by omega, h2, fun e => ?_, fun e => ?_, fun e => ?_⟩
    · have := own_lt g1 b e; omega
    · have := own_lt h.oE.1 b e; omega
    · have := own_lt h.oP.1 b e; omega
theorem ng_grow (h : NG Z vN vE vP bm bt n DD W) (ht : bt = bm + 1) (hb : Ge W W') : NG (ZZ Z W W') vN vE vP bm bt n DD W' := by
  have h1 : NG (ZZ Z W W') vN vE vP bm bt n DD W := h.reno fun g hg => by
    rcases hg with (hz | hz) | hz
    · exact .inl (.inl hz)
    · exact .inr hz.1
    · exact .inl (.inr hz)
  exact ng_ge h1 ht hb
/-- A node's cells, appended. -/
theorem ns_node (hlt : Lt F w) (h : NS F w bm bt Z vN vE vP ns zE zP W) {xs : List Value} {p k : Int} {sp nm tx : List UInt8} {la ls : List D} {u4 u5 : Value} {A : Option Addr} {c : Nat} (h1 : ∀ u ∈ xs, u.oneCell' = true) (hx : ∀ (m : Nat) (v : Value) (x : D), xs[m]? = some v → (flat ns)[m]? = some x → Den0 (zf F Z) W v x)
    (hxl : xs.length = ns.length * 7) (hns : ∀ e ∈ ns, (dcells e).length = 7) (h4 : Den0 (zf F Z) W u4 (.list la)) (h5 : Den0 (zf F Z) W u5 (.list ls)) (o4 : u4.oneCell' = true) (o5 : u5.oneCell' = true)
    (hg : W.grownBy W' vN.ownBlock) (ho : W'.ownsRow (bt + 1) 26 7 (.slice A (ns.length + 1) c) (ns.length + 1) (xs ++ [.int .i64 p, .int .i64 k, .string ⟨sp.toArray⟩, .string ⟨nm.toArray⟩, u4, u5, .string ⟨tx.toArray⟩]))
    (loc : (Value.slice A (ns.length + 1) c).ownBlock = vN.ownBlock ∨ (Value.slice A (ns.length + 1) c).ownBlock = some W.heap.size) :
    NS F w bm bt Z (.slice A (ns.length + 1) c) vE vP (ns ++ [.agg [.int .i64 p, .int .i64 k, .str sp, .str nm, .list la, .list ls, .str tx]]) zE zP W' := by
  obtain ⟨xs0, g1, _, _⟩ := h.oN
  have hb : ∀ b, vN.ownBlock = some b → w.heap.size ≤ b := fun b hb => by have := (g1.lt b hb).1; have := h.hm; have := h.ht; omega
  have kp : ∀ {v x}, Den0 (zf F Z) W v x → Den0 (zf F Z) W' v x := fun hv => zden_keep hlt h.ge (zne h fun b hb => (h.z b hb).2.2.1) hb hg hv
  refine h.appN hlt hg loc (by simpa using ho) (fun u hu => ?_) (fun m v x hv hx' => ?_)
  · rcases List.mem_append.1 hu with hu | hu
    · exact h1 u hu
    · simp only [List.mem_cons, List.not_mem_nil, or_false] at hu
      rcases hu with rfl | rfl | rfl | rfl | rfl | rfl | rfl
      · rfl
      · rfl
      · rfl
      · rfl
      · exact o4
      · exact o5
      · rfl
  · have hfl : flat (ns ++ [D.agg [.int .i64 p, .int .i64 k, .str sp, .str nm, .list la, .list ls, .str tx]]) = flat ns ++ [.int .i64 p, .int .i64 k, .str sp, .str nm, .list la, .list ls, .str tx] := by
      unfold flat
      rw [List.flatMap_append]
      rfl
    rw [hfl] at hx'
    have hfn : (flat ns).length = xs.length := by rw [hxl]; exact flat_len hns
    by_cases hm : m < xs.length
    · rw [List.getElem?_append_left hm] at hv
      rw [List.getElem?_append_left (by omega)] at hx'
      exact kp (hx m v x hv hx')
    · rw [List.getElem?_append_right (by omega)] at hv
      rw [List.getElem?_append_right (by omega), hfn] at hx'
      generalize m - xs.length = j at hv hx'
      match j with
      | 0 => simp at hv hx'; subst hv; subst hx'; exact .int _ _
      | 1 => simp at hv hx'; subst hv; subst hx'; exact .int _ _
      | 2 => simp at hv hx'; subst hv; subst hx'; exact .str _
      | 3 => simp at hv hx'; subst hv; subst hx'; exact .str _
      | 4 => simp at hv hx'; subst hv; subst hx'; exact kp h4
      | 5 => simp at hv hx'; subst hv; subst hx'; exact kp h5
      | 6 => simp at hv hx'; subst hv; subst hx'; exact .str _
      | j + 7 => simp at hv
theorem ng_row (h : NG Z vN vE vP bm bt n DD W) (ht : bt = bm + 1) {v v' : Value} {vN' vE' vP' : Value} {size m : Nat} {e : TypeId} {xs : List Value} (ho : W.ownsRow (bt + 1) e size v m xs) (hg : W.grownBy W' v.ownBlock) (hv : ∀ b, v.ownBlock = some b → NoB Z vN vE vP b)
    (loc : v'.ownBlock = v.ownBlock ∨ v'.ownBlock = some W.heap.size) (hn : ∀ g, NoB Z vN' vE' vP' g → NoB Z vN vE vP g ∨ v'.ownBlock = some g) : NG Z vN' vE' vP' bm bt n DD W' := by
  have h1 : NG Z vN' vE' vP' bm bt n DD W := h.reno fun g hg' => by
    rcases hn g hg' with h | h
    · exact .inl h
    · rcases loc with l | l
      · rw [l] at h; exact .inl (hv g h)
      · rw [l] at h; injection h with h; exact .inr (by omega)
  have h2 : NG Z vN vE vP bm bt n DD W' := by
    refine h.keep ht hg ?_
    cases hb : v.ownBlock with
    | none => exact .inl rfl
    | some b => exact .inr (.inr ⟨b, rfl, by have := (ho.lt b hb).1; omega, hv b hb⟩)
  exact ⟨h2.gr, h1.sh.kept hg h.lt (fun e => by have := (ho.lt bm e.symm).1; omega)⟩
end
/-- Behind the first append. -/
def R8 (F : Nat → Nat → Prop) (es : List D) (w : World) (bm k B : Nat) (cs : Array Value) (m : Nat) (e p : List Int) (wx : World) : Prop :=
  ∃ Z vN vE vP n' D, NS F w bm (bm + 1) Z vN vE vP (es.take m) e p wx ∧ NG Z vN vE vP bm (bm + 1) n' D wx ∧ n' ≤ k ∧ Bk wx (bm + 1) 59 #[vN, vE, .map (some bm), vP] ∧ Bk wx B 26 cs ∧ Z B ∧ IsMap D ∧ ∀ key, D.atKey (.int .i64 key) .nil = datL (rowF es key k)
end Go.Av
