/- The evaluator, in one text: over any program; no conditions but those that each law names. -/
import Derived.Test.YtdbimjpjpgfeeaaDoorAvsa
import Derived.Deep.CutRange
import Derived.Deep.RegionHeldLaw
import Derived.Test.YtdbimjpjpgfeeaaDoorAvb
import Derived.KernelRfl
import Derived.Test.YtdbimjpjpgfeeaaDoorPlX
set_option linter.unusedSimpArgs false
set_option linter.unusedVariables false
set_option linter.unusedSectionVars false
/- Chapter 11: dom's New: the walk. -/
set_option linter.unusedVariables false
set_option linter.unusedSimpArgs false
set_option maxRecDepth 100000
namespace Go.Av
open Go.Proofs Go.RowKit Go.Proofs.YtdbimjpjpgfeeaaDoor Go.Maps
theorem cell_one {w : World} {cs : Array Value} {t : TypeId} : ∀ j u, cs.toList[j]? = some u → (w.alloc (.cells cs t)).cell? ((⟨w.heap.size, 0, none⟩ : Addr).add j) = some u := by
  intro j u hj
  have h := (Bk.new w t cs).cell j
  have e : (⟨w.heap.size, 0, none⟩ : Addr).add j = ⟨w.heap.size, j, none⟩ := by
    simp [Addr.add]
    intro h
    exact h.symm
  rw [e, h]
  simpa using hj
theorem zz_of_nw {F : Nat → Nat → Prop} {Z : Nat → Prop} {W W' : World} {v : Value} {d : D} (h : Den0 (nw F W W') W' v d) : Den0 (zf F (ZZ Z W W')) W' v d := h.grow fun b o h => h.imp id fun h => .inr h
theorem zden_ge {F : Nat → Nat → Prop} {Z : Nat → Prop} {w W W' : World} {v : Value} {d : D} (hlt : Lt F w) (hw : Ge w W) (hz : ∀ b, Z b → b < W.heap.size) (hb : Ge W W') (h : Den0 (zf F Z) W v d) : Den0 (zf F Z) W' v d := zden_keep hlt hw (fun b hb => ⟨hz b hb, by simp⟩) (by simp) (grown_none hb) h
section
variable {Z : Nat → Prop} {vN vE vP v : Value} {g : Nat}
theorem nob_N (h : NoB Z v vE vP g) : NoB Z vN vE vP g ∨ v.ownBlock = some g := by
  rcases h with h | h | h
  · exact .inl (.inl h)
  · exact .inr h
  · exact .inl (.inr (.inr h))
theorem nob_E (h : NoB Z vN v vP g) : NoB Z vN vE vP g ∨ v.ownBlock = some g := by
  rcases h with h | h | h | h
  · exact .inl (.inl h)
  · exact .inl (.inr (.inl h))
  · exact .inr h
  · exact .inl (.inr (.inr (.inr h)))
theorem nob_P (h : NoB Z vN vE v g) : NoB Z vN vE vP g ∨ v.ownBlock = some g := by
  rcases h with h | h | h | h
  · exact .inl (.inl h)
  · exact .inl (.inr (.inl h))
  · exact .inl (.inr (.inr (.inl h)))
  · exact .inr h
end
section
variable {Z : Nat → Prop} {vN vE vP v' : Value} {bm bt n size m : Nat} {DD : DataW Unit} {W W' : World} {e : TypeId} {xs : List Value}
theorem ng_N (h : NG Z vN vE vP bm bt n DD W) (ht : bt = bm + 1) (ho : W.ownsRow (bt + 1) e size vN m xs) (hg : W.grownBy W' vN.ownBlock) (loc : v'.ownBlock = vN.ownBlock ∨ v'.ownBlock = some W.heap.size) : NG Z v' vE vP bm bt n DD W' :=
  ng_row h ht ho hg (fun b h => .inr (.inl h)) loc fun g h => nob_N h
theorem ng_E (h : NG Z vN vE vP bm bt n DD W) (ht : bt = bm + 1) (ho : W.ownsRow (bt + 1) e size vE m xs) (hg : W.grownBy W' vE.ownBlock) (loc : v'.ownBlock = vE.ownBlock ∨ v'.ownBlock = some W.heap.size) : NG Z vN v' vP bm bt n DD W' :=
  ng_row h ht ho hg (fun b h => .inr (.inr (.inl h))) loc fun g h => nob_E h
theorem ng_P (h : NG Z vN vE vP bm bt n DD W) (ht : bt = bm + 1) (ho : W.ownsRow (bt + 1) e size vP m xs) (hg : W.grownBy W' vP.ownBlock) (loc : v'.ownBlock = vP.ownBlock ∨ v'.ownBlock = some W.heap.size) : NG Z vN vE v' bm bt n DD W' :=
  ng_row h ht ho hg (fun b h => .inr (.inr (.inr h))) loc fun g h => nob_P h
end
section
variable {P : Program} {ops : Array Oper} {rest : List Oper} {o : Oper} {a : Act} {Q : Exit → Act → World → Prop}
theorem app_own (w0 : World) (hgd : o.guard = none) (s x : Operand) (t : TypeId) (ho : o.op = .call { callee := .builtin .append, args := #[s, x], argTypes := #[t, t] })
    {e : TypeId} {size bytes : Nat} (E : EI P t e size bytes) (base : Nat) (v : Value) (n : Nat) (xs : List Value) (hs : a.eval s = v) (hown : w0.ownsRow base e size v n xs)
    (ad : Addr) (m c : Nat) (news : List Value) (hx : a.eval x = .slice (some ad) m c) (hl : news.length = m * size) (hnews : ∀ (j : Nat) (u : Value), news[j]? = some u → w0.cell? (ad.add j) = some u) (h1 : ∀ u ∈ news, u.oneCell' = true)
    (h63 : n + m ≤ maxLen) (hbytes : (n + m) * bytes ≤ 140737488355328) (hbase : base ≤ w0.heap.size)
    (h : ∀ A' c' w', n + m ≤ c' → w'.ownsRow base e size (.slice A' (n + m) c') (n + m) (xs ++ news) → w0.grownBy w' v.ownBlock → ((Value.slice A' (n + m) c').ownBlock = v.ownBlock ∨ (Value.slice A' (n + m) c').ownBlock = some w0.heap.size) → wpList P ops Q rest (a.put o.dst (.slice A' (n + m) c')) w') :
    wpList P ops Q (o :: rest) a w0 := by
  refine wpList_plain hgd fun K hK => ?_
  obtain ⟨i, z, ht, hi, hz, hsz, hby, hzs, hpos⟩ := E
  obtain ⟨v', w', hr, h2, h3, h4, h5⟩ := run_append_own_at (P := P) w0 base t o.type e i z size bytes ht hi hz hsz hby hzs hpos v n xs hown ad m c news hl hnews h1 h63 hbytes hbase
  obtain ⟨A', c', rfl, hc⟩ := own_form h2
  unfold Oper.wp execOp
  simp only [ho, resolve, invoke, builtin, Sem.run_bind, Sem.run_pure, Result.andThen_ok, List.map_toArray, List.map_cons, List.map_nil, hs, hx, hr]
  exact hK _ _ (h A' c' w' hc h2 h3 h5)
end
theorem elF_len (es : List D) : ∀ k, (elF es k).length ≤ k
  | 0 => Nat.le_refl _
  | k + 1 => by
    have := elF_len es k
    unfold elF
    split
    · simp; omega
    · omega
theorem plF_len (es : List D) : ∀ k, (plF es k).length = k
  | 0 => rfl
  | k + 1 => by simp [plF, plF_len es k]
theorem take_one {es : List D} {k : Nat} (h : k < es.length) : es.take (k + 1) = es.take k ++ [es.getD k .bad] := by
  rw [List.take_add_one, List.getElem?_eq_getElem h]
  simp [List.getD, h]
theorem ge_alloc (w : World) (o : Obj) : Ge w (w.alloc o) := (Below.refl _ w).alloc (Nat.le_refl _) o
theorem ge_drew (w : World) : Ge w w.drew := Ge.drew (Below.refl _ w)
/-- Keep, of each node's lists. -/
def KeepN (F G : Nat → Nat → Prop) (w : World) (es : List D) : Prop := ∀ W, Ge w W → ∀ p k sp nm la ls tx, D.agg [.int .i64 p, .int .i64 k, .str sp, .str nm, .list la, .list ls, .str tx] ∈ es → Keep F G W la ∧ Keep F G W ls
set_option maxHeartbeats 8000000 in
theorem new_gen (es : List D) (F G : Nat → Nat → Prop) (w : World) (v : Value) (hlt : Lt F w) (hltG : Lt G w) (hkn : KeepN F G w es) (hd : Den0 F w v (.list es)) (hs : ∀ e ∈ es, isNode e = true) (hL : es.length ≤ 10000) (hpr : ∀ e ∈ es, -1 ≤ ndP e ∧ ndP e < 10000)
    (hchk : Calls Tryd.prog 24 #[v] w fun e W' => e = .returned .nilIface ∧ Ge w W') : Calls Tryd.prog 12 #[v] w (RetD G w (.tuple [treeD es, .con .nilIface])) := by
  obtain ⟨a, c, vs, rfl, hc, hvl, hsl, h1, hx⟩ := list_sl hlt hd (isNode_len hs)
  obtain ⟨n, HN⟩ : ∃ n, Hid (n = es.length) := ⟨_, rfl⟩
  rw [← HN.out] at hvl hc hchk ⊢
  have hnL : n ≤ 10000 := by rw [HN.out]; exact hL
  have hmm := @run_makeMap Tryd.prog
  go_enter Tryd.func12, Tryd.ntmps12
  go_wp2_with (go_at_call 24; refine hchk.mono ?_; rintro e w1 ⟨rfl, hb1⟩)
  have HR := nr_start (F := G) (es := es) hb1
  obtain ⟨bm, Hbm⟩ : ∃ z, z = w1.heap.size := ⟨_, rfl⟩
  rw [← Hbm] at HR ⊢
  clear Hbm
  go_loopw [18] (fun v wr => ∃ k : Nat, v = .int .i64 k ∧ k ≤ n ∧ NR G es w bm (bm + 1) k wr) (fun v _ => n - (intOf v).toNat)
  case atStart => exact ⟨0, rfl, Nat.zero_le _, HR⟩
  case round =>
    obtain ⟨k, rfl, hle, hR⟩ := hrel
    obtain ⟨Z, vN, vE, vP, n', DD, hS, hNG, hn', hB, hDm, hat⟩ := hR.ex
    by_cases hk : k = n
    · subst hk
      have HR := Lib.hid hR
      clear hS hNG hB hat hDm hR
      go_wp2_with fail
      go_ret2
      have hR := HR.out
      rw [HN.out] at hR
      obtain ⟨q1, q2⟩ := nr_den hltG hs (by rw [← HN.out]; exact hnL) hpr hR
      refine ⟨_, rfl, q1, fun c ν => .tuple [.pointer (some ⟨bm + 1, 0, none⟩), .nilIface] _ rfl fun i v x hv hx => ?_⟩
      match i with
      | 0 => simp at hv hx; subst hv; subst hx; exact .pure _ _ q2
      | 1 => simp at hv hx; subst hv; subst hx; exact .pure _ _ (.con _ rfl)
      | i + 2 => simp at hv
    · have hlt2 : k < n := by omega
      obtain ⟨b, off, p, kk, sp, nm, la, ls, tx, x4, c4, x5, c5, rfl, hbw, hei, ⟨q0, q1, q2, q3, q4, q5, q6⟩, d4, d5, s4, s5, l4, l5⟩ := node_all hs (by rw [← HN.out]; exact hvl) hsl hx (i := k) (by rw [← HN.out]; exact hlt2)
      have hG := hS.ge
      have r0 := (hG.cell (p := ⟨b, off + k * 7, none⟩) hbw).trans q0
      have r1 := (hG.cell (p := ⟨b, off + k * 7 + 1, none⟩) hbw).trans q1
      have r2 := (hG.cell (p := ⟨b, off + k * 7 + 2, none⟩) hbw).trans q2
      have r3 := (hG.cell (p := ⟨b, off + k * 7 + 3, none⟩) hbw).trans q3
      have r4 := (hG.cell (p := ⟨b, off + k * 7 + 4, none⟩) hbw).trans q4
      have r5 := (hG.cell (p := ⟨b, off + k * 7 + 5, none⟩) hbw).trans q5
      have r6 := (hG.cell (p := ⟨b, off + k * 7 + 6, none⟩) hbw).trans q6
      clear q0 q1 q2 q3 q4 q5 q6
      obtain ⟨B7, HB7⟩ : ∃ z, z = wr.heap.size := ⟨_, rfl⟩
      obtain ⟨W7, HW7⟩ : ∃ z, z = wr.alloc (.cells #[.int .i64 p, .int .i64 kk, .string ⟨sp.toArray⟩, .string ⟨nm.toArray⟩, .slice x4 la.length c4, .slice x5 ls.length c5, .string ⟨tx.toArray⟩] 26) := ⟨_, rfl⟩
      have G7 : Ge wr W7 := by rw [HW7]; exact (Below.refl _ _).alloc (Nat.le_refl _) _
      have S7 := ns_grow hltG hS G7
      have N7 := ng_grow hNG rfl G7
      have T7 : Bk W7 (bm + 1) 59 #[vN, vE, .map (some bm), vP] := hB.below G7 hB.lt
      have L7 : Bk W7 B7 26 #[.int .i64 p, .int .i64 kk, .string ⟨sp.toArray⟩, .string ⟨nm.toArray⟩, .slice x4 la.length c4, .slice x5 ls.length c5, .string ⟨tx.toArray⟩] := by rw [HW7, HB7]; exact Bk.new _ _ _
      have Z7 : ZZ Z wr W7 B7 := .inr ⟨by omega, by rw [HW7, HB7]; simp⟩
      have hdd : es.getD k .bad = .agg [.int .i64 p, .int .i64 kk, .str sp, .str nm, .list la, .list ls, .str tx] := hei
      clear hS hNG hB hR
      generalize ZZ Z wr W7 = Z' at *
      go_wp2_with fail
      rw [← HB7, ← HW7]
      clear HW7 HB7
      have GW := S7.ge
      have HTK : (es.take k).length = k := by rw [List.length_take]; have := HN.out; omega
      clear G7 hG
      have hmem : es.getD k .bad ∈ es := by
        have hk' : k < es.length := by rw [← HN.out]; exact hlt2
        have : es.getD k .bad = es[k] := by simp [List.getD, hk']
        rw [this]
        exact List.getElem_mem hk'
      have hme : D.agg [.int .i64 p, .int .i64 kk, .str sp, .str nm, .list la, .list ls, .str tx] ∈ es := hdd ▸ hmem
      have hpp : -1 ≤ p ∧ p < 10000 := by
        have := hpr _ hmem
        rw [hdd] at this
        exact this
      have hpw : (Lit.int .i64 p).wf = true := WalkArith.wf_i64 (by omega)
      go_cut [18] from 18 to 80 (fun s wx => s = .int .i64 k ∧ R8 G es w bm k B7 #[.int .i64 p, .int .i64 kk, .string ⟨sp.toArray⟩, .string ⟨nm.toArray⟩, .slice x4 la.length c4, .slice x5 ls.length c5, .string ⟨tx.toArray⟩] (k + 1) (elF es k) (plF es k) wx)
      case first =>
        have b0 := T7.cell 0
        have b1 := L7.cell 0; have b2 := L7.cell 1; have b3 := L7.cell 2; have b4 := L7.cell 3; have b5 := L7.cell 4; have b6 := L7.cell 5; have b7 := L7.cell 6
        simp at b0 b1 b2 b3 b4 b5 b6 b7
        have c30 := copied_gen p kk ⟨sp.toArray⟩ ⟨nm.toArray⟩ ⟨tx.toArray⟩ (.slice x4 la.length c4) (.slice x5 ls.length c5) la ls F G
        go_region_law (first
          | (go_simp; go_at_call 30; (refine (c30 _ (lt_ge hlt (by first | exact GW | exact GW.drew)) (lt_ge hltG (by first | exact GW | exact GW.drew)) (fun W hW => (hkn W ((by first | exact GW | exact GW.drew : Ge w _).tr hW) _ _ _ _ _ _ _ hme).1) (fun W hW => (hkn W ((by first | exact GW | exact GW.drew : Ge w _).tr hW) _ _ _ _ _ _ _ hme).2) (den_ge d4 hlt (by first | exact GW | exact GW.drew)) (den_ge d5 hlt (by first | exact GW | exact GW.drew)) s4 s5 (by omega) (by omega) rfl rfl).mono ?_); (rintro e W8 ⟨u4, u5, rfl, hb8, v4, v5, p4, p5⟩); (have S8 := ns_grow hltG (by first | exact S7 | exact ns_ge hltG S7 (ge_drew _)) hb8); (have N8 := ng_grow (by first | exact N7 | exact ng_ge N7 rfl (ge_drew _)) rfl hb8); (have T8 := Bk.below (by first | exact T7 | exact T7.drew) hb8 (by first | exact T7.lt | exact T7.drew.lt)); (have L8 := Bk.below (by first | exact L7 | exact L7.drew) hb8 (by first | exact L7.lt | exact L7.drew.lt)); (have V4 := zz_of_nw (Z := Z') v4); (have V5 := zz_of_nw (Z := Z') v5); (have b8 := T8.cell 0); (simp at b8); (have S8a := ns_ge hltG S8 (ge_alloc W8 (.cells #[.int .i64 p, .int .i64 kk, .string ⟨sp.toArray⟩, .string ⟨nm.toArray⟩, u4, u5, .string ⟨tx.toArray⟩] 26))); (obtain ⟨xs, g1, g2, g3⟩ := S8a.oN); (have h7 : ∀ u ∈ [.int .i64 p, .int .i64 kk, .string ⟨sp.toArray⟩, .string ⟨nm.toArray⟩, u4, u5, .string ⟨tx.toArray⟩], u.oneCell' = true := by (intro u hu; simp only [List.mem_cons, List.not_mem_nil, or_false] at hu; rcases hu with rfl | rfl | rfl | rfl | rfl | rfl | rfl <;> first | rfl | exact p4 | exact p5)); (have hzb := fun b hb => (S8.z b hb).2.1); (have V4a := zden_ge hltG S8.ge hzb (ge_alloc W8 (.cells #[.int .i64 p, .int .i64 kk, .string ⟨sp.toArray⟩, .string ⟨nm.toArray⟩, u4, u5, .string ⟨tx.toArray⟩] 26)) V4); (have V5a := zden_ge hltG S8.ge hzb (ge_alloc W8 (.cells #[.int .i64 p, .int .i64 kk, .string ⟨sp.toArray⟩, .string ⟨nm.toArray⟩, u4, u5, .string ⟨tx.toArray⟩] 26)) V5); (have N8a := ng_ge N8 rfl (ge_alloc W8 (.cells #[.int .i64 p, .int .i64 kk, .string ⟨sp.toArray⟩, .string ⟨nm.toArray⟩, u4, u5, .string ⟨tx.toArray⟩] 26))); (have hxl := g1.1); (have T8a := T8.alloc (.cells #[.int .i64 p, .int .i64 kk, .string ⟨sp.toArray⟩, .string ⟨nm.toArray⟩, u4, u5, .string ⟨tx.toArray⟩] 26)); (have b9 : (W8.alloc (.cells #[.int .i64 p, .int .i64 kk, .string ⟨sp.toArray⟩, .string ⟨nm.toArray⟩, u4, u5, .string ⟨tx.toArray⟩] 26)).cell? ⟨bm + 1, 0, none⟩ = some vN := (T8a.cell 0).trans rfl); (have L8a := L8.alloc (.cells #[.int .i64 p, .int .i64 kk, .string ⟨sp.toArray⟩, .string ⟨nm.toArray⟩, u4, u5, .string ⟨tx.toArray⟩] 26)))
          | ((have e2 : ∀ (j : Nat) (u : Value), ([.int .i64 p, .int .i64 kk, .string ⟨sp.toArray⟩, .string ⟨nm.toArray⟩, u4, u5, .string ⟨tx.toArray⟩] : List Value)[j]? = some u → (W8.alloc (.cells #[.int .i64 p, .int .i64 kk, .string ⟨sp.toArray⟩, .string ⟨nm.toArray⟩, u4, u5, .string ⟨tx.toArray⟩] 26)).cell? ((⟨W8.heap.size, 0, none⟩ : Addr).add j) = some u := cell_one (w := W8) (cs := #[.int .i64 p, .int .i64 kk, .string ⟨sp.toArray⟩, .string ⟨nm.toArray⟩, u4, u5, .string ⟨tx.toArray⟩]) (t := 26)); (have e3 : (es.take k).length + 1 ≤ maxLen := by simp only [maxLen]; omega); (have e4 : ((es.take k).length + 1) * 112 ≤ 140737488355328 := by omega); (have e5 : bm + 1 + 1 ≤ (W8.alloc (.cells #[.int .i64 p, .int .i64 kk, .string ⟨sp.toArray⟩, .string ⟨nm.toArray⟩, u4, u5, .string ⟨tx.toArray⟩] 26)).heap.size := S8a.htw); (have e6 : ([.int .i64 p, .int .i64 kk, .string ⟨sp.toArray⟩, .string ⟨nm.toArray⟩, u4, u5, .string ⟨tx.toArray⟩] : List Value).length = 1 * 7 := rfl); (refine step_own (W8.alloc (.cells #[.int .i64 p, .int .i64 kk, .string ⟨sp.toArray⟩, .string ⟨nm.toArray⟩, u4, u5, .string ⟨tx.toArray⟩] 26)) rfl (.tmp 27) (.tmp 30) 22 rfl ei22 (bm + 1 + 1) vN (es.take k).length xs (by simp [Act.eval, Act.put]) g1 ⟨W8.heap.size, 0, none⟩ 1 1 [.int .i64 p, .int .i64 kk, .string ⟨sp.toArray⟩, .string ⟨nm.toArray⟩, u4, u5, .string ⟨tx.toArray⟩] (by simp [Act.eval, Act.put]) e6 e2 h7 e3 e4 e5 ?_); (intro A9 c9 W9 hc9 ho9 hg9 loc9); (have S9 := ns_node hltG S8a g2 g3 hxl (fun e he => isNode_len hs e (List.mem_of_mem_take he)) V4a V5a p4 p5 hg9 ho9 loc9); (have N9 := ng_N N8a rfl g1 hg9 loc9); (have T9 := T8a.grown hg9 (fun e => by have := (g1.lt _ e.symm).1; omega)); (have L9 := L8a.grown hg9 (fun e => (S8.z B7 (.inl Z7)).2.2.1 e.symm)); (have t9 := T9.cell 0); (have f9 := T9.free 0); (simp at t9)))
        all_goals (
          have hgp := grown_put (grown_refl W9 (some (bm + 1))) (p := ⟨bm + 1, 0, none⟩) rfl (.slice A9 ((es.take k).length + 1) c9)
          have S10 := S9.keep hltG hgp (fun b hb => by injection hb with hb; exact .inl hb.symm)
          have N10 := N9.keep rfl hgp (.inr (.inl rfl))
          have T10 := T9.put 0 (.slice A9 ((es.take k).length + 1) c9)
          have L10 := L9.other (p := ⟨bm + 1, 0, none⟩) (by have := (S8.z B7 (.inl Z7)).1; show B7 ≠ bm + 1; omega) (.slice A9 ((es.take k).length + 1) c9)
          have hcut8 : R8 G es w bm k B7 #[.int .i64 p, .int .i64 kk, .string ⟨sp.toArray⟩, .string ⟨nm.toArray⟩, .slice x4 la.length c4, .slice x5 ls.length c5, .string ⟨tx.toArray⟩] (k + 1) (elF es k) (plF es k) (W9.setCell ⟨bm + 1, 0, none⟩ (.slice A9 ((es.take k).length + 1) c9)) := by
            refine ⟨_, _, _, _, _, _, ?_, N10, hn', T10, L10, .inl Z7, hDm, hat⟩
            rw [take_one (by rw [← HN.out]; exact hlt2), hdd]
            exact S10
          clear hgp S10 N10 T10 L10
          rw [HTK] at hcut8
          go_wp2_with fail
          go_meet
          exact ⟨rfl, hcut8⟩)
      case rest =>
        obtain ⟨rfl, h8⟩ := hcut
        obtain ⟨Z8, vN8, vE8, vP8, n8, D8, S8, N8, hn8, T8, L8, Z7', hDm8, hat8⟩ := h8
        clear S7 N7 T7 L7 Z7 hat hDm hn' GW
        go_wp2_with fail
        go_cut [18] from 18 to 80 (fun s wx => s = .int .i64 k ∧ R8 G es w bm k B7 #[.int .i64 p, .int .i64 kk, .string ⟨sp.toArray⟩, .string ⟨nm.toArray⟩, .slice x4 la.length c4, .slice x5 ls.length c5, .string ⟨tx.toArray⟩] (k + 1) (elF es k) (plF es (k + 1)) wx)
        case first =>
          have b0 := T8.cell 0; have b1 := T8.cell 1; have b2 := T8.cell 2; have b3 := T8.cell 3
          have l0 := L8.cell 0
          simp at b0 b1 b2 b3 l0
          have N8d := ng_ge N8 rfl (ge_drew _)
          have S8d := ns_ge hltG S8 (ge_drew _)
          obtain ⟨v, zs, hrun, hat9, hoi, hzl, hback⟩ := N8d.gr.at kd3 (show Tryd.prog.underlying 57 = some (.map 3 39) by kernel_rfl) (show (zeroValue 39).run Tryd.prog wc.drew = .ok (.slice none 0 0) wc.drew by kernel_rfl) (by unfold maxLen; omega) (keyOf_int_mk (show Tryd.prog.underlying 3 = some (.int .i64) by kernel_rfl) hpw)
          have hzs : zs = rowF es p k := datL_eq hoi ((hat8 p).symm.trans hat9)
          obtain ⟨Av, cv, hv, hcv⟩ := own_form hoi.1
          subst hv
          have g1 := S8.oP.1
          have hpl : (plF es k).length = k := plF_len es k
          have HPL := Lib.hid hpl
          clear hpl
          have S8a := ns_ge hltG S8d (ge_alloc wc.drew (.cells #[.int .i64 zs.length] 3))
          have N8a := ng_ge N8d rfl (ge_alloc wc.drew (.cells #[.int .i64 zs.length] 3))
          have g1 := S8a.oP.1
          have T8a := T8.drew.alloc (.cells #[.int .i64 zs.length] 3)
          have L8a := L8.drew.alloc (.cells #[.int .i64 zs.length] 3)
          have t8 : (wc.drew.alloc (.cells #[.int .i64 zs.length] 3)).cell? ⟨bm + 1, 3, none⟩ = some vP8 := (T8a.cell 3).trans rfl
          have t8b : (wc.alloc (.cells #[.int .i64 zs.length] 3)).cell? ⟨bm + 1, 3, none⟩ = some vP8 := t8
          have e2 : ∀ (j : Nat) (u : Value), ([.int .i64 zs.length] : List Value)[j]? = some u → (wc.drew.alloc (.cells #[.int .i64 zs.length] 3)).cell? ((⟨wc.heap.size, 0, none⟩ : Addr).add j) = some u := cell_one (w := wc.drew) (cs := #[.int .i64 zs.length]) (t := 3)
          have e3 : (plF es k).length + 1 ≤ maxLen := by simp only [maxLen]; rw [HPL.out]; omega
          have e4 : ((plF es k).length + 1) * 8 ≤ 140737488355328 := by rw [HPL.out]; omega
          have e5 : bm + 1 + 1 ≤ (wc.drew.alloc (.cells #[.int .i64 zs.length] 3)).heap.size := S8a.htw
          have h7 : ∀ u ∈ ([.int .i64 zs.length] : List Value), u.oneCell' = true := by intro u hu; simp only [List.mem_cons, List.not_mem_nil, or_false] at hu; subst hu; rfl
          have hzw : (Lit.int .i64 (zs.length : Int)).wf = true := WalkArith.wf_i64 (by omega)
          have HZS := Lib.hid hzs
          clear hzs
          go_region_law (first
            | ((refine step_own (wc.drew.alloc (.cells #[.int .i64 zs.length] 3)) rfl (.tmp 38) (.tmp 47) 39 rfl ei39 (bm + 1 + 1) vP8 (plF es k).length ((plF es k).map (Value.int .i64)) (by simp [Act.eval, Act.put]) g1 ⟨wc.heap.size, 0, none⟩ 1 1 [.int .i64 zs.length] (by simp [Act.eval, Act.put]) rfl e2 h7 e3 e4 e5 ?_); (intro A9 c9 W9 hc9 ho9 hg9 loc9); (have S9 := S8a.appP hltG hg9 loc9 (S8a.oP.appended ho9 hzw)); (have N9 := ng_P N8a rfl g1 hg9 loc9); (have T9 := T8a.grown hg9 (fun e => by have := (g1.lt _ e.symm).1; omega)); (have L9 := L8a.grown hg9 (fun e => (S8.z B7 Z7').2.2.2.2 e.symm)); (have t9 := T9.cell 3); (have f9 := T9.free 3); (simp at t9)))
          all_goals (
            have hgp := grown_put (grown_refl W9 (some (bm + 1))) (p := ⟨bm + 1, 3, none⟩) rfl (.slice A9 ((plF es k).length + 1) c9)
            have S10 := S9.keep hltG hgp (fun b hb => by injection hb with hb; exact .inl hb.symm)
            have N10 := N9.keep rfl hgp (.inr (.inl rfl))
            have T10 := T9.put 3 (.slice A9 ((plF es k).length + 1) c9)
            have L10 := L9.other (p := ⟨bm + 1, 3, none⟩) (by have := (S8.z B7 Z7').1; show B7 ≠ bm + 1; omega) (.slice A9 ((plF es k).length + 1) c9)
            have hcut9 : R8 G es w bm k B7 #[.int .i64 p, .int .i64 kk, .string ⟨sp.toArray⟩, .string ⟨nm.toArray⟩, .slice x4 la.length c4, .slice x5 ls.length c5, .string ⟨tx.toArray⟩] (k + 1) (elF es k) (plF es (k + 1)) (W9.setCell ⟨bm + 1, 3, none⟩ (.slice A9 ((plF es k).length + 1) c9)) := by
              refine ⟨_, _, _, _, _, _, ?_, N10, hn8, T10, L10, Z7', hDm8, hat8⟩
              have hpp : plF es (k + 1) = plF es k ++ [(zs.length : Int)] := by
                rw [plF, hdd, HZS.out]
                rfl
              rw [hpp]
              exact S10
            clear hgp S10 N10 T10 L10
            go_wp2_with fail
            go_meet
            exact ⟨rfl, hcut9⟩)
        case rest =>
          obtain ⟨rfl, h9⟩ := hcut
          obtain ⟨Z9, vN9, vE9, vP9, n9, D9, S9, N9, hn9, T9, L9, Z9', hDm9, hat9⟩ := h9
          clear S8 N8 T8 L8 Z7' hat8 hDm8 hn8
          have l1 := L9.cell 1
          simp at l1
          have hndK : ndK (es.getD k .bad) = kk := by rw [hdd]; rfl
          have hndP : ndP (es.getD k .bad) = p := by rw [hdd]; rfl
          by_cases hkk : kk = 1
          · subst hkk
            have hkw : (Lit.int .i64 (k : Int)).wf = true := WalkArith.wf_i64 (by omega)
            have e2 : ∀ (W : World) (j : Nat) (u : Value), ([.int .i64 k] : List Value)[j]? = some u → (W.alloc (.cells #[.int .i64 k] 3)).cell? ((⟨W.heap.size, 0, none⟩ : Addr).add j) = some u := fun W => cell_one (w := W) (cs := #[.int .i64 k]) (t := 3)
            have h7 : ∀ u ∈ ([.int .i64 k] : List Value), u.oneCell' = true := by intro u hu; simp only [List.mem_cons, List.not_mem_nil, or_false] at hu; subst hu; rfl
            have hel := elF_len es k
            have S9a := ns_ge hltG S9 (ge_alloc wc (.cells #[.int .i64 k] 3))
            have N9a := ng_ge N9 rfl (ge_alloc wc (.cells #[.int .i64 k] 3))
            have g1 := S9a.oE.1
            have T9a := T9.alloc (.cells #[.int .i64 k] 3)
            have L9a := L9.alloc (.cells #[.int .i64 k] 3)
            have b1 := T9.cell 1
            simp at b1
            go_wp2_with (at_builtin; (refine app_own (wc.alloc (.cells #[.int .i64 k] 3)) rfl (.tmp 58) (.tmp 60) 39 rfl ei39 (bm + 1 + 1) vE9 (elF es k).length ((elF es k).map (Value.int .i64)) rfl g1 ⟨wc.heap.size, 0, none⟩ 1 1 [.int .i64 k] rfl rfl (e2 wc) h7 (by simp only [maxLen]; omega) (by omega) S9a.htw ?_); (intro A9 c9 W9 hc9 ho9 hg9 loc9); (have S10 := S9a.appE hltG hg9 loc9 (S9a.oE.appended ho9 hkw)); (have N10 := ng_E N9a rfl g1 hg9 loc9); (have T10 := T9a.grown hg9 (fun e => by have := (g1.lt _ e.symm).1; omega)); (have L10 := L9a.grown hg9 (fun e => (S9.z B7 Z9').2.2.2.1 e.symm)); (have t10 := T10.cell 1); (have f10 := T10.free 1); (simp at t10))
            have hgp := grown_put (grown_refl W9 (some (bm + 1))) (p := ⟨bm + 1, 1, none⟩) rfl (.slice A9 ((elF es k).length + 1) c9)
            have S11 := S10.keep hltG hgp (fun b hb => by injection hb with hb; exact .inl hb.symm)
            have N11 := N10.keep rfl hgp (.inr (.inl rfl))
            have T11 := T10.put 1 (.slice A9 ((elF es k).length + 1) c9)
            have L11 := L10.other (p := ⟨bm + 1, 1, none⟩) (by have := (S9.z B7 Z9').1; show B7 ≠ bm + 1; omega) (.slice A9 ((elF es k).length + 1) c9)
            have T11' : Bk (W9.setCell ⟨bm + 1, 1, none⟩ (.slice A9 ((elF es k).length + 1) c9)) (bm + 1) 59 #[vN9, .slice A9 ((elF es k).length + 1) c9, .map (some bm), vP9] := T11
            clear hgp S10 N10 T10 L10 t10 f10 S9 N9 T9 L9 S9a N9a T9a L9a g1 b1 ho9 hg9 loc9 T11 l1
            generalize W9.setCell ⟨bm + 1, 1, none⟩ (.slice A9 ((elF es k).length + 1) c9) = wd at *
            have b2 := T11'.cell 2
            have l0 := L11.cell 0
            simp at b2 l0
            have Sd := ns_ge hltG (ns_ge hltG S11 (ge_drew _)) (ge_alloc wd.drew (.cells #[.int .i64 k] 3))
            have Nd := ng_ge (ng_ge N11 rfl (ge_drew _)) rfl (ge_alloc wd.drew (.cells #[.int .i64 k] 3))
            have Td := T11'.drew.alloc (.cells #[.int .i64 k] 3)
            have l0d : (wd.alloc (.cells #[.int .i64 k] 3)).cell? ⟨B7, 0, none⟩ = some (.int .i64 p) := ((L11.alloc (.cells #[.int .i64 k] 3)).cell 0).trans rfl
            have b2d : (wd.alloc (.cells #[.int .i64 k] 3)).cell? ⟨bm + 1, 2, none⟩ = some (.map (some bm)) := (Td.cell 2).trans rfl
            obtain ⟨v, zs, hrun, hat10, hoi, hzl, hback⟩ := Nd.gr.at kd3 (show Tryd.prog.underlying 57 = some (.map 3 39) by kernel_rfl) (show (zeroValue 39).run Tryd.prog (wd.drew.alloc (.cells #[.int .i64 k] 3)) = .ok (.slice none 0 0) (wd.drew.alloc (.cells #[.int .i64 k] 3)) by kernel_rfl) (by unfold maxLen; omega) (keyOf_int_mk (show Tryd.prog.underlying 3 = some (.int .i64) by kernel_rfl) hpw)
            have hrun1 : (Instr.lookup 57 (.map (some bm)) (.int .i64 p) false).run Tryd.prog wd.drew = .ok v wd.drew := look_same Nd.gr ((Below.heap_alloc wd.drew _ bm N11.lt).symm) hrun
            have hrun2 : (Instr.lookup 57 (.map (some bm)) (.int .i64 p) false).run Tryd.prog (wd.alloc (.cells #[.int .i64 k] 3)).drew = .ok v (wd.alloc (.cells #[.int .i64 k] 3)).drew := hrun
            have hzs : zs = rowF es p k := datL_eq hoi ((hat9 p).symm.trans hat10)
            have HZS := Lib.hid hzs
            clear hzs
            have HRUN := Lib.hid hrun
            clear hrun
            have g1 := hoi.1
            have e5 : bm + 1 + 1 ≤ (wd.drew.alloc (.cells #[.int .i64 k] 3)).heap.size := Sd.htw
            have e3 : zs.length + 1 ≤ maxLen := by simp only [maxLen]; omega
            have e4 : (zs.length + 1) * 8 ≤ 140737488355328 := by omega
            have e2' := e2 wd.drew
            have hvB : some B7 ≠ v.ownBlock := fun e => look_shun Nd.gr Nd.sh HRUN.out _ e.symm (.inl Z9')
            have hB7 : bm + 1 < B7 := (S11.z B7 Z9').1
            have Ld := L11.drew.alloc (.cells #[.int .i64 k] 3)
            go_region_held_law (fun w' => w'.cell? ⟨bm + 1, 2, none⟩ = some (.map (some bm)) ∧ w'.cell? ⟨B7, 0, none⟩ = some (.int .i64 p)) (first | exact ⟨b2, l0⟩ | exact ⟨b2d, l0d⟩ | exact ⟨t12, l12⟩ | exact ⟨t13, l13⟩) (first
              | ((refine step_own (wd.drew.alloc (.cells #[.int .i64 k] 3)) rfl (.tmp 76) (.tmp 78) 39 rfl ei39 (bm + 1 + 1) v zs.length (zs.map (Value.int .i64)) (by simp [Act.eval, Act.put]) g1 ⟨wd.heap.size, 0, none⟩ 1 1 [.int .i64 k] (by simp [Act.eval, Act.put]) rfl e2' h7 e3 e4 e5 ?_); (intro A12 c12 W12 hc12 ho12 hg12 loc12); (have hap := hoi.appended ho12 hkw); (obtain ⟨W13, hrun13, hgr13, hg13⟩ := hback W12 (.slice A12 (zs.length + 1) c12) (zs ++ [(k : Int)]) hg12 hap (by simp; omega) (loc12.imp id fun h => ⟨_, h, Nat.le_refl _⟩)); (have l12 : W12.cell? ⟨B7, 0, none⟩ = some (.int .i64 p) := ((Ld.grown hg12 hvB).cell 0).trans rfl); (have T12 := Td.grown hg12 (fun e => by have := (g1.lt _ e.symm).1; omega)); (have L12 := Ld.grown hg12 hvB); (have t12 : W12.cell? ⟨bm + 1, 2, none⟩ = some (.map (some bm)) := (T12.cell 2).trans rfl); (have t13 : W13.cell? ⟨bm + 1, 2, none⟩ = some (.map (some bm)) := ((T12.grown hg13 (fun e => by injection e with e; omega)).cell 2).trans rfl); (have l13 : W13.cell? ⟨B7, 0, none⟩ = some (.int .i64 p) := ((L12.grown hg13 (fun e => by injection e with e; omega)).cell 0).trans rfl)))
            all_goals (
              obtain ⟨q1, q2, q3⟩ := group_put hltG Sd Nd HRUN.out hoi hg12 loc12 hrun13 hg13 hgr13 hpw (by unfold maxLen; omega)
              have HR : NR G es w bm (bm + 1) (k + 1) W13 := by
                refine ⟨Z9, vN9, _, vP9, n9 + 1, _, ?_, q2, by omega, q3 _ Td, hDm9.put _ _, fun key => ?_⟩
                · rw [elF, if_pos hndK]
                  exact q1
                · rw [rowF]
                  by_cases hkey : key = p
                  · subst hkey
                    rw [if_pos ⟨hndK, hndP⟩, atKey_put_same hDm9 (show WideAt.IsKeyLit (.int .i64 key) from trivial), hap.datum_pos (by simp), HZS.out]
                    unfold datL
                    rw [if_neg (by simp)]
                  · rw [if_neg (by rw [hndP]; exact fun h => hkey h.2.symm), atKey_put_other (fun e => hkey (by injection e))]
                    exact hat9 key
              clear q1 q2 q3 hap hgr13 hg13 hrun13
              go_wp2_with fail
              exact ⟨⟨k + 1, by simp, hlt2, HR⟩, by simp [intOf]; omega⟩)
          · have hkb : (kk == 1) = false := by simpa using hkk
            have HR : NR G es w bm (bm + 1) (k + 1) wc := by
              refine ⟨Z9, vN9, vE9, vP9, n9, D9, ?_, N9, by omega, T9, hDm9, fun key => ?_⟩
              · rw [elF, if_neg (by rw [hndK]; exact hkk)]
                exact S9
              · rw [rowF, if_neg (by rw [hndK]; exact fun h => hkk h.1)]
                exact hat9 key
            clear S9 N9 T9 L9 Z9' hDm9 hat9 hn9
            go_wp2_with fail
            exact ⟨⟨k + 1, by simp, hlt2, HR⟩, by simp [intOf]; omega⟩
theorem new_any (es : List D) (F : Nat → Nat → Prop) (w : World) (v : Value) (hlt : Lt F w) (hd : Den0 F w v (.list es)) (hs : ∀ e ∈ es, isNode e = true) (hL : es.length ≤ 10000) (hpr : ∀ e ∈ es, -1 ≤ ndP e ∧ ndP e < 10000)
    (hchk : Calls Tryd.prog 24 #[v] w fun e W' => e = .returned .nilIface ∧ Ge w W') : Calls Tryd.prog 12 #[v] w (RetD F w (.tuple [treeD es, .con .nilIface])) :=
  new_gen es F F w v hlt hlt (fun W hW _ _ _ _ _ _ _ _ => ⟨Keep.same (lt_ge hlt hW), Keep.same (lt_ge hlt hW)⟩) hd hs hL hpr hchk
end Go.Av
/- Chapter 11: New, as the evaluator takes it. -/
namespace Go.Av
open Go.Proofs Go.RowKit Go.Proofs.YtdbimjpjpgfeeaaDoor
def rangeOk (es : List D) : Bool := es.all fun e => decide (-1 ≤ ndP e) && decide (ndP e < 10000)
theorem rangeOk_inv {es : List D} (h : rangeOk es = true) : ∀ e ∈ es, -1 ≤ ndP e ∧ ndP e < 10000 := by
  unfold rangeOk at h
  simpa [List.all_eq_true] using h
noncomputable def ext11b (chk : List D → Bool) : Call := fun f args pbs => match f, args, pbs with
  | 12, [.list es], [] => if nodesOk es = true ∧ rangeOk es = true ∧ chk es = true then some (.tuple [treeD es, .con .nilIface], [], []) else none
  | _, _, _ => ext11a f args pbs
/-- chk says only of right documents that Check has nothing against them. -/
def ChkOK (chk : List D → Bool) : Prop := ∀ es, nodesOk es = true → chk es = true → ∃ N r, aev Tryd.prog ext11a N 24 [.list es] [] = some (.con .nilIface, r, [])
theorem den_con {c : Nat} {ν : Nat → Nat → Nat} {F : Nat → Nat → Prop} {w : World} {v u : Value} (h : Den c ν F w v (.con u)) : v = u := by
  cases h with
  | pure _ _ h => cases h; rfl
theorem ext11b_ok {chk : List D → Bool} (hchk : ChkOK chk) : CallOK Tryd.prog (ext11b chk) := by
  intro f args pbs d r pbs' h
  unfold ext11b at h
  split at h
  · rename_i es
    split at h
    · rename_i hc
      obtain ⟨h1, h2, h3⟩ := hc
      obtain ⟨hs, hl⟩ := nodesOk_inv h1
      simp only [Option.some.injEq, Prod.mk.injEq] at h
      obtain ⟨rfl, rfl, rfl⟩ := h
      obtain ⟨N, r, ev⟩ := hchk es h1 h3
      refine ⟨⟨_, Tryd.func12, rfl⟩, fun vals w F μ hv hd hb hi hlt hg => ?_⟩
      obtain ⟨v, rfl, h0⟩ := one_den hv hd
      refine (new_any es F w v hlt (den_list0 h0) hs (by omega) (rangeOk_inv h2) ?_).mono fun e w' h => h.ret hlt
      obtain ⟨_, hcall⟩ := aev_sound fine11 ext11a_ok N 24 [.list es] [] _ _ _ ev
      refine (hcall [v] w F μ rfl hd hb hi hlt hg).mono ?_
      intro e w' hr
      obtain ⟨u, rfl, hG, hu⟩ := hr.retD
      rw [den_con (hu 0 fun _ _ => 0)]
      exact ⟨rfl, hG⟩
    · cases h
  · exact ext11a_ok f args pbs d r pbs' h
end Go.Av
/- Chapter 11: utf8.word: eight bytes as one number. -/
set_option linter.unusedSimpArgs false
namespace Go.Av
open Go.Proofs Go.Proofs.YtdbimjpjpgfeeaaDoor
variable {chk : List D → Bool}
theorem wrap_u64 (n : Int) (h1 : 0 ≤ n) (h2 : n < 18446744073709551616) : IntKind.u64.wrap n = n := by
  simp [IntKind.wrap, IntKind.signed, IntKind.bits]
  omega
theorem map_getD (rs : List Int) (i : Nat) (h : i < rs.length) : (rs.map (D.int .u8)).getD i .bad = .int .u8 (rs.getD i 0) := by
  simp [List.getD, List.getElem?_eq_getElem h]
theorem byte_nat {rs : List Int} (hz : BytesOK rs) (h : 8 ≤ rs.length) (i : Nat) (hi : i < 8) : ∃ x : Nat, rs.getD i 0 = x ∧ x < 256 ∧ (rs.map (D.int .u8)).getD i .bad = .int .u8 (x : Nat) := by
  have h1 := hz i (by omega)
  refine ⟨(rs.getD i 0).toNat, by omega, by omega, ?_⟩
  rw [map_getD rs i (by omega)]
  congr 1
  omega
set_option maxHeartbeats 2000000 in
theorem word_L (rs : List Int) (hz : BytesOK rs) (h : 8 ≤ rs.length) : callL Tryd.prog (ext11b chk) 76 [.list (rs.map (D.int .u8))] [] = some (.int .u64 (wordL rs : Nat), [.no], []) := by
  obtain ⟨x0, e0, h0, g0⟩ := byte_nat hz h 0 (by omega)
  obtain ⟨x1, e1, h1, g1⟩ := byte_nat hz h 1 (by omega)
  obtain ⟨x2, e2, h2, g2⟩ := byte_nat hz h 2 (by omega)
  obtain ⟨x3, e3, h3, g3⟩ := byte_nat hz h 3 (by omega)
  obtain ⟨x4, e4, h4, g4⟩ := byte_nat hz h 4 (by omega)
  obtain ⟨x5, e5, h5, g5⟩ := byte_nat hz h 5 (by omega)
  obtain ⟨x6, e6, h6, g6⟩ := byte_nat hz h 6 (by omega)
  obtain ⟨x7, e7, h7, g7⟩ := byte_nat hz h 7 (by omega)
  have hW : wordL rs = wordN x0 x1 x2 x3 x4 x5 x6 x7 := by unfold wordL; rw [e0, e1, e2, e3, e4, e5, e6, e7]; rfl
  have HW := word_bits h0 h1 h2 h3 h4 h5 h6 h7
  rw [hW]
  have hl : ((rs.map (D.int .u8)).length : Int) = rs.length := by simp
  have l0 : (0 : Int) < rs.length := by omega
  have l1 : (1 : Int) < rs.length := by omega
  have l2 : (2 : Int) < rs.length := by omega
  have l3 : (3 : Int) < rs.length := by omega
  have l4 : (4 : Int) < rs.length := by omega
  have l5 : (5 : Int) < rs.length := by omega
  have l6 : (6 : Int) < rs.length := by omega
  have l7 : (7 : Int) < rs.length := by omega
  have w0 : IntKind.u64.wrap (x0 : Int) = x0 := wrap_u64 _ (by omega) (by omega)
  have w1 : IntKind.u64.wrap (x1 : Int) = x1 := wrap_u64 _ (by omega) (by omega)
  have w2 : IntKind.u64.wrap (x2 : Int) = x2 := wrap_u64 _ (by omega) (by omega)
  have w3 : IntKind.u64.wrap (x3 : Int) = x3 := wrap_u64 _ (by omega) (by omega)
  have w4 : IntKind.u64.wrap (x4 : Int) = x4 := wrap_u64 _ (by omega) (by omega)
  have w5 : IntKind.u64.wrap (x5 : Int) = x5 := wrap_u64 _ (by omega) (by omega)
  have w6 : IntKind.u64.wrap (x6 : Int) = x6 := wrap_u64 _ (by omega) (by omega)
  have w7 : IntKind.u64.wrap (x7 : Int) = x7 := wrap_u64 _ (by omega) (by omega)
  have v1 : IntKind.u64.wrap ((x1 : Int) * 256) = (x1 : Int) * 256 := wrap_u64 _ (by omega) (by omega)
  have v2 : IntKind.u64.wrap ((x2 : Int) * 65536) = (x2 : Int) * 65536 := wrap_u64 _ (by omega) (by omega)
  have v3 : IntKind.u64.wrap ((x3 : Int) * 16777216) = (x3 : Int) * 16777216 := wrap_u64 _ (by omega) (by omega)
  have v4 : IntKind.u64.wrap ((x4 : Int) * 4294967296) = (x4 : Int) * 4294967296 := wrap_u64 _ (by omega) (by omega)
  have v5 : IntKind.u64.wrap ((x5 : Int) * 1099511627776) = (x5 : Int) * 1099511627776 := wrap_u64 _ (by omega) (by omega)
  have v6 : IntKind.u64.wrap ((x6 : Int) * 281474976710656) = (x6 : Int) * 281474976710656 := wrap_u64 _ (by omega) (by omega)
  have v7 : IntKind.u64.wrap ((x7 : Int) * 72057594037927936) = (x7 : Int) * 72057594037927936 := wrap_u64 _ (by omega) (by omega)
  clear e0 e1 e2 e3 e4 e5 e6 e7 h0 h1 h2 h3 h4 h5 h6 h7 hW h hz
  refine callK (m := 71) (res := [2]) (rs := [.tmp 2]) rfl Tryd.func76 rfl rfl rfl rfl rfl ?_
  repeat' (first
    | simp only [*, go_nil, go_seq, go_cond, go_block, go_blk, go_skip, go_exit, go_retc, go_xcode, go_xblk, go_loop, go_region, go_draw, go_ops_nil, go_dops_nil, go_ops, go_dops1, go_dops, okG_some, okB_some, gwD_bool, gwD_undef, cwD_bool, gw_true, gw_false, guardG_none, guardG, opG, opD, isPtr, isStore, inB, sval, stake, eats, eaters, get, cval, cval1, croom, St.taken, put_slot, put_room, put_box, put_ctr, put_none, dem_none, dem_slot, dem_box, dem_ctr, dem_room, dem_room1, setBox_slot, setBox_room, setBox_ctr, setBox_box, entry_slot, entry_room, entry_box, entry_ctr, endQ, endR, endV, rvars, rvar, room1, ↓reduceIte, Nat.reduceEqDiff, Nat.reduceLT, Nat.reduceLeDiff, reduceCtorEq, decide_true, decide_false, List.filterMap_cons, List.filterMap_nil, Option.bind_some, Option.map_some, Option.bind_none, Option.map_none, List.getElem?_cons_zero, List.getElem?_cons_succ, List.getD_cons_zero, List.getD_cons_succ, List.contains_cons, List.contains_nil, List.map_cons, List.map_nil, beq_self_eq_true, beq_iff_eq, Bool.or_false, Bool.false_or, Bool.or_true, Bool.true_or, Bool.and_true, Bool.true_and, Nat.reduceBEq, Bool.false_eq_true, dbin, okR, callG, endN, newV, row11, frz11, frzOf_def, frz_nil, frz_cons, frzD, rowList, rowElem, stepRow, madeRow, isLocal, allocKey, isAlloc, loadsOwn, ptrAt, beq_true, beq_false, Bool.not_true, Bool.not_false, pureB, leaf, leafN, List.all_cons, List.all_nil, List.nil_append, List.cons_append, List.append_nil, List.take_nil, List.range_zero, List.length_nil, List.length_cons, String.reduceBEq, Bool.true_beq, Bool.false_beq, List.find?_cons, List.find?_nil, dun, List.getElem?_nil, List.take_zero, List.drop_zero, List.take_succ_cons, List.drop_succ_cons, dcells, Nat.zero_add, Nat.reduceAdd, Nat.reduceSub, Nat.reduceMul, stepBox, Bool.and_false, Bool.false_and, and_true, true_and, List.zipWith, Option.getD_some, List.singleton_append, List.map_map, Int.natCast_nonneg, Int.toNat_natCast, and_self, Nat.mul_one, Nat.add_zero, if_true, St.freeze, false_or, or_true, true_or, or_false, szOk_cons, szOk_nil, List.cons.injEq, false_and, and_false, forall_const, List.getElem?_toArray, List.getElem_toArray, dopt, dbound, ge_iff_le, gt_iff_lt, dStrBin, List.take_length, plainR_s, Int.reduceLE, Int.reduceLT, Int.reduceToNat, Int.reduceBEq, Int.reduceBNe, ty3, dp3, ty4, dp4, ty9, dp9, ty5, dp5, ty74, dp74, ty26, dp26, fa26_0, fp26_0, fa26_1, fp26_1, fa26_2, fp26_2, fa26_3, fp26_3, fa26_4, fp26_4, fa26_5, fp26_5, fa26_6, fp26_6, ty54, dp54, fa54_0, fp54_0, fa54_1, fp54_1, fa54_2, fp54_2, zr26, zr54, ty22, dp22, ia22, len22, sl22, ty23, dp23, ia23, len23, sl23, ty24, dp24, ia24, len24, sl24, ty39, dp39, ia39, len39, sl39, ty81, dp81, ia81, len81, sl81, len9, eq54, sl121, cv981, frz11b, frz11c, gl1, ty124, ty126, ty127, fap0, fap1, dp126, ia124, ia127, sl81m, cv53, cv512, cv5129, cv12912, zr126, szU8, takeM, and_w, or_w, and_8, ib_add, ib_sub, ib_eql, ib_neq, ib_lss, ib_leq, ib_gtr, ib_geq, shl8, shl16, shl24, shl32, shl40, shl48, shl56, gl2, gl3]
    | (refine drW_intro (by kernel_rfl) ?_)
    | (refine gw_intro (fun h => ?_) (fun h => ?_) <;> (try simp only [beq_true, beq_false, Bool.not_eq_eq_eq_not, Bool.not_true, Bool.not_false, Bool.not_not, decide_eq_true_eq, decide_eq_false_iff_not, ge_iff_le, gt_iff_lt] at h)))
end Go.Av
/- Chapter 11: utf8.Valid. -/
set_option linter.unusedSimpArgs false
set_option linter.unusedVariables false
set_option maxRecDepth 100000
namespace Go.Av
open Go.Proofs Go.Proofs.YtdbimjpjpgfeeaaDoor
/-- What the tables say of a first byte. -/
def clsB (n : Nat) : Bool :=
  decide (bits .and .u8 (firstN n : Nat) 7 = (firstN n % 8 : Nat)) && decide ((firstN n : Int).fdiv 16 = (firstN n / 16 : Nat)) && decide (firstN n < 256) && (n < 128 ||
  (if n < 194 ∨ 244 < n then firstN n % 8 == 1 else if n ≤ 223 then firstN n % 8 == 2 && accN.getD (firstN n / 16 * 2) 0 == 128 && accN.getD (firstN n / 16 * 2 + 1) 0 == 191
   else if n ≤ 239 then firstN n % 8 == 3 && decide ((accN.getD (firstN n / 16 * 2) 0 : Int) = L3 n) && decide ((accN.getD (firstN n / 16 * 2 + 1) 0 : Int) = H3 n)
   else firstN n % 8 == 4 && decide ((accN.getD (firstN n / 16 * 2) 0 : Int) = L4 n) && decide ((accN.getD (firstN n / 16 * 2 + 1) 0 : Int) = H4 n)))
theorem cls_all : (List.range 256).all clsB = true := by decide +kernel
theorem acc_at (q : Nat) (h : q < 16) : dpart Tryd.prog 126 accD (q * 2) = some (.agg [.int .u8 (accN.getD (q * 2) 0 : Nat), .int .u8 (accN.getD (q * 2 + 1) 0 : Nat)]) := by
  rw [dp126]
  rcases (by omega : q = 0 ∨ q = 1 ∨ q = 2 ∨ q = 3 ∨ q = 4 ∨ q = 5 ∨ q = 6 ∨ q = 7 ∨ q = 8 ∨ q = 9 ∨ q = 10 ∨ q = 11 ∨ q = 12 ∨ q = 13 ∨ q = 14 ∨ q = 15) with rfl | rfl | rfl | rfl | rfl | rfl | rfl | rfl | rfl | rfl | rfl | rfl | rfl | rfl | rfl | rfl <;> rfl
/-- The class of a first byte that is not its own character. -/
theorem cls (x : Int) (h1 : 128 ≤ x) (h2 : x < 256) : ∃ (F : Int) (q : Nat) (lo hi s : Int), firstD[x.toNat]? = some (.int .u8 F) ∧ bits .and .u8 F 7 = s ∧ dShift .shr .u8 F 4 = some (.int .u8 (q : Nat)) ∧ q < 16 ∧
    dpart Tryd.prog 126 accD (q * 2) = some (.agg [.int .u8 lo, .int .u8 hi]) ∧
    ((s = 1 ∧ (x < 194 ∨ 244 < x)) ∨ (s = 2 ∧ 194 ≤ x ∧ x ≤ 223 ∧ lo = 128 ∧ hi = 191) ∨ (s = 3 ∧ 224 ≤ x ∧ x ≤ 239 ∧ lo = L3 x ∧ hi = H3 x) ∨ (s = 4 ∧ 240 ≤ x ∧ x ≤ 244 ∧ lo = L4 x ∧ hi = H4 x)) := by
  obtain ⟨n, rfl⟩ : ∃ n : Nat, x = n := ⟨x.toNat, by omega⟩
  have h := List.all_eq_true.1 cls_all n (List.mem_range.2 (by omega))
  unfold clsB at h
  simp only [Bool.and_eq_true, decide_eq_true_eq, Bool.or_eq_true] at h
  obtain ⟨⟨⟨g1, g2⟩, g3⟩, g4⟩ := h
  have hq : firstN n / 16 < 16 := by omega
  refine ⟨(firstN n : Nat), firstN n / 16, _, _, _, firstD_at n (by omega), g1, ?_, hq, acc_at _ hq, ?_⟩
  · show some (D.int .u8 ((firstN n : Int).fdiv 16)) = _
    rw [g2]
  · have g4' := g4.resolve_left (by omega)
    split at g4'
    · rename_i hc
      simp at g4'
      exact .inl ⟨by omega, by omega⟩
    · split at g4'
      · simp only [Bool.and_eq_true, beq_iff_eq] at g4'
        exact .inr (.inl ⟨by omega, by omega, by omega, by rw [g4'.1.2]; rfl, by rw [g4'.2]; rfl⟩)
      · split at g4'
        · simp only [Bool.and_eq_true, beq_iff_eq, decide_eq_true_eq] at g4'
          exact .inr (.inr (.inl ⟨by omega, by omega, by omega, g4'.1.2, g4'.2⟩))
        · simp only [Bool.and_eq_true, beq_iff_eq, decide_eq_true_eq] at g4'
          exact .inr (.inr (.inr ⟨by omega, by omega, by omega, g4'.1.2, g4'.2⟩))
theorem low_test {a : Nat} (ha : a < 18446744073709551616) (h : (bits .and .u64 (a : Int) 9259542123273814144 == 0) = true) : LowN a := by
  rw [and_bits ha, beq_iff_eq] at h
  exact low_of (by omega)
theorem low1 {rs : List Int} (hz : BytesOK rs) (h8 : 8 ≤ rs.length) (h : (bits .and .u64 (wordL rs : Nat) 9259542123273814144 == 0) = true) : ∀ i, i < 8 → rs.getD i 0 < 128 :=
  wordL_low hz h8 (low_test (wordL_lt hz h8) h)
theorem getD_drop (rs : List Int) (k i : Nat) : (rs.drop k).getD i 0 = rs.getD (k + i) 0 := by simp [List.getD]
theorem low2 {rs : List Int} (hz : BytesOK rs) (h8 : 16 ≤ rs.length) (h : (bits .and .u64 (bits .or .u64 (wordL rs : Nat) (wordL (rs.drop 8) : Nat)) 9259542123273814144 == 0) = true) : ∀ i, i < 16 → rs.getD i 0 < 128 := by
  have z1 := wordL_lt hz (by omega : 8 ≤ rs.length)
  have z2 := wordL_lt (hz.drop 8) (by simp; omega : 8 ≤ (rs.drop 8).length)
  rw [or_bits z1 z2] at h
  obtain ⟨l1, l2⟩ := low_or (low_test (or_lt z1 z2) h)
  intro i hi
  by_cases h1 : i < 8
  · exact wordL_low hz (by omega) l1 i h1
  · have := wordL_low (hz.drop 8) (by simp; omega) l2 (i - 8) (by omega)
    rw [getD_drop] at this
    rwa [show 8 + (i - 8) = i by omega] at this
theorem low4 {rs : List Int} (hz : BytesOK rs) (h8 : 32 ≤ rs.length)
    (h : (bits .and .u64 (bits .or .u64 (bits .or .u64 (wordL rs : Nat) (wordL (rs.drop 8) : Nat)) (bits .or .u64 (wordL (rs.drop 16) : Nat) (wordL (rs.drop 24) : Nat))) 9259542123273814144 == 0) = true) : ∀ i, i < 32 → rs.getD i 0 < 128 := by
  have z1 := wordL_lt hz (by omega : 8 ≤ rs.length)
  have z2 := wordL_lt (hz.drop 8) (by simp; omega : 8 ≤ (rs.drop 8).length)
  have z3 := wordL_lt (hz.drop 16) (by simp; omega : 8 ≤ (rs.drop 16).length)
  have z4 := wordL_lt (hz.drop 24) (by simp; omega : 8 ≤ (rs.drop 24).length)
  rw [or_bits z1 z2, or_bits z3 z4, or_bits (or_lt z1 z2) (or_lt z3 z4)] at h
  obtain ⟨l12, l34⟩ := low_or (low_test (or_lt (or_lt z1 z2) (or_lt z3 z4)) h)
  obtain ⟨l1, l2⟩ := low_or l12
  obtain ⟨l3, l4⟩ := low_or l34
  intro i hi
  rcases (by omega : i < 8 ∨ (8 ≤ i ∧ i < 16) ∨ (16 ≤ i ∧ i < 24) ∨ (24 ≤ i ∧ i < 32)) with h1 | h1 | h1 | h1
  · exact wordL_low hz (by omega) l1 i h1
  · have := wordL_low (hz.drop 8) (by simp; omega) l2 (i - 8) (by omega)
    rw [getD_drop] at this
    rwa [show 8 + (i - 8) = i by omega] at this
  · have := wordL_low (hz.drop 16) (by simp; omega) l3 (i - 16) (by omega)
    rw [getD_drop] at this
    rwa [show 16 + (i - 16) = i by omega] at this
  · have := wordL_low (hz.drop 24) (by simp; omega) l4 (i - 24) (by omega)
    rw [getD_drop] at this
    rwa [show 24 + (i - 24) = i by omega] at this
end Go.Av
/- Chapter 11: utf8.Valid is validB. -/
set_option linter.unusedSimpArgs false
set_option linter.unusedVariables false
set_option maxRecDepth 100000
namespace Go.Av
open Go.Proofs Go.Proofs.YtdbimjpjpgfeeaaDoor
variable {chk : List D → Bool}
def IV (zs : List Int) (n : Nat) (st : St) : Prop := ∃ rs : List Int, st.slot 0 = .list (rs.map (D.int .u8)) ∧ Hd (BytesOK rs) ∧ Hd (rs.length ≤ n) ∧ Hd (validB rs = validB zs) ∧ st.slot 2 = .bool false ∧ st.room 2 = []
theorem map_drop (rs : List Int) (k : Nat) : (rs.map (D.int .u8)).drop k = (rs.drop k).map (D.int .u8) := List.map_drop.symm
theorem BytesOK.get {rs : List Int} (h : BytesOK rs) {i : Nat} (hi : i < rs.length) : ∃ x : Int, rs.getD i 0 = x ∧ 0 ≤ x ∧ x < 256 ∧ (rs.map (D.int .u8)).getD i .bad = .int .u8 x :=
  ⟨_, rfl, (h i hi).1, (h i hi).2, map_getD rs i hi⟩
theorem wi1 : IntKind.i64.wrap 1 = 1 := rfl
theorem wi2 : IntKind.i64.wrap 2 = 2 := rfl
theorem wi3 : IntKind.i64.wrap 3 = 3 := rfl
theorem wi4 : IntKind.i64.wrap 4 = 4 := rfl
set_option maxHeartbeats 16000000 in
theorem valid_L (zs : List Int) (hz : BytesOK zs) (hl : zs.length < 1000000000) : callL Tryd.prog (ext11b chk) 74 [.list (zs.map (D.int .u8))] [] = some (.bool (validB zs), [.no], []) := by
  have hlN : (zs.map (D.int .u8)).length = zs.length := by simp
  have hta : (zs.map (D.int .u8)).take zs.length = zs.map (D.int .u8) := by rw [← hlN, List.take_length]
  have hll : (zs.length : Int) ≤ zs.length := Int.le_refl _
  have hz' := Hd.mk hz
  clear hz
  refine callK (m := 188) (res := [2]) (rs := [.tmp 2]) rfl Tryd.func74 rfl rfl rfl rfl rfl ?_
  repeat' (first
    | simp only [*, go_seq, go_block, go_loop, go_region, go_ops_nil, go_ops, okG_some, guardG, opG, isPtr, inB, sval, stake, eats, eaters, get, cval, cval1, croom, St.taken, put_slot, put_room, dem_none, entry_slot, ↓reduceIte, Nat.reduceEqDiff, Nat.reduceLT, reduceCtorEq, decide_true, List.filterMap_cons, List.filterMap_nil, Option.bind_some, Option.map_some, Option.map_none, List.getD_cons_zero, List.contains_cons, List.contains_nil, List.map_cons, List.map_nil, Bool.or_false, Nat.reduceBEq, Bool.false_eq_true, row11, frz11, frzOf_def, frz_nil, List.length_nil, List.drop_zero, Int.natCast_nonneg, Int.toNat_natCast, and_self, dopt, dbound, len81, frz11b, sl81m, szU8]
    | (refine drW_intro (by kernel_rfl) ?_)
    | (refine gw_intro (fun h => ?_) (fun h => ?_) <;> (try simp only [beq_true, beq_false, Bool.not_eq_eq_eq_not, Bool.not_true, Bool.not_false, Bool.not_not, decide_eq_true_eq, decide_eq_false_iff_not, ge_iff_le, gt_iff_lt] at h)))
  refine loopH (IV zs zs.length) (fun st => slotL st 0) ?_ ?_
  · refine ⟨zs, ?_, hz', Nat.le_refl _, rfl, ?_, ?_⟩
    all_goals simp only [*, put_slot, put_room, dem_slot, dem_room, ↓reduceIte, Nat.reduceEqDiff, reduceCtorEq]
  · rintro st K ⟨rs, h0, hok, hle, hv, h2, hr2⟩ hn hx hr
    clear hlN hta hll hz'
    have lN : (rs.map (D.int .u8)).length = rs.length := List.length_map ..
    by_cases hpos : 0 < rs.length
    · have p0 : (0 : Int) < rs.length := by omega
      have HP := Hd.mk hpos
      have ok0 : BytesOK rs := hok
      have v0 : validB rs = validB zs := hv
      obtain ⟨x0, e0, m0, n0, g0⟩ := BytesOK.get ok0 hpos
      by_cases hx0 : x0 < 128
      · have hb1 : (1 : Int) ≤ rs.length := by omega
        have hd1 := map_drop rs 1
        obtain ⟨r1, er1⟩ : ∃ r1, rs.drop 1 = r1 := ⟨_, rfl⟩
        have ok1 : BytesOK r1 := by rw [← er1]; exact ok0.drop 1
        have v1 : validB r1 = validB zs := by rw [← er1, v1_ok (by omega) (by rw [e0]; exact hx0), v0]
        have b1 : r1.length + 1 = rs.length := by rw [← er1, List.length_drop]; omega
        have l1N : (r1.map (D.int .u8)).length = r1.length := List.length_map ..
        rw [er1] at hd1
        by_cases q8 : (8 : Int) < r1.length
        · have hc1 := word_L (chk := chk) r1 ok1 (by omega)
          cases t1 : (bits .and .u64 (wordL r1 : Nat) 9259542123273814144 == 0) with
          | false =>
            have OKF := Hd.mk ok1; have VF := Hd.mk v1; have BF := Hd.mk (show r1.length ≤ rs.length by omega); have BL := Hd.mk (show r1.length < rs.length by omega)
            clear er1 ok1 v1 b1 ok0 v0 hpos e0 hok hv
            repeat' (first
    | simp only [*, go_nil, go_seq, go_cond, go_block, go_skip, go_exit, go_xcode, go_xblk, go_region, go_ops_nil, go_ops, okG_some, gwD_bool, cwD_bool, gw_true, gw_false, guardG, opG, isPtr, inB, sval, stake, eats, eaters, get, cval, cval1, croom, St.taken, put_slot, put_room, dem_none, dem_slot, dem_room, setBox_slot, setBox_room, ↓reduceIte, Nat.reduceEqDiff, Nat.reduceLT, reduceCtorEq, decide_true, List.filterMap_cons, List.filterMap_nil, Option.bind_some, Option.map_some, Option.map_none, List.getElem?_cons_zero, List.getElem?_cons_succ, List.contains_cons, List.contains_nil, List.map_cons, List.map_nil, beq_self_eq_true, Bool.or_false, Bool.and_true, Nat.reduceBEq, Bool.false_eq_true, dbin, okR, callG, row11, frz11, frzOf_def, frz_nil, pureB, leaf, leafN, List.all_cons, List.all_nil, List.nil_append, List.append_nil, List.length_nil, List.length_cons, dcells, Nat.zero_add, true_and, and_self, dopt, dbound, gt_iff_lt, dStrBin, Int.reduceLE, Int.reduceToNat, dp5, ia81, len81, sl81, szU8, takeM, and_w, ib_eql, ib_lss, ib_gtr]
    | (refine drW_intro (by kernel_rfl) ?_)
    | (refine gw_intro (fun h => ?_) (fun h => ?_) <;> (try simp only [beq_true, beq_false, Bool.not_eq_eq_eq_not, Bool.not_true, Bool.not_false, Bool.not_not, decide_eq_true_eq, decide_eq_false_iff_not, ge_iff_le, gt_iff_lt] at h)))
            refine hn _ ⟨r1, ?_, OKF, ?_, VF, ?_, ?_⟩ ?_
            · simp only [*, put_slot, ↓reduceIte, reduceCtorEq]
            · exact Nat.le_trans (show (r1).length ≤ rs.length from BF) (show rs.length ≤ zs.length from hle)
            · simp only [*, put_slot, dem_slot, ↓reduceIte, Nat.reduceEqDiff, reduceCtorEq]
            · simp only [*, put_room, dem_room, ↓reduceIte, Nat.reduceEqDiff, reduceCtorEq]
            · have : (r1).length < rs.length := BL
              simp only [slotL, *, put_slot, ↓reduceIte, reduceCtorEq]
              first | done | omega
          | true =>
            have hb8 : (8 : Int) ≤ r1.length := by omega
            have hd8 := map_drop r1 8
            obtain ⟨r2, er2⟩ : ∃ r2, r1.drop 8 = r2 := ⟨_, rfl⟩
            have ok2 : BytesOK r2 := by rw [← er2]; exact ok1.drop 8
            have v2 : validB r2 = validB zs := by rw [← er2, validB_skip 8 r1 (by omega) (low1 ok1 (by omega) t1), v1]
            have b2 : r2.length + 8 = r1.length := by rw [← er2, List.length_drop]; omega
            have l2N : (r2.map (D.int .u8)).length = r2.length := List.length_map ..
            rw [er2] at hd8
            by_cases q16 : (16 : Int) < r2.length
            · have hb28 : (8 : Int) ≤ r2.length := by omega
              have hd28 := map_drop r2 8
              have hc2 := word_L (chk := chk) r2 ok2 (by omega)
              have hc2b := word_L (chk := chk) (r2.drop 8) (ok2.drop 8) (by rw [List.length_drop]; omega)
              cases t2 : (bits .and .u64 (bits .or .u64 (wordL r2 : Nat) (wordL (r2.drop 8) : Nat)) 9259542123273814144 == 0) with
              | false =>
                have OKF := Hd.mk ok2; have VF := Hd.mk v2; have BF := Hd.mk (show r2.length ≤ rs.length by omega); have BL := Hd.mk (show r2.length < rs.length by omega)
                clear er1 er2 ok1 ok2 v1 v2 b1 b2 ok0 v0 hpos e0 hok hv
                repeat' (first
    | simp only [*, go_nil, go_seq, go_cond, go_block, go_skip, go_exit, go_xcode, go_xblk, go_region, go_draw, go_ops_nil, go_ops, go_dops1, go_dops, okG_some, gwD_bool, cwD_bool, gw_true, gw_false, guardG, opG, opD, isPtr, isStore, inB, sval, stake, eats, eaters, get, cval, cval1, croom, St.taken, put_slot, put_room, dem_none, dem_slot, dem_room, setBox_slot, setBox_room, ↓reduceIte, Nat.reduceEqDiff, Nat.reduceLT, reduceCtorEq, decide_true, List.filterMap_cons, List.filterMap_nil, Option.bind_some, Option.map_some, Option.bind_none, Option.map_none, List.getElem?_cons_zero, List.getElem?_cons_succ, List.contains_cons, List.contains_nil, List.map_cons, List.map_nil, beq_self_eq_true, Bool.or_false, Bool.and_true, Nat.reduceBEq, Bool.false_eq_true, dbin, okR, callG, row11, frz11, frzOf_def, frz_nil, isLocal, allocKey, isAlloc, pureB, leaf, leafN, List.all_cons, List.all_nil, List.nil_append, List.append_nil, List.length_nil, List.length_cons, List.find?_cons, List.find?_nil, dcells, Nat.zero_add, true_and, and_self, dopt, dbound, gt_iff_lt, dStrBin, plainR_s, Int.reduceLE, Int.reduceToNat, dp5, ia81, len81, sl81, szU8, takeM, and_w, or_w, ib_eql, ib_lss, ib_gtr]
    | (refine drW_intro (by kernel_rfl) ?_)
    | (refine gw_intro (fun h => ?_) (fun h => ?_) <;> (try simp only [beq_true, beq_false, Bool.not_eq_eq_eq_not, Bool.not_true, Bool.not_false, Bool.not_not, decide_eq_true_eq, decide_eq_false_iff_not, ge_iff_le, gt_iff_lt] at h)))
                refine hn _ ⟨r2, ?_, OKF, ?_, VF, ?_, ?_⟩ ?_
                · simp only [*, put_slot, ↓reduceIte, reduceCtorEq]
                · exact Nat.le_trans (show (r2).length ≤ rs.length from BF) (show rs.length ≤ zs.length from hle)
                · simp only [*, put_slot, dem_slot, ↓reduceIte, Nat.reduceEqDiff, reduceCtorEq]
                · simp only [*, put_room, dem_room, ↓reduceIte, Nat.reduceEqDiff, reduceCtorEq]
                · have : (r2).length < rs.length := BL
                  simp only [slotL, *, put_slot, ↓reduceIte, reduceCtorEq]
                  first | done | omega
              | true =>
                have hb16 : (16 : Int) ≤ r2.length := by omega
                have hd16 := map_drop r2 16
                obtain ⟨r3, er3⟩ : ∃ r3, r2.drop 16 = r3 := ⟨_, rfl⟩
                have ok3 : BytesOK r3 := by rw [← er3]; exact ok2.drop 16
                have v3 : validB r3 = validB zs := by rw [← er3, validB_skip 16 r2 (by omega) (low2 ok2 (by omega) t2), v2]
                have b3 : r3.length + 16 = r2.length := by rw [← er3, List.length_drop]; omega
                rw [er3] at hd16
                have OK3 := Hd.mk ok3; have V3 := Hd.mk v3; have B3 := Hd.mk (show r3.length < rs.length by omega)
                clear er1 er2 er3 ok1 ok2 ok3 v1 v2 v3 b1 b2 b3 ok0 v0 hpos e0 hok hv
                repeat' (first
    | simp only [*, go_seq, go_cond, go_block, go_skip, go_loop, go_region, go_draw, go_ops_nil, go_ops, go_dops1, go_dops, okG_some, gwD_bool, cwD_bool, gw_true, guardG, opG, opD, isPtr, isStore, inB, sval, stake, eats, eaters, get, cval, cval1, croom, St.taken, put_slot, put_room, dem_none, dem_slot, dem_room, setBox_slot, setBox_room, ↓reduceIte, Nat.reduceEqDiff, Nat.reduceLT, reduceCtorEq, decide_true, List.filterMap_cons, List.filterMap_nil, Option.bind_some, Option.map_some, Option.bind_none, Option.map_none, List.getElem?_cons_zero, List.getElem?_cons_succ, List.contains_cons, List.contains_nil, List.map_cons, List.map_nil, beq_self_eq_true, Bool.or_false, Bool.and_true, Nat.reduceBEq, Bool.false_eq_true, dbin, okR, callG, row11, frz11, frzOf_def, frz_nil, isLocal, allocKey, isAlloc, pureB, leaf, leafN, List.all_cons, List.all_nil, List.nil_append, List.append_nil, List.length_nil, List.length_cons, List.find?_cons, List.find?_nil, dcells, Nat.zero_add, true_and, and_self, dopt, dbound, gt_iff_lt, dStrBin, plainR_s, Int.reduceLE, Int.reduceToNat, dp5, ia81, len81, sl81, szU8, takeM, and_w, or_w, ib_eql, ib_lss, ib_gtr]
    | (refine drW_intro (by kernel_rfl) ?_)
    | (refine gw_intro (fun h => ?_) (fun h => ?_) <;> (try simp only [beq_true, beq_false, Bool.not_eq_eq_eq_not, Bool.not_true, Bool.not_false, Bool.not_not, decide_eq_true_eq, decide_eq_false_iff_not, ge_iff_le, gt_iff_lt] at h)))
                clear hd1 hd8 hd28 hd16 hc1 hc2 hc2b t1 t2 q8 q16 hb1 hb8 hb28 hb16 l1N l2N
                refine loopH (IV zs r3.length) (fun st => slotL st 0) ?_ ?_
                · refine ⟨r3, ?_, OK3, Nat.le_refl _, V3, ?_, ?_⟩
                  all_goals simp only [*, put_slot, put_room, dem_slot, dem_room, ↓reduceIte, Nat.reduceEqDiff, reduceCtorEq]
                · rintro st' K' ⟨ps, h0', OKF, BP, VF, h2', hr2'⟩ hn' hx' hr'
                  clear h2 hr2
                  have lPN : (ps.map (D.int .u8)).length = ps.length := List.length_map ..
                  have BF : Hd (ps.length ≤ rs.length) := by
                    have h1 : ps.length ≤ r3.length := BP
                    have h2 : r3.length < rs.length := B3
                    exact Nat.le_trans h1 (Nat.le_of_lt h2)
                  have BL : Hd (ps.length < rs.length) := by
                    have h1 : ps.length ≤ r3.length := BP
                    have h2 : r3.length < rs.length := B3
                    exact Nat.lt_of_le_of_lt h1 h2
                  by_cases q32 : (32 : Int) < ps.length
                  · have okp : BytesOK ps := OKF
                    have vp : validB ps = validB zs := VF
                    have k1 : (8 : Int) ≤ ps.length := by omega
                    have k2 : (16 : Int) ≤ ps.length := by omega
                    have k3 : (24 : Int) ≤ ps.length := by omega
                    have k4 : (32 : Int) ≤ ps.length := by omega
                    have hd8 := map_drop ps 8
                    have hd16 := map_drop ps 16
                    have hd24 := map_drop ps 24
                    have hd32 := map_drop ps 32
                    have c0 := word_L (chk := chk) ps okp (by omega)
                    have c1 := word_L (chk := chk) (ps.drop 8) (okp.drop 8) (by rw [List.length_drop]; omega)
                    have c2 := word_L (chk := chk) (ps.drop 16) (okp.drop 16) (by rw [List.length_drop]; omega)
                    have c3 := word_L (chk := chk) (ps.drop 24) (okp.drop 24) (by rw [List.length_drop]; omega)
                    cases t4 : (bits .and .u64 (bits .or .u64 (bits .or .u64 (wordL ps : Nat) (wordL (ps.drop 8) : Nat)) (bits .or .u64 (wordL (ps.drop 16) : Nat) (wordL (ps.drop 24) : Nat))) 9259542123273814144 == 0) with
                    | false =>
                      clear okp vp
                      repeat' (first
    | simp only [*, go_nil, go_seq, go_cond, go_exit, go_xcode, go_draw, go_dops1, go_dops, okG_some, gwD_bool, cwD_bool, gw_true, gw_false, guardG, opD, isPtr, isStore, inB, sval, stake, eats, eaters, get, cval, cval1, croom, St.taken, put_slot, put_room, dem_none, ↓reduceIte, Nat.reduceEqDiff, Nat.reduceLT, reduceCtorEq, decide_true, List.filterMap_cons, List.filterMap_nil, Option.bind_some, Option.map_some, Option.bind_none, Option.map_none, List.getElem?_cons_zero, List.getElem?_cons_succ, List.contains_cons, List.contains_nil, List.map_cons, List.map_nil, beq_self_eq_true, Bool.or_false, Bool.and_true, Bool.false_eq_true, dbin, frz11, frzOf_def, frz_nil, isLocal, allocKey, isAlloc, pureB, leaf, leafN, List.all_cons, List.all_nil, List.nil_append, List.append_nil, List.find?_cons, List.find?_nil, true_and, dopt, dbound, gt_iff_lt, dStrBin, plainR_s, Int.reduceLE, Int.reduceToNat, len81, sl81, szU8, takeM, and_w, or_w, ib_eql, ib_gtr]
    | (refine drW_intro (by kernel_rfl) ?_)
    | (refine gw_intro (fun h => ?_) (fun h => ?_) <;> (try simp only [beq_true, beq_false, Bool.not_eq_eq_eq_not, Bool.not_true, Bool.not_false, Bool.not_not, decide_eq_true_eq, decide_eq_false_iff_not, ge_iff_le, gt_iff_lt] at h)))
                      refine hx' _ _ ?_
                      repeat' (first
    | simp only [*, go_nil, go_exit, go_xcode, go_xblk, ↓reduceIte]
    | (refine drW_intro (by kernel_rfl) ?_)
    | (refine gw_intro (fun h => ?_) (fun h => ?_) <;> (try simp only [beq_true, beq_false, Bool.not_eq_eq_eq_not, Bool.not_true, Bool.not_false, Bool.not_not, decide_eq_true_eq, decide_eq_false_iff_not, ge_iff_le, gt_iff_lt] at h)))
                      refine hn _ ⟨ps, ?_, OKF, ?_, VF, ?_, ?_⟩ ?_
                      · simp only [*, put_slot, ↓reduceIte, reduceCtorEq]
                      · exact Nat.le_trans (show (ps).length ≤ rs.length from BF) (show rs.length ≤ zs.length from hle)
                      · simp only [*, put_slot, ↓reduceIte, Nat.reduceEqDiff]
                      · simp only [*, put_room, ↓reduceIte, Nat.reduceEqDiff]
                      · have : (ps).length < rs.length := BL
                        simp only [slotL, *, put_slot, ↓reduceIte, reduceCtorEq]
                        first | done | omega
                    | true =>
                      have N1 := Hd.mk (show BytesOK (ps.drop 32) from okp.drop 32)
                      have N2 := Hd.mk (show (ps.drop 32).length ≤ r3.length by have h1 : ps.length ≤ r3.length := BP; rw [List.length_drop]; omega)
                      have N3 := Hd.mk (show validB (ps.drop 32) = validB zs by rw [validB_skip 32 ps (by omega) (low4 okp (by omega) t4), vp])
                      have N4 := Hd.mk (show (ps.drop 32).length < ps.length by rw [List.length_drop]; omega)
                      have N5 : ((ps.drop 32).map (D.int .u8)).length = (ps.drop 32).length := List.length_map ..
                      clear okp vp
                      repeat' (first
    | simp only [*, go_nil, go_seq, go_cond, go_block, go_blk, go_skip, go_region, go_draw, go_ops_nil, go_ops, go_dops1, go_dops, okG_some, gwD_bool, cwD_bool, gw_true, guardG, opG, opD, isPtr, isStore, inB, sval, stake, eats, eaters, get, cval, cval1, croom, St.taken, put_slot, put_room, dem_none, ↓reduceIte, Nat.reduceEqDiff, Nat.reduceLT, reduceCtorEq, decide_true, List.filterMap_cons, List.filterMap_nil, Option.bind_some, Option.map_some, Option.bind_none, Option.map_none, List.getElem?_cons_zero, List.getElem?_cons_succ, List.contains_cons, List.contains_nil, List.map_cons, List.map_nil, beq_self_eq_true, Bool.or_false, Bool.and_true, Nat.reduceBEq, Bool.false_eq_true, dbin, row11, frz11, frzOf_def, frz_nil, isLocal, allocKey, isAlloc, pureB, leaf, leafN, List.all_cons, List.all_nil, List.nil_append, List.append_nil, List.find?_cons, List.find?_nil, true_and, dopt, dbound, gt_iff_lt, dStrBin, plainR_s, Int.reduceLE, Int.reduceToNat, len81, sl81, szU8, takeM, and_w, or_w, ib_eql, ib_gtr]
    | (refine drW_intro (by kernel_rfl) ?_)
    | (refine gw_intro (fun h => ?_) (fun h => ?_) <;> (try simp only [beq_true, beq_false, Bool.not_eq_eq_eq_not, Bool.not_true, Bool.not_false, Bool.not_not, decide_eq_true_eq, decide_eq_false_iff_not, ge_iff_le, gt_iff_lt] at h)))
                      refine hn' _ ⟨ps.drop 32, ?_, N1, N2, N3, ?_, ?_⟩ ?_
                      · simp only [*, put_slot, ↓reduceIte]
                      · simp only [*, put_slot, dem_slot, ↓reduceIte, Nat.reduceEqDiff, reduceCtorEq]
                      · simp only [*, put_room, dem_room, ↓reduceIte, Nat.reduceEqDiff, reduceCtorEq]
                      · have : (ps.drop 32).length < ps.length := N4
                        simp only [slotL, *, put_slot, ↓reduceIte]
                  · repeat' (first
    | simp only [*, go_nil, go_seq, go_cond, go_exit, go_xcode, go_draw, go_dops1, go_dops, okG_some, gwD_bool, cwD_bool, gw_false, guardG, opD, isPtr, isStore, inB, sval, stake, eats, eaters, get, cval, cval1, croom, St.taken, put_slot, put_room, dem_none, ↓reduceIte, Nat.reduceEqDiff, Nat.reduceLT, decide_true, decide_false, List.filterMap_cons, List.filterMap_nil, Option.bind_some, Option.map_some, Option.bind_none, Option.map_none, List.getElem?_cons_zero, List.getElem?_cons_succ, List.contains_cons, List.contains_nil, List.map_cons, List.map_nil, Bool.or_false, Bool.false_eq_true, dbin, frz11, frzOf_def, frz_nil, isLocal, allocKey, isAlloc, beq_true, List.nil_append, List.find?_cons, List.find?_nil, gt_iff_lt, dStrBin, len81, ib_gtr]
    | (refine drW_intro (by kernel_rfl) ?_)
    | (refine gw_intro (fun h => ?_) (fun h => ?_) <;> (try simp only [beq_true, beq_false, Bool.not_eq_eq_eq_not, Bool.not_true, Bool.not_false, Bool.not_not, decide_eq_true_eq, decide_eq_false_iff_not, ge_iff_le, gt_iff_lt] at h)))
                    refine hx' _ _ ?_
                    repeat' (first
    | simp only [*, go_nil, go_exit, go_xcode, go_xblk, ↓reduceIte]
    | (refine drW_intro (by kernel_rfl) ?_)
    | (refine gw_intro (fun h => ?_) (fun h => ?_) <;> (try simp only [beq_true, beq_false, Bool.not_eq_eq_eq_not, Bool.not_true, Bool.not_false, Bool.not_not, decide_eq_true_eq, decide_eq_false_iff_not, ge_iff_le, gt_iff_lt] at h)))
                    refine hn _ ⟨ps, ?_, OKF, ?_, VF, ?_, ?_⟩ ?_
                    · simp only [*, put_slot, ↓reduceIte, reduceCtorEq]
                    · exact Nat.le_trans (show (ps).length ≤ rs.length from BF) (show rs.length ≤ zs.length from hle)
                    · simp only [*, put_slot, ↓reduceIte, Nat.reduceEqDiff]
                    · simp only [*, put_room, ↓reduceIte, Nat.reduceEqDiff]
                    · have : (ps).length < rs.length := BL
                      simp only [slotL, *, put_slot, ↓reduceIte, reduceCtorEq]
                      first | done | omega
            · have OKF := Hd.mk ok2; have VF := Hd.mk v2; have BF := Hd.mk (show r2.length ≤ rs.length by omega); have BL := Hd.mk (show r2.length < rs.length by omega)
              clear er1 er2 ok1 ok2 v1 v2 b1 b2 ok0 v0 hpos e0 hok hv
              repeat' (first
    | simp only [*, go_nil, go_seq, go_cond, go_block, go_skip, go_exit, go_xcode, go_xblk, go_region, go_draw, go_ops_nil, go_ops, go_dops1, go_dops, okG_some, gwD_bool, cwD_bool, gw_true, gw_false, guardG, opG, opD, isPtr, isStore, inB, sval, stake, eats, eaters, get, cval, cval1, croom, St.taken, put_slot, put_room, dem_none, dem_slot, dem_room, setBox_slot, setBox_room, ↓reduceIte, Nat.reduceEqDiff, Nat.reduceLT, reduceCtorEq, decide_true, decide_false, List.filterMap_cons, List.filterMap_nil, Option.bind_some, Option.map_some, Option.bind_none, Option.map_none, List.getElem?_cons_zero, List.getElem?_cons_succ, List.contains_cons, List.contains_nil, List.map_cons, List.map_nil, beq_self_eq_true, Bool.or_false, Bool.and_true, Nat.reduceBEq, Bool.false_eq_true, dbin, okR, callG, row11, frz11, frzOf_def, frz_nil, isLocal, allocKey, isAlloc, beq_true, pureB, leaf, leafN, List.all_cons, List.all_nil, List.nil_append, List.append_nil, List.length_nil, List.length_cons, List.find?_cons, List.find?_nil, dcells, Nat.zero_add, true_and, and_self, dopt, dbound, gt_iff_lt, dStrBin, Int.reduceLE, Int.reduceToNat, dp5, ia81, len81, sl81, szU8, takeM, and_w, ib_eql, ib_lss, ib_gtr]
    | (refine drW_intro (by kernel_rfl) ?_)
    | (refine gw_intro (fun h => ?_) (fun h => ?_) <;> (try simp only [beq_true, beq_false, Bool.not_eq_eq_eq_not, Bool.not_true, Bool.not_false, Bool.not_not, decide_eq_true_eq, decide_eq_false_iff_not, ge_iff_le, gt_iff_lt] at h)))
              refine hn _ ⟨r2, ?_, OKF, ?_, VF, ?_, ?_⟩ ?_
              · simp only [*, put_slot, ↓reduceIte, reduceCtorEq]
              · exact Nat.le_trans (show (r2).length ≤ rs.length from BF) (show rs.length ≤ zs.length from hle)
              · simp only [*, put_slot, dem_slot, ↓reduceIte, Nat.reduceEqDiff, reduceCtorEq]
              · simp only [*, put_room, dem_room, ↓reduceIte, Nat.reduceEqDiff, reduceCtorEq]
              · have : (r2).length < rs.length := BL
                simp only [slotL, *, put_slot, ↓reduceIte, reduceCtorEq]
                first | done | omega
        · have OKF := Hd.mk ok1; have VF := Hd.mk v1; have BF := Hd.mk (show r1.length ≤ rs.length by omega); have BL := Hd.mk (show r1.length < rs.length by omega)
          clear er1 ok1 v1 b1 ok0 v0 hpos e0 hok hv
          repeat' (first
    | simp only [*, go_nil, go_seq, go_cond, go_block, go_skip, go_exit, go_xcode, go_xblk, go_region, go_ops_nil, go_ops, okG_some, gwD_bool, cwD_bool, gw_true, gw_false, guardG, opG, isPtr, inB, sval, stake, eats, eaters, get, cval, cval1, croom, St.taken, put_slot, put_room, dem_none, dem_slot, dem_room, setBox_slot, setBox_room, ↓reduceIte, Nat.reduceEqDiff, Nat.reduceLT, reduceCtorEq, decide_true, decide_false, List.filterMap_cons, List.filterMap_nil, Option.bind_some, Option.map_some, Option.map_none, List.getElem?_cons_zero, List.getElem?_cons_succ, List.contains_cons, List.contains_nil, List.map_cons, List.map_nil, Bool.or_false, Nat.reduceBEq, Bool.false_eq_true, dbin, okR, callG, row11, frz11, frzOf_def, frz_nil, beq_true, List.nil_append, List.length_nil, List.length_cons, dcells, Nat.zero_add, true_and, and_self, dopt, dbound, gt_iff_lt, dStrBin, Int.reduceLE, Int.reduceToNat, dp5, ia81, len81, sl81, szU8, takeM, ib_lss, ib_gtr]
    | (refine drW_intro (by kernel_rfl) ?_)
    | (refine gw_intro (fun h => ?_) (fun h => ?_) <;> (try simp only [beq_true, beq_false, Bool.not_eq_eq_eq_not, Bool.not_true, Bool.not_false, Bool.not_not, decide_eq_true_eq, decide_eq_false_iff_not, ge_iff_le, gt_iff_lt] at h)))
          refine hn _ ⟨r1, ?_, OKF, ?_, VF, ?_, ?_⟩ ?_
          · simp only [*, put_slot, ↓reduceIte, reduceCtorEq]
          · exact Nat.le_trans (show (r1).length ≤ rs.length from BF) (show rs.length ≤ zs.length from hle)
          · simp only [*, put_slot, dem_slot, ↓reduceIte, Nat.reduceEqDiff, reduceCtorEq]
          · simp only [*, put_room, dem_room, ↓reduceIte, Nat.reduceEqDiff, reduceCtorEq]
          · have : (r1).length < rs.length := BL
            simp only [slotL, *, put_slot, ↓reduceIte, reduceCtorEq]
            first | done | omega
      · obtain ⟨F, q, lo, hi, s, hf, hand, hshr, hq, hacc, hcase⟩ := cls x0 (by omega) n0
        have hq0 : (q : Int) < 16 := by omega
        have W1 := wi1; have W2' := wi2; have W3 := wi3; have W4 := wi4
        have hin : 0 ≤ x0 ∧ x0 < 256 := ⟨m0, n0⟩
        rcases hcase with ⟨rfl, c⟩ | ⟨rfl, c1, c2, rfl, rfl⟩ | ⟨rfl, c1, c2, el, eh⟩ | ⟨rfl, c1, c2, el, eh⟩
        · have T : validB zs = false := by rw [← v0]; exact v0_bad hpos (by rw [e0]; omega) (by rw [e0]; exact c)
          clear ok0 v0 hpos e0 hok hv c hin
          repeat' (first
    | simp only [*, go_seq, go_cond, go_block, go_skip, go_retc, go_region, go_ops_nil, go_ops, okG_some, okB_some, cwD_bool, gw_true, gw_false, guardG, opG, isPtr, inB, sval, stake, eats, eaters, get, cval, cval1, croom, St.taken, put_slot, put_room, put_box, put_ctr, put_none, dem_none, dem_slot, dem_ctr, setBox_slot, setBox_room, setBox_box, ↓reduceIte, Nat.reduceEqDiff, Nat.reduceLT, Nat.reduceLeDiff, reduceCtorEq, decide_true, decide_false, List.filterMap_cons, List.filterMap_nil, Option.map_some, List.getElem?_cons_zero, List.contains_cons, List.contains_nil, List.map_cons, List.map_nil, Bool.or_false, Bool.and_true, Nat.reduceBEq, Bool.false_eq_true, dbin, row11, frz11, frzOf_def, frz_nil, pureB, leaf, leafN, List.all_cons, List.all_nil, List.nil_append, List.append_nil, List.length_nil, List.length_cons, List.take_zero, List.drop_zero, List.drop_succ_cons, dcells, Nat.zero_add, Nat.reduceAdd, stepBox, Int.natCast_nonneg, Int.toNat_natCast, and_self, Nat.mul_one, gt_iff_lt, Int.reduceLE, Int.reduceToNat, Int.reduceBEq, dp5, ia81, len81, frz11b, ty126, ia124, ia127, cv53, zr126, and_8, ib_eql, ib_lss, ib_gtr, gl2, gl3]
    | (refine drW_intro (by kernel_rfl) ?_)
    | (refine gw_intro (fun h => ?_) (fun h => ?_) <;> (try simp only [beq_true, beq_false, Bool.not_eq_eq_eq_not, Bool.not_true, Bool.not_false, Bool.not_not, decide_eq_true_eq, decide_eq_false_iff_not, ge_iff_le, gt_iff_lt] at h)))
          refine hr _ ?_
          repeat' (first
    | simp only [*, put_slot, put_room, put_box, dem_box, setBox_box, endQ, endR, endV, rvars, rvar, room1, ↓reduceIte, List.map_nil, pureB, leaf, leafN, List.take_nil, List.range_zero, and_self]
    | (refine drW_intro (by kernel_rfl) ?_)
    | (refine gw_intro (fun h => ?_) (fun h => ?_) <;> (try simp only [beq_true, beq_false, Bool.not_eq_eq_eq_not, Bool.not_true, Bool.not_false, Bool.not_not, decide_eq_true_eq, decide_eq_false_iff_not, ge_iff_le, gt_iff_lt] at h)))
        · by_cases hl2 : rs.length < 2
          · have ll : (rs.length : Int) < 2 := by omega
            have T : validB zs = false := by rw [← v0]; exact v2_bad hpos (by rw [e0]; omega) (by rw [e0]; omega) (.inl hl2)
            clear ok0 v0 hpos e0 hok hv c1 c2 hin hl2
            repeat' (first
    | simp only [*, go_seq, go_cond, go_block, go_skip, go_retc, go_region, go_draw, go_ops_nil, go_ops, go_dops1, go_dops, okG_some, okB_some, gwD_bool, cwD_bool, gw_true, gw_false, guardG, opG, opD, isPtr, isStore, inB, sval, stake, eats, eaters, get, cval, cval1, croom, St.taken, put_slot, put_room, put_box, put_ctr, put_none, dem_none, dem_slot, dem_ctr, dem_room, setBox_slot, setBox_room, setBox_box, ↓reduceIte, Nat.reduceEqDiff, Nat.reduceLT, Nat.reduceLeDiff, reduceCtorEq, decide_true, decide_false, List.filterMap_cons, List.filterMap_nil, Option.bind_some, Option.map_some, Option.bind_none, List.getElem?_cons_zero, List.getElem?_cons_succ, List.contains_cons, List.contains_nil, List.map_cons, List.map_nil, beq_self_eq_true, Bool.or_false, Bool.and_true, Nat.reduceBEq, Bool.false_eq_true, dbin, row11, frz11, frzOf_def, frz_nil, isLocal, allocKey, isAlloc, loadsOwn, beq_false, Bool.not_true, pureB, leaf, leafN, List.all_cons, List.all_nil, List.nil_append, List.append_nil, List.length_nil, List.length_cons, List.find?_cons, List.find?_nil, List.take_zero, List.drop_zero, List.drop_succ_cons, dcells, Nat.zero_add, Nat.reduceAdd, stepBox, Int.natCast_nonneg, Int.toNat_natCast, and_self, Nat.mul_one, gt_iff_lt, dStrBin, Int.reduceLE, Int.reduceToNat, dp5, ia81, len81, frz11b, ty126, ia124, ia127, cv53, zr126, and_8, ib_eql, ib_lss, ib_gtr, gl2, gl3]
    | (refine drW_intro (by kernel_rfl) ?_)
    | (refine gw_intro (fun h => ?_) (fun h => ?_) <;> (try simp only [beq_true, beq_false, Bool.not_eq_eq_eq_not, Bool.not_true, Bool.not_false, Bool.not_not, decide_eq_true_eq, decide_eq_false_iff_not, ge_iff_le, gt_iff_lt] at h)))
            refine hr _ ?_
            repeat' (first
    | simp only [*, put_slot, put_room, put_box, dem_box, setBox_box, endQ, endR, endV, rvars, rvar, room1, ↓reduceIte, List.map_nil, pureB, leaf, leafN, List.take_nil, List.range_zero, and_self]
    | (refine drW_intro (by kernel_rfl) ?_)
    | (refine gw_intro (fun h => ?_) (fun h => ?_) <;> (try simp only [beq_true, beq_false, Bool.not_eq_eq_eq_not, Bool.not_true, Bool.not_false, Bool.not_not, decide_eq_true_eq, decide_eq_false_iff_not, ge_iff_le, gt_iff_lt] at h)))
          · have ll : ¬ (rs.length : Int) < 2 := by omega
            have i1 : (1 : Int) < rs.length := by omega
            obtain ⟨x1, e1, m1, n1, g1⟩ := BytesOK.get ok0 (show 1 < rs.length by omega)
            by_cases a1 : x1 < 128
            · have T : validB zs = false := by rw [← v0]; exact v2_bad hpos (by rw [e0]; omega) (by rw [e0]; omega) (.inr (by rw [e1]; unfold C1; omega))
              clear ok0 v0 hpos e0 e1 hok hv c1 c2 hin hl2
              repeat' (first
    | simp only [*, go_seq, go_cond, go_block, go_skip, go_retc, go_region, go_draw, go_ops_nil, go_ops, go_dops1, go_dops, okG_some, okB_some, gwD_bool, cwD_bool, gw_true, gw_false, guardG, opG, opD, isPtr, isStore, inB, sval, stake, eats, eaters, get, cval, cval1, croom, St.taken, put_slot, put_room, put_box, put_ctr, put_none, dem_none, dem_slot, dem_box, dem_ctr, dem_room, setBox_slot, setBox_room, setBox_box, ↓reduceIte, Nat.reduceEqDiff, Nat.reduceLT, Nat.reduceLeDiff, reduceCtorEq, decide_true, decide_false, List.filterMap_cons, List.filterMap_nil, Option.bind_some, Option.map_some, Option.bind_none, List.getElem?_cons_zero, List.getElem?_cons_succ, List.contains_cons, List.contains_nil, List.map_cons, List.map_nil, beq_self_eq_true, beq_iff_eq, Bool.or_false, Bool.and_true, Nat.reduceBEq, Bool.false_eq_true, dbin, row11, frz11, frzOf_def, frz_nil, isLocal, allocKey, isAlloc, loadsOwn, beq_false, Bool.not_true, pureB, leaf, leafN, List.all_cons, List.all_nil, List.nil_append, List.append_nil, List.length_nil, List.length_cons, List.find?_cons, List.find?_nil, List.take_zero, List.drop_zero, List.drop_succ_cons, dcells, Nat.zero_add, Nat.reduceAdd, stepBox, Int.natCast_nonneg, Int.toNat_natCast, and_self, Nat.mul_one, Nat.add_zero, gt_iff_lt, dStrBin, Int.reduceLE, Int.reduceToNat, dp5, ia81, len81, frz11b, ty126, fap0, ia124, ia127, cv53, zr126, and_8, ib_eql, ib_lss, ib_gtr, gl2, gl3]
    | (refine drW_intro (by kernel_rfl) ?_)
    | (refine gw_intro (fun h => ?_) (fun h => ?_) <;> (try simp only [beq_true, beq_false, Bool.not_eq_eq_eq_not, Bool.not_true, Bool.not_false, Bool.not_not, decide_eq_true_eq, decide_eq_false_iff_not, ge_iff_le, gt_iff_lt] at h)))
              refine hr _ ?_
              repeat' (first
    | simp only [*, put_slot, put_room, put_box, dem_box, setBox_box, endQ, endR, endV, rvars, rvar, room1, ↓reduceIte, List.map_nil, pureB, leaf, leafN, List.take_nil, List.range_zero, and_self]
    | (refine drW_intro (by kernel_rfl) ?_)
    | (refine gw_intro (fun h => ?_) (fun h => ?_) <;> (try simp only [beq_true, beq_false, Bool.not_eq_eq_eq_not, Bool.not_true, Bool.not_false, Bool.not_not, decide_eq_true_eq, decide_eq_false_iff_not, ge_iff_le, gt_iff_lt] at h)))
            · have ua1 := Hd.mk a1
              by_cases a2 : 191 < x1
              · have T : validB zs = false := by rw [← v0]; exact v2_bad hpos (by rw [e0]; omega) (by rw [e0]; omega) (.inr (by rw [e1]; unfold C1; omega))
                clear ok0 v0 hpos e0 e1 hok hv c1 c2 hin hl2
                repeat' (first
    | simp only [*, go_seq, go_cond, go_block, go_skip, go_retc, go_region, go_draw, go_ops_nil, go_ops, go_dops1, go_dops, okG_some, okB_some, gwD_bool, cwD_bool, gw_true, gw_false, guardG, opG, opD, isPtr, isStore, inB, sval, stake, eats, eaters, get, cval, cval1, croom, St.taken, put_slot, put_room, put_box, put_ctr, put_none, dem_none, dem_slot, dem_box, dem_ctr, dem_room, setBox_slot, setBox_room, setBox_box, ↓reduceIte, Nat.reduceEqDiff, Nat.reduceLT, Nat.reduceLeDiff, reduceCtorEq, decide_true, decide_false, List.filterMap_cons, List.filterMap_nil, Option.bind_some, Option.map_some, Option.bind_none, List.getElem?_cons_zero, List.getElem?_cons_succ, List.contains_cons, List.contains_nil, List.map_cons, List.map_nil, beq_self_eq_true, beq_iff_eq, Bool.or_false, Bool.and_true, Nat.reduceBEq, Bool.false_eq_true, dbin, row11, frz11, frzOf_def, frz_nil, isLocal, allocKey, isAlloc, loadsOwn, pureB, leaf, leafN, List.all_cons, List.all_nil, List.nil_append, List.append_nil, List.length_nil, List.length_cons, List.find?_cons, List.find?_nil, List.take_zero, List.drop_zero, List.drop_succ_cons, dcells, Nat.zero_add, Nat.reduceAdd, stepBox, Int.natCast_nonneg, Int.toNat_natCast, and_self, Nat.mul_one, Nat.add_zero, gt_iff_lt, dStrBin, Int.reduceLE, Int.reduceToNat, dp5, ia81, len81, frz11b, ty126, fap0, fap1, ia124, ia127, cv53, zr126, and_8, ib_eql, ib_lss, ib_gtr, gl2, gl3]
    | (refine drW_intro (by kernel_rfl) ?_)
    | (refine gw_intro (fun h => ?_) (fun h => ?_) <;> (try simp only [beq_true, beq_false, Bool.not_eq_eq_eq_not, Bool.not_true, Bool.not_false, Bool.not_not, decide_eq_true_eq, decide_eq_false_iff_not, ge_iff_le, gt_iff_lt] at h)))
                refine hr _ ?_
                repeat' (first
    | simp only [*, put_slot, put_room, put_box, dem_box, setBox_box, endQ, endR, endV, rvars, rvar, room1, ↓reduceIte, List.map_nil, pureB, leaf, leafN, List.take_nil, List.range_zero, and_self]
    | (refine drW_intro (by kernel_rfl) ?_)
    | (refine gw_intro (fun h => ?_) (fun h => ?_) <;> (try simp only [beq_true, beq_false, Bool.not_eq_eq_eq_not, Bool.not_true, Bool.not_false, Bool.not_not, decide_eq_true_eq, decide_eq_false_iff_not, ge_iff_le, gt_iff_lt] at h)))
              · have ua2 := Hd.mk a2
                have hb : (2 : Int) ≤ rs.length := by omega
                have hd := map_drop rs 2
                have OKF := Hd.mk (show BytesOK (rs.drop 2) from ok0.drop 2)
                have VF := Hd.mk (show validB (rs.drop 2) = validB zs by rw [v2_ok (by omega) (by rw [e0, e1]; unfold W2; omega), v0])
                have BF := Hd.mk (show (rs.drop 2).length ≤ rs.length by rw [List.length_drop]; omega)
                have BL := Hd.mk (show (rs.drop 2).length < rs.length by rw [List.length_drop]; omega)
                have lD : ((rs.drop 2).map (D.int .u8)).length = (rs.drop 2).length := List.length_map ..
                clear ok0 v0 hpos e0 e1 hok hv c1 c2 hin hl2
                repeat' (first
    | simp only [*, go_nil, go_seq, go_cond, go_block, go_blk, go_skip, go_region, go_draw, go_ops_nil, go_ops, go_dops1, go_dops, okG_some, okB_some, gwD_bool, cwD_bool, gw_true, gw_false, guardG, opG, opD, isPtr, isStore, inB, sval, stake, eats, eaters, get, cval, cval1, croom, St.taken, put_slot, put_room, put_box, put_ctr, put_none, dem_none, dem_slot, dem_box, dem_ctr, dem_room, setBox_slot, setBox_room, setBox_box, ↓reduceIte, Nat.reduceEqDiff, Nat.reduceLT, Nat.reduceLeDiff, reduceCtorEq, decide_true, decide_false, List.filterMap_cons, List.filterMap_nil, Option.bind_some, Option.map_some, Option.bind_none, Option.map_none, List.getElem?_cons_zero, List.getElem?_cons_succ, List.contains_cons, List.contains_nil, List.map_cons, List.map_nil, beq_self_eq_true, beq_iff_eq, Bool.or_false, Bool.and_true, Nat.reduceBEq, Bool.false_eq_true, dbin, row11, frz11, frzOf_def, frz_nil, isLocal, allocKey, isAlloc, loadsOwn, pureB, leaf, leafN, List.all_cons, List.all_nil, List.nil_append, List.append_nil, List.length_nil, List.length_cons, List.find?_cons, List.find?_nil, List.take_zero, List.drop_zero, List.drop_succ_cons, dcells, Nat.zero_add, Nat.reduceAdd, stepBox, true_and, Int.natCast_nonneg, Int.toNat_natCast, and_self, Nat.mul_one, Nat.add_zero, dopt, dbound, gt_iff_lt, dStrBin, Int.reduceLE, Int.reduceToNat, dp5, ia81, len81, sl81, frz11b, ty126, fap0, fap1, ia124, ia127, cv53, zr126, szU8, takeM, and_8, ib_eql, ib_lss, ib_gtr, gl2, gl3]
    | (refine drW_intro (by kernel_rfl) ?_)
    | (refine gw_intro (fun h => ?_) (fun h => ?_) <;> (try simp only [beq_true, beq_false, Bool.not_eq_eq_eq_not, Bool.not_true, Bool.not_false, Bool.not_not, decide_eq_true_eq, decide_eq_false_iff_not, ge_iff_le, gt_iff_lt] at h)))
                refine hn _ ⟨rs.drop 2, ?_, OKF, ?_, VF, ?_, ?_⟩ ?_
                · simp only [*, put_slot, ↓reduceIte]
                · exact Nat.le_trans (show (rs.drop 2).length ≤ rs.length from BF) (show rs.length ≤ zs.length from hle)
                · simp only [*, put_slot, dem_slot, setBox_slot, ↓reduceIte, Nat.reduceEqDiff, reduceCtorEq]
                · simp only [*, put_room, dem_room, setBox_room, ↓reduceIte, Nat.reduceEqDiff, reduceCtorEq]
                · have : (rs.drop 2).length < rs.length := BL
                  simp only [slotL, *, put_slot, ↓reduceIte]
                  first | done | omega
        · by_cases hl3 : rs.length < 3
          · have ll : (rs.length : Int) < 3 := by omega
            have T : validB zs = false := by rw [← v0]; exact v3_bad hpos (by rw [e0]; omega) (by rw [e0]; omega) (.inl hl3)
            clear ok0 v0 hpos e0 hok hv c1 c2 hin hl3 el eh
            repeat' (first
    | simp only [*, go_seq, go_cond, go_block, go_skip, go_retc, go_region, go_draw, go_ops_nil, go_ops, go_dops1, go_dops, okG_some, okB_some, gwD_bool, cwD_bool, gw_true, gw_false, guardG, opG, opD, isPtr, isStore, inB, sval, stake, eats, eaters, get, cval, cval1, croom, St.taken, put_slot, put_room, put_box, put_ctr, put_none, dem_none, dem_slot, dem_ctr, dem_room, setBox_slot, setBox_room, setBox_box, ↓reduceIte, Nat.reduceEqDiff, Nat.reduceLT, Nat.reduceLeDiff, reduceCtorEq, decide_true, decide_false, List.filterMap_cons, List.filterMap_nil, Option.bind_some, Option.map_some, Option.bind_none, List.getElem?_cons_zero, List.getElem?_cons_succ, List.contains_cons, List.contains_nil, List.map_cons, List.map_nil, beq_self_eq_true, Bool.or_false, Bool.and_true, Nat.reduceBEq, Bool.false_eq_true, dbin, row11, frz11, frzOf_def, frz_nil, isLocal, allocKey, isAlloc, loadsOwn, beq_false, Bool.not_true, pureB, leaf, leafN, List.all_cons, List.all_nil, List.nil_append, List.append_nil, List.length_nil, List.length_cons, List.find?_cons, List.find?_nil, List.take_zero, List.drop_zero, List.drop_succ_cons, dcells, Nat.zero_add, Nat.reduceAdd, stepBox, Int.natCast_nonneg, Int.toNat_natCast, and_self, Nat.mul_one, gt_iff_lt, dStrBin, Int.reduceLE, Int.reduceToNat, Int.reduceBEq, dp5, ia81, len81, frz11b, ty126, ia124, ia127, cv53, zr126, and_8, ib_eql, ib_lss, ib_gtr, gl2, gl3]
    | (refine drW_intro (by kernel_rfl) ?_)
    | (refine gw_intro (fun h => ?_) (fun h => ?_) <;> (try simp only [beq_true, beq_false, Bool.not_eq_eq_eq_not, Bool.not_true, Bool.not_false, Bool.not_not, decide_eq_true_eq, decide_eq_false_iff_not, ge_iff_le, gt_iff_lt] at h)))
            refine hr _ ?_
            repeat' (first
    | simp only [*, put_slot, put_room, put_box, dem_box, setBox_box, endQ, endR, endV, rvars, rvar, room1, ↓reduceIte, List.map_nil, pureB, leaf, leafN, List.take_nil, List.range_zero, and_self]
    | (refine drW_intro (by kernel_rfl) ?_)
    | (refine gw_intro (fun h => ?_) (fun h => ?_) <;> (try simp only [beq_true, beq_false, Bool.not_eq_eq_eq_not, Bool.not_true, Bool.not_false, Bool.not_not, decide_eq_true_eq, decide_eq_false_iff_not, ge_iff_le, gt_iff_lt] at h)))
          · have ll : ¬ (rs.length : Int) < 3 := by omega
            have i1 : (1 : Int) < rs.length := by omega
            obtain ⟨x1, e1, m1, n1, g1⟩ := BytesOK.get ok0 (show 1 < rs.length by omega)
            have i2 : (2 : Int) < rs.length := by omega
            obtain ⟨x2, e2, m2, n2, g2⟩ := BytesOK.get ok0 (show 2 < rs.length by omega)
            by_cases a1 : x1 < lo
            · have T : validB zs = false := by rw [← v0]; exact v3_bad hpos (by rw [e0]; omega) (by rw [e0]; omega) (.inr (.inl (by rw [e0, e1, ← el]; exact a1)))
              clear ok0 v0 hpos e0 e1 e2 hok hv c1 c2 hin hl3 el eh
              repeat' (first
    | simp only [*, go_seq, go_cond, go_block, go_skip, go_retc, go_region, go_draw, go_ops_nil, go_ops, go_dops1, go_dops, okG_some, okB_some, gwD_bool, cwD_bool, gw_true, gw_false, guardG, opG, opD, isPtr, isStore, inB, sval, stake, eats, eaters, get, cval, cval1, croom, St.taken, put_slot, put_room, put_box, put_ctr, put_none, dem_none, dem_slot, dem_box, dem_ctr, dem_room, setBox_slot, setBox_room, setBox_box, ↓reduceIte, Nat.reduceEqDiff, Nat.reduceLT, Nat.reduceLeDiff, reduceCtorEq, decide_true, decide_false, List.filterMap_cons, List.filterMap_nil, Option.bind_some, Option.map_some, Option.bind_none, List.getElem?_cons_zero, List.getElem?_cons_succ, List.contains_cons, List.contains_nil, List.map_cons, List.map_nil, beq_self_eq_true, beq_iff_eq, Bool.or_false, Bool.and_true, Nat.reduceBEq, Bool.false_eq_true, dbin, row11, frz11, frzOf_def, frz_nil, isLocal, allocKey, isAlloc, loadsOwn, beq_false, Bool.not_true, pureB, leaf, leafN, List.all_cons, List.all_nil, List.nil_append, List.append_nil, List.length_nil, List.length_cons, List.find?_cons, List.find?_nil, List.take_zero, List.drop_zero, List.drop_succ_cons, dcells, Nat.zero_add, Nat.reduceAdd, stepBox, Int.natCast_nonneg, Int.toNat_natCast, and_self, Nat.mul_one, Nat.add_zero, gt_iff_lt, dStrBin, Int.reduceLE, Int.reduceToNat, Int.reduceBEq, dp5, ia81, len81, frz11b, ty126, fap0, ia124, ia127, cv53, zr126, and_8, ib_eql, ib_lss, ib_gtr, gl2, gl3]
    | (refine drW_intro (by kernel_rfl) ?_)
    | (refine gw_intro (fun h => ?_) (fun h => ?_) <;> (try simp only [beq_true, beq_false, Bool.not_eq_eq_eq_not, Bool.not_true, Bool.not_false, Bool.not_not, decide_eq_true_eq, decide_eq_false_iff_not, ge_iff_le, gt_iff_lt] at h)))
              refine hr _ ?_
              repeat' (first
    | simp only [*, put_slot, put_room, put_box, dem_box, setBox_box, endQ, endR, endV, rvars, rvar, room1, ↓reduceIte, List.map_nil, pureB, leaf, leafN, List.take_nil, List.range_zero, and_self]
    | (refine drW_intro (by kernel_rfl) ?_)
    | (refine gw_intro (fun h => ?_) (fun h => ?_) <;> (try simp only [beq_true, beq_false, Bool.not_eq_eq_eq_not, Bool.not_true, Bool.not_false, Bool.not_not, decide_eq_true_eq, decide_eq_false_iff_not, ge_iff_le, gt_iff_lt] at h)))
            · have ua1 := Hd.mk a1
              by_cases a2 : hi < x1
              · have T : validB zs = false := by rw [← v0]; exact v3_bad hpos (by rw [e0]; omega) (by rw [e0]; omega) (.inr (.inr (.inl (by rw [e0, e1, ← eh]; exact a2))))
                clear ok0 v0 hpos e0 e1 e2 hok hv c1 c2 hin hl3 el eh
                repeat' (first
    | simp only [*, go_seq, go_cond, go_block, go_skip, go_retc, go_region, go_draw, go_ops_nil, go_ops, go_dops1, go_dops, okG_some, okB_some, gwD_bool, cwD_bool, gw_true, gw_false, guardG, opG, opD, isPtr, isStore, inB, sval, stake, eats, eaters, get, cval, cval1, croom, St.taken, put_slot, put_room, put_box, put_ctr, put_none, dem_none, dem_slot, dem_box, dem_ctr, dem_room, setBox_slot, setBox_room, setBox_box, ↓reduceIte, Nat.reduceEqDiff, Nat.reduceLT, Nat.reduceLeDiff, reduceCtorEq, decide_true, decide_false, List.filterMap_cons, List.filterMap_nil, Option.bind_some, Option.map_some, Option.bind_none, List.getElem?_cons_zero, List.getElem?_cons_succ, List.contains_cons, List.contains_nil, List.map_cons, List.map_nil, beq_self_eq_true, beq_iff_eq, Bool.or_false, Bool.and_true, Nat.reduceBEq, Bool.false_eq_true, dbin, row11, frz11, frzOf_def, frz_nil, isLocal, allocKey, isAlloc, loadsOwn, beq_false, Bool.not_true, pureB, leaf, leafN, List.all_cons, List.all_nil, List.nil_append, List.append_nil, List.length_nil, List.length_cons, List.find?_cons, List.find?_nil, List.take_zero, List.drop_zero, List.drop_succ_cons, dcells, Nat.zero_add, Nat.reduceAdd, stepBox, Int.natCast_nonneg, Int.toNat_natCast, and_self, Nat.mul_one, Nat.add_zero, gt_iff_lt, dStrBin, Int.reduceLE, Int.reduceToNat, Int.reduceBEq, dp5, ia81, len81, frz11b, ty126, fap0, fap1, ia124, ia127, cv53, zr126, and_8, ib_eql, ib_lss, ib_gtr, gl2, gl3]
    | (refine drW_intro (by kernel_rfl) ?_)
    | (refine gw_intro (fun h => ?_) (fun h => ?_) <;> (try simp only [beq_true, beq_false, Bool.not_eq_eq_eq_not, Bool.not_true, Bool.not_false, Bool.not_not, decide_eq_true_eq, decide_eq_false_iff_not, ge_iff_le, gt_iff_lt] at h)))
                refine hr _ ?_
                repeat' (first
    | simp only [*, put_slot, put_room, put_box, dem_box, setBox_box, endQ, endR, endV, rvars, rvar, room1, ↓reduceIte, List.map_nil, pureB, leaf, leafN, List.take_nil, List.range_zero, and_self]
    | (refine drW_intro (by kernel_rfl) ?_)
    | (refine gw_intro (fun h => ?_) (fun h => ?_) <;> (try simp only [beq_true, beq_false, Bool.not_eq_eq_eq_not, Bool.not_true, Bool.not_false, Bool.not_not, decide_eq_true_eq, decide_eq_false_iff_not, ge_iff_le, gt_iff_lt] at h)))
              · have ua2 := Hd.mk a2
                by_cases a3 : x2 < 128
                · have T : validB zs = false := by rw [← v0]; exact v3_bad hpos (by rw [e0]; omega) (by rw [e0]; omega) (.inr (.inr (.inr (by rw [e2]; unfold C1; omega))))
                  clear ok0 v0 hpos e0 e1 e2 hok hv c1 c2 hin hl3 el eh
                  repeat' (first
    | simp only [*, go_seq, go_cond, go_block, go_skip, go_retc, go_region, go_draw, go_ops_nil, go_ops, go_dops1, go_dops, okG_some, okB_some, gwD_bool, cwD_bool, gw_true, gw_false, guardG, opG, opD, isPtr, isStore, inB, sval, stake, eats, eaters, get, cval, cval1, croom, St.taken, put_slot, put_room, put_box, put_ctr, put_none, dem_none, dem_slot, dem_box, dem_ctr, dem_room, setBox_slot, setBox_room, setBox_box, ↓reduceIte, Nat.reduceEqDiff, Nat.reduceLT, Nat.reduceLeDiff, reduceCtorEq, decide_true, decide_false, List.filterMap_cons, List.filterMap_nil, Option.bind_some, Option.map_some, Option.bind_none, List.getElem?_cons_zero, List.getElem?_cons_succ, List.contains_cons, List.contains_nil, List.map_cons, List.map_nil, beq_self_eq_true, beq_iff_eq, Bool.or_false, Bool.and_true, Nat.reduceBEq, Bool.false_eq_true, dbin, row11, frz11, frzOf_def, frz_nil, isLocal, allocKey, isAlloc, loadsOwn, beq_false, Bool.not_true, pureB, leaf, leafN, List.all_cons, List.all_nil, List.nil_append, List.append_nil, List.length_nil, List.length_cons, List.find?_cons, List.find?_nil, List.take_zero, List.drop_zero, List.drop_succ_cons, dcells, Nat.zero_add, Nat.reduceAdd, stepBox, Int.natCast_nonneg, Int.toNat_natCast, and_self, Nat.mul_one, Nat.add_zero, gt_iff_lt, dStrBin, Int.reduceLE, Int.reduceToNat, Int.reduceBEq, dp5, ia81, len81, frz11b, ty126, fap0, fap1, ia124, ia127, cv53, zr126, and_8, ib_eql, ib_lss, ib_gtr, gl2, gl3]
    | (refine drW_intro (by kernel_rfl) ?_)
    | (refine gw_intro (fun h => ?_) (fun h => ?_) <;> (try simp only [beq_true, beq_false, Bool.not_eq_eq_eq_not, Bool.not_true, Bool.not_false, Bool.not_not, decide_eq_true_eq, decide_eq_false_iff_not, ge_iff_le, gt_iff_lt] at h)))
                  refine hr _ ?_
                  repeat' (first
    | simp only [*, put_slot, put_room, put_box, dem_box, setBox_box, endQ, endR, endV, rvars, rvar, room1, ↓reduceIte, List.map_nil, pureB, leaf, leafN, List.take_nil, List.range_zero, and_self]
    | (refine drW_intro (by kernel_rfl) ?_)
    | (refine gw_intro (fun h => ?_) (fun h => ?_) <;> (try simp only [beq_true, beq_false, Bool.not_eq_eq_eq_not, Bool.not_true, Bool.not_false, Bool.not_not, decide_eq_true_eq, decide_eq_false_iff_not, ge_iff_le, gt_iff_lt] at h)))
                · have ua3 := Hd.mk a3
                  by_cases a4 : 191 < x2
                  · have T : validB zs = false := by rw [← v0]; exact v3_bad hpos (by rw [e0]; omega) (by rw [e0]; omega) (.inr (.inr (.inr (by rw [e2]; unfold C1; omega))))
                    clear ok0 v0 hpos e0 e1 e2 hok hv c1 c2 hin hl3 el eh
                    repeat' (first
    | simp only [*, go_seq, go_cond, go_block, go_skip, go_retc, go_region, go_draw, go_ops_nil, go_ops, go_dops1, go_dops, okG_some, okB_some, gwD_bool, cwD_bool, gw_true, gw_false, guardG, opG, opD, isPtr, isStore, inB, sval, stake, eats, eaters, get, cval, cval1, croom, St.taken, put_slot, put_room, put_box, put_ctr, put_none, dem_none, dem_slot, dem_box, dem_ctr, dem_room, setBox_slot, setBox_room, setBox_box, ↓reduceIte, Nat.reduceEqDiff, Nat.reduceLT, Nat.reduceLeDiff, reduceCtorEq, decide_true, decide_false, List.filterMap_cons, List.filterMap_nil, Option.bind_some, Option.map_some, Option.bind_none, List.getElem?_cons_zero, List.getElem?_cons_succ, List.contains_cons, List.contains_nil, List.map_cons, List.map_nil, beq_self_eq_true, beq_iff_eq, Bool.or_false, Bool.and_true, Nat.reduceBEq, Bool.false_eq_true, dbin, row11, frz11, frzOf_def, frz_nil, isLocal, allocKey, isAlloc, loadsOwn, pureB, leaf, leafN, List.all_cons, List.all_nil, List.nil_append, List.append_nil, List.length_nil, List.length_cons, List.find?_cons, List.find?_nil, List.take_zero, List.drop_zero, List.drop_succ_cons, dcells, Nat.zero_add, Nat.reduceAdd, stepBox, Int.natCast_nonneg, Int.toNat_natCast, and_self, Nat.mul_one, Nat.add_zero, gt_iff_lt, dStrBin, Int.reduceLE, Int.reduceToNat, Int.reduceBEq, dp5, ia81, len81, frz11b, ty126, fap0, fap1, ia124, ia127, cv53, zr126, and_8, ib_eql, ib_lss, ib_gtr, gl2, gl3]
    | (refine drW_intro (by kernel_rfl) ?_)
    | (refine gw_intro (fun h => ?_) (fun h => ?_) <;> (try simp only [beq_true, beq_false, Bool.not_eq_eq_eq_not, Bool.not_true, Bool.not_false, Bool.not_not, decide_eq_true_eq, decide_eq_false_iff_not, ge_iff_le, gt_iff_lt] at h)))
                    refine hr _ ?_
                    repeat' (first
    | simp only [*, put_slot, put_room, put_box, dem_box, setBox_box, endQ, endR, endV, rvars, rvar, room1, ↓reduceIte, List.map_nil, pureB, leaf, leafN, List.take_nil, List.range_zero, and_self]
    | (refine drW_intro (by kernel_rfl) ?_)
    | (refine gw_intro (fun h => ?_) (fun h => ?_) <;> (try simp only [beq_true, beq_false, Bool.not_eq_eq_eq_not, Bool.not_true, Bool.not_false, Bool.not_not, decide_eq_true_eq, decide_eq_false_iff_not, ge_iff_le, gt_iff_lt] at h)))
                  · have ua4 := Hd.mk a4
                    have hb : (3 : Int) ≤ rs.length := by omega
                    have hd := map_drop rs 3
                    have OKF := Hd.mk (show BytesOK (rs.drop 3) from ok0.drop 3)
                    have VF := Hd.mk (show validB (rs.drop 3) = validB zs by rw [v3_ok (by omega) (by rw [e0]; omega) (by rw [e0]; omega) (by rw [e0, e1, ← el]; omega) (by rw [e0, e1, ← eh]; omega) (by rw [e2]; unfold C1; omega), v0])
                    have BF := Hd.mk (show (rs.drop 3).length ≤ rs.length by rw [List.length_drop]; omega)
                    have BL := Hd.mk (show (rs.drop 3).length < rs.length by rw [List.length_drop]; omega)
                    have lD : ((rs.drop 3).map (D.int .u8)).length = (rs.drop 3).length := List.length_map ..
                    clear ok0 v0 hpos e0 e1 e2 hok hv c1 c2 hin hl3 el eh
                    repeat' (first
    | simp only [*, go_nil, go_seq, go_cond, go_block, go_blk, go_skip, go_region, go_draw, go_ops_nil, go_ops, go_dops1, go_dops, okG_some, okB_some, gwD_bool, cwD_bool, gw_true, gw_false, guardG, opG, opD, isPtr, isStore, inB, sval, stake, eats, eaters, get, cval, cval1, croom, St.taken, put_slot, put_room, put_box, put_ctr, put_none, dem_none, dem_slot, dem_box, dem_ctr, dem_room, setBox_slot, setBox_room, setBox_box, ↓reduceIte, Nat.reduceEqDiff, Nat.reduceLT, Nat.reduceLeDiff, reduceCtorEq, decide_true, decide_false, List.filterMap_cons, List.filterMap_nil, Option.bind_some, Option.map_some, Option.bind_none, Option.map_none, List.getElem?_cons_zero, List.getElem?_cons_succ, List.contains_cons, List.contains_nil, List.map_cons, List.map_nil, beq_self_eq_true, beq_iff_eq, Bool.or_false, Bool.and_true, Nat.reduceBEq, Bool.false_eq_true, dbin, row11, frz11, frzOf_def, frz_nil, isLocal, allocKey, isAlloc, loadsOwn, pureB, leaf, leafN, List.all_cons, List.all_nil, List.nil_append, List.append_nil, List.length_nil, List.length_cons, List.find?_cons, List.find?_nil, List.take_zero, List.drop_zero, List.drop_succ_cons, dcells, Nat.zero_add, Nat.reduceAdd, stepBox, true_and, Int.natCast_nonneg, Int.toNat_natCast, and_self, Nat.mul_one, Nat.add_zero, dopt, dbound, gt_iff_lt, dStrBin, Int.reduceLE, Int.reduceToNat, Int.reduceBEq, dp5, ia81, len81, sl81, frz11b, ty126, fap0, fap1, ia124, ia127, cv53, zr126, szU8, takeM, and_8, ib_eql, ib_lss, ib_gtr, gl2, gl3]
    | (refine drW_intro (by kernel_rfl) ?_)
    | (refine gw_intro (fun h => ?_) (fun h => ?_) <;> (try simp only [beq_true, beq_false, Bool.not_eq_eq_eq_not, Bool.not_true, Bool.not_false, Bool.not_not, decide_eq_true_eq, decide_eq_false_iff_not, ge_iff_le, gt_iff_lt] at h)))
                    refine hn _ ⟨rs.drop 3, ?_, OKF, ?_, VF, ?_, ?_⟩ ?_
                    · simp only [*, put_slot, ↓reduceIte]
                    · exact Nat.le_trans (show (rs.drop 3).length ≤ rs.length from BF) (show rs.length ≤ zs.length from hle)
                    · simp only [*, put_slot, dem_slot, setBox_slot, ↓reduceIte, Nat.reduceEqDiff, reduceCtorEq]
                    · simp only [*, put_room, dem_room, setBox_room, ↓reduceIte, Nat.reduceEqDiff, reduceCtorEq]
                    · have : (rs.drop 3).length < rs.length := BL
                      simp only [slotL, *, put_slot, ↓reduceIte]
                      first | done | omega
        · by_cases hl4 : rs.length < 4
          · have ll : (rs.length : Int) < 4 := by omega
            have T : validB zs = false := by rw [← v0]; exact v4_bad hpos (by rw [e0]; omega) (by rw [e0]; omega) (.inl hl4)
            clear ok0 v0 hpos e0 hok hv c1 c2 hin hl4 el eh
            repeat' (first
    | simp only [*, go_seq, go_cond, go_block, go_skip, go_retc, go_region, go_draw, go_ops_nil, go_ops, go_dops1, go_dops, okG_some, okB_some, gwD_bool, cwD_bool, gw_true, gw_false, guardG, opG, opD, isPtr, isStore, inB, sval, stake, eats, eaters, get, cval, cval1, croom, St.taken, put_slot, put_room, put_box, put_ctr, put_none, dem_none, dem_slot, dem_ctr, dem_room, setBox_slot, setBox_room, setBox_box, ↓reduceIte, Nat.reduceEqDiff, Nat.reduceLT, Nat.reduceLeDiff, reduceCtorEq, decide_true, decide_false, List.filterMap_cons, List.filterMap_nil, Option.bind_some, Option.map_some, Option.bind_none, List.getElem?_cons_zero, List.getElem?_cons_succ, List.contains_cons, List.contains_nil, List.map_cons, List.map_nil, beq_self_eq_true, Bool.or_false, Bool.and_true, Nat.reduceBEq, Bool.false_eq_true, dbin, row11, frz11, frzOf_def, frz_nil, isLocal, allocKey, isAlloc, loadsOwn, beq_false, Bool.not_true, pureB, leaf, leafN, List.all_cons, List.all_nil, List.nil_append, List.append_nil, List.length_nil, List.length_cons, List.find?_cons, List.find?_nil, List.take_zero, List.drop_zero, List.drop_succ_cons, dcells, Nat.zero_add, Nat.reduceAdd, stepBox, Int.natCast_nonneg, Int.toNat_natCast, and_self, Nat.mul_one, gt_iff_lt, dStrBin, Int.reduceLE, Int.reduceToNat, Int.reduceBEq, dp5, ia81, len81, frz11b, ty126, ia124, ia127, cv53, zr126, and_8, ib_eql, ib_lss, ib_gtr, gl2, gl3]
    | (refine drW_intro (by kernel_rfl) ?_)
    | (refine gw_intro (fun h => ?_) (fun h => ?_) <;> (try simp only [beq_true, beq_false, Bool.not_eq_eq_eq_not, Bool.not_true, Bool.not_false, Bool.not_not, decide_eq_true_eq, decide_eq_false_iff_not, ge_iff_le, gt_iff_lt] at h)))
            refine hr _ ?_
            repeat' (first
    | simp only [*, put_slot, put_room, put_box, dem_box, setBox_box, endQ, endR, endV, rvars, rvar, room1, ↓reduceIte, List.map_nil, pureB, leaf, leafN, List.take_nil, List.range_zero, and_self]
    | (refine drW_intro (by kernel_rfl) ?_)
    | (refine gw_intro (fun h => ?_) (fun h => ?_) <;> (try simp only [beq_true, beq_false, Bool.not_eq_eq_eq_not, Bool.not_true, Bool.not_false, Bool.not_not, decide_eq_true_eq, decide_eq_false_iff_not, ge_iff_le, gt_iff_lt] at h)))
          · have ll : ¬ (rs.length : Int) < 4 := by omega
            have i1 : (1 : Int) < rs.length := by omega
            obtain ⟨x1, e1, m1, n1, g1⟩ := BytesOK.get ok0 (show 1 < rs.length by omega)
            have i2 : (2 : Int) < rs.length := by omega
            obtain ⟨x2, e2, m2, n2, g2⟩ := BytesOK.get ok0 (show 2 < rs.length by omega)
            have i3 : (3 : Int) < rs.length := by omega
            obtain ⟨x3, e3, m3, n3, g3⟩ := BytesOK.get ok0 (show 3 < rs.length by omega)
            by_cases a1 : x1 < lo
            · have T : validB zs = false := by rw [← v0]; exact v4_bad hpos (by rw [e0]; omega) (by rw [e0]; omega) (.inr (.inl (by rw [e0, e1, ← el]; exact a1)))
              clear ok0 v0 hpos e0 e1 e2 e3 hok hv c1 c2 hin hl4 el eh
              repeat' (first
    | simp only [*, go_seq, go_cond, go_block, go_skip, go_retc, go_region, go_draw, go_ops_nil, go_ops, go_dops1, go_dops, okG_some, okB_some, gwD_bool, cwD_bool, gw_true, gw_false, guardG, opG, opD, isPtr, isStore, inB, sval, stake, eats, eaters, get, cval, cval1, croom, St.taken, put_slot, put_room, put_box, put_ctr, put_none, dem_none, dem_slot, dem_box, dem_ctr, dem_room, setBox_slot, setBox_room, setBox_box, ↓reduceIte, Nat.reduceEqDiff, Nat.reduceLT, Nat.reduceLeDiff, reduceCtorEq, decide_true, decide_false, List.filterMap_cons, List.filterMap_nil, Option.bind_some, Option.map_some, Option.bind_none, List.getElem?_cons_zero, List.getElem?_cons_succ, List.contains_cons, List.contains_nil, List.map_cons, List.map_nil, beq_self_eq_true, beq_iff_eq, Bool.or_false, Bool.and_true, Nat.reduceBEq, Bool.false_eq_true, dbin, row11, frz11, frzOf_def, frz_nil, isLocal, allocKey, isAlloc, loadsOwn, beq_false, Bool.not_true, pureB, leaf, leafN, List.all_cons, List.all_nil, List.nil_append, List.append_nil, List.length_nil, List.length_cons, List.find?_cons, List.find?_nil, List.take_zero, List.drop_zero, List.drop_succ_cons, dcells, Nat.zero_add, Nat.reduceAdd, stepBox, Int.natCast_nonneg, Int.toNat_natCast, and_self, Nat.mul_one, Nat.add_zero, gt_iff_lt, dStrBin, Int.reduceLE, Int.reduceToNat, Int.reduceBEq, dp5, ia81, len81, frz11b, ty126, fap0, ia124, ia127, cv53, zr126, and_8, ib_eql, ib_lss, ib_gtr, gl2, gl3]
    | (refine drW_intro (by kernel_rfl) ?_)
    | (refine gw_intro (fun h => ?_) (fun h => ?_) <;> (try simp only [beq_true, beq_false, Bool.not_eq_eq_eq_not, Bool.not_true, Bool.not_false, Bool.not_not, decide_eq_true_eq, decide_eq_false_iff_not, ge_iff_le, gt_iff_lt] at h)))
              refine hr _ ?_
              repeat' (first
    | simp only [*, put_slot, put_room, put_box, dem_box, setBox_box, endQ, endR, endV, rvars, rvar, room1, ↓reduceIte, List.map_nil, pureB, leaf, leafN, List.take_nil, List.range_zero, and_self]
    | (refine drW_intro (by kernel_rfl) ?_)
    | (refine gw_intro (fun h => ?_) (fun h => ?_) <;> (try simp only [beq_true, beq_false, Bool.not_eq_eq_eq_not, Bool.not_true, Bool.not_false, Bool.not_not, decide_eq_true_eq, decide_eq_false_iff_not, ge_iff_le, gt_iff_lt] at h)))
            · have ua1 := Hd.mk a1
              by_cases a2 : hi < x1
              · have T : validB zs = false := by rw [← v0]; exact v4_bad hpos (by rw [e0]; omega) (by rw [e0]; omega) (.inr (.inr (.inl (by rw [e0, e1, ← eh]; exact a2))))
                clear ok0 v0 hpos e0 e1 e2 e3 hok hv c1 c2 hin hl4 el eh
                repeat' (first
    | simp only [*, go_seq, go_cond, go_block, go_skip, go_retc, go_region, go_draw, go_ops_nil, go_ops, go_dops1, go_dops, okG_some, okB_some, gwD_bool, cwD_bool, gw_true, gw_false, guardG, opG, opD, isPtr, isStore, inB, sval, stake, eats, eaters, get, cval, cval1, croom, St.taken, put_slot, put_room, put_box, put_ctr, put_none, dem_none, dem_slot, dem_box, dem_ctr, dem_room, setBox_slot, setBox_room, setBox_box, ↓reduceIte, Nat.reduceEqDiff, Nat.reduceLT, Nat.reduceLeDiff, reduceCtorEq, decide_true, decide_false, List.filterMap_cons, List.filterMap_nil, Option.bind_some, Option.map_some, Option.bind_none, List.getElem?_cons_zero, List.getElem?_cons_succ, List.contains_cons, List.contains_nil, List.map_cons, List.map_nil, beq_self_eq_true, beq_iff_eq, Bool.or_false, Bool.and_true, Nat.reduceBEq, Bool.false_eq_true, dbin, row11, frz11, frzOf_def, frz_nil, isLocal, allocKey, isAlloc, loadsOwn, beq_false, Bool.not_true, pureB, leaf, leafN, List.all_cons, List.all_nil, List.nil_append, List.append_nil, List.length_nil, List.length_cons, List.find?_cons, List.find?_nil, List.take_zero, List.drop_zero, List.drop_succ_cons, dcells, Nat.zero_add, Nat.reduceAdd, stepBox, Int.natCast_nonneg, Int.toNat_natCast, and_self, Nat.mul_one, Nat.add_zero, gt_iff_lt, dStrBin, Int.reduceLE, Int.reduceToNat, Int.reduceBEq, dp5, ia81, len81, frz11b, ty126, fap0, fap1, ia124, ia127, cv53, zr126, and_8, ib_eql, ib_lss, ib_gtr, gl2, gl3]
    | (refine drW_intro (by kernel_rfl) ?_)
    | (refine gw_intro (fun h => ?_) (fun h => ?_) <;> (try simp only [beq_true, beq_false, Bool.not_eq_eq_eq_not, Bool.not_true, Bool.not_false, Bool.not_not, decide_eq_true_eq, decide_eq_false_iff_not, ge_iff_le, gt_iff_lt] at h)))
                refine hr _ ?_
                repeat' (first
    | simp only [*, put_slot, put_room, put_box, dem_box, setBox_box, endQ, endR, endV, rvars, rvar, room1, ↓reduceIte, List.map_nil, pureB, leaf, leafN, List.take_nil, List.range_zero, and_self]
    | (refine drW_intro (by kernel_rfl) ?_)
    | (refine gw_intro (fun h => ?_) (fun h => ?_) <;> (try simp only [beq_true, beq_false, Bool.not_eq_eq_eq_not, Bool.not_true, Bool.not_false, Bool.not_not, decide_eq_true_eq, decide_eq_false_iff_not, ge_iff_le, gt_iff_lt] at h)))
              · have ua2 := Hd.mk a2
                by_cases a3 : x2 < 128
                · have T : validB zs = false := by rw [← v0]; exact v4_bad hpos (by rw [e0]; omega) (by rw [e0]; omega) (.inr (.inr (.inr (.inl (by rw [e2]; unfold C1; omega)))))
                  clear ok0 v0 hpos e0 e1 e2 e3 hok hv c1 c2 hin hl4 el eh
                  repeat' (first
    | simp only [*, go_seq, go_cond, go_block, go_skip, go_retc, go_region, go_draw, go_ops_nil, go_ops, go_dops1, go_dops, okG_some, okB_some, gwD_bool, cwD_bool, gw_true, gw_false, guardG, opG, opD, isPtr, isStore, inB, sval, stake, eats, eaters, get, cval, cval1, croom, St.taken, put_slot, put_room, put_box, put_ctr, put_none, dem_none, dem_slot, dem_box, dem_ctr, dem_room, setBox_slot, setBox_room, setBox_box, ↓reduceIte, Nat.reduceEqDiff, Nat.reduceLT, Nat.reduceLeDiff, reduceCtorEq, decide_true, decide_false, List.filterMap_cons, List.filterMap_nil, Option.bind_some, Option.map_some, Option.bind_none, List.getElem?_cons_zero, List.getElem?_cons_succ, List.contains_cons, List.contains_nil, List.map_cons, List.map_nil, beq_self_eq_true, beq_iff_eq, Bool.or_false, Bool.and_true, Nat.reduceBEq, Bool.false_eq_true, dbin, row11, frz11, frzOf_def, frz_nil, isLocal, allocKey, isAlloc, loadsOwn, beq_false, Bool.not_true, pureB, leaf, leafN, List.all_cons, List.all_nil, List.nil_append, List.append_nil, List.length_nil, List.length_cons, List.find?_cons, List.find?_nil, List.take_zero, List.drop_zero, List.drop_succ_cons, dcells, Nat.zero_add, Nat.reduceAdd, stepBox, Int.natCast_nonneg, Int.toNat_natCast, and_self, Nat.mul_one, Nat.add_zero, gt_iff_lt, dStrBin, Int.reduceLE, Int.reduceToNat, Int.reduceBEq, dp5, ia81, len81, frz11b, ty126, fap0, fap1, ia124, ia127, cv53, zr126, and_8, ib_eql, ib_lss, ib_gtr, gl2, gl3]
    | (refine drW_intro (by kernel_rfl) ?_)
    | (refine gw_intro (fun h => ?_) (fun h => ?_) <;> (try simp only [beq_true, beq_false, Bool.not_eq_eq_eq_not, Bool.not_true, Bool.not_false, Bool.not_not, decide_eq_true_eq, decide_eq_false_iff_not, ge_iff_le, gt_iff_lt] at h)))
                  refine hr _ ?_
                  repeat' (first
    | simp only [*, put_slot, put_room, put_box, dem_box, setBox_box, endQ, endR, endV, rvars, rvar, room1, ↓reduceIte, List.map_nil, pureB, leaf, leafN, List.take_nil, List.range_zero, and_self]
    | (refine drW_intro (by kernel_rfl) ?_)
    | (refine gw_intro (fun h => ?_) (fun h => ?_) <;> (try simp only [beq_true, beq_false, Bool.not_eq_eq_eq_not, Bool.not_true, Bool.not_false, Bool.not_not, decide_eq_true_eq, decide_eq_false_iff_not, ge_iff_le, gt_iff_lt] at h)))
                · have ua3 := Hd.mk a3
                  by_cases a4 : 191 < x2
                  · have T : validB zs = false := by rw [← v0]; exact v4_bad hpos (by rw [e0]; omega) (by rw [e0]; omega) (.inr (.inr (.inr (.inl (by rw [e2]; unfold C1; omega)))))
                    clear ok0 v0 hpos e0 e1 e2 e3 hok hv c1 c2 hin hl4 el eh
                    repeat' (first
    | simp only [*, go_seq, go_cond, go_block, go_skip, go_retc, go_region, go_draw, go_ops_nil, go_ops, go_dops1, go_dops, okG_some, okB_some, gwD_bool, cwD_bool, gw_true, gw_false, guardG, opG, opD, isPtr, isStore, inB, sval, stake, eats, eaters, get, cval, cval1, croom, St.taken, put_slot, put_room, put_box, put_ctr, put_none, dem_none, dem_slot, dem_box, dem_ctr, dem_room, setBox_slot, setBox_room, setBox_box, ↓reduceIte, Nat.reduceEqDiff, Nat.reduceLT, Nat.reduceLeDiff, reduceCtorEq, decide_true, decide_false, List.filterMap_cons, List.filterMap_nil, Option.bind_some, Option.map_some, Option.bind_none, List.getElem?_cons_zero, List.getElem?_cons_succ, List.contains_cons, List.contains_nil, List.map_cons, List.map_nil, beq_self_eq_true, beq_iff_eq, Bool.or_false, Bool.and_true, Nat.reduceBEq, Bool.false_eq_true, dbin, row11, frz11, frzOf_def, frz_nil, isLocal, allocKey, isAlloc, loadsOwn, beq_false, Bool.not_true, pureB, leaf, leafN, List.all_cons, List.all_nil, List.nil_append, List.append_nil, List.length_nil, List.length_cons, List.find?_cons, List.find?_nil, List.take_zero, List.drop_zero, List.drop_succ_cons, dcells, Nat.zero_add, Nat.reduceAdd, stepBox, Int.natCast_nonneg, Int.toNat_natCast, and_self, Nat.mul_one, Nat.add_zero, gt_iff_lt, dStrBin, Int.reduceLE, Int.reduceToNat, Int.reduceBEq, dp5, ia81, len81, frz11b, ty126, fap0, fap1, ia124, ia127, cv53, zr126, and_8, ib_eql, ib_lss, ib_gtr, gl2, gl3]
    | (refine drW_intro (by kernel_rfl) ?_)
    | (refine gw_intro (fun h => ?_) (fun h => ?_) <;> (try simp only [beq_true, beq_false, Bool.not_eq_eq_eq_not, Bool.not_true, Bool.not_false, Bool.not_not, decide_eq_true_eq, decide_eq_false_iff_not, ge_iff_le, gt_iff_lt] at h)))
                    refine hr _ ?_
                    repeat' (first
    | simp only [*, put_slot, put_room, put_box, dem_box, setBox_box, endQ, endR, endV, rvars, rvar, room1, ↓reduceIte, List.map_nil, pureB, leaf, leafN, List.take_nil, List.range_zero, and_self]
    | (refine drW_intro (by kernel_rfl) ?_)
    | (refine gw_intro (fun h => ?_) (fun h => ?_) <;> (try simp only [beq_true, beq_false, Bool.not_eq_eq_eq_not, Bool.not_true, Bool.not_false, Bool.not_not, decide_eq_true_eq, decide_eq_false_iff_not, ge_iff_le, gt_iff_lt] at h)))
                  · have ua4 := Hd.mk a4
                    by_cases a5 : x3 < 128
                    · have T : validB zs = false := by rw [← v0]; exact v4_bad hpos (by rw [e0]; omega) (by rw [e0]; omega) (.inr (.inr (.inr (.inr (by rw [e3]; unfold C1; omega)))))
                      clear ok0 v0 hpos e0 e1 e2 e3 hok hv c1 c2 hin hl4 el eh
                      repeat' (first
    | simp only [*, go_seq, go_cond, go_block, go_skip, go_retc, go_region, go_draw, go_ops_nil, go_ops, go_dops1, go_dops, okG_some, okB_some, gwD_bool, cwD_bool, gw_true, gw_false, guardG, opG, opD, isPtr, isStore, inB, sval, stake, eats, eaters, get, cval, cval1, croom, St.taken, put_slot, put_room, put_box, put_ctr, put_none, dem_none, dem_slot, dem_box, dem_ctr, dem_room, setBox_slot, setBox_room, setBox_box, ↓reduceIte, Nat.reduceEqDiff, Nat.reduceLT, Nat.reduceLeDiff, reduceCtorEq, decide_true, decide_false, List.filterMap_cons, List.filterMap_nil, Option.bind_some, Option.map_some, Option.bind_none, List.getElem?_cons_zero, List.getElem?_cons_succ, List.contains_cons, List.contains_nil, List.map_cons, List.map_nil, beq_self_eq_true, beq_iff_eq, Bool.or_false, Bool.and_true, Nat.reduceBEq, Bool.false_eq_true, dbin, row11, frz11, frzOf_def, frz_nil, isLocal, allocKey, isAlloc, loadsOwn, beq_false, Bool.not_true, pureB, leaf, leafN, List.all_cons, List.all_nil, List.nil_append, List.append_nil, List.length_nil, List.length_cons, List.find?_cons, List.find?_nil, List.take_zero, List.drop_zero, List.drop_succ_cons, dcells, Nat.zero_add, Nat.reduceAdd, stepBox, Int.natCast_nonneg, Int.toNat_natCast, and_self, Nat.mul_one, Nat.add_zero, gt_iff_lt, dStrBin, Int.reduceLE, Int.reduceToNat, Int.reduceBEq, dp5, ia81, len81, frz11b, ty126, fap0, fap1, ia124, ia127, cv53, zr126, and_8, ib_eql, ib_lss, ib_gtr, gl2, gl3]
    | (refine drW_intro (by kernel_rfl) ?_)
    | (refine gw_intro (fun h => ?_) (fun h => ?_) <;> (try simp only [beq_true, beq_false, Bool.not_eq_eq_eq_not, Bool.not_true, Bool.not_false, Bool.not_not, decide_eq_true_eq, decide_eq_false_iff_not, ge_iff_le, gt_iff_lt] at h)))
                      refine hr _ ?_
                      repeat' (first
    | simp only [*, put_slot, put_room, put_box, dem_box, setBox_box, endQ, endR, endV, rvars, rvar, room1, ↓reduceIte, List.map_nil, pureB, leaf, leafN, List.take_nil, List.range_zero, and_self]
    | (refine drW_intro (by kernel_rfl) ?_)
    | (refine gw_intro (fun h => ?_) (fun h => ?_) <;> (try simp only [beq_true, beq_false, Bool.not_eq_eq_eq_not, Bool.not_true, Bool.not_false, Bool.not_not, decide_eq_true_eq, decide_eq_false_iff_not, ge_iff_le, gt_iff_lt] at h)))
                    · have ua5 := Hd.mk a5
                      by_cases a6 : 191 < x3
                      · have T : validB zs = false := by rw [← v0]; exact v4_bad hpos (by rw [e0]; omega) (by rw [e0]; omega) (.inr (.inr (.inr (.inr (by rw [e3]; unfold C1; omega)))))
                        clear ok0 v0 hpos e0 e1 e2 e3 hok hv c1 c2 hin hl4 el eh
                        repeat' (first
    | simp only [*, go_seq, go_cond, go_block, go_skip, go_retc, go_region, go_draw, go_ops_nil, go_ops, go_dops1, go_dops, okG_some, okB_some, gwD_bool, cwD_bool, gw_true, gw_false, guardG, opG, opD, isPtr, isStore, inB, sval, stake, eats, eaters, get, cval, cval1, croom, St.taken, put_slot, put_room, put_box, put_ctr, put_none, dem_none, dem_slot, dem_box, dem_ctr, dem_room, setBox_slot, setBox_room, setBox_box, ↓reduceIte, Nat.reduceEqDiff, Nat.reduceLT, Nat.reduceLeDiff, reduceCtorEq, decide_true, decide_false, List.filterMap_cons, List.filterMap_nil, Option.bind_some, Option.map_some, Option.bind_none, List.getElem?_cons_zero, List.getElem?_cons_succ, List.contains_cons, List.contains_nil, List.map_cons, List.map_nil, beq_self_eq_true, beq_iff_eq, Bool.or_false, Bool.and_true, Nat.reduceBEq, Bool.false_eq_true, dbin, row11, frz11, frzOf_def, frz_nil, isLocal, allocKey, isAlloc, loadsOwn, pureB, leaf, leafN, List.all_cons, List.all_nil, List.nil_append, List.append_nil, List.length_nil, List.length_cons, List.find?_cons, List.find?_nil, List.take_zero, List.drop_zero, List.drop_succ_cons, dcells, Nat.zero_add, Nat.reduceAdd, stepBox, Int.natCast_nonneg, Int.toNat_natCast, and_self, Nat.mul_one, Nat.add_zero, gt_iff_lt, dStrBin, Int.reduceLE, Int.reduceToNat, Int.reduceBEq, dp5, ia81, len81, frz11b, ty126, fap0, fap1, ia124, ia127, cv53, zr126, and_8, ib_eql, ib_lss, ib_gtr, gl2, gl3]
    | (refine drW_intro (by kernel_rfl) ?_)
    | (refine gw_intro (fun h => ?_) (fun h => ?_) <;> (try simp only [beq_true, beq_false, Bool.not_eq_eq_eq_not, Bool.not_true, Bool.not_false, Bool.not_not, decide_eq_true_eq, decide_eq_false_iff_not, ge_iff_le, gt_iff_lt] at h)))
                        refine hr _ ?_
                        repeat' (first
    | simp only [*, put_slot, put_room, put_box, dem_box, setBox_box, endQ, endR, endV, rvars, rvar, room1, ↓reduceIte, List.map_nil, pureB, leaf, leafN, List.take_nil, List.range_zero, and_self]
    | (refine drW_intro (by kernel_rfl) ?_)
    | (refine gw_intro (fun h => ?_) (fun h => ?_) <;> (try simp only [beq_true, beq_false, Bool.not_eq_eq_eq_not, Bool.not_true, Bool.not_false, Bool.not_not, decide_eq_true_eq, decide_eq_false_iff_not, ge_iff_le, gt_iff_lt] at h)))
                      · have ua6 := Hd.mk a6
                        have hb : (4 : Int) ≤ rs.length := by omega
                        have hd := map_drop rs 4
                        have OKF := Hd.mk (show BytesOK (rs.drop 4) from ok0.drop 4)
                        have VF := Hd.mk (show validB (rs.drop 4) = validB zs by rw [v4_ok (by omega) (by rw [e0]; omega) (by rw [e0]; omega) (by rw [e0, e1, ← el]; omega) (by rw [e0, e1, ← eh]; omega) (by rw [e2]; unfold C1; omega) (by rw [e3]; unfold C1; omega), v0])
                        have BF := Hd.mk (show (rs.drop 4).length ≤ rs.length by rw [List.length_drop]; omega)
                        have BL := Hd.mk (show (rs.drop 4).length < rs.length by rw [List.length_drop]; omega)
                        have lD : ((rs.drop 4).map (D.int .u8)).length = (rs.drop 4).length := List.length_map ..
                        clear ok0 v0 hpos e0 e1 e2 e3 hok hv c1 c2 hin hl4 el eh
                        repeat' (first
    | simp only [*, go_nil, go_seq, go_cond, go_block, go_blk, go_skip, go_region, go_draw, go_ops_nil, go_ops, go_dops1, go_dops, okG_some, okB_some, gwD_bool, cwD_bool, gw_true, gw_false, guardG, opG, opD, isPtr, isStore, inB, sval, stake, eats, eaters, get, cval, cval1, croom, St.taken, put_slot, put_room, put_box, put_ctr, put_none, dem_none, dem_slot, dem_box, dem_ctr, dem_room, setBox_slot, setBox_room, setBox_box, ↓reduceIte, Nat.reduceEqDiff, Nat.reduceLT, Nat.reduceLeDiff, reduceCtorEq, decide_true, decide_false, List.filterMap_cons, List.filterMap_nil, Option.bind_some, Option.map_some, Option.bind_none, Option.map_none, List.getElem?_cons_zero, List.getElem?_cons_succ, List.contains_cons, List.contains_nil, List.map_cons, List.map_nil, beq_self_eq_true, beq_iff_eq, Bool.or_false, Bool.and_true, Nat.reduceBEq, Bool.false_eq_true, dbin, row11, frz11, frzOf_def, frz_nil, isLocal, allocKey, isAlloc, loadsOwn, pureB, leaf, leafN, List.all_cons, List.all_nil, List.nil_append, List.append_nil, List.length_nil, List.length_cons, List.find?_cons, List.find?_nil, List.take_zero, List.drop_zero, List.drop_succ_cons, dcells, Nat.zero_add, Nat.reduceAdd, stepBox, true_and, Int.natCast_nonneg, Int.toNat_natCast, and_self, Nat.mul_one, Nat.add_zero, dopt, dbound, gt_iff_lt, dStrBin, Int.reduceLE, Int.reduceToNat, Int.reduceBEq, dp5, ia81, len81, sl81, frz11b, ty126, fap0, fap1, ia124, ia127, cv53, zr126, szU8, takeM, and_8, ib_eql, ib_lss, ib_gtr, gl2, gl3]
    | (refine drW_intro (by kernel_rfl) ?_)
    | (refine gw_intro (fun h => ?_) (fun h => ?_) <;> (try simp only [beq_true, beq_false, Bool.not_eq_eq_eq_not, Bool.not_true, Bool.not_false, Bool.not_not, decide_eq_true_eq, decide_eq_false_iff_not, ge_iff_le, gt_iff_lt] at h)))
                        refine hn _ ⟨rs.drop 4, ?_, OKF, ?_, VF, ?_, ?_⟩ ?_
                        · simp only [*, put_slot, ↓reduceIte]
                        · exact Nat.le_trans (show (rs.drop 4).length ≤ rs.length from BF) (show rs.length ≤ zs.length from hle)
                        · simp only [*, put_slot, dem_slot, setBox_slot, ↓reduceIte, Nat.reduceEqDiff, reduceCtorEq]
                        · simp only [*, put_room, dem_room, setBox_room, ↓reduceIte, Nat.reduceEqDiff, reduceCtorEq]
                        · have : (rs.drop 4).length < rs.length := BL
                          simp only [slotL, *, put_slot, ↓reduceIte]
                          first | done | omega
    · have hg : ¬ (0 : Int) < rs.length := by omega
      have hv' : validB zs = true := by
        have h1 : validB rs = validB zs := hv
        rw [← h1, List.length_eq_zero_iff.1 (by omega : rs.length = 0)]
        rfl
      clear hpos hle hok hv
      repeat' (first
    | simp only [*, go_nil, go_seq, go_cond, go_exit, go_xcode, go_region, go_ops_nil, go_ops, okG_some, cwD_bool, gw_false, guardG, opG, isPtr, inB, sval, stake, eats, eaters, get, cval, cval1, St.taken, put_slot, dem_none, ↓reduceIte, Nat.reduceLT, decide_true, decide_false, List.filterMap_cons, List.filterMap_nil, Option.map_some, List.contains_cons, List.contains_nil, List.map_cons, List.map_nil, Bool.or_false, Bool.false_eq_true, dbin, row11, frz11, frzOf_def, frz_nil, gt_iff_lt, len81, ib_gtr]
    | (refine drW_intro (by kernel_rfl) ?_)
    | (refine gw_intro (fun h => ?_) (fun h => ?_) <;> (try simp only [beq_true, beq_false, Bool.not_eq_eq_eq_not, Bool.not_true, Bool.not_false, Bool.not_not, decide_eq_true_eq, decide_eq_false_iff_not, ge_iff_le, gt_iff_lt] at h)))
      refine hx _ _ ?_
      repeat' (first
    | simp only [*, go_seq, go_retc, go_xblk, go_region, go_ops_nil, go_ops, okG_some, guardG, opG, inB, sval, stake, eats, eaters, get, cval, cval1, croom, put_slot, put_room, put_box, dem_none, endQ, endR, endV, rvars, rvar, room1, ↓reduceIte, Nat.reduceLT, decide_true, List.filterMap_cons, List.filterMap_nil, List.contains_cons, List.contains_nil, List.map_nil, Bool.or_false, Bool.false_eq_true, row11, frz_nil, pureB, leaf, leafN, List.take_nil, List.range_zero, and_self, frz11b]
    | (refine drW_intro (by kernel_rfl) ?_)
    | (refine gw_intro (fun h => ?_) (fun h => ?_) <;> (try simp only [beq_true, beq_false, Bool.not_eq_eq_eq_not, Bool.not_true, Bool.not_false, Bool.not_not, decide_eq_true_eq, decide_eq_false_iff_not, ge_iff_le, gt_iff_lt] at h)))
end Go.Av
/- Chapter 11: decode.Right: no nought, and valid. -/
set_option linter.unusedSimpArgs false
set_option linter.unusedVariables false
set_option maxRecDepth 100000
namespace Go.Av
open Go.Proofs Go.Proofs.YtdbimjpjpgfeeaaDoor
variable {chk : List D → Bool}
set_option maxHeartbeats 4000000 in
theorem right_L (zs : List Int) (hz : BytesOK zs) (hl : zs.length < 1000000000) : callL Tryd.prog (ext11b chk) 65 [.list (zs.map (D.int .u8))] [] = some (.bool (noNul zs && validB zs), [.no], []) := by
  have hV := valid_L (chk := chk) zs hz hl
  have lN : (zs.map (D.int .u8)).length = zs.length := List.length_map ..
  have hz' := Hd.mk hz
  clear hz
  refine callK (m := 16) (res := [2]) (rs := [.tmp 2]) rfl Tryd.func65 rfl rfl rfl rfl rfl ?_
  repeat' (first
    | simp only [*, go_seq, go_block, go_loop, go_region, go_ops_nil, go_ops, okG_some, guardG, opG, isPtr, inB, sval, stake, eats, eaters, get, cval, cval1, croom, St.taken, put_slot, dem_none, entry_slot, ↓reduceIte, Nat.reduceLT, reduceCtorEq, decide_true, List.filterMap_cons, List.filterMap_nil, Option.map_some, List.getD_cons_zero, List.contains_cons, List.contains_nil, List.map_cons, List.map_nil, Bool.or_false, Bool.false_eq_true, row11, frz11, frzOf_def, frz_nil, List.length_nil, len81, frz11b]
    | (refine drW_intro (by kernel_rfl) ?_)
    | (refine gw_intro (fun h => ?_) (fun h => ?_) <;> (try simp only [beq_true, beq_false, Bool.not_eq_eq_eq_not, Bool.not_true, Bool.not_false, Bool.not_not, decide_eq_true_eq, decide_eq_false_iff_not, ge_iff_le, gt_iff_lt] at h)))
  refine loopH (fun st => ∃ i : Nat, i ≤ zs.length ∧ st.slot 7 = .int .i64 i ∧ st.slot 6 = .int .i64 zs.length ∧ st.slot 5 = .list (zs.map (D.int .u8)) ∧ st.slot 0 = .list (zs.map (D.int .u8)) ∧ st.slot 2 = .bool false ∧ st.room 2 = [] ∧ Hd (noNul (zs.drop i) = noNul zs)) (fun st => zs.length - slotI st 7) ?_ ?_
  · refine ⟨0, Nat.zero_le _, ?_, ?_, ?_, ?_, ?_, ?_, rfl⟩
    all_goals simp only [*, put_slot, put_room, entry_slot, ↓reduceIte, Nat.reduceEqDiff, reduceCtorEq, List.getD_cons_zero]
    all_goals rfl
  · rintro st K ⟨i, hi, h7, h6, h5, h0, h2, hr2, hnn⟩ hn hx hr
    by_cases hlt : i < zs.length
    · have ok0 : BytesOK zs := hz'
      obtain ⟨x, e0, m0, n0, g0⟩ := BytesOK.get ok0 hlt
      have hlt1 : (i : Int) < zs.length := by omega
      have hw1 : IntKind.i64.wrap ((i : Int) + 1) = ((i + 1 : Nat) : Int) := by rw [wrap64 _ (by omega) (by omega)]; omega
      have hdr : zs.drop i = x :: zs.drop (i + 1) := by
        rw [List.drop_eq_getElem_cons hlt]
        congr 1
        rw [← e0]
        simp [List.getD, List.getElem?_eq_getElem hlt]
      have hnn' : noNul (zs.drop i) = noNul zs := hnn
      rw [hdr, noNul_cons] at hnn'
      clear ok0 e0 hdr hnn
      by_cases hx0 : x = 0
      · have T : noNul zs = false := by rw [← hnn', hx0]; rfl
        clear hnn' m0 n0
        subst hx0
        repeat' (first
    | simp only [*, go_seq, go_cond, go_block, go_skip, go_retc, go_region, go_ops_nil, go_ops, okG_some, cwD_bool, gw_true, guardG, opG, inB, sval, stake, eats, eaters, get, cval, cval1, croom, St.taken, put_slot, put_room, dem_none, ↓reduceIte, Nat.reduceEqDiff, Nat.reduceLT, decide_true, List.filterMap_cons, List.filterMap_nil, Option.map_some, List.getElem?_cons_zero, List.contains_cons, List.contains_nil, beq_self_eq_true, Bool.or_false, Nat.reduceBEq, Bool.false_eq_true, dbin, row11, frz11, frzOf_def, frz_nil, List.length_nil, List.length_cons, dcells, Nat.zero_add, Int.natCast_nonneg, Int.toNat_natCast, and_self, dp5, ia81, frz11b, ib_eql, ib_lss]
    | (refine drW_intro (by kernel_rfl) ?_)
    | (refine gw_intro (fun h => ?_) (fun h => ?_) <;> (try simp only [beq_true, beq_false, Bool.not_eq_eq_eq_not, Bool.not_true, Bool.not_false, Bool.not_not, decide_eq_true_eq, decide_eq_false_iff_not, ge_iff_le, gt_iff_lt] at h)))
        refine hr _ ?_
        repeat' (first
    | simp only [*, put_slot, put_room, put_box, dem_box, endQ, endR, endV, rvars, rvar, room1, ↓reduceIte, List.map_nil, pureB, leaf, leafN, List.take_nil, List.range_zero, Bool.false_and, and_self]
    | (refine drW_intro (by kernel_rfl) ?_)
    | (refine gw_intro (fun h => ?_) (fun h => ?_) <;> (try simp only [beq_true, beq_false, Bool.not_eq_eq_eq_not, Bool.not_true, Bool.not_false, Bool.not_not, decide_eq_true_eq, decide_eq_false_iff_not, ge_iff_le, gt_iff_lt] at h)))
      · have hx1 : (x == 0) = false := by simpa using hx0
        have T := Hd.mk (show noNul (zs.drop (i + 1)) = noNul zs by rw [← hnn', hx1]; rfl)
        clear hnn' m0 n0 hx0
        repeat' (first
    | simp only [*, go_nil, go_seq, go_cond, go_block, go_blk, go_skip, go_region, go_ops_nil, go_ops, okG_some, cwD_bool, gw_true, gw_false, guardG, opG, inB, sval, stake, eats, eaters, get, cval, cval1, St.taken, put_slot, put_room, dem_none, dem_slot, ↓reduceIte, Nat.reduceEqDiff, Nat.reduceLT, decide_true, List.filterMap_cons, List.filterMap_nil, Option.map_some, List.getElem?_cons_zero, List.contains_cons, List.contains_nil, Bool.or_false, Nat.reduceBEq, Bool.false_eq_true, dbin, row11, frz11, frzOf_def, frz_nil, List.length_nil, List.length_cons, dcells, Nat.zero_add, Int.natCast_nonneg, Int.toNat_natCast, and_self, dp5, ia81, frz11b, ib_add, ib_eql, ib_lss]
    | (refine drW_intro (by kernel_rfl) ?_)
    | (refine gw_intro (fun h => ?_) (fun h => ?_) <;> (try simp only [beq_true, beq_false, Bool.not_eq_eq_eq_not, Bool.not_true, Bool.not_false, Bool.not_not, decide_eq_true_eq, decide_eq_false_iff_not, ge_iff_le, gt_iff_lt] at h)))
        refine hn _ ⟨i + 1, hlt, ?_, ?_, ?_, ?_, ?_, ?_, T⟩ ?_
        · simp only [*, put_slot, ↓reduceIte]
        · simp only [*, put_slot, dem_slot, ↓reduceIte, Nat.reduceEqDiff]
        · simp only [*, put_slot, dem_slot, ↓reduceIte, Nat.reduceEqDiff]
        · simp only [*, put_slot, dem_slot, ↓reduceIte, reduceCtorEq]
        · simp only [*, put_slot, dem_slot, ↓reduceIte, Nat.reduceEqDiff]
        · simp only [*, put_room, dem_room, ↓reduceIte, Nat.reduceEqDiff]
        · simp only [slotI, *, put_slot, ↓reduceIte, Int.toNat_natCast]
          omega
    · have hge : ¬ (i : Int) < zs.length := by omega
      have T : noNul zs = true := by
        have h1 : noNul (zs.drop i) = noNul zs := hnn
        rw [← h1, List.drop_eq_nil_of_le (by omega)]
        rfl
      clear hnn
      repeat' (first
    | simp only [*, go_nil, go_seq, go_cond, go_exit, go_xcode, go_region, go_ops_nil, go_ops, okG_some, cwD_bool, gw_false, guardG, opG, inB, sval, stake, eats, eaters, get, put_slot, dem_none, ↓reduceIte, Nat.reduceLT, decide_true, decide_false, List.filterMap_cons, List.filterMap_nil, Option.map_some, List.contains_cons, List.contains_nil, Bool.or_false, Bool.false_eq_true, dbin, row11, frz_nil, frz11b, ib_lss]
    | (refine drW_intro (by kernel_rfl) ?_)
    | (refine gw_intro (fun h => ?_) (fun h => ?_) <;> (try simp only [beq_true, beq_false, Bool.not_eq_eq_eq_not, Bool.not_true, Bool.not_false, Bool.not_not, decide_eq_true_eq, decide_eq_false_iff_not, ge_iff_le, gt_iff_lt] at h)))
      refine hx _ _ ?_
      repeat' (first
    | simp only [*, go_seq, go_retc, go_xblk, go_region, go_ops_nil, go_ops, okG_some, guardG, opG, isPtr, inB, sval, stake, eats, eaters, get, St.taken, put_slot, put_room, put_box, dem_none, dem_box, endQ, endR, endV, rvars, rvar, room1, ↓reduceIte, Nat.reduceLT, reduceCtorEq, decide_true, List.filterMap_cons, List.filterMap_nil, List.contains_cons, List.contains_nil, List.map_cons, List.map_nil, beq_self_eq_true, Bool.or_false, Bool.and_true, Bool.true_and, Nat.reduceBEq, Bool.false_eq_true, okR, callG, row11, frz11, frzOf_def, frz_nil, pureB, leaf, leafN, List.all_cons, List.all_nil, List.nil_append, List.append_nil, List.take_nil, List.range_zero, List.take_succ_cons, and_self]
    | (refine drW_intro (by kernel_rfl) ?_)
    | (refine gw_intro (fun h => ?_) (fun h => ?_) <;> (try simp only [beq_true, beq_false, Bool.not_eq_eq_eq_not, Bool.not_true, Bool.not_false, Bool.not_not, decide_eq_true_eq, decide_eq_false_iff_not, ge_iff_le, gt_iff_lt] at h)))
end Go.Av
