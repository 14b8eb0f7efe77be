/- Chapter 11: dom's New: the walk. -/
import Derived.Test.YtdbimjpjpgfeeaaDoorAv11hc
import Derived.Deep.CutRange
import Derived.Deep.RegionHeldLaw
set_option linter.unusedVariables false
set_option linter.unusedSimpArgs false
set_option maxRecDepth 100000
namespace Go.Av
open Go.Proofs Go.RowKit Go.Proofs.YtdbimjpjpgfeeaaDoor Go.Maps
theorem cell_one {w : World} {cs : Array Value} {t : TypeId} : ∀ j u, cs.toList[j]? = some u → (w.alloc (.cells cs t)).cell? ((⟨w.heap.size, 0, none⟩ : Addr).add j) = some u := by
  intro j u hj
  have h := (Bk.new w t cs).cell j
  have e : (⟨w.heap.size, 0, none⟩ : Addr).add j = ⟨w.heap.size, j, none⟩ := by
    simp [Addr.add]
    intro h
    exact h.symm
  rw [e, h]
  simpa using hj
theorem zz_of_nw {F : Nat → Nat → Prop} {Z : Nat → Prop} {W W' : World} {v : Value} {d : D} (h : Den0 (nw F W W') W' v d) : Den0 (zf F (ZZ Z W W')) W' v d := h.grow fun b o h => h.imp id fun h => .inr h
theorem zden_ge {F : Nat → Nat → Prop} {Z : Nat → Prop} {w W W' : World} {v : Value} {d : D} (hlt : Lt F w) (hw : Ge w W) (hz : ∀ b, Z b → b < W.heap.size) (hb : Ge W W') (h : Den0 (zf F Z) W v d) : Den0 (zf F Z) W' v d := zden_keep hlt hw (fun b hb => ⟨hz b hb, by simp⟩) (by simp) (grown_none hb) h
section
variable {Z : Nat → Prop} {vN vE vP v : Value} {g : Nat}
theorem nob_N (h : NoB Z v vE vP g) : NoB Z vN vE vP g ∨ v.ownBlock = some g := by
  rcases h with h | h | h
  · exact .inl (.inl h)
  · exact .inr h
  · exact .inl (.inr (.inr h))
theorem nob_E (h : NoB Z vN v vP g) : NoB Z vN vE vP g ∨ v.ownBlock = some g := by
  rcases h with h | h | h | h
  · exact .inl (.inl h)
  · exact .inl (.inr (.inl h))
  · exact .inr h
  · exact .inl (.inr (.inr (.inr h)))
theorem nob_P (h : NoB Z vN vE v g) : NoB Z vN vE vP g ∨ v.ownBlock = some g := by
  rcases h with h | h | h | h
  · exact .inl (.inl h)
  · exact .inl (.inr (.inl h))
  · exact .inl (.inr (.inr (.inl h)))
  · exact .inr h
end
section
variable {Z : Nat → Prop} {vN vE vP v' : Value} {bm bt n size m : Nat} {DD : DataW Unit} {W W' : World} {e : TypeId} {xs : List Value}
theorem ng_N (h : NG Z vN vE vP bm bt n DD W) (ht : bt = bm + 1) (ho : W.ownsRow (bt + 1) e size vN m xs) (hg : W.grownBy W' vN.ownBlock) (loc : v'.ownBlock = vN.ownBlock ∨ v'.ownBlock = some W.heap.size) : NG Z v' vE vP bm bt n DD W' :=
  ng_row h ht ho hg (fun b h => .inr (.inl h)) loc fun g h => nob_N h
theorem ng_E (h : NG Z vN vE vP bm bt n DD W) (ht : bt = bm + 1) (ho : W.ownsRow (bt + 1) e size vE m xs) (hg : W.grownBy W' vE.ownBlock) (loc : v'.ownBlock = vE.ownBlock ∨ v'.ownBlock = some W.heap.size) : NG Z vN v' vP bm bt n DD W' :=
  ng_row h ht ho hg (fun b h => .inr (.inr (.inl h))) loc fun g h => nob_E h
theorem ng_P (h : NG Z vN vE vP bm bt n DD W) (ht : bt = bm + 1) (ho : W.ownsRow (bt + 1) e size vP m xs) (hg : W.grownBy W' vP.ownBlock) (loc : v'.ownBlock = vP.ownBlock ∨ v'.ownBlock = some W.heap.size) : NG Z vN vE v' bm bt n DD W' :=
  ng_row h ht ho hg (fun b h => .inr (.inr (.inr h))) loc fun g h => nob_P h
end
section
variable {P : Program} {ops : Array Oper} {rest : List Oper} {o : Oper} {a : Act} {Q : Exit → Act → World → Prop}
theorem app_own (w0 : World) (hgd : o.guard = none) (s x : Operand) (t : TypeId) (ho : o.op = .call { callee := .builtin .append, args := #[s, x], argTypes := #[t, t] })
    {e : TypeId} {size bytes : Nat} (E : EI P t e size bytes) (base : Nat) (v : Value) (n : Nat) (xs : List Value) (hs : a.eval s = v) (hown : w0.ownsRow base e size v n xs)
    (ad : Addr) (m c : Nat) (news : List Value) (hx : a.eval x = .slice (some ad) m c) (hl : news.length = m * size) (hnews : ∀ (j : Nat) (u : Value), news[j]? = some u → w0.cell? (ad.add j) = some u) (h1 : ∀ u ∈ news, u.oneCell' = true)
    (h63 : n + m ≤ maxLen) (hbytes : (n + m) * bytes ≤ 140737488355328) (hbase : base ≤ w0.heap.size)
    (h : ∀ A' c' w', n + m ≤ c' → w'.ownsRow base e size (.slice A' (n + m) c') (n + m) (xs ++ news) → w0.grownBy w' v.ownBlock → ((Value.slice A' (n + m) c').ownBlock = v.ownBlock ∨ (Value.slice A' (n + m) c').ownBlock = some w0.heap.size) → wpList P ops Q rest (a.put o.dst (.slice A' (n + m) c')) w') :
    wpList P ops Q (o :: rest) a w0 := by
  refine wpList_plain hgd fun K hK => ?_
  obtain ⟨i, z, ht, hi, hz, hsz, hby, hzs, hpos⟩ := E
  obtain ⟨v', w', hr, h2, h3, h4, h5⟩ := run_append_own_at (P := P) w0 base t o.type e i z size bytes ht hi hz hsz hby hzs hpos v n xs hown ad m c news hl hnews h1 h63 hbytes hbase
  obtain ⟨A', c', rfl, hc⟩ := own_form h2
  unfold Oper.wp execOp
  simp only [ho, resolve, invoke, builtin, Sem.run_bind, Sem.run_pure, Result.andThen_ok, List.map_toArray, List.map_cons, List.map_nil, hs, hx, hr]
  exact hK _ _ (h A' c' w' hc h2 h3 h5)
end
theorem elF_len (es : List D) : ∀ k, (elF es k).length ≤ k
  | 0 => Nat.le_refl _
  | k + 1 => by
    have := elF_len es k
    unfold elF
    split
    · simp; omega
    · omega
theorem plF_len (es : List D) : ∀ k, (plF es k).length = k
  | 0 => rfl
  | k + 1 => by simp [plF, plF_len es k]
theorem take_one {es : List D} {k : Nat} (h : k < es.length) : es.take (k + 1) = es.take k ++ [es.getD k .bad] := by
  rw [List.take_add_one, List.getElem?_eq_getElem h]
  simp [List.getD, h]
theorem ge_alloc (w : World) (o : Obj) : Ge w (w.alloc o) := (Below.refl _ w).alloc (Nat.le_refl _) o
theorem ge_drew (w : World) : Ge w w.drew := Ge.drew (Below.refl _ w)
set_option maxHeartbeats 8000000 in
theorem new_any (es : List D) (F : Nat → Nat → Prop) (w : World) (v : Value) (hlt : Lt F w) (hd : Den0 F w v (.list es)) (hs : ∀ e ∈ es, isNode e = true) (hL : es.length ≤ 10000) (hpr : ∀ e ∈ es, -1 ≤ ndP e ∧ ndP e < 10000)
    (hchk : Calls Tryd.prog 24 #[v] w fun e W' => e = .returned .nilIface ∧ Ge w W') : Calls Tryd.prog 12 #[v] w (RetD F w (.tuple [treeD es, .con .nilIface])) := by
  obtain ⟨a, c, vs, rfl, hc, hvl, hsl, h1, hx⟩ := list_sl hlt hd (isNode_len hs)
  obtain ⟨n, HN⟩ : ∃ n, Hid (n = es.length) := ⟨_, rfl⟩
  rw [← HN.out] at hvl hc hchk ⊢
  have hnL : n ≤ 10000 := by rw [HN.out]; exact hL
  have hmm := @run_makeMap Tryd.prog
  go_enter Tryd.func12, Tryd.ntmps12
  go_wp2_with (go_at_call 24; refine hchk.mono ?_; rintro e w1 ⟨rfl, hb1⟩)
  have HR := nr_start (F := F) (es := es) hb1
  obtain ⟨bm, Hbm⟩ : ∃ z, z = w1.heap.size := ⟨_, rfl⟩
  rw [← Hbm] at HR ⊢
  clear Hbm
  go_loopw [18] (fun v wr => ∃ k : Nat, v = .int .i64 k ∧ k ≤ n ∧ NR F es w bm (bm + 1) k wr) (fun v _ => n - (intOf v).toNat)
  case atStart => exact ⟨0, rfl, Nat.zero_le _, HR⟩
  case round =>
    obtain ⟨k, rfl, hle, hR⟩ := hrel
    obtain ⟨Z, vN, vE, vP, n', DD, hS, hNG, hn', hB, hDm, hat⟩ := hR.ex
    by_cases hk : k = n
    · subst hk
      have HR := Lib.hid hR
      clear hS hNG hB hat hDm hR
      go_wp2_with fail
      go_ret2
      have hR := HR.out
      rw [HN.out] at hR
      obtain ⟨q1, q2⟩ := nr_den hlt hs (by rw [← HN.out]; exact hnL) hpr hR
      refine ⟨_, rfl, q1, fun c ν => .tuple [.pointer (some ⟨bm + 1, 0, none⟩), .nilIface] _ rfl fun i v x hv hx => ?_⟩
      match i with
      | 0 => simp at hv hx; subst hv; subst hx; exact .pure _ _ q2
      | 1 => simp at hv hx; subst hv; subst hx; exact .pure _ _ (.con _ rfl)
      | i + 2 => simp at hv
    · have hlt2 : k < n := by omega
      obtain ⟨b, off, p, kk, sp, nm, la, ls, tx, x4, c4, x5, c5, rfl, hbw, hei, ⟨q0, q1, q2, q3, q4, q5, q6⟩, d4, d5, s4, s5, l4, l5⟩ := node_all hs (by rw [← HN.out]; exact hvl) hsl hx (i := k) (by rw [← HN.out]; exact hlt2)
      have hG := hS.ge
      have r0 := (hG.cell (p := ⟨b, off + k * 7, none⟩) hbw).trans q0
      have r1 := (hG.cell (p := ⟨b, off + k * 7 + 1, none⟩) hbw).trans q1
      have r2 := (hG.cell (p := ⟨b, off + k * 7 + 2, none⟩) hbw).trans q2
      have r3 := (hG.cell (p := ⟨b, off + k * 7 + 3, none⟩) hbw).trans q3
      have r4 := (hG.cell (p := ⟨b, off + k * 7 + 4, none⟩) hbw).trans q4
      have r5 := (hG.cell (p := ⟨b, off + k * 7 + 5, none⟩) hbw).trans q5
      have r6 := (hG.cell (p := ⟨b, off + k * 7 + 6, none⟩) hbw).trans q6
      clear q0 q1 q2 q3 q4 q5 q6
      obtain ⟨B7, HB7⟩ : ∃ z, z = wr.heap.size := ⟨_, rfl⟩
      obtain ⟨W7, HW7⟩ : ∃ z, z = wr.alloc (.cells #[.int .i64 p, .int .i64 kk, .string ⟨sp.toArray⟩, .string ⟨nm.toArray⟩, .slice x4 la.length c4, .slice x5 ls.length c5, .string ⟨tx.toArray⟩] 26) := ⟨_, rfl⟩
      have G7 : Ge wr W7 := by rw [HW7]; exact (Below.refl _ _).alloc (Nat.le_refl _) _
      have S7 := ns_grow hlt hS G7
      have N7 := ng_grow hNG rfl G7
      have T7 : Bk W7 (bm + 1) 59 #[vN, vE, .map (some bm), vP] := hB.below G7 hB.lt
      have L7 : Bk W7 B7 26 #[.int .i64 p, .int .i64 kk, .string ⟨sp.toArray⟩, .string ⟨nm.toArray⟩, .slice x4 la.length c4, .slice x5 ls.length c5, .string ⟨tx.toArray⟩] := by rw [HW7, HB7]; exact Bk.new _ _ _
      have Z7 : ZZ Z wr W7 B7 := .inr ⟨by omega, by rw [HW7, HB7]; simp⟩
      have hdd : es.getD k .bad = .agg [.int .i64 p, .int .i64 kk, .str sp, .str nm, .list la, .list ls, .str tx] := hei
      clear hS hNG hB hR
      generalize ZZ Z wr W7 = Z' at *
      go_wp2_with fail
      rw [← HB7, ← HW7]
      clear HW7 HB7
      have GW := S7.ge
      have HTK : (es.take k).length = k := by rw [List.length_take]; have := HN.out; omega
      clear G7 hG
      have hmem : es.getD k .bad ∈ es := by
        have hk' : k < es.length := by rw [← HN.out]; exact hlt2
        have : es.getD k .bad = es[k] := by simp [List.getD, hk']
        rw [this]
        exact List.getElem_mem hk'
      have hpp : -1 ≤ p ∧ p < 10000 := by
        have := hpr _ hmem
        rw [hdd] at this
        exact this
      have hpw : (Lit.int .i64 p).wf = true := WalkArith.wf_i64 (by omega)
      go_cut [18] from 18 to 80 (fun s wx => s = .int .i64 k ∧ R8 F es w bm k B7 #[.int .i64 p, .int .i64 kk, .string ⟨sp.toArray⟩, .string ⟨nm.toArray⟩, .slice x4 la.length c4, .slice x5 ls.length c5, .string ⟨tx.toArray⟩] (k + 1) (elF es k) (plF es k) wx)
      case first =>
        have b0 := T7.cell 0
        have b1 := L7.cell 0; have b2 := L7.cell 1; have b3 := L7.cell 2; have b4 := L7.cell 3; have b5 := L7.cell 4; have b6 := L7.cell 5; have b7 := L7.cell 6
        simp at b0 b1 b2 b3 b4 b5 b6 b7
        have c30 := copied_any p kk ⟨sp.toArray⟩ ⟨nm.toArray⟩ ⟨tx.toArray⟩ (.slice x4 la.length c4) (.slice x5 ls.length c5) la ls F
        go_region_law (first
          | (go_simp; go_at_call 30; (refine (c30 _ (lt_ge hlt (by first | exact GW | exact GW.drew)) (den_ge d4 hlt (by first | exact GW | exact GW.drew)) (den_ge d5 hlt (by first | exact GW | exact GW.drew)) s4 s5 (by omega) (by omega) rfl rfl).mono ?_); (rintro e W8 ⟨u4, u5, rfl, hb8, v4, v5, p4, p5⟩); (have S8 := ns_grow hlt (by first | exact S7 | exact ns_ge hlt S7 (ge_drew _)) hb8); (have N8 := ng_grow (by first | exact N7 | exact ng_ge N7 rfl (ge_drew _)) rfl hb8); (have T8 := Bk.below (by first | exact T7 | exact T7.drew) hb8 (by first | exact T7.lt | exact T7.drew.lt)); (have L8 := Bk.below (by first | exact L7 | exact L7.drew) hb8 (by first | exact L7.lt | exact L7.drew.lt)); (have V4 := zz_of_nw (Z := Z') v4); (have V5 := zz_of_nw (Z := Z') v5); (have b8 := T8.cell 0); (simp at b8); (have S8a := ns_ge hlt S8 (ge_alloc W8 (.cells #[.int .i64 p, .int .i64 kk, .string ⟨sp.toArray⟩, .string ⟨nm.toArray⟩, u4, u5, .string ⟨tx.toArray⟩] 26))); (obtain ⟨xs, g1, g2, g3⟩ := S8a.oN); (have h7 : ∀ u ∈ [.int .i64 p, .int .i64 kk, .string ⟨sp.toArray⟩, .string ⟨nm.toArray⟩, u4, u5, .string ⟨tx.toArray⟩], u.oneCell' = true := by (intro u hu; simp only [List.mem_cons, List.not_mem_nil, or_false] at hu; rcases hu with rfl | rfl | rfl | rfl | rfl | rfl | rfl <;> first | rfl | exact p4 | exact p5)); (have hzb := fun b hb => (S8.z b hb).2.1); (have V4a := zden_ge hlt S8.ge hzb (ge_alloc W8 (.cells #[.int .i64 p, .int .i64 kk, .string ⟨sp.toArray⟩, .string ⟨nm.toArray⟩, u4, u5, .string ⟨tx.toArray⟩] 26)) V4); (have V5a := zden_ge hlt S8.ge hzb (ge_alloc W8 (.cells #[.int .i64 p, .int .i64 kk, .string ⟨sp.toArray⟩, .string ⟨nm.toArray⟩, u4, u5, .string ⟨tx.toArray⟩] 26)) V5); (have N8a := ng_ge N8 rfl (ge_alloc W8 (.cells #[.int .i64 p, .int .i64 kk, .string ⟨sp.toArray⟩, .string ⟨nm.toArray⟩, u4, u5, .string ⟨tx.toArray⟩] 26))); (have hxl := g1.1); (have T8a := T8.alloc (.cells #[.int .i64 p, .int .i64 kk, .string ⟨sp.toArray⟩, .string ⟨nm.toArray⟩, u4, u5, .string ⟨tx.toArray⟩] 26)); (have b9 : (W8.alloc (.cells #[.int .i64 p, .int .i64 kk, .string ⟨sp.toArray⟩, .string ⟨nm.toArray⟩, u4, u5, .string ⟨tx.toArray⟩] 26)).cell? ⟨bm + 1, 0, none⟩ = some vN := (T8a.cell 0).trans rfl); (have L8a := L8.alloc (.cells #[.int .i64 p, .int .i64 kk, .string ⟨sp.toArray⟩, .string ⟨nm.toArray⟩, u4, u5, .string ⟨tx.toArray⟩] 26)))
          | ((have e2 : ∀ (j : Nat) (u : Value), ([.int .i64 p, .int .i64 kk, .string ⟨sp.toArray⟩, .string ⟨nm.toArray⟩, u4, u5, .string ⟨tx.toArray⟩] : List Value)[j]? = some u → (W8.alloc (.cells #[.int .i64 p, .int .i64 kk, .string ⟨sp.toArray⟩, .string ⟨nm.toArray⟩, u4, u5, .string ⟨tx.toArray⟩] 26)).cell? ((⟨W8.heap.size, 0, none⟩ : Addr).add j) = some u := cell_one (w := W8) (cs := #[.int .i64 p, .int .i64 kk, .string ⟨sp.toArray⟩, .string ⟨nm.toArray⟩, u4, u5, .string ⟨tx.toArray⟩]) (t := 26)); (have e3 : (es.take k).length + 1 ≤ maxLen := by simp only [maxLen]; omega); (have e4 : ((es.take k).length + 1) * 112 ≤ 140737488355328 := by omega); (have e5 : bm + 1 + 1 ≤ (W8.alloc (.cells #[.int .i64 p, .int .i64 kk, .string ⟨sp.toArray⟩, .string ⟨nm.toArray⟩, u4, u5, .string ⟨tx.toArray⟩] 26)).heap.size := S8a.htw); (have e6 : ([.int .i64 p, .int .i64 kk, .string ⟨sp.toArray⟩, .string ⟨nm.toArray⟩, u4, u5, .string ⟨tx.toArray⟩] : List Value).length = 1 * 7 := rfl); (refine step_own (W8.alloc (.cells #[.int .i64 p, .int .i64 kk, .string ⟨sp.toArray⟩, .string ⟨nm.toArray⟩, u4, u5, .string ⟨tx.toArray⟩] 26)) rfl (.tmp 27) (.tmp 30) 22 rfl ei22 (bm + 1 + 1) vN (es.take k).length xs (by simp [Act.eval, Act.put]) g1 ⟨W8.heap.size, 0, none⟩ 1 1 [.int .i64 p, .int .i64 kk, .string ⟨sp.toArray⟩, .string ⟨nm.toArray⟩, u4, u5, .string ⟨tx.toArray⟩] (by simp [Act.eval, Act.put]) e6 e2 h7 e3 e4 e5 ?_); (intro A9 c9 W9 hc9 ho9 hg9 loc9); (have S9 := ns_node hlt S8a g2 g3 hxl (fun e he => isNode_len hs e (List.mem_of_mem_take he)) V4a V5a p4 p5 hg9 ho9 loc9); (have N9 := ng_N N8a rfl g1 hg9 loc9); (have T9 := T8a.grown hg9 (fun e => by have := (g1.lt _ e.symm).1; omega)); (have L9 := L8a.grown hg9 (fun e => (S8.z B7 (.inl Z7)).2.2.1 e.symm)); (have t9 := T9.cell 0); (have f9 := T9.free 0); (simp at t9)))
        all_goals (
          have hgp := grown_put (grown_refl W9 (some (bm + 1))) (p := ⟨bm + 1, 0, none⟩) rfl (.slice A9 ((es.take k).length + 1) c9)
          have S10 := S9.keep hlt hgp (fun b hb => by injection hb with hb; exact .inl hb.symm)
          have N10 := N9.keep rfl hgp (.inr (.inl rfl))
          have T10 := T9.put 0 (.slice A9 ((es.take k).length + 1) c9)
          have L10 := L9.other (p := ⟨bm + 1, 0, none⟩) (by have := (S8.z B7 (.inl Z7)).1; show B7 ≠ bm + 1; omega) (.slice A9 ((es.take k).length + 1) c9)
          have hcut8 : R8 F es w bm k B7 #[.int .i64 p, .int .i64 kk, .string ⟨sp.toArray⟩, .string ⟨nm.toArray⟩, .slice x4 la.length c4, .slice x5 ls.length c5, .string ⟨tx.toArray⟩] (k + 1) (elF es k) (plF es k) (W9.setCell ⟨bm + 1, 0, none⟩ (.slice A9 ((es.take k).length + 1) c9)) := by
            refine ⟨_, _, _, _, _, _, ?_, N10, hn', T10, L10, .inl Z7, hDm, hat⟩
            rw [take_one (by rw [← HN.out]; exact hlt2), hdd]
            exact S10
          clear hgp S10 N10 T10 L10
          rw [HTK] at hcut8
          go_wp2_with fail
          go_meet
          exact ⟨rfl, hcut8⟩)
      case rest =>
        obtain ⟨rfl, h8⟩ := hcut
        obtain ⟨Z8, vN8, vE8, vP8, n8, D8, S8, N8, hn8, T8, L8, Z7', hDm8, hat8⟩ := h8
        clear S7 N7 T7 L7 Z7 hat hDm hn' GW
        go_wp2_with fail
        go_cut [18] from 18 to 80 (fun s wx => s = .int .i64 k ∧ R8 F es w bm k B7 #[.int .i64 p, .int .i64 kk, .string ⟨sp.toArray⟩, .string ⟨nm.toArray⟩, .slice x4 la.length c4, .slice x5 ls.length c5, .string ⟨tx.toArray⟩] (k + 1) (elF es k) (plF es (k + 1)) wx)
        case first =>
          have b0 := T8.cell 0; have b1 := T8.cell 1; have b2 := T8.cell 2; have b3 := T8.cell 3
          have l0 := L8.cell 0
          simp at b0 b1 b2 b3 l0
          have N8d := ng_ge N8 rfl (ge_drew _)
          have S8d := ns_ge hlt S8 (ge_drew _)
          obtain ⟨v, zs, hrun, hat9, hoi, hzl, hback⟩ := N8d.gr.at kd3 (show Tryd.prog.underlying 57 = some (.map 3 39) by kernel_rfl) (show (zeroValue 39).run Tryd.prog wc.drew = .ok (.slice none 0 0) wc.drew by kernel_rfl) (by unfold maxLen; omega) (keyOf_int_mk (show Tryd.prog.underlying 3 = some (.int .i64) by kernel_rfl) hpw)
          have hzs : zs = rowF es p k := datL_eq hoi ((hat8 p).symm.trans hat9)
          obtain ⟨Av, cv, hv, hcv⟩ := own_form hoi.1
          subst hv
          have g1 := S8.oP.1
          have hpl : (plF es k).length = k := plF_len es k
          have HPL := Lib.hid hpl
          clear hpl
          have S8a := ns_ge hlt S8d (ge_alloc wc.drew (.cells #[.int .i64 zs.length] 3))
          have N8a := ng_ge N8d rfl (ge_alloc wc.drew (.cells #[.int .i64 zs.length] 3))
          have g1 := S8a.oP.1
          have T8a := T8.drew.alloc (.cells #[.int .i64 zs.length] 3)
          have L8a := L8.drew.alloc (.cells #[.int .i64 zs.length] 3)
          have t8 : (wc.drew.alloc (.cells #[.int .i64 zs.length] 3)).cell? ⟨bm + 1, 3, none⟩ = some vP8 := (T8a.cell 3).trans rfl
          have t8b : (wc.alloc (.cells #[.int .i64 zs.length] 3)).cell? ⟨bm + 1, 3, none⟩ = some vP8 := t8
          have e2 : ∀ (j : Nat) (u : Value), ([.int .i64 zs.length] : List Value)[j]? = some u → (wc.drew.alloc (.cells #[.int .i64 zs.length] 3)).cell? ((⟨wc.heap.size, 0, none⟩ : Addr).add j) = some u := cell_one (w := wc.drew) (cs := #[.int .i64 zs.length]) (t := 3)
          have e3 : (plF es k).length + 1 ≤ maxLen := by simp only [maxLen]; rw [HPL.out]; omega
          have e4 : ((plF es k).length + 1) * 8 ≤ 140737488355328 := by rw [HPL.out]; omega
          have e5 : bm + 1 + 1 ≤ (wc.drew.alloc (.cells #[.int .i64 zs.length] 3)).heap.size := S8a.htw
          have h7 : ∀ u ∈ ([.int .i64 zs.length] : List Value), u.oneCell' = true := by intro u hu; simp only [List.mem_cons, List.not_mem_nil, or_false] at hu; subst hu; rfl
          have hzw : (Lit.int .i64 (zs.length : Int)).wf = true := WalkArith.wf_i64 (by omega)
          have HZS := Lib.hid hzs
          clear hzs
          go_region_law (first
            | ((refine step_own (wc.drew.alloc (.cells #[.int .i64 zs.length] 3)) rfl (.tmp 38) (.tmp 47) 39 rfl ei39 (bm + 1 + 1) vP8 (plF es k).length ((plF es k).map (Value.int .i64)) (by simp [Act.eval, Act.put]) g1 ⟨wc.heap.size, 0, none⟩ 1 1 [.int .i64 zs.length] (by simp [Act.eval, Act.put]) rfl e2 h7 e3 e4 e5 ?_); (intro A9 c9 W9 hc9 ho9 hg9 loc9); (have S9 := S8a.appP hlt hg9 loc9 (S8a.oP.appended ho9 hzw)); (have N9 := ng_P N8a rfl g1 hg9 loc9); (have T9 := T8a.grown hg9 (fun e => by have := (g1.lt _ e.symm).1; omega)); (have L9 := L8a.grown hg9 (fun e => (S8.z B7 Z7').2.2.2.2 e.symm)); (have t9 := T9.cell 3); (have f9 := T9.free 3); (simp at t9)))
          all_goals (
            have hgp := grown_put (grown_refl W9 (some (bm + 1))) (p := ⟨bm + 1, 3, none⟩) rfl (.slice A9 ((plF es k).length + 1) c9)
            have S10 := S9.keep hlt hgp (fun b hb => by injection hb with hb; exact .inl hb.symm)
            have N10 := N9.keep rfl hgp (.inr (.inl rfl))
            have T10 := T9.put 3 (.slice A9 ((plF es k).length + 1) c9)
            have L10 := L9.other (p := ⟨bm + 1, 3, none⟩) (by have := (S8.z B7 Z7').1; show B7 ≠ bm + 1; omega) (.slice A9 ((plF es k).length + 1) c9)
            have hcut9 : R8 F es w bm k B7 #[.int .i64 p, .int .i64 kk, .string ⟨sp.toArray⟩, .string ⟨nm.toArray⟩, .slice x4 la.length c4, .slice x5 ls.length c5, .string ⟨tx.toArray⟩] (k + 1) (elF es k) (plF es (k + 1)) (W9.setCell ⟨bm + 1, 3, none⟩ (.slice A9 ((plF es k).length + 1) c9)) := by
              refine ⟨_, _, _, _, _, _, ?_, N10, hn8, T10, L10, Z7', hDm8, hat8⟩
              have hpp : plF es (k + 1) = plF es k ++ [(zs.length : Int)] := by
                rw [plF, hdd, HZS.out]
                rfl
              rw [hpp]
              exact S10
            clear hgp S10 N10 T10 L10
            go_wp2_with fail
            go_meet
            exact ⟨rfl, hcut9⟩)
        case rest =>
          obtain ⟨rfl, h9⟩ := hcut
          obtain ⟨Z9, vN9, vE9, vP9, n9, D9, S9, N9, hn9, T9, L9, Z9', hDm9, hat9⟩ := h9
          clear S8 N8 T8 L8 Z7' hat8 hDm8 hn8
          have l1 := L9.cell 1
          simp at l1
          have hndK : ndK (es.getD k .bad) = kk := by rw [hdd]; rfl
          have hndP : ndP (es.getD k .bad) = p := by rw [hdd]; rfl
          by_cases hkk : kk = 1
          · subst hkk
            have hkw : (Lit.int .i64 (k : Int)).wf = true := WalkArith.wf_i64 (by omega)
            have e2 : ∀ (W : World) (j : Nat) (u : Value), ([.int .i64 k] : List Value)[j]? = some u → (W.alloc (.cells #[.int .i64 k] 3)).cell? ((⟨W.heap.size, 0, none⟩ : Addr).add j) = some u := fun W => cell_one (w := W) (cs := #[.int .i64 k]) (t := 3)
            have h7 : ∀ u ∈ ([.int .i64 k] : List Value), u.oneCell' = true := by intro u hu; simp only [List.mem_cons, List.not_mem_nil, or_false] at hu; subst hu; rfl
            have hel := elF_len es k
            have S9a := ns_ge hlt S9 (ge_alloc wc (.cells #[.int .i64 k] 3))
            have N9a := ng_ge N9 rfl (ge_alloc wc (.cells #[.int .i64 k] 3))
            have g1 := S9a.oE.1
            have T9a := T9.alloc (.cells #[.int .i64 k] 3)
            have L9a := L9.alloc (.cells #[.int .i64 k] 3)
            have b1 := T9.cell 1
            simp at b1
            go_wp2_with (at_builtin; (refine app_own (wc.alloc (.cells #[.int .i64 k] 3)) rfl (.tmp 58) (.tmp 60) 39 rfl ei39 (bm + 1 + 1) vE9 (elF es k).length ((elF es k).map (Value.int .i64)) rfl g1 ⟨wc.heap.size, 0, none⟩ 1 1 [.int .i64 k] rfl rfl (e2 wc) h7 (by simp only [maxLen]; omega) (by omega) S9a.htw ?_); (intro A9 c9 W9 hc9 ho9 hg9 loc9); (have S10 := S9a.appE hlt hg9 loc9 (S9a.oE.appended ho9 hkw)); (have N10 := ng_E N9a rfl g1 hg9 loc9); (have T10 := T9a.grown hg9 (fun e => by have := (g1.lt _ e.symm).1; omega)); (have L10 := L9a.grown hg9 (fun e => (S9.z B7 Z9').2.2.2.1 e.symm)); (have t10 := T10.cell 1); (have f10 := T10.free 1); (simp at t10))
            have hgp := grown_put (grown_refl W9 (some (bm + 1))) (p := ⟨bm + 1, 1, none⟩) rfl (.slice A9 ((elF es k).length + 1) c9)
            have S11 := S10.keep hlt hgp (fun b hb => by injection hb with hb; exact .inl hb.symm)
            have N11 := N10.keep rfl hgp (.inr (.inl rfl))
            have T11 := T10.put 1 (.slice A9 ((elF es k).length + 1) c9)
            have L11 := L10.other (p := ⟨bm + 1, 1, none⟩) (by have := (S9.z B7 Z9').1; show B7 ≠ bm + 1; omega) (.slice A9 ((elF es k).length + 1) c9)
            have T11' : Bk (W9.setCell ⟨bm + 1, 1, none⟩ (.slice A9 ((elF es k).length + 1) c9)) (bm + 1) 59 #[vN9, .slice A9 ((elF es k).length + 1) c9, .map (some bm), vP9] := T11
            clear hgp S10 N10 T10 L10 t10 f10 S9 N9 T9 L9 S9a N9a T9a L9a g1 b1 ho9 hg9 loc9 T11 l1
            generalize W9.setCell ⟨bm + 1, 1, none⟩ (.slice A9 ((elF es k).length + 1) c9) = wd at *
            have b2 := T11'.cell 2
            have l0 := L11.cell 0
            simp at b2 l0
            have Sd := ns_ge hlt (ns_ge hlt S11 (ge_drew _)) (ge_alloc wd.drew (.cells #[.int .i64 k] 3))
            have Nd := ng_ge (ng_ge N11 rfl (ge_drew _)) rfl (ge_alloc wd.drew (.cells #[.int .i64 k] 3))
            have Td := T11'.drew.alloc (.cells #[.int .i64 k] 3)
            have l0d : (wd.alloc (.cells #[.int .i64 k] 3)).cell? ⟨B7, 0, none⟩ = some (.int .i64 p) := ((L11.alloc (.cells #[.int .i64 k] 3)).cell 0).trans rfl
            have b2d : (wd.alloc (.cells #[.int .i64 k] 3)).cell? ⟨bm + 1, 2, none⟩ = some (.map (some bm)) := (Td.cell 2).trans rfl
            obtain ⟨v, zs, hrun, hat10, hoi, hzl, hback⟩ := Nd.gr.at kd3 (show Tryd.prog.underlying 57 = some (.map 3 39) by kernel_rfl) (show (zeroValue 39).run Tryd.prog (wd.drew.alloc (.cells #[.int .i64 k] 3)) = .ok (.slice none 0 0) (wd.drew.alloc (.cells #[.int .i64 k] 3)) by kernel_rfl) (by unfold maxLen; omega) (keyOf_int_mk (show Tryd.prog.underlying 3 = some (.int .i64) by kernel_rfl) hpw)
            have hrun1 : (Instr.lookup 57 (.map (some bm)) (.int .i64 p) false).run Tryd.prog wd.drew = .ok v wd.drew := look_same Nd.gr ((Below.heap_alloc wd.drew _ bm N11.lt).symm) hrun
            have hrun2 : (Instr.lookup 57 (.map (some bm)) (.int .i64 p) false).run Tryd.prog (wd.alloc (.cells #[.int .i64 k] 3)).drew = .ok v (wd.alloc (.cells #[.int .i64 k] 3)).drew := hrun
            have hzs : zs = rowF es p k := datL_eq hoi ((hat9 p).symm.trans hat10)
            have HZS := Lib.hid hzs
            clear hzs
            have HRUN := Lib.hid hrun
            clear hrun
            have g1 := hoi.1
            have e5 : bm + 1 + 1 ≤ (wd.drew.alloc (.cells #[.int .i64 k] 3)).heap.size := Sd.htw
            have e3 : zs.length + 1 ≤ maxLen := by simp only [maxLen]; omega
            have e4 : (zs.length + 1) * 8 ≤ 140737488355328 := by omega
            have e2' := e2 wd.drew
            have hvB : some B7 ≠ v.ownBlock := fun e => look_shun Nd.gr Nd.sh HRUN.out _ e.symm (.inl Z9')
            have hB7 : bm + 1 < B7 := (S11.z B7 Z9').1
            have Ld := L11.drew.alloc (.cells #[.int .i64 k] 3)
            go_region_held_law (fun w' => w'.cell? ⟨bm + 1, 2, none⟩ = some (.map (some bm)) ∧ w'.cell? ⟨B7, 0, none⟩ = some (.int .i64 p)) (first | exact ⟨b2, l0⟩ | exact ⟨b2d, l0d⟩ | exact ⟨t12, l12⟩ | exact ⟨t13, l13⟩) (first
              | ((refine step_own (wd.drew.alloc (.cells #[.int .i64 k] 3)) rfl (.tmp 76) (.tmp 78) 39 rfl ei39 (bm + 1 + 1) v zs.length (zs.map (Value.int .i64)) (by simp [Act.eval, Act.put]) g1 ⟨wd.heap.size, 0, none⟩ 1 1 [.int .i64 k] (by simp [Act.eval, Act.put]) rfl e2' h7 e3 e4 e5 ?_); (intro A12 c12 W12 hc12 ho12 hg12 loc12); (have hap := hoi.appended ho12 hkw); (obtain ⟨W13, hrun13, hgr13, hg13⟩ := hback W12 (.slice A12 (zs.length + 1) c12) (zs ++ [(k : Int)]) hg12 hap (by simp; omega) (loc12.imp id fun h => ⟨_, h, Nat.le_refl _⟩)); (have l12 : W12.cell? ⟨B7, 0, none⟩ = some (.int .i64 p) := ((Ld.grown hg12 hvB).cell 0).trans rfl); (have T12 := Td.grown hg12 (fun e => by have := (g1.lt _ e.symm).1; omega)); (have L12 := Ld.grown hg12 hvB); (have t12 : W12.cell? ⟨bm + 1, 2, none⟩ = some (.map (some bm)) := (T12.cell 2).trans rfl); (have t13 : W13.cell? ⟨bm + 1, 2, none⟩ = some (.map (some bm)) := ((T12.grown hg13 (fun e => by injection e with e; omega)).cell 2).trans rfl); (have l13 : W13.cell? ⟨B7, 0, none⟩ = some (.int .i64 p) := ((L12.grown hg13 (fun e => by injection e with e; omega)).cell 0).trans rfl)))
            all_goals (
              obtain ⟨q1, q2, q3⟩ := group_put hlt Sd Nd HRUN.out hoi hg12 loc12 hrun13 hg13 hgr13 hpw (by unfold maxLen; omega)
              have HR : NR F es w bm (bm + 1) (k + 1) W13 := by
                refine ⟨Z9, vN9, _, vP9, n9 + 1, _, ?_, q2, by omega, q3 _ Td, hDm9.put _ _, fun key => ?_⟩
                · rw [elF, if_pos hndK]
                  exact q1
                · rw [rowF]
                  by_cases hkey : key = p
                  · subst hkey
                    rw [if_pos ⟨hndK, hndP⟩, atKey_put_same hDm9 (show WideAt.IsKeyLit (.int .i64 key) from trivial), hap.datum_pos (by simp), HZS.out]
                    unfold datL
                    rw [if_neg (by simp)]
                  · rw [if_neg (by rw [hndP]; exact fun h => hkey h.2.symm), atKey_put_other (fun e => hkey (by injection e))]
                    exact hat9 key
              clear q1 q2 q3 hap hgr13 hg13 hrun13
              go_wp2_with fail
              exact ⟨⟨k + 1, by simp, hlt2, HR⟩, by simp [intOf]; omega⟩)
          · have hkb : (kk == 1) = false := by simpa using hkk
            have HR : NR F es w bm (bm + 1) (k + 1) wc := by
              refine ⟨Z9, vN9, vE9, vP9, n9, D9, ?_, N9, by omega, T9, hDm9, fun key => ?_⟩
              · rw [elF, if_neg (by rw [hndK]; exact hkk)]
                exact S9
              · rw [rowF, if_neg (by rw [hndK]; exact fun h => hkk h.1)]
                exact hat9 key
            clear S9 N9 T9 L9 Z9' hDm9 hat9 hn9
            go_wp2_with fail
            exact ⟨⟨k + 1, by simp, hlt2, HR⟩, by simp [intOf]; omega⟩
end Go.Av
