/- Chapter 11: a tree that is made reads as one. -/
import Derived.Test.YtdbimjpjpgfeeaaDoorAv11hb
set_option linter.unusedSimpArgs false
set_option linter.unusedVariables false
set_option maxRecDepth 100000
namespace Go.Av
open Go.Proofs Go.RowKit Go.Proofs.YtdbimjpjpgfeeaaDoor Go.Maps
open Go.WideElems (Fit rd rg rd_val rd_key)
theorem lits_inj {q : IntKind} {a b : List Int} (h : ChangeShapes.lits (H := Unit) q a = ChangeShapes.lits q b) : a = b := by
  unfold ChangeShapes.lits at h
  exact (List.map_inj_right (fun a b hab => by cases hab; rfl)).1 h
theorem datL_eq {w : World} {base : Nat} {e : TypeId} {v : Value} {zs ys : List Int} (ho : w.ownsInts base e .i64 v zs) (h : datL ys = rowDatum .i64 v zs) : zs = ys := by
  rcases ho.datum (H := Unit) with ⟨h1, rfl⟩ | h1
  · rw [h1] at h
    unfold datL at h
    split at h
    · rename_i hy; exact hy.symm
    · cases h
  · rw [h1] at h
    unfold datL at h
    split at h
    · cases h
    · injection h with h
      exact (lits_inj h).symm
theorem key_wf {kv : Value} {l : Lit} (h : keyOf Tryd.prog 3 kv = some l) : ∃ m : Int, kv = .int .i64 m ∧ (Lit.int .i64 m).wf = true := by
  have hk : Tryd.prog.underlying 3 = some (.int .i64) := by kernel_rfl
  cases kv with
  | int q m =>
    simp [keyOf, hk, mapKey] at h
    obtain ⟨⟨rfl, h1⟩, _⟩ := h
    exact ⟨m, rfl, h1⟩
  | _ => simp [keyOf, hk, mapKey] at h
theorem flat_i64 : ∀ zs : List Int, flat (zs.map (D.int .i64)) = zs.map (D.int .i64)
  | [] => rfl
  | z :: r => by
    have h := flat_i64 r
    unfold flat at h ⊢
    rw [List.map_cons, List.flatMap_cons, h]
    rfl
theorem ints_den {F : Nat → Nat → Prop} {w : World} {base : Nat} {v : Value} {zs : List Int} (h : w.ownsInts base 3 .i64 v zs) (hF : ∀ b o, base ≤ b → b < w.heap.size → F b o) : Den0 F w v (i64s zs) := by
  have hfl := flat_i64 zs
  refine own_den (.inr h.1) (by simp) (by decide) (fun e he => ?_) hF (fun u hu => ?_) (fun i u x hu hx => ?_)
  · obtain ⟨z, _, rfl⟩ := List.mem_map.1 he
    rfl
  · obtain ⟨z, _, rfl⟩ := List.mem_map.1 hu
    rfl
  · rw [hfl] at hx
    simp only [List.getElem?_map, Option.map_eq_some_iff] at hu hx
    obtain ⟨z, hz, rfl⟩ := hu
    obtain ⟨z', hz', rfl⟩ := hx
    rw [hz] at hz'
    obtain rfl := Option.some.inj hz'
    exact .int _ _
theorem rowF_none {es : List D} {z : Int} : ∀ {k : Nat}, k ≤ es.length → z ∉ es.map ndP → rowF es z k = []
  | 0, _, _ => rfl
  | k + 1, hk, h => by
    have hk' : k < es.length := hk
    have hm : ndP (es.getD k .bad) ∈ es.map ndP := by
      have : es.getD k .bad = es[k] := by simp [List.getD, hk']
      rw [this]
      exact List.mem_map.2 ⟨_, List.getElem_mem hk', rfl⟩
    have hn : ¬ (ndK (es.getD k .bad) = 1 ∧ ndP (es.getD k .bad) = z) := fun hh => h (by rw [← hh.2]; exact hm)
    rw [rowF, if_neg hn]
    exact rowF_none (Nat.le_of_succ_le hk) h
theorem kfind_map (z : Int) (f : Int → D) : ∀ es : List D, kfind z (es.map ndP) (es.map fun e => f (ndP e)) = if z ∈ es.map ndP then f z else .list []
  | [] => rfl
  | e :: es => by
    simp only [List.map_cons, kfind]
    by_cases h : ndP e = z
    · rw [if_pos h, if_pos (by simp [h]), h]
    · rw [if_neg h, kfind_map z f es]
      have : (z ∈ ndP e :: es.map ndP) ↔ z ∈ es.map ndP := by
        rw [List.mem_cons]
        exact ⟨fun hh => hh.elim (fun e => absurd e.symm h) id, .inr⟩
      simp only [this]
theorem kfind_rows (es : List D) (z : Int) : kfind z (es.map ndP) (es.map fun e => i64s (rowF es (ndP e) es.length)) = i64s (rowF es z es.length) := by
  rw [kfind_map z (fun q => i64s (rowF es q es.length))]
  split
  · rfl
  · rename_i h
    rw [rowF_none (Nat.le_refl _) h]
    rfl
theorem nr_den {F : Nat → Nat → Prop} {es : List D} {w : World} {bm : Nat} {wr : World} (hlt : Lt F w) (hs : ∀ e ∈ es, isNode e = true) (hL : es.length ≤ 10000) (hpr : ∀ e ∈ es, -1 ≤ ndP e ∧ ndP e < 10000) (h : NR F es w bm (bm + 1) es.length wr) :
    Ge w wr ∧ Den0 (nw F w wr) wr (.pointer (some ⟨bm + 1, 0, none⟩)) (treeD es) := by
  obtain ⟨Z, vN, vE, vP, n', DD, S, N, hn', hB, hDm, hat⟩ := h.ex
  refine ⟨S.ge, ?_⟩
  have hbm := S.hm
  have hF : ∀ b o, bm + 1 + 1 ≤ b → b < wr.heap.size → nw F w wr b o := fun b o h1 h2 => .inr ⟨by omega, h2⟩
  have hbt : bm + 1 < wr.heap.size := S.htw
  have dN : Den0 (nw F w wr) wr vN (.list es) := by
    obtain ⟨xs, g1, g2, g3⟩ := S.oN
    rw [List.take_length] at g1 g3
    refine own_den (.inr g1) rfl (by decide) (isNode_len hs) hF g2 fun i v x hv hx => (g3 i v x hv hx).grow fun b o h => h.imp id fun h => ?_
    have := S.z b h
    exact ⟨by omega, this.2.1⟩
  have dE := ints_den S.oE hF
  have dP := ints_den S.oP hF
  have key : ∀ z : Int, (Lit.int .i64 z).wf = true → ∃ v, (Instr.lookup 57 (.map (some bm)) (.int .i64 z) false).run Tryd.prog wr = .ok v wr ∧ wr.ownsInts (bm + 1 + 1) 3 .i64 v (rowF es z es.length) := by
    intro z hz
    obtain ⟨v, zs, hrun, hat9, hoi, hzl, hback⟩ := N.gr.at kd3 (show Tryd.prog.underlying 57 = some (.map 3 39) by kernel_rfl) (show (zeroValue 39).run Tryd.prog wr = .ok (.slice none 0 0) wr by kernel_rfl) (by unfold maxLen; omega) (keyOf_int_mk (show Tryd.prog.underlying 3 = some (.int .i64) by kernel_rfl) hz)
    have : zs = rowF es z es.length := datL_eq hoi ((hat z).symm.trans hat9)
    subst this
    exact ⟨v, hrun, hoi⟩
  have dM : Den0 (nw F w wr) wr (.map (some bm)) (.imap (es.map ndP) (es.map fun e => i64s (rowF es (ndP e) es.length))) := by
    obtain ⟨em, clock, hb, Fi, _⟩ := N.gr
    have hks : ∀ x ∈ em.toList, ∃ m : Int, x.key = .int .i64 m ∧ (Lit.int .i64 m).wf = true := fun x hx => by
      obtain ⟨y, hy⟩ := Fi.reads x hx
      exact key_wf (rd_key hy)
    have hks' : ∀ x ∈ em.toList, ∃ m : Int, x.key = .int .i64 m := fun x hx => (hks x hx).imp fun _ h => h.1
    refine .imap bm em clock _ _ hb (.inr ⟨hbm, by omega⟩) hks' (fun z hz => ?_) (fun j x z hj hxz hfirst => ?_)
    · rw [kfind_rows]
      by_cases hm : z ∈ es.map ndP
      · obtain ⟨e, he, rfl⟩ := List.mem_map.1 hm
        have hr := hpr e he
        obtain ⟨v, hrun, hoi⟩ := key (ndP e) (WalkArith.wf_i64 (by omega))
        obtain ⟨u, hu, hw⟩ := look_val (b := bm) (clock := clock) (ndP e) hks'
        have h1 := hu wr hb
        rw [hrun] at h1
        have : u = v := by injection h1 with h1; exact h1.symm
        subst this
        rcases hw with ⟨rfl, _⟩ | ⟨j, x, hj, hx, _⟩
        · have := hoi.unique (World.ownsInts_nil wr (bm + 1 + 1) 3 .i64)
          rw [this]
          rfl
        · exact absurd hx (hz x (List.mem_of_getElem? hj))
      · rw [rowF_none (Nat.le_refl _) hm]
        rfl
    · rw [kfind_rows]
      obtain ⟨m, hm, hwf⟩ := hks x (List.mem_of_getElem? hj)
      rw [hxz] at hm
      injection hm with _ hm
      subst hm
      obtain ⟨v, hrun, hoi⟩ := key z hwf
      obtain ⟨u, hu, hw⟩ := look_val (b := bm) (clock := clock) z hks'
      have h1 := hu wr hb
      rw [hrun] at h1
      have : u = v := by injection h1 with h1; exact h1.symm
      subst this
      rcases hw with ⟨rfl, hno⟩ | ⟨j', x', hj', hx', hv', hf'⟩
      · exact absurd hxz (hno x (List.mem_of_getElem? hj))
      · have hjj : j = j' := by
          rcases Nat.lt_trichotomy j j' with h | h | h
          · exact absurd hxz (hf' j x h hj)
          · exact h
          · exact absurd hx' (hfirst j' x' h hj')
        subst hjj
        rw [hj] at hj'
        obtain rfl := Option.some.inj hj'
        rw [hv']
        exact ints_den hoi hF
  refine Eq.mp (congrArg (fun z => Den0 _ _ (.pointer (some ⟨bm + 1, z, none⟩)) (treeD es)) (Nat.zero_add 0)) ?_
  refine Den0.fix (.agg [.list es, i64s (elF es es.length), .imap (es.map ndP) (es.map fun e => i64s (rowF es (ndP e) es.length)), i64s (plF es es.length)]) (bm + 1) 0 0 [vN, vE, .map (some bm), vP] rfl ?_ ?_
  · intro i v hv
    have hcell : wr.cell? ⟨bm + 1, 0 + i, none⟩ = some v := by
      rw [Nat.zero_add, hB.cell i]
      simpa using hv
    refine ⟨.inr ⟨by omega, hbt⟩, hcell, ?_⟩
    match i with
    | 0 => simp at hv; subst hv; cases dN; rfl
    | 1 => simp at hv; subst hv; cases dE; rfl
    | 2 => simp at hv; subst hv; rfl
    | 3 => simp at hv; subst hv; cases dP; rfl
    | i + 4 => simp at hv
  · intro i v x hv hx
    match i with
    | 0 => simp [dcells] at hv hx; subst hv; subst hx; exact dN
    | 1 => simp [dcells] at hv hx; subst hv; subst hx; exact dE
    | 2 => simp [dcells] at hv hx; subst hv; subst hx; exact dM
    | 3 => simp [dcells] at hv hx; subst hv; subst hx; exact dP
    | i + 4 => simp at hv
end Go.Av
