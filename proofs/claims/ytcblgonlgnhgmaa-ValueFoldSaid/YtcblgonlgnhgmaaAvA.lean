/- Append, in the words of abstract values. Over any program; no conditions. -/
import Derived.Test.YtcblgonlgnhgmaaAvW
set_option linter.unusedVariables false
set_option linter.unusedSimpArgs false
set_option linter.unusedSectionVars false
namespace Go.Av
open Go.RowKit
variable [Gs]

section
variable {P : Program} {c : Nat} {ν : Nat → Nat → Nat} {F : Nat → Nat → Prop} {w : World}

theorem run_app0 (w : World) {t ty e : TypeId} {sz n cp m' : Nat} {a b : Option Addr} (ht : P.underlying t = some (.slice e)) (hsz : sizeT P e = some sz) (hn : n ≤ cp) :
    (Builtin.append_ #[t, t] ty #[.slice a n cp, .slice b 0 m']).run P w = .ok (.slice a n cp) w := by
  have hc0 : ∀ ad : Addr, (loadCells ad 0).run P w = .ok #[] w := fun ad => by simp [loadCells, loadCellsFrom]
  cases a <;> cases b <;> simp [Builtin.append_, run_underlying ht, run_sizeOf_ hsz, Builtin.lenOf, Builtin.firstCells, hn, storeCells, hc0]

theorem run_append_ {ts : Array TypeId} {ty e : TypeId} {x y d : D} {r : List Room} {vx vy : Value} {cl : Option Nat} (hlt : Lt F w) (hx : Den c ν F w vx x) (hy : Den c ν F w vy y)
    (hown : ∀ es, x = .list es → Own P F w e vx es.length cl) (h : dappend P ts x y r = some (d, e)) :
    ∃ v' w' F' cl' es, d = .list es ∧ (Builtin.append_ ts ty #[vx, vy]).run P w = .ok v' w' ∧ Ext (fun b => cl = some b) F w F' w' ∧ Lt F' w' ∧ Den0 F' w' v' (.list es) ∧ Own P F' w' e v' es.length cl' ∧
      (∀ g, cl' = some g → cl = some g ∨ w.heap.size ≤ g) ∧ (∀ b o, F' b o → F b o ∨ w.heap.size ≤ b ∨ cl = some b) := by
  unfold dappend at h
  split at h
  · rename_i t u hts
    split at h
    · rename_i htu
      subst htu
      have hts' : ts = #[t, t] := by
        apply Array.ext'
        exact hts
      subst hts'
      split at h
      · rename_i e' es fs he
        split at h
        · rename_i i hi
          split at h
          · rename_i hcond
            obtain ⟨hb1, hb2, hb3, hb4, hb5⟩ := hcond
            obtain ⟨hby, hpos, z, hz, hzs⟩ := infoOk_spec hb2
            injection h with h
            injection h with h1 h2
            subst h1 h2
            have ht := elem_of he
            have hsz : sizeT P e' = some i.size := by simp [sizeT, hi]
            obtain ⟨ay, m, cy, news, rfl, hm, hmc, hfs, hnl, hncell, hnd⟩ := hy.list_.list_at hb3 hpos
            obtain ⟨ax, n, cx, olds, rfl, hn, hnc, hes, hol, hocell, hod⟩ := hx.list_.list_at hb4 hpos
            have hO := hown es rfl
            subst hn hm
            by_cases hf0 : fs = []
            · subst hf0
              exact ⟨_, w, F, cl, es, by simp, run_app0 w ht hsz hnc, Ext.refl _ _ _, hlt, hx.list_, hO, fun g hg => .inl hg, fun b o hF => .inl hF⟩
            · have hmp : 0 < fs.length := List.length_pos_iff.2 hf0
              have hnews : news ≠ [] := by
                intro e0
                rw [e0] at hnl
                have := Nat.mul_pos hmp hpos
                simp at hnl
                omega
              obtain ⟨b1, off1, rfl, hn1⟩ := hncell.resolve_left hnews
              have hone := den0_mem hn1
              have h1' : ∀ u ∈ olds ++ news, u.oneCell' = true := by
                intro u hu
                rcases List.mem_append.1 hu with hu | hu
                · rcases hocell with rfl | ⟨b, off, rfl, hc⟩
                  · simp at hu
                  · exact den0_mem hc u hu
                · exact hone u hu
              have hd' : ∀ (i : Nat) (v : Value) (x : D), (olds ++ news)[i]? = some v → (flat (es ++ fs))[i]? = some x → Den0 F w v x := by
                intro j v x hv hx
                rw [flat_append] at hx
                have hfl : (flat es).length = olds.length := by rw [flat_len hes, hol]
                by_cases hj : j < olds.length
                · rw [List.getElem?_append_left hj] at hv
                  rw [List.getElem?_append_left (by omega)] at hx
                  exact hod _ _ _ hv hx
                · rw [List.getElem?_append_right (by omega)] at hv hx
                  rw [hfl] at hx
                  exact hnd _ _ _ hv hx
              have hlen : (es.length + fs.length) * i.bytes ≤ 140737488355328 := by
                have : (es.length + fs.length) * i.bytes ≤ 1073741824 * 4096 := Nat.mul_le_mul hb1 hby
                omega
              -- a new row
              have grow : ∀ cap old : Nat, cx = old → old < es.length + fs.length → cap = grownCap w (es.length + fs.length) old e' →
                  (Builtin.append_ #[t, t] ty #[.slice ax es.length old, .slice (some ⟨b1, off1, none⟩) fs.length cy]).run P w =
                    .ok (.slice (some ⟨w.heap.size, 0, none⟩) (es.length + fs.length) cap) (w.drew.alloc (.cells (olds ++ news ++ (Builtin.zeroCells z.cells (cap - (es.length + fs.length))).toList).toArray e')) →
                  ∃ v' w' F' cl' es', D.list (es ++ fs) = .list es' ∧ (Builtin.append_ #[t, t] ty #[.slice ax es.length old, .slice (some ⟨b1, off1, none⟩) fs.length cy]).run P w = .ok v' w' ∧ Ext (fun b => cl = some b) F w F' w' ∧ Lt F' w' ∧ Den0 F' w' v' (.list es') ∧ Own P F' w' e' v' es'.length cl' ∧
                    (∀ g, cl' = some g → cl = some g ∨ w.heap.size ≤ g) ∧ (∀ b o, F' b o → F b o ∨ w.heap.size ≤ b ∨ cl = some b) := by
                intro cap old _ hlt' hcap hrun
                have hge : es.length + fs.length ≤ cap := by rw [hcap]; exact grownCap_ge w _ _ _
                obtain ⟨k1, k2, k3, k4⟩ := den_row (P := P) (F := F) (w := w.drew) (cap := cap) (m := es.length + fs.length) (e := e') (rest := (Builtin.zeroCells z.cells (cap - (es.length + fs.length))).toList)
                  hlt hi rfl hpos hes hfs hol hnl h1' (fun j v x hv hx => (hd' j v x hv hx).ext ((Ext.refl (fun _ => False) F w).drew)) rfl hge (by simp [size_zeroCells, hzs])
                refine ⟨_, _, _, some w.heap.size, es ++ fs, rfl, hrun, ?_, k2, k3, by rw [List.length_append]; exact k4, fun g hg => .inr (by injection hg with hg; rw [← hg]; exact Nat.le_refl _), ?_⟩
                · exact drew_ext (k1.weaken fun b _ hb => hb.elim)
                · rintro b o (hF | ⟨rfl, _⟩)
                  · exact .inl hF
                  · exact .inr (.inl (Nat.le_refl _))
              have h63 : ((es.length + fs.length : Nat) : Int) ≤ 9223372036854775807 := by omega
              have growRun : cx < es.length + fs.length → (Builtin.append_ #[t, t] ty #[.slice ax es.length cx, .slice (some ⟨b1, off1, none⟩) fs.length cy]).run P w =
                  .ok (.slice (some ⟨w.heap.size, 0, none⟩) (es.length + fs.length) (grownCap w (es.length + fs.length) cx e')) (w.drew.alloc (.cells (olds ++ news ++ (Builtin.zeroCells z.cells (grownCap w (es.length + fs.length) cx e' - (es.length + fs.length))).toList).toArray e')) := by
                intro hlt'
                have e1 : (olds ++ news ++ (Builtin.zeroCells z.cells (grownCap w (es.length + fs.length) cx e' - (es.length + fs.length))).toList).toArray = olds.toArray ++ news.toArray ++ Builtin.zeroCells z.cells (grownCap w (es.length + fs.length) cx e' - (es.length + fs.length)) := by
                  apply Array.ext'
                  simp
                rw [e1]
                cases ax with
                | some s0 =>
                  refine run_append_grow (P := P) w t ty e' i z ht hi hz s0 es.length cx olds hol ?_ ⟨b1, off1, none⟩ fs.length cy news hnl (cells_add hn1) hlt' h63 (growslice_fits hlt' hlen)
                  rcases hocell with rfl | ⟨b, off, hab, hc⟩
                  · intro j v hj; simp at hj
                  · injection hab with hab
                    subst hab
                    exact cells_add hc
                | none =>
                  have h0 : olds = [] := by
                    rcases hocell with h | ⟨b, off, hab, _⟩
                    · exact h
                    · cases hab
                  subst h0
                  have hes0 : es.length = 0 := by
                    rcases Nat.eq_zero_or_pos es.length with h | h
                    · exact h
                    · have := Nat.mul_pos h hpos
                      simp at hol
                      omega
                  have hcx0 : cx = 0 := by
                    cases cl with
                    | none =>
                      obtain ⟨a, ha⟩ := hO
                      injection ha with _ _ h3
                      rw [h3, hes0]
                    | some g =>
                      obtain ⟨cap, cur, i', ha, _⟩ := hO
                      injection ha with h1
                      cases h1
                  subst hcx0
                  rw [hes0]
                  simp only [Nat.zero_add]
                  have := run_append_nil (P := P) w t ty e' i z ht hi hz ⟨b1, off1, none⟩ fs.length cy news hnl (cells_add hn1) hmp (by omega) (by rw [hes0] at hlen; simp at hlen; omega)
                  simpa using this
              by_cases hroom : es.length + fs.length ≤ cx
              · cases cl with
                | none =>
                  obtain ⟨a, ha⟩ := hO
                  injection ha with _ _ h3
                  omega
                | some g =>
                  obtain ⟨cap, cur, i', hv, hg, hcap, hi', hcs, htail⟩ := hO
                  rw [hi] at hi'
                  injection hi' with hi'
                  subst hi'
                  injection hv with hv1 _ hv3
                  subst hv1 hv3
                  have hfit : es.length * i.size + news.length ≤ cur.size := by
                    rw [hnl, hcs, ← Nat.add_mul]
                    exact Nat.mul_le_mul_right _ hroom
                  have hrun := run_append_room (P := P) w t ty e' i ht hi g es.length cx cur hg ⟨b1, off1, none⟩ fs.length cy news hnl (cells_add hn1) hone hroom hfit
                  have hnewlen : (cur.toList.take (es.length * i.size) ++ news ++ cur.toList.drop (es.length * i.size + news.length)).length = cur.size := by
                    simp
                    omega
                  have hheap := setRow_heap w g cur (cur.toList.take (es.length * i.size) ++ news ++ cur.toList.drop (es.length * i.size + news.length)).toArray e' (0, 0) hg
                  have hglt : g < w.heap.size := by
                    apply Classical.byContradiction
                    intro hn
                    rw [Array.getElem?_eq_none (by omega)] at hg
                    cases hg
                  have hcell : ∀ o, (w.setRow g (cur.toList.take (es.length * i.size) ++ news ++ cur.toList.drop (es.length * i.size + news.length)).toArray).cell? ⟨g, o, none⟩ = (cur.toList.take (es.length * i.size) ++ news ++ cur.toList.drop (es.length * i.size + news.length))[o]? := fun o => by
                    rw [cell_of_row _ g o _ e' (0, 0) hheap]
                    simp
                  have hold : ∀ o, o < es.length * i.size → (w.setRow g (cur.toList.take (es.length * i.size) ++ news ++ cur.toList.drop (es.length * i.size + news.length)).toArray).cell? ⟨g, o, none⟩ = w.cell? ⟨g, o, none⟩ := fun o ho => by
                    rw [hcell o, cell_of_row w g o cur e' (0, 0) hg, List.append_assoc, List.getElem?_append_left (by simp; omega), List.getElem?_take, if_pos ho]
                    simp
                  have hE : Ext (fun b => some g = some b) F w (fixing F g ((es.length + fs.length) * i.size)) (w.setRow g (cur.toList.take (es.length * i.size) ++ news ++ cur.toList.drop (es.length * i.size + news.length)).toArray) := by
                    refine ⟨rfl, rfl, rfl, by simp [World.setRow], fun b _ hne => setRow_other w g b _ (fun e0 => hne (by rw [e0])), fun b o hF => .inl hF, fun b o hF => ?_⟩
                    by_cases hbg : b = g
                    · subst hbg
                      exact hold o (Nat.lt_of_not_le fun hle => htail o hle hF)
                    · exact World.cell?_of_block (a := ⟨b, o, none⟩) (setRow_other w g b _ hbg)
                  refine ⟨_, _, _, some g, es ++ fs, rfl, hrun, hE, ?_, ?_, ?_, fun g' hg' => .inl hg', ?_⟩
                  · rintro b o (hF | ⟨rfl, _⟩)
                    · have := hlt b o hF
                      simpa [World.setRow] using this
                    · simpa [World.setRow] using hglt
                  · refine .list _ _ _ i.size (es ++ fs) (olds ++ news) (by simp) hroom hpos ?_ (by simp [hol, hnl, Nat.add_mul]) (.inr ⟨g, 0, rfl, ?_⟩) ?_
                    · intro x hx
                      rcases List.mem_append.1 hx with hx | hx
                      · exact hes x hx
                      · exact hfs x hx
                    · intro j v hj
                      have hjl : j < (es.length + fs.length) * i.size := by
                        have := (List.getElem?_eq_some_iff.1 hj).1
                        rw [List.length_append, hol, hnl, ← Nat.add_mul] at this
                        exact this
                      refine ⟨.inr ⟨rfl, by omega⟩, ?_, h1' v (List.mem_of_getElem? hj)⟩
                      rw [Nat.zero_add]
                      by_cases hj0 : j < olds.length
                      · rw [hold j (by omega)]
                        rw [List.getElem?_append_left hj0] at hj
                        rcases hocell with h0 | ⟨b, off, hab, hc⟩
                        · rw [h0] at hj0; simp at hj0
                        · injection hab with hab
                          injection hab with hab1 hab2
                          subst hab1 hab2
                          have := (hc j v hj).2.1
                          simpa using this
                      · rw [hcell j, List.append_assoc, List.getElem?_append_right (by simp; omega)]
                        rw [List.getElem?_append_right (by omega)] at hj
                        have hl1 : (cur.toList.take (es.length * i.size)).length = olds.length := by
                          rw [hol, List.length_take]
                          have : cur.toList.length = cur.size := by simp
                          omega
                        rw [hl1, List.getElem?_append_left (by have := (List.getElem?_eq_some_iff.1 hj).1; omega)]
                        exact hj
                    · intro j v x hv hx
                      exact (hd' j v x hv hx).ext hE
                  · refine ⟨cx, _, i, by rw [List.length_append], hheap, by rw [List.length_append]; exact hroom, hi, ?_, ?_⟩
                    · have : (cur.toList.take (es.length * i.size) ++ news ++ cur.toList.drop (es.length * i.size + news.length)).toArray.size = cur.size := by
                        rw [List.size_toArray]
                        exact hnewlen
                      rw [this, hcs]
                    · rw [List.length_append]
                      rintro o ho (hF | ⟨_, hF⟩)
                      · exact htail o (Nat.le_trans (Nat.mul_le_mul_right _ (by omega)) ho) hF
                      · omega
                  · rintro b o (hF | ⟨rfl, _⟩)
                    · exact .inl hF
                    · exact .inr (.inr rfl)
              · exact grow _ cx rfl (by omega) rfl (growRun (by omega))
          · cases h
        · cases h
      · cases h
    · cases h
  · cases h
end
end Go.Av
