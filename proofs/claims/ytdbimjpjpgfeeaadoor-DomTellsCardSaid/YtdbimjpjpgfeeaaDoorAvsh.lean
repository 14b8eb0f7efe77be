/- The evaluator, in one text: over any program; no conditions but those that each law names. -/
import Derived.Test.YtdbimjpjpgfeeaaDoorAvsg
set_option linter.unusedSimpArgs false
set_option linter.unusedVariables false
set_option linter.unusedSectionVars false
/- Chapter 11: DomTells: the walk of the law. -/
set_option linter.unusedVariables false
set_option linter.unusedSimpArgs false
set_option maxRecDepth 100000
namespace Go.Av
open Go.Proofs Go.RowKit Go.Proofs.YtdbimjpjpgfeeaaDoor
section
variable {ns : List Nd} {w : World} {v0 : Value} {nn : Int} {sp nm : ByteArray} {tb to_ : Nat}
theorem c7 (hg : GOK (old w) w) : Calls Tryd.prog 7 #[] w fun e w' => e = .returned (.bool true) ∧ Ge w w' :=
  (ev (vals := []) sp11C hg rfl (fun i v x h => by simp at h)).mono fun e w' h => ret_bool h
theorem c8 (hB : BigD ns) (hg : GOK (old w) w) (hd : Den0 (old w) w v0 (.list (ns.map Nd.d))) : Calls Tryd.prog 8 #[v0] w fun e w' => e = .returned (.tuple #[.int .i64 (chkF ns).1, .int .i64 (chkF ns).2]) ∧ Ge w w' :=
  (ev (vals := [v0]) (rcheck_L (chk := chkC) ns hB) hg rfl (fun i v x h1 h2 => by
    match i with
    | 0 => simp at h1 h2; subst h1; subst h2; exact hd
    | i + 1 => simp at h1)).mono fun e w' h => ret_ii h
theorem c9 (hg : GOK (old w) w) (hd : Den0 (old w) w v0 (.list (ns.map Nd.d))) : Calls Tryd.prog 9 #[v0, .int .i64 200] w fun e w' => e = .returned (.bool (greatF ns 200)) ∧ Ge w w' :=
  (ev (vals := [v0, .int .i64 200]) (great_L (chk := chkC) ns 200 (by decide)) hg rfl (fun i v x h1 h2 => by
    match i with
    | 0 => simp at h1 h2; subst h1; subst h2; exact hd
    | 1 => simp at h1 h2; subst h1; subst h2; exact .int _ _
    | i + 2 => simp at h1)).mono fun e w' h => ret_bool h
theorem c21 (hS : SmallD ns) (hg : GOK (old w) w) (hd : Den0 (old w) w v0 (.list (ns.map Nd.d))) (ht : Den0 (old w) w (.pointer (some ⟨tb, to_, none⟩)) (treeN ns)) (k : Int) :
    Calls Tryd.prog 21 #[.pointer (some ⟨tb, to_, none⟩), v0, .int .i64 k, .string sp, .string nm] w fun e w' => e = .returned (.bool true) ∧ Ge w w' :=
  (ev (vals := [.pointer (some ⟨tb, to_, none⟩), v0, .int .i64 k, .string sp, .string nm]) (tells_L (chk := chkC) ns k sp.data.toList nm.data.toList hS) hg rfl (fun i v x h1 h2 => by
    match i with
    | 0 => simp at h1 h2; subst h1; subst h2; exact ht
    | 1 => simp at h1 h2; subst h1; subst h2; exact hd
    | 2 => simp at h1 h2; subst h1; subst h2; exact .int _ _
    | 3 => simp at h1 h2; subst h1; subst h2; exact .str sp.data.toList
    | 4 => simp at h1 h2; subst h1; subst h2; exact .str nm.data.toList
    | i + 5 => simp at h1)).mono fun e w' h => ret_bool h
theorem c22 (hS : SmallD ns) (hg : GOK (old w) w) (ht : Den0 (old w) w (.pointer (some ⟨tb, to_, none⟩)) (treeN ns)) :
    Calls Tryd.prog 22 #[.pointer (some ⟨tb, to_, none⟩)] w fun e w' => ∃ a n c, e = .returned (.slice a n c) ∧ Ge w w' ∧ Den0 (old w') w' (.slice a n c) (.list ((elL ns ns.length).map (.int .i64))) :=
  (ev (vals := [.pointer (some ⟨tb, to_, none⟩)]) (elements_L (chk := chkC) ns hS.1) hg rfl (fun i v x h1 h2 => by
    match i with
    | 0 => simp at h1 h2; subst h1; subst h2; exact ht
    | i + 1 => simp at h1)).mono fun e w' h => by
      obtain ⟨a, n, c, h1, h2, h3⟩ := ret_list h
      exact ⟨a, n, c, h1, h2, h3.grow fun b o h => h.elim (fun h => Nat.lt_of_lt_of_le h h2.size) fun h => h.2⟩
theorem c23 (hS : SmallD ns) (hg : GOK (old w) w) (hd : Den0 (old w) w v0 (.list (ns.map Nd.d))) :
    Calls Tryd.prog 23 #[v0] w fun e w' => ∃ a n c, e = .returned (.slice a n c) ∧ Ge w w' ∧ Den0 (old w') w' (.slice a n c) (.list ((elL ns ns.length).map (.int .i64))) :=
  (ev (vals := [v0]) (relements_L (chk := chkC) ns hS.1) hg rfl (fun i v x h1 h2 => by
    match i with
    | 0 => simp at h1 h2; subst h1; subst h2; exact hd
    | i + 1 => simp at h1)).mono fun e w' h => by
      obtain ⟨a, n, c, h1, h2, h3⟩ := ret_list h
      exact ⟨a, n, c, h1, h2, h3.grow fun b o h => h.elim (fun h => Nat.lt_of_lt_of_le h h2.size) fun h => h.2⟩
theorem c16 {zs : List Int} {v1 v2 : Value} (hl : zs.length ≤ 1000000) (hg : GOK (old w) w) (h1 : Den0 (old w) w v1 (.list (zs.map (.int .i64)))) (h2 : Den0 (old w) w v2 (.list (zs.map (.int .i64)))) :
    Calls Tryd.prog 16 #[v1, v2] w fun e w' => e = .returned (.bool true) ∧ Ge w w' := by
  have h := usame_L (chk := chkC) zs zs hl hl
  rw [decide_eq_true rfl] at h
  exact (ev (vals := [v1, v2]) h hg rfl (fun i v x q1 q2 => by
    match i with
    | 0 => simp at q1 q2; subst q1; subst q2; exact h1
    | 1 => simp at q1 q2; subst q1; subst q2; exact h2
    | i + 2 => simp at q1)).mono fun e w' h => ret_bool h
theorem c19 (hS : SmallD ns) (hd : Den0 (old w) w v0 (.list (ns.map Nd.d))) :
    Calls Tryd.prog 19 #[v0] w fun e w' => ∃ a n c, e = .returned (.slice a n c) ∧ Ge w w' ∧ Den0 (nw noF w w') w' (.slice a n c) (.list (ns.map Nd.d)) ∧ NewDoc w.heap.size w'.heap.size ns.length (.slice a n c) w' :=
  (lcopied_new (ns.map Nd.d) (old w) noF w v0 (old_lt w) (noF_lt w) (plainN ns) hd (nodesOk_inv (nodes_ok hS.small)).1 (by rw [List.length_map]; have := hS.1; omega)).mono fun e w' h => by
    obtain ⟨u, h1, h2, h3, h4⟩ := h
    rw [List.length_map] at h4
    obtain ⟨A, C, rfl, _⟩ := id h4
    exact ⟨A, _, C, h1, h2, h3, h4⟩
theorem c12 (hS : SmallD ns) (hz : chkF ns = (0, 0)) (hg : GOK (old w) w) (hd : Den0 (old w) w v0 (.list (ns.map Nd.d))) :
    Calls Tryd.prog 12 #[v0] w fun e w' => ∃ b o, e = .returned (.tuple #[.pointer (some ⟨b, o, none⟩), .nilIface]) ∧ Ge w w' ∧ Den0 (nw noF w w') w' (.pointer (some ⟨b, o, none⟩)) (treeN ns) := by
  obtain ⟨h1, h2⟩ := nodesOk_inv (nodes_ok hS.small)
  have hc := check_L (chk := chkC) ns hS
  rw [hz] at hc
  refine (new_gen (ns.map Nd.d) (old w) noF w v0 (old_lt w) (noF_lt w) (fun W hW p k sp nm la ls tx hm => ⟨Keep.leaf ((plainN ns) _ _ _ _ _ _ _ hm).1, Keep.leaf ((plainN ns) _ _ _ _ _ _ _ hm).2⟩) hd h1 h2 (rangeOk_inv (range_ok hS hz)) ?_).mono fun e w' h => ret_tree h
  refine (ev (vals := [v0]) hc hg rfl (fun i v x h1 h2 => by
    match i with
    | 0 => simp at h1 h2; subst h1; subst h2; exact hd
    | i + 1 => simp at h1)).mono ?_
  rintro e w' ⟨v, rfl, hb, hv⟩
  have hv' : Den 0 (fun _ _ => 0) (nw (old w) w w') w' v (.con .nilIface) := hv 0 fun _ _ => 0
  rw [den_con hv']
  exact ⟨rfl, hb⟩
end
end Go.Av
/- Chapter 11: DomTells: the walk of the law, put together. -/
set_option linter.unusedVariables false
set_option linter.unusedSimpArgs false
set_option maxRecDepth 100000
namespace Go.Av
open Go.Proofs Go.RowKit Go.Proofs.YtdbimjpjpgfeeaaDoor
theorem law5_early {W : World} {ns : List Nd} {a0 : Option Addr} {c0 : Nat} {nn : Int} {sp nm : ByteArray} (hB : BigD ns) (hg : GOK (old W) W) (hd : Den0 (old W) W (.slice a0 ns.length c0) (.list (ns.map Nd.d)))
    (h : greatF ns 200 = true ∨ 200 < sp.size ∨ 200 < nm.size ∨ (chkF ns).1 ≠ 0) : Calls Tryd.prog 5 #[.slice a0 ns.length c0, .int .i64 nn, .string sp, .string nm] W fun e W' => e = .returned (.bool true) ∧ Ge W W' := by
  have C7 := @c7
  have C8 := fun w => @c8 ns w (.slice a0 ns.length c0) hB
  have C9 := fun w => @c9 ns w (.slice a0 ns.length c0)
  generalize hG : greatF ns 200 = G at *
  generalize hk1 : (chkF ns).1 = k1 at *
  generalize (chkF ns).2 = k2 at *
  cases G with
  | true =>
    clear h
    go_enter Tryd.func5, Tryd.ntmps5
    go_wp2_with (first
      | (go_at_call 7; refine (C7 hg).mono ?_; rintro e w1 ⟨rfl, b1⟩)
      | (go_at_call 8; refine (C8 _ (gok_ge hg b1) (old_ge hd b1)).mono ?_; rintro e w2 ⟨rfl, b2⟩; have b12 := b1.tr b2)
      | (go_at_call 9; refine (C9 _ (gok_ge hg b12) (old_ge hd b12)).mono ?_; rintro e w3 ⟨rfl, b3⟩))
    go_ret
    exact ⟨rfl, b12.tr b3⟩
  | false =>
    by_cases h1 : 200 < sp.size
    · have h1' : decide ((200 : Int) < sp.size) = true := decide_eq_true (by omega)
      clear h
      go_enter Tryd.func5, Tryd.ntmps5
      go_wp2_with (first
        | (go_at_call 7; refine (C7 hg).mono ?_; rintro e w1 ⟨rfl, b1⟩)
        | (go_at_call 8; refine (C8 _ (gok_ge hg b1) (old_ge hd b1)).mono ?_; rintro e w2 ⟨rfl, b2⟩; have b12 := b1.tr b2)
        | (go_at_call 9; refine (C9 _ (gok_ge hg b12) (old_ge hd b12)).mono ?_; rintro e w3 ⟨rfl, b3⟩))
      go_ret
      exact ⟨rfl, b12.tr b3⟩
    · have h1' : decide ((200 : Int) < sp.size) = false := decide_eq_false (by omega)
      by_cases h2 : 200 < nm.size
      · have h2' : decide ((200 : Int) < nm.size) = true := decide_eq_true (by omega)
        clear h
        go_enter Tryd.func5, Tryd.ntmps5
        go_wp2_with (first
          | (go_at_call 7; refine (C7 hg).mono ?_; rintro e w1 ⟨rfl, b1⟩)
          | (go_at_call 8; refine (C8 _ (gok_ge hg b1) (old_ge hd b1)).mono ?_; rintro e w2 ⟨rfl, b2⟩; have b12 := b1.tr b2)
          | (go_at_call 9; refine (C9 _ (gok_ge hg b12) (old_ge hd b12)).mono ?_; rintro e w3 ⟨rfl, b3⟩))
        go_ret
        exact ⟨rfl, b12.tr b3⟩
      · have h2' : decide ((200 : Int) < nm.size) = false := decide_eq_false (by omega)
        have h3 : k1 ≠ 0 := by
          rcases h with h | h | h | h
          · cases h
          · exact absurd h h1
          · exact absurd h h2
          · exact h
        have h3' : (k1 != 0) = true := by simpa using h3
        clear h h3
        go_enter Tryd.func5, Tryd.ntmps5
        go_wp2_with (first
          | (go_at_call 7; refine (C7 hg).mono ?_; rintro e w1 ⟨rfl, b1⟩)
          | (go_at_call 8; refine (C8 _ (gok_ge hg b1) (old_ge hd b1)).mono ?_; rintro e w2 ⟨rfl, b2⟩; have b12 := b1.tr b2)
          | (go_at_call 9; refine (C9 _ (gok_ge hg b12) (old_ge hd b12)).mono ?_; rintro e w3 ⟨rfl, b3⟩))
        go_ret
        exact ⟨rfl, b12.tr b3⟩
theorem after_spoil {W w3 w4 w5 w6 : World} (b3 : Ge W w3) (b4 : Ge w3 w4) (b5 : Ge w4 w5) (B6 : Betw w3.heap.size w4.heap.size w5 w6) : Ge W w6 ∧ (∀ v d, Den0 (old W) W v d → Den0 (old w6) w6 v d) ∧ (∀ v d, Den0 (nw noF w4 w5) w5 v d → Den0 (old w6) w6 v d) := by
  have g5 : Ge W w5 := (b3.tr b4).tr b5
  have s6 := B6.size
  have s5 := g5.size
  have s3 := b3.size
  have s4 := b4.size
  have s45 := b5.size
  refine ⟨⟨B6.os.trans g5.os, B6.tape.trans g5.tape, B6.output.trans g5.output, by omega, fun b hb => (B6.block b (by omega)).trans (g5.block b hb)⟩, fun v d h => ?_, fun v d h => ?_⟩
  · have h3 := old_ge h b3
    have h5 := den_ge h3 (old_lt w3) (b4.tr b5)
    have h6 := betw_den B6 (fun b o (hb : b < w3.heap.size) => by omega) h5
    exact h6.grow fun b o (hb : b < w3.heap.size) => (by show b < w6.heap.size; omega)
  · have h6 := betw_den B6 (fun b o hb => by rcases hb with hb | hb; exact hb.elim; omega) h
    exact h6.grow fun b o hb => by
      rcases hb with hb | hb
      · exact hb.elim
      · show b < w6.heap.size
        omega
set_option maxHeartbeats 8000000 in
theorem law5_late {W : World} {ns : List Nd} {a0 : Option Addr} {c0 : Nat} {nn : Int} {sp nm : ByteArray} (hB : BigD ns) (hg : GOK (old W) W) (hd : Den0 (old W) W (.slice a0 ns.length c0) (.list (ns.map Nd.d)))
    (hG : greatF ns 200 = false) (h1 : ¬ 200 < sp.size) (h2 : ¬ 200 < nm.size) (h3 : (chkF ns).1 = 0) : Calls Tryd.prog 5 #[.slice a0 ns.length c0, .int .i64 nn, .string sp, .string nm] W fun e W' => e = .returned (.bool true) ∧ Ge W W' := by
  have hS := great_smallD hG (by decide)
  have hz : chkF ns = (0, 0) := chkG_zero h3
  have h1' : decide ((200 : Int) < sp.size) = false := decide_eq_false (by omega)
  have h2' : decide ((200 : Int) < nm.size) = false := decide_eq_false (by omega)
  have C7 := @c7
  have C8 := fun w => @c8 ns w (.slice a0 ns.length c0) hB
  have C9 := fun w => @c9 ns w (.slice a0 ns.length c0)
  rw [hz] at C8
  simp only [hG] at C9
  have C19 := fun w => @c19 ns w (.slice a0 ns.length c0) hS
  have C12 := fun w v => @c12 ns w v hS hz
  have C21 := fun w tb to_ => @c21 ns w (.slice a0 ns.length c0) sp nm tb to_ hS
  have C22 := fun w tb to_ => @c22 ns w tb to_ hS
  have C23 := fun w => @c23 ns w (.slice a0 ns.length c0) hS
  have C16 := fun w v1 v2 hg h1 h2 => @c16 w (elL ns ns.length) v1 v2 (by have := elL_len (ns := ns) (m := ns.length); have := hS.1; omega) hg h1 h2
  have hn : ns.length ≤ 1000000 := by have := hS.1; omega
  generalize hNN : ns.length = N at *
  have HB := Lib.hid hB
  clear hB hG h1 h2 h3
  go_enter Tryd.func5, Tryd.ntmps5
  go_wp2_with (first
    | (go_at_call 7; refine (C7 hg).mono ?_; rintro e w1 ⟨rfl, b1⟩)
    | (go_at_call 8; refine (C8 _ (gok_ge hg b1) (old_ge hd b1)).mono ?_; rintro e w2 ⟨rfl, b2⟩; have b12 := b1.tr b2)
    | (go_at_call 9; refine (C9 _ (gok_ge hg b12) (old_ge hd b12)).mono ?_; rintro e w3 ⟨rfl, b3⟩; have b13 := b12.tr b3)
    | (go_at_call 19; refine (C19 _ (old_ge hd b13)).mono ?_; rintro e w4 ⟨a4, n4, d4, rfl, b4, hu, hN4⟩; have b14 := b13.tr b4; have hu4 := hu.grow (F' := old w4) (fun b o h => h.elim (fun h => h.elim) fun h => h.2))
    | (go_at_call 12; refine (C12 _ _ (gok_ge hg b14) hu4).mono ?_; rintro e w5 ⟨tb, to_, rfl, b5, ht⟩; have b15 := b14.tr b5; have hN5 := hN4.ge b5)
    | (go_at_call 20; refine (spoil_any _ _ _ _ _ hn hN5).mono ?_; rintro e w6 ⟨rfl, B6⟩))
  obtain ⟨g6, k1, k2⟩ := after_spoil b13 b4 b5 B6
  have hd6 := k1 _ _ hd
  have ht6 := k2 _ _ ht
  have hg6 : GOK (old w6) w6 := ⟨fun g => (hg.1 g).imp id fun d => k1 _ _ d, fun x hx => (hg.2 x hx).imp fun _ hd => ⟨hd.1, k1 _ _ hd.2⟩⟩
  clear k1 k2 B6 hN5 hN4 hu hu4 ht b15 b14 b13 b12 b5 b4 b3 b2 b1 hd hg C12 C19 C7 C8 C9
  go_loopw [55] (fun v wr => ∃ i : Nat, v = .int .i64 i ∧ i ≤ N ∧ Ge w6 wr) (fun v _ => N - (intOf v).toNat)
  case atStart => exact ⟨0, rfl, Nat.zero_le _, Below.refl _ _⟩
  case round =>
    obtain ⟨i, rfl, hi, hb⟩ := hrel
    by_cases hlt : i < N
    · go_wp2_with (go_at_call 21; refine (C21 _ _ _ (gok_ge hg6 hb) (old_ge hd6 hb) (old_ge ht6 hb) _).mono ?_; rintro e w7 ⟨rfl, b7⟩)
      exact ⟨⟨i + 1, by simp, hlt, hb.tr b7⟩, by simp [intOf]; omega⟩
    · obtain rfl : i = N := by omega
      go_wp2_with (first
        | (go_at_call 21; refine (C21 _ _ _ (gok_ge hg6 hb) (old_ge hd6 hb) (old_ge ht6 hb) _).mono ?_; rintro e w7 ⟨rfl, b7⟩; have b67 := hb.tr b7)
        | (go_at_call 22; refine (C22 _ _ _ (gok_ge hg6 b67) (old_ge ht6 b67)).mono ?_; rintro e w8 ⟨a8, n8, d8, rfl, b8, l8⟩; have b68 := b67.tr b8)
        | (go_at_call 23; refine (C23 _ (gok_ge hg6 b68) (old_ge hd6 b68)).mono ?_; rintro e w9 ⟨a9, n9, d9, rfl, b9, l9⟩; have b69 := b68.tr b9)
        | (go_at_call 16; refine (C16 _ _ _ (gok_ge hg6 b69) (old_ge l8 b9) l9).mono ?_; rintro e w10 ⟨rfl, b10⟩))
      go_ret
      exact ⟨rfl, g6.tr (b69.tr b10)⟩
theorem law5_any {W : World} {v0 : Value} {ns : List Nd} {nn : Int} {sp nm : ByteArray} (hB : BigD ns) (hg : GOK (old W) W) (hd : Den0 (old W) W v0 (.list (ns.map Nd.d))) :
    Calls Tryd.prog 5 #[v0, .int .i64 nn, .string sp, .string nm] W fun e W' => e = .returned (.bool true) ∧ Ge W W' := by
  obtain ⟨a0, c0, rfl⟩ : ∃ a c, v0 = .slice a ns.length c := by
    cases hd with
    | list a n c sz es vs h1 => exact ⟨a, c, by rw [← h1, List.length_map]⟩
  by_cases h : greatF ns 200 = true ∨ 200 < sp.size ∨ 200 < nm.size ∨ (chkF ns).1 ≠ 0
  · exact law5_early hB hg hd h
  · simp only [not_or, Bool.not_eq_true, Classical.not_not] at h
    exact law5_late hB hg hd h.1 h.2.1 h.2.2.1 h.2.2.2
end Go.Av
