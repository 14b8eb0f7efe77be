/- The evaluator, in one text: over any program; no conditions but those that each law names. -/
import Derived.Test.YtaghfmgeccapbaaGreatDoorAvsa
import Derived.Test.YtaghfmgeccapbaaGreatDoorChecked
import Derived.Deep.QuietTactic
import Derived.BigQuiet
import Derived.Handy
import Derived.Laws.BytesArg
import Derived.Deep.RegionHeld3
import Derived.Test.YtaghfmgeccapbaaGreatDoorAvb
import Derived.LaidEql
import Derived.Stop.Asserts
import Derived.RowKitTokens
set_option linter.unusedSimpArgs false
set_option linter.unusedVariables false
set_option linter.unusedSectionVars false
set_option maxRecDepth 100000
namespace Go.Av
open Go.Proofs Go.RowKit Go.Proofs.YtaghfmgeccapbaaGreatDoor
variable [Rk]
def plainN : D → Bool
  | .agg [_, _, _, _, .list la, .list ls, _] => (flat la).all noPtr && (flat ls).all noPtr
  | _ => false
def docOk (es : List D) : Bool := nodesOk es && es.all plainN
theorem docOk_inv {es : List D} (h : docOk es = true) : (∀ e ∈ es, isNode e = true) ∧ es.length ≤ 10000 ∧ ∀ p k sp nm la ls tx, D.agg [.int .i64 p, .int .i64 k, .str sp, .str nm, .list la, .list ls, .str tx] ∈ es → (∀ x ∈ flat la, noPtr x = true) ∧ ∀ x ∈ flat ls, noPtr x = true := by
  unfold docOk at h
  simp only [Bool.and_eq_true] at h
  obtain ⟨h1, h2⟩ := nodesOk_inv h.1
  refine ⟨h1, h2, fun p k sp nm la ls tx hm => ?_⟩
  have := List.all_eq_true.1 h.2 _ hm
  simp only [plainN, Bool.and_eq_true, List.all_eq_true] at this
  exact this
abbrev TS := List D × Int × D
def cutAt (at_ : Bool) (es : List D) (i k : Nat) : Option (List D) := match es[i]? with
  | some (.agg [p, kk, sp, nm, .list la, .list ls, tx]) =>
    if at_ then (if k < la.length then some (es.set i (.agg [p, kk, sp, nm, .list (la.eraseIdx k), .list ls, tx])) else none)
    else (if k < ls.length then some (es.set i (.agg [p, kk, sp, nm, .list la, .list (ls.eraseIdx k), tx])) else none)
  | _ => none
def tryR : Option (D × List Room × List Bx) → Option (Bool × TS)
  | some (.bool b, _, [⟨_, [.list es, .int .i64 n, t], _⟩]) => some (b, es, n, t)
  | _ => none
def innerT (call : Call) (at_ : Bool) (i : Nat) : Nat → TS × Bool → Option (TS × Bool)
  | 0, s => if docOk s.1.1 = true then some s else none
  | k + 1, ((es, n, t), dn) => if docOk es = true then (match cutAt at_ es i k with
    | none => none
    | some es' => (match tryR (call 41 [.ptr (pid 0) 0 0, .list es', .int .i64 n] [⟨0, [.list es, .int .i64 n, t], []⟩]) with
      | none => none
      | some (b, s2) => innerT call at_ i k (s2, if b then true else dn))) else none
def lenAt (at_ : Bool) : Option D → Option Nat
  | some (.agg [_, _, _, _, .list la, .list ls, _]) => some (if at_ then la.length else ls.length)
  | _ => none
def outerT (call : Call) (at_ : Bool) : Nat → Nat → TS × Bool → Option (TS × Bool)
  | 0, _, s => if docOk s.1.1 = true then some s else none
  | j + 1, i, s => if docOk s.1.1 = true then (match lenAt at_ s.1.1[i]? with
    | none => none
    | some k => (match innerT call at_ i k s with
      | none => none
      | some s' => outerT call at_ j (i + 1) s')) else none
def StT (F : Nat → Nat → Prop) (w : World) (g0 : Nat) (wr : World) (s : TS) : Prop :=
  ∃ Fr, Ext (fun b => b = g0) F w Fr wr ∧ Lt Fr wr ∧ (∀ b o, Fr b o → F b o ∨ w.heap.size ≤ b) ∧ GOK Fr wr ∧ BoxAt Fr wr g0 [.list s.1, .int .i64 s.2.1, s.2.2]
theorem StT.box {F : Nat → Nat → Prop} {w wr : World} {g0 : Nat} {s : TS} (h : StT F w g0 wr s) : ∃ Fr a c, Lt Fr wr ∧ g0 < wr.heap.size ∧ wr.cell? ⟨g0, 0, none⟩ = some (.slice a s.1.length c) ∧ wr.cell? ⟨g0, 1, none⟩ = some (.int .i64 s.2.1) ∧ Den0 Fr wr (.slice a s.1.length c) (.list s.1) := by
  obtain ⟨Fr, hE, hlt, hn, hg, vs, t, rest, fr, ⟨h1, h0⟩, h2, h3, h4, h5⟩ := h
  match vs, h2 with
  | [v0, v1, v2], _ =>
    have d0 := h4 0 v0 _ rfl rfl
    have d1 := h4 1 v1 _ rfl rfl
    cases d1
    have hc := d0
    cases d0 with
    | list a n c sz es vs q1 q2 q3 q4 q5 q6 q7 =>
      rw [← q1] at h1 hc
      exact ⟨Fr, a, c, hlt, lt_of_heap h1, by rw [cell_of_row wr g0 0 _ t fr h1]; rfl, by rw [cell_of_row wr g0 1 _ t fr h1]; rfl, hc⟩
theorem StT.ge {F : Nat → Nat → Prop} {w wr w3 : World} {g0 : Nat} {s : TS} (h : StT F w g0 wr s) (hG : Ge wr w3) : StT F w g0 w3 s := by
  obtain ⟨Fr, hE, hlt, hn, hg, hb⟩ := h
  have hE2 := ext_nw hlt hG
  have hgl : g0 < wr.heap.size := by
    obtain ⟨vs, t, rest, fr, ⟨h1, _⟩, _⟩ := hb
    exact lt_of_heap h1
  refine ⟨nw Fr wr w3, hE.trans (hE2.weaken fun _ _ h => h.elim), lt_nw hlt hG, fun b o h => ?_, hg.ext hE2, hb.ext hE2 (fun b o h => h.elim .inl fun h => .inr (.inl h.1)) id⟩
  rcases h with h | h
  · exact hn b o h
  · exact .inr (Nat.le_trans hE.size h.1)
theorem StT.try_ {call : Call} (hc : CallOK Tryz.prog call) {F : Nat → Nat → Prop} {w wr w3 : World} {g0 : Nat} {s s2 : TS} {es' : List D} {b : Bool} {u : Value} (h : StT F w g0 wr s)
    (hr : tryR (call 41 [.ptr (pid 0) 0 0, .list es', .int .i64 s.2.1] [⟨0, [.list s.1, .int .i64 s.2.1, s.2.2], []⟩]) = some (b, s2)) (hG : Ge wr w3)
    (hd : ∀ F' : Nat → Nat → Prop, (∀ b o, wr.heap.size ≤ b → b < w3.heap.size → F' b o) → Den0 F' w3 u (.list es')) :
    Calls Tryz.prog 41 #[.pointer (some ⟨g0, 0, none⟩), u, .int .i64 s.2.1] w3 fun e w' => e = .returned (.bool b) ∧ StT F w g0 w' s2 := by
  obtain ⟨Fr, hE, hlt, hn, hg, hb⟩ := h
  have hE2 := ext_nw hlt hG
  have hgl : g0 < wr.heap.size := by
    obtain ⟨vs, t, rest, fr, ⟨h1, _⟩, _⟩ := hb
    exact lt_of_heap h1
  have hb2 : BoxAt (nw Fr wr w3) w3 g0 [.list s.1, .int .i64 s.2.1, s.2.2] := hb.ext hE2 (fun b o h => h.elim .inl fun h => .inr (.inl h.1)) id
  unfold tryR at hr
  split at hr
  · rename_i b' r' es2 n2 t2 rm heq
    simp only [Option.some.injEq, Prod.mk.injEq] at hr
    obtain ⟨rfl, rfl⟩ := hr
    have hco := (hc 41 _ _ _ _ _ heq).2 [.pointer (some ⟨g0, 0, none⟩), u, .int .i64 s.2.1] w3 (nw Fr wr w3) ⟨fun _ => g0, fun _ _ => none⟩ rfl ?_ ?_ ?_ (lt_nw hlt hG) (hg.ext hE2)
    · refine hco.mono ?_
      rintro e w' ⟨v, F', nc, rfl, hE3, hlt3, hn3, hv, hcl, hinj, hbx⟩
      have hS : ∀ b, (Gv.mk 1 ⟨fun _ => g0, fun _ _ => none⟩).S b → b = g0 := by
        rintro b (⟨i, _, h⟩ | ⟨i, o, _, h⟩)
        · exact h.symm
        · cases h
      refine ⟨?_, F', ((hE.trans (hE2.weaken fun _ _ h => h.elim)).trans (hE3.weaken fun b _ h => hS b h)), hlt3, fun b o h => ?_, (hg.ext hE2).ext hE3, (hbx 0 _ (by simp) rfl).1⟩
      · rcases hv with ⟨_, hv, _⟩ | ⟨h1, _⟩
        · have h0 := hv (fun _ => 0) (fun _ _ => 0)
          cases h0 with
          | pure _ _ h0 => cases h0; rfl
        · simp at h1
      · rcases hn3 b o h with h | h | h
        · rcases h with h | h
          · exact hn b o h
          · exact .inr (Nat.le_trans hE.size h.1)
        · exact .inr (Nat.le_trans (Nat.le_trans hE.size hG.size) h)
        · obtain ⟨i, o, _, h⟩ := h
          cases h
    · intro i v x hv hx
      match i with
      | 0 =>
        simp only [List.getElem?_cons_zero, Option.some.injEq] at hv hx
        subst hv; subst hx
        exact Den.ptr (c := fun _ => 1) (ν := argNu ⟨fun _ => g0, fun _ _ => none⟩) (pid 0) 0 0 (by decide)
      | 1 => simp only [List.getElem?_cons_zero, List.getElem?_cons_succ, Option.some.injEq] at hv hx; subst hv; subst hx; exact .pure _ _ (hd _ fun b o h1 h2 => .inr ⟨h1, h2⟩)
      | 2 => simp only [List.getElem?_cons_zero, List.getElem?_cons_succ, Option.some.injEq] at hv hx; subst hv; subst hx; exact .pure _ _ (.int _ _)
      | i + 3 => simp at hv
    · intro i bx hi
      match i with
      | 0 =>
        simp only [List.getElem?_cons_zero, Option.some.injEq] at hi
        subst hi
        exact ⟨hb2, rfl, BRooms.nil⟩
      | i + 1 => simp at hi
    · refine ⟨fun i j hi hj _ => ?_, fun i o i' o' g h => ?_, fun i o g h => ?_⟩
      · simp at hi hj; omega
      · cases h
      · cases h
  · cases hr
theorem isNode_lists {p k : Int} {sp nm tx : List UInt8} {la ls la' ls' : List D} (h : isNode (.agg [.int .i64 p, .int .i64 k, .str sp, .str nm, .list la, .list ls, .str tx]) = true) (h1 : ∀ x ∈ la', x ∈ la) (h2 : ∀ x ∈ ls', x ∈ ls) (h3 : la'.length ≤ la.length) (h4 : ls'.length ≤ ls.length) :
    isNode (.agg [.int .i64 p, .int .i64 k, .str sp, .str nm, .list la', .list ls', .str tx]) = true := by
  simp only [isNode, Bool.and_eq_true, List.all_eq_true, beq_iff_eq, decide_eq_true_eq] at h ⊢
  exact ⟨⟨⟨fun x hx => h.1.1.1 x (h1 x hx), fun x hx => h.1.1.2 x (h2 x hx)⟩, by omega⟩, by omega⟩
theorem set_nodes {es : List D} {i : Nat} {x : D} (h : ∀ e ∈ es, isNode e = true) (hx : isNode x = true) : ∀ e ∈ es.set i x, isNode e = true := fun e he => by
  rcases List.mem_or_eq_of_mem_set he with he | he
  · exact h e he
  · rw [he]; exact hx
theorem cutA_nodes {es : List D} {i k : Nat} {p kk : Int} {sp nm tx : List UInt8} {la ls : List D} (h : ∀ e ∈ es, isNode e = true) (he : es[i]? = some (.agg [.int .i64 p, .int .i64 kk, .str sp, .str nm, .list la, .list ls, .str tx])) :
    ∀ e ∈ es.set i (.agg [.int .i64 p, .int .i64 kk, .str sp, .str nm, .list (la.eraseIdx k), .list ls, .str tx]), isNode e = true :=
  set_nodes h (isNode_lists (h _ (List.mem_of_getElem? he)) (fun x hx => List.mem_of_mem_eraseIdx hx) (fun _ hx => hx) (by rw [List.length_eraseIdx]; split <;> omega) (Nat.le_refl _))
theorem cutS_nodes {es : List D} {i k : Nat} {p kk : Int} {sp nm tx : List UInt8} {la ls : List D} (h : ∀ e ∈ es, isNode e = true) (he : es[i]? = some (.agg [.int .i64 p, .int .i64 kk, .str sp, .str nm, .list la, .list ls, .str tx])) :
    ∀ e ∈ es.set i (.agg [.int .i64 p, .int .i64 kk, .str sp, .str nm, .list la, .list (ls.eraseIdx k), .str tx]), isNode e = true :=
  set_nodes h (isNode_lists (h _ (List.mem_of_getElem? he)) (fun _ hx => hx) (fun x hx => List.mem_of_mem_eraseIdx hx) (Nat.le_refl _) (by rw [List.length_eraseIdx]; split <;> omega))
end Go.Av
namespace Go.Av
open Go.Proofs Go.RowKit Go.Proofs.YtaghfmgeccapbaaGreatDoor
variable [Rk]
theorem attrs_walk {call : Call} (hc : CallOK Tryz.prog call) {F : Nat → Nat → Prop} {w : World} {g0 : Nat} {s R : TS} {dR : Bool} (h0 : StT F w g0 w s) (hR : outerT call true s.1.length 0 (s, false) = some (R, dR)) :
    Calls Tryz.prog 26 #[.pointer (some ⟨g0, 0, none⟩)] w (fun e w' => e = .returned (.bool dR) ∧ StT F w g0 w' R) := by
  obtain ⟨F0, a, c, hlt0, hg0, q0, q1, qd⟩ := h0.box
  obtain ⟨n, HN⟩ : ∃ n, Hid (n = s.1.length) := ⟨_, rfl⟩
  have HR : Hid (outerT call true (n - 0) 0 (s, false) = some (R, dR)) := by rw [HN.out]; exact hR
  rw [← HN.out] at q0
  have hnL : n ≤ 10000 := by
    rw [HN.out]
    have hR' := hR
    cases hl : s.1.length with
    | zero => omega
    | succ j =>
      rw [hl] at hR'
      unfold outerT at hR'
      split at hR'
      · rename_i hd
        rw [← hl]
        exact (docOk_inv hd).2.1
      · cases hR'
  go_enter Tryz.func26, Tryz.ntmps26
  go_wp2_with fail
  go_loopw [2, 11] (fun v2 v11 wr => ∃ (i : Nat) (dn : Bool) (sx : TS), v11 = .int .i64 i ∧ v2 = .bool dn ∧ i ≤ n ∧ StT F w g0 wr sx ∧ Hid (outerT call true (n - i) i (sx, dn) = some (R, dR))) (fun _ v _ => n - (intOf v).toNat)
  case atStart => exact ⟨0, false, s, rfl, rfl, Nat.zero_le _, h0, HR⟩
  case round =>
    obtain ⟨i, dn, sx, rfl, rfl, hle, hS, HO⟩ := hrel
    by_cases hk : i = n
    · subst hk
      have hO := HO.out
      rw [Nat.sub_self] at hO
      unfold outerT at hO
      have hO : some (sx, dn) = some (R, dR) := by
        split at hO
        · exact hO
        · cases hO
      simp only [Option.some.injEq, Prod.mk.injEq] at hO
      obtain ⟨rfl, rfl⟩ := hO
      go_wp2_with fail
      go_ret
      exact ⟨rfl, hS⟩
    · have hlt2 : i < n := by omega
      have hO := HO.out
      rw [show n - i = (n - (i + 1)) + 1 by omega] at hO
      unfold outerT at hO
      split at hO
      case isFalse => cases hO
      rename_i hdoc
      have hdoc : docOk sx.1 = true := hdoc
      obtain ⟨hs1, hs2, hs3⟩ := docOk_inv hdoc
      obtain ⟨Fx, ax, cx, hltx, hgx, x0, x1, xd⟩ := hS.box
      split at hO
      case h_1 => cases hO
      rename_i k0 hlen
      have hlen : lenAt true sx.1[i]? = some k0 := hlen
      split at hO
      case h_1 => cases hO
      rename_i sy hinn
      have hisx : i < sx.1.length := by
        apply Classical.byContradiction
        intro hn
        rw [List.getElem?_eq_none (by omega)] at hlen
        cases hlen
      obtain ⟨ax', cx', vs, ex, hcx, hvl, hsl, hv1, hxd⟩ := list_sl hltx xd (isNode_len hs1)
      obtain ⟨nx, HNX⟩ : ∃ nx, Hid (nx = sx.1.length) := ⟨_, rfl⟩
      simp only [Value.slice.injEq, true_and] at ex
      obtain ⟨rfl, rfl⟩ := ex
      obtain ⟨b, off, p, kk, sp, nm, la, ls, tx, x4, c4, x5, c5, rfl, hbw, hei, ⟨r0, r1, r2, r3, r4, r5, r6⟩, d4, d5, s4, s5, l4, l5⟩ := node_all hs1 hvl hsl hxd (i := i) hisx
      have hk0 : k0 = la.length := by
        have e : sx.1[i]? = some (sx.1.getD i .bad) := by simp [List.getD, hisx]
        rw [e, hei] at hlen
        simp only [lenAt] at hlen
        injection hlen with hlen
        exact hlen.symm
      have hisx' : i < nx := by rw [HNX.out]; exact hisx
      rw [← HNX.out] at x0
      obtain ⟨kl, HKL⟩ : ∃ kl, Hid (kl = k0) := ⟨_, rfl⟩
      rw [← hk0, ← HKL.out] at r4
      have hkL : kl ≤ 1000000 := by rw [HKL.out, hk0]; exact l4
      have HI : Hid (innerT call true i kl (sx, dn) = some sy) := by rw [HKL.out]; exact hinn
      have HO2 : Hid (outerT call true (n - (i + 1)) (i + 1) sy = some (R, dR)) := hO
      clear hO hinn hlen
      go_wp2_with fail
      go_loopw [2, 4] (fun v2 v4 wz => ∃ (k : Nat) (dz : Bool) (sz : TS), v4 = .int .i64 ((k : Int) - 1) ∧ v2 = .bool dz ∧ k ≤ kl ∧ StT F w g0 wz sz ∧ Hid (innerT call true i k (sz, dz) = some sy)) (fun _ v _ => (intOf v + 1).toNat)
      case atStart => exact ⟨kl, dn, sx, rfl, rfl, Nat.le_refl _, hS, HI⟩
      case round =>
        obtain ⟨k, dz, sz, rfl, rfl, hkle, hSz, HI⟩ := hrel
        cases k with
        | zero =>
          have hI := HI.out
          unfold innerT at hI
          have hI : some (sz, dz) = some sy := by
            split at hI
            · exact hI
            · cases hI
          injection hI with hI
          subst hI
          go_wp2_with fail
          exact ⟨⟨i + 1, dz, sz, by simp, rfl, by omega, hSz, HO2⟩, by simp [intOf]; omega⟩
        | succ k =>
          have e1 : ((k + 1 : Nat) : Int) - 1 = (k : Int) := by omega
          rw [e1]
          have hI := HI.out
          unfold innerT at hI
          split at hI
          case isFalse => cases hI
          rename_i hdz
          split at hI
          case h_1 => cases hI
          rename_i es' hcut
          split at hI
          case h_1 => cases hI
          rename_i bt s2 htr
          obtain ⟨z1, z2, z3⟩ := docOk_inv hdz
          have HI2 : Hid (innerT call true i k (s2, if bt then true else dz) = some sy) := hI
          clear hI HI
          obtain ⟨Fz, az, cz, hltz, hgz, y0, y1, yd⟩ := hSz.box
          unfold cutAt at hcut
          split at hcut
          case h_2 => cases hcut
          rename_i dp dk dsp dnm lz lsz dtx hez
          obtain ⟨pz, kz, spz, nmz, la', ls', txz, heq, w4, w5, _, _⟩ := isNode_inv (z1 _ (List.mem_of_getElem? hez))
          simp only [D.agg.injEq, List.cons.injEq, D.list.injEq, and_true] at heq
          obtain ⟨rfl, rfl, rfl, rfl, rfl, rfl, rfl⟩ := heq
          have hcut : (if k < lz.length then some (sz.1.set i (.agg [.int .i64 pz, .int .i64 kz, .str spz, .str nmz, .list (lz.eraseIdx k), .list lsz, .str txz])) else none) = some es' := hcut
          split at hcut
          case isFalse => cases hcut
          rename_i hkz
          injection hcut with hcut
          obtain ⟨nz, HNZ⟩ : ∃ nz, Hid (nz = sz.1.length) := ⟨_, rfl⟩
          obtain ⟨nl, HNL⟩ : ∃ nl, Hid (nl = lz.length) := ⟨_, rfl⟩
          have hiz : i < nz := by rw [HNZ.out]; exact (List.getElem?_eq_some_iff.1 hez).1
          have hkl : k < nl := by rw [HNL.out]; exact hkz
          have hPL := z3 _ _ _ _ _ _ _ (List.mem_of_getElem? hez)
          rw [← HNZ.out] at y0
          have HCUT : Hid (sz.1.set i (.agg [.int .i64 pz, .int .i64 kz, .str spz, .str nmz, .list (lz.eraseIdx k), .list lsz, .str txz]) = es') := hcut
          have HEZ : Hid (sz.1[i]? = some (.agg [.int .i64 pz, .int .i64 kz, .str spz, .str nmz, .list lz, .list lsz, .str txz])) := hez
          have YD : Hid (Den0 Fz wr (.slice az nz cz) (.list sz.1)) := by rw [HNZ.out]; exact yd
          clear hcut hez yd
          go_wp2_with (first
            | (go_at_call 24; refine (whole_new sz.1 Fz _ _ hltz YD.out z3 z1 (by omega)).mono ?_; rintro e w1 ⟨u, rfl, hG1, g, cg, cur, hu, hgc, hgm, hgl, hgh, hgs, hD⟩; rw [← HNZ.out] at hu hgc hgs; subst hu; obtain ⟨a', m', u4, vs4, ha', hm', hcu, o4, rd4, hset⟩ := hD.setA (by rw [← HNZ.out]; exact hiz) HEZ.out; obtain ⟨A4, C4, rfl, _, o4len, _⟩ := id o4; have oN : OwnG w1 a' m' 50 3 (.slice A4 nl C4) nl vs4 := (by rw [HNL.out]; exact o4); have B1 : Bk w1 g 48 cur := hgh; have k4 := (B1.cell (i * 7 + 4)).trans hcu; rw [← HNL.out] at k4)
            | (go_at_call 44; refine (oN.del3 rd4.1 hkl _ (by omega)).mono ?_; rintro e w2 ⟨bb, rfl, hb1, hb2, hg2, hsz2, oD⟩; have B2 : Bk w2 g 48 cur := B1.grown hg2 (by intro e; injection e with e; omega); have k4' := (B2.cell (i * 7 + 4)).trans hcu; have f4' := B2.free (i * 7 + 4); have y6 : w2.cell? ⟨g0, 1, none⟩ = some (.int .i64 sz.2.1) := (World.cell?_of_block (a := ⟨g0, 1, none⟩) (hg2.block g0 (Nat.lt_of_lt_of_le hgz hG1.size) (by intro e; injection e with e; omega))).trans ((hG1.cell (p := ⟨g0, 1, none⟩) hgz).trans y1))
            | fail)
          obtain ⟨w3, HW3⟩ : ∃ w3, w3 = w2.setCell ⟨g, i * 7 + 4, none⟩ (.slice A4 (nl - 1) C4) := ⟨_, rfl⟩
          rw [← HW3]
          have G3 : Ge wr w3 := by rw [HW3]; exact ge_put (below_of_grown_row hG1 hg2 (by omega)) hgl _
          have DEN : ∀ F' : Nat → Nat → Prop, (∀ b o, wr.heap.size ≤ b → b < w3.heap.size → F' b o) → Den0 F' w3 (.slice (some ⟨g, 0, none⟩) nz cg) (.list es') := by
            intro F' hF'
            have hnl : (lz.eraseIdx k).length = nl - 1 := by rw [List.length_eraseIdx, ← HNL.out, if_pos hkl]
            have hsz3 : w3.heap.size = w1.heap.size := by rw [HW3, World.size_setCell]; exact hsz2
            have hcl : i * 7 + 4 < cur.size := by omega
            have hD2 := hset w2 (.slice A4 (nl - 1) C4) (lz.eraseIdx k) (cutC 3 k vs4) bb (cur.setIfInBounds (i * 7 + 4) (.slice A4 (nl - 1) C4)) hg2 hb1 hb2 (by rw [hnl]; exact oD) (rd4.cut w4 o4len hkz) (fun j hj => by rw [Array.getElem?_setIfInBounds, if_neg (by omega)]) (by rw [Array.getElem?_setIfInBounds, if_pos rfl, if_pos hcl])
            have GZ := grown_put (grown_refl w2 (some g)) (p := ⟨g, i * 7 + 4, none⟩) rfl (.slice A4 (nl - 1) C4)
            have hl' : es'.length = nz := by rw [← HCUT.out, List.length_set, HNZ.out]
            refine DocR.den (lo := wr.heap.size) (hi := w1.heap.size) ⟨g, cg, cur.setIfInBounds (i * 7 + 4) (.slice A4 (nl - 1) C4), by rw [hl'], by rw [hl']; exact hgc, hgm, hgl, by rw [HW3]; exact B2.put _ _, by rw [hl']; simpa using hgs, ?_⟩ ?_ ?_
            · rw [HW3, hl', ← HCUT.out, HNZ.out]
              exact hD2.gb GZ (Nat.lt_succ_self g)
            · rw [← HCUT.out]
              exact cutA_nodes z1 HEZ.out
            · rintro b o hb (h | ⟨c', h⟩)
              · exact hF' b o hb (by rw [hsz3]; exact h)
              · simp only [Value.slice.injEq, Option.some.injEq, Addr.mk.injEq] at h
                exact hF' b o hb (by rw [hsz3, ← h.1.1]; exact (Array.getElem?_eq_some_iff.1 hgh).1)
          clear HW3
          go_wp2_with (go_at_call 41; refine (hSz.try_ hc htr G3 DEN).mono ?_; rintro e w4 ⟨rfl, hS4⟩)
          all_goals exact ⟨⟨k, _, s2, rfl, rfl, by omega, hS4, by rename_i hbt; simpa [hbt] using HI2⟩, by simp [intOf]⟩
end Go.Av
namespace Go.Av
open Go.Proofs Go.RowKit Go.Proofs.YtaghfmgeccapbaaGreatDoor
variable [Rk]
theorem states_walk {call : Call} (hc : CallOK Tryz.prog call) {F : Nat → Nat → Prop} {w : World} {g0 : Nat} {s R : TS} {dR : Bool} (h0 : StT F w g0 w s) (hR : outerT call false s.1.length 0 (s, false) = some (R, dR)) :
    Calls Tryz.prog 27 #[.pointer (some ⟨g0, 0, none⟩)] w (fun e w' => e = .returned (.bool dR) ∧ StT F w g0 w' R) := by
  obtain ⟨F0, a, c, hlt0, hg0, q0, q1, qd⟩ := h0.box
  obtain ⟨n, HN⟩ : ∃ n, Hid (n = s.1.length) := ⟨_, rfl⟩
  have HR : Hid (outerT call false (n - 0) 0 (s, false) = some (R, dR)) := by rw [HN.out]; exact hR
  rw [← HN.out] at q0
  have hnL : n ≤ 10000 := by
    rw [HN.out]
    have hR' := hR
    cases hl : s.1.length with
    | zero => omega
    | succ j =>
      rw [hl] at hR'
      unfold outerT at hR'
      split at hR'
      · rename_i hd
        rw [← hl]
        exact (docOk_inv hd).2.1
      · cases hR'
  go_enter Tryz.func27, Tryz.ntmps27
  go_wp2_with fail
  go_loopw [2, 11] (fun v2 v11 wr => ∃ (i : Nat) (dn : Bool) (sx : TS), v11 = .int .i64 i ∧ v2 = .bool dn ∧ i ≤ n ∧ StT F w g0 wr sx ∧ Hid (outerT call false (n - i) i (sx, dn) = some (R, dR))) (fun _ v _ => n - (intOf v).toNat)
  case atStart => exact ⟨0, false, s, rfl, rfl, Nat.zero_le _, h0, HR⟩
  case round =>
    obtain ⟨i, dn, sx, rfl, rfl, hle, hS, HO⟩ := hrel
    by_cases hk : i = n
    · subst hk
      have hO := HO.out
      rw [Nat.sub_self] at hO
      unfold outerT at hO
      have hO : some (sx, dn) = some (R, dR) := by
        split at hO
        · exact hO
        · cases hO
      simp only [Option.some.injEq, Prod.mk.injEq] at hO
      obtain ⟨rfl, rfl⟩ := hO
      go_wp2_with fail
      go_ret
      exact ⟨rfl, hS⟩
    · have hlt2 : i < n := by omega
      have hO := HO.out
      rw [show n - i = (n - (i + 1)) + 1 by omega] at hO
      unfold outerT at hO
      split at hO
      case isFalse => cases hO
      rename_i hdoc
      have hdoc : docOk sx.1 = true := hdoc
      obtain ⟨hs1, hs2, hs3⟩ := docOk_inv hdoc
      obtain ⟨Fx, ax, cx, hltx, hgx, x0, x1, xd⟩ := hS.box
      split at hO
      case h_1 => cases hO
      rename_i k0 hlen
      have hlen : lenAt false sx.1[i]? = some k0 := hlen
      split at hO
      case h_1 => cases hO
      rename_i sy hinn
      have hisx : i < sx.1.length := by
        apply Classical.byContradiction
        intro hn
        rw [List.getElem?_eq_none (by omega)] at hlen
        cases hlen
      obtain ⟨ax', cx', vs, ex, hcx, hvl, hsl, hv1, hxd⟩ := list_sl hltx xd (isNode_len hs1)
      obtain ⟨nx, HNX⟩ : ∃ nx, Hid (nx = sx.1.length) := ⟨_, rfl⟩
      simp only [Value.slice.injEq, true_and] at ex
      obtain ⟨rfl, rfl⟩ := ex
      obtain ⟨b, off, p, kk, sp, nm, la, ls, tx, x4, c4, x5, c5, rfl, hbw, hei, ⟨r0, r1, r2, r3, r4, r5, r6⟩, d4, d5, s4, s5, l4, l5⟩ := node_all hs1 hvl hsl hxd (i := i) hisx
      have hk0 : k0 = ls.length := by
        have e : sx.1[i]? = some (sx.1.getD i .bad) := by simp [List.getD, hisx]
        rw [e, hei] at hlen
        simp only [lenAt] at hlen
        injection hlen with hlen
        exact hlen.symm
      have hisx' : i < nx := by rw [HNX.out]; exact hisx
      rw [← HNX.out] at x0
      obtain ⟨kl, HKL⟩ : ∃ kl, Hid (kl = k0) := ⟨_, rfl⟩
      rw [← hk0, ← HKL.out] at r5
      have hkL : kl ≤ 1000000 := by rw [HKL.out, hk0]; exact l5
      have HI : Hid (innerT call false i kl (sx, dn) = some sy) := by rw [HKL.out]; exact hinn
      have HO2 : Hid (outerT call false (n - (i + 1)) (i + 1) sy = some (R, dR)) := hO
      clear hO hinn hlen
      go_wp2_with fail
      go_loopw [2, 4] (fun v2 v4 wz => ∃ (k : Nat) (dz : Bool) (sz : TS), v4 = .int .i64 ((k : Int) - 1) ∧ v2 = .bool dz ∧ k ≤ kl ∧ StT F w g0 wz sz ∧ Hid (innerT call false i k (sz, dz) = some sy)) (fun _ v _ => (intOf v + 1).toNat)
      case atStart => exact ⟨kl, dn, sx, rfl, rfl, Nat.le_refl _, hS, HI⟩
      case round =>
        obtain ⟨k, dz, sz, rfl, rfl, hkle, hSz, HI⟩ := hrel
        cases k with
        | zero =>
          have hI := HI.out
          unfold innerT at hI
          have hI : some (sz, dz) = some sy := by
            split at hI
            · exact hI
            · cases hI
          injection hI with hI
          subst hI
          go_wp2_with fail
          exact ⟨⟨i + 1, dz, sz, by simp, rfl, by omega, hSz, HO2⟩, by simp [intOf]; omega⟩
        | succ k =>
          have e1 : ((k + 1 : Nat) : Int) - 1 = (k : Int) := by omega
          rw [e1]
          have hI := HI.out
          unfold innerT at hI
          split at hI
          case isFalse => cases hI
          rename_i hdz
          split at hI
          case h_1 => cases hI
          rename_i es' hcut
          split at hI
          case h_1 => cases hI
          rename_i bt s2 htr
          obtain ⟨z1, z2, z3⟩ := docOk_inv hdz
          have HI2 : Hid (innerT call false i k (s2, if bt then true else dz) = some sy) := hI
          clear hI HI
          obtain ⟨Fz, az, cz, hltz, hgz, y0, y1, yd⟩ := hSz.box
          unfold cutAt at hcut
          split at hcut
          case h_2 => cases hcut
          rename_i dp dk dsp dnm lz lsz dtx hez
          obtain ⟨pz, kz, spz, nmz, la', ls', txz, heq, w4, w5, _, _⟩ := isNode_inv (z1 _ (List.mem_of_getElem? hez))
          simp only [D.agg.injEq, List.cons.injEq, D.list.injEq, and_true] at heq
          obtain ⟨rfl, rfl, rfl, rfl, rfl, rfl, rfl⟩ := heq
          have hcut : (if k < lsz.length then some (sz.1.set i (.agg [.int .i64 pz, .int .i64 kz, .str spz, .str nmz, .list lz, .list (lsz.eraseIdx k), .str txz])) else none) = some es' := hcut
          split at hcut
          case isFalse => cases hcut
          rename_i hkz
          injection hcut with hcut
          obtain ⟨nz, HNZ⟩ : ∃ nz, Hid (nz = sz.1.length) := ⟨_, rfl⟩
          obtain ⟨nl, HNL⟩ : ∃ nl, Hid (nl = lsz.length) := ⟨_, rfl⟩
          have hiz : i < nz := by rw [HNZ.out]; exact (List.getElem?_eq_some_iff.1 hez).1
          have hkl : k < nl := by rw [HNL.out]; exact hkz
          have hPL := z3 _ _ _ _ _ _ _ (List.mem_of_getElem? hez)
          rw [← HNZ.out] at y0
          have HCUT : Hid (sz.1.set i (.agg [.int .i64 pz, .int .i64 kz, .str spz, .str nmz, .list lz, .list (lsz.eraseIdx k), .str txz]) = es') := hcut
          have HEZ : Hid (sz.1[i]? = some (.agg [.int .i64 pz, .int .i64 kz, .str spz, .str nmz, .list lz, .list lsz, .str txz])) := hez
          have YD : Hid (Den0 Fz wr (.slice az nz cz) (.list sz.1)) := by rw [HNZ.out]; exact yd
          clear hcut hez yd
          go_wp2_with (first
            | (go_at_call 24; refine (whole_new sz.1 Fz _ _ hltz YD.out z3 z1 (by omega)).mono ?_; rintro e w1 ⟨u, rfl, hG1, g, cg, cur, hu, hgc, hgm, hgl, hgh, hgs, hD⟩; rw [← HNZ.out] at hu hgc hgs; subst hu; obtain ⟨a', m', u4, vs4, ha', hm', hcu, o4, rd4, hset⟩ := hD.setS (by rw [← HNZ.out]; exact hiz) HEZ.out; obtain ⟨A4, C4, rfl, _, o4len, _⟩ := id o4; have oN : OwnG w1 a' m' 9 1 (.slice A4 nl C4) nl vs4 := (by rw [HNL.out]; exact o4); have B1 : Bk w1 g 48 cur := hgh; have k4 := (B1.cell (i * 7 + 5)).trans hcu; rw [← HNL.out] at k4)
            | (go_at_call 45; refine (oN.del1 rd4.1 hkl _ (by omega)).mono ?_; rintro e w2 ⟨bb, rfl, hb1, hb2, hg2, hsz2, oD⟩; have B2 : Bk w2 g 48 cur := B1.grown hg2 (by intro e; injection e with e; omega); have k4' := (B2.cell (i * 7 + 5)).trans hcu; have f4' := B2.free (i * 7 + 5); have y6 : w2.cell? ⟨g0, 1, none⟩ = some (.int .i64 sz.2.1) := (World.cell?_of_block (a := ⟨g0, 1, none⟩) (hg2.block g0 (Nat.lt_of_lt_of_le hgz hG1.size) (by intro e; injection e with e; omega))).trans ((hG1.cell (p := ⟨g0, 1, none⟩) hgz).trans y1))
            | fail)
          obtain ⟨w3, HW3⟩ : ∃ w3, w3 = w2.setCell ⟨g, i * 7 + 5, none⟩ (.slice A4 (nl - 1) C4) := ⟨_, rfl⟩
          rw [← HW3]
          have G3 : Ge wr w3 := by rw [HW3]; exact ge_put (below_of_grown_row hG1 hg2 (by omega)) hgl _
          have DEN : ∀ F' : Nat → Nat → Prop, (∀ b o, wr.heap.size ≤ b → b < w3.heap.size → F' b o) → Den0 F' w3 (.slice (some ⟨g, 0, none⟩) nz cg) (.list es') := by
            intro F' hF'
            have hnl : (lsz.eraseIdx k).length = nl - 1 := by rw [List.length_eraseIdx, ← HNL.out, if_pos hkl]
            have hsz3 : w3.heap.size = w1.heap.size := by rw [HW3, World.size_setCell]; exact hsz2
            have hcl : i * 7 + 5 < cur.size := by omega
            have hD2 := hset w2 (.slice A4 (nl - 1) C4) (lsz.eraseIdx k) (cutC 1 k vs4) bb (cur.setIfInBounds (i * 7 + 5) (.slice A4 (nl - 1) C4)) hg2 hb1 hb2 (by rw [hnl]; exact oD) (rd4.cut w5 o4len hkz) (fun j hj => by rw [Array.getElem?_setIfInBounds, if_neg (by omega)]) (by rw [Array.getElem?_setIfInBounds, if_pos rfl, if_pos hcl])
            have GZ := grown_put (grown_refl w2 (some g)) (p := ⟨g, i * 7 + 5, none⟩) rfl (.slice A4 (nl - 1) C4)
            have hl' : es'.length = nz := by rw [← HCUT.out, List.length_set, HNZ.out]
            refine DocR.den (lo := wr.heap.size) (hi := w1.heap.size) ⟨g, cg, cur.setIfInBounds (i * 7 + 5) (.slice A4 (nl - 1) C4), by rw [hl'], by rw [hl']; exact hgc, hgm, hgl, by rw [HW3]; exact B2.put _ _, by rw [hl']; simpa using hgs, ?_⟩ ?_ ?_
            · rw [HW3, hl', ← HCUT.out, HNZ.out]
              exact hD2.gb GZ (Nat.lt_succ_self g)
            · rw [← HCUT.out]
              exact cutS_nodes z1 HEZ.out
            · rintro b o hb (h | ⟨c', h⟩)
              · exact hF' b o hb (by rw [hsz3]; exact h)
              · simp only [Value.slice.injEq, Option.some.injEq, Addr.mk.injEq] at h
                exact hF' b o hb (by rw [hsz3, ← h.1.1]; exact (Array.getElem?_eq_some_iff.1 hgh).1)
          clear HW3
          go_wp2_with (go_at_call 41; refine (hSz.try_ hc htr G3 DEN).mono ?_; rintro e w4 ⟨rfl, hS4⟩)
          all_goals exact ⟨⟨k, _, s2, rfl, rfl, by omega, hS4, by rename_i hbt; simpa [hbt] using HI2⟩, by simp [intOf]⟩
end Go.Av
namespace Go.Av
open Go.Proofs Go.RowKit Go.Proofs.YtaghfmgeccapbaaGreatDoor
variable [Rk]
theorem NodeR.move {cur cur' : Array Value} {w : World} {i i' a m b : Nat} {e : D} (h : NodeR cur w i a m b e) (hc' : ∀ j, j < 7 → cur'[i' * 7 + j]? = cur[i * 7 + j]?) : NodeR cur' w i' a m b e := by
  obtain ⟨p, k, sp, nm, la, ls, tx, u4, u5, vs4, vs5, he, ⟨c0, c1, c2, c3, c4, c5, c6⟩, h4, h5, r4, r5⟩ := h
  exact ⟨p, k, sp, nm, la, ls, tx, u4, u5, vs4, vs5, he, ⟨(hc' 0 (by decide)).trans c0, (hc' 1 (by decide)).trans c1, (hc' 2 (by decide)).trans c2, (hc' 3 (by decide)).trans c3, (hc' 4 (by decide)).trans c4, (hc' 5 (by decide)).trans c5, (hc' 6 (by decide)).trans c6⟩, h4, h5, r4, r5⟩
theorem DocC.one {w : World} {lo hi k : Nat} {cur : Array Value} {es : List D} (h : DocC w lo hi cur es k) (hk : k = es.length) : ∀ t, t < k * 7 → ∃ v, cur[t]? = some v ∧ v.oneCell' = true := by
  obtain ⟨r, m, h1, h2, h3, h4⟩ := h
  intro t ht
  obtain ⟨i, j, hj, rfl⟩ : ∃ i j, j < 7 ∧ t = i * 7 + j := ⟨t / 7, t % 7, Nat.mod_lt _ (by decide), by omega⟩
  have hi : i < k := by omega
  obtain ⟨p, kk, sp, nm, la, ls, tx, u4, u5, vs4, vs5, he, ⟨c0, c1, c2, c3, c4, c5, c6⟩, o4, o5, r4, r5⟩ := h4 i _ hi (List.getElem?_eq_getElem (by omega))
  match j, hj with
  | 0, _ => exact ⟨_, c0, rfl⟩
  | 1, _ => exact ⟨_, c1, rfl⟩
  | 2, _ => exact ⟨_, c2, rfl⟩
  | 3, _ => exact ⟨_, c3, rfl⟩
  | 4, _ => exact ⟨_, c4, o4.one⟩
  | 5, _ => exact ⟨_, c5, o5.one⟩
  | 6, _ => exact ⟨_, c6, rfl⟩
theorem DocC.erase {w : World} {lo hi k n : Nat} {cur cur' : Array Value} {es : List D} (h : DocC w lo hi cur es k) (hk : k = es.length) (hn : n < k) (hc : ∀ j, j < (k - 1) * 7 → cur'[j]? = if j < n * 7 then cur[j]? else cur[j + 7]?) : DocC w lo hi cur' (es.eraseIdx n) (k - 1) := by
  obtain ⟨r, m, h1, h2, h3, h4⟩ := h
  refine ⟨fun i => if i < n then r i else r (i + 1), fun i => if i < n then m i else m (i + 1), ?_, ?_, fun i hi => ?_, fun i e hi he => ?_⟩
  · have := h3 0 (by omega)
    by_cases h : 0 < n <;> simp only [h, if_true, if_false] <;> omega
  · have : ¬ k - 1 < n := by omega
    simp only [this, if_false]
    rw [show k - 1 + 1 = k by omega]
    exact h2
  · have a1 := h3 i (by omega)
    have a2 := h3 (i + 1) (by omega)
    by_cases h : i < n
    · by_cases h' : i + 1 < n
      · simp only [h, h', if_true]
        exact a1
      · simp only [h, h', if_true, if_false]
        omega
    · have h' : ¬ i + 1 < n := by omega
      simp only [h, h', if_false]
      exact a2
  · rw [List.getElem?_eraseIdx] at he
    by_cases h : i < n
    · rw [if_pos h] at he
      simp only [h, if_true]
      have q := h4 i e (by omega) he
      have a2 := h3 (i + 1) (by omega)
      refine (q.move (fun j hj => ?_)).mono ?_
      · rw [hc _ (by omega), if_pos (by omega)]
      · by_cases h' : i + 1 < n
        · simp only [h', if_true]; exact Nat.le_refl _
        · simp only [h', if_false]; omega
    · rw [if_neg h] at he
      have h' : ¬ i + 1 < n := by omega
      simp only [h, h', if_false]
      refine (h4 (i + 1) e (by omega) he).move (fun j hj => ?_)
      rw [hc _ (by omega), if_neg (by omega)]
      congr 1
      omega
theorem DocC.setP {w : World} {lo hi k i : Nat} {cur cur' : Array Value} {es : List D} {p p' kk : Int} {sp nm tx : List UInt8} {la ls : List D} (h : DocC w lo hi cur es k) (he : es[i]? = some (.agg [.int .i64 p, .int .i64 kk, .str sp, .str nm, .list la, .list ls, .str tx]))
    (hc : ∀ j, j ≠ i * 7 → cur'[j]? = cur[j]?) (hp : cur'[i * 7]? = some (.int .i64 p')) : DocC w lo hi cur' (es.set i (.agg [.int .i64 p', .int .i64 kk, .str sp, .str nm, .list la, .list ls, .str tx])) k := by
  obtain ⟨r, m, h1, h2, h3, h4⟩ := h
  refine ⟨r, m, h1, h2, h3, fun j x hj hx => ?_⟩
  by_cases hji : j = i
  · subst hji
    have hjl := (List.getElem?_eq_some_iff.1 he).1
    rw [List.getElem?_set_self hjl] at hx
    obtain rfl := Option.some.inj hx
    obtain ⟨p0, k0, sp0, nm0, la0, ls0, tx0, u4, u5, vs4, vs5, e0, ⟨c0, c1, c2, c3, c4, c5, c6⟩, o4, o5, r4, r5⟩ := h4 j _ hj he
    simp only [D.agg.injEq, List.cons.injEq, D.int.injEq, D.str.injEq, D.list.injEq, and_true, true_and] at e0
    obtain ⟨rfl, rfl, rfl, rfl, rfl, rfl, rfl⟩ := e0
    exact ⟨p', _, _, _, _, _, _, u4, u5, vs4, vs5, rfl, ⟨hp, (hc _ (by omega)).trans c1, (hc _ (by omega)).trans c2, (hc _ (by omega)).trans c3, (hc _ (by omega)).trans c4, (hc _ (by omega)).trans c5, (hc _ (by omega)).trans c6⟩, o4, o5, r4, r5⟩
  · rw [List.getElem?_set_ne (fun e => hji e.symm)] at hx
    exact (h4 j x hj hx).cells (fun t ht => hc _ (by omega))
theorem DocC.node {w : World} {lo hi k i : Nat} {cur : Array Value} {es : List D} {e : D} (h : DocC w lo hi cur es k) (hi : i < k) (he : es[i]? = some e) : ∃ p kk sp nm la ls tx, e = .agg [.int .i64 p, .int .i64 kk, .str sp, .str nm, .list la, .list ls, .str tx] ∧ cur[i * 7]? = some (.int .i64 p) := by
  obtain ⟨r, m, h1, h2, h3, h4⟩ := h
  obtain ⟨p0, k0, sp0, nm0, la0, ls0, tx0, u4, u5, vs4, vs5, e0, ⟨c0, c1, c2, c3, c4, c5, c6⟩, o4, o5, r4, r5⟩ := h4 i _ hi he
  exact ⟨_, _, _, _, _, _, _, e0, c0⟩
theorem cutC_at {n k j : Nat} {xs : List Value} (hl : xs.length = k * 7) (hn : n < k) : (cutC 7 n xs)[j]? = if j < n * 7 then xs[j]? else xs[j + 7]? := by
  have hl1 : (xs.take (n * 7)).length = n * 7 := by rw [List.length_take]; omega
  unfold cutC
  by_cases h : j < n * 7
  · rw [if_pos h, List.getElem?_append_left (by omega), List.getElem?_take, if_pos h]
  · rw [if_neg h, List.getElem?_append_right (by omega), hl1, List.getElem?_drop]
    congr 1
    omega
theorem DocR.del {w : World} {lo hi n : Nat} {g c : Nat} {cur : Array Value} {es : List D} {nz : Nat} (hz : nz = es.length) (hc : nz ≤ c) (hm : c ≤ maxLen) (hlo : lo ≤ g) (hh : w.heap[g]? = some (.cells cur 48 (0, 0))) (hs : nz * 7 ≤ cur.size) (hD : DocC w (g + 1) hi cur es es.length) (hn : n < nz) (j : Int) (hj : j = ((n + 1 : Nat) : Int)) :
    Calls Tryz.prog 63 #[.slice (some ⟨g, 0, none⟩) nz c, .int .i64 n, .int .i64 j] w fun e w' => e = .returned (.slice (some ⟨g, 0, none⟩) (nz - 1) c) ∧ w.grownBy w' (some g) ∧ w'.heap.size = w.heap.size ∧
      ∃ cur', w'.heap[g]? = some (.cells cur' 48 (0, 0)) ∧ cur'.size = cur.size ∧ DocC w' (g + 1) hi cur' (es.eraseIdx n) (nz - 1) := by
  subst hj
  have hB : Bk w g 48 cur := hh
  have hone := hD.one rfl
  obtain ⟨xs, hxs⟩ : ∃ xs, xs = cur.toList.take (nz * 7) := ⟨_, rfl⟩
  have hxl : xs.length = nz * 7 := by rw [hxs]; simp; omega
  have hxa : ∀ t, t < nz * 7 → xs[t]? = cur[t]? := fun t ht => by rw [hxs, List.getElem?_take, if_pos ht, Array.getElem?_toList]
  have hat : ∀ k u, xs[k]? = some u → w.cell? ⟨g, 0 + k, none⟩ = some u ∧ w.frozen? ⟨g, 0 + k, none⟩ = false ∧ u.oneCell' = true := fun k u hu => by
    have hk := (List.getElem?_eq_some_iff.1 hu).1
    rw [hxa k (by omega)] at hu
    rw [Nat.zero_add]
    obtain ⟨v, hv, ho⟩ := hone k (by rw [← hz]; omega)
    rw [hv] at hu
    injection hu with hu
    subst hu
    exact ⟨by rw [hB.cell k]; exact hv, hB.free k, ho⟩
  refine (del7_any g 0 c n (n + 1) nz xs w hxl hat hc hm hn rfl).mono ?_
  rintro e w' ⟨rfl, rfl⟩
  obtain ⟨cur', d1, d2, d3, d4, d5⟩ := del_left (zs := [.int .i64 0, .int .i64 0, .string ⟨#[]⟩, .string ⟨#[]⟩, .slice none 0 0, .slice none 0 0, .string ⟨#[]⟩]) hB hxl hs hxs.symm hn rfl
  refine ⟨rfl, d3, d4, cur', d1, d2, ?_⟩
  rw [← hz] at hD
  refine (hD.gb d3 (Nat.lt_succ_self g)).erase hz hn (fun j hj => ?_)
  have e1 : cur'[j]? = (cutC 7 n xs)[j]? := by rw [← d5, List.getElem?_take, if_pos hj, Array.getElem?_toList]
  rw [e1, cutC_at hxl hn]
  by_cases h : j < n * 7
  · rw [if_pos h, if_pos h]
    exact hxa j (by omega)
  · rw [if_neg h, if_neg h]
    exact hxa (j + 7) (by omega)
def lowP (n p : Int) : Int := if p > n then p - 1 else p
def lowN (n : Int) : D → D
  | .agg (.int k p :: r) => .agg (.int k (lowP n p) :: r)
  | d => d
def withoutF (es : List D) (n : Nat) : List D := (es.eraseIdx n).map (lowN n)
def lowTo (n : Int) (j : Nat) (es : List D) : List D := (es.take j).map (lowN n) ++ es.drop j
theorem lowTo_at {n : Int} {j : Nat} {es : List D} : (lowTo n j es)[j]? = es[j]? := by
  unfold lowTo
  by_cases h : j ≤ es.length
  · rw [List.getElem?_append_right (by simp; omega)]
    simp
    congr 1
    omega
  · rw [List.getElem?_eq_none (by simp; omega), List.getElem?_eq_none (by omega)]
theorem lowTo_len {n : Int} {j : Nat} {es : List D} : (lowTo n j es).length = es.length := by
  unfold lowTo
  simp
  omega
theorem lowTo_succ {n : Int} {j : Nat} {es : List D} {e : D} (h : es[j]? = some e) : lowTo n (j + 1) es = (lowTo n j es).set j (lowN n e) := by
  have hj := (List.getElem?_eq_some_iff.1 h).1
  have hjl : ((es.take j).map (lowN n)).length = j := by simp; omega
  unfold lowTo
  rw [List.set_append_right _ _ (by simp; omega), hjl, Nat.sub_self, List.take_add_one, h, List.drop_eq_getElem_cons hj]
  have : es[j] = e := by
    rw [List.getElem?_eq_getElem hj] at h
    injection h
  simp [this]
theorem lowTo_end {n : Int} {es : List D} : lowTo n es.length es = es.map (lowN n) := by simp [lowTo]
theorem lowTo_zero {n : Int} {es : List D} : lowTo n 0 es = es := by simp [lowTo]
theorem isNode_low {n : Int} {e : D} (h : isNode e = true) : isNode (lowN n e) = true := by
  obtain ⟨p, k, sp, nm, la, ls, tx, rfl, _⟩ := isNode_inv h
  exact h
theorem lowN_same {n p kk : Int} {sp nm tx : List UInt8} {la ls : List D} (h : ¬ n < p) : lowN n (.agg [.int .i64 p, .int .i64 kk, .str sp, .str nm, .list la, .list ls, .str tx]) = .agg [.int .i64 p, .int .i64 kk, .str sp, .str nm, .list la, .list ls, .str tx] := by
  simp [lowN, lowP, h]
theorem lowN_less {n p kk : Int} {sp nm tx : List UInt8} {la ls : List D} (h : n < p) : lowN n (.agg [.int .i64 p, .int .i64 kk, .str sp, .str nm, .list la, .list ls, .str tx]) = .agg [.int .i64 (p - 1), .int .i64 kk, .str sp, .str nm, .list la, .list ls, .str tx] := by
  simp [lowN, lowP, h]
end Go.Av
namespace Go.Av
open Go.Proofs Go.RowKit Go.Proofs.YtaghfmgeccapbaaGreatDoor
variable [Rk]
def parSm : D → Bool
  | .agg (.int _ p :: _) => decide (-1000000 ≤ p) && decide (p ≤ 1000000)
  | _ => false
theorem without_new (es : List D) (F : Nat → Nat → Prop) (w : World) (v : Value) (n : Nat) (hlt : Lt F w) (hd : Den0 F w v (.list es)) (hdoc : docOk es = true) (hpar : ∀ e ∈ es, parSm e = true) (hn : n < es.length) :
    Calls Tryz.prog 42 #[v, .int .i64 n] w (fun e w' => ∃ u, e = .returned u ∧ Ge w w' ∧ Den0 (nw F w w') w' u (.list (withoutF es n))) := by
  obtain ⟨z1, z2, z3⟩ := docOk_inv hdoc
  obtain ⟨nz, HNZ⟩ : ∃ nz, Hid (nz = es.length) := ⟨_, rfl⟩
  have hnz : n < nz := by rw [HNZ.out]; exact hn
  have hnL : nz ≤ 10000 := by rw [HNZ.out]; exact z2
  obtain ⟨es1, HE1⟩ : ∃ es1, Hid (es1 = es.eraseIdx n) := ⟨_, rfl⟩
  have hl1 : Hid (es1.length = nz - 1) := by
    show es1.length = nz - 1
    rw [HE1.out, List.length_eraseIdx, if_pos hn, HNZ.out]
  have hp1 : Hid (∀ e ∈ es1, parSm e = true) := by
    intro e he
    rw [HE1.out] at he
    exact hpar e (List.mem_of_mem_eraseIdx he)
  have hs1 : Hid (∀ e ∈ es1, isNode e = true) := by
    intro e he
    rw [HE1.out] at he
    exact z1 e (List.mem_of_mem_eraseIdx he)
  clear hn
  go_enter Tryz.func42, Tryz.ntmps42
  go_wp2_with (first
    | (go_at_call 24; refine (whole_new es F _ _ hlt hd z3 z1 (by omega)).mono ?_; rintro e w1 ⟨u, rfl, hG1, g, cg, cur, hu, hgc, hgm, hgl, hgh, hgs, hD⟩; rw [← HNZ.out] at hu hgc hgs; subst hu)
    | (go_at_call 63; refine (DocR.del HNZ.out hgc hgm hgl hgh hgs hD hnz _ (by omega)).mono ?_; rintro e w2 ⟨rfl, hg2, hsz2, cur2, hh2, hcs2, hD2⟩))
  obtain ⟨nm, HNM⟩ : ∃ nm, Hid (nm = nz - 1) := ⟨_, rfl⟩
  rw [← HNM.out]
  have hnm : nm ≤ 10000 := by rw [HNM.out]; omega
  have hgw2 : g < w1.heap.size := (Array.getElem?_eq_some_iff.1 hgh).1
  have G2 : Ge w w2 := below_of_grown_row hG1 hg2 hgl
  have HD0 : DocC w2 (g + 1) w1.heap.size cur2 (lowTo n 0 es1) nm := by
    rw [lowTo_zero, HE1.out, HNM.out]
    exact hD2
  have hcz : nm * 7 ≤ cur2.size := by rw [HNM.out, hcs2]; omega
  go_loopw [15] (fun v wr => ∃ (j : Nat) (cu : Array Value), v = .int .i64 j ∧ j ≤ nm ∧ Ge w wr ∧ wr.heap.size = w1.heap.size ∧ wr.heap[g]? = some (.cells cu 48 (0, 0)) ∧ nm * 7 ≤ cu.size ∧ DocC wr (g + 1) w1.heap.size cu (lowTo n j es1) nm) (fun v _ => nm - (intOf v).toNat)
  case atStart => exact ⟨0, cur2, rfl, Nat.zero_le _, G2, hsz2, hh2, hcz, HD0⟩
  case round =>
    obtain ⟨j, cu, rfl, hle, hG, hsz, hh, hcs, hD⟩ := hrel
    by_cases hk : j = nm
    · subst hk
      go_wp2_with fail
      go_ret
      have hfin : lowTo n j es1 = withoutF es n := by
        have hj : j = es1.length := by rw [hl1.out, ← HNM.out]
        rw [hj, lowTo_end, HE1.out]
        rfl
      rw [hfin] at hD
      have hlw : (withoutF es n).length = j := by
        rw [← hfin, lowTo_len, hl1.out, ← HNM.out]
      refine ⟨_, rfl, hG, ?_⟩
      refine DocR.den (lo := w.heap.size) (hi := w1.heap.size) ⟨g, cg, cu, by rw [hlw]; rfl, by rw [hlw]; have := HNM.out; omega, hgm, hgl, hh, by rw [hlw]; exact hcs, by rw [hlw]; exact hD⟩ ?_ ?_
      · intro e he
        obtain ⟨x, hx, rfl⟩ := List.mem_map.1 he
        exact isNode_low (hs1.out x (by rw [HE1.out]; exact hx))
      · rintro b o hb (h | ⟨c', h⟩)
        · exact .inr ⟨hb, by rw [hsz]; exact h⟩
        · have h : Value.slice (some ⟨g, 0, none⟩) j cg = .slice (some ⟨b, 0, none⟩) (withoutF es n).length c' := h
          simp only [Value.slice.injEq, Option.some.injEq, Addr.mk.injEq] at h
          exact .inr ⟨hb, by rw [hsz, ← h.1.1]; exact hgw2⟩
    · have hlt2 : j < nm := by omega
      have hjl : j < es1.length := by rw [hl1.out, ← HNM.out]; exact hlt2
      obtain ⟨p, kk, sp, nmm, la, ls, tx, he, c0⟩ := hD.node hlt2 (lowTo_at.trans (List.getElem?_eq_getElem hjl))
      have hej : es1[j]? = some (.agg [.int .i64 p, .int .i64 kk, .str sp, .str nmm, .list la, .list ls, .str tx]) := by rw [List.getElem?_eq_getElem hjl, he]
      have hpp := hp1.out _ (List.mem_of_getElem? hej)
      have hB : Bk wr g 48 cu := hh
      have k0 := (hB.cell (j * 7)).trans c0
      have f0 := hB.free (j * 7)
      simp only [parSm, Bool.and_eq_true, decide_eq_true_eq] at hpp
      obtain ⟨pa, pb⟩ := hpp
      go_wp2_with fail
      · rename_i hgt
        have hgt : (n : Int) < p := by simpa using hgt
        have e1 : lowTo n (j + 1) es1 = (lowTo n j es1).set j (.agg [.int .i64 (p - 1), .int .i64 kk, .str sp, .str nmm, .list la, .list ls, .str tx]) := by
          rw [lowTo_succ hej, lowN_less hgt]
        have GZ := grown_put (grown_refl wr (some g)) (p := ⟨g, j * 7, none⟩) rfl (.int .i64 (p - 1))
        refine ⟨⟨j + 1, cu.setIfInBounds (j * 7) (.int .i64 (p - 1)), by simp, by omega, ge_put hG hgl _, by rw [World.size_setCell]; exact hsz, hB.put _ _, by simpa using hcs, ?_⟩, by simp [intOf]; omega⟩
        rw [e1]
        refine (hD.gb GZ (Nat.lt_succ_self g)).setP (lowTo_at.trans hej) (fun t ht => ?_) ?_
        · rw [Array.getElem?_setIfInBounds, if_neg (by omega)]
        · rw [Array.getElem?_setIfInBounds, if_pos rfl, if_pos (by omega)]
      · rename_i hgt
        have hgt : ¬ (n : Int) < p := by simpa using hgt
        have e1 : lowTo n (j + 1) es1 = (lowTo n j es1).set j (.agg [.int .i64 p, .int .i64 kk, .str sp, .str nmm, .list la, .list ls, .str tx]) := by
          rw [lowTo_succ hej, lowN_same hgt]
        refine ⟨⟨j + 1, cu, by simp, by omega, hG, hsz, hh, hcs, ?_⟩, by simp [intOf]; omega⟩
        rw [e1]
        exact hD.setP (lowTo_at.trans hej) (fun t ht => rfl) c0
end Go.Av
namespace Go.Av
open Go.Proofs Go.RowKit Go.Proofs.YtaghfmgeccapbaaGreatDoor
variable [Rk]
def extW : Call := fun f args pbs => match f, args, pbs with
  | 42, [.list es, .int .i64 n], [] => if docOk es = true ∧ es.all parSm = true ∧ 0 ≤ n ∧ n.toNat < es.length then some (.list (withoutF es n.toNat), [], []) else none
  | _, _, _ => none
theorem extW_ok : CallOK Tryz.prog extW := by
  intro f args pbs d r pbs' h
  unfold extW at h
  split at h
  · rename_i es n
    split at h
    · rename_i hc
      obtain ⟨h1, h2, h3, h4⟩ := hc
      simp only [Option.some.injEq, Prod.mk.injEq] at h
      obtain ⟨rfl, rfl, rfl⟩ := h
      refine ⟨⟨_, Tryz.func42, rfl⟩, fun vals w F μ hv hd hb _ hlt hg => ?_⟩
      match vals, hv with
      | [v, u], _ =>
        have h0 := den_list0 (hd 0 v _ rfl rfl)
        have h5 := (hd 1 u _ rfl rfl).int_
        subst h5
        have e : (n.toNat : Int) = n := Int.toNat_of_nonneg h3
        rw [← e]
        rw [Int.toNat_natCast]
        refine (without_new es F w v n.toNat hlt h0 h1 (List.all_eq_true.1 h2) h4).mono ?_
        rintro e w' ⟨u, rfl, hG, hu⟩
        exact (RetD.of hG hu).ret hlt
    · cases h
  · cases h
def extT (call : Call) : Call := fun f args pbs => match f, args, pbs with
  | 26, [.ptr 1000000 0 0], [⟨_, [.list es, .int .i64 n, t], _⟩] => (match outerT call true es.length 0 ((es, n, t), false) with
    | some ((es', n', t'), dn) => some (.bool dn, [], [⟨0, [.list es', .int .i64 n', t'], []⟩])
    | none => none)
  | 27, [.ptr 1000000 0 0], [⟨_, [.list es, .int .i64 n, t], _⟩] => (match outerT call false es.length 0 ((es, n, t), false) with
    | some ((es', n', t'), dn) => some (.bool dn, [], [⟨0, [.list es', .int .i64 n', t'], []⟩])
    | none => none)
  | _, _, _ => none
theorem ptr_val {μ : Mu} {F : Nat → Nat → Prop} {w : World} {v : Value} (h : Den (fun _ => 1) (argNu μ) F w v (.ptr 1000000 0 0)) : v = .pointer (some ⟨μ.bl 0, 0, none⟩) := by
  cases h with
  | pure _ _ h => cases h
  | ptr k g off hg => rfl
theorem stt_ret {μ : Mu} {F : Nat → Nat → Prop} {w w' : World} {s : TS} {dn : Bool} (h : StT F w (μ.bl 0) w' s) : Ret Tryz.prog 1 μ F w (.bool dn) [] [⟨0, [.list s.1, .int .i64 s.2.1, s.2.2], []⟩] (.returned (.bool dn)) w' := by
  obtain ⟨Fr, hE, hlt, hn, hg, hb⟩ := h
  refine ⟨.bool dn, Fr, fun _ _ => none, rfl, hE.weaken (fun b _ h => .inl ⟨0, Nat.one_pos, h.symm⟩), hlt, fun b o h => (hn b o h).imp id .inl, .inl ⟨rfl, fun c ν => .pure _ _ (.bool _), rooms_nil⟩, fun j i g h => ?_, fun j i j' i' g h => ?_, fun i bx hi hbx => ?_⟩
  · cases h
  · cases h
  · have : i = 0 := by omega
    subst this
    simp only [List.getElem?_cons_zero, Option.some.injEq] at hbx
    subst hbx
    exact ⟨hb, BRooms.nil⟩
theorem stt_start {μ : Mu} {F : Nat → Nat → Prop} {w : World} {es : List D} {n : Int} {t : D} {gn : Nat} {rm : List Room} (hb : ∀ i bx, [(⟨gn, [.list es, .int .i64 n, t], rm⟩ : Bx)][i]? = some bx → BoxAt F w (μ.bl i) bx.cells ∧ bx.gen = 0 ∧ BRooms Tryz.prog F w (μ.bl i) bx.cells bx.rooms (μ.cl i)) (hlt : Lt F w) (hg : GOK F w) : StT F w (μ.bl 0) w (es, n, t) :=
  ⟨F, Ext.refl _ _ _, hlt, fun _ _ h => .inl h, hg, (hb 0 _ rfl).1⟩
theorem extT_ok {call : Call} (hc : CallOK Tryz.prog call) : CallOK Tryz.prog (extT call) := by
  intro f args pbs d r pbs' h
  unfold extT at h
  split at h
  · rename_i gn es n t rm
    split at h
    · rename_i es' n' t' dn hO
      simp only [Option.some.injEq, Prod.mk.injEq] at h
      obtain ⟨rfl, rfl, rfl⟩ := h
      refine ⟨⟨_, Tryz.func26, rfl⟩, fun vals w F μ hv hd hb _ hlt hg => ?_⟩
      match vals, hv with
      | [v], _ =>
        have hv := ptr_val (hd 0 v _ rfl rfl)
        subst hv
        refine (attrs_walk hc (stt_start hb hlt hg) hO).mono ?_
        rintro e w' ⟨rfl, h⟩
        exact stt_ret h
    · cases h
  · rename_i gn es n t rm
    split at h
    · rename_i es' n' t' dn hO
      simp only [Option.some.injEq, Prod.mk.injEq] at h
      obtain ⟨rfl, rfl, rfl⟩ := h
      refine ⟨⟨_, Tryz.func27, rfl⟩, fun vals w F μ hv hd hb _ hlt hg => ?_⟩
      match vals, hv with
      | [v], _ =>
        have hv := ptr_val (hd 0 v _ rfl rfl)
        subst hv
        refine (states_walk hc (stt_start hb hlt hg) hO).mono ?_
        rintro e w' ⟨rfl, h⟩
        exact stt_ret h
    · cases h
  · cases h
def ext17a : Call := orExt extCl extW
theorem ext17a_ok : CallOK Tryz.prog ext17a := orExt_ok extCl_ok extW_ok
noncomputable def ext17 : Call := orExt ext17a (extT (aev Tryz.prog ext17a 300))
theorem ext17_ok : CallOK Tryz.prog ext17 := orExt_ok ext17a_ok (extT_ok (aev_sound fineS ext17a_ok 300))
end Go.Av
namespace Go.Proofs.YtaghfmgeccapbaaGreatDoor

def beg (c : Int) : Option (Int × Nat × Int × Int) :=
  if c < 128 then some (c, 0, 128, 191)
  else if 194 ≤ c ∧ c ≤ 223 then some (c % 32, 1, 128, 191)
  else if c = 224 then some (0, 2, 160, 191)
  else if c = 237 then some (13, 2, 128, 159)
  else if 224 < c ∧ c ≤ 239 then some (c % 16, 2, 128, 191)
  else if c = 240 then some (0, 3, 144, 191)
  else if c = 244 then some (4, 3, 128, 143)
  else if 240 < c ∧ c < 244 then some (c % 8, 3, 128, 191)
  else none

def goOn : Nat → Int → Int → Int → List Int → Nat → Int × Nat
  | 0, ch, _, _, _, k => (ch, k)
  | _ + 1, _, _, _, [], k => (65533, k)
  | n + 1, ch, lo, up, c :: r, k => if c < lo ∨ up < c then (65533, k) else goOn n (ch * 64 + c % 64) 128 191 r (k + 1)

def firstOf (zs : List Int) : Int × Nat :=
  match zs with
  | [] => (65533, 1)
  | c :: r => match beg c with
    | none => (65533, 1)
    | some (ch, need, lo, up) => goOn need ch lo up r 1

def charsN : Nat → List Int → List Int
  | 0, _ => []
  | _ + 1, [] => []
  | n + 1, z :: zs => (firstOf (z :: zs)).1 :: charsN n ((z :: zs).drop (firstOf (z :: zs)).2)

def rawChars (zs : List Int) : List Int := charsN zs.length zs
def rightC (c : Int) : Bool := decide (0 ≤ c ∧ c ≤ 1114111 ∧ ¬ (55296 ≤ c ∧ c ≤ 57343))

end Go.Proofs.YtaghfmgeccapbaaGreatDoor
namespace Go.Proofs.YtaghfmgeccapbaaGreatDoor
open Go.RowKit

theorem rightC_true {n : Int} : rightC n = true ↔ 0 ≤ n ∧ n ≤ 1114111 ∧ ¬ (55296 ≤ n ∧ n ≤ 57343) := by unfold rightC; rw [decide_eq_true_iff]
theorem rightC_false {n : Int} : rightC n = false ↔ ¬ (0 ≤ n ∧ n ≤ 1114111 ∧ ¬ (55296 ≤ n ∧ n ≤ 57343)) := by unfold rightC; rw [decide_eq_false_iff_not]

theorem rRight_any (w : World) (n : Int) : Calls Tryz.prog 82 #[.int .i64 n] w fun e w' => e = .returned (.bool (rightC n)) ∧ w = w' := by
  rcases (by omega : n < 0 ∨ 1114111 < n ∨ (0 ≤ n ∧ n < 55296) ∨ (55296 ≤ n ∧ n ≤ 57343) ∨ (57343 < n ∧ n ≤ 1114111)) with h | h | ⟨h, h'⟩ | ⟨h, h'⟩ | ⟨h, h'⟩
  · have hq : Hid (rightC n = false) := rightC_false.2 (by omega)
    go_enter Tryz.func82, Tryz.ntmps82
    go_wp2
    go_ret
    exact ⟨by rw [hq.out]; rfl, rfl⟩
  · have hq : Hid (rightC n = false) := rightC_false.2 (by omega)
    have h0 : ¬ n < 0 := by omega
    go_enter Tryz.func82, Tryz.ntmps82
    go_wp2
    go_ret
    exact ⟨by rw [hq.out]; rfl, rfl⟩
  · have hq : Hid (rightC n = true) := rightC_true.2 (by omega)
    go_enter Tryz.func82, Tryz.ntmps82
    go_wp2
    go_ret
    exact ⟨by rw [hq.out]; rfl, rfl⟩
  · have hq : Hid (rightC n = false) := rightC_false.2 (by omega)
    have hd : decide (n < 55296) = false := by simp; omega
    have hd2 : decide (57343 < n) = false := by simp; omega
    go_enter Tryz.func82, Tryz.ntmps82
    go_wp2
    go_ret
    exact ⟨by rw [hq.out]; rfl, rfl⟩
  · have hq : Hid (rightC n = true) := rightC_true.2 (by omega)
    go_enter Tryz.func82, Tryz.ntmps82
    go_wp2
    go_ret
    exact ⟨by rw [hq.out]; rfl, rfl⟩

def rPut (n : Int) : List Int :=
  if n < 128 then [n] else if n < 2048 then [192 + n / 64, 128 + n % 64] else if n < 65536 then [224 + n / 4096, 128 + n / 64 % 64, 128 + n % 64] else [240 + n / 262144, 128 + n / 4096 % 64, 128 + n / 64 % 64, 128 + n % 64]
theorem RetL.lit {k : IntKind} {w : World} {t : TypeId} {l : List Int} {cs : Array Value} {n c : Nat} (h : cs = (l.map (Value.int k)).toArray) (hn : n = l.length) (hc : c = l.length) :
    RetL k w l (.returned (.slice (some ⟨w.heap.size, 0, none⟩) n c)) (w.alloc (.cells cs t)) := by
  subst h hn hc
  refine ⟨_, _, rfl, Nat.le_refl _, ?_, (Below.refl _ w).alloc (Nat.le_refl _) _⟩
  have := Sl.lit w t (l.map (Value.int k)).toArray
  simpa using this

theorem rPut_any (w : World) (n : Int) (h0 : 0 ≤ n) (h1 : n < 1114112) : Calls Tryz.prog 83 #[.int .i64 n] w (RetL .u8 w (rPut n)) := by
  rcases (by omega : n < 128 ∨ (128 ≤ n ∧ n < 2048) ∨ (2048 ≤ n ∧ n < 65536) ∨ 65536 ≤ n) with h | ⟨h, h'⟩ | ⟨h, h'⟩ | h
  · have hq : Hid (rPut n = [n]) := by show _ = _; unfold rPut; rw [if_pos h]
    go_enter Tryz.func83, Tryz.ntmps83
    go_wp2
    go_ret
    rw [hq.out]
    exact RetL.lit (by simp) rfl rfl
  · have hq : Hid (rPut n = [192 + n / 64, 128 + n % 64]) := by show _ = _; unfold rPut; rw [if_neg (by omega), if_pos (by omega)]
    go_enter Tryz.func83, Tryz.ntmps83
    go_wp2
    go_ret
    rw [hq.out]
    exact RetL.lit (by simp) rfl rfl
  · have hq : Hid (rPut n = [224 + n / 4096, 128 + n / 64 % 64, 128 + n % 64]) := by show _ = _; unfold rPut; rw [if_neg (by omega), if_neg (by omega), if_pos (by omega)]
    go_enter Tryz.func83, Tryz.ntmps83
    go_wp2
    go_ret
    rw [hq.out]
    exact RetL.lit (by simp) rfl rfl
  · have hq : Hid (rPut n = [240 + n / 262144, 128 + n / 4096 % 64, 128 + n / 64 % 64, 128 + n % 64]) := by show _ = _; unfold rPut; rw [if_neg (by omega), if_neg (by omega), if_neg (by omega)]
    go_enter Tryz.func83, Tryz.ntmps83
    go_wp2
    go_ret
    rw [hq.out]
    exact RetL.lit (by simp) rfl rfl
end Go.Proofs.YtaghfmgeccapbaaGreatDoor
namespace Go.Proofs.YtaghfmgeccapbaaGreatDoor
open Go.RowKit

def rHead : Nat → Int | 2 => 192 | 3 => 224 | 4 => 240 | _ => 0
def rFold : Int → List Int → Int
  | n, [] => n
  | n, z :: r => rFold (64 * n + z - 128) r
def rTold (zs : List Int) : Int := match zs with | [] => 0 | z :: r => rFold (z - rHead (r.length + 1)) r

set_option maxHeartbeats 1000000 in
theorem told_any (w : World) (B : Nat) (a : Option Addr) (n c : Nat) (zs : List Int) (hB : B ≤ w.heap.size) (hz : ∀ i, i < zs.length → 0 ≤ zs.getD i 0 ∧ zs.getD i 0 < 256) (hn : n = zs.length) (h0 : 0 < zs.length) (h4 : zs.length ≤ 4)
    (hs : Sl w B a (zs.map (Value.int .u8))) : Calls Tryz.prog 80 #[.slice a n c] w (RetV w (.int .i64 (rTold zs))) := by
  subst hn
  obtain ⟨b, off, rfl, hb, hcell⟩ := hs.int h0
  have hbw : b < w.heap.size := by omega
  rcases (by omega : zs.length = 1 ∨ zs.length = 2 ∨ zs.length = 3 ∨ zs.length = 4) with hl | hl | hl | hl
  · match zs, hl with
    | [z0], _ =>
      have c0 := hcell 0 (by simp)
      have b0 := hz 0 (by simp)
      simp at c0 b0
      obtain ⟨l0, u0⟩ := b0
      clear hcell hz hs hl
      go_enter Tryz.func80, Tryz.ntmps80
      go_wp2_with fail
      go_quiet (fail)
      go_wp2_with fail
      refine wp_loop_rounds 1 ?_
      repeat any_goals (rw [rounds_succ]; go_wp2_with fail)
      go_ret
      exact ⟨by first | rfl | exact ret_int (by simp [rTold, rFold, rHead]), below_drewN ((Below.refl _ _).alloc (Nat.le_refl _) _) _⟩
  · match zs, hl with
    | [z0, z1], _ =>
      have c0 := hcell 0 (by simp)
      have b0 := hz 0 (by simp)
      have c1 := hcell 1 (by simp)
      have b1 := hz 1 (by simp)
      simp at c0 b0 c1 b1
      obtain ⟨l0, u0⟩ := b0
      obtain ⟨l1, u1⟩ := b1
      clear hcell hz hs hl
      go_enter Tryz.func80, Tryz.ntmps80
      go_wp2_with fail
      go_quiet (fail)
      go_wp2_with fail
      refine wp_loop_rounds 2 ?_
      repeat any_goals (rw [rounds_succ]; go_wp2_with fail)
      go_ret
      exact ⟨by first | rfl | exact ret_int (by simp [rTold, rFold, rHead]), below_drewN ((Below.refl _ _).alloc (Nat.le_refl _) _) _⟩
  · match zs, hl with
    | [z0, z1, z2], _ =>
      have c0 := hcell 0 (by simp)
      have b0 := hz 0 (by simp)
      have c1 := hcell 1 (by simp)
      have b1 := hz 1 (by simp)
      have c2 := hcell 2 (by simp)
      have b2 := hz 2 (by simp)
      simp at c0 b0 c1 b1 c2 b2
      obtain ⟨l0, u0⟩ := b0
      obtain ⟨l1, u1⟩ := b1
      obtain ⟨l2, u2⟩ := b2
      clear hcell hz hs hl
      go_enter Tryz.func80, Tryz.ntmps80
      go_wp2_with fail
      go_quiet (fail)
      go_wp2_with fail
      refine wp_loop_rounds 3 ?_
      repeat any_goals (rw [rounds_succ]; go_wp2_with fail)
      go_ret
      exact ⟨by first | rfl | exact ret_int (by simp [rTold, rFold, rHead]), below_drewN ((Below.refl _ _).alloc (Nat.le_refl _) _) _⟩
  · match zs, hl with
    | [z0, z1, z2, z3], _ =>
      have c0 := hcell 0 (by simp)
      have b0 := hz 0 (by simp)
      have c1 := hcell 1 (by simp)
      have b1 := hz 1 (by simp)
      have c2 := hcell 2 (by simp)
      have b2 := hz 2 (by simp)
      have c3 := hcell 3 (by simp)
      have b3 := hz 3 (by simp)
      simp at c0 b0 c1 b1 c2 b2 c3 b3
      obtain ⟨l0, u0⟩ := b0
      obtain ⟨l1, u1⟩ := b1
      obtain ⟨l2, u2⟩ := b2
      obtain ⟨l3, u3⟩ := b3
      clear hcell hz hs hl
      go_enter Tryz.func80, Tryz.ntmps80
      go_wp2_with fail
      go_quiet (fail)
      go_wp2_with fail
      refine wp_loop_rounds 4 ?_
      repeat any_goals (rw [rounds_succ]; go_wp2_with fail)
      go_ret
      exact ⟨by first | rfl | exact ret_int (by simp [rTold, rFold, rHead]), below_drewN ((Below.refl _ _).alloc (Nat.le_refl _) _) _⟩
end Go.Proofs.YtaghfmgeccapbaaGreatDoor
namespace Go.Proofs.YtaghfmgeccapbaaGreatDoor
open Go.RowKit

theorem strOfNums_inj {xs ys : List Int} (hx : ∀ i, i < xs.length → 0 ≤ xs.getD i 0 ∧ xs.getD i 0 < 256) (hy : ∀ i, i < ys.length → 0 ≤ ys.getD i 0 ∧ ys.getD i 0 < 256) (h : strOfNums xs = strOfNums ys) : xs = ys := by
  have h1 : (xs.map fun n => UInt8.ofNat n.toNat) = (ys.map fun n => UInt8.ofNat n.toNat) := by
    rw [← strOfNums_data, ← strOfNums_data, h]
  have hl : xs.length = ys.length := by simpa using congrArg List.length h1
  apply List.ext_getElem hl
  intro i hi hi'
  have h2 : UInt8.ofNat (xs[i]).toNat = UInt8.ofNat (ys[i]).toNat := by
    have := congrArg (fun l => l[i]?) h1
    simpa [hi, hi'] using this
  have a := hx i hi
  have b := hy i hi'
  simp [hi, hi'] at a b
  have h3 := congrArg UInt8.toNat h2
  simp at h3
  omega

theorem bytesArr_inj {a b : ByteArray} (h : a.data.toList = b.data.toList) : a = b := by
  cases a
  cases b
  simp only at h
  rw [Array.toList_inj.1 h]
theorem str_eq {xs ys : List Int} (hx : ∀ i, i < xs.length → 0 ≤ xs.getD i 0 ∧ xs.getD i 0 < 256) (hy : ∀ i, i < ys.length → 0 ≤ ys.getD i 0 ∧ ys.getD i 0 < 256) :
    ((strOfNums xs).toList == (strOfNums ys).toList) = decide (xs = ys) := by
  rw [Bool.eq_iff_iff]
  simp only [beq_iff_eq, decide_eq_true_eq]
  refine ⟨fun h => strOfNums_inj hx hy (bytesArr_inj (by rw [← ByteArray.toList_eq, ← ByteArray.toList_eq, h])), fun h => by rw [h]⟩
theorem conv_sl {P : Program} {W : World} {B : Nat} {a : Option Addr} {zs : List Int} {c : Nat} {src dst e : TypeId} (hs : P.underlying src = some (.slice e)) (he : P.underlying e = some (.int .u8))
    (hd : P.underlying dst = some .string) (hsl : Sl W B a (zs.map (Value.int .u8))) : (convert src dst (.slice a zs.length c)).run P W = .ok (.string (strOfNums zs)) W := by
  cases zs with
  | nil =>
    show (convert src dst (.slice a 0 c)).run P W = _
    rw [run_convert_bytes_string W src dst e _ 0 c hs he hd]
    cases a <;> simp [Conv.bytesToString, loadCells]
    all_goals rfl
  | cons z r =>
    obtain ⟨b, off, rfl, _, hc⟩ := hsl.int (i := 0) (by simp)
    exact run_convert_bytes_arg W src e hs he b off _ c _ rfl hc dst hd
end Go.Proofs.YtaghfmgeccapbaaGreatDoor
namespace Go.Proofs.YtaghfmgeccapbaaGreatDoor
open Go.RowKit

def rWholeB (zs : List Int) : Bool := rightC (rTold zs) && decide (rPut (rTold zs) = zs)

theorem rPut_bytes {n : Int} (h0 : 0 ≤ n) (h1 : n < 1114112) : ∀ i, i < (rPut n).length → 0 ≤ (rPut n).getD i 0 ∧ (rPut n).getD i 0 < 256 := by
  unfold rPut
  intro i hi
  split at hi
  · rw [if_pos ‹_›]
    have : i = 0 := by simpa using hi
    subst this
    simp
    omega
  · rw [if_neg ‹_›]
    split at hi
    · rw [if_pos ‹_›]
      rcases (by simp at hi; omega : i = 0 ∨ i = 1) with rfl | rfl <;> simp <;> omega
    · rw [if_neg ‹_›]
      split at hi
      · rw [if_pos ‹_›]
        rcases (by simp at hi; omega : i = 0 ∨ i = 1 ∨ i = 2) with rfl | rfl | rfl <;> simp <;> omega
      · rw [if_neg ‹_›]
        rcases (by simp at hi; omega : i = 0 ∨ i = 1 ∨ i = 2 ∨ i = 3) with rfl | rfl | rfl | rfl <;> simp <;> omega
theorem rRight_no (w : World) (n : Int) (h : rightC n = false) : Calls Tryz.prog 82 #[.int .i64 n] w fun e w' => e = .returned (.bool false) ∧ w' = w :=
  (rRight_any w n).mono fun _ _ ⟨he, hw⟩ => ⟨by rw [he, h], hw.symm⟩
theorem rRight_yes (w : World) (n : Int) (h : rightC n = true) : Calls Tryz.prog 82 #[.int .i64 n] w fun e w' => e = .returned (.bool true) ∧ w' = w :=
  (rRight_any w n).mono fun _ _ ⟨he, hw⟩ => ⟨by rw [he, h], hw.symm⟩

set_option maxHeartbeats 1000000 in
theorem whole_any (w : World) (B : Nat) (a : Option Addr) (n c : Nat) (zs : List Int) (hB : B ≤ w.heap.size) (hz : ∀ i, i < zs.length → 0 ≤ zs.getD i 0 ∧ zs.getD i 0 < 256) (hn : n = zs.length) (h0 : 0 < zs.length) (h4 : zs.length ≤ 4)
    (hs : Sl w B a (zs.map (Value.int .u8))) : Calls Tryz.prog 68 #[.slice a n c] w (RetV w (.bool (rWholeB zs))) := by
  subst hn
  go_enter Tryz.func68, Tryz.ntmps68
  go_wp2_with fail
  refine (told_any _ B _ _ _ zs hB hz rfl h0 h4 hs).mono ?_
  rintro e w1 ⟨rfl, hb1⟩
  have hs1 := hs.below (hb1.mono hB)
  have hB1 : B ≤ w1.heap.size := Nat.le_trans hB hb1.size
  cases hr : rightC (rTold zs) with
  | false =>
    have HQ : Hid (rWholeB zs = false) := by show _ = _; simp [rWholeB, hr]
    have HR := Lib.hid hr
    clear hr
    generalize rTold zs = t at *
    go_wp2_with fail
    go_quiet ((go_at_call 82; exact Calls.quiet_of_same (rRight_no _ _ HR.out)))
    go_wp2_with fail
    go_ret
    exact ⟨by rw [HQ.out]; rfl, below_drewN hb1 _⟩
  | true =>
    have HR := Lib.hid hr
    have hrb := rightC_true.1 hr
    obtain ⟨t0, t1, -⟩ := hrb
    clear hr
    have HQ : Hid (∀ t, t = rTold zs → rWholeB zs = decide (rPut t = zs)) := by
      intro t ht
      subst ht
      simp [rWholeB, HR.out]
    obtain ⟨t, HT⟩ : ∃ t, Hid (t = rTold zs) := ⟨_, rfl⟩
    rw [← HT.out] at HR t0 t1
    rw [← HT.out]
    have hcv : ∀ W : World, Qt w1 W → (convert 106 9 (.slice a zs.length c)).run Tryz.prog W = .ok (.string (strOfNums zs)) W := fun W hW => conv_sl Tryz.underlying106 Tryz.underlying5 Tryz.underlying9 (hs1.keep (fun b o _ => hW.cell _))
    have hcv1 := hcv w1.drew (Qt.refl w1).drew
    go_wp2_with fail
    go_region_with (first
      | (go_at_call 82; refine (rRight_yes _ _ HR.out).mono ?_; rintro e w2 ⟨rfl, rfl⟩)
      | (go_at_call 83; refine (rPut_any _ t t0 (Int.lt_add_one_of_le t1)).mono ?_; rintro e w2 ⟨a2, c2, rfl, hc2, hs2, hb2⟩; have hcv2 := conv_sl (c := c2) Tryz.underlying106 Tryz.underlying5 Tryz.underlying9 hs2; have hcv3 := conv_sl (c := c) Tryz.underlying106 Tryz.underlying5 Tryz.underlying9 (hs1.drew.below (hb2.mono hB1))))
    all_goals go_wp2_with fail
    all_goals go_ret
    all_goals exact ⟨by rw [HQ.out t HT.out]; exact ret_bool (str_eq (rPut_bytes t0 (by omega)) hz), hb1.trans ((Qt.below (Qt.refl w1).drew).trans (hb2.mono (show w.heap.size ≤ w1.heap.size from hb1.size)))⟩
end Go.Proofs.YtaghfmgeccapbaaGreatDoor
namespace Go.Proofs.YtaghfmgeccapbaaGreatDoor
open Go.RowKit

def rd (ch need lo up : Int) : Array Value := #[.int .i64 ch, .int .i64 need, .int .u8 lo, .int .u8 up]

end Go.Proofs.YtaghfmgeccapbaaGreatDoor
namespace Go.Proofs.YtaghfmgeccapbaaGreatDoor
open Go.RowKit

end Go.Proofs.YtaghfmgeccapbaaGreatDoor
namespace Go.Proofs.YtaghfmgeccapbaaGreatDoor
open Go.RowKit

def BytesOK (zs : List Int) : Prop := ∀ i, i < zs.length → 0 ≤ zs.getD i 0 ∧ zs.getD i 0 < 256

def chOK (need : Nat) (ch : Int) : Prop := 0 ≤ ch ∧ ((need = 3 ∧ ch < 128) ∨ (need = 2 ∧ ch < 8192) ∨ (need = 1 ∧ ch < 524288) ∨ (need = 0 ∧ ch < 33554432))
theorem chOK.next {need : Nat} {ch c : Int} (h : chOK (need + 1) ch) : chOK need (ch * 64 + c % 64) := by
  unfold chOK at *
  omega
def FirstPost (w : World) (zs : List Int) (e : Ending) (w' : World) : Prop :=
  e = .returned (.tuple #[.int .i64 (firstOf zs).1, .int .i64 ((firstOf zs).2 : Nat)]) ∧ Below w.heap.size w w'
theorem FirstPost.mk' {w w' : World} {zs : List Int} {x : Int} {k : Nat} {e : Ending} (h : firstOf zs = (x, k)) (he : e = .returned (.tuple #[.int .i64 x, .int .i64 (k : Nat)])) (hb : Below w.heap.size w w') : FirstPost w zs e w' :=
  ⟨by rw [h]; exact he, hb⟩

end Go.Proofs.YtaghfmgeccapbaaGreatDoor
namespace Go.Proofs.YtaghfmgeccapbaaGreatDoor
open Go.RowKit

theorem Tryz.eiBytes : EI Tryz.prog 106 5 1 1 := EI.mk (z := .int .u8 0) (by kernel_rfl) (by kernel_rfl) rfl (by decide)

theorem BytesOK.drop {zs : List Int} (h : BytesOK zs) (k : Nat) : BytesOK (zs.drop k) := fun i hi => by
  simp at hi
  have := h (k + i) (by omega)
  simpa [List.getD_eq_getElem?_getD] using this

structure CharsRel (w : World) (B : Nat) (zs rs : List Int) (n : Nat) (a : Option Addr) (c : Nat) (v : Value) (done : List Int) (wr : World) : Prop where
  len : n = rs.length
  cap : n ≤ c
  size : rs.length + done.length ≤ zs.length
  ok : BytesOK rs
  sl : Sl wr B a (rs.map (Value.int .u8))
  own : OwnL wr w.heap.size 3 .i64 v done
  below : Below w.heap.size w wr
  eq : done ++ rawChars rs = rawChars zs

theorem CharsRel.next {w wr w2 w3 : World} {B : Nat} {zs rs done : List Int} {a : Option Addr} {c y : Nat} {v v3 : Value} {x : Int} (h : CharsRel w B zs rs rs.length a c v done wr) (hb2 : Below wr.heap.size wr w2)
    (hB : B ≤ w.heap.size) (he : rawChars rs = x :: rawChars (rs.drop y)) (h1 : 1 ≤ y) (h2 : y ≤ rs.length) (hc : rs.length ≤ c)
    (hs : Sl w2 B a (rs.map (Value.int .u8))) (ho : OwnL w3 w.heap.size 3 .i64 v3 (done ++ [x])) (hb3 : Below w.heap.size w2 w3) :
    CharsRel w B zs (rs.drop y) (rs.length - y) (if c = y then a else Option.map (fun x => x.add y) a) (c - y) v3 (done ++ [x]) w3 := by
  have hs3 := hs.below (hb3.mono hB)
  have hcut := hs3.cut (k := y) (cap := c) (n := rs.length) h2 (by simp) hc
  refine ⟨by simp, by omega, ?_, h.ok.drop y, by simpa using hcut, ho, ?_, ?_⟩
  · have := h.size
    simp
    omega
  · exact h.below.trans ((hb2.mono h.below.size).trans hb3)
  · rw [← h.eq, he]
    simp
end Go.Proofs.YtaghfmgeccapbaaGreatDoor
namespace Go.Proofs.YtaghfmgeccapbaaGreatDoor
open Go.RowKit

def fillTo (zs : List Int) (c : Int) (size : Nat) : List Int := zs ++ List.replicate (size - zs.length) c

structure FilledRel (w : World) (zs : List Int) (z : Int) (size k : Nat) (v : Value) (wr : World) : Prop where
  le : zs.length + k ≤ size
  own : OwnL wr w.heap.size 5 .u8 v (zs ++ List.replicate k z)
  below : Below w.heap.size w wr

set_option maxHeartbeats 1000000 in
theorem filled_any (w : World) (B : Nat) (a : Option Addr) (n c : Nat) (zs : List Int) (z : Int) (size : Nat) (hB : B ≤ w.heap.size) (hn : n = zs.length) (h4 : zs.length ≤ size) (h5 : size ≤ 1000)
    (hs : Sl w B a (zs.map (Value.int .u8))) : Calls Tryz.prog 89 #[.slice a n c, .int .u8 z, .int .i64 size] w (RetL .u8 w (fillTo zs z size)) := by
  subst hn
  have hs0 := hs.alloc hB (.cells #[] 5)
  have ho0 := OwnL.nil (w.alloc (.cells #[] 5)) w.heap.size 5 .u8 (some ⟨w.heap.size, 0, none⟩)
  go_enter Tryz.func89, Tryz.ntmps89
  go_wp2_with (at_builtin; refine appL_sl _ rfl (.tmp 8) (.tmp 9) 106 rfl Tryz.eiBytes (by decide) w.heap.size .u8 _ [] rfl ho0 B a zs.length c zs rfl rfl hs0 (by simp) (by omega) (by simp) ?_; intro v w1 ho1 hg1 hb1)
  have HR : FilledRel w zs z size 0 v w1 := ⟨by omega, by simpa using ho1, ((Below.refl _ w).alloc (Nat.le_refl _) _).trans hb1⟩
  clear ho1 hg1 hb1 hs0 ho0
  go_loopw [7] (fun v wr => ∃ k a m c, v = .slice a m c ∧ m = zs.length + k ∧ FilledRel w zs z size k v wr) (fun v _ => size - lenV v)
  case atStart =>
    obtain ⟨a1, c1, hv, -, -⟩ := HR.own.form
    exact ⟨0, a1, _, c1, hv, by simp, HR⟩
  case round =>
    clear HR
    obtain ⟨k, a, m, c, rfl, rfl, hr⟩ := hrel
    have hle := hr.le
    by_cases hk : zs.length + k = size
    · have HQ : Hid (fillTo zs z size = zs ++ List.replicate k z) := by
        show _ = _
        rw [fillTo, ← hk, Nat.add_sub_cancel_left]
      have HO := hr.own
      have HB := Lib.hid hr.below
      clear hr hle
      subst hk
      go_wp2_with fail
      go_ret
      rw [HQ.out]
      exact RetL.of rfl HO HB.out
    · have hlt : zs.length + k < size := by omega
      have HO := hr.own
      have hwb := hr.below.size
      have HR := Lib.hid hr
      clear hr hk hle
      go_wp2_with (at_builtin; refine appL_one _ rfl (.tmp 15) (.tmp 17) 106 rfl Tryz.eiBytes (by decide) w.heap.size .u8 _ _ _ rfl HO rfl (by simp; omega) hwb ?_; intro v3 w3 ho3 hg3 hb3)
      have HN : FilledRel w zs z size (k + 1) v3 w3 := ⟨hlt, by rw [List.replicate_succ', ← List.append_assoc]; exact ho3, HR.out.below.trans hb3⟩
      clear HR HO ho3 hg3 hb3
      obtain ⟨a1, c1, hv, -, -⟩ := HN.own.form
      refine ⟨⟨k + 1, a1, _, c1, hv, by simp, HN⟩, ?_⟩
      rw [hv]
      simp only [lenV, List.length_append, List.length_replicate]
      omega

def rBegFrom (zs : List Int) : Nat → Bool
  | 0 => false
  | m + 1 => rWholeB (fillTo zs 128 (4 - m)) || (rWholeB (fillTo zs 191 (4 - m)) || rBegFrom zs m)

structure BegRel (w : World) (zs : List Int) (s : Nat) (wr : World) : Prop where
  below : Below w.heap.size w wr
  eq : rBegFrom zs (5 - s) = rBegFrom zs (4 - zs.length)

theorem fillTo_bytes {zs : List Int} {z : Int} {s : Nat} (hz : BytesOK zs) (h0 : 0 ≤ z) (h1 : z < 256) : BytesOK (fillTo zs z s) := by
  intro i hi
  unfold fillTo at *
  by_cases h : i < zs.length
  · have := hz i h
    simpa [List.getD_eq_getElem?_getD, List.getElem?_append_left h] using this
  · simp at hi
    have : (zs ++ List.replicate (s - zs.length) z).getD i 0 = z := by
      simp only [List.getD_eq_getElem?_getD, List.getElem?_append_right (by omega : zs.length ≤ i)]
      simp [show i - zs.length < s - zs.length by omega]
    rw [this]
    omega
theorem fillTo_length {zs : List Int} {z : Int} {s : Nat} (h : zs.length ≤ s) : (fillTo zs z s).length = s := by
  simp [fillTo]
  omega

set_option maxHeartbeats 1000000 in
theorem begins_any (w : World) (B : Nat) (a : Option Addr) (n c : Nat) (zs : List Int) (hB : B ≤ w.heap.size) (hz : BytesOK zs) (hn : n = zs.length) (h0 : 0 < zs.length) (h4 : zs.length ≤ 4)
    (hs : Sl w B a (zs.map (Value.int .u8))) : Calls Tryz.prog 81 #[.slice a n c] w (RetV w (.bool (rBegFrom zs (4 - zs.length)))) := by
  subst hn
  have HZ := Lib.hid hz
  clear hz
  go_enter Tryz.func81, Tryz.ntmps81
  go_wp2_with fail
  go_loopw [3] (fun i wr => ∃ s : Nat, i = .int .i64 s ∧ zs.length < s ∧ s ≤ 5 ∧ BegRel w zs s wr) (fun i _ => 5 - (intOf i).toNat)
  case atStart => exact ⟨zs.length + 1, by go_num, by omega, by omega, ⟨Below.refl _ _, by rw [Nat.sub_add_eq, Nat.sub_right_comm]⟩⟩
  case round =>
    obtain ⟨s, rfl, h1, h2, hr⟩ := hrel
    have HR := Lib.hid hr
    have hs1 := hs.below (hr.below.mono hB)
    have hB1 : B ≤ wr.heap.size := Nat.le_trans hB hr.below.size
    have hwb : w.heap.size ≤ wr.heap.size := hr.below.size
    clear hr hs
    by_cases h5 : s = 5
    · subst h5
      have HQ : Hid (rBegFrom zs (4 - zs.length) = false) := HR.out.eq.symm
      go_wp2_with fail
      go_ret
      exact ⟨by rw [HQ.out]; rfl, HR.out.below⟩
    · have hs4 : s ≤ 4 := by omega
      have HE : Hid (rBegFrom zs (4 - zs.length) = (rWholeB (fillTo zs 128 s) || (rWholeB (fillTo zs 191 s) || rBegFrom zs (4 - s)))) := by
        have := HR.out.eq
        rw [show 5 - s = (4 - s) + 1 by omega] at this
        rw [rBegFrom, show 4 - (4 - s) = s by omega] at this
        exact this.symm
      clear h5 h2
      go_wp2_with fail
      refine (filled_any _ B _ _ _ zs 128 s hB1 rfl (by omega) (by omega) hs1).mono ?_
      rintro e w2 ⟨a2, c2, rfl, hc2, hs2, hb2⟩
      have hs12 := hs1.below (hb2.mono hB1)
      have hB2 : B ≤ w2.heap.size := Nat.le_trans hB1 hb2.size
      go_wp2_with fail
      refine (whole_any _ _ _ _ _ _ (Nat.le_refl _) (fillTo_bytes (z := 128) (s := s) HZ.out (by omega) (by omega)) rfl (by rw [fillTo_length (by omega)]; omega) (by rw [fillTo_length (by omega)]; omega) hs2).mono ?_
      rintro e w3 ⟨rfl, hb3⟩
      have hs13 := hs12.below (hb3.mono hB2)
      have hB3 : B ≤ w3.heap.size := Nat.le_trans hB2 hb3.size
      have h13 : Below wr.heap.size wr w3 := hb2.trans (hb3.mono hb2.size)
      clear hs1 hs2 hs12 hb2 hb3 hc2
      cases hw1 : rWholeB (fillTo zs 128 s) with
      | true =>
        have HQ : Hid (rBegFrom zs (4 - zs.length) = true) := by show _ = _; rw [HE.out, hw1, Bool.true_or]
        go_wp2_with fail
        go_ret
        exact ⟨by rw [HQ.out]; rfl, HR.out.below.trans (h13.mono hwb)⟩
      | false =>
        go_wp2_with fail
        refine (filled_any _ B _ _ _ zs 191 s hB3 rfl (by omega) (by omega) hs13).mono ?_
        rintro e w4 ⟨a4, c4, rfl, hc4, hs4', hb4⟩
        go_wp2_with fail
        refine (whole_any _ _ _ _ _ _ (Nat.le_refl _) (fillTo_bytes (z := 191) (s := s) HZ.out (by omega) (by omega)) rfl (by rw [fillTo_length (by omega)]; omega) (by rw [fillTo_length (by omega)]; omega) hs4').mono ?_
        rintro e w5 ⟨rfl, hb5⟩
        have h15 : Below wr.heap.size wr w5 := h13.trans ((hb4.mono h13.size).trans (hb5.mono (Nat.le_trans h13.size hb4.size)))
        clear hs4' hb4 hb5 hc4 hs13 h13
        cases hw2 : rWholeB (fillTo zs 191 s) with
        | true =>
          have HQ : Hid (rBegFrom zs (4 - zs.length) = true) := by show _ = _; rw [HE.out, hw1, hw2]; rfl
          clear HE
          go_wp2_with fail
          go_ret
          exact ⟨by rw [HQ.out]; rfl, HR.out.below.trans (h15.mono hwb)⟩
        | false =>
          have HN : BegRel w zs (s + 1) w5 := ⟨HR.out.below.trans (h15.mono hwb), by rw [HE.out, hw1, hw2, show 5 - (s + 1) = 4 - s by omega]; rfl⟩
          clear HE hw1 hw2 HR
          go_wp2_with fail
          refine ⟨⟨s + 1, by go_num, by omega, by omega, HN⟩, ?_⟩
          simp [intOf]
          omega
end Go.Proofs.YtaghfmgeccapbaaGreatDoor
namespace Go.Proofs.YtaghfmgeccapbaaGreatDoor
open Go.RowKit

theorem Sl.mid {w : World} {B : Nat} {a : Option Addr} {xs : List Value} (h : Sl w B a xs) (k n : Nat) : Sl w B (a.map (fun x => x.add k)) ((xs.drop k).take n) := fun hne => by
  have hlt : k < xs.length := by
    apply Classical.byContradiction
    intro hge
    rw [List.drop_eq_nil_of_le (by omega)] at hne
    simp at hne
  obtain ⟨b, off, rfl, hb, hcell⟩ := h.open_ hlt
  refine ⟨b, off + k, by simp [Addr.add], hb, fun i hi => ?_⟩
  simp at hi
  rw [Nat.add_assoc, hcell (k + i) (by omega)]
  simp
theorem Sl.midI {w : World} {B : Nat} {a : Option Addr} {k : IntKind} {zs : List Int} (h : Sl w B a (zs.map (Value.int k))) (j n : Nat) : Sl w B (a.map (fun x => x.add j)) (((zs.drop j).take n).map (Value.int k)) := by
  have := h.mid j n
  rwa [← List.map_drop, ← List.map_take] at this
theorem BytesOK.take {zs : List Int} (h : BytesOK zs) (k : Nat) : BytesOK (zs.take k) := fun i hi => by
  simp only [List.length_take] at hi
  have := h i (by omega)
  simpa [List.getD_eq_getElem?_getD, List.getElem?_take, show i < k by omega] using this
def rF1 (r : List Int) : Nat → Option (Int × Nat)
  | 0 => none
  | m + 1 => if 4 - m ≤ r.length then (if rWholeB (r.take (4 - m)) then some (rTold (r.take (4 - m)), 4 - m) else rF1 r m) else none
def rBeg (r : List Int) : Bool := rBegFrom r (4 - r.length)
def rF2 (r : List Int) : Nat → Nat
  | 0 => 1
  | m + 1 => if m + 2 ≤ r.length ∧ rBeg (r.take (m + 2)) = true then m + 2 else rF2 r m
def rFirst (r : List Int) : Int × Nat := match rF1 r 4 with
  | some x => x
  | none => (65533, rF2 r 2)

def FirstIs (w : World) (x : Int × Nat) (e : Ending) (w' : World) : Prop := e = .returned (.tuple #[.int .i64 x.1, .int .i64 (x.2 : Nat)]) ∧ Below w.heap.size w w'
theorem FirstIs.mk' {w w' : World} {x : Int × Nat} {y : Int} {k : Nat} {e : Ending} (h : x = (y, k)) (he : e = .returned (.tuple #[.int .i64 y, .int .i64 (k : Nat)])) (hb : Below w.heap.size w w') : FirstIs w x e w' :=
  ⟨by rw [h]; exact he, hb⟩

set_option maxHeartbeats 1000000 in
theorem rFirst_any (w : World) (B : Nat) (a : Option Addr) (n c : Nat) (zs : List Int) (at_ : Nat) (hB : B ≤ w.heap.size) (hz : BytesOK zs) (hn : n = zs.length) (hc : n ≤ c) (hat : at_ < zs.length) (hm : zs.length ≤ 140737488355328)
    (hs : Sl w B a (zs.map (Value.int .u8))) : Calls Tryz.prog 67 #[.slice a n c, .int .i64 at_] w (FirstIs w (rFirst (zs.drop at_))) := by
  subst hn
  have HZ := Lib.hid hz
  have hs0 := Lib.hid hs
  clear hz
  go_enter Tryz.func67, Tryz.ntmps67
  go_wp2_with fail
  go_loopw [6] (fun i wr => ∃ s : Nat, i = .int .i64 s ∧ 1 ≤ s ∧ s ≤ 5 ∧ Hid (rF1 (zs.drop at_) (5 - s) = rF1 (zs.drop at_) 4) ∧ Below w.heap.size w wr) (fun i _ => 5 - (intOf i).toNat)
  case atStart => exact ⟨1, by go_num, by omega, by omega, rfl, Below.refl _ _⟩
  case round =>
    obtain ⟨s, rfl, h1, h2, HR, hb⟩ := hrel
    have hs1 := hs.below (hb.mono hB)
    have hB1 : B ≤ wr.heap.size := Nat.le_trans hB hb.size
    clear hs
    by_cases hin : s ≤ 4 ∧ at_ + s ≤ zs.length
    · obtain ⟨i1, i2⟩ := hin
      have i3 : (at_ : Int) + (s : Int) ≤ (zs.length : Int) := by omega
      have hL : ((zs.drop at_).take s).length = s := by simp; omega
      have HL := Lib.hid hL
      have HOK := ((HZ.out).drop at_).take s
      have hHE : rF1 (zs.drop at_) (5 - s) = if rWholeB ((zs.drop at_).take s) then some (rTold ((zs.drop at_).take s), s) else rF1 (zs.drop at_) (4 - s) := by
        rw [show 5 - s = (4 - s) + 1 by omega, rF1, show 4 - (4 - s) = s by omega, if_pos (by simp; omega)]
      have HE := Lib.hid (HR.out.symm.trans hHE)
      have hs2 := hs1.midI at_ s
      generalize (zs.drop at_).take s = r at *
      clear hHE
      go_wp2_with fail
      refine (whole_any _ B _ _ _ r hB1 HOK HL.out.symm (by omega) (by omega) hs2).mono ?_
      rintro e w2 ⟨rfl, hb2⟩
      have hs3 := hs2.below (hb2.mono hB1)
      have hB2 : B ≤ w2.heap.size := Nat.le_trans hB1 hb2.size
      have hb3 := hb.trans (hb2.mono hb.size)
      cases hw : rWholeB r with
      | true =>
        have HQ : Hid (rFirst (zs.drop at_) = (rTold r, s)) := by
          show _ = _
          rw [rFirst, HE.out, hw]
          rfl
        clear HE hs1 hs2 hb hb2
        go_wp2_with fail
        refine (told_any _ B _ _ _ r hB2 HOK HL.out.symm (by omega) (by omega) hs3).mono ?_
        rintro e w4 ⟨rfl, hb4⟩
        go_wp2_with fail
        go_ret2
        exact FirstIs.mk' HQ.out rfl (hb3.trans (hb4.mono hb3.size))
      | false =>
        have HN : Hid (rF1 (zs.drop at_) (5 - (s + 1)) = rF1 (zs.drop at_) 4) := by
          show _ = _
          rw [HE.out, hw, show 5 - (s + 1) = 4 - s by omega]
          rfl
        clear HE hs1 hs2 hb hb2 hw HOK hL HL
        go_wp2_with fail
        refine ⟨⟨s + 1, by go_num, by omega, by omega, HN, hb3⟩, ?_⟩
        simp [intOf]
        omega
    · have HF : Hid (rF1 (zs.drop at_) 4 = none) := by
        show _ = _
        rw [← HR.out]
        by_cases h5 : s = 5
        · subst h5
          rfl
        · rw [show 5 - s = (4 - s) + 1 by omega, rF1, show 4 - (4 - s) = s by omega, if_neg (by simp; omega)]
      clear HR
      rcases (by omega : s = 5 ∨ (s ≤ 4 ∧ zs.length < at_ + s)) with rfl | ⟨i1, i2⟩
      all_goals clear h1 h2 hin
      all_goals go_wp2_with fail
      all_goals (
        go_loopw [4, 5, 7] (fun _ _ i wr => ∃ m : Nat, i = .int .i64 ((m : Int) + 1) ∧ m ≤ 2 ∧ Hid (rF2 (zs.drop at_) m = rF2 (zs.drop at_) 2) ∧ Below w.heap.size w wr) (fun _ _ i _ => (intOf i).toNat)
        case atStart => exact ⟨2, by go_num, by omega, rfl, hb⟩
        case round =>
          clear hb hs1 hB1
          obtain ⟨m, rfl, g2, HR, hb⟩ := hrel
          have hs1 := hs0.out.below (hb.mono hB)
          have hB1 : B ≤ wr.heap.size := Nat.le_trans hB hb.size
          cases m with
          | zero =>
            have HQ : Hid (rFirst (zs.drop at_) = (65533, 1)) := by
              show _ = _
              rw [rFirst, HF.out]
              show (65533, rF2 (zs.drop at_) 2) = _
              rw [← HR.out]
              rfl
            clear hs1 HR
            go_wp2_with fail
            go_ret2
            exact FirstIs.mk' HQ.out rfl hb
          | succ m =>
            by_cases hin : at_ + (m + 2) ≤ zs.length
            · have i3 : (at_ : Int) + ((m : Int) + 1 + 1) ≤ (zs.length : Int) := by omega
              have hL : ((zs.drop at_).take (m + 2)).length = m + 2 := by simp; omega
              have HL := Lib.hid hL
              have HOK := ((HZ.out).drop at_).take (m + 2)
              have hHE : rF2 (zs.drop at_) (m + 1) = if rBeg ((zs.drop at_).take (m + 2)) = true then m + 2 else rF2 (zs.drop at_) m := by
                rw [rF2]
                have : m + 2 ≤ (zs.drop at_).length := by simp; omega
                simp only [this, true_and]
              have HE := Lib.hid (HR.out.symm.trans hHE)
              have hs2 := hs1.midI at_ (m + 2)
              generalize (zs.drop at_).take (m + 2) = r at *
              clear hHE HR
              go_wp2_with fail
              refine (begins_any _ B _ _ _ r hB1 HOK HL.out.symm (by omega) (by omega) hs2).mono ?_
              rintro e w2 ⟨rfl, hb2⟩
              have hb3 := hb.trans (hb2.mono hb.size)
              have HBB : Hid (rBegFrom r (4 - r.length) = rBeg r) := rfl
              rw [HBB.out]
              cases hw : rBeg r with
              | true =>
                have HQ : Hid (rFirst (zs.drop at_) = (65533, m + 2)) := by
                  show _ = _
                  rw [rFirst, HF.out]
                  show (65533, rF2 (zs.drop at_) 2) = _
                  rw [HE.out, if_pos hw]
                clear HE hs1 hs2 hb hb2 hw HBB hL HL
                go_wp2_with fail
                go_ret2
                exact FirstIs.mk' HQ.out (by go_num) hb3
              | false =>
                have HN : Hid (rF2 (zs.drop at_) m = rF2 (zs.drop at_) 2) := by
                  show _ = _
                  rw [HE.out, if_neg (by simp [hw])]
                clear HE hs1 hs2 hb hb2 hw HBB hL HL
                go_wp2_with fail
                refine ⟨?_, ?_⟩
                · first | exact ⟨m, by go_num, by omega, HN, hb3⟩ | ((repeat apply Exists.intro); exact ⟨⟨m, by go_num, by omega, HN, hb3⟩, rfl⟩)
                simp [intOf]
                omega
            · have HN : Hid (rF2 (zs.drop at_) m = rF2 (zs.drop at_) 2) := by
                show _ = _
                rw [← HR.out, rF2, if_neg (by simp; omega)]
              have i3 : ¬ (at_ : Int) + ((m : Int) + 1 + 1) ≤ (zs.length : Int) := by omega
              clear hs1 HR
              go_wp2_with fail
              refine ⟨?_, ?_⟩
              · first | exact ⟨m, by go_num, by omega, HN, hb⟩ | ((repeat apply Exists.intro); exact ⟨⟨m, by go_num, by omega, HN, hb⟩, rfl⟩)
              simp [intOf]
              omega)
end Go.Proofs.YtaghfmgeccapbaaGreatDoor
namespace Go.Proofs.YtaghfmgeccapbaaGreatDoor
open Go.RowKit

def rGoodN : Nat → List Int → Bool
  | 0, _ => true
  | _ + 1, [] => true
  | n + 1, z :: r => if z = 0 ∨ rWholeB ((z :: r).take (rFirst (z :: r)).2) = false ∨ (rFirst (z :: r)).1 = 0 then false else rGoodN n ((z :: r).drop (rFirst (z :: r)).2)
def rGood (zs : List Int) : Bool := rGoodN zs.length zs

theorem rF1_size {r : List Int} {x : Int × Nat} : ∀ {m : Nat}, m ≤ 4 → rF1 r m = some x → 1 ≤ x.2 ∧ x.2 ≤ 4 ∧ x.2 ≤ r.length
  | 0, _, h => by simp [rF1] at h
  | m + 1, hm, h => by
    unfold rF1 at h
    have ih := @rF1_size r x m (by omega)
    split at h
    · split at h
      · injection h with h
        subst h
        simp only
        omega
      · by_cases h0 : m = 0
        · subst h0
          simp [rF1] at h
        · exact ih h
    · cases h
theorem rF2_size {r : List Int} : ∀ m : Nat, m ≤ 2 → 0 < r.length → 1 ≤ rF2 r m ∧ rF2 r m ≤ 4 ∧ rF2 r m ≤ r.length
  | 0, _, h => by simp [rF2]; omega
  | m + 1, hm, h => by
    unfold rF2
    split
    · omega
    · exact rF2_size m (by omega) h
theorem rFirst_size {r : List Int} (h : 0 < r.length) : 1 ≤ (rFirst r).2 ∧ (rFirst r).2 ≤ 4 ∧ (rFirst r).2 ≤ r.length := by
  unfold rFirst
  cases h1 : rF1 r 4 with
  | some x => exact rF1_size (Nat.le_refl _) h1
  | none => exact rF2_size 2 (Nat.le_refl _) h
theorem rGoodN_fuel : ∀ (n m : Nat) (zs : List Int), zs.length ≤ n → zs.length ≤ m → rGoodN n zs = rGoodN m zs
  | 0, 0, _, _, _ => rfl
  | 0, m + 1, [], _, _ => rfl
  | n + 1, 0, [], _, _ => rfl
  | 0, _ + 1, _ :: _, h, _ => absurd h (by simp)
  | _ + 1, 0, _ :: _, _, h => absurd h (by simp)
  | n + 1, m + 1, [], _, _ => rfl
  | n + 1, m + 1, z :: zs, h1, h2 => by
    simp only [rGoodN]
    have := rFirst_size (r := z :: zs) (by simp)
    simp only [List.length_cons] at h1 h2
    rw [rGoodN_fuel n m _ (by simp only [List.length_drop, List.length_cons]; omega) (by simp only [List.length_drop, List.length_cons]; omega)]
theorem rGood_of {zs : List Int} (h : 0 < zs.length) : rGood zs = if zs.getD 0 0 = 0 ∨ rWholeB (zs.take (rFirst zs).2) = false ∨ (rFirst zs).1 = 0 then false else rGood (zs.drop (rFirst zs).2) := by
  cases zs with
  | nil => simp at h
  | cons z r =>
    have := rFirst_size (r := z :: r) (by simp)
    rw [rGood, List.length_cons, rGoodN, rGood, rGoodN_fuel r.length _ ((z :: r).drop (rFirst (z :: r)).2) (by simp only [List.length_drop, List.length_cons]; omega) (Nat.le_refl _)]
    rfl

set_option maxHeartbeats 1000000 in
theorem rGood_any (w : World) (B : Nat) (a : Option Addr) (n c : Nat) (zs : List Int) (hB : B ≤ w.heap.size) (hz : BytesOK zs) (hn : n = zs.length) (hc : n ≤ c) (hm : zs.length ≤ 140737488355328)
    (hs : Sl w B a (zs.map (Value.int .u8))) : Calls Tryz.prog 50 #[.slice a n c] w (RetV w (.bool (rGood zs))) := by
  subst hn
  have HZ := Lib.hid hz
  have hs0 := Lib.hid hs
  clear hz hs
  go_enter Tryz.func50, Tryz.ntmps50
  go_wp2_with fail
  go_loopw [3, 4, 5] (fun i _ _ wr => ∃ k : Nat, i = .int .i64 (k : Nat) ∧ k ≤ zs.length ∧ Hid (rGood (zs.drop k) = rGood zs) ∧ Below w.heap.size w wr) (fun i _ _ _ => zs.length - (intOf i).toNat)
  case atStart => exact ⟨0, by go_num, by omega, rfl, Below.refl _ _⟩
  case round =>
    obtain ⟨k, rfl, hk, HR, hb⟩ := hrel
    have hs1 := hs0.out.below (hb.mono hB)
    have hB1 : B ≤ wr.heap.size := Nat.le_trans hB hb.size
    by_cases hlt : k < zs.length
    · obtain ⟨b, off, rfl, hbB, hcell⟩ := hs1.int hlt
      have HC := Lib.hid (hcell k hlt)
      clear hcell
      have hpos : 0 < (zs.drop k).length := by simp; omega
      have HS := Lib.hid (rFirst_size hpos)
      have HE := Lib.hid (HR.out.symm.trans (rGood_of hpos))
      have hz0 : Hid ((zs.drop k).getD 0 0 = zs.getD k 0) := by show _ = _; simp [List.getD_eq_getElem?_getD]
      clear hpos HR
      go_wp2_with fail
      refine (rFirst_any _ B _ _ _ zs k hB1 HZ.out rfl hc hlt hm hs1).mono ?_
      rintro e w2 ⟨rfl, hb2⟩
      have c0 := ((below_cells hb2).1 b (off + k) (by omega)).trans HC.out
      have hs2 := hs1.below (hb2.mono hB1)
      have hB2 : B ≤ w2.heap.size := Nat.le_trans hB1 hb2.size
      have hb3 := hb.trans (hb2.mono hb.size)
      clear hs1 hb2 HC
      rw [hz0.out] at HE
      obtain ⟨z, HZK⟩ : ∃ z, Hid (zs.getD k 0 = z) := ⟨_, rfl⟩
      rw [HZK.out] at c0 HE
      have hzk := HZ.out k hlt
      rw [HZK.out] at hzk
      obtain ⟨zl, zu⟩ := hzk
      have hHS := HS.out
      have hLen : (zs.drop k).length = zs.length - k := by simp
      rw [hLen] at hHS
      have HL : Hid (((zs.drop k).take (rFirst (zs.drop k)).2).length = (rFirst (zs.drop k)).2) := by show _ = _; simp; omega
      have HOK := Lib.hid (((HZ.out).drop k).take (rFirst (zs.drop k)).2)
      have hs3 := hs2.midI k (rFirst (zs.drop k)).2
      simp only [Option.map_some, addr_add] at hs3
      have HD : Hid (List.drop (rFirst (List.drop k zs)).2 (List.drop k zs) = List.drop (k + (rFirst (List.drop k zs)).2) zs) := by show _ = _; rw [List.drop_drop]
      rw [HD.out] at HE
      generalize (zs.drop k).take (rFirst (zs.drop k)).2 = r at *
      generalize (rFirst (zs.drop k)).1 = x at *
      generalize (rFirst (zs.drop k)).2 = y at *
      clear HS HD hz0 hs0
      obtain ⟨y1, y2, y3⟩ := hHS
      clear hLen
      by_cases hz : z = 0
      · subst hz
        have HQ : Hid (rGood zs = false) := by show _ = _; rw [HE.out, if_pos (.inl rfl)]
        clear HE
        go_wp2_with fail
        go_ret
        exact ⟨by rw [HQ.out]; rfl, hb3⟩
      · have hzb : (z == 0) = false := by simp [hz]
        have HNZ := Lib.hid hz
        clear hz
        go_wp2_with fail
        refine (whole_any _ B _ _ _ r hB2 HOK.out (HL.out.trans (by omega)).symm (by rw [HL.out]; omega) (by rw [HL.out]; omega) hs3).mono ?_
        rintro e w4 ⟨rfl, hb4⟩
        have hb5 := hb3.trans (hb4.mono hb3.size)
        clear hb4 hs3 hs2
        cases hw : rWholeB r with
        | false =>
          have HQ : Hid (rGood zs = false) := by show _ = _; rw [HE.out, if_pos (.inr (.inl hw))]
          clear HE hw
          go_wp2_with fail
          go_ret
          exact ⟨by rw [HQ.out]; rfl, hb5⟩
        | true =>
          by_cases hx : x = 0
          · subst hx
            have HQ : Hid (rGood zs = false) := by show _ = _; rw [HE.out, if_pos (.inr (.inr rfl))]
            clear HE hw
            go_wp2_with fail
            go_ret
            exact ⟨by rw [HQ.out]; rfl, hb5⟩
          · have hxb : (x == 0) = false := by simp [hx]
            have HN : Hid (rGood (zs.drop (k + y)) = rGood zs) := by
              show _ = _
              rw [HE.out, if_neg]
              rintro (h | h | h)
              · exact HNZ.out h
              · rw [hw] at h
                cases h
              · exact hx h
            clear HE hw hx HNZ HOK
            go_wp2_with fail
            refine ⟨⟨k + y, by go_num, by omega, HN, hb5⟩, ?_⟩
            simp [intOf]
            omega
    · have hke : k = zs.length := by omega
      subst hke
      have HQ : Hid (rGood zs = true) := by
        have := HR.out
        rw [List.drop_length] at this
        exact this.symm
      go_wp2_with fail
      go_ret
      exact ⟨by rw [HQ.out]; rfl, hb⟩
end Go.Proofs.YtaghfmgeccapbaaGreatDoor
namespace Go.Av
variable [Rk]
open Go.Proofs Go.RowKit Go.Proofs.YtaghfmgeccapbaaGreatDoor
def byI : List D → Option (List Int)
  | [] => some []
  | .int .u8 n :: r => if 0 ≤ n ∧ n < 256 then (byI r).map (n :: ·) else none
  | _ => none
theorem byI_eq2 : ∀ {es : List D} {zs : List Int}, byI es = some zs → es = zs.map (D.int .u8) ∧ BytesOK zs
  | [], zs, h => by
    simp [byI] at h; subst h
    exact ⟨rfl, fun i hi => by simp at hi⟩
  | .int .u8 n :: r, zs, h => by
    simp only [byI] at h
    split at h
    · rename_i hn
      obtain ⟨ys, hy, rfl⟩ := Option.map_eq_some_iff.1 h
      obtain ⟨h1, h2⟩ := byI_eq2 hy
      refine ⟨by rw [h1]; rfl, fun i hi => ?_⟩
      cases i with
      | zero => exact hn
      | succ i => exact h2 i (by simpa using hi)
    · cases h
theorem flat_ints (k : IntKind) (zs : List Int) : flat (zs.map (D.int k)) = zs.map (D.int k) := by
  unfold flat
  rw [List.flatMap_map]
  induction zs with
  | nil => rfl
  | cons a r ih => rw [List.flatMap_cons, ih]; rfl
theorem sl_of_den {F : Nat → Nat → Prop} {w : World} {v : Value} {k : IntKind} {zs : List Int} (hd : Den0 F w v (.list (zs.map (D.int k)))) (hlt : Lt F w) : ∃ a c, v = .slice a zs.length c ∧ zs.length ≤ c ∧ Sl w w.heap.size a (zs.map (Value.int k)) := by
  generalize he : zs.map (D.int k) = es at hd
  cases hd with
  | list a n c sz es vs h1 h2 h3 h4 h5 h6 h7 =>
    subst he
    rw [List.length_map] at h1
    subst h1
    refine ⟨a, c, rfl, h2, fun hne => ?_⟩
    have hz : zs ≠ [] := by rintro rfl; exact hne rfl
    have hsz : sz = 1 := by
      obtain ⟨z, r, rfl⟩ := List.exists_cons_of_ne_nil hz
      have := h4 (.int k z) (by simp)
      simpa [dcells] using this.symm
    subst hsz
    rw [flat_ints] at h7
    rw [Nat.mul_one] at h5
    have hvs : vs = zs.map (Value.int k) := by
      apply List.ext_getElem?
      intro i
      by_cases hi : i < zs.length
      · have hv : vs[i]? = some vs[i] := List.getElem?_eq_getElem (by omega)
        have hx : (zs.map (D.int k))[i]? = some (.int k zs[i]) := by simp [hi]
        have := h7 i _ _ hv hx
        rw [hv]
        generalize vs[i] = u at this
        cases this
        simp [hi]
      · rw [List.getElem?_eq_none (by omega), List.getElem?_eq_none (by simp; omega)]
    rcases h6 with h6 | ⟨b, off, ha, hcell⟩
    · rw [h6] at h5
      exact absurd (List.length_eq_zero_iff.1 h5.symm) hz
    · have hpos : 0 < vs.length := by rw [h5]; exact List.length_pos_iff.2 hz
      have h0 := hcell 0 vs[0] (List.getElem?_eq_getElem hpos)
      refine ⟨b, off, ha, hlt _ _ h0.1, fun i hi => ?_⟩
      have := hcell i _ (by rw [hvs]; exact List.getElem?_eq_getElem hi)
      exact this.2.1
theorem good_calls {es : List D} {zs : List Int} (hb : byI es = some zs) (hm : zs.length ≤ 140737488355328) {F : Nat → Nat → Prop} {w : World} {v : Value} (hlt : Lt F w) (hd : Den0 F w v (.list es)) : Calls Tryz.prog 50 #[v] w (RetD F w (.bool (rGood zs))) := by
  obtain ⟨rfl, hz⟩ := byI_eq2 hb
  obtain ⟨a, c, rfl, hc, hs⟩ := sl_of_den hd hlt
  refine (rGood_any w w.heap.size a zs.length c zs (Nat.le_refl _) hz rfl hc (by omega) hs).mono ?_
  rintro e w' ⟨rfl, hb⟩
  exact RetD.of hb (.bool _)
def faultD (k a : Int) : D := .iface 68 (.fix (.agg [.int .i64 k, .int .i64 a, .con .nilIface]) 0)
theorem fault_den {F : Nat → Nat → Prop} {w : World} {b : Nat} {k a : Int} {t : TypeId} {fr : Nat × Nat} (h : w.heap[b]? = some (.cells #[.int .i64 k, .int .i64 a, .nilIface] t fr)) (hF : ∀ o, F b o) : Den0 F w (.iface 68 (.pointer (some ⟨b, 0, none⟩))) (faultD k a) := by
  refine .iface _ _ _ (Den0.fix (.agg [.int .i64 k, .int .i64 a, .con .nilIface]) b 0 0 [.int .i64 k, .int .i64 a, .nilIface] rfl (fun i v hv => ⟨hF _, ?_, ?_⟩) (fun i v x hv hx => ?_))
  · unfold World.cell?
    simp only [h, Nat.zero_add]
    match i with
    | 0 => simp at hv; subst hv; rfl
    | 1 => simp at hv; subst hv; rfl
    | 2 => simp at hv; subst hv; rfl
    | i + 3 => simp at hv
  · match i with
    | 0 => simp at hv; subst hv; rfl
    | 1 => simp at hv; subst hv; rfl
    | 2 => simp at hv; subst hv; rfl
    | i + 3 => simp at hv
  · match i with
    | 0 => simp [dcells] at hv hx; subst hv; subst hx; exact .int _ _
    | 1 => simp [dcells] at hv hx; subst hv; subst hx; exact .int _ _
    | 2 => simp [dcells] at hv hx; subst hv; subst hx; exact .con _ rfl
    | i + 3 => simp at hv
theorem fail_any (k a : Int) (F : Nat → Nat → Prop) (w : World) : Calls Tryz.prog 23 #[.int .i64 k, .int .i64 a] w (RetD F w (faultD k a)) := by
  have key : Calls Tryz.prog 23 #[.int .i64 k, .int .i64 a] w fun e w' => e = .returned (.iface 68 (.pointer (some ⟨w.heap.size, 0, none⟩))) ∧ w' = w.alloc (.cells #[.int .i64 k, .int .i64 a, .nilIface] 72) := by
    go_enter Tryz.func23, Tryz.ntmps23
    go_wp2
    go_ret
    exact ⟨rfl, rfl⟩
  refine key.mono ?_
  rintro e w' ⟨rfl, rfl⟩
  refine RetD.of ((Below.refl _ w).alloc (Nat.le_refl _) _) (fault_den (t := 72) (fr := (0, 0)) (Bk.new w 72 #[.int .i64 k, .int .i64 a, .nilIface]) fun o => .inr ⟨Nat.le_refl _, by simp⟩)
end Go.Av
namespace Go.Proofs.YtaghfmgeccapbaaGreatDoor
open Go.RowKit Go.Extern.Stop Go.Stop Go.Extern
/-! ### CLOSED FACTS ON THE MODEL's ENTRIES FOR internal/reflectlite, at this program's types: 75: *p.E · 77: **p.E · 34: error · 106: reflectlite's rtype · 1: how many package-level variables the dump has -/
theorem As.valueOf27 (t : Addr) (w : World) : (ReflectliteValue.unpack (.iface 70 (.pointer (some t)))).run Tryz.prog w
    = .ok (.agg #[.pointer (some ⟨4, 70, none⟩), .pointer (some ⟨w.heap.size, 0, none⟩), .int .u64 150]) (w.alloc (.cells #[.pointer (some t)] 70)) := by kernel_rfl
theorem As.type27 (a : Addr) (w : World) : (ReflectliteValue.methodAny (ReflectliteValue.valueError "reflectlite.Value.Type" 0) (fun t _ _ _ => ReflectliteType.toType t) #[.agg #[.pointer (some ⟨4, 70, none⟩), .pointer (some a), .int .u64 150]]).run Tryz.prog w
    = .ok (.iface 119 (.agg #[.pointer (some ⟨4, 70, none⟩)])) w := by kernel_rfl
theorem As.methodKind (h : Value) (w : World) : (Go.method 286 119 (.agg #[h]) "Kind").run Tryz.prog w = .ok (105, h) w := by kernel_rfl
theorem As.kind27 (w : World) : ((ReflectliteType.abiMethod fun t => Functor.map (fun a : Nat => Value.int IntKind.u8 (a : Int)) (Rtype.kind t)) #[.pointer (some ⟨4, 70, none⟩)]).run Tryz.prog w = .ok (.int .u8 22) w := by kernel_rfl
theorem As.kind25 (w : World) : ((ReflectliteType.abiMethod fun t => Functor.map (fun a : Nat => Value.int IntKind.u8 (a : Int)) (Rtype.kind t)) #[.pointer (some ⟨4, 68, none⟩)]).run Tryz.prog w = .ok (.int .u8 22) w := by kernel_rfl

/-! ### THE ENTRIES THAT READ OR WRITE MEMORY: laws with a premise on the cell (after Derived/Lib/ReflectliteSlice.lean's manner: each unfolding a lemma of its own, by rfl) -/
theorem rlm (z : Sem Value) (f : TypeId → Addr → Nat → Nat → Sem Value) (v : Value) :
    ReflectliteValue.method z f #[v] = (do match ← ReflectliteValue.parts v with | none => z | some (t, a, fl) => f t a fl (fl % 32)) := rfl
theorem As.parts27 (a : Addr) (w : World) : (ReflectliteValue.parts (.agg #[.pointer (some ⟨4, 70, none⟩), .pointer (some a), .int .u64 150])).run Tryz.prog w = .ok (some (70, a, 150)) w := by kernel_rfl
theorem As.isNil27 (a p : Addr) (W : World) (ha : W.cell? a = some (.pointer (some p))) :
    (ReflectliteValue.method (ReflectliteValue.valueError "reflectlite.Value.IsNil" 0) ReflectliteValue.isNil #[.agg #[.pointer (some ⟨4, 70, none⟩), .pointer (some a), .int .u64 150]]).run Tryz.prog W = .ok (.bool false) W := by
  rw [rlm]
  simp only [Sem.run_bind, As.parts27, Result.andThen]
  simp [ReflectliteValue.isNil, loadVar, isAgg, underlying, Tryz.underlying70, ha, Result.andThen]

theorem As.methodElem (h : Value) (w : World) : (Go.method 286 119 (.agg #[h]) "Elem").run Tryz.prog w = .ok (117, .agg #[h]) w := by kernel_rfl
theorem As.methodImplements (h : Value) (w : World) : (Go.method 286 119 (.agg #[h]) "Implements").run Tryz.prog w = .ok (118, .agg #[h]) w := by kernel_rfl
theorem As.methodAssignableTo (h : Value) (w : World) : (Go.method 286 119 (.agg #[h]) "AssignableTo").run Tryz.prog w = .ok (115, .agg #[h]) w := by kernel_rfl
theorem As.elem27 (w : World) : (ReflectliteType.method ReflectliteType.elem #[.agg #[.pointer (some ⟨4, 70, none⟩)]]).run Tryz.prog w = .ok (.iface 119 (.agg #[.pointer (some ⟨4, 68, none⟩)])) w := by kernel_rfl
theorem As.implements25 (w : World) : (ReflectliteType.relation "Implements" ReflectliteType.implements_ #[.agg #[.pointer (some ⟨4, 68, none⟩)], .iface 119 (.agg #[.pointer (some ⟨4, 36, none⟩)])]).run Tryz.prog w = .ok (.bool true) w := by kernel_rfl
theorem As.typeOf25 (v : Value) (w : World) : (ReflectliteType.typeOf #[.iface 68 v]).run Tryz.prog w = .ok (.iface 119 (.agg #[.pointer (some ⟨4, 68, none⟩)])) w := by kernel_rfl
theorem As.assignable25 (w : World) : (ReflectliteType.relation "AssignableTo" ReflectliteType.assignableTo #[.agg #[.pointer (some ⟨4, 68, none⟩)], .iface 119 (.agg #[.pointer (some ⟨4, 68, none⟩)])]).run Tryz.prog w = .ok (.bool true) w := by kernel_rfl
theorem As.valueOf25 (e : Addr) (w : World) : (ReflectliteValue.unpack (.iface 68 (.pointer (some e)))).run Tryz.prog w
    = .ok (.agg #[.pointer (some ⟨4, 68, none⟩), .pointer (some ⟨w.heap.size, 0, none⟩), .int .u64 150]) (w.alloc (.cells #[.pointer (some e)] 68)) := by kernel_rfl

theorem As.elemOf27 (w : World) : (Rtype.elem? 70).run Tryz.prog w = .ok (some 68) w := by kernel_rfl
theorem As.mk25 (p : Addr) (w : World) : (ReflectliteValue.mk 68 p ReflectliteValue.flagAddr).run Tryz.prog w = .ok (.agg #[.pointer (some ⟨4, 68, none⟩), .pointer (some p), .int .u64 406]) w := by kernel_rfl
theorem As.elemV27 (a p : Addr) (W : World) (ha : W.cell? a = some (.pointer (some p))) :
    (ReflectliteValue.method (ReflectliteValue.valueError "reflectlite.Value.Elem" 0) ReflectliteValue.elem #[.agg #[.pointer (some ⟨4, 70, none⟩), .pointer (some a), .int .u64 150]]).run Tryz.prog W
      = .ok (.agg #[.pointer (some ⟨4, 68, none⟩), .pointer (some p), .int .u64 406]) W := by
  rw [rlm]
  simp only [Sem.run_bind, As.parts27, Result.andThen]
  simp [ReflectliteValue.elem, loadVar, isAgg, underlying, Tryz.underlying70, ha, Result.andThen, As.elemOf27, As.mk25]
theorem rls (v x : Value) : ∃ s1 s2 s3 s4 s5 : String, ReflectliteValue.set #[v, x] = (do
    let (some (dst, a, fl), some (src, b, _)) := (← ReflectliteValue.parts v, ← ReflectliteValue.parts x)
      | unsupported (.noEntry s1)
    if fl / ReflectliteValue.flagAddr % 2 == 0 then unsupported (.noEntry s2)
    let val ← loadVar src b
    if ← Rtype.directlyAssignable dst src then storeVar dst a val
    else if ← Rtype.implements dst src then
      if (← Rtype.kind src) == 20 then
        match val with
        | .nilIface => unsupported (.noEntry s3)
        | _ => storeVar dst a val
      else storeVar dst a (.iface src val)
    else panicString (s4 ++ (← Rtype.spelt src) ++ s5 ++ (← Rtype.spelt dst))
    pure (.tuple #[])) := ⟨_, _, _, _, _, rfl⟩
theorem As.parts25a (a : Addr) (w : World) : (ReflectliteValue.parts (.agg #[.pointer (some ⟨4, 68, none⟩), .pointer (some a), .int .u64 406])).run Tryz.prog w = .ok (some (68, a, 406)) w := by kernel_rfl
theorem As.parts25 (a : Addr) (w : World) : (ReflectliteValue.parts (.agg #[.pointer (some ⟨4, 68, none⟩), .pointer (some a), .int .u64 150])).run Tryz.prog w = .ok (some (68, a, 150)) w := by kernel_rfl
theorem As.direct25 (w : World) : (Rtype.directlyAssignable 68 68).run Tryz.prog w = .ok true w := by kernel_rfl
theorem As.set25 (ta b e : Addr) (old : Value) (W : World) (hb : W.cell? b = some (.pointer (some e))) (ht : W.cell? ta = some old) (hf : W.frozen? ta = false) :
    (ReflectliteValue.set #[.agg #[.pointer (some ⟨4, 68, none⟩), .pointer (some ta), .int .u64 406], .agg #[.pointer (some ⟨4, 68, none⟩), .pointer (some b), .int .u64 150]]).run Tryz.prog W
      = .ok (.tuple #[]) (W.setCell ta (.pointer (some e))) := by
  obtain ⟨s1, s2, s3, s4, s5, hs⟩ := rls (.agg #[.pointer (some ⟨4, 68, none⟩), .pointer (some ta), .int .u64 406]) (.agg #[.pointer (some ⟨4, 68, none⟩), .pointer (some b), .int .u64 150])
  rw [hs]
  simp only [Sem.run_bind, As.parts25a, As.parts25, Result.andThen]
  simp [ReflectliteValue.flagAddr, loadVar, isAgg, underlying, Tryz.underlying68, hb, Result.andThen, As.direct25, storeVar, Value.cells, storeCells, Addr.add]
  rw [run_store Tryz.prog W ta _ _ (by rfl)]
  simp [ht, hf]

set_option maxHeartbeats 4000000 in
theorem as_hit (e t : Addr) (old : Value) (w : World) (hg : w.cell? ⟨0, 0, none⟩ = some (.iface 119 (.agg #[.pointer (some ⟨4, 36, none⟩)]))) (ht0 : w.cell? t = some old) (hf0 : w.frozen? t = false) :
    Calls Tryz.prog 28 #[.iface 68 (.pointer (some e)), .iface 70 (.pointer (some t))] w fun ev w' => ev = .returned (.bool true) ∧ w' = ((((w.alloc (.cells #[.pointer (some t)] 70)).alloc (.cells #[.pointer (some ⟨4, 70, none⟩), .pointer (some ⟨w.heap.size, 0, none⟩), .int .u64 150] 96)).alloc (.cells #[.pointer (some ⟨4, 70, none⟩), .pointer (some ⟨w.heap.size, 0, none⟩), .int .u64 150] 96)).alloc (.cells #[.pointer (some e)] 68)).setCell t (.pointer (some e)) := by
  have h6 := @run_callFunc_extern Tryz.prog 46 _ (fun args => ReflectliteValue.unpack (args.getD 0 (.tuple #[]))) Tryz.func46 (by kernel_rfl) (by kernel_rfl) (by kernel_rfl) (by kernel_rfl)
  have h7 := @run_callFunc_extern Tryz.prog 47 _ (ReflectliteValue.methodAny (ReflectliteValue.valueError "reflectlite.Value.Type" 0) (fun t _ _ _ => ReflectliteType.toType t)) Tryz.func47 (by kernel_rfl) (by kernel_rfl) (by kernel_rfl) (by kernel_rfl)
  have h8 := @run_callFunc_extern Tryz.prog 48 _ (ReflectliteValue.method (ReflectliteValue.valueError "reflectlite.Value.IsNil" 0) ReflectliteValue.isNil) Tryz.func48 (by kernel_rfl) (by kernel_rfl) (by kernel_rfl) (by kernel_rfl)
  have h27 := @run_callFunc_extern Tryz.prog 105 _ (ReflectliteType.abiMethod fun t => do pure (.int .u8 (← Rtype.kind t))) Tryz.func105 (by kernel_rfl) (by kernel_rfl) (by kernel_rfl) (by kernel_rfl)
  have h37 := @run_callFunc_extern Tryz.prog 117 _ (ReflectliteType.method ReflectliteType.elem) Tryz.func117 (by kernel_rfl) (by kernel_rfl) (by kernel_rfl) (by kernel_rfl)
  have h38 := @run_callFunc_extern Tryz.prog 118 _ (ReflectliteType.relation "Implements" ReflectliteType.implements_) Tryz.func118 (by kernel_rfl) (by kernel_rfl) (by kernel_rfl) (by kernel_rfl)
  have h10 := @run_callFunc_extern Tryz.prog 64 _ ReflectliteType.typeOf Tryz.func64 (by kernel_rfl) (by kernel_rfl) (by kernel_rfl) (by kernel_rfl)
  have h35 := @run_callFunc_extern Tryz.prog 115 _ (ReflectliteType.relation "AssignableTo" ReflectliteType.assignableTo) Tryz.func115 (by kernel_rfl) (by kernel_rfl) (by kernel_rfl) (by kernel_rfl)
  have h11 := @run_callFunc_extern Tryz.prog 65 _ (ReflectliteValue.method (ReflectliteValue.valueError "reflectlite.Value.Elem" 0) ReflectliteValue.elem) Tryz.func65 (by kernel_rfl) (by kernel_rfl) (by kernel_rfl) (by kernel_rfl)
  have h12 := @run_callFunc_extern Tryz.prog 66 _ ReflectliteValue.set Tryz.func66 (by kernel_rfl) (by kernel_rfl) (by kernel_rfl) (by kernel_rfl)
  have tO := As.typeOf25
  have mA := As.methodAssignableTo
  have a25 := As.assignable25
  have v25 := As.valueOf25
  have f6 := As.valueOf27
  have f7 := As.type27
  have mK := As.methodKind
  have mE := As.methodElem
  have mI := As.methodImplements
  have k27 := As.kind27
  have k25 := As.kind25
  have e27 := As.elem27
  have i25 := As.implements25
  have n8 := As.isNil27 ⟨w.heap.size, 0, none⟩ t ((w.alloc (.cells #[.pointer (some t)] 70)).alloc (.cells #[.pointer (some ⟨4, 70, none⟩), .pointer (some ⟨w.heap.size, 0, none⟩), .int .u64 150] 96)) (by simp)
  have hlt : 0 < w.heap.size := by
    rcases Nat.eq_zero_or_pos w.heap.size with h0 | h
    · simp [World.cell?, h0] at hg
    · exact h
  have hg2 : ((w.alloc (.cells #[.pointer (some t)] 70)).alloc (.cells #[.pointer (some ⟨4, 70, none⟩), .pointer (some ⟨w.heap.size, 0, none⟩), .int .u64 150] 96)).cell? ⟨0, 0, none⟩ = some (.iface 119 (.agg #[.pointer (some ⟨4, 36, none⟩)])) := by
    rw [World.cell?_alloc_lt _ _ ⟨0, 0, none⟩ (by simp), World.cell?_alloc_lt _ _ ⟨0, 0, none⟩ hlt]; exact hg
  have htl : t.block < w.heap.size := by
    rcases Nat.lt_or_ge t.block w.heap.size with h | h
    · exact h
    · simp [World.cell?, Array.getElem?_eq_none h] at ht0
  have el := As.elemV27 ⟨w.heap.size, 0, none⟩ t (((w.alloc (.cells #[.pointer (some t)] 70)).alloc (.cells #[.pointer (some ⟨4, 70, none⟩), .pointer (some ⟨w.heap.size, 0, none⟩), .int .u64 150] 96)).alloc (.cells #[.pointer (some ⟨4, 70, none⟩), .pointer (some ⟨w.heap.size, 0, none⟩), .int .u64 150] 96)) (by rw [World.cell?_alloc_lt _ _ ⟨w.heap.size, 0, none⟩ (by simp; omega)]; simp)
  have st := As.set25 t ⟨w.heap.size + 1 + 1 + 1, 0, none⟩ e old ((((w.alloc (.cells #[.pointer (some t)] 70)).alloc (.cells #[.pointer (some ⟨4, 70, none⟩), .pointer (some ⟨w.heap.size, 0, none⟩), .int .u64 150] 96)).alloc (.cells #[.pointer (some ⟨4, 70, none⟩), .pointer (some ⟨w.heap.size, 0, none⟩), .int .u64 150] 96)).alloc (.cells #[.pointer (some e)] 68))
    (by rw [World.cell?_alloc_at _ _ _ _ (by simp)]; rfl)
    (by rw [World.cell?_alloc_lt _ _ t (by simp; omega), World.cell?_alloc_lt _ _ t (by simp; omega), World.cell?_alloc_lt _ _ t (by simp; omega), World.cell?_alloc_lt _ _ t htl]; exact ht0)
    (by rw [World.frozen?_alloc_old _ _ t (by simp; omega), World.frozen?_alloc_old _ _ t (by simp; omega), World.frozen?_alloc_old _ _ t (by simp; omega), World.frozen?_alloc_old _ _ t (Nat.ne_of_lt htl)]; exact hf0)
  go_enter Tryz.func28, Tryz.ntmps28
  go_wp2
  refine wp_loop_rounds 1 ?_
  rw [rounds_succ]
  go_wp2
  go_ret
  exact ⟨rfl, rfl⟩
def ErrT (w : World) : Prop := w.cell? ⟨0, 0, none⟩ = some (.iface 119 (.agg #[.pointer (some ⟨4, 36, none⟩)]))
theorem ErrT.lt {w : World} (h : ErrT w) : 0 < w.heap.size := by
  rcases Nat.eq_zero_or_pos w.heap.size with h0 | h1
  · simp [ErrT, World.cell?, h0] at h
  · exact h1
theorem ErrT.below {w w' : World} (h : ErrT w) (hb : Below w.heap.size w w') : ErrT w' := (hb.cell (p := ⟨0, 0, none⟩) h.lt).trans h
theorem as_box (e : Addr) (B : Nat) (w : World) (hg : ErrT w) (ht : w.cell? ⟨B, 0, none⟩ = some (.pointer none)) (hf : w.frozen? ⟨B, 0, none⟩ = false) :
    Calls Tryz.prog 28 #[.iface 68 (.pointer (some e)), .iface 70 (.pointer (some ⟨B, 0, none⟩))] w fun ev w' => ev = .returned (.bool true) ∧ Below B w w' ∧ w'.cell? ⟨B, 0, none⟩ = some (.pointer (some e)) := by
  have hB : B < w.heap.size := by
    rcases Nat.lt_or_ge B w.heap.size with h | h
    · exact h
    · simp [World.cell?, Array.getElem?_eq_none h] at ht
  refine (as_hit e ⟨B, 0, none⟩ (.pointer none) w hg ht hf).mono ?_
  rintro ev w' ⟨rfl, rfl⟩
  refine ⟨rfl, ?_, ?_⟩
  · refine Below.setCell ?_ (p := ⟨B, 0, none⟩) (Nat.le_refl _) _
    exact ((((Below.refl B w).alloc (Nat.le_of_lt hB) _).alloc (by simp; omega) _).alloc (by simp; omega) _).alloc (by simp; omega) _
  · refine World.cell?_setCell_same' _ _ _ ?_
    rw [World.cell?_alloc_lt _ _ ⟨B, 0, none⟩ (by simp; omega), World.cell?_alloc_lt _ _ ⟨B, 0, none⟩ (by simp; omega), World.cell?_alloc_lt _ _ ⟨B, 0, none⟩ (by simp; omega), World.cell?_alloc_lt _ _ ⟨B, 0, none⟩ hB, ht]
    rfl
theorem kind_any (p o : Nat) (k : Int) (w : World) (hg : ErrT w) (hc : w.cell? ⟨p, o, none⟩ = some (.int .i64 k)) :
    Calls Tryz.prog 10 #[.iface 68 (.pointer (some ⟨p, o, none⟩))] w fun e w' => e = .returned (.int .i64 k) ∧ Below w.heap.size w w' := by
  have hp : p < w.heap.size := by
    rcases Nat.lt_or_ge p w.heap.size with h | h
    · exact h
    · simp [World.cell?, Array.getElem?_eq_none h] at hc
  have hb0 := (Below.refl w.heap.size w).alloc (Nat.le_refl _) (.cells #[.pointer none] 68)
  have hA := as_box ⟨p, o, none⟩ w.heap.size (w.alloc (.cells #[.pointer none] 68)) (hg.below hb0) (by simp) (by simp)
  go_enter Tryz.func10, Tryz.ntmps10
  go_wp2_with (go_at_call 28; refine hA.mono ?_; rintro e w' ⟨rfl, hb, hl⟩; have hc' := ((hb0.trans hb).cell (p := ⟨p, o, none⟩) hp).trans hc)
  go_ret
  exact ⟨rfl, hb0.trans hb⟩
end Go.Proofs.YtaghfmgeccapbaaGreatDoor
namespace Go.Av
open Go.Proofs Go.RowKit Go.Proofs.YtaghfmgeccapbaaGreatDoor
variable [Rk]
def Flt (w : World) (b o : Nat) (k a : Int) : Prop := w.cell? ⟨b, o, none⟩ = some (.int .i64 k) ∧ w.cell? ⟨b, o + 1, none⟩ = some (.int .i64 a)
theorem flt_of {F : Nat → Nat → Prop} {w : World} {v : Value} {k a : Int} (h : Den0 F w v (.fix (.agg [.int .i64 k, .int .i64 a, .con .nilIface]) 0)) : ∃ b o, v = .pointer (some ⟨b, o, none⟩) ∧ Flt w b o k a := by
  cases h with
  | fix d b o off vs h1 h2 h3 =>
    refine ⟨b, o, rfl, ?_⟩
    have h1' : vs.length = 3 := by rw [h1]; rfl
    match vs, h1' with
    | [u0, u1, u2], _ =>
      have d0 := h3 0 u0 (.int .i64 k) rfl rfl
      have d1 := h3 1 u1 (.int .i64 a) rfl rfl
      cases d0
      cases d1
      exact ⟨(h2 0 _ rfl).2.1, (h2 1 _ rfl).2.1⟩
theorem den_flt {c : Nat → Nat} {ν : Nat → Nat → Nat} {F : Nat → Nat → Prop} {w : World} {v : Value} {k a : Int} (h : Den c ν F w v (faultD k a)) : ∃ b o, v = .iface 68 (.pointer (some ⟨b, o, none⟩)) ∧ Flt w b o k a := by
  unfold faultD at h
  cases h with
  | pure _ _ h =>
    cases h with
    | iface t u d h =>
      obtain ⟨b, o, rfl, hf⟩ := flt_of h
      exact ⟨b, o, rfl, hf⟩
  | iface t u d h =>
    obtain ⟨b, o, rfl, hf⟩ := flt_of h.fix_
    exact ⟨b, o, rfl, hf⟩
theorem errT_of (he : Rk.b = true) {F : Nat → Nat → Prop} {w : World} (hg : GOK F w) : ErrT w := by
  have h : (0, Value.iface 119 (.agg #[.pointer (some ⟨4, 36, none⟩)])) ∈ Gs.gv := by
    show _ ∈ (if Rk.b = true then _ else _)
    rw [if_pos he]
    exact List.mem_singleton.2 rfl
  exact (hg.2.2 _ h).2
def extF : Call := fun f args pbs => match f, args, pbs with
  | 23, [.int .i64 k, .int .i64 a], [] => some (faultD k a, [], [])
  | 50, [.list es], [] => (match byI es with | some zs => if zs.length ≤ 140737488355328 then some (.bool (rGood zs), [], []) else none | none => none)
  | _, _, _ => none
theorem extF_ok : CallOK Tryz.prog extF := by
  intro f args pbs d r pbs' h
  unfold extF at h
  split at h
  · rename_i k a
    simp only [Option.some.injEq, Prod.mk.injEq] at h
    obtain ⟨rfl, rfl, rfl⟩ := h
    refine ⟨⟨_, Tryz.func23, rfl⟩, fun vals w F μ hv hd hb _ hlt hg => ?_⟩
    match vals, hv with
    | [v1, v2], _ =>
      have d1 := (hd 0 v1 _ rfl rfl).int_
      have d2 := (hd 1 v2 _ rfl rfl).int_
      subst d1 d2
      exact (fail_any k a F w).mono fun e w' h => h.ret hlt
  · rename_i es
    split at h
    · rename_i zs hz
      split at h
      · rename_i hc
        simp only [Option.some.injEq, Prod.mk.injEq] at h
        obtain ⟨rfl, rfl, rfl⟩ := h
        refine ⟨⟨_, Tryz.func50, rfl⟩, fun vals w F μ hv hd hb _ hlt hg => ?_⟩
        obtain ⟨v, rfl, h0⟩ := one_den hv hd
        exact (good_calls hz hc hlt (den_list0 h0)).mono fun e w' h => h.ret hlt
      · cases h
    · cases h
  · cases h
def extK : Call := fun f args pbs => match f, args, pbs with
  | 10, [.iface 68 (.fix (.agg [.int .i64 k, .int .i64 a, .con .nilIface]) 0)], [] => some (.int .i64 k, [], [])
  | _, _, _ => none
theorem extK_ok (he : Rk.b = true) : CallOK Tryz.prog extK := by
  intro f args pbs d r pbs' h
  unfold extK at h
  split at h
  · rename_i k a
    simp only [Option.some.injEq, Prod.mk.injEq] at h
    obtain ⟨rfl, rfl, rfl⟩ := h
    refine ⟨⟨_, Tryz.func10, rfl⟩, fun vals w F μ hv hd hb _ hlt hg => ?_⟩
    obtain ⟨v, rfl, h0⟩ := one_den hv hd
    obtain ⟨b, o, rfl, hf⟩ := den_flt h0
    refine (kind_any b o k w (errT_of he hg) hf.1).mono ?_
    rintro e w' ⟨rfl, hb⟩
    exact (RetD.of hb (.int _ _)).ret hlt
  · cases h
def extKc (chk : List D → Bool) : Call := fun f args pbs => match f, args, pbs with
  | 10, [.iface 68 (.fix (.agg [.int .i64 k, .int .i64 a, .con .nilIface]) 0)], [] => if chk [] = true then some (.int .i64 k, [], []) else none
  | _, _, _ => none
theorem extKc_ok (chk : List D → Bool) (he : chk [] = true → Rk.b = true) : CallOK Tryz.prog (extKc chk) := by
  intro f args pbs d r pbs' h
  unfold extKc at h
  split at h
  · split at h
    · rename_i hc
      exact extK_ok (he hc) _ _ _ _ _ _ (show extK _ _ _ = some (d, r, pbs') from h)
    · cases h
  · cases h
theorem whole_ret (es : List D) (F : Nat → Nat → Prop) (w : World) (v : Value) (hlt : Lt F w) (hd : Den0 F w v (.list es)) (hdoc : docOk es = true) :
    Calls Tryz.prog 24 #[v] w (fun e w' => ∃ u, e = .returned u ∧ Ge w w' ∧ Den0 (nw F w w') w' u (.list es)) := by
  obtain ⟨z1, z2, z3⟩ := docOk_inv hdoc
  refine (whole_new es F _ _ hlt hd z3 z1 (by omega)).mono ?_
  rintro e w1 ⟨u, rfl, hG1, hD⟩
  refine ⟨_, rfl, hG1, DocR.den hD z1 ?_⟩
  obtain ⟨g, cg, cur, rfl, hgc, hgm, hgl, hgh, hgs, _⟩ := hD
  rintro b o hb (h | ⟨c', h⟩)
  · exact .inr ⟨hb, h⟩
  · simp only [Value.slice.injEq, Option.some.injEq, Addr.mk.injEq] at h
    exact .inr ⟨hb, by rw [← h.1.1]; exact (Array.getElem?_eq_some_iff.1 hgh).1⟩
def extWh : Call := fun f args pbs => match f, args, pbs with
  | 24, [.list es], [] => if docOk es = true then some (.list es, [], []) else none
  | _, _, _ => none
theorem extWh_ok : CallOK Tryz.prog extWh := by
  intro f args pbs d r pbs' h
  unfold extWh at h
  split at h
  · rename_i es
    split at h
    · rename_i hc
      simp only [Option.some.injEq, Prod.mk.injEq] at h
      obtain ⟨rfl, rfl, rfl⟩ := h
      refine ⟨⟨_, Tryz.func24, rfl⟩, fun vals w F μ hv hd hb _ hlt hg => ?_⟩
      match vals, hv with
      | [v], _ =>
        refine (whole_ret es F w v hlt (den_list0 (hd 0 v _ rfl rfl)) hc).mono ?_
        rintro e w' ⟨u, rfl, hG, hu⟩
        exact (RetD.of hG hu).ret hlt
    · cases h
  · cases h
noncomputable def ext11b (chk : List D → Bool) : Call := orExt extF (orExt (extKc chk) (orExt extWh ext17))
theorem ext_in {chk : List D → Bool} {f : FuncId} {args : List D} {pbs : List Bx} {r : D × List Room × List Bx} (h : extF f args pbs = some r) : ext11b chk f args pbs = some r := by
  unfold ext11b orExt
  rw [h]
theorem ext_ink {chk : List D → Bool} {f : FuncId} {args : List D} {pbs : List Bx} {r : D × List Room × List Bx} (h0 : extF f args pbs = none) (h : extKc chk f args pbs = some r) : ext11b chk f args pbs = some r := by
  unfold ext11b
  unfold orExt
  rw [h0, h]
theorem ext_wh {chk : List D → Bool} {f : FuncId} {args : List D} {pbs : List Bx} {r : D × List Room × List Bx} (h0 : extF f args pbs = none) (h1 : extKc chk f args pbs = none) (h : extWh f args pbs = some r) : ext11b chk f args pbs = some r := by
  unfold ext11b
  unfold orExt
  rw [h0, h1]
  dsimp only
  rw [h]
theorem ext11b_ok (chk : List D → Bool) (he : chk [] = true → Rk.b = true) : CallOK Tryz.prog (ext11b chk) := orExt_ok extF_ok (orExt_ok (extKc_ok chk he) (orExt_ok extWh_ok ext17_ok))
theorem speaks11 (chk : List D → Bool) : aev Tryz.prog (ext11b chk) 300 4 [] [] = some (.bool true, [.no], []) := by kernel_rfl
end Go.Av
set_option maxRecDepth 10000
namespace Go.Av
variable [Rk]
open Go.Proofs
theorem frzOps_nil : frzOps [] = [] := rfl
theorem rowS (o : Oper) : Gs.rowAt o = (match o.op with
    | .makeSlice t (.tmp l) _ => t == 22 && l == 7 && o.dst == some 8
    | .call c => (match c.callee, c.argTypes.toList with
      | .builtin .append, t :: _ => t == 22 && (o.dst == some 58 || o.dst == some 101)
      | _, _ => false)
    | _ => false) := rfl
theorem barS (o : Oper) : Gs.barC o = (match o.op with
    | .call c => (match c.callee with | .value (.func f) => f == 41 | _ => false)
    | _ => false) := rfl
theorem frzS (ops : List Oper) : Gs.frzAt ops = (match ops with
    | o :: _ => (match o.op with
      | .move (.tmp n) => if (n == 3 && o.dst == some 22) = true then [3] else if (n == 6 && o.dst == some 81) = true then [11] else if (n == 6 && o.dst == some 124) = true then [13] else frzOps ops
      | _ => frzOps ops)
    | [] => []) := rfl
theorem noEatS (t : TypeId) : Gs.noEat t = (t == 3) := rfl
theorem frzOf_def (o : Oper) (l : List Oper) : frzOps (o :: l) = (match o.op with
    | .makeFunc _ _ c => c.toList.filterMap (fun | .tmp t => some t | _ => none)
    | _ => []) ++ frzOps l := rfl
theorem frz_nil (s : St) : s.frz [] = s := rfl
theorem frz_cons (s : St) (t : Tmp) (l : List Tmp) : s.frz (t :: l) = (s.freeze t).frz l := rfl
theorem ptrIn_nil : ptrIn [] = none := rfl
theorem ptrIn_int (k : IntKind) (i : Int) (l : List D) : ptrIn (.int k i :: l) = ptrIn l := rfl
theorem ptrIn_bool (b : Bool) (l : List D) : ptrIn (.bool b :: l) = ptrIn l := rfl
theorem ptrIn_str (s : List UInt8) (l : List D) : ptrIn (.str s :: l) = ptrIn l := rfl
theorem ptrIn_agg (cs l : List D) : ptrIn (.agg cs :: l) = ptrIn l := rfl
theorem ptrIn_list (cs l : List D) : ptrIn (.list cs :: l) = ptrIn l := rfl
theorem ptrIn_fix (d : D) (off : Nat) (l : List D) : ptrIn (.fix d off :: l) = ptrIn l := rfl
theorem ptrIn_con (v : Value) (l : List D) : ptrIn (.con v :: l) = ptrIn l := rfl
theorem ptrIn_ptr (k g off : Nat) (l : List D) : ptrIn (.ptr k g off :: l) = some (k, g) := rfl
theorem gl2 : Gs.gl 2 = .fix (.agg firstD) 0 := rfl
theorem gl3 : Gs.gl 3 = .fix (.agg accD) 0 := rfl
theorem zrm26 : zrooms Tryz.prog 48 = [.no, .no, .no, .no, .full, .full, .no] := by kernel_rfl
theorem zrm54 : zrooms Tryz.prog 50 = [.no, .no, .no] := by kernel_rfl
theorem putR7 (rs : List Room) : putR rs 0 7 [] = [.no, .no, .no, .no, .no, .no, .no] ++ rs.drop 7 := rfl
theorem putR3 (rs : List Room) : putR rs 0 3 [] = [.no, .no, .no] ++ rs.drop 3 := rfl
theorem firstD_at (c : Nat) (h : c < 256) : firstD[c]? = some (.int .u8 (firstN c : Nat)) := by
  unfold firstD
  rw [List.getElem?_map, List.getElem?_range h]
  rfl
theorem ptrIn_fn0 (fn : Fn) (l : List D) : ptrIn (.func fn [] [] :: l) = ptrIn l := rfl
theorem ptrIn_fn1 (fn : Fn) (a : D) (o : Nat) (l : List D) : ptrIn (.func fn [] [.fix a o] :: l) = ptrIn l := rfl
theorem ptrIn_fn2 (fn : Fn) (a b : D) (o p : Nat) (l : List D) : ptrIn (.func fn [] [.fix a o, .fix b p] :: l) = ptrIn l := rfl
theorem ty3 : aggOf Tryz.prog 3 = some false ∧ sizeT Tryz.prog 3 = some 1 ∧ Tryz.prog.underlying 3 = some (.int .i64) := ⟨by kernel_rfl, by kernel_rfl, by kernel_rfl⟩
theorem dp3 (cs : List D) (off : Nat) : dpart Tryz.prog 3 cs off = cs[off]? := by simp only [dpart, ty3.1]
theorem ty4 : aggOf Tryz.prog 4 = some false ∧ sizeT Tryz.prog 4 = some 1 ∧ Tryz.prog.underlying 4 = some (.bool) := ⟨by kernel_rfl, by kernel_rfl, by kernel_rfl⟩
theorem dp4 (cs : List D) (off : Nat) : dpart Tryz.prog 4 cs off = cs[off]? := by simp only [dpart, ty4.1]
theorem ty9 : aggOf Tryz.prog 9 = some false ∧ sizeT Tryz.prog 9 = some 1 ∧ Tryz.prog.underlying 9 = some (.string) := ⟨by kernel_rfl, by kernel_rfl, by kernel_rfl⟩
theorem dp9 (cs : List D) (off : Nat) : dpart Tryz.prog 9 cs off = cs[off]? := by simp only [dpart, ty9.1]
theorem ty5 : aggOf Tryz.prog 5 = some false ∧ sizeT Tryz.prog 5 = some 1 ∧ Tryz.prog.underlying 5 = some (.int .u8) := ⟨by kernel_rfl, by kernel_rfl, by kernel_rfl⟩
theorem dp5 (cs : List D) (off : Nat) : dpart Tryz.prog 5 cs off = cs[off]? := by simp only [dpart, ty5.1]
theorem ty74 : aggOf Tryz.prog 63 = some false ∧ sizeT Tryz.prog 63 = some 1 ∧ Tryz.prog.underlying 63 = some (.int .i64) := ⟨by kernel_rfl, by kernel_rfl, by kernel_rfl⟩
theorem dp74 (cs : List D) (off : Nat) : dpart Tryz.prog 63 cs off = cs[off]? := by simp only [dpart, ty74.1]
theorem ty26 : aggOf Tryz.prog 48 = some true ∧ sizeT Tryz.prog 48 = some 7 := ⟨by kernel_rfl, by kernel_rfl⟩
theorem dp26 (x0 x1 x2 x3 x4 x5 x6 : D) : dpart Tryz.prog 48 [x0, x1, x2, x3, x4, x5, x6] 0 = some (.agg [x0, x1, x2, x3, x4, x5, x6]) := by simp only [dpart, ty26.1, ty26.2]; rfl
theorem fa26_0 (d : D) (off : Nat) : dfieldAddr Tryz.prog 48 (.fix d off) 0 = some (.fix d (off + 0)) := by kernel_rfl
theorem fp26_0 (k g off : Nat) : dfieldAddr Tryz.prog 48 (.ptr k g off) 0 = some (.ptr k g (off + 0)) := by kernel_rfl
theorem fa26_1 (d : D) (off : Nat) : dfieldAddr Tryz.prog 48 (.fix d off) 1 = some (.fix d (off + 1)) := by kernel_rfl
theorem fp26_1 (k g off : Nat) : dfieldAddr Tryz.prog 48 (.ptr k g off) 1 = some (.ptr k g (off + 1)) := by kernel_rfl
theorem fa26_2 (d : D) (off : Nat) : dfieldAddr Tryz.prog 48 (.fix d off) 2 = some (.fix d (off + 2)) := by kernel_rfl
theorem fp26_2 (k g off : Nat) : dfieldAddr Tryz.prog 48 (.ptr k g off) 2 = some (.ptr k g (off + 2)) := by kernel_rfl
theorem fa26_3 (d : D) (off : Nat) : dfieldAddr Tryz.prog 48 (.fix d off) 3 = some (.fix d (off + 3)) := by kernel_rfl
theorem fp26_3 (k g off : Nat) : dfieldAddr Tryz.prog 48 (.ptr k g off) 3 = some (.ptr k g (off + 3)) := by kernel_rfl
theorem fa26_4 (d : D) (off : Nat) : dfieldAddr Tryz.prog 48 (.fix d off) 4 = some (.fix d (off + 4)) := by kernel_rfl
theorem fp26_4 (k g off : Nat) : dfieldAddr Tryz.prog 48 (.ptr k g off) 4 = some (.ptr k g (off + 4)) := by kernel_rfl
theorem fa26_5 (d : D) (off : Nat) : dfieldAddr Tryz.prog 48 (.fix d off) 5 = some (.fix d (off + 5)) := by kernel_rfl
theorem fp26_5 (k g off : Nat) : dfieldAddr Tryz.prog 48 (.ptr k g off) 5 = some (.ptr k g (off + 5)) := by kernel_rfl
theorem fa26_6 (d : D) (off : Nat) : dfieldAddr Tryz.prog 48 (.fix d off) 6 = some (.fix d (off + 6)) := by kernel_rfl
theorem fp26_6 (k g off : Nat) : dfieldAddr Tryz.prog 48 (.ptr k g off) 6 = some (.ptr k g (off + 6)) := by kernel_rfl
theorem ty54 : aggOf Tryz.prog 50 = some true ∧ sizeT Tryz.prog 50 = some 3 := ⟨by kernel_rfl, by kernel_rfl⟩
theorem dp54 (x0 x1 x2 : D) : dpart Tryz.prog 50 [x0, x1, x2] 0 = some (.agg [x0, x1, x2]) := by simp only [dpart, ty54.1, ty54.2]; rfl
theorem fa54_0 (d : D) (off : Nat) : dfieldAddr Tryz.prog 50 (.fix d off) 0 = some (.fix d (off + 0)) := by kernel_rfl
theorem fp54_0 (k g off : Nat) : dfieldAddr Tryz.prog 50 (.ptr k g off) 0 = some (.ptr k g (off + 0)) := by kernel_rfl
theorem fa54_1 (d : D) (off : Nat) : dfieldAddr Tryz.prog 50 (.fix d off) 1 = some (.fix d (off + 1)) := by kernel_rfl
theorem fp54_1 (k g off : Nat) : dfieldAddr Tryz.prog 50 (.ptr k g off) 1 = some (.ptr k g (off + 1)) := by kernel_rfl
theorem fa54_2 (d : D) (off : Nat) : dfieldAddr Tryz.prog 50 (.fix d off) 2 = some (.fix d (off + 2)) := by kernel_rfl
theorem fp54_2 (k g off : Nat) : dfieldAddr Tryz.prog 50 (.ptr k g off) 2 = some (.ptr k g (off + 2)) := by kernel_rfl
theorem zr26 : zeroOf Tryz.prog 48 = some [.int .i64 0, .int .i64 0, .str [], .str [], .list [], .list [], .str []] := by kernel_rfl
theorem zr54 : zeroOf Tryz.prog 50 = some [.str [], .str [], .str []] := by kernel_rfl
theorem ty22 : elemT Tryz.prog 22 = some 48 ∧ Tryz.prog.underlying 22 = some (.slice 48) ∧ aggOf Tryz.prog 22 = some false := ⟨by kernel_rfl, by kernel_rfl, by kernel_rfl⟩
theorem dp22 (cs : List D) (off : Nat) : dpart Tryz.prog 22 cs off = cs[off]? := by simp only [dpart, ty22.2.2]
theorem ia22 (es : List D) (ki : IntKind) (i : Int) : dindexAddr Tryz.prog 22 (.list es) (.int ki i) = if 0 ≤ i ∧ i < es.length then (if (dcells (es.getD i.toNat .bad)).length = 7 then some (.fix (es.getD i.toNat .bad) 0) else none) else none := by
  simp only [dindexAddr, ty22.1, ty26.2]
theorem len22 (l : List D) : dlen Tryz.prog #[22] (.list l) = some (.int .i64 l.length) := by kernel_rfl
theorem sl22 (es : List D) (lo hi : Option D) : dslice Tryz.prog 22 (.list es) lo hi none = if szOk 7 es = true then (dopt hi es.length es.length).bind fun h => (dopt lo h 0).map fun l => .list ((es.take h).drop l) else none := by kernel_rfl
theorem ty23 : elemT Tryz.prog 46 = some 50 ∧ Tryz.prog.underlying 46 = some (.slice 50) ∧ aggOf Tryz.prog 46 = some false := ⟨by kernel_rfl, by kernel_rfl, by kernel_rfl⟩
theorem dp23 (cs : List D) (off : Nat) : dpart Tryz.prog 46 cs off = cs[off]? := by simp only [dpart, ty23.2.2]
theorem ia23 (es : List D) (ki : IntKind) (i : Int) : dindexAddr Tryz.prog 46 (.list es) (.int ki i) = if 0 ≤ i ∧ i < es.length then (if (dcells (es.getD i.toNat .bad)).length = 3 then some (.fix (es.getD i.toNat .bad) 0) else none) else none := by
  simp only [dindexAddr, ty23.1, ty54.2]
theorem len23 (l : List D) : dlen Tryz.prog #[46] (.list l) = some (.int .i64 l.length) := by kernel_rfl
theorem sl23 (es : List D) (lo hi : Option D) : dslice Tryz.prog 46 (.list es) lo hi none = if szOk 3 es = true then (dopt hi es.length es.length).bind fun h => (dopt lo h 0).map fun l => .list ((es.take h).drop l) else none := by kernel_rfl
theorem ty24 : elemT Tryz.prog 24 = some 9 ∧ Tryz.prog.underlying 24 = some (.slice 9) ∧ aggOf Tryz.prog 24 = some false := ⟨by kernel_rfl, by kernel_rfl, by kernel_rfl⟩
theorem dp24 (cs : List D) (off : Nat) : dpart Tryz.prog 24 cs off = cs[off]? := by simp only [dpart, ty24.2.2]
theorem ia24 (es : List D) (ki : IntKind) (i : Int) : dindexAddr Tryz.prog 24 (.list es) (.int ki i) = if 0 ≤ i ∧ i < es.length then (if (dcells (es.getD i.toNat .bad)).length = 1 then some (.fix (es.getD i.toNat .bad) 0) else none) else none := by
  simp only [dindexAddr, ty24.1, ty9.2.1]
theorem len24 (l : List D) : dlen Tryz.prog #[24] (.list l) = some (.int .i64 l.length) := by kernel_rfl
theorem sl24 (es : List D) (lo hi : Option D) : dslice Tryz.prog 24 (.list es) lo hi none = if szOk 1 es = true then (dopt hi es.length es.length).bind fun h => (dopt lo h 0).map fun l => .list ((es.take h).drop l) else none := by kernel_rfl
theorem ty39 : elemT Tryz.prog 42 = some 3 ∧ Tryz.prog.underlying 42 = some (.slice 3) ∧ aggOf Tryz.prog 42 = some false := ⟨by kernel_rfl, by kernel_rfl, by kernel_rfl⟩
theorem dp39 (cs : List D) (off : Nat) : dpart Tryz.prog 42 cs off = cs[off]? := by simp only [dpart, ty39.2.2]
theorem ia39 (es : List D) (ki : IntKind) (i : Int) : dindexAddr Tryz.prog 42 (.list es) (.int ki i) = if 0 ≤ i ∧ i < es.length then (if (dcells (es.getD i.toNat .bad)).length = 1 then some (.fix (es.getD i.toNat .bad) 0) else none) else none := by
  simp only [dindexAddr, ty39.1, ty3.2.1]
theorem len39 (l : List D) : dlen Tryz.prog #[42] (.list l) = some (.int .i64 l.length) := by kernel_rfl
theorem sl39 (es : List D) (lo hi : Option D) : dslice Tryz.prog 42 (.list es) lo hi none = if szOk 1 es = true then (dopt hi es.length es.length).bind fun h => (dopt lo h 0).map fun l => .list ((es.take h).drop l) else none := by kernel_rfl
theorem ty81 : elemT Tryz.prog 106 = some 5 ∧ Tryz.prog.underlying 106 = some (.slice 5) ∧ aggOf Tryz.prog 106 = some false := ⟨by kernel_rfl, by kernel_rfl, by kernel_rfl⟩
theorem dp81 (cs : List D) (off : Nat) : dpart Tryz.prog 106 cs off = cs[off]? := by simp only [dpart, ty81.2.2]
theorem ia81 (es : List D) (ki : IntKind) (i : Int) : dindexAddr Tryz.prog 106 (.list es) (.int ki i) = if 0 ≤ i ∧ i < es.length then (if (dcells (es.getD i.toNat .bad)).length = 1 then some (.fix (es.getD i.toNat .bad) 0) else none) else none := by
  simp only [dindexAddr, ty81.1, ty5.2.1]
theorem len81 (l : List D) : dlen Tryz.prog #[106] (.list l) = some (.int .i64 l.length) := by kernel_rfl
theorem sl81 (es : List D) (lo hi : Option D) : dslice Tryz.prog 106 (.list es) lo hi none = if szOk 1 es = true then (dopt hi es.length es.length).bind fun h => (dopt lo h 0).map fun l => .list ((es.take h).drop l) else none := by kernel_rfl
theorem len9 (s : List UInt8) : dlen Tryz.prog #[9] (.str s) = some (.int .i64 s.length) := by kernel_rfl
theorem eq54 (a1 a2 a3 b1 b2 b3 : List UInt8) : dStructEq Tryz.prog 50 [.str a1, .str a2, .str a3] [.str b1, .str b2, .str b3] = some (a1 == b1 && (a2 == b2 && (a3 == b3))) := by
  have h : dStructEq Tryz.prog 50 [.str a1, .str a2, .str a3] [.str b1, .str b2, .str b3] = (match some (a1 == b1) with | some true => (match some (a2 == b2) with | some true => (match some (a3 == b3) with | some true => some true | r => r) | r => r) | r => r) := by kernel_rfl
  rw [h]
  cases a1 == b1 <;> cases a2 == b2 <;> cases a3 == b3 <;> rfl
theorem sl121 : dslice Tryz.prog 146 (.fix (.agg stD) 0) none none none = some (.list stD) := by kernel_rfl
theorem cv981 (l : List UInt8) : dconv Tryz.prog 9 106 (.str l) = some (.list (l.map fun b => .int .u8 b.toNat)) := by kernel_rfl
theorem gl1 : Gs.gl 1 = .fix (.agg stD) 0 := rfl
theorem szOk_cons (sz : Nat) (e : D) (es : List D) : szOk sz (e :: es) = ((dcells e).length == sz) := rfl
theorem szOk_nil (sz : Nat) : szOk sz [] = true := rfl
theorem plainR_s (d : D) (r : List Room) : plainR (some (d, r, [])) = some (d, r) := rfl
end Go.Av
namespace Go.Av
variable [Rk]
open Go.Proofs
theorem ty124 : elemT Tryz.prog 150 = none ∧ Tryz.prog.underlying 150 = some (.array 256 5) := ⟨by kernel_rfl, by kernel_rfl⟩
theorem ty126 : aggOf Tryz.prog 152 = some true ∧ sizeT Tryz.prog 152 = some 2 := ⟨by kernel_rfl, by kernel_rfl⟩
theorem ty127 : elemT Tryz.prog 153 = none ∧ Tryz.prog.underlying 153 = some (.array 16 152) := ⟨by kernel_rfl, by kernel_rfl⟩
theorem fap0 (k g off : Nat) : dfieldAddr Tryz.prog 152 (.ptr k g off) 0 = some (.ptr k g (off + 0)) := by kernel_rfl
theorem fap1 (k g off : Nat) : dfieldAddr Tryz.prog 152 (.ptr k g off) 1 = some (.ptr k g (off + 1)) := by kernel_rfl
theorem dp126 (cs : List D) (off : Nat) : dpart Tryz.prog 152 cs off = if off + 2 ≤ cs.length then some (.agg ((cs.drop off).take 2)) else none := by simp only [dpart, ty126.1, ty126.2]
theorem ia124 (d : D) (off : Nat) (ki : IntKind) (i : Int) : dindexAddr Tryz.prog 150 (.fix d off) (.int ki i) = if 0 ≤ i ∧ i < 256 then some (.fix d (off + i.toNat * 1)) else none := by
  simp only [dindexAddr, ty124.1, ty124.2, ty5.2.1]
  rfl
theorem ia127 (d : D) (off : Nat) (ki : IntKind) (i : Int) : dindexAddr Tryz.prog 153 (.fix d off) (.int ki i) = if 0 ≤ i ∧ i < 16 then some (.fix d (off + i.toNat * 2)) else none := by
  simp only [dindexAddr, ty127.1, ty127.2, ty126.2]
  rfl
theorem sl81m (es : List D) (lo : Option D) (h m : D) : dslice Tryz.prog 106 (.list es) lo (some h) (some m) = if szOk 1 es = true ∧ dbound m es.length = some es.length then (dopt (some h) es.length es.length).bind fun h => (dopt lo h 0).map fun l => .list ((es.take h).drop l) else none := by
  simp only [dslice, ty81.2.1, ty5.2.1, Option.isSome_some, and_true]
theorem cv53 (k : IntKind) (n : Int) : dconv Tryz.prog 5 3 (.int k n) = some (.int .i64 (IntKind.i64.wrap n)) := by kernel_rfl
theorem cv512 (k : IntKind) (n : Int) : dconv Tryz.prog 5 12 (.int k n) = some (.int .u64 (IntKind.u64.wrap n)) := by kernel_rfl
theorem cv5129 (k : IntKind) (n : Int) : dconv Tryz.prog 5 155 (.int k n) = some (.int .u64 (IntKind.u64.wrap n)) := by kernel_rfl
theorem cv12912 (k : IntKind) (n : Int) : dconv Tryz.prog 155 12 (.int k n) = some (.int .u64 (IntKind.u64.wrap n)) := by kernel_rfl
theorem zr126 : zeroOf Tryz.prog 152 = some [.int .u8 0, .int .u8 0] := by kernel_rfl
theorem szU8 (rs : List Int) : szOk 1 (rs.map (D.int .u8)) = true := by cases rs <;> rfl
theorem ib_add (k : IntKind) (a b : Int) : dIntBin .add k a b = some (.int k (k.wrap (a + b))) := rfl
theorem ib_sub (k : IntKind) (a b : Int) : dIntBin .sub k a b = some (.int k (k.wrap (a - b))) := rfl
theorem ib_eql (k : IntKind) (a b : Int) : dIntBin .eql k a b = some (.bool (a == b)) := rfl
theorem ib_neq (k : IntKind) (a b : Int) : dIntBin .neq k a b = some (.bool (a != b)) := rfl
theorem ib_lss (k : IntKind) (a b : Int) : dIntBin .lss k a b = some (.bool (decide (a < b))) := rfl
theorem ib_leq (k : IntKind) (a b : Int) : dIntBin .leq k a b = some (.bool (decide (a ≤ b))) := rfl
theorem ib_gtr (k : IntKind) (a b : Int) : dIntBin .gtr k a b = some (.bool (decide (a > b))) := rfl
theorem ib_geq (k : IntKind) (a b : Int) : dIntBin .geq k a b = some (.bool (decide (a ≥ b))) := rfl
theorem and_8 (a b : Int) : dIntBin .and .u8 a b = some (.int .u8 (bits .and .u8 a b)) := rfl
theorem shl8 (a : Int) : dShift .shl .u64 a 8 = some (.int .u64 (IntKind.u64.wrap (a * 256))) := rfl
theorem shl16 (a : Int) : dShift .shl .u64 a 16 = some (.int .u64 (IntKind.u64.wrap (a * 65536))) := rfl
theorem shl24 (a : Int) : dShift .shl .u64 a 24 = some (.int .u64 (IntKind.u64.wrap (a * 16777216))) := rfl
theorem shl32 (a : Int) : dShift .shl .u64 a 32 = some (.int .u64 (IntKind.u64.wrap (a * 4294967296))) := rfl
theorem shl40 (a : Int) : dShift .shl .u64 a 40 = some (.int .u64 (IntKind.u64.wrap (a * 1099511627776))) := rfl
theorem shl48 (a : Int) : dShift .shl .u64 a 48 = some (.int .u64 (IntKind.u64.wrap (a * 281474976710656))) := rfl
theorem shl56 (a : Int) : dShift .shl .u64 a 56 = some (.int .u64 (IntKind.u64.wrap (a * 72057594037927936))) := rfl
theorem takeM (rs : List Int) : (rs.map (D.int .u8)).take rs.length = rs.map (D.int .u8) := by rw [← List.length_map (D.int .u8), List.take_length]
theorem and_w (a b : Int) : dIntBin .and .u64 a b = some (.int .u64 (bits .and .u64 a b)) := rfl
theorem or_w (a b : Int) : dIntBin .or .u64 a b = some (.int .u64 (bits .or .u64 a b)) := rfl
end Go.Av
namespace Go.Proofs.YtaghfmgeccapbaaGreatDoor

def WholeIs (t : List Int) : Prop :=
  (∃ a, t = [a] ∧ 0 ≤ a ∧ a < 128) ∨
  (∃ a b, t = [a, b] ∧ 194 ≤ a ∧ a ≤ 223 ∧ 128 ≤ b ∧ b ≤ 191) ∨
  (∃ a b c, t = [a, b, c] ∧ 224 ≤ a ∧ a ≤ 239 ∧ (if a = 224 then 160 else 128) ≤ b ∧ b ≤ (if a = 237 then 159 else 191) ∧ 128 ≤ c ∧ c ≤ 191) ∨
  (∃ a b c d, t = [a, b, c, d] ∧ 240 ≤ a ∧ a ≤ 244 ∧ (if a = 240 then 144 else 128) ≤ b ∧ b ≤ (if a = 244 then 143 else 191) ∧ 128 ≤ c ∧ c ≤ 191 ∧ 128 ≤ d ∧ d ≤ 191)

theorem whole_is {t : List Int} (h : rWholeB t = true) : WholeIs t := by
  unfold rWholeB at h
  simp only [Bool.and_eq_true, decide_eq_true_eq, rightC_true] at h
  obtain ⟨⟨h1, h2, h3⟩, h4⟩ := h
  unfold rPut at h4
  split at h4
  · exact .inl ⟨_, h4.symm, h1, by omega⟩
  · split at h4
    · have e := h4.symm
      generalize hn : rTold t = n at *
      subst e
      simp [rTold, rFold, rHead] at hn
      exact .inr (.inl ⟨_, _, rfl, by omega, by omega, by omega, by omega⟩)
    · split at h4
      · have e := h4.symm
        generalize hn : rTold t = n at *
        subst e
        simp [rTold, rFold, rHead] at hn
        refine .inr (.inr (.inl ⟨_, _, _, rfl, by omega, by omega, ?_, ?_, by omega, by omega⟩)) <;> split <;> omega
      · have e := h4.symm
        generalize hn : rTold t = n at *
        subst e
        simp [rTold, rFold, rHead] at hn
        refine .inr (.inr (.inr ⟨_, _, _, _, rfl, by omega, by omega, ?_, ?_, by omega, by omega, by omega, by omega⟩)) <;> split <;> omega

theorem beg_2 {c : Int} (h : 194 ≤ c ∧ c ≤ 223) : beg c = some (c % 32, 1, 128, 191) := by unfold beg; rw [if_neg (by omega), if_pos h]
theorem beg_3 {c : Int} (h : 224 ≤ c ∧ c ≤ 239) : beg c = some (c - 224, 2, if c = 224 then 160 else 128, if c = 237 then 159 else 191) := by
  unfold beg
  rw [if_neg (by omega), if_neg (by omega)]
  by_cases h1 : c = 224
  · rw [if_pos h1, if_pos h1, if_neg (by omega)]
    subst h1
    rfl
  · rw [if_neg h1, if_neg h1]
    by_cases h2 : c = 237
    · rw [if_pos h2, if_pos h2]
      subst h2
      rfl
    · rw [if_neg h2, if_neg h2, if_pos (by omega)]
      rw [show c % 16 = c - 224 by omega]
theorem beg_4 {c : Int} (h : 240 ≤ c ∧ c ≤ 244) : beg c = some (c - 240, 3, if c = 240 then 144 else 128, if c = 244 then 143 else 191) := by
  unfold beg
  rw [if_neg (by omega), if_neg (by omega), if_neg (by omega), if_neg (by omega), if_neg (by omega)]
  by_cases h1 : c = 240
  · rw [if_pos h1, if_pos h1, if_neg (by omega)]
    subst h1
    rfl
  · rw [if_neg h1, if_neg h1]
    by_cases h2 : c = 244
    · rw [if_pos h2, if_pos h2]
      subst h2
      rfl
    · rw [if_neg h2, if_neg h2, if_pos (by omega)]
      rw [show c % 8 = c - 240 by omega]

theorem first_of_whole {t : List Int} (h : rWholeB t = true) (b : List Int) : firstOf (t ++ b) = (rTold t, t.length) := by
  rcases whole_is h with ⟨x, rfl, h1, h2⟩ | ⟨x, y, rfl, h1, h2, h3, h4⟩ | ⟨x, y, z, rfl, h1, h2, h3, h4, h5, h6⟩ | ⟨x, y, z, u, rfl, h1, h2, h3, h4, h5, h6, h7, h8⟩
  · simp [firstOf, beg, h2, goOn, rTold, rFold, rHead]
  · simp only [firstOf, List.cons_append, List.nil_append, beg_2 ⟨h1, h2⟩, goOn]
    rw [if_neg (by omega)]
    simp [rTold, rFold, rHead]
    omega
  · simp only [firstOf, List.cons_append, List.nil_append, beg_3 ⟨h1, h2⟩, goOn]
    rw [if_neg (by omega), if_neg (by omega)]
    simp [rTold, rFold, rHead]
    omega
  · simp only [firstOf, List.cons_append, List.nil_append, beg_4 ⟨h1, h2⟩, goOn]
    rw [if_neg (by omega), if_neg (by omega), if_neg (by omega)]
    simp [rTold, rFold, rHead]
    omega

end Go.Proofs.YtaghfmgeccapbaaGreatDoor
namespace Go.Proofs.YtaghfmgeccapbaaGreatDoor

theorem rTold_put {c : Int} (h : rightC c = true) : rTold (rPut c) = c := by
  have hr := rightC_true.1 h
  unfold rPut
  split
  · simp [rTold, rFold, rHead]
  · split
    · simp [rTold, rFold, rHead]
      omega
    · split
      · simp [rTold, rFold, rHead]
        omega
      · simp [rTold, rFold, rHead]
        omega
theorem whole_put {c : Int} (h : rightC c = true) : rWholeB (rPut c) = true := by simp [rWholeB, rTold_put h, h]
end Go.Proofs.YtaghfmgeccapbaaGreatDoor
