/- The walk of decode's first. Conditions: the slice reads as bytes, and has one. -/
import Derived.Test.YtaihimaopedicaaDoorRn
import Derived.Test.YtaihimaopedicaaDoorDec
import Derived.Test.YtaihimaopedicaaDoorOwn
namespace Go.Proofs.YtaihimaopedicaaDoor
open Go.RowKit

def BytesOK (zs : List Int) : Prop := ∀ i, i < zs.length → 0 ≤ zs.getD i 0 ∧ zs.getD i 0 < 256

def chOK (need : Nat) (ch : Int) : Prop := 0 ≤ ch ∧ ((need = 3 ∧ ch < 128) ∨ (need = 2 ∧ ch < 8192) ∨ (need = 1 ∧ ch < 524288) ∨ (need = 0 ∧ ch < 33554432))
theorem chOK.start {c ch lo up : Int} {need : Nat} (h0 : 0 ≤ c) (h : beg c = some (ch, need, lo, up)) : chOK need ch := by
  have := beg_bounds h0 h
  unfold chOK
  omega
theorem chOK.next {need : Nat} {ch c : Int} (h : chOK (need + 1) ch) : chOK need (ch * 64 + c % 64) := by
  unfold chOK at *
  omega
theorem chOK.bd {need : Nat} {ch : Int} (h : chOK (need + 1) ch) : 0 ≤ ch ∧ ch ≤ 1000000 ∧ need < 3 := by
  unfold chOK at h
  omega

def FirstPost (w : World) (zs : List Int) (e : Ending) (w' : World) : Prop :=
  e = .returned (.tuple #[.int .i64 (firstOf zs).1, .int .i64 ((firstOf zs).2 : Nat)]) ∧ Below w.heap.size w w'
theorem FirstPost.mk' {w w' : World} {zs : List Int} {x : Int} {k : Nat} {e : Ending} (h : firstOf zs = (x, k)) (he : e = .returned (.tuple #[.int .i64 x, .int .i64 (k : Nat)])) (hb : Below w.heap.size w w') : FirstPost w zs e w' :=
  ⟨by rw [h]; exact he, hb⟩

/-- What the loop of first knows at its head. -/
structure FirstRel (w : World) (zs : List Int) (s : Nat) (ch lo up : Int) (need : Nat) (wr : World) : Prop where
  le : s ≤ zs.length
  one : 1 ≤ s
  below : Below w.heap.size w wr
  bk : Bk wr w.heap.size 58 (rd ch need lo up)
  ok : chOK need ch
  eq : firstOf zs = goOn need ch lo up (zs.drop s) s

theorem goOn_end {n : Nat} {ch lo up : Int} {zs : List Int} {s k : Nat} (hs : zs.length ≤ s) : goOn (n + 1) ch lo up (zs.drop s) k = (65533, k) := by
  rw [List.drop_eq_nil_of_le hs]; rfl
theorem goOn_cons {n : Nat} {ch lo up : Int} {zs : List Int} {s k : Nat} (hs : s < zs.length) :
    goOn (n + 1) ch lo up (zs.drop s) k = if zs.getD s 0 < lo ∨ up < zs.getD s 0 then (65533, k) else goOn n (ch * 64 + zs.getD s 0 % 64) 128 191 (zs.drop (s + 1)) (k + 1) := by
  rw [List.drop_eq_getElem_cons hs]
  simp [goOn, hs]

theorem firstOf_none {zs : List Int} {z : Int} (h0 : 0 < zs.length) (hz : zs.getD 0 0 = z) (h : beg z = none) : firstOf zs = (65533, 1) := by
  cases zs with
  | nil => simp at h0
  | cons y r =>
    simp at hz
    subst hz
    simp [firstOf, h]
theorem firstOf_some {zs : List Int} {z ch lo up : Int} {need : Nat} (h0 : 0 < zs.length) (hz : zs.getD 0 0 = z) (h : beg z = some (ch, need, lo, up)) : firstOf zs = goOn need ch lo up (zs.drop 1) 1 := by
  cases zs with
  | nil => simp at h0
  | cons y r =>
    simp at hz
    subst hz
    simp [firstOf, h]
theorem FirstRel.begun {w w1 : World} {o : Obj} (hg : (w.alloc o).grownBy w1 (some w.heap.size)) : Below w.heap.size w w1 :=
  ((Below.refl _ w).alloc (Nat.le_refl _) o).grown hg (by simp) (fun k hk => by injection hk with hk; omega)
theorem FirstRel.start {w w1 : World} {o : Obj} {zs : List Int} {z ch lo up : Int} {need : Nat} (h0 : 0 < zs.length) (hz : zs.getD 0 0 = z) (hz0 : 0 ≤ z) (h : beg z = some (ch, need, lo, up))
    (hg : (w.alloc o).grownBy w1 (some w.heap.size)) (hk : Bk w1 w.heap.size 58 (rd ch need lo up)) : FirstRel w zs 1 ch lo up need w1 :=
  ⟨h0, Nat.le_refl _, FirstRel.begun hg, hk, chOK.start hz0 h, firstOf_some h0 hz h⟩

theorem FirstRel.next {w wr w2 : World} {zs : List Int} {k need : Nat} {ch lo up z : Int} (h : FirstRel w zs k ch lo up (need + 1) wr) (hlt : k < zs.length) (hz : zs.getD k 0 = z) (h1 : lo ≤ z) (h2 : z ≤ up)
    (hg : wr.grownBy w2 (some w.heap.size)) (hk : Bk w2 w.heap.size 58 (rd (ch * 64 + z % 64) ((need + 1 : Nat) - 1 : Int) 128 191)) : FirstRel w zs (k + 1) (ch * 64 + z % 64) 128 191 need w2 :=
  ⟨hlt, by omega, h.below.grown hg h.below.size (fun k hk => by injection hk with hk; omega), by simpa using hk, h.ok.next, by
    rw [h.eq, goOn_cons hlt, hz, if_neg (by omega)]⟩

set_option maxHeartbeats 1000000 in
theorem first_any (w : World) (B : Nat) (a : Option Addr) (n c : Nat) (zs : List Int) (hB : B ≤ w.heap.size) (hz : BytesOK zs) (hn : n = zs.length) (h0 : 0 < zs.length) (hm : zs.length ≤ maxLen)
    (hs : Sl w B a (zs.map (Value.int .u8))) : Calls Tryd.prog 14 #[.slice a n c] w (FirstPost w zs) := by
  subst hn
  unfold maxLen at hm
  obtain ⟨b, off, rfl, hb, hcell⟩ := hs.int h0
  have hc0 := hcell 0 h0
  have hz0 := hz 0 h0
  have hbw : b < w.heap.size := by omega
  clear hs
  have HC := Lib.hid hcell
  clear hcell
  obtain ⟨z, HZ⟩ : ∃ z, Hid (zs.getD 0 0 = z) := ⟨_, rfl⟩
  rw [HZ.out] at hc0 hz0
  obtain ⟨hz0, hz1⟩ := hz0
  simp only [Nat.add_zero] at hc0
  go_enter Tryd.func14, Tryd.ntmps14
  go_wp2_with fail
  refine (begin_any _ _ _ _ _ _ _ hz0 hz1 (Bk.new w _ _)).mono ?_
  rintro e w1 ⟨hg, hp⟩
  cases hbeg : beg z with
  | none =>
    simp only [hbeg] at hp
    subst hp
    go_wp2_with fail
    go_ret2
    exact FirstPost.mk' (firstOf_none h0 HZ.out hbeg) rfl (FirstRel.begun hg)
  | some x =>
    obtain ⟨ch, need, lo, up⟩ := x
    simp only [hbeg] at hp
    obtain ⟨rfl, hk⟩ := hp
    have HR := FirstRel.start h0 HZ.out hz0 hbeg hg hk
    clear hg hk hc0 HZ hbeg
    go_wp2_with fail
    go_loopw [3] (fun s wr => ∃ (k : Nat) (ch lo up : Int) (need : Nat), s = .int .i64 k ∧ FirstRel w zs k ch lo up need wr) (fun s _ => zs.length + 1 - (intOf s).toNat)
    case atStart => exact ⟨1, ch, lo, up, need, rfl, HR⟩
    case round =>
      clear HR
      obtain ⟨k, ch, lo, up, need, rfl, hr⟩ := hrel
      have d1 := hr.bk.cell 1
      have d0 := hr.bk.cell 0
      simp [rd] at d0 d1
      have e1 := hr.le
      have e2 := hr.one
      cases need with
      | zero =>
        simp only [Int.natCast_zero] at d1
        go_wp2_with fail
        go_ret2
        exact FirstPost.mk' hr.eq rfl hr.below
      | succ need =>
        simp only [Int.natCast_add, Int.natCast_one] at d1
        by_cases hk : k = zs.length
        · subst hk
          have HQ := Lib.hid (hr.eq.trans (goOn_end (Nat.le_refl _)))
          have HB := Lib.hid hr.below
          clear hr
          go_wp2_with fail
          go_ret2
          exact FirstPost.mk' HQ.out rfl HB.out
        · have hlt : k < zs.length := by omega
          have hkk : ((k : Int) == (zs.length : Int)) = false := by simp; omega
          have hcb : wr.cell? ⟨b, off + k, none⟩ = some (.int .u8 (zs.getD k 0)) := ((below_cells hr.below).1 b _ hbw).trans (HC.out k hlt)
          have hzk := hz k hlt
          obtain ⟨zk, HZ⟩ : ∃ z, Hid (zs.getD k 0 = z) := ⟨_, rfl⟩
          rw [HZ.out] at hcb hzk
          obtain ⟨hz2, hz3⟩ := hzk
          have hbd := hr.ok.bd
          obtain ⟨c0, c1, c2⟩ := hbd
          clear hk
          by_cases hc : zk < lo ∨ up < zk
          · have HQ : Hid (firstOf zs = (65533, k)) := by
              have := hr.eq
              rw [goOn_cons hlt, HZ.out, if_pos hc] at this
              exact this
            have HK := hr.bk
            have HB := Lib.hid hr.below
            clear hr
            go_wp2_with fail
            refine (next_no _ _ _ _ _ _ _ hc HK).mono ?_
            rintro e w2 ⟨rfl, hg⟩
            go_wp2_with fail
            go_ret2
            exact FirstPost.mk' HQ.out rfl (HB.out.grown hg HB.out.size (fun k hk => by injection hk with hk; omega))
          · obtain ⟨k1, k2⟩ : lo ≤ zk ∧ zk ≤ up := by omega
            have HR := Lib.hid hr
            have HK := hr.bk
            clear hr hc
            go_wp2_with fail
            refine (next_yes _ _ _ _ _ _ _ hz2 hz3 c0 c1 (by omega) (by omega) k1 k2 HK).mono ?_
            rintro e w2 ⟨rfl, hg, hk⟩
            have HN := FirstRel.next HR.out hlt HZ.out k1 k2 hg hk
            clear hg hk
            go_wp2_with fail
            go_roundw
            case rel => exact ⟨k + 1, _, _, _, need, by go_num, HN⟩
            case measure => simp [intOf]; omega
end Go.Proofs.YtaihimaopedicaaDoor
