/- The walk of the law DecodeReads. Conditions: the slice reads as bytes; the two tables lie in memory. -/
import Derived.Test.YtliflodflpecmaaDoorAv1b
import Derived.Test.YtliflodflpecmaaDoorAv1n
import Derived.Test.YtliflodflpecmaaDoorSp
import Derived.Test.YtliflodflpecmaaDoorStp
set_option linter.unusedSimpArgs false

set_option linter.unusedVariables false
namespace Go.Proofs.YtliflodflpecmaaDoor
open Go.RowKit
/-- Reads as these cells, in a block that is not g. -/
def SlX (w : World) (g : Nat) (a : Option Addr) (xs : List Value) : Prop :=
  xs ≠ [] → ∃ b off, a = some ⟨b, off, none⟩ ∧ b ≠ g ∧ b < w.heap.size ∧ ∀ i (h : i < xs.length), w.cell? ⟨b, off + i, none⟩ = some xs[i]
theorem SlX.sl {w : World} {g : Nat} {a : Option Addr} {xs : List Value} (h : SlX w g a xs) : Sl w w.heap.size a xs := fun hne => by
  obtain ⟨b, off, h1, _, h2, h3⟩ := h hne
  exact ⟨b, off, h1, h2, h3⟩
theorem SlX.put {w : World} {g : Nat} {a : Option Addr} {xs : List Value} (h : SlX w g a xs) (i : Nat) (u : Value) : SlX (w.setCell ⟨g, i, none⟩ u) g a xs := fun hne => by
  obtain ⟨b, off, h1, h2, h3, h4⟩ := h hne
  refine ⟨b, off, h1, h2, by simpa [World.setCell] using h3, fun j hj => ?_⟩
  rw [← h4 j hj]
  exact World.cell?_setCell_other _ _ _ _ (fun e => h2 (by injection e with e1; exact e1.symm))
theorem SlX.of {w w' : World} {base g : Nat} {a : Option Addr} {xs : List Value} (h : Sn w base a xs) (hg : g < base) (hb : Below w.heap.size w w') : SlX w' g a xs := fun hne => by
  obtain ⟨b, off, h1, h2, h3, h4⟩ := h hne
  exact ⟨b, off, h1, by omega, Nat.lt_of_lt_of_le h3 hb.size, fun i hi => (below_cells hb).1 b (off + i) h3 |>.trans (h4 i hi)⟩
structure RdRel (w : World) (n g : Nat) (a : Option Addr) (l : List Int) (wr : World) : Prop where
  blk : 0 < n → ∃ cs : Array Value, Bk wr g 5 cs ∧ n ≤ cs.size
  below : Below w.heap.size w wr
  list : SlX wr g a (l.map (Value.int .i64))
theorem RdRel.next {w wr : World} {n g : Nat} {a : Option Addr} {l : List Int} (h : RdRel w n g a l wr) (hg : w.heap.size ≤ g) (i : Nat) (u : Value) : RdRel w n g a l (wr.setCell ⟨g, i, none⟩ u) := by
  refine ⟨fun h0 => ?_, h.below.setCell hg u, h.list.put i u⟩
  obtain ⟨cs, h1, h2⟩ := h.blk h0
  exact ⟨_, h1.put i u, by simpa using h2⟩

/-- The list that was copied is of the call's own: its block. -/
theorem own_block {w : World} {base n c : Nat} {e : TypeId} {k : IntKind} {a : Option Addr} {l : List Int} (h : OwnL w base e k (.slice a n c) l) (h0 : 0 < l.length) : ∃ g, a = some ⟨g, 0, none⟩ ∧ base ≤ g ∧ g < w.heap.size ∧ ∃ cs : Array Value, Bk w g e cs ∧ l.length ≤ cs.size := by
  rcases h with ⟨h1, h2, _⟩ | h
  · have : l = [] := by simpa using h2
    rw [this] at h0; simp at h0
  · rcases h.2 with ⟨hv, hn⟩ | ⟨g, cap, cur, hv, hb0, hg, h1, _, h3, _⟩
    · omega
    · injection hv with e1 e2 e3
      subst e1
      refine ⟨g, rfl, hb0, Bk.lt hg, cur, hg, ?_⟩
      omega
set_option maxHeartbeats 2000000 in
set_option maxRecDepth 100000 in
theorem reads_any (w : World) (a : Option Addr) (n c : Nat) (zs : List Int) (hT : TabsOK w) (hz : BytesOK zs) (hn : n = zs.length) (hc : n ≤ c) (hs : Sl w w.heap.size a (zs.map (Value.int .u8))) :
    Calls Tryd.prog 3 #[.slice a n c] w (RetV w (.bool true)) := by
  subst hn
  have HS0 := Lib.hid hs
  have HZ := Lib.hid hz
  have HT := Lib.hid hT
  clear hs hz hT
  go_enter Tryd.func3, Tryd.ntmps3
  go_wp2_with fail
  refine (speaks_any w).mono ?_
  rintro e w1 ⟨rfl, hb1⟩
  have hs1 := HS0.out.below hb1
  have hw1 := hb1.size
  by_cases k1 : 5000 < zs.length
  · go_wp2_with fail
    go_ret
    exact ⟨rfl, hb1⟩
  have k1' : ¬ (5000 : Int) < (zs.length : Int) := by omega
  have hs1a := hs1.alloc hw1 (.cells #[] 5)
  go_wp2_with (at_builtin; refine app_appS _ rfl (.tmp 12) (.tmp 13) 22 rfl Tryd.eiBytes (by decide) w1.heap.size .u8 _ [] rfl (OwnL.nil _ _ _ _ _) _ _ _ _ zs rfl rfl hs1a (by simp) (by omega) (by simp) ?_; intro A2 n2 c2 w2 hn2 hc2 ho2 hs2 hg2 hb2; simp only [List.nil_append] at hn2 ho2 hs2; subst hn2)
  have hb12 : Below w.heap.size w w2 := (hb1.alloc hw1 _).trans (hb2.mono hw1)
  have hw2 := hb12.size
  clear hs1 hs1a hg2 hb2
  refine (chars_new _ w2.heap.size _ _ _ zs (Nat.le_refl _) HZ.out rfl hc2 (by omega) hs2).mono ?_
  rintro e w3 ⟨a3, c3, rfl, hc3, hs3, hb3⟩
  have hb13 : Below w.heap.size w w3 := hb12.trans (hb3.mono hw2)
  have hin3 := hs2.below hb3
  have ho3 := ho2.below hb3
  go_wp2_with fail
  refine (rightB_any _ w2.heap.size _ _ _ zs (HT.out.below hb13) HZ.out rfl hc2 (by omega) hin3).mono ?_
  rintro e w4 ⟨rfl, hb4⟩
  have hb14 : Below w.heap.size w w4 := hb13.trans (hb4.mono hb13.size)
  have ho4 := ho3.below hb4
  have hG := good_valid zs.length zs (Nat.le_refl _) HZ.out
  rw [← hG]
  clear hG
  obtain ⟨g, hg2, hgz⟩ : ∃ g, g < w2.heap.size ∧ (0 < zs.length → A2 = some ⟨g, 0, none⟩ ∧ w.heap.size ≤ g ∧ ∃ cs : Array Value, Bk w4 g 5 cs ∧ zs.length ≤ cs.size) := by
    by_cases h0 : 0 < zs.length
    · obtain ⟨g, e1, e2, e3, e4⟩ := own_block ho2 h0
      obtain ⟨g', e1', e2', e3', e4'⟩ := own_block ho4 h0
      have : g' = g := by rw [e1] at e1'; injection e1' with e; injection e with e; exact e.symm
      subst this
      exact ⟨g', e3, fun _ => ⟨e1, by omega, e4'⟩⟩
    · exact ⟨0, Nat.lt_of_lt_of_le (Go.Av.cell_old ((HT.out.below hb12).1 0 (by omega))) (Nat.le_refl _), fun h => absurd h h0⟩
  have HR : RdRel w zs.length g a3 (chars zs) w4 := ⟨fun h0 => (hgz h0).2.2, hb14, SlX.of hs3 hg2 hb4⟩
  have HGZ : Hid (0 < zs.length → A2 = some ⟨g, 0, none⟩ ∧ w.heap.size ≤ g) := fun h0 => ⟨(hgz h0).1, (hgz h0).2.1⟩
  obtain ⟨G, HG⟩ : ∃ G, Hid (rGood zs = G) := ⟨_, rfl⟩
  obtain ⟨m3, HM⟩ : ∃ m3, Hid ((chars zs).length = m3) := ⟨_, rfl⟩
  rw [HG.out, HM.out]
  rw [HM.out] at hc3
  have hm3 : m3 ≤ 5000 := by have h1 := HM.out; have := chars_short (zs := zs); omega
  clear hgz hs2 hs3 hin3 ho2 ho3 ho4 hb1 hb12 hb13 hb14 hb3 hb4 hw1 hw2 hg2
  go_wp2_with fail
  go_loopw [6, 21] (fun _ i wr => ∃ k : Nat, i = .int .i64 k ∧ k ≤ zs.length ∧ RdRel w zs.length g a3 (chars zs) wr) (fun _ i _ => zs.length - (intOf i).toNat)
  case atStart => exact ⟨0, by go_num, Nat.zero_le _, HR⟩
  case round =>
    clear HR
    obtain ⟨k, rfl, hk, hr⟩ := hrel
    by_cases hlt : k < zs.length
    · have hlt' : (k : Int) < (zs.length : Int) := by omega
      obtain ⟨rfl, hwg⟩ := HGZ.out (by omega)
      obtain ⟨cs, hblk, hcs⟩ := hr.blk (by omega)
      obtain ⟨u, hu⟩ : ∃ u, cs[k]? = some u := ⟨cs[k], Array.getElem?_eq_getElem (by omega)⟩
      have c0 := (hblk.cell k).trans hu
      have f0 := hblk.free k
      have HN := Lib.hid (hr.next hwg k (.int .u8 238))
      clear hr hblk hu hcs
      go_wp2_with fail
      refine ⟨⟨k + 1, by go_num, hlt, HN.out⟩, ?_⟩
      simp [intOf]
      omega
    · have hge : ¬ (k : Int) < (zs.length : Int) := by omega
      have hT4 := HT.out.below hr.below
      have hs4 := HS0.out.below hr.below
      have hl4 := hr.list.sl
      have hb := hr.below
      have hw4 := hb.size
      clear hr hlt HT
      go_wp2_with fail
      refine (rchars_any _ w.heap.size _ _ _ zs hT4 HZ.out rfl hc (by omega) hs4).mono ?_
      rintro e w5 ⟨a5, c5, rfl, hc5, hs5, hb5⟩
      have hl5 := hl4.below hb5
      have hs5' := hs4.below (hb5.mono hw4)
      have hbb5 : Below w.heap.size w w5 := hb.trans (hb5.mono hw4)
      have hw5 := hbb5.size
      rw [HM.out] at hc5 ⊢
      clear hl4 hs4 hb5 hb
      go_wp2_with fail
      refine (same_any _ _ _ _ _ _ _ _ _ (chars zs) (chars zs) HM.out.symm HM.out.symm (by have := HM.out; omega) (by have := HM.out; omega) hl5 hs5).mono ?_
      rintro e w6 ⟨rfl, hb6⟩
      rw [show decide (chars zs = chars zs) = true from decide_eq_true rfl]
      have hs6 := hs5'.below (hb6.mono hw5)
      have hbb6 : Below w.heap.size w w6 := hbb5.trans (hb6.mono hw5)
      have hw6 := hbb6.size
      clear hs5 hs5' hl5 hb6 hbb5
      go_wp2_with fail
      refine (rGood_any _ w.heap.size _ _ _ zs hw6 HZ.out rfl hc (by omega) hs6).mono ?_
      rintro e w7 ⟨rfl, hb7⟩
      have hbb7 : Below w.heap.size w w7 := hbb6.trans (hb7.mono hw6)
      rw [HG.out]
      clear hs6 hb7 hbb6
      go_wp2_with fail
      go_ret
      exact ⟨rfl, hbb7⟩
end Go.Proofs.YtliflodflpecmaaDoor
