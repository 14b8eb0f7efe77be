/- chars.put, chars.escape, chars.all. Conditions: the numbers are characters; the builder is the call's own. -/
import Derived.Test.YtpdcnjlmnilipaaDoorAv2k
import Derived.Lib.ConvBytes
set_option linter.unusedVariables false
set_option linter.unusedSimpArgs false
namespace Go.Proofs.YtpdcnjlmnilipaaDoor
open Go.RowKit
/-- The builder in block b holds these bytes. -/
def IsI (B b : Nat) (l : List Int) (w : World) : Prop := IsB B b (l.map (Value.int .u8)) w
def Wr (B b : Nat) (w : World) (l : List Int) (w' : World) : Prop := IsI B b l w' ∧ Below B w w' ∧ Kx b w w'
theorem IsI.lt {B b : Nat} {l : List Int} {w : World} (h : IsI B b l w) : b < w.heap.size ∧ B ≤ b := by
  rcases h with h | h
  · exact ⟨h.lt, h.1⟩
  · exact ⟨h.lt, h.1⟩
theorem IsI.keep {B b : Nat} {l : List Int} {w w' : World} (h : IsI B b l w) (hb : Below w.heap.size w w') : IsI B b l w' := by
  have hk : ∀ p, Lib.BuilderAt 34 5 B b p (l.map (Value.int .u8)) w → Lib.BuilderAt 34 5 B b p (l.map (Value.int .u8)) w' := by
    rintro p ⟨h1, v, h2, h3, h4⟩
    refine ⟨h1, v, ?_, ?_, h4⟩
    · have hlt : b < w.heap.size := Lib.BuilderAt.lt ⟨h1, v, h2, h3, h4⟩
      exact (hb.block b hlt).trans h2
    · refine ⟨h3.1, ?_⟩
      rcases h3.2 with h5 | ⟨g, cap, cur, hv, hb0, hg, h6⟩
      · exact .inl h5
      · exact .inr ⟨g, cap, cur, hv, hb0, Bk.below hg hb (Bk.lt hg), h6⟩
  exact h.imp (hk _) (hk _)
theorem Kx.of_below {b : Nat} {w w' : World} (h : Below w.heap.size w w') : Kx b w w' := by
  intro k o hk _ _
  have hlt : k < w.heap.size := (Array.getElem?_eq_some_iff.1 hk).1
  exact (h.block k hlt).trans hk
theorem wbyte_I (B b : Nat) (l : List Int) (c : Int) (w : World) (h : IsI B b l w) (hlen : l.length ≤ 1000000000) (hBw : B ≤ w.heap.size) :
    Calls Tryd.prog 24 #[.pointer (some ⟨b, 0, none⟩), .int .u8 c] w fun e w' => e = .returned .nilIface ∧ Wr B b w (l ++ [c]) w' := by
  refine (wbyte_any B b _ c w h (by simp; omega) hBw).mono ?_
  rintro e w' ⟨rfl, h1, h2⟩
  refine ⟨rfl, ?_, h2⟩
  unfold IsI
  simpa using h1
theorem put_any (B b : Nat) (l : List Int) (c : Int) (w : World) (h : IsI B b l w) (hc : rightC c = true) (hlen : l.length ≤ 1000000000) (hBw : B ≤ w.heap.size) :
    Calls Tryd.prog 19 #[.pointer (some ⟨b, 0, none⟩), .int .i64 c] w fun e w' => e = .returned (.tuple #[]) ∧ Wr B b w (l ++ rPut c) w' := by
  obtain ⟨hr1, hr2, -⟩ := rightC_true.1 hc
  have HC := Lib.hid hc
  have HI := Lib.hid h
  clear hc h
  go_enter Tryd.func19, Tryd.ntmps19
  go_wp2_with fail
  refine (appendRune_any _ w.heap.size none 0 0 [] c hr1 HC.out (by simp) (Nat.le_refl _) (OwnL.nil _ _ _ _ _)).mono ?_
  rintro e w1 ⟨v, rfl, ho, hg, hb1⟩
  have hp := rPut_length c
  simp only [List.nil_append] at ho
  rcases ho with ⟨h0, _⟩ | ho
  · omega
  obtain ⟨hl0, ho⟩ := ho
  rcases ho with ⟨_, h0⟩ | ⟨g, cap, cur, rfl, hge, hgb, hcap, hsz1, hsz, htake⟩
  · omega
  have HB := Lib.hid hb1
  have hlt := (HI.out.lt).1
  have hI1 := HI.out.keep hb1
  have hk1 : Kx b w w1 := Kx.of_below hb1
  have hBw1 : B ≤ w1.heap.size := Nat.le_trans hBw hb1.size
  have hglt : g < w1.heap.size := Bk.lt hgb
  clear hb1
  go_wp2_with fail
  refine (write_any B b _ ⟨g, 0, none⟩ (rPut c).length cap ((rPut c).map (Value.int .u8)) _ hI1 (by simp) ?_ hglt (by show g ≠ b; omega) (int_cells _ _) (by simp; omega) hBw1).mono ?_
  · intro j u hj
    rw [addr_add, Nat.zero_add, Bk.cell hgb]
    rw [← htake] at hj
    have hj2 := hj
    rw [List.getElem?_take] at hj2
    split at hj2
    · simpa using hj2
    · cases hj2
  rintro e w2 ⟨rfl, hI2, hb2, hk2⟩
  go_wp2_with fail
  go_end0
  refine ⟨rfl, ?_, ?_, ?_⟩
  · unfold IsI
    simpa using hI2
  · exact (HB.out.mono hBw).trans hb2
  · exact hk1.trans hk2
theorem BytesOK.mem {l : List Int} (h : BytesOK l) {z : Int} (hz : z ∈ l) : 0 ≤ z ∧ z < 256 := by
  obtain ⟨i, hi, rfl⟩ := List.mem_iff_getElem.1 hz
  have := h i hi
  simpa [List.getD_eq_getElem?_getD, hi] using this
theorem BytesOK.of {l : List Int} (h : ∀ z ∈ l, 0 ≤ z ∧ z < 256) : BytesOK l := fun i hi => by
  have := h l[i] (List.getElem_mem hi)
  simpa [List.getD_eq_getElem?_getD, hi] using this
theorem strCells_nums {l : List Int} (h : BytesOK l) : Lib.strCells (strOfNums l) = l.map (Value.int .u8) := by
  unfold Lib.strCells
  rw [strOfNums_data, List.map_map]
  refine List.map_congr_left fun z hz => ?_
  have := h.mem hz
  simp only [Function.comp_apply, UInt8.toNat_ofNat']
  congr 1
  omega
theorem hd_range (d : Nat) (h : d < 16) : 48 ≤ hd d ∧ hd d ≤ 102 ∧ ¬ hd d = 92 := by
  unfold hd
  split <;> omega
theorem hexI_range (n : Nat) : ∀ z ∈ hexI n, 48 ≤ z ∧ z ≤ 102 ∧ ¬ z = 92 := by
  induction n using Nat.strongRecOn with
  | _ n ih =>
    by_cases h : n < 16
    · rw [hexI_lo h]
      intro z hz
      simp at hz
      subst hz
      exact hd_range n h
    · rw [hexI_hi h]
      intro z hz
      simp at hz
      rcases hz with hz | hz
      · exact ih (n / 16) (by omega) z hz
      · subst hz
        exact hd_range _ (by omega)
theorem hexI_bytes (n : Nat) : BytesOK (hexI n) := BytesOK.of fun z hz => by have := hexI_range n z hz; omega
theorem hexI_len : ∀ (k n : Nat), n < 16 ^ (k + 1) → (hexI n).length ≤ k + 1
  | 0, n, h => by rw [hexI_lo (by simpa using h)]; simp
  | k + 1, n, h => by
    by_cases h0 : n < 16
    · rw [hexI_lo h0]; simp
    · rw [hexI_hi h0]
      have := hexI_len k (n / 16) (by rw [Nat.pow_succ] at h; omega)
      simp
      omega
theorem hexI_length (n : Nat) (h : n < 4294967296) : (hexI n).length ≤ 8 := hexI_len 7 n (by simpa using h)
theorem TabT.keep {w w' : World} (h : TabT w) (hb : Below w.heap.size w w') : TabT w' := by
  unfold TabT at *
  rw [← h]
  unfold World.cell?
  have hlt : 3 < w.heap.size := by
    apply Classical.byContradiction
    intro hn
    unfold World.cell? at h
    rw [Array.getElem?_eq_none (by simpa using hn)] at h
    cases h
  rw [hb.block 3 hlt]
theorem TabT.kept {B : Nat} {w w' : World} (h : TabT w) (hB : 3 < B) (hb : Below B w w') : TabT w' := by
  unfold TabT at *
  rw [← h]
  unfold World.cell?
  rw [hb.block 3 hB]
theorem escape_any (B b : Nat) (l : List Int) (c : Nat) (w : World) (h : IsI B b l w) (hc : c < 1114112) (hlen : l.length ≤ 100000000) (hBw : B ≤ w.heap.size) (hB : 3 < B) (hT : TabT w) :
    Calls Tryd.prog 22 #[.pointer (some ⟨b, 0, none⟩), .int .i64 c] w fun e w' => e = .returned (.tuple #[]) ∧ Wr B b w (l ++ (92 :: hexI c ++ [32])) w' := by
  have HI := Lib.hid h
  have HT := Lib.hid hT
  clear h hT
  go_enter Tryd.func22, Tryd.ntmps22
  go_wp2_with (go_at_call 24; refine (wbyte_I B b l 92 _ HI.out (by omega) hBw).mono ?_)
  rintro e w1 ⟨rfl, hI1, hb1, hk1⟩
  have HT1 := Lib.hid (HT.out.kept hB hb1)
  have hBw1 : B ≤ w1.heap.size := Nat.le_trans hBw hb1.size
  have HB1 := Lib.hid hb1
  clear hb1
  go_wp2_with (go_at_call 40; refine (format_any _ c (by omega) HT1.out).mono ?_)
  rintro e w2 ⟨rfl, hb2⟩
  have hI2 := hI1.keep hb2
  have hk2 : Kx b w1 w2 := Kx.of_below hb2
  have hBw2 : B ≤ w2.heap.size := Nat.le_trans hBw1 hb2.size
  have HB2 := Lib.hid (HB1.out.trans (hb2.mono hBw1))
  have hsz : (strOfNums (hexI c)).size = (hexI c).length := strOfNums_size _
  have hh := hexI_length c (by omega)
  clear hb2 hI1
  go_wp2_with (go_at_call 39; refine (wstring_any B b _ (strOfNums (hexI c)) _ hI2 (by simp [hsz]; omega) hBw2).mono ?_)
  rintro e w3 ⟨rfl, hI3, hb3, hk3⟩
  have hI3' : IsI B b (l ++ 92 :: hexI c) w3 := by
    unfold IsI
    rw [strCells_nums (hexI_bytes c)] at hI3
    simpa using hI3
  have hBw3 : B ≤ w3.heap.size := Nat.le_trans hBw2 hb3.size
  have HB3 := Lib.hid (HB2.out.trans hb3)
  clear hb3 hI3 hI2
  go_wp2_with (go_at_call 24; refine (wbyte_I B b (l ++ 92 :: hexI c) 32 _ hI3' (by simp; omega) hBw3).mono ?_)
  rintro e w4 ⟨rfl, hI4, hb4, hk4⟩
  go_wp2_with fail
  go_end0
  refine ⟨rfl, ?_, HB3.out.trans hb4, hk1.trans (hk2.trans (hk3.trans hk4))⟩
  simpa using hI4
def bytesI (s : ByteArray) : List Int := s.data.toList.map fun x => (x.toNat : Int)
theorem bytesI_ok (s : ByteArray) : BytesOK (bytesI s) := BytesOK.of fun z hz => by
  simp [bytesI] at hz
  obtain ⟨x, _, rfl⟩ := hz
  have := x.toNat_lt
  omega
theorem bytesI_length (s : ByteArray) : (bytesI s).length = s.size := by simp [bytesI]
theorem below_bytes (w : World) (e : TypeId) (s : ByteArray) : Below w.heap.size w (Lib.bytesWorld w e s) :=
  ⟨by simp [Lib.bytesWorld, World.freeze, World.alloc, World.drew, -World.alloc_eq, -World.drew_eq], by simp [Lib.bytesWorld, World.freeze, World.alloc, World.drew, -World.alloc_eq, -World.drew_eq], by simp [Lib.bytesWorld, World.freeze, World.alloc, World.drew, -World.alloc_eq, -World.drew_eq], by rw [Lib.bytesWorld_size]; omega, fun k hk => Lib.bytesWorld_at_old w e s k hk⟩
theorem sl_bytes (w : World) (e : TypeId) (s : ByteArray) : Sl (Lib.bytesWorld w e s) (w.heap.size + 1) (some ⟨w.heap.size, 0, none⟩) ((bytesI s).map (Value.int .u8)) := fun _ => by
  refine ⟨w.heap.size, 0, rfl, by omega, fun i hi => ?_⟩
  simp [bytesI] at hi
  rw [Nat.zero_add, Lib.bytesWorld_cell w e s i hi]
  simp only [bytesI, List.getElem_map, List.getD_eq_getElem?_getD, Array.getElem?_toList, Array.getElem_toList]
  rw [Array.getElem?_eq_getElem hi]
  rfl
theorem bytesI_x (s : ByteArray) : bytesI ({ data := #[120] } ++ s) = 120 :: bytesI s := by
  simp [bytesI]
theorem RetT.cut {a : Option Addr} {c n : Nat} {rb : List Int} {w w2 : World} (hsl : Sl w2 w2.heap.size a ((120 :: rb).map (Value.int .i64))) (hty : 120 :: rb ≠ [] → TyB w2 3 a) (hn : (120 :: rb).length = n) (hc : n ≤ c) (hb : Below w.heap.size w w2) :
    RetT .i64 w rb (.returned (.slice (if c = 1 then a else a.map (·.add 1)) (n - 1) (c - 1))) w2 := by
  have h1 : n = rb.length + 1 := by simp at hn; omega
  refine ⟨_, c - 1, by rw [h1]; rfl, by omega, ?_, ?_, hb⟩
  · simpa using hsl.cut (k := 1) (cap := c) (n := n) (by omega) (by simp; omega) hc
  · intro hne
    have : 0 < rb.length := List.length_pos_iff.2 hne
    rw [if_neg (by omega)]
    obtain ⟨b, off, cs, fr, rfl, h⟩ := hty (by simp)
    exact ⟨b, off + 1, cs, fr, by simp [Addr.add], h⟩
theorem all_any (w : World) (s : ByteArray) (hs : s.size ≤ 1000000) : Calls Tryd.prog 18 #[.string s] w (RetT .i64 w (rawChars (bytesI s))) := by
  have HS := Lib.hid hs
  go_enter Tryd.func18, Tryd.ntmps18
  go_wp2_with fail
  rw [Lib.run_convert_string_bytes w 9 25 5 _ Tryd.underlying9 Tryd.underlying25 Tryd.underlying5]
  have HX := Lib.hid (bytesI_x s)
  have HB := Lib.hid (below_bytes w 5 ({ data := #[120] } ++ s))
  have HL := Lib.hid (sl_bytes w 5 ({ data := #[120] } ++ s))
  have HZ := Lib.hid (Lib.bytesWorld_size w 5 ({ data := #[120] } ++ s))
  have HC := Lib.hid (show ({ data := #[120] } ++ s).size ≤ grownCap w ({ data := #[120] } ++ s).size 0 5 from grownCap_ge _ _ _ _)
  generalize hw1 : Lib.bytesWorld w 5 ({ data := #[120] } ++ s) = w1 at *
  generalize hcp : grownCap w ({ data := #[120] } ++ s).size 0 5 = cp at *
  clear hw1 hcp
  simp only [Result.andThen]
  rw [Oper.upon_value]
  have HN := Lib.hid (show 1 + s.size = (120 :: bytesI s).length by simp [bytesI_length]; omega)
  have HC2 := Lib.hid (show 1 + s.size ≤ cp by have := HC.out; rw [ByteArray.size_append] at this; exact this)
  rw [HX.out] at HL
  have HK := Lib.hid (show BytesOK (120 :: bytesI s) from BytesOK.of fun z hz => by
    rcases List.mem_cons.1 hz with rfl | hz
    · decide
    · exact (bytesI_ok s).mem hz)
  have HR := Lib.hid (chars_x (b := bytesI s))
  clear HX HC
  generalize bytesI s = bs at *
  generalize hrb : rawChars bs = rb at *
  go_wp2_with fail
  refine (chars_typed _ (w.heap.size + 1) _ _ cp (120 :: bs) (Nat.le_of_eq HZ.out.symm) HK.out HN.out HC2.out (by have := HN.out; omega) HL.out).mono ?_
  rw [HR.out]
  rintro e w2 ⟨a, c, rfl, hc, hsl, hty, hb2⟩
  have HB2 := Lib.hid (HB.out.trans (hb2.mono (by have := HZ.out; omega)))
  have HRT := Lib.hid (RetT.cut hsl hty rfl hc HB2.out)
  have hc1 : 1 ≤ c := by simp at hc; omega
  have HC3 := Lib.hid hc
  clear hb2 hsl hty
  generalize hn : (120 :: rb).length = n at *
  have HN2 := Lib.hid hn
  have hn1 : 1 ≤ n := by simp at hn; omega
  clear hn
  go_wp2_with fail
  · go_ret
    have := HRT.out
    rw [if_pos (by assumption)] at this
    simpa [*] using this
  · go_ret
    have := HRT.out
    rw [if_neg (by assumption)] at this
    simpa [Addr.add] using this
end Go.Proofs.YtpdcnjlmnilipaaDoor
