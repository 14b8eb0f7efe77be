/- The walk of decode's Chars. Conditions: the slice reads as bytes. -/
import Derived.Test.YtaihimaopedicaaDoorFi
import Derived.Test.YtaihimaopedicaaDoorChecked
import Derived.Test.YtaihimaopedicaaDoorOwn
namespace Go.Proofs.YtaihimaopedicaaDoor
open Go.RowKit

theorem Tryd.eiInts : EI Tryd.prog 32 3 1 8 := EI.mk (z := .int .i64 0) (by kernel_rfl) (by kernel_rfl) rfl (by decide)
theorem Tryd.eiBytes : EI Tryd.prog 34 5 1 1 := EI.mk (z := .int .u8 0) (by kernel_rfl) (by kernel_rfl) rfl (by decide)

theorem BytesOK.drop {zs : List Int} (h : BytesOK zs) (k : Nat) : BytesOK (zs.drop k) := fun i hi => by
  simp at hi
  have := h (k + i) (by omega)
  simpa [List.getD_eq_getElem?_getD] using this

/-- What the loop of Chars knows at its head. -/
structure CharsRel (w : World) (B : Nat) (zs rs : List Int) (n : Nat) (a : Option Addr) (c : Nat) (v : Value) (done : List Int) (wr : World) : Prop where
  len : n = rs.length
  cap : n ≤ c
  size : rs.length + done.length ≤ zs.length
  ok : BytesOK rs
  sl : Sl wr B a (rs.map (Value.int .u8))
  own : OwnL wr w.heap.size 3 .i64 v done
  below : Below w.heap.size w wr
  eq : done ++ rawChars rs = rawChars zs

theorem CharsRel.next {w wr w2 w3 : World} {B : Nat} {zs rs done : List Int} {a : Option Addr} {c y : Nat} {v v3 : Value} {x : Int} (h : CharsRel w B zs rs rs.length a c v done wr) (hb2 : Below wr.heap.size wr w2)
    (hB : B ≤ w.heap.size) (he : rawChars rs = x :: rawChars (rs.drop y)) (h1 : 1 ≤ y) (h2 : y ≤ rs.length) (hc : rs.length ≤ c)
    (hs : Sl w2 B a (rs.map (Value.int .u8))) (ho : OwnL w3 w.heap.size 3 .i64 v3 (done ++ [x])) (hb3 : Below w.heap.size w2 w3) :
    CharsRel w B zs (rs.drop y) (rs.length - y) (if c = y then a else Option.map (fun x => x.add y) a) (c - y) v3 (done ++ [x]) w3 := by
  have hs3 := hs.below (hb3.mono hB)
  have hcut := hs3.cut (k := y) (cap := c) (n := rs.length) h2 (by simp) hc
  refine ⟨by simp, by omega, ?_, h.ok.drop y, by simpa using hcut, ho, ?_, ?_⟩
  · have := h.size
    simp
    omega
  · exact h.below.trans ((hb2.mono h.below.size).trans hb3)
  · rw [← h.eq, he]
    simp
theorem dropMark_cons_ne {d : Int} {ds : List Int} (h : (d == 65279) = false) : dropMark (d :: ds) = d :: ds := by
  simp at h
  simp [dropMark, h]
theorem dropMark_cons_eq {d : Int} {ds : List Int} (h : (d == 65279) = true) : dropMark (d :: ds) = ds := by
  simp at h
  simp [dropMark, h]

theorem RetL.tail1 {k : IntKind} {w w' : World} {d : Int} {ds l : List Int} {m : Nat} {A : Option Addr} (hm : (d :: ds).length = m) (hl : l = ds) (h1 : m ≤ 1) (hb : Below w.heap.size w w') :
    RetL k w l (.returned (.slice A (m - 1) 0)) w' := by
  subst hm hl
  have : l = [] := List.length_eq_zero_iff.1 (by simp only [List.length_cons] at h1; omega)
  subst this
  exact ⟨A, 0, rfl, by simp, Sl.nil, hb⟩
theorem RetL.tail2 {k : IntKind} {w w' : World} {d : Int} {ds l : List Int} {m c b off base : Nat} {t : TypeId} (hm : (d :: ds).length = m) (hl : l = ds)
    (ho : OwnL w' base t k (.slice (some ⟨b, off, none⟩) m c) (d :: ds)) (hb : Below w.heap.size w w') :
    RetL k w l (.returned (.slice (some ⟨b, off + 1, none⟩) (m - 1) (c - 1))) w' := by
  subst hm hl
  have hc := ho.len.2
  refine ⟨some ⟨b, off + 1, none⟩, c - 1, by simp, by simp at hc; omega, fun hne => ?_, hb⟩
  obtain ⟨b', off', h1, h2, h3⟩ := ho.sl.int (i := 0) (by simp)
  injection h1 with h1
  injection h1 with h4 h5
  subst h4 h5
  refine ⟨b, off + 1, rfl, h2, fun i hi => ?_⟩
  simp at hi
  have := h3 (i + 1) (by simp; omega)
  rw [Nat.add_assoc, Nat.add_comm 1 i, this]
  simp [hi]

set_option maxHeartbeats 1000000 in
theorem chars_any (w : World) (B : Nat) (a : Option Addr) (n c : Nat) (zs : List Int) (hB : B ≤ w.heap.size) (hz : BytesOK zs) (hn : n = zs.length) (hc : n ≤ c) (hm : zs.length ≤ 1099511627776)
    (hs : Sl w B a (zs.map (Value.int .u8))) : Calls Tryd.prog 11 #[.slice a n c] w (RetL .i64 w (chars zs)) := by
  subst hn
  go_enter Tryd.func11, Tryd.ntmps11
  go_wp2_with (at_make; refine makeL_own w rfl _ _ 32 rfl Tryd.eiInts (by decide) .i64 .i64 .i64 zs.length rfl rfl hm ?_; intro v w1 ho1 hg1 hb1)
  have HR : CharsRel w B zs zs zs.length a c v [] w1 := ⟨rfl, hc, by simp, hz, hs.below (hb1.mono hB), ho1, hb1, rfl⟩
  clear ho1 hg1 hb1
  go_loopw [0, 3, 4, 5] (fun b v _ _ wr => ∃ rs n a c done, b = .slice a n c ∧ CharsRel w B zs rs n a c v done wr) (fun b _ _ _ _ => lenV b)
  case atStart => exact ⟨zs, zs.length, a, c, [], rfl, HR⟩
  case round =>
    clear HR
    obtain ⟨rs, n, a, c, done, rfl, hr⟩ := hrel
    have hl := hr.len
    have hcp := hr.cap
    by_cases h0 : n = 0
    · subst h0
      have HQ : Hid (done = rawChars zs) := by
        have h1 := hr.eq
        rw [List.length_eq_zero_iff.1 hl.symm, rawChars_nil, List.append_nil] at h1
        exact h1
      have HO := hr.own
      have HB := Lib.hid hr.below
      clear hr hl
      obtain ⟨a3, c3, rfl, hc3, hs3⟩ := HO.form
      cases done with
      | nil =>
        simp only [List.length_nil] at hc3
        go_wp2_with fail
        go_ret
        exact RetL.of rfl (by rw [chars, ← HQ.out]; exact HO) HB.out
      | cons d ds =>
        have hd0 : 0 < (d :: ds).length := by simp
        obtain ⟨b3, off3, rfl, hb3, hcell⟩ := hs3.int hd0
        have hc0 := hcell 0 hd0
        simp only [Nat.add_zero, List.getD_cons_zero] at hc0
        clear hcell hs3
        generalize hds : (d :: ds).length = m at *
        have HM := Lib.hid hds
        clear hds
        by_cases hdm : d = 65279
        · have hdm' : (d == 65279) = true := by simp [hdm]
          clear hdm
          have h1m : 1 ≤ m := hd0
          go_wp2_with fail
          · go_ret
            exact RetL.tail1 HM.out (by rw [chars, ← HQ.out, dropMark_cons_eq hdm']) (by omega) HB.out
          · go_ret
            exact RetL.tail2 HM.out (by rw [chars, ← HQ.out, dropMark_cons_eq hdm']) HO HB.out
        · have hdm' : (d == 65279) = false := by simp [hdm]
          clear hdm
          go_wp2_with fail
          go_ret
          exact RetL.of rfl (by rw [chars, ← HQ.out, dropMark_cons_ne hdm']; exact HO) HB.out
    · subst hl
      have hpos : 0 < rs.length := by omega
      clear h0
      have hle : rs.length ≤ zs.length := by have := hr.size; omega
      have HR := Lib.hid hr
      have HS := hr.sl
      have HO := hr.own
      have hok := hr.ok
      have hsz := hr.size
      have hb := hr.below
      have hwB : B ≤ wr.heap.size := Nat.le_trans hB hb.size
      have hwb : w.heap.size ≤ wr.heap.size := hb.size
      clear hr hb
      go_wp2_with fail
      refine (first_any _ B _ _ _ rs hwB hok rfl hpos (by unfold maxLen; omega) HS).mono ?_
      rintro e w2 ⟨rfl, hb2⟩
      have hfs := firstOf_size' hpos
      have HE := Lib.hid (rawChars_of hpos)
      generalize hf1 : (firstOf rs).1 = x at *
      generalize hf2 : (firstOf rs).2 = y at *
      clear hf1 hf2
      obtain ⟨y1, y2⟩ := hfs
      have HO2 := HO.below hb2
      have HS2 := HS.below (hb2.mono hwB)
      have hw2 : w.heap.size ≤ w2.heap.size := Nat.le_trans hwb hb2.size
      clear HO HS hwb hok
      go_wp2_with (at_builtin; refine appL_one _ rfl (.tmp 17) (.tmp 19) 32 rfl Tryd.eiInts (by decide) w.heap.size .i64 _ done _ rfl HO2 rfl (by omega) hw2 ?_; intro v3 w3 ho3 hg3 hb3)
      have HN := CharsRel.next HR.out hb2 hB HE.out y1 y2 hcp HS2 ho3 hb3
      clear HR HE HO2 HS2 ho3 hg3 hb3 hb2
      refine ⟨⟨_, _, _, _, _, rfl, HN⟩, ?_⟩
      simp only [lenV]
      omega
end Go.Proofs.YtaihimaopedicaaDoor
