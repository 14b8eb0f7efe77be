/- Plain parts of Rd, Rn, Fi, Ch: for a seat without the decoder. Written by stubch.py. -/
import Derived.Test.YtcogfddcdpgpkaaGreatDoorChecked
import Derived.Test.YtcogfddcdpgpkaaGreatDoorDec
import Derived.Test.YtcogfddcdpgpkaaGreatDoorMem
import Derived.Test.YtcogfddcdpgpkaaGreatDoorOwn
/- The walks of decode's reader: begin, next, first. Conditions: the reader's block is known whole. -/
namespace Go.Proofs.YtcogfddcdpgpkaaGreatDoor
open Go.RowKit

def rd (ch need lo up : Int) : Array Value := #[.int .i64 ch, .int .i64 need, .int .u8 lo, .int .u8 up]

theorem Bk.cast {w : World} {g : Nat} {t : TypeId} {cs cs' : Array Value} (h : Bk w g t cs) (e : cs = cs') : Bk w g t cs' := e ▸ h
theorem Bk.put4 {w : World} {g : Nat} {t : TypeId} {cs cs' : Array Value} {i j k l : Nat} {a b c d : Value} (h : Bk w g t cs) (e : (((cs.setIfInBounds i a).setIfInBounds j b).setIfInBounds k c).setIfInBounds l d = cs') :
    Bk ((((w.setCell ⟨g, i, none⟩ a).setCell ⟨g, j, none⟩ b).setCell ⟨g, k, none⟩ c).setCell ⟨g, l, none⟩ d) g t cs' := e ▸ ((((h.put i a).put j b).put k c).put l d)
theorem Bk.put5 {w : World} {g : Nat} {t : TypeId} {cs cs' : Array Value} {i j k l m : Nat} {a b c d f : Value} (h : Bk w g t cs) (e : ((((cs.setIfInBounds i a).setIfInBounds j b).setIfInBounds k c).setIfInBounds l d).setIfInBounds m f = cs') :
    Bk (((((w.setCell ⟨g, i, none⟩ a).setCell ⟨g, j, none⟩ b).setCell ⟨g, k, none⟩ c).setCell ⟨g, l, none⟩ d).setCell ⟨g, m, none⟩ f) g t cs' := e ▸ (((((h.put i a).put j b).put k c).put l d).put m f)
theorem beg_cases (c : Int) (h0 : 0 ≤ c) (h1 : c < 256) :
    (c < 128 ∧ beg c = some (c, 0, 128, 191)) ∨ (194 ≤ c ∧ c ≤ 223 ∧ beg c = some (c % 32, 1, 128, 191)) ∨ (c = 224 ∧ beg c = some (0, 2, 160, 191)) ∨ (c = 237 ∧ beg c = some (13, 2, 128, 159)) ∨
    (225 ≤ c ∧ c < 237 ∧ beg c = some (c % 16, 2, 128, 191)) ∨ (238 ≤ c ∧ c ≤ 239 ∧ beg c = some (c % 16, 2, 128, 191)) ∨ (c = 240 ∧ beg c = some (0, 3, 144, 191)) ∨ (c = 244 ∧ beg c = some (4, 3, 128, 143)) ∨
    (241 ≤ c ∧ c < 244 ∧ beg c = some (c % 8, 3, 128, 191)) ∨ ((128 ≤ c ∧ c < 194) ∧ beg c = none) ∨ (245 ≤ c ∧ beg c = none) := by
  rcases (by omega : c < 128 ∨ (128 ≤ c ∧ c < 194) ∨ (194 ≤ c ∧ c ≤ 223) ∨ c = 224 ∨ (225 ≤ c ∧ c < 237) ∨ c = 237 ∨ (238 ≤ c ∧ c ≤ 239) ∨ c = 240 ∨ (241 ≤ c ∧ c < 244) ∨ c = 244 ∨ 245 ≤ c) with h | h | h | h | h | h | h | h | h | h | h
  · exact .inl ⟨h, by unfold beg; rw [if_pos h]⟩
  · exact .inr (.inr (.inr (.inr (.inr (.inr (.inr (.inr (.inr (.inl ⟨h, by unfold beg; rw [if_neg (by omega), if_neg (by omega), if_neg (by omega), if_neg (by omega), if_neg (by omega), if_neg (by omega), if_neg (by omega), if_neg (by omega)]⟩)))))))))
  · exact .inr (.inl ⟨h.1, h.2, by unfold beg; rw [if_neg (by omega), if_pos h]⟩)
  · exact .inr (.inr (.inl ⟨h, by unfold beg; rw [if_neg (by omega), if_neg (by omega), if_pos h]⟩))
  · exact .inr (.inr (.inr (.inr (.inl ⟨h.1, h.2, by unfold beg; rw [if_neg (by omega), if_neg (by omega), if_neg (by omega), if_neg (by omega), if_pos (by omega)]⟩))))
  · exact .inr (.inr (.inr (.inl ⟨h, by unfold beg; rw [if_neg (by omega), if_neg (by omega), if_neg (by omega), if_pos h]⟩)))
  · exact .inr (.inr (.inr (.inr (.inr (.inl ⟨h.1, h.2, by unfold beg; rw [if_neg (by omega), if_neg (by omega), if_neg (by omega), if_neg (by omega), if_pos (by omega)]⟩)))))
  · exact .inr (.inr (.inr (.inr (.inr (.inr (.inl ⟨h, by unfold beg; rw [if_neg (by omega), if_neg (by omega), if_neg (by omega), if_neg (by omega), if_neg (by omega), if_pos h]⟩))))))
  · exact .inr (.inr (.inr (.inr (.inr (.inr (.inr (.inr (.inl ⟨h.1, h.2, by unfold beg; rw [if_neg (by omega), if_neg (by omega), if_neg (by omega), if_neg (by omega), if_neg (by omega), if_neg (by omega), if_neg (by omega), if_pos (by omega)]⟩))))))))
  · exact .inr (.inr (.inr (.inr (.inr (.inr (.inr (.inl ⟨h, by unfold beg; rw [if_neg (by omega), if_neg (by omega), if_neg (by omega), if_neg (by omega), if_neg (by omega), if_neg (by omega), if_pos h]⟩)))))))
  · exact .inr (.inr (.inr (.inr (.inr (.inr (.inr (.inr (.inr (.inr ⟨h, by unfold beg; rw [if_neg (by omega), if_neg (by omega), if_neg (by omega), if_neg (by omega), if_neg (by omega), if_neg (by omega), if_neg (by omega), if_neg (by omega)]⟩)))))))))

end Go.Proofs.YtcogfddcdpgpkaaGreatDoor
/- The walk of decode's reader: next. Conditions: the reader's block is known whole. -/
namespace Go.Proofs.YtcogfddcdpgpkaaGreatDoor
open Go.RowKit

theorem wraps_i64 (n : Int) (h₀ : 0 ≤ n) (h₁ : n < 2 ^ 63) : IntKind.i64.wrap n = n := by rw [IntKind.wrap_i64]; omega
theorem i64_or6 (x y : Int) (hx₀ : 0 ≤ x) (hx : x % 64 = 0) (hx₁ : x < 9223372036854775808) (h₀ : 0 ≤ y) (h₁ : y < 64) : bits .or .i64 x y = x + y :=
  bits_join .i64 63 (by decide) wraps_i64 6 x y hx₀ hx hx₁ h₀ h₁ (by omega)

end Go.Proofs.YtcogfddcdpgpkaaGreatDoor
/- The walk of decode's first. Conditions: the slice reads as bytes, and has one. -/
namespace Go.Proofs.YtcogfddcdpgpkaaGreatDoor
open Go.RowKit

def BytesOK (zs : List Int) : Prop := ∀ i, i < zs.length → 0 ≤ zs.getD i 0 ∧ zs.getD i 0 < 256

def chOK (need : Nat) (ch : Int) : Prop := 0 ≤ ch ∧ ((need = 3 ∧ ch < 128) ∨ (need = 2 ∧ ch < 8192) ∨ (need = 1 ∧ ch < 524288) ∨ (need = 0 ∧ ch < 33554432))
theorem chOK.start {c ch lo up : Int} {need : Nat} (h0 : 0 ≤ c) (h : beg c = some (ch, need, lo, up)) : chOK need ch := by
  have := beg_bounds h0 h
  unfold chOK
  omega
theorem chOK.next {need : Nat} {ch c : Int} (h : chOK (need + 1) ch) : chOK need (ch * 64 + c % 64) := by
  unfold chOK at *
  omega
theorem chOK.bd {need : Nat} {ch : Int} (h : chOK (need + 1) ch) : 0 ≤ ch ∧ ch ≤ 1000000 ∧ need < 3 := by
  unfold chOK at h
  omega

def FirstPost (w : World) (zs : List Int) (e : Ending) (w' : World) : Prop :=
  e = .returned (.tuple #[.int .i64 (firstOf zs).1, .int .i64 ((firstOf zs).2 : Nat)]) ∧ Below w.heap.size w w'
theorem FirstPost.mk' {w w' : World} {zs : List Int} {x : Int} {k : Nat} {e : Ending} (h : firstOf zs = (x, k)) (he : e = .returned (.tuple #[.int .i64 x, .int .i64 (k : Nat)])) (hb : Below w.heap.size w w') : FirstPost w zs e w' :=
  ⟨by rw [h]; exact he, hb⟩

theorem goOn_end {n : Nat} {ch lo up : Int} {zs : List Int} {s k : Nat} (hs : zs.length ≤ s) : goOn (n + 1) ch lo up (zs.drop s) k = (65533, k) := by
  rw [List.drop_eq_nil_of_le hs]; rfl
theorem goOn_cons {n : Nat} {ch lo up : Int} {zs : List Int} {s k : Nat} (hs : s < zs.length) :
    goOn (n + 1) ch lo up (zs.drop s) k = if zs.getD s 0 < lo ∨ up < zs.getD s 0 then (65533, k) else goOn n (ch * 64 + zs.getD s 0 % 64) 128 191 (zs.drop (s + 1)) (k + 1) := by
  rw [List.drop_eq_getElem_cons hs]
  simp [goOn, hs]

theorem firstOf_none {zs : List Int} {z : Int} (h0 : 0 < zs.length) (hz : zs.getD 0 0 = z) (h : beg z = none) : firstOf zs = (65533, 1) := by
  cases zs with
  | nil => simp at h0
  | cons y r =>
    simp at hz
    subst hz
    simp [firstOf, h]
theorem firstOf_some {zs : List Int} {z ch lo up : Int} {need : Nat} (h0 : 0 < zs.length) (hz : zs.getD 0 0 = z) (h : beg z = some (ch, need, lo, up)) : firstOf zs = goOn need ch lo up (zs.drop 1) 1 := by
  cases zs with
  | nil => simp at h0
  | cons y r =>
    simp at hz
    subst hz
    simp [firstOf, h]
end Go.Proofs.YtcogfddcdpgpkaaGreatDoor
/- The walk of decode's Chars. Conditions: the slice reads as bytes. -/
namespace Go.Proofs.YtcogfddcdpgpkaaGreatDoor
open Go.RowKit

theorem Tryz.eiInts : EI Tryz.prog 81 3 1 8 := EI.mk (z := .int .i64 0) (by kernel_rfl) (by kernel_rfl) rfl (by decide)
theorem Tryz.eiBytes : EI Tryz.prog 74 5 1 1 := EI.mk (z := .int .u8 0) (by kernel_rfl) (by kernel_rfl) rfl (by decide)

theorem BytesOK.drop {zs : List Int} (h : BytesOK zs) (k : Nat) : BytesOK (zs.drop k) := fun i hi => by
  simp at hi
  have := h (k + i) (by omega)
  simpa [List.getD_eq_getElem?_getD] using this

/-- What the loop of Chars knows at its head. -/
structure CharsRel (w : World) (B : Nat) (zs rs : List Int) (n : Nat) (a : Option Addr) (c : Nat) (v : Value) (done : List Int) (wr : World) : Prop where
  len : n = rs.length
  cap : n ≤ c
  size : rs.length + done.length ≤ zs.length
  ok : BytesOK rs
  sl : Sl wr B a (rs.map (Value.int .u8))
  own : OwnL wr w.heap.size 3 .i64 v done
  below : Below w.heap.size w wr
  eq : done ++ rawChars rs = rawChars zs

theorem CharsRel.next {w wr w2 w3 : World} {B : Nat} {zs rs done : List Int} {a : Option Addr} {c y : Nat} {v v3 : Value} {x : Int} (h : CharsRel w B zs rs rs.length a c v done wr) (hb2 : Below wr.heap.size wr w2)
    (hB : B ≤ w.heap.size) (he : rawChars rs = x :: rawChars (rs.drop y)) (h1 : 1 ≤ y) (h2 : y ≤ rs.length) (hc : rs.length ≤ c)
    (hs : Sl w2 B a (rs.map (Value.int .u8))) (ho : OwnL w3 w.heap.size 3 .i64 v3 (done ++ [x])) (hb3 : Below w.heap.size w2 w3) :
    CharsRel w B zs (rs.drop y) (rs.length - y) (if c = y then a else Option.map (fun x => x.add y) a) (c - y) v3 (done ++ [x]) w3 := by
  have hs3 := hs.below (hb3.mono hB)
  have hcut := hs3.cut (k := y) (cap := c) (n := rs.length) h2 (by simp) hc
  refine ⟨by simp, by omega, ?_, h.ok.drop y, by simpa using hcut, ho, ?_, ?_⟩
  · have := h.size
    simp
    omega
  · exact h.below.trans ((hb2.mono h.below.size).trans hb3)
  · rw [← h.eq, he]
    simp
theorem dropMark_cons_ne {d : Int} {ds : List Int} (h : (d == 65279) = false) : dropMark (d :: ds) = d :: ds := by
  simp at h
  simp [dropMark, h]
theorem dropMark_cons_eq {d : Int} {ds : List Int} (h : (d == 65279) = true) : dropMark (d :: ds) = ds := by
  simp at h
  simp [dropMark, h]

theorem RetL.tail1 {k : IntKind} {w w' : World} {d : Int} {ds l : List Int} {m : Nat} {A : Option Addr} (hm : (d :: ds).length = m) (hl : l = ds) (h1 : m ≤ 1) (hb : Below w.heap.size w w') :
    RetL k w l (.returned (.slice A (m - 1) 0)) w' := by
  subst hm hl
  have : l = [] := List.length_eq_zero_iff.1 (by simp only [List.length_cons] at h1; omega)
  subst this
  exact ⟨A, 0, rfl, by simp, Sl.nil, hb⟩
theorem RetL.tail2 {k : IntKind} {w w' : World} {d : Int} {ds l : List Int} {m c b off base : Nat} {t : TypeId} (hm : (d :: ds).length = m) (hl : l = ds)
    (ho : OwnL w' base t k (.slice (some ⟨b, off, none⟩) m c) (d :: ds)) (hb : Below w.heap.size w w') :
    RetL k w l (.returned (.slice (some ⟨b, off + 1, none⟩) (m - 1) (c - 1))) w' := by
  subst hm hl
  have hc := ho.len.2
  refine ⟨some ⟨b, off + 1, none⟩, c - 1, by simp, by simp at hc; omega, fun hne => ?_, hb⟩
  obtain ⟨b', off', h1, h2, h3⟩ := ho.sl.int (i := 0) (by simp)
  injection h1 with h1
  injection h1 with h4 h5
  subst h4 h5
  refine ⟨b, off + 1, rfl, h2, fun i hi => ?_⟩
  simp at hi
  have := h3 (i + 1) (by simp; omega)
  rw [Nat.add_assoc, Nat.add_comm 1 i, this]
  simp [hi]

end Go.Proofs.YtcogfddcdpgpkaaGreatDoor
