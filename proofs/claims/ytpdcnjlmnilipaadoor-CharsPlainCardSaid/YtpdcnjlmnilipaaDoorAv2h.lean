/- strconv.FormatInt at base 16, whole. Conditions: the table of math/bits lies in memory; the number is at least 0 and less than 2^32. -/
import Derived.Test.YtpdcnjlmnilipaaDoorAv2f
import Derived.Test.YtpdcnjlmnilipaaDoorTxt
set_option linter.unusedVariables false
set_option linter.unusedSimpArgs false
namespace Go.Proofs.YtpdcnjlmnilipaaDoor
open Go.RowKit
def hd (d : Nat) : Int := if d < 10 then 48 + d else 87 + d
/-- A number in base 16. -/
def hexI (n : Nat) : List Int := if n < 16 then [hd n] else hexI (n / 16) ++ [hd (n % 16)]
  termination_by n
  decreasing_by omega
theorem hexI_lo {n : Nat} (h : n < 16) : hexI n = [hd n] := by rw [hexI, if_pos h]
theorem hexI_hi {n : Nat} (h : ¬ n < 16) : hexI n = hexI (n / 16) ++ [hd (n % 16)] := by rw [hexI, if_neg h]
theorem and15 (m : Nat) (h : m < 18446744073709551616) : bits .and .u64 (m : Int) 15 = ((m % 16 : Nat) : Int) := by
  have := u64_and_nat m 15 h (by decide)
  rw [show ((15 : Nat) : Int) = 15 from rfl] at this
  rw [this]
  congr 1
  exact Nat.and_two_pow_sub_one_eq_mod m 4
structure HexRel (w : World) (n m j : Nat) (wr : World) : Prop where
  size : ∃ cs : Array Value, cs.size = 65 ∧ Bk wr w.heap.size 82 cs ∧ ∃ low : List Int, cs.toList.drop (j + 1) = low.map (Value.int .u8) ∧ hexI m ++ low = hexI n
  below : Below w.heap.size w wr
  le : j ≤ 64
  few : m < 16 ^ j
  top : m < 4294967296
theorem HexRel.next {w wr : World} {n m j : Nat} (h : HexRel w n m (j + 1) wr) (hm : ¬ m < 16) : HexRel w n (m / 16) j (wr.setCell ⟨w.heap.size, j + 1, none⟩ (.int .u8 (hd (m % 16)))) := by
  obtain ⟨cs, h1, h2, low, h3, h4⟩ := h.size
  have hle := h.le
  refine ⟨⟨cs.setIfInBounds (j + 1) (.int .u8 (hd (m % 16))), by simpa using h1, h2.put _ _, hd (m % 16) :: low, ?_, ?_⟩, h.below.setCell (Nat.le_refl _) _, by omega, ?_, ?_⟩
  · rw [Array.toList_setIfInBounds]
    have hl : cs.toList.length = 65 := by simpa using h1
    rw [List.drop_eq_getElem_cons (by rw [List.length_set]; omega), List.getElem_set_self]
    rw [List.drop_set_of_lt (by omega), h3]
    rfl
  · rw [← h4, hexI_hi hm, List.append_assoc]
    rfl
  · have := h.few
    rw [Nat.pow_succ] at this
    omega
  · have := h.top
    omega
theorem Bk.old_cell {w : World} {o : Obj} (h : TabT w) (h0 : (0 : Nat) = 0) : TabT (w.alloc o) := by
  unfold TabT at *
  rw [← h]
  unfold World.cell?
  have hlt : 3 < w.heap.size := by
    apply Classical.byContradiction
    intro hn
    unfold World.cell? at h
    rw [Array.getElem?_eq_none (by simpa using hn)] at h
    cases h
  rw [Below.heap_alloc w o 3 hlt]
theorem HexRel.at {w wr : World} {n m j : Nat} (h : HexRel w n m j wr) : wr.frozen? ⟨w.heap.size, j, none⟩ = false ∧ ∃ v, wr.cell? ⟨w.heap.size, j, none⟩ = some v := by
  obtain ⟨cs, h1, h2, low, h3, h4⟩ := h.size
  have hle := h.le
  exact ⟨h2.free _, cs[j], by rw [h2.cell, Array.getElem?_eq_getElem (by omega)]⟩
theorem slice65 (w : World) (b j : Nat) (h : j ≤ 64) : (Instr.sliceAt 82 (.pointer (some ⟨b, 0, none⟩)) (some (.int .i64 (j : Int))) none none).run Tryd.prog w = .ok (.slice (some ⟨b, j, none⟩) (65 - j) (65 - j)) w := by
  have h7 : Tryd.prog.arrayLen 82 = 65 := by kernel_rfl
  have ht : Tryd.prog.underlying 82 = some (.array (Tryd.prog.arrayLen 82) (Tryd.prog.elem 82)) := by kernel_rfl
  rw [run_sliceAt_array_l w 82 ⟨b, 0, none⟩ ht .i64 (j : Int) (by omega) (by rw [h7]; omega)]
  rw [h7]
  have hs : (sizeOf (Tryd.prog.elem 82)).run Tryd.prog w = .ok 1 w := by kernel_rfl
  rw [hs]
  simp [Result.andThen, slicedAt, Addr.add]
  by_cases h0 : 65 = j
  · omega
  · simp [h0]
    omega
theorem digs (k : Nat) (h : k < 16) (h2 : k < ByteArray.size ⟨#[48, 49, 50, 51, 52, 53, 54, 55, 56, 57, 97, 98, 99, 100, 101, 102, 103, 104, 105, 106, 107, 108, 109, 110, 111, 112, 113, 114, 115, 116, 117, 118, 119, 120, 121, 122]⟩) :
    (((⟨#[48, 49, 50, 51, 52, 53, 54, 55, 56, 57, 97, 98, 99, 100, 101, 102, 103, 104, 105, 106, 107, 108, 109, 110, 111, 112, 113, 114, 115, 116, 117, 118, 119, 120, 121, 122]⟩ : ByteArray)[k]'h2).toNat : Int) = hd k := by
  have hk : k = 0 ∨ k = 1 ∨ k = 2 ∨ k = 3 ∨ k = 4 ∨ k = 5 ∨ k = 6 ∨ k = 7 ∨ k = 8 ∨ k = 9 ∨ k = 10 ∨ k = 11 ∨ k = 12 ∨ k = 13 ∨ k = 14 ∨ k = 15 := by omega
  rcases hk with rfl | rfl | rfl | rfl | rfl | rfl | rfl | rfl | rfl | rfl | rfl | rfl | rfl | rfl | rfl | rfl <;> rfl
theorem HexRel.fin {w wr : World} {n m j : Nat} (h : HexRel w n m j wr) (hm : m < 16) :
    Sl (wr.setCell ⟨w.heap.size, j, none⟩ (.int .u8 (hd m))) (w.heap.size + 1) (some ⟨w.heap.size, j, none⟩) ((hexI n).map (Value.int .u8)) ∧ (hexI n).length = 65 - j := by
  obtain ⟨cs, h1, h2, low, h3, h4⟩ := h.size
  have hle := h.le
  rw [hexI_lo hm] at h4
  have hl : cs.toList.length = 65 := by simpa using h1
  have hd' : (cs.setIfInBounds j (.int .u8 (hd m))).toList.drop j = (hexI n).map (Value.int .u8) := by
    rw [Array.toList_setIfInBounds, List.drop_eq_getElem_cons (by rw [List.length_set]; omega), List.getElem_set_self, List.drop_set_of_lt (by omega), h3, ← h4]
    rfl
  refine ⟨fun _ => ?_, ?_⟩
  · refine ⟨w.heap.size, j, rfl, by omega, fun i hi => ?_⟩
    rw [(h2.put j _).cell]
    have : (cs.setIfInBounds j (.int .u8 (hd m)))[j + i]? = ((cs.setIfInBounds j (.int .u8 (hd m))).toList.drop j)[i]? := by
      rw [List.getElem?_drop, Array.getElem?_toList]
    rw [this, hd', List.getElem?_eq_getElem hi]
  · have := congrArg List.length hd'
    rw [List.length_map, List.length_drop] at this
    rw [← this]
    simp [h1]
set_option maxHeartbeats 4000000 in
set_option maxRecDepth 100000 in
theorem fbits_any (w : World) (n : Nat) (hn : n < 4294967296) (hT : TabT w) : Calls Tryd.prog 61 #[.slice none 0 0, .int .u64 n, .int .i64 16, .bool false, .bool false] w
    fun e w' => ∃ v, e = .returned (.tuple #[v, .string (strOfNums (hexI n))]) ∧ Below w.heap.size w w' := by
  have HT := Lib.hid hT
  clear hT
  go_enter Tryd.func61, Tryd.ntmps61
  go_wp2_with (first
    | (go_at_call 67; refine (pow_any _).mono ?_; rintro e w1 ⟨rfl, rfl⟩)
    | (go_at_call 68; refine (trail_any _ ?_).mono ?_; rotate_left; rintro e w1 ⟨rfl, rfl⟩))
  rotate_left
  · exact (Bk.old_cell HT.out (by rfl))
  have HR : HexRel w n n 64 (w.alloc (.cells Tryd.zeroCells82 82)) :=
    ⟨⟨Tryd.zeroCells82, by kernel_rfl, Bk.new _ _ _, [], by rw [List.map_nil]; exact List.drop_eq_nil_of_le (Nat.le_of_eq (by kernel_rfl)), by simp⟩, (Below.refl _ _).alloc (Nat.le_refl _) _, Nat.le_refl _, by omega, hn⟩
  go_loopw [1, 13] (fun u i wr => ∃ m j : Nat, u = .int .u64 m ∧ i = .int .i64 ((j : Int) + 1) ∧ HexRel w n m j wr) (fun u _ _ => (intOf u).toNat)
  case atStart => exact ⟨n, 64, rfl, by go_num, HR⟩
  case round =>
    clear HR
    obtain ⟨m, j, rfl, rfl, HR⟩ := hrel
    obtain ⟨hf, v, hc⟩ := HR.at
    have hle := HR.le
    have hj := Go.IntWalk.wrap64_in (j : Int) (by omega)
    have hj1 := Go.IntWalk.wrap64_in ((j : Int) + 1) (by omega)
    by_cases hm : m < 16
    · have h1 : decide ((m : Int) ≥ 16) = false := decide_eq_false (by omega)
      have h4 : (m : Int) < 36 := by omega
      have h5 : (j : Int) < 65 := by omega
      have h7 : Tryd.prog.arrayLen 82 = 65 := by kernel_rfl
      have h6 : (j : Int) ≤ ((Tryd.prog.arrayLen 82 : Nat) : Int) := by rw [h7]; omega
      go_wp2
      simp only [slice65 _ _ _ hle, Result.andThen, digs m hm]
      obtain ⟨k1, k2⟩ := HR.fin hm
      have k3 := conv_sl (P := Tryd.prog) (src := 25) (dst := 9) (e := 5) (c := 65 - j) (by kernel_rfl) (by kernel_rfl) (by kernel_rfl) k1
      rw [k2] at k3
      go_wp2
      go_ret2
      exact ⟨_, rfl, HR.below.setCell (Nat.le_refl _) _⟩
    · have h1 : decide ((m : Int) ≥ 16) = true := decide_eq_true (by omega)
      obtain ⟨j, rfl⟩ : ∃ k, j = k + 1 := by
        have := HR.few
        rcases j with _ | k
        · omega
        · exact ⟨k, rfl⟩
      have h2 := and15 m (by have := HR.top; omega)
      have h3 : m % 16 < 16 := Nat.mod_lt _ (by decide)
      go_wp2
      rw [digs (m % 16) h3]
      refine ⟨⟨m / 16, j, by go_num, rfl, HR.next hm⟩, ?_⟩
      show ((m : Int) / 16).toNat < ((m : Int)).toNat
      omega
set_option maxRecDepth 100000 in
theorem fint_any (w : World) (n : Nat) (hn : n < 4294967296) (hT : TabT w) : Calls Tryd.prog 49 #[.int .i64 n, .int .i64 16] w (RetV w (.string (strOfNums (hexI n)))) := by
  have h1 : decide ((n : Int) < 0) = false := decide_eq_false (by omega)
  have HT := Lib.hid hT
  clear hT
  go_enter Tryd.func49, Tryd.ntmps49
  go_wp2_with (first
    | (go_at_call 61; refine (fbits_any _ n hn HT.out).mono ?_; rintro e w1 ⟨v, rfl, k1⟩))
  go_ret
  exact ⟨rfl, k1⟩
theorem format_any (w : World) (n : Nat) (hn : n < 4294967296) (hT : TabT w) : Calls Tryd.prog 40 #[.int .i64 n, .int .i64 16] w (RetV w (.string (strOfNums (hexI n)))) := by
  have HT := Lib.hid hT
  clear hT
  go_enter Tryd.func40, Tryd.ntmps40
  go_wp2_with (first
    | (go_at_call 49; refine (fint_any _ n hn HT.out).mono ?_; rintro e w1 ⟨rfl, k1⟩))
  go_ret
  exact ⟨rfl, k1⟩
end Go.Proofs.YtpdcnjlmnilipaaDoor
