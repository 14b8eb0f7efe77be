/- Plain laws of chapter 2: what is written has no control in it; a plain name is written as it is. No program in sight. -/
import Derived.Test.YtpdcnjlmnilipaaDoorAv2w
set_option linter.unusedSimpArgs false
set_option linter.unusedVariables false
namespace Go.Av
open Go.Proofs Go.Proofs.YtpdcnjlmnilipaaDoor
def okT (t : List UInt8) : Prop := ∀ x ∈ t, 32 ≤ x.toNat ∧ x.toNat ≠ 127
def okI (l : List Int) : Prop := ∀ z ∈ l, 32 ≤ z ∧ z < 256 ∧ z ≠ 127
theorem okT_nb {l : List Int} (h : okI l) : okT (nb l) := fun x hx => by
  obtain ⟨z, hz, rfl⟩ := List.mem_map.1 hx
  have := h z hz
  rw [UInt8.toNat_ofNat']
  omega
theorem put_ok {c : Int} (h : rightC c = true) (h1 : 32 ≤ c) (h2 : c ≠ 127) : okI (rPut c) := by
  have := rightC_true.1 h
  intro z hz
  unfold rPut at hz
  split at hz
  · simp at hz; omega
  · split at hz
    · simp at hz; omega
    · split at hz
      · simp at hz; omega
      · simp at hz; omega
theorem esc_ok (c : Int) : okI (escC c) := fun z hz => by
  simp only [escC, List.cons_append, List.mem_cons, List.mem_append, List.not_mem_nil, or_false] at hz
  rcases hz with rfl | hz | rfl
  · omega
  · have := hexI_range _ z hz
    have h2 : ∀ n : Nat, ∀ y ∈ hexI n, y ≤ 102 := fun n y hy => (hexI_range n y hy).2.1
    omega
  · omega
theorem okI.cons {z : Int} {l : List Int} (hz : 32 ≤ z ∧ z < 256 ∧ z ≠ 127) (h : okI l) : okI (z :: l) := fun y hy => by
  rcases List.mem_cons.1 hy with rfl | hy
  · exact hz
  · exact h y hy
theorem not_control {c : Int} (h : rightC c = true) (h0 : ¬ c = 0) (hc : ¬ controlC c = true) : 32 ≤ c ∧ c ≠ 127 := by
  have := rightC_true.1 h
  unfold controlC at hc
  simp only [Bool.or_eq_true, Bool.and_eq_true, decide_eq_true_eq] at hc
  omega
theorem identW_ok {n i : Nat} {f c : Int} (h : rightC c = true) : okI (identW n f i c) := by
  unfold identW
  split
  · exact put_ok (by decide) (by omega) (by omega)
  · rename_i h0
    split
    · exact esc_ok c
    · rename_i h1
      obtain ⟨h2, h3⟩ := not_control h h0 (fun h => h1 (.inl h))
      split
      · exact put_ok h h2 h3
      · exact (put_ok h h2 h3).cons (by omega)
theorem quoteW_ok {c : Int} (h : rightC c = true) : okI (quoteW c) := by
  unfold quoteW
  split
  · exact put_ok (by decide) (by omega) (by omega)
  · rename_i h0
    split
    · exact esc_ok c
    · rename_i h1
      obtain ⟨h2, h3⟩ := not_control h h0 h1
      split
      · exact (put_ok h h2 h3).cons (by omega)
      · exact put_ok h h2 h3
theorem upto_ok {W : Nat → Int → List Int} {l : List Int} (h : ∀ i c, c ∈ l → okI (W i c)) : ∀ i, i ≤ l.length → okI (upto W l i)
  | 0, _ => fun z hz => by simp [upto] at hz
  | i + 1, hi => fun z hz => by
    simp only [upto, List.mem_append] at hz
    rcases hz with hz | hz
    · exact upto_ok h i (by omega) z hz
    · refine h i _ ?_ z hz
      rw [List.getD_eq_getElem?_getD, List.getElem?_eq_getElem (by omega)]
      exact List.getElem_mem _
theorem bi_ok2 (s : List UInt8) : BytesOK (bi s) := BytesOK.of fun z hz => by
  simp [bi] at hz
  obtain ⟨x, _, rfl⟩ := hz
  have := x.toNat_lt
  omega
theorem ident_ok (s : List UInt8) : okT (identB s) := okT_nb (upto_ok (fun i c hc => identW_ok (raw_right _ _ (Nat.le_refl _) (bi_ok2 s) c hc)) _ (Nat.le_refl _))
theorem quote_ok (s : List UInt8) : okT (quoteB s) := okT_nb fun z hz => by
  simp only [quoteF, List.cons_append, List.mem_cons, List.mem_append, List.not_mem_nil, or_false] at hz
  rcases hz with rfl | hz | rfl
  · omega
  · exact upto_ok (fun i c hc => quoteW_ok (raw_right _ _ (Nat.le_refl _) (bi_ok2 s) c hc)) _ (Nat.le_refl _) z hz
  · omega
theorem raw_ascii : ∀ (zs : List Int), (∀ z ∈ zs, 0 ≤ z ∧ z < 128) → rawChars zs = zs
  | [], _ => rawChars_nil
  | z :: zs, h => by
    have hz := h z (by simp)
    have := raw_put (c := z) (rightC_true.2 (by omega)) zs
    rw [rPut1 hz.2] at this
    rw [show z :: zs = [z] ++ zs from rfl, this, raw_ascii zs fun y hy => h y (by simp [hy])]
    rfl
theorem upto_same {W : Nat → Int → List Int} {l : List Int} (h : ∀ i, i < l.length → W i (l.getD i 0) = [l.getD i 0]) : ∀ i, i ≤ l.length → upto W l i = l.take i
  | 0, _ => rfl
  | i + 1, hi => by
    rw [upto, upto_same h i (by omega), h i (by omega), List.take_add_one, List.getElem?_eq_getElem (by omega)]
    simp [List.getD, List.getElem?_eq_getElem (show i < l.length by omega)]
theorem nb_bi (s : List UInt8) : nb (bi s) = s := by
  unfold nb bi
  rw [List.map_map]
  conv => rhs; rw [← List.map_id s]
  refine List.map_congr_left fun x _ => ?_
  simp
/-- The characters that a plain name is made of. -/
def nmS : List Int := [110, 97, 98, 122, 95, 45, 48, 57, 65, 90]
def nmOk (c : Int) : Bool := decide (0 ≤ c) && decide (c < 128) && decide (c ≠ 0) && !controlC c && decide (c ≠ 65279) && nameC c && decide (c ≠ 34) && decide (c ≠ 92)
theorem nm_all : nmS.all nmOk = true := by decide +kernel
theorem nm_ok {c : Int} (h : c ∈ nmS) : 0 ≤ c ∧ c < 128 ∧ c ≠ 0 ∧ controlC c = false ∧ c ≠ 65279 ∧ nameC c = true ∧ c ≠ 34 ∧ c ≠ 92 := by
  have := List.all_eq_true.1 nm_all c h
  unfold nmOk at this
  simp only [Bool.and_eq_true, decide_eq_true_eq, Bool.not_eq_true'] at this
  obtain ⟨⟨⟨⟨⟨⟨⟨h1, h2⟩, h3⟩, h4⟩, h5⟩, h6⟩, h7⟩, h8⟩ := this
  exact ⟨h1, h2, h3, h4, h5, h6, h7, h8⟩
theorem bi_mem {b : List UInt8} {z : Int} (h : z ∈ bi b) : ∃ x ∈ b, z = (x.toNat : Int) := by
  simp only [bi, List.mem_map] at h
  obtain ⟨x, hx, rfl⟩ := h
  exact ⟨x, hx, rfl⟩
def PlainN (b : List UInt8) : Prop := ∃ r, b = 110 :: r ∧ ∀ x ∈ b, (x.toNat : Int) ∈ nmS
theorem plain_at {b : List UInt8} (h : PlainN b) : ∀ z ∈ bi b, z ∈ nmS := fun z hz => by
  obtain ⟨x, hx, rfl⟩ := bi_mem hz
  obtain ⟨r, _, h⟩ := h
  exact h x hx
theorem ident_plain {b : List UInt8} (h : PlainN b) : identB b = b := by
  have hm := plain_at h
  have hr : rawChars (bi b) = bi b := raw_ascii _ fun z hz => by have := nm_ok (hm z hz); omega
  obtain ⟨r, hb, _⟩ := h
  have hf : (bi b).getD 0 0 = 110 := by rw [hb]; rfl
  have hn : (bi b).length = b.length := by simp [bi]
  unfold identB identF
  rw [hr, upto_same (fun i hi => ?_) _ (Nat.le_refl _), List.take_length, nb_bi]
  have hc : (bi b).getD i 0 ∈ nmS := hm _ (by
    rw [List.getD_eq_getElem?_getD, List.getElem?_eq_getElem hi]
    exact List.getElem_mem _)
  have h0 : i = 0 → (bi b).getD i 0 = 110 := fun e => by rw [e]; exact hf
  rw [hf]
  generalize (bi b).getD i 0 = c at *
  obtain ⟨h1, h2, h3, h4, h5, h6, h7, h8⟩ := nm_ok hc
  unfold identW
  rw [if_neg h3, if_neg, if_pos, rPut1 h2]
  · refine ⟨h6, fun ⟨e1, e2⟩ => ?_⟩
    have := h0 (by omega)
    omega
  · rintro (h | h | ⟨h, h' | h'⟩)
    · rw [h4] at h; cases h
    · exact h5 h
    · rw [h0 h'] at h
      revert h
      decide
    · omega
theorem quote_plain {b : List UInt8} (h : PlainN b) : quoteB b = 34 :: b ++ [34] := by
  have hm := plain_at h
  have hr : rawChars (bi b) = bi b := raw_ascii _ fun z hz => by have := nm_ok (hm z hz); omega
  unfold quoteB quoteF
  rw [hr, upto_same (fun i hi => ?_) _ (Nat.le_refl _), List.take_length]
  · show nb (34 :: (bi b ++ [34])) = _
    have : nb (34 :: (bi b ++ [34])) = 34 :: (nb (bi b) ++ [34]) := by simp [nb]
    rw [this, nb_bi]
    rfl
  · have hc : (bi b).getD i 0 ∈ nmS := hm _ (by
      rw [List.getD_eq_getElem?_getD, List.getElem?_eq_getElem hi]
      exact List.getElem_mem _)
    generalize (bi b).getD i 0 = c at *
    obtain ⟨h1, h2, h3, h4, h5, h6, h7, h8⟩ := nm_ok hc
    unfold quoteW
    rw [if_neg h3, if_neg (by rw [h4]; simp), if_neg (by omega), rPut1 h2]
end Go.Av
