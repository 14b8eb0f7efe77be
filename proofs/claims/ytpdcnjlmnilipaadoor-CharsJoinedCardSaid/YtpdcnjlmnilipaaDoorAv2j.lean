/- decode.Chars once more, with the kind of the block that its list lies in. Conditions: the slice reads as bytes. -/
import Derived.Test.YtpdcnjlmnilipaaDoorCh
set_option linter.unusedVariables false
set_option linter.unusedSimpArgs false
namespace Go.Proofs.YtpdcnjlmnilipaaDoor
open Go.RowKit
def TyB (w : World) (t : TypeId) (a : Option Addr) : Prop := ∃ b off cs fr, a = some ⟨b, off, none⟩ ∧ w.heap[b]? = some (.cells cs t fr)
def RetT (k : IntKind) (w : World) (l : List Int) (e : Ending) (w' : World) : Prop :=
  ∃ a c, e = .returned (.slice a l.length c) ∧ l.length ≤ c ∧ Sl w' w'.heap.size a (l.map (Value.int k)) ∧ (l ≠ [] → TyB w' 3 a) ∧ Below w.heap.size w w'
theorem TyB.of_own {w : World} {base n c : Nat} {k : IntKind} {a : Option Addr} {l : List Int} (ho : OwnL w base 3 k (.slice a n c) l) (hne : l ≠ []) : TyB w 3 a := by
  rcases ho with ⟨_, h, _⟩ | h
  · simp at h
    exact absurd h hne
  · rcases h.2 with ⟨_, h0⟩ | ⟨g, cap, cur, hv, _, hg, _⟩
    · exact absurd (List.length_eq_zero_iff.1 h0) hne
    · injection hv with h1
      subst h1
      exact ⟨g, 0, cur, (0, 0), rfl, hg⟩
theorem RetT.of {k : IntKind} {w w' : World} {l : List Int} {e : Ending} {base : Nat} {v : Value} (he : e = .returned v) (ho : OwnL w' base 3 k v l) (hb : Below w.heap.size w w') : RetT k w l e w' := by
  obtain ⟨a, c, rfl, hc, hs⟩ := ho.form
  exact ⟨a, c, he, hc, hs, TyB.of_own ho, hb⟩
theorem RetT.tail1 {k : IntKind} {w w' : World} {d : Int} {ds l : List Int} {m : Nat} {A : Option Addr} (hm : (d :: ds).length = m) (hl : l = ds) (h1 : m ≤ 1) (hb : Below w.heap.size w w') :
    RetT k w l (.returned (.slice A (m - 1) 0)) w' := by
  subst hm hl
  have : l = [] := List.length_eq_zero_iff.1 (by simp only [List.length_cons] at h1; omega)
  subst this
  exact ⟨A, 0, rfl, by simp, Sl.nil, fun h => absurd rfl h, hb⟩
theorem RetT.tail2 {k : IntKind} {w w' : World} {d : Int} {ds l : List Int} {m c b off base : Nat} (hm : (d :: ds).length = m) (hl : l = ds)
    (ho : OwnL w' base 3 k (.slice (some ⟨b, off, none⟩) m c) (d :: ds)) (hb : Below w.heap.size w w') :
    RetT k w l (.returned (.slice (some ⟨b, off + 1, none⟩) (m - 1) (c - 1))) w' := by
  obtain ⟨a, c', h1, h2, h3, h4⟩ := RetL.tail2 hm hl ho hb
  injection h1 with h1
  injection h1 with h5 h6 h7
  subst h5 h7
  obtain ⟨b0, o0, cs, fr, h8, h9⟩ := TyB.of_own ho (by simp)
  injection h8 with h8
  injection h8 with h10 h11
  subst h10 h11
  exact ⟨_, _, by rw [h6], h2, h3, fun _ => ⟨b, off + 1, cs, fr, rfl, h9⟩, h4⟩
set_option maxHeartbeats 1000000 in
theorem chars_typed (w : World) (B : Nat) (a : Option Addr) (n c : Nat) (zs : List Int) (hB : B ≤ w.heap.size) (hz : BytesOK zs) (hn : n = zs.length) (hc : n ≤ c) (hm : zs.length ≤ 1099511627776)
    (hs : Sl w B a (zs.map (Value.int .u8))) : Calls Tryd.prog 36 #[.slice a n c] w (RetT .i64 w (chars zs)) := by
  subst hn
  go_enter Tryd.func36, Tryd.ntmps36
  go_wp2_with (at_make; refine makeL_own w rfl _ _ 35 rfl Tryd.eiInts (by decide) .i64 .i64 .i64 zs.length rfl rfl hm ?_; intro v w1 ho1 hg1 hb1)
  have HR : CharsRel w B zs zs zs.length a c v [] w1 := ⟨rfl, hc, by simp, hz, hs.below (hb1.mono hB), ho1, hb1, rfl⟩
  clear ho1 hg1 hb1
  go_loopw [0, 3, 4, 5] (fun b v _ _ wr => ∃ rs n a c done, b = .slice a n c ∧ CharsRel w B zs rs n a c v done wr) (fun b _ _ _ _ => lenV b)
  case atStart => exact ⟨zs, zs.length, a, c, [], rfl, HR⟩
  case round =>
    clear HR
    obtain ⟨rs, n, a, c, done, rfl, hr⟩ := hrel
    have hl := hr.len
    have hcp := hr.cap
    by_cases h0 : n = 0
    · subst h0
      have HQ : Hid (done = rawChars zs) := by
        have h1 := hr.eq
        rw [List.length_eq_zero_iff.1 hl.symm, rawChars_nil, List.append_nil] at h1
        exact h1
      have HO := hr.own
      have HB := Lib.hid hr.below
      clear hr hl
      obtain ⟨a3, c3, rfl, hc3, hs3⟩ := HO.form
      cases done with
      | nil =>
        simp only [List.length_nil] at hc3
        go_wp2_with fail
        go_ret
        exact RetT.of rfl (by rw [chars, ← HQ.out]; exact HO) HB.out
      | cons d ds =>
        have hd0 : 0 < (d :: ds).length := by simp
        obtain ⟨b3, off3, rfl, hb3, hcell⟩ := hs3.int hd0
        have hc0 := hcell 0 hd0
        simp only [Nat.add_zero, List.getD_cons_zero] at hc0
        clear hcell hs3
        generalize hds : (d :: ds).length = m at *
        have HM := Lib.hid hds
        clear hds
        by_cases hdm : d = 65279
        · have hdm' : (d == 65279) = true := by simp [hdm]
          clear hdm
          have h1m : 1 ≤ m := hd0
          go_wp2_with fail
          · go_ret
            exact RetT.tail1 HM.out (by rw [chars, ← HQ.out, dropMark_cons_eq hdm']) (by omega) HB.out
          · go_ret
            exact RetT.tail2 HM.out (by rw [chars, ← HQ.out, dropMark_cons_eq hdm']) HO HB.out
        · have hdm' : (d == 65279) = false := by simp [hdm]
          clear hdm
          go_wp2_with fail
          go_ret
          exact RetT.of rfl (by rw [chars, ← HQ.out, dropMark_cons_ne hdm']; exact HO) HB.out
    · subst hl
      have hpos : 0 < rs.length := by omega
      clear h0
      have hle : rs.length ≤ zs.length := by have := hr.size; omega
      have HR := Lib.hid hr
      have HS := hr.sl
      have HO := hr.own
      have hok := hr.ok
      have hsz := hr.size
      have hb := hr.below
      have hwB : B ≤ wr.heap.size := Nat.le_trans hB hb.size
      have hwb : w.heap.size ≤ wr.heap.size := hb.size
      clear hr hb
      go_wp2_with fail
      refine (first_any _ B _ _ _ rs hwB hok rfl hpos (by unfold maxLen; omega) HS).mono ?_
      rintro e w2 ⟨rfl, hb2⟩
      have hfs := firstOf_size' hpos
      have HE := Lib.hid (rawChars_of hpos)
      generalize hf1 : (firstOf rs).1 = x at *
      generalize hf2 : (firstOf rs).2 = y at *
      clear hf1 hf2
      obtain ⟨y1, y2⟩ := hfs
      have HO2 := HO.below hb2
      have HS2 := HS.below (hb2.mono hwB)
      have hw2 : w.heap.size ≤ w2.heap.size := Nat.le_trans hwb hb2.size
      clear HO HS hwb hok
      go_wp2_with (at_builtin; refine appL_one _ rfl (.tmp 17) (.tmp 19) 35 rfl Tryd.eiInts (by decide) w.heap.size .i64 _ done _ rfl HO2 rfl (by omega) hw2 ?_; intro v3 w3 ho3 hg3 hb3)
      have HN := CharsRel.next HR.out hb2 hB HE.out y1 y2 hcp HS2 ho3 hb3
      clear HR HE HO2 HS2 ho3 hg3 hb3 hb2
      refine ⟨⟨_, _, _, _, _, rfl, HN⟩, ?_⟩
      simp only [lenV]
      omega
end Go.Proofs.YtpdcnjlmnilipaaDoor
