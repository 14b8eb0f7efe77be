/- The walks of decode's reader: begin, next, first. Conditions: the reader's block is known whole. -/
import Derived.Test.YtaihimaopedicaaDoorMem
import Derived.Test.YtaihimaopedicaaDoorDec
import Derived.Test.YtaihimaopedicaaDoorChecked
namespace Go.Proofs.YtaihimaopedicaaDoor
open Go.RowKit

def rd (ch need lo up : Int) : Array Value := #[.int .i64 ch, .int .i64 need, .int .u8 lo, .int .u8 up]

def BeginPost (w : World) (g : Nat) (c : Int) (e : Ending) (w' : World) : Prop :=
  w.grownBy w' (some g) ∧ match beg c with
    | none => e = .returned (.bool false)
    | some (ch, need, lo, up) => e = .returned (.bool true) ∧ Bk w' g 58 (rd ch need lo up)

theorem Bk.cast {w : World} {g : Nat} {t : TypeId} {cs cs' : Array Value} (h : Bk w g t cs) (e : cs = cs') : Bk w g t cs' := e ▸ h
theorem Bk.put4 {w : World} {g : Nat} {t : TypeId} {cs cs' : Array Value} {i j k l : Nat} {a b c d : Value} (h : Bk w g t cs) (e : (((cs.setIfInBounds i a).setIfInBounds j b).setIfInBounds k c).setIfInBounds l d = cs') :
    Bk ((((w.setCell ⟨g, i, none⟩ a).setCell ⟨g, j, none⟩ b).setCell ⟨g, k, none⟩ c).setCell ⟨g, l, none⟩ d) g t cs' := e ▸ ((((h.put i a).put j b).put k c).put l d)
theorem Bk.put5 {w : World} {g : Nat} {t : TypeId} {cs cs' : Array Value} {i j k l m : Nat} {a b c d f : Value} (h : Bk w g t cs) (e : ((((cs.setIfInBounds i a).setIfInBounds j b).setIfInBounds k c).setIfInBounds l d).setIfInBounds m f = cs') :
    Bk (((((w.setCell ⟨g, i, none⟩ a).setCell ⟨g, j, none⟩ b).setCell ⟨g, k, none⟩ c).setCell ⟨g, l, none⟩ d).setCell ⟨g, m, none⟩ f) g t cs' := e ▸ (((((h.put i a).put j b).put k c).put l d).put m f)
theorem BeginPost.mk' {w w' : World} {g : Nat} {c ch lo up : Int} {need : Nat} {e : Ending} (hb : beg c = some (ch, need, lo, up)) (he : e = .returned (.bool true)) (hg : w.grownBy w' (some g)) (hk : Bk w' g 58 (rd ch need lo up)) : BeginPost w g c e w' :=
  ⟨hg, by rw [hb]; exact ⟨he, hk⟩⟩
theorem BeginPost.no {w w' : World} {g : Nat} {c : Int} {e : Ending} (hb : beg c = none) (he : e = .returned (.bool false)) (hg : w.grownBy w' (some g)) : BeginPost w g c e w' :=
  ⟨hg, by rw [hb]; exact he⟩
theorem beg_cases (c : Int) (h0 : 0 ≤ c) (h1 : c < 256) :
    (c < 128 ∧ beg c = some (c, 0, 128, 191)) ∨ (194 ≤ c ∧ c ≤ 223 ∧ beg c = some (c % 32, 1, 128, 191)) ∨ (c = 224 ∧ beg c = some (0, 2, 160, 191)) ∨ (c = 237 ∧ beg c = some (13, 2, 128, 159)) ∨
    (225 ≤ c ∧ c < 237 ∧ beg c = some (c % 16, 2, 128, 191)) ∨ (238 ≤ c ∧ c ≤ 239 ∧ beg c = some (c % 16, 2, 128, 191)) ∨ (c = 240 ∧ beg c = some (0, 3, 144, 191)) ∨ (c = 244 ∧ beg c = some (4, 3, 128, 143)) ∨
    (241 ≤ c ∧ c < 244 ∧ beg c = some (c % 8, 3, 128, 191)) ∨ ((128 ≤ c ∧ c < 194) ∧ beg c = none) ∨ (245 ≤ c ∧ beg c = none) := by
  rcases (by omega : c < 128 ∨ (128 ≤ c ∧ c < 194) ∨ (194 ≤ c ∧ c ≤ 223) ∨ c = 224 ∨ (225 ≤ c ∧ c < 237) ∨ c = 237 ∨ (238 ≤ c ∧ c ≤ 239) ∨ c = 240 ∨ (241 ≤ c ∧ c < 244) ∨ c = 244 ∨ 245 ≤ c) with h | h | h | h | h | h | h | h | h | h | h
  · exact .inl ⟨h, by unfold beg; rw [if_pos h]⟩
  · exact .inr (.inr (.inr (.inr (.inr (.inr (.inr (.inr (.inr (.inl ⟨h, by unfold beg; rw [if_neg (by omega), if_neg (by omega), if_neg (by omega), if_neg (by omega), if_neg (by omega), if_neg (by omega), if_neg (by omega), if_neg (by omega)]⟩)))))))))
  · exact .inr (.inl ⟨h.1, h.2, by unfold beg; rw [if_neg (by omega), if_pos h]⟩)
  · exact .inr (.inr (.inl ⟨h, by unfold beg; rw [if_neg (by omega), if_neg (by omega), if_pos h]⟩))
  · exact .inr (.inr (.inr (.inr (.inl ⟨h.1, h.2, by unfold beg; rw [if_neg (by omega), if_neg (by omega), if_neg (by omega), if_neg (by omega), if_pos (by omega)]⟩))))
  · exact .inr (.inr (.inr (.inl ⟨h, by unfold beg; rw [if_neg (by omega), if_neg (by omega), if_neg (by omega), if_pos h]⟩)))
  · exact .inr (.inr (.inr (.inr (.inr (.inl ⟨h.1, h.2, by unfold beg; rw [if_neg (by omega), if_neg (by omega), if_neg (by omega), if_neg (by omega), if_pos (by omega)]⟩)))))
  · exact .inr (.inr (.inr (.inr (.inr (.inr (.inl ⟨h, by unfold beg; rw [if_neg (by omega), if_neg (by omega), if_neg (by omega), if_neg (by omega), if_neg (by omega), if_pos h]⟩))))))
  · exact .inr (.inr (.inr (.inr (.inr (.inr (.inr (.inr (.inl ⟨h.1, h.2, by unfold beg; rw [if_neg (by omega), if_neg (by omega), if_neg (by omega), if_neg (by omega), if_neg (by omega), if_neg (by omega), if_neg (by omega), if_pos (by omega)]⟩))))))))
  · exact .inr (.inr (.inr (.inr (.inr (.inr (.inr (.inl ⟨h, by unfold beg; rw [if_neg (by omega), if_neg (by omega), if_neg (by omega), if_neg (by omega), if_neg (by omega), if_neg (by omega), if_pos h]⟩)))))))
  · exact .inr (.inr (.inr (.inr (.inr (.inr (.inr (.inr (.inr (.inr ⟨h, by unfold beg; rw [if_neg (by omega), if_neg (by omega), if_neg (by omega), if_neg (by omega), if_neg (by omega), if_neg (by omega), if_neg (by omega), if_neg (by omega)]⟩)))))))))

set_option maxHeartbeats 1000000 in
theorem begin_any (w : World) (g : Nat) (x0 x1 x2 x3 : Value) (c : Int) (h0 : 0 ≤ c) (h1 : c < 256) (hg : Bk w g 58 #[x0, x1, x2, x3]) :
    Calls Tryd.prog 21 #[.pointer (some ⟨g, 0, none⟩), .int .u8 c] w (BeginPost w g c) := by
  have a0 := hg.cell 0
  have a1 := hg.cell 1
  have a2 := hg.cell 2
  have a3 := hg.cell 3
  have f0 := hg.free 0
  have f1 := hg.free 1
  have f2 := hg.free 2
  have f3 := hg.free 3
  simp at a0 a1 a2 a3
  rcases beg_cases c h0 h1 with ⟨k, hb⟩ | ⟨k, k', hb⟩ | ⟨k, hb⟩ | ⟨k, hb⟩ | ⟨k, k', hb⟩ | ⟨k, k', hb⟩ | ⟨k, hb⟩ | ⟨k, hb⟩ | ⟨k, k', hb⟩ | ⟨k, hb⟩ | ⟨k, hb⟩
  all_goals (have HB := Lib.hid hb; clear hb)
  all_goals (try subst k)
  all_goals go_enter Tryd.func21, Tryd.ntmps21
  all_goals go_wp2
  all_goals go_ret
  all_goals first | refine BeginPost.mk' HB.out rfl ?_ ?_ | refine BeginPost.no HB.out rfl ?_
  all_goals (try (repeat (first | (with_reducible exact World.grownBy.refl _ _) | (with_reducible refine grown_put ?_ rfl _))))
  all_goals (with_reducible first | refine Bk.put4 hg ?_ | refine Bk.put5 hg ?_)
  all_goals simp [rd]
end Go.Proofs.YtaihimaopedicaaDoor
