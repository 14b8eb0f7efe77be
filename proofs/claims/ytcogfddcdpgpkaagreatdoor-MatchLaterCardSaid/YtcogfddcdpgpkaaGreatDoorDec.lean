/- What the functions of layer 1 compute, as plain functions on lists of integers. No program in sight; no conditions. -/
namespace Go.Proofs.YtcogfddcdpgpkaaGreatDoor

/-- What a first byte tells: the character so far, how many bytes are to come, the bounds of the next one. -/
def beg (c : Int) : Option (Int × Nat × Int × Int) :=
  if c < 128 then some (c, 0, 128, 191)
  else if 194 ≤ c ∧ c ≤ 223 then some (c % 32, 1, 128, 191)
  else if c = 224 then some (0, 2, 160, 191)
  else if c = 237 then some (13, 2, 128, 159)
  else if 224 < c ∧ c ≤ 239 then some (c % 16, 2, 128, 191)
  else if c = 240 then some (0, 3, 144, 191)
  else if c = 244 then some (4, 3, 128, 143)
  else if 240 < c ∧ c < 244 then some (c % 8, 3, 128, 191)
  else none

def goOn : Nat → Int → Int → Int → List Int → Nat → Int × Nat
  | 0, ch, _, _, _, k => (ch, k)
  | _ + 1, _, _, _, [], k => (65533, k)
  | n + 1, ch, lo, up, c :: r, k => if c < lo ∨ up < c then (65533, k) else goOn n (ch * 64 + c % 64) 128 191 r (k + 1)

def firstOf (zs : List Int) : Int × Nat :=
  match zs with
  | [] => (65533, 1)
  | c :: r => match beg c with
    | none => (65533, 1)
    | some (ch, need, lo, up) => goOn need ch lo up r 1

def charsN : Nat → List Int → List Int
  | 0, _ => []
  | _ + 1, [] => []
  | n + 1, z :: zs => (firstOf (z :: zs)).1 :: charsN n ((z :: zs).drop (firstOf (z :: zs)).2)

def rawChars (zs : List Int) : List Int := charsN zs.length zs
def dropMark (l : List Int) : List Int := if l.head? = some 65279 then l.tail else l
def chars (zs : List Int) : List Int := dropMark (rawChars zs)

def rightC (c : Int) : Bool := decide (0 ≤ c ∧ c ≤ 1114111 ∧ ¬ (55296 ≤ c ∧ c ≤ 57343))

theorem goOn_size : ∀ (n : Nat) (ch lo up : Int) (r : List Int) (k : Nat), k ≤ (goOn n ch lo up r k).2 ∧ (goOn n ch lo up r k).2 ≤ k + r.length ∧ (goOn n ch lo up r k).2 ≤ k + n
  | 0, _, _, _, _, _ => by simp [goOn]
  | _ + 1, _, _, _, [], _ => by simp [goOn]
  | n + 1, ch, lo, up, c :: r, k => by
    unfold goOn
    split
    · simp
    · have := goOn_size n (ch * 64 + c % 64) 128 191 r (k + 1)
      simp only [List.length_cons]
      omega
theorem firstOf_size (z : Int) (zs : List Int) : 1 ≤ (firstOf (z :: zs)).2 ∧ (firstOf (z :: zs)).2 ≤ zs.length + 1 := by
  cases h : beg z with
  | none => simp [firstOf, h]
  | some x =>
    obtain ⟨ch, need, lo, up⟩ := x
    have := goOn_size need ch lo up zs 1
    simp only [firstOf, h]
    omega
theorem charsN_fuel : ∀ (n m : Nat) (zs : List Int), zs.length ≤ n → zs.length ≤ m → charsN n zs = charsN m zs
  | 0, 0, _, _, _ => rfl
  | 0, m + 1, [], _, _ => rfl
  | n + 1, 0, [], _, _ => rfl
  | 0, _ + 1, _ :: _, h, _ => absurd h (by simp)
  | _ + 1, 0, _ :: _, _, h => absurd h (by simp)
  | n + 1, m + 1, [], _, _ => rfl
  | n + 1, m + 1, z :: zs, h1, h2 => by
    simp only [charsN]
    have := firstOf_size z zs
    simp only [List.length_cons] at h1 h2
    rw [charsN_fuel n m _ (by simp only [List.length_drop, List.length_cons]; omega) (by simp only [List.length_drop, List.length_cons]; omega)]
theorem rawChars_nil : rawChars [] = [] := rfl
theorem rawChars_cons (z : Int) (zs : List Int) : rawChars (z :: zs) = (firstOf (z :: zs)).1 :: rawChars ((z :: zs).drop (firstOf (z :: zs)).2) := by
  have := firstOf_size z zs
  simp only [rawChars, List.length_cons, charsN]
  congr 1
  exact charsN_fuel _ _ _ (by simp only [List.length_drop, List.length_cons]; omega) (by simp only [List.length_drop, List.length_cons]; omega)
theorem rawChars_of {zs : List Int} (h : 0 < zs.length) : rawChars zs = (firstOf zs).1 :: rawChars (zs.drop (firstOf zs).2) := by
  cases zs with
  | nil => simp at h
  | cons z zs => exact rawChars_cons z zs
theorem firstOf_size' {zs : List Int} (h : 0 < zs.length) : 1 ≤ (firstOf zs).2 ∧ (firstOf zs).2 ≤ zs.length := by
  cases zs with
  | nil => simp at h
  | cons z zs => exact firstOf_size z zs
theorem beg_bounds {c ch lo up : Int} {need : Nat} (h0 : 0 ≤ c) (h : beg c = some (ch, need, lo, up)) : 0 ≤ ch ∧ ch ≤ 127 ∧ need ≤ 3 := by
  unfold beg at h
  repeat' split at h
  all_goals simp only [Option.some.injEq, Prod.mk.injEq, reduceCtorEq] at h
  all_goals (obtain ⟨rfl, rfl, rfl, rfl⟩ := h; omega)
end Go.Proofs.YtcogfddcdpgpkaaGreatDoor
