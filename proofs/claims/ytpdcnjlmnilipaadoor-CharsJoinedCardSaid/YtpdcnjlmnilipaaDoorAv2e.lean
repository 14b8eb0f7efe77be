/- Chapter 2: what the library's functions hand back, and those that were walked by hand. -/
import Derived.Test.YtpdcnjlmnilipaaDoorAv2g
import Derived.Test.YtpdcnjlmnilipaaDoorAv2q
set_option linter.unusedVariables false
set_option linter.unusedSimpArgs false
namespace Go.Av
open Go.Proofs Go.Proofs.YtpdcnjlmnilipaaDoor
def blankB (x : UInt8) : Bool := x == 32 || x == 9 || x == 10 || x == 13 || x == 12
/-- The parts between blanks. -/
def partsB : List UInt8 → List UInt8 → List (List UInt8)
  | [], p => if p = [] then [] else [p]
  | x :: r, p => if blankB x then (if p = [] then partsB r [] else p :: partsB r []) else partsB r (p ++ [x])
def nb (l : List Int) : List UInt8 := l.map fun n => UInt8.ofNat n.toNat
def bi (s : List UInt8) : List Int := s.map fun x => (x.toNat : Int)
def identB (s : List UInt8) : List UInt8 := nb (identF (rawChars (bi s)))
def quoteB (s : List UInt8) : List UInt8 := nb (quoteF (rawChars (bi s)))
/-- A list of bytes. -/
def byI : List D → Option (List Int)
  | [] => some []
  | .int .u8 n :: r => if 0 ≤ n ∧ n < 256 then (byI r).map (n :: ·) else none
  | _ => none
def ext2 : Call := fun f args pbs => match f, args, pbs with
  | 8, [.str s], [] => if s.length ≤ 100000 then some (.str (identB s), [], []) else none
  | 10, [.str s], [] => if s.length ≤ 100000 then some (.str (quoteB s), [], []) else none
  | 31, [.str s, .func (.func 32) [] []], [] => if s.length ≤ 4294967296 then some (.list ((partsB s []).map .str), [], []) else none
  | 43, [.list es, .int .i64 k], [] => (byI es).bind fun zs => if 0 ≤ k ∧ k < zs.length ∧ zs.length ≤ 1099511627776 then some (.tuple [.int .i64 (firstOf (zs.drop k.toNat)).1, .int .i64 ((firstOf (zs.drop k.toNat)).2 : Nat)], [], []) else none
  | _, _, _ => none
end Go.Av
