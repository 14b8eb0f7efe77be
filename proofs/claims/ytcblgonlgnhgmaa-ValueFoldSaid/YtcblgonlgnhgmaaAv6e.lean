/- Chapter 6: what the library's functions hand back. -/
import Derived.Test.YtcblgonlgnhgmaaAv6g
set_option linter.unusedVariables false
set_option linter.unusedSimpArgs false
namespace Go.Av
open Go.Proofs
/-- The first place of a byte, from a place on; -1: none. -/
def idxB (c : UInt8) : Nat → List UInt8 → Int
  | _, [] => -1
  | k, x :: r => if x = c then (k : Int) else idxB c (k + 1) r
def preB : List UInt8 → List UInt8 → Bool
  | [], _ => true
  | _ :: _, [] => false
  | a :: p, b :: s => a == b && preB p s
def hasB (t : List UInt8) : List UInt8 → Bool
  | [] => preB t []
  | x :: r => preB t (x :: r) || hasB t r
def blankB (x : UInt8) : Bool := x == 32 || x == 9 || x == 10 || x == 13 || x == 12
/-- The parts between blanks. -/
def partsB : List UInt8 → List UInt8 → List (List UInt8)
  | [], p => if p = [] then [] else [p]
  | x :: r, p => if blankB x then (if p = [] then partsB r [] else p :: partsB r []) else partsB r (p ++ [x])
def ext6 : Call := fun f args pbs => match f, args, pbs with
  | 36, [.str s, .int .u8 c], [] => some (.int .i64 (idxB (UInt8.ofNat c.toNat) 0 s), [], [])
  | 25, [.str s, .str t], [] => if s.length < 4294967281 then some (.bool (hasB t s), [], []) else none
  | 34, [.str s, .func (.func 35) [] []], [] => if s.length ≤ 4294967296 then some (.list ((partsB s []).map .str), [], []) else none
  | _, _, _ => none
end Go.Av
