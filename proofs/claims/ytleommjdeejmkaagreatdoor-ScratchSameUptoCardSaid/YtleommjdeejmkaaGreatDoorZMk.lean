/-
  Functions of the library that the abstract machine takes as they are: what they compute.
  Conditions: none; definitions.
-/
import Derived.Test.YtleommjdeejmkaaGreatDoorZMa
set_option linter.all false

namespace Go.Proofs.YtleommjdeejmkaaGreatDoor.Zq
open Go

/-- The first place of a byte, from i on. -/
def idxB (c : UInt8) : List UInt8 → Nat → Int
  | [], _ => -1
  | x :: xs, i => if x == c then (i : Int) else idxB c xs (i + 1)

def cntB (c : UInt8) : List UInt8 → Nat → Nat
  | [], n => n
  | x :: xs, n => cntB c xs (if x == c then n + 1 else n)

def pIndexByte : List AV → List AObj → Option (AV × List AObj)
  | [.str s, .int .u8 c], S => some (.int .i64 (idxB c.toNat.toUInt8 s 0), S)
  | _, _ => none

def pCount : List AV → List AObj → Option (AV × List AObj)
  | [.str s, .int .u8 c], S => some (.int .i64 (cntB c.toNat.toUInt8 s 0), S)
  | _, _ => none

end Go.Proofs.YtleommjdeejmkaaGreatDoor.Zq
