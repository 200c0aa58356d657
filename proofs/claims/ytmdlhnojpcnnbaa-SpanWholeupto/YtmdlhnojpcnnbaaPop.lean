/- How many bits are set: the sum by parts counts them. -/
import Derived.Test.YtmdlhnojpcnnbaaXC
namespace Go.X
open Go

theorem tb {u v : Nat} (hu : u < 256) (i : Nat) : Nat.testBit (u + 256 * v) i = if i < 8 then u.testBit i else v.testBit (i - 8) := by
  have := Nat.testBit_two_pow_mul_add v (b := u) (i := 8) (by omega) i
  rw [show 2 ^ 8 * v + u = u + 256 * v by omega] at this
  exact this
def val8 : List Nat → Nat
  | [] => 0
  | b :: l => b + 256 * val8 l
def digits8 : Nat → Nat → List Nat
  | 0, _ => []
  | n + 1, x => x % 256 :: digits8 n (x / 256)
def pop8 (b : Nat) : Nat := ((List.range 8).filter fun i => b.testBit i).length
def st1 (b : Nat) : Nat := (b / 2 ^ 1 &&& 85) + (b / 2 ^ 0 &&& 85)
def st2 (b : Nat) : Nat := (b / 2 ^ 2 &&& 51) + (b / 2 ^ 0 &&& 51)
def popN : Nat → Nat → Nat
  | 0, _ => 0
  | n + 1, x => pop8 (x % 256) + popN n (x / 256)
end Go.X
