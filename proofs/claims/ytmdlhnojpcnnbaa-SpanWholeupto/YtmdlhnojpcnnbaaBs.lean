/- Sets of bytes as numbers below 2 ^ 256: what is in them; one bit more; how many. -/
import Derived.Test.YtmdlhnojpcnnbaaBits
import Derived.Test.YtmdlhnojpcnnbaaXC
set_option linter.unusedSimpArgs false
namespace Go.X
open Go

theorem tb_dm (x i : Nat) : x.testBit i = decide (x / 2 ^ i % 2 = 1) := by rw [Nat.testBit_eq_decide_div_mod_eq]

def mk (p : Nat → Bool) : Nat → Nat
  | 0 => 0
  | k + 1 => mk p k ||| (if p k then 2 ^ k else 0)
theorem set_ext {n m : Nat} (hn : n < 2 ^ 256) (hm : m < 2 ^ 256) (h : ∀ i, i < 256 → n.testBit i = m.testBit i) : n = m := by
  apply Nat.eq_of_testBit_eq
  intro i
  by_cases hi : i < 256
  · exact h i hi
  · have hp : 2 ^ 256 ≤ 2 ^ i := Nat.pow_le_pow_right (by omega) (by omega)
    rw [Nat.testBit_lt_two_pow (Nat.lt_of_lt_of_le hn hp), Nat.testBit_lt_two_pow (Nat.lt_of_lt_of_le hm hp)]
theorem tdiv64 (x : Nat) : Int.tdiv (x : Int) 64 = ((x / 64 : Nat) : Int) := by
  rw [Int.tdiv_eq_ediv_of_nonneg (by omega)]; rfl
theorem tmod64 (x : Nat) : Int.tmod (x : Int) 64 = ((x % 64 : Nat) : Int) := by
  rw [Int.tmod_eq_emod_of_nonneg (by omega)]; rfl
theorem pow_nat (k : Nat) : ((2 : Int) ^ k) = ((2 ^ k : Nat) : Int) := by simp
theorem bs_has (n x : Nat) : decide (intBit .and .u64 (Int.fdiv (wd n (x / 64) : Int) (2 ^ (min (x % 64) 64))) 1 = (1 : Int)) = n.testBit x := by
  have h1 : min (x % 64) 64 = x % 64 := by omega
  have h2 : wd n (x / 64) / 2 ^ (x % 64) < 2 ^ 64 := Nat.lt_of_le_of_lt (Nat.div_le_self _ _) (wd_lt _ _)
  rw [h1, pow_nat, fdiv_nat]
  rw [show (1 : Int) = ((1 : Nat) : Int) from rfl, ib_and h2 (by decide), Nat.and_one_is_mod]
  have h3 := wd_bit n (x / 64) (x % 64)
  rw [tb_dm, decide_eq_true (show x % 64 < 64 by omega), Bool.true_and, show 64 * (x / 64) + x % 64 = x by omega] at h3
  rw [← h3]
  congr 1
  apply propext
  omega

def lstF (n i : Nat) : List Nat := (List.range' i (256 - i)).filter n.testBit
def lst (n : Nat) : List Nat := lstF n 0
def cnt (f : Nat → Bool) : Nat → Nat → Nat
  | _, 0 => 0
  | i, k + 1 => (if f i then 1 else 0) + cnt f (i + 1) k
end Go.X
