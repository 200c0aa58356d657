/- Sets of bytes as numbers below 2 ^ 256; the words' operations. -/
import Derived.Test.YtmdlhnojpcnnbaaPop
namespace Go.X
open Go

theorem wrap_u64 {n : Int} (h1 : 0 ≤ n) (h2 : n < 18446744073709551616) : IntKind.wrap .u64 n = n := by
  simp only [IntKind.wrap, IntKind.signed, IntKind.bits, Bool.false_and]
  simp
  omega
theorem wrap_u8 {n : Int} (h1 : 0 ≤ n) (h2 : n < 256) : IntKind.wrap .u8 n = n := by
  simp only [IntKind.wrap, IntKind.signed, IntKind.bits, Bool.false_and]
  simp
  omega
theorem bv64 {x : Nat} (hx : x < 2 ^ 64) : (BitVec.ofInt 64 (x : Int)).toNat = x := by
  rw [BitVec.ofInt_natCast, BitVec.toNat_ofNat, Nat.mod_eq_of_lt hx]
theorem ib_and {x y : Nat} (hx : x < 2 ^ 64) (hy : y < 2 ^ 64) : intBit .and .u64 (x : Int) (y : Int) = ((x &&& y : Nat) : Int) := by
  have h : x &&& y < 2 ^ 64 := Nat.and_lt_two_pow _ hy
  show IntKind.wrap .u64 (((BitVec.ofInt 64 (x : Int) &&& BitVec.ofInt 64 (y : Int)).toNat : Nat) : Int) = _
  rw [BitVec.toNat_and, bv64 hx, bv64 hy]
  exact wrap_u64 (by omega) (by omega)
theorem ib_or {x y : Nat} (hx : x < 2 ^ 64) (hy : y < 2 ^ 64) : intBit .or .u64 (x : Int) (y : Int) = ((x ||| y : Nat) : Int) := by
  have h : x ||| y < 2 ^ 64 := Nat.or_lt_two_pow hx hy
  show IntKind.wrap .u64 (((BitVec.ofInt 64 (x : Int) ||| BitVec.ofInt 64 (y : Int)).toNat : Nat) : Int) = _
  rw [BitVec.toNat_or, bv64 hx, bv64 hy]
  exact wrap_u64 (by omega) (by omega)
theorem fdiv_nat (x y : Nat) : Int.fdiv (x : Int) (y : Int) = ((x / y : Nat) : Int) := by
  rw [Int.fdiv_eq_ediv_of_nonneg _ (by omega)]; rfl

def wd (n i : Nat) : Nat := n / 2 ^ (64 * i) % 2 ^ 64
theorem wd_lt (n i : Nat) : wd n i < 2 ^ 64 := Nat.mod_lt _ (by decide)
theorem wd_bit (n i j : Nat) : (wd n i).testBit j = (decide (j < 64) && n.testBit (64 * i + j)) := by
  rw [wd, Nat.testBit_mod_two_pow, Nat.testBit_div_two_pow, Nat.add_comm]
def bs (n : Nat) : PV := .agg [.int (wd n 0), .int (wd n 1), .int (wd n 2), .int (wd n 3)]
theorem bs_fld (n : Nat) {i : Nat} (hi : i < 4) : PV.fld (bs n) i = .int (wd n i) := by
  match i, hi with
  | 0, _ => rfl
  | 1, _ => rfl
  | 2, _ => rfl
  | 3, _ => rfl
theorem bs_num (n : Nat) {i : Nat} (hi : i < 4) : PV.num (PV.fld (bs n) i) = (wd n i : Int) := by rw [bs_fld n hi]; rfl
theorem wd_or (n m i : Nat) : wd (n ||| m) i = wd n i ||| wd m i := by
  apply Nat.eq_of_testBit_eq; intro j
  simp only [Nat.testBit_or, wd_bit]
  cases decide (j < 64) <;> simp
theorem bs_of {a b c d : Nat} (ha : a < 2 ^ 64) (hb : b < 2 ^ 64) (hc : c < 2 ^ 64) (hd : d < 2 ^ 64) :
    ∃ n, n < 2 ^ 256 ∧ bs n = .agg [.int a, .int b, .int c, .int d] := by
  refine ⟨a + 2 ^ 64 * (b + 2 ^ 64 * (c + 2 ^ 64 * d)), by omega, ?_⟩
  have h0 : wd (a + 2 ^ 64 * (b + 2 ^ 64 * (c + 2 ^ 64 * d))) 0 = a := by
    simp only [wd]; omega
  have h1 : wd (a + 2 ^ 64 * (b + 2 ^ 64 * (c + 2 ^ 64 * d))) 1 = b := by
    simp only [wd]; omega
  have h2 : wd (a + 2 ^ 64 * (b + 2 ^ 64 * (c + 2 ^ 64 * d))) 2 = c := by
    simp only [wd]; omega
  have h3 : wd (a + 2 ^ 64 * (b + 2 ^ 64 * (c + 2 ^ 64 * d))) 3 = d := by
    simp only [wd]; omega
  simp only [bs, h0, h1, h2, h3]
end Go.X
