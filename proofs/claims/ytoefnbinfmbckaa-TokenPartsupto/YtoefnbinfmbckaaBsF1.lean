/- Sets: the printed functions Range, Len, Not, Or, And, Minus of package byteset. -/
import Derived.Test.YtoefnbinfmbckaaBsF0
import Derived.Test.YtoefnbinfmbckaaBsLn
import Derived.Test.YtoefnbinfmbckaaBsOr
set_option linter.unusedSimpArgs false
set_option linter.unusedVariables false
namespace Go.Proofs.Ytoefnbinfmbckaa
open Go Go.X

theorem spec_Range : Ult fun k => ∀ (lo hi : Nat) ret, lo < 256 → hi < 256 → G11 k (lo : Int) (hi : Int) ret = ret (bs (rng lo hi)) :=
  Ult.succ ((Ult.ge 600).mono fun k hk lo hi ret h1 h2 => by
    simp only [G11, f11_N, f11_e, f11_w1N]
    rw [wrap_i64 (by omega) (by omega), bs_zero]
    have := loopR_upE (body := f11_w1B k ret (hi : Int)) (fun (i : Nat) (a : Nat) => ((i : Int), bs a)) (res := fun i a => ret (bs (a ||| rng i hi))) (max lo (hi + 1)) ?_ ?_ k lo 0 (by omega) (by omega)
    · rw [this, Nat.zero_or]
    · intro nx a
      simp only [f11_w1B, f11_w1b0N, f11_w1b0]
      rw [wrap_i64 (n := (hi : Int)) (by omega) (by omega), decide_eq_false (by omega), rng_none (by omega), Nat.or_zero]
      rfl
    · intro i hi2 nx a hnx
      simp only [f11_w1B, f11_w1b0N, f11_w1b0]
      rw [wrap_i64 (n := (hi : Int)) (by omega) (by omega)]
      by_cases hc : i ≤ hi
      · rw [decide_eq_true (by omega), ck_i64 i (by omega), ck_mod i]
        simp only [cond_true]
        rw [put_i64 a i (by omega), show IntKind.wrap .i64 ((i : Int) + 1) = ((i + 1 : Nat) : Int) by rw [wrap_i64] <;> omega, hnx, rng_step hc (by omega), Nat.or_assoc]
      · rw [decide_eq_false (by omega), rng_none (by omega), Nat.or_zero]
        rfl)

def notN (n : Nat) : Nat := 2 ^ 256 - 1 ^^^ n
theorem notN_bit (n i : Nat) : (notN n).testBit i = (decide (i < 256) ^^ n.testBit i) := by rw [notN, Nat.testBit_xor, Nat.testBit_two_pow_sub_one]
theorem notN_lt {n : Nat} (h : n < 2 ^ 256) : notN n < 2 ^ 256 := Nat.xor_lt_two_pow (by omega) h
theorem wd_ones {i : Nat} (hi : i < 4) : wd (2 ^ 256 - 1) i = 18446744073709551615 := by
  match i, hi with
  | 0, _ => rfl
  | 1, _ => rfl
  | 2, _ => rfl
  | 3, _ => rfl
theorem spec_Not : Ult fun k => ∀ (n : Nat) ret, G10 k (bs n) ret = ret (bs (notN n)) :=
  Ult.succ ((Ult.ge 5).mono fun k hk n ret => by
    obtain ⟨m, rfl⟩ := five hk
    simp only [G10, f10_N, f10_e, f10_w1N]
    have x : ∀ i, i < 4 → intBit .xor .u64 18446744073709551615 (wd n i : Int) = (wd (notN n) i : Int) := fun i hi => by
      rw [notN, wd_xor, wd_ones hi, ← ib_xor (by decide) (wd_lt n i)]; rfl
    have e : bs (notN n) = .agg [.int (intBit .xor .u64 18446744073709551615 (wd n 0 : Int)), .int (intBit .xor .u64 18446744073709551615 (wd n 1 : Int)), .int (intBit .xor .u64 18446744073709551615 (wd n 2 : Int)), .int (intBit .xor .u64 18446744073709551615 (wd n 3 : Int))] := by
      rw [x 0 (by omega), x 1 (by omega), x 2 (by omega), x 3 (by omega)]; rfl
    rw [e]
    simp only [bs]
    refine (loopR_succ _ (m + 4) _).trans ((show _ = loopR _ (m + 4) _ from rfl).trans ?_)
    refine (loopR_succ _ (m + 3) _).trans ((show _ = loopR _ (m + 3) _ from rfl).trans ?_)
    refine (loopR_succ _ (m + 2) _).trans ((show _ = loopR _ (m + 2) _ from rfl).trans ?_)
    refine (loopR_succ _ (m + 1) _).trans ((show _ = loopR _ (m + 1) _ from rfl).trans ?_)
    exact (loopR_succ _ m _).trans rfl)
theorem spec_And : Ult fun k => ∀ (n o : Nat) ret, G42 k (bs n) (bs o) ret = ret (bs (n &&& o)) :=
  Ult.succ ((Ult.ge 5).mono fun k hk n o ret => by
    obtain ⟨m, rfl⟩ := five hk
    simp only [G42, f42_N, f42_e, f42_w1N]
    have x : ∀ i, intBit .and .u64 (wd n i : Int) (wd o i : Int) = (wd (n &&& o) i : Int) := fun i => by rw [wd_and, ← ib_and (wd_lt n i) (wd_lt o i)]
    have e : bs (n &&& o) = .agg [.int (intBit .and .u64 (wd n 0 : Int) (wd o 0 : Int)), .int (intBit .and .u64 (wd n 1 : Int) (wd o 1 : Int)), .int (intBit .and .u64 (wd n 2 : Int) (wd o 2 : Int)), .int (intBit .and .u64 (wd n 3 : Int) (wd o 3 : Int))] := by
      rw [x 0, x 1, x 2, x 3]; rfl
    rw [e]
    simp only [bs]
    refine (loopR_succ _ (m + 4) _).trans ((show _ = loopR _ (m + 4) _ from rfl).trans ?_)
    refine (loopR_succ _ (m + 3) _).trans ((show _ = loopR _ (m + 3) _ from rfl).trans ?_)
    refine (loopR_succ _ (m + 2) _).trans ((show _ = loopR _ (m + 2) _ from rfl).trans ?_)
    refine (loopR_succ _ (m + 1) _).trans ((show _ = loopR _ (m + 1) _ from rfl).trans ?_)
    exact (loopR_succ _ m _).trans rfl)
theorem spec_Minus : Ult fun k => ∀ (n o : Nat) ret, G38 k (bs n) (bs o) ret = ret (bs (n &&& notN o)) :=
  Ult.succ ((spec_Not.and spec_And).mono fun k ⟨h1, h2⟩ n o ret => by
    simp only [G38, f38_N, f38_e, h1, h2])
end Go.Proofs.Ytoefnbinfmbckaa
