/- Sets: the printed functions Range, Len, Not, Or, And, Minus of package byteset. -/
import Derived.Test.YtifnlmfhbepjcaaBsF0
set_option linter.unusedSimpArgs false
set_option linter.unusedVariables false
namespace Go.Proofs.Ytifnlmfhbepjcaa
open Go Go.X

theorem spec_Range : Ult fun k => ∀ (lo hi : Nat) ret, lo < 256 → hi < 256 → G22 k (lo : Int) (hi : Int) ret = ret (bs (rng lo hi)) :=
  Ult.succ ((Ult.ge 600).mono fun k hk lo hi ret h1 h2 => by
    simp only [G22, f22_N, f22_e, f22_w1N]
    rw [wrap_i64 (by omega) (by omega), bs_zero]
    have := loopR_upE (body := f22_w1B k ret (hi : Int)) (fun (i : Nat) (a : Nat) => ((i : Int), bs a)) (res := fun i a => ret (bs (a ||| rng i hi))) (max lo (hi + 1)) ?_ ?_ k lo 0 (by omega) (by omega)
    · rw [this, Nat.zero_or]
    · intro nx a
      simp only [f22_w1B, f22_w1b0N, f22_w1b0]
      rw [wrap_i64 (n := (hi : Int)) (by omega) (by omega), decide_eq_false (by omega), rng_none (by omega), Nat.or_zero]
      rfl
    · intro i hi2 nx a hnx
      simp only [f22_w1B, f22_w1b0N, f22_w1b0]
      rw [wrap_i64 (n := (hi : Int)) (by omega) (by omega)]
      by_cases hc : i ≤ hi
      · rw [decide_eq_true (by omega), ck_i64 i (by omega), ck_mod i]
        simp only [cond_true]
        rw [put_i64 a i (by omega), show IntKind.wrap .i64 ((i : Int) + 1) = ((i + 1 : Nat) : Int) by rw [wrap_i64] <;> omega, hnx, rng_step hc (by omega), Nat.or_assoc]
      · rw [decide_eq_false (by omega), rng_none (by omega), Nat.or_zero]
        rfl)

theorem spec_Ones : Ult fun k => ∀ (x : Nat) ret, x < 2 ^ 64 → G63 k (x : Int) ret = ret (popN 8 x : Int) :=
  Ult.succ (Ult.of fun k x ret hx => by
    simp only [G63, f63_N, f63_e]
    have := ones_int hx
    simp only at this
    rw [this])

theorem five {k : Nat} (h : 5 ≤ k) : ∃ m, k = m + 5 := ⟨k - 5, by omega⟩

theorem spec_Len : Ult fun k => ∀ (n : Nat) ret, G16 k (bs n) ret = ret ((lst n).length : Int) :=
  Ult.succ ((spec_Ones.and (Ult.ge 5)).mono fun k ⟨h1, hk⟩ n ret => by
    simp only [G16, f16_N, f16_e, f16_w1N]
    have hl := len_lst n
    have b := lst_length_le n
    have w0 := fun r => h1 (wd n 0) r (wd_lt n 0)
    have w1 := fun r => h1 (wd n 1) r (wd_lt n 1)
    have w2 := fun r => h1 (wd n 2) r (wd_lt n 2)
    have w3 := fun r => h1 (wd n 3) r (wd_lt n 3)
    generalize popN 8 (wd n 0) = q0 at *
    generalize popN 8 (wd n 1) = q1 at *
    generalize popN 8 (wd n 2) = q2 at *
    generalize popN 8 (wd n 3) = q3 at *
    have step : ∀ (nx : Int × Int → R) (a i q : Nat), i < 4 → (PV.num (PV.fld (bs n) i)) = (wd n i : Int) → a ≤ 1000 → q ≤ 1000 → (∀ r, G63 k (wd n i : Int) r = r (q : Int)) →
        f16_w1B k (G63 k) ret (bs n) nx ((a : Int), (i : Int)) = nx (((a + q : Nat) : Int), ((i + 1 : Nat) : Int)) := fun nx a i q hi hw ha hq h => by
      simp only [f16_w1B, f16_w1b0N, f16_w1b0]
      rw [decide_eq_true (by omega), decide_eq_true (by omega)]
      simp only [Bool.and_self, cond_true, Int.toNat_natCast]
      rw [hw, h, wrap_i64 (by omega) (by omega), wrap_i64 (by omega) (by omega)]
      rfl
    obtain ⟨m, hm⟩ := five hk
    have e0 := fun nx => step nx 0 0 q0 (by omega) (bs_num n (by omega)) (by omega) (by omega) w0
    have e1 := fun nx => step nx (0 + q0) 1 q1 (by omega) (bs_num n (by omega)) (by omega) (by omega) w1
    have e2 := fun nx => step nx (0 + q0 + q1) 2 q2 (by omega) (bs_num n (by omega)) (by omega) (by omega) w2
    have e3 := fun nx => step nx (0 + q0 + q1 + q2) 3 q3 (by omega) (bs_num n (by omega)) (by omega) (by omega) w3
    have e4 : ∀ nx (a : Int), f16_w1B k (G63 k) ret (bs n) nx (a, ((3 + 1 : Nat) : Int)) = ret a := fun nx a => by
      simp only [f16_w1B, f16_w1b0N, f16_w1b0]
      rfl
    generalize f16_w1B k (G63 k) ret (bs n) = body at *
    rw [hm]
    refine (loopR_succ body (m + 4) _).trans ((e0 _).trans ((loopR_succ body (m + 3) _).trans ((e1 _).trans ((loopR_succ body (m + 2) _).trans ((e2 _).trans ((loopR_succ body (m + 1) _).trans ((e3 _).trans ((loopR_succ body m _).trans ((e4 _ _).trans ?_)))))))))
    rw [hl]; congr 1; omega)
def notN (n : Nat) : Nat := 2 ^ 256 - 1 ^^^ n
theorem notN_bit (n i : Nat) : (notN n).testBit i = (decide (i < 256) ^^ n.testBit i) := by rw [notN, Nat.testBit_xor, Nat.testBit_two_pow_sub_one]
theorem notN_lt {n : Nat} (h : n < 2 ^ 256) : notN n < 2 ^ 256 := Nat.xor_lt_two_pow (by omega) h
theorem wd_ones {i : Nat} (hi : i < 4) : wd (2 ^ 256 - 1) i = 18446744073709551615 := by
  match i, hi with
  | 0, _ => rfl
  | 1, _ => rfl
  | 2, _ => rfl
  | 3, _ => rfl
theorem spec_Not : Ult fun k => ∀ (n : Nat) ret, G21 k (bs n) ret = ret (bs (notN n)) :=
  Ult.succ ((Ult.ge 5).mono fun k hk n ret => by
    obtain ⟨m, rfl⟩ := five hk
    simp only [G21, f21_N, f21_e, f21_w1N]
    have x : ∀ i, i < 4 → intBit .xor .u64 18446744073709551615 (wd n i : Int) = (wd (notN n) i : Int) := fun i hi => by
      rw [notN, wd_xor, wd_ones hi, ← ib_xor (by decide) (wd_lt n i)]; rfl
    have e : bs (notN n) = .agg [.int (intBit .xor .u64 18446744073709551615 (wd n 0 : Int)), .int (intBit .xor .u64 18446744073709551615 (wd n 1 : Int)), .int (intBit .xor .u64 18446744073709551615 (wd n 2 : Int)), .int (intBit .xor .u64 18446744073709551615 (wd n 3 : Int))] := by
      rw [x 0 (by omega), x 1 (by omega), x 2 (by omega), x 3 (by omega)]; rfl
    rw [e]
    simp only [bs]
    refine (loopR_succ _ (m + 4) _).trans ((show _ = loopR _ (m + 4) _ from rfl).trans ?_)
    refine (loopR_succ _ (m + 3) _).trans ((show _ = loopR _ (m + 3) _ from rfl).trans ?_)
    refine (loopR_succ _ (m + 2) _).trans ((show _ = loopR _ (m + 2) _ from rfl).trans ?_)
    refine (loopR_succ _ (m + 1) _).trans ((show _ = loopR _ (m + 1) _ from rfl).trans ?_)
    exact (loopR_succ _ m _).trans rfl)
theorem spec_Or : Ult fun k => ∀ (n o : Nat) ret, G25 k (bs n) (bs o) ret = ret (bs (n ||| o)) :=
  Ult.succ ((Ult.ge 5).mono fun k hk n o ret => by
    obtain ⟨m, rfl⟩ := five hk
    simp only [G25, f25_N, f25_e, f25_w1N]
    have x : ∀ i, intBit .or .u64 (wd n i : Int) (wd o i : Int) = (wd (n ||| o) i : Int) := fun i => by rw [wd_or, ← ib_or (wd_lt n i) (wd_lt o i)]
    have e : bs (n ||| o) = .agg [.int (intBit .or .u64 (wd n 0 : Int) (wd o 0 : Int)), .int (intBit .or .u64 (wd n 1 : Int) (wd o 1 : Int)), .int (intBit .or .u64 (wd n 2 : Int) (wd o 2 : Int)), .int (intBit .or .u64 (wd n 3 : Int) (wd o 3 : Int))] := by
      rw [x 0, x 1, x 2, x 3]; rfl
    rw [e]
    simp only [bs]
    refine (loopR_succ _ (m + 4) _).trans ((show _ = loopR _ (m + 4) _ from rfl).trans ?_)
    refine (loopR_succ _ (m + 3) _).trans ((show _ = loopR _ (m + 3) _ from rfl).trans ?_)
    refine (loopR_succ _ (m + 2) _).trans ((show _ = loopR _ (m + 2) _ from rfl).trans ?_)
    refine (loopR_succ _ (m + 1) _).trans ((show _ = loopR _ (m + 1) _ from rfl).trans ?_)
    exact (loopR_succ _ m _).trans rfl)
theorem spec_And : Ult fun k => ∀ (n o : Nat) ret, G26 k (bs n) (bs o) ret = ret (bs (n &&& o)) :=
  Ult.succ ((Ult.ge 5).mono fun k hk n o ret => by
    obtain ⟨m, rfl⟩ := five hk
    simp only [G26, f26_N, f26_e, f26_w1N]
    have x : ∀ i, intBit .and .u64 (wd n i : Int) (wd o i : Int) = (wd (n &&& o) i : Int) := fun i => by rw [wd_and, ← ib_and (wd_lt n i) (wd_lt o i)]
    have e : bs (n &&& o) = .agg [.int (intBit .and .u64 (wd n 0 : Int) (wd o 0 : Int)), .int (intBit .and .u64 (wd n 1 : Int) (wd o 1 : Int)), .int (intBit .and .u64 (wd n 2 : Int) (wd o 2 : Int)), .int (intBit .and .u64 (wd n 3 : Int) (wd o 3 : Int))] := by
      rw [x 0, x 1, x 2, x 3]; rfl
    rw [e]
    simp only [bs]
    refine (loopR_succ _ (m + 4) _).trans ((show _ = loopR _ (m + 4) _ from rfl).trans ?_)
    refine (loopR_succ _ (m + 3) _).trans ((show _ = loopR _ (m + 3) _ from rfl).trans ?_)
    refine (loopR_succ _ (m + 2) _).trans ((show _ = loopR _ (m + 2) _ from rfl).trans ?_)
    refine (loopR_succ _ (m + 1) _).trans ((show _ = loopR _ (m + 1) _ from rfl).trans ?_)
    exact (loopR_succ _ m _).trans rfl)
theorem spec_Minus : Ult fun k => ∀ (n o : Nat) ret, G27 k (bs n) (bs o) ret = ret (bs (n &&& notN o)) :=
  Ult.succ ((spec_Not.and spec_And).mono fun k ⟨h1, h2⟩ n o ret => by
    simp only [G27, f27_N, f27_e, h1, h2])
end Go.Proofs.Ytifnlmfhbepjcaa
