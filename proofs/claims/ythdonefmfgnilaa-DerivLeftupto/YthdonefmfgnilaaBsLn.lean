/- How many bytes a set has: the printed function comes to it. -/
import Derived.Test.YthdonefmfgnilaaBsF0
set_option linter.unusedSimpArgs false
set_option linter.unusedVariables false
namespace Go.Proofs.Ythdonefmfgnilaa
open Go Go.X

theorem spec_Ones : Ult fun k => ∀ (x : Nat) ret, x < 2 ^ 64 → G111 k (x : Int) ret = ret (popN 8 x : Int) :=
  Ult.succ (Ult.of fun k x ret hx => by
    simp only [G111, f111_N, f111_e]
    have := ones_int hx
    simp only at this
    rw [this])

theorem five {k : Nat} (h : 5 ≤ k) : ∃ m, k = m + 5 := ⟨k - 5, by omega⟩

theorem spec_Len : Ult fun k => ∀ (n : Nat) ret, G85 k (bs n) ret = ret ((lst n).length : Int) :=
  Ult.succ ((spec_Ones.and (Ult.ge 5)).mono fun k ⟨h1, hk⟩ n ret => by
    simp only [G85, f85_N, f85_e, f85_w1N]
    have hl := len_lst n
    have b := lst_length_le n
    have w0 := fun r => h1 (wd n 0) r (wd_lt n 0)
    have w1 := fun r => h1 (wd n 1) r (wd_lt n 1)
    have w2 := fun r => h1 (wd n 2) r (wd_lt n 2)
    have w3 := fun r => h1 (wd n 3) r (wd_lt n 3)
    generalize popN 8 (wd n 0) = q0 at *
    generalize popN 8 (wd n 1) = q1 at *
    generalize popN 8 (wd n 2) = q2 at *
    generalize popN 8 (wd n 3) = q3 at *
    have step : ∀ (nx : Int × Int → R) (a i q : Nat), i < 4 → (PV.num (PV.fld (bs n) i)) = (wd n i : Int) → a ≤ 1000 → q ≤ 1000 → (∀ r, G111 k (wd n i : Int) r = r (q : Int)) →
        f85_w1B k (G111 k) ret (bs n) nx ((a : Int), (i : Int)) = nx (((a + q : Nat) : Int), ((i + 1 : Nat) : Int)) := fun nx a i q hi hw ha hq h => by
      simp only [f85_w1B, f85_w1b0N, f85_w1b0]
      rw [decide_eq_true (by omega), decide_eq_true (by omega)]
      simp only [Bool.and_self, cond_true, Int.toNat_natCast]
      rw [hw, h, wrap_i64 (by omega) (by omega), wrap_i64 (by omega) (by omega)]
      rfl
    obtain ⟨m, hm⟩ := five hk
    have e0 := fun nx => step nx 0 0 q0 (by omega) (bs_num n (by omega)) (by omega) (by omega) w0
    have e1 := fun nx => step nx (0 + q0) 1 q1 (by omega) (bs_num n (by omega)) (by omega) (by omega) w1
    have e2 := fun nx => step nx (0 + q0 + q1) 2 q2 (by omega) (bs_num n (by omega)) (by omega) (by omega) w2
    have e3 := fun nx => step nx (0 + q0 + q1 + q2) 3 q3 (by omega) (bs_num n (by omega)) (by omega) (by omega) w3
    have e4 : ∀ nx (a : Int), f85_w1B k (G111 k) ret (bs n) nx (a, ((3 + 1 : Nat) : Int)) = ret a := fun nx a => by
      simp only [f85_w1B, f85_w1b0N, f85_w1b0]
      rfl
    generalize f85_w1B k (G111 k) ret (bs n) = body at *
    rw [hm]
    refine (loopR_succ body (m + 4) _).trans ((e0 _).trans ((loopR_succ body (m + 3) _).trans ((e1 _).trans ((loopR_succ body (m + 2) _).trans ((e2 _).trans ((loopR_succ body (m + 1) _).trans ((e3 _).trans ((loopR_succ body m _).trans ((e4 _ _).trans ?_)))))))))
    rw [hl]; congr 1; omega)
end Go.Proofs.Ythdonefmfgnilaa
