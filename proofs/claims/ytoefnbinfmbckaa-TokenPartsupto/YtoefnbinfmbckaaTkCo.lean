/- Any two numbers in braces (TokenCounts): what is read of such a text. -/
import Derived.Test.YtoefnbinfmbckaaF
import Derived.Test.YtoefnbinfmbckaaGen
set_option linter.unusedSimpArgs false
set_option linter.unusedVariables false
set_option maxRecDepth 20000
namespace Go.Proofs.Ytoefnbinfmbckaa
open Go Go.X

theorem wrap_u8' {n : Int} (h1 : 0 ≤ n) (h2 : n < 256) : IntKind.wrap .u8 n = n := by
  simp only [IntKind.wrap, IntKind.signed, IntKind.bits, Bool.false_and]
  simp
  omega
theorem wrap_u64' {n : Int} (h1 : 0 ≤ n) (h2 : n < 18446744073709551616) : IntKind.wrap .u64 n = n := by
  simp only [IntKind.wrap, IntKind.signed, IntKind.bits, Bool.false_and]
  simp
  omega
/-- A cutter. -/
def ct (p : List Int) (at_ : Nat) : PV := .agg [.str p, .int (at_ : Int)]
theorem ct0 (p : List Int) (a : Nat) : PV.chars (PV.fld (ct p a) 0) = p := by cases p <;> rfl
theorem ct1 (p : List Int) (a : Nat) : PV.num (PV.fld (ct p a) 1) = (a : Int) := by cases a <;> rfl
theorem ct_set (p : List Int) (a : Nat) (x : Int) : PV.agg (List.set (PV.flds (ct p a)) 1 (PV.int x)) = .agg [.str p, .int x] := rfl
/-- Does it begin so? -/
def hp (s r : List Int) : Bool := decide ((s.length : Int) ≤ (r.length : Int)) && decide (r.take s.length = s)
theorem hp_nil (r : List Int) : hp [] r = true := by simp [hp]
theorem hp_cons (a c : Int) (s r : List Int) : hp (a :: s) (c :: r) = (decide (c = a) && hp s r) := by
  unfold hp
  rw [Bool.eq_iff_iff]
  simp only [Bool.and_eq_true, decide_eq_true_eq, List.length_cons, List.take_succ_cons, List.cons.injEq]
  constructor
  · rintro ⟨h1, h2, h3⟩; exact ⟨h2, by omega, h3⟩
  · rintro ⟨h1, h2, h3⟩; exact ⟨by omega, h1, h3⟩
theorem spec_is : Ult fun k => ∀ (s p : List Int) (a : Nat) ret, a ≤ p.length → p.length ≤ 1000000 → s.length ≤ 1000 → G16 k s (ct p a) ret = bif hp s (p.drop a) then ret true (ct p (a + s.length)) else ret false (ct p a) :=
  Ult.succ (Ult.succ (Ult.succ (Ult.of fun k s p a ret ha hp1 hs => by
    simp only [G16, f16_N, f16_e, G22, f22_N, f22_e, G27, f27_N, f27_e, ct0, ct1, Int.toNat_natCast, List.take_length, Int.toNat_zero, List.drop_zero, ct_set]
    rw [dT (show (0 : Int) ≤ (a : Int) by omega), dT (show (a : Int) ≤ (p.length : Int) by omega), dT (show (p.length : Int) ≤ (p.length : Int) by omega), wrap_i64 (by omega) (by omega)]
    simp only [Bool.and_self, cond_true]
    unfold hp
    by_cases h1 : (s.length : Int) ≤ ((p.drop a).length : Int)
    · rw [dT h1, dT (show (0 : Int) ≤ 0 by omega), dT (show (0 : Int) ≤ (s.length : Int) by omega)]
      simp only [beq_self_eq_true, Bool.and_self, cond_true, Bool.true_and]
      cases decide ((p.drop a).take s.length = s) <;> rfl
    · rw [dF h1]; rfl)))

def isD (c : Int) : Prop := 48 ≤ c ∧ c ≤ 57
theorem dig_idx {c : Int} (h : isD c) : (0 : Int) ≤ idxB [48, 49, 50, 51, 52, 53, 54, 55, 56, 57] c := by
  obtain ⟨h1, h2⟩ := h
  have : c = 48 ∨ c = 49 ∨ c = 50 ∨ c = 51 ∨ c = 52 ∨ c = 53 ∨ c = 54 ∨ c = 55 ∨ c = 56 ∨ c = 57 := by omega
  rcases this with rfl | rfl | rfl | rfl | rfl | rfl | rfl | rfl | rfl | rfl <;> decide
theorem spec_idx : Ult fun k => ∀ (s : List Int) (c : Int) ret, G20 k s c ret = ret (idxB s c) :=
  Ult.succ (Ult.succ (Ult.of fun k s c ret => by
    simp only [G20, f20_N, f20_e, G26, f26_N, f26_e, G32]))
/-- How great, but no greater than 256. -/
def nv : Int → List Int → Int
  | n, [] => n
  | n, d :: ds => nv (if (256 : Int) < 10 * n + (d - 48) then 256 else 10 * n + (d - 48)) ds
theorem drop_at {p : List Int} {a : Nat} {x : Int} {t : List Int} (h : p.drop a = x :: t) : a < p.length ∧ p.getD a 0 = x ∧ p.drop (a + 1) = t := by
  have hl : a < p.length := by
    rcases Nat.lt_or_ge a p.length with h1 | h1
    · exact h1
    · rw [List.drop_eq_nil_of_le h1] at h; cases h
  rw [List.drop_eq_getElem_cons hl] at h
  injection h with h1 h2
  exact ⟨hl, by simp [List.getD, hl, h1], h2⟩
theorem spec_number : Ult fun k => ∀ (p : List Int) (a : Nat) (ds : List Int) (c : Int) (t : List Int) ret, p.length ≤ 1000 → p.drop a = ds ++ c :: t → (∀ d ∈ ds, isD d) → idxB [48, 49, 50, 51, 52, 53, 54, 55, 56, 57] c = -1 →
    G23 k (ct p a) ret = ret (nv 0 ds) (decide (0 < ds.length)) (ct p (a + ds.length)) :=
  Ult.succ ((spec_idx.and (Ult.ge 1002)).mono fun k ⟨h1, hk⟩ p a ds c t ret hp1 hd hds hc => by
    simp only [G23, f23_N, f23_e, f23_w1N]
    have gen : ∀ (ds : List Int) (kk : Nat) (n : Int) (b : Nat), ds.length < kk → p.drop b = ds ++ c :: t → (∀ d ∈ ds, isD d) → 0 ≤ n → n ≤ 256 → a ≤ b →
        loopR (f23_w1B k (G20 k) ret (ct p a)) kk (n, ct p b) = ret (nv n ds) (decide (a < b + ds.length)) (ct p (b + ds.length)) := by
      intro ds
      induction ds with
      | nil =>
        intro kk n b hkk hdb _ hn0 hn1 hab
        obtain ⟨kk, rfl⟩ : ∃ k', kk = k' + 1 := ⟨kk - 1, by simp at hkk; omega⟩
        obtain ⟨d1, d2, _⟩ := drop_at (show p.drop b = c :: t from hdb)
        rw [vsucc]
        simp only [f23_w1B, f23_w1b0N, f23_w1b0, ct0, ct1, Int.toNat_natCast, d2, h1, hc]
        rw [dT (show (b : Int) < (p.length : Int) by omega), dT (show (0 : Int) ≤ (b : Int) by omega), dF (show ¬ (0 : Int) ≤ -1 by omega), show decide ((a : Int) < (b : Int)) = decide (a < b + ([] : List Int).length) from decide_eq_decide.2 (by simp)]
        simp only [beq_self_eq_true, Bool.and_self, cond_true, cond_false, nv, List.length_nil, Nat.add_zero]
      | cons d ds ih =>
        intro kk n b hkk hdb hds hn0 hn1 hab
        simp only [List.length_cons] at hkk
        obtain ⟨kk, rfl⟩ : ∃ k', kk = k' + 1 := ⟨kk - 1, by omega⟩
        obtain ⟨d1, d2, d3⟩ := drop_at (show p.drop b = d :: (ds ++ c :: t) from hdb)
        have hdd := hds d (by simp)
        have hix := dig_idx hdd
        rw [vsucc]
        simp only [f23_w1B, f23_w1b0N, f23_w1b0, ct0, ct1, Int.toNat_natCast, d2, h1, ct_set]
        have w1 : IntKind.wrap .u8 (d - 48) = d - 48 := wrap_u8' (by unfold isD at hdd; omega) (by unfold isD at hdd; omega)
        unfold isD at hdd
        rw [dT (show (b : Int) < (p.length : Int) by omega), dT (show (0 : Int) ≤ (b : Int) by omega), dT hix, w1, wrap_i64 (show -9223372036854775808 ≤ 10 * n by omega) (by omega), wrap_i64 (show -9223372036854775808 ≤ d - 48 by omega) (by omega), wrap_i64 (show -9223372036854775808 ≤ 10 * n + (d - 48) by omega) (by omega), wrap_i64 (show -9223372036854775808 ≤ (b : Int) + 1 by omega) (by omega)]
        simp only [beq_self_eq_true, Bool.and_self, cond_true]
        have := ih kk (if (256 : Int) < 10 * n + (d - 48) then 256 else 10 * n + (d - 48)) (b + 1) (by omega) d3 (fun x hx => hds x (by simp [hx])) (by split <;> omega) (by split <;> omega) (by omega)
        rw [show b + 1 + ds.length = b + (d :: ds).length by simp only [List.length_cons]; omega] at this
        exact this
    have hdl : ds.length < p.length := by
      have := congrArg List.length hd
      simp only [List.length_drop, List.length_append, List.length_cons] at this; omega
    have := gen ds k 0 a (by omega) hd hds (by omega) (by omega) (Nat.le_refl _)
    rw [show decide (a < a + ds.length) = decide (0 < ds.length) from decide_eq_decide.2 (by omega)] at this
    exact this)

/-- A number's digits. -/
def digs : Nat → Nat → List Int
  | 0, n => [48 + ((n % 10 : Nat) : Int)]
  | f + 1, n => if n < 10 then [48 + (n : Int)] else digs f (n / 10) ++ [48 + ((n % 10 : Nat) : Int)]
theorem digs_isD : ∀ f n, ∀ d ∈ digs f n, isD d
  | 0, n, d, h => by
    have : d = 48 + ((n % 10 : Nat) : Int) := by simpa [digs] using h
    unfold isD; omega
  | f + 1, n, d, h => by
    simp only [digs] at h
    split at h
    · have : d = 48 + (n : Int) := by simpa using h
      unfold isD; omega
    · rcases List.mem_append.1 h with h | h
      · exact digs_isD f _ d h
      · have : d = 48 + ((n % 10 : Nat) : Int) := by simpa using h
        unfold isD; omega
theorem digs_len : ∀ f n, 1 ≤ (digs f n).length ∧ (digs f n).length ≤ f + 1
  | 0, n => by simp [digs]
  | f + 1, n => by
    have := digs_len f (n / 10)
    simp only [digs]
    split
    · simp
    · simp only [List.length_append, List.length_singleton]; omega
theorem nv_app : ∀ (l : List Int) (n d : Int), nv n (l ++ [d]) = if (256 : Int) < 10 * nv n l + (d - 48) then 256 else 10 * nv n l + (d - 48)
  | [], n, d => rfl
  | x :: l, n, d => nv_app l _ d
theorem nv_digs : ∀ f n : Nat, n < 10 ^ (f + 1) → nv 0 (digs f n) = ((min n 256 : Nat) : Int)
  | 0, n, h => by
    simp only [digs, nv]
    have : n % 10 = n := Nat.mod_eq_of_lt (by simpa using h)
    rw [this]
    have : n < 10 := by simpa using h
    split <;> omega
  | f + 1, n, h => by
    have ih := nv_digs f (n / 10) (by rw [Nat.pow_succ] at h; omega)
    simp only [digs]
    by_cases hn : n < 10
    · rw [if_pos hn]; simp only [nv]; split <;> omega
    · rw [if_neg hn, nv_app, ih]; split <;> omega
theorem spec_num : Ult fun k => ∀ (n : Nat) ret, n ≤ 2000 → G14 k (n : Int) ret = ret (digs 3 n) := by
  have step : ∀ f : Nat, f ≤ 3 → Ult fun k => ∀ (n : Nat) ret, n < 10 ^ (f + 1) → n ≤ 2000 → G14 k (n : Int) ret = ret (digs f n) := by
    intro f
    induction f with
    | zero =>
      intro _
      refine Ult.succ (Ult.of fun k n ret hn _ => ?_)
      have hn : n < 10 := by simpa using hn
      simp only [G14, f14_N, f14_e, digs]
      rw [dT (show (n : Int) < 10 by omega), wrap_u8' (show 0 ≤ (n : Int) by omega) (by omega), wrap_u8' (show 0 ≤ 48 + (n : Int) by omega) (by omega), show n % 10 = n by omega]
      rfl
    | succ f ih =>
      intro hf
      refine Ult.succ ((ih (by omega)).mono fun k h n ret hn hn2 => ?_)
      simp only [G14, f14_N, f14_e, digs]
      by_cases h10 : n < 10
      · rw [dT (show (n : Int) < 10 by omega), if_pos h10, wrap_u8' (show 0 ≤ (n : Int) by omega) (by omega), wrap_u8' (show 0 ≤ 48 + (n : Int) by omega) (by omega)]
        rfl
      · have e1 : Int.tdiv (n : Int) 10 = ((n / 10 : Nat) : Int) := rfl
        have e2 : Int.tmod (n : Int) 10 = ((n % 10 : Nat) : Int) := rfl
        rw [dF (show ¬ (n : Int) < 10 by omega), if_neg h10, e1, e2, wrap_u64' (by omega) (by omega), wrap_u8' (show 0 ≤ ((n % 10 : Nat) : Int) by omega) (by omega), wrap_u8' (show 0 ≤ 48 + ((n % 10 : Nat) : Int) by omega) (by omega)]
        simp only [cond_false]
        rw [h (n / 10) _ (by rw [Nat.pow_succ] at hn; omega) (by omega)]
        have := digs_len f (n / 10)
        rw [dT (by simp only [List.length_cons, List.length_nil]; omega)]
        rfl
  exact (step 3 (by omega)).mono fun k h n ret hn => h n ret (by omega) hn
end Go.Proofs.Ytoefnbinfmbckaa
