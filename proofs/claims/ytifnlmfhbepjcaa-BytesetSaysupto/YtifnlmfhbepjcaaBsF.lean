/- The printed functions of package byteset come to what they should. -/
import Derived.Test.YtifnlmfhbepjcaaFb
import Derived.Test.YtifnlmfhbepjcaaBs
set_option linter.unusedSimpArgs false
set_option linter.unusedVariables false
namespace Go.Proofs.Ytifnlmfhbepjcaa
open Go Go.X

def rng (lo hi : Nat) : Nat := mk (fun i => decide (lo ≤ i) && decide (i ≤ hi)) 256
theorem rng_bit (lo hi i : Nat) : (rng lo hi).testBit i = (decide (i < 256) && (decide (lo ≤ i) && decide (i ≤ hi))) := mk_bit _ _ _
theorem rng_lt (lo hi : Nat) : rng lo hi < 2 ^ 256 := mk_lt _ _
theorem bs_zero : PV.agg [PV.int 0, PV.int 0, PV.int 0, PV.int 0] = bs 0 := rfl
theorem rng_none {lo hi : Nat} (h : hi < lo) : rng lo hi = 0 := by
  apply Nat.eq_of_testBit_eq; intro i
  rw [rng_bit, Nat.zero_testBit]
  by_cases h1 : lo ≤ i
  · rw [decide_eq_false (show ¬ i ≤ hi by omega)]; simp
  · rw [decide_eq_false h1]; simp
theorem rng_step {i hi : Nat} (h : i ≤ hi) (hi2 : i < 256) : rng i hi = 2 ^ i ||| rng (i + 1) hi := by
  apply Nat.eq_of_testBit_eq; intro j
  rw [Nat.testBit_or, rng_bit, rng_bit, Nat.testBit_two_pow, Bool.eq_iff_iff]
  simp only [Bool.and_eq_true, Bool.or_eq_true, decide_eq_true_eq]
  omega
/-- A byte into a set, as the program does it. -/
theorem put_u8 (n x : Nat) (hx : x < 256) : PV.agg (List.set (PV.flds (bs n)) ((IntKind.wrap .u8 (Int.tdiv (x : Int) 64))).toNat (PV.int (intBit .or .u64 (PV.num (PV.fld (bs n) ((IntKind.wrap .u8 (Int.tdiv (x : Int) 64))).toNat)) (IntKind.wrap .u64 ((1 : Int) * 2 ^ (min ((Int.tmod (x : Int) 64)).toNat 64)))))) = bs (n ||| 2 ^ x) := by
  have h1 : ((IntKind.wrap .u8 (Int.tdiv (x : Int) 64))).toNat = x / 64 := by rw [tdiv64, wrap_u8 (by omega) (by omega)]; rfl
  have h2 : ((Int.tmod (x : Int) 64)).toNat = x % 64 := by rw [tmod64]; rfl
  rw [h1, h2, bs_num n (by omega)]
  exact bs_put n x hx
theorem put_i64 (n x : Nat) (hx : x < 256) : PV.agg (List.set (PV.flds (bs n)) ((IntKind.wrap .i64 (Int.tdiv (x : Int) 64))).toNat (PV.int (intBit .or .u64 (PV.num (PV.fld (bs n) ((IntKind.wrap .i64 (Int.tdiv (x : Int) 64))).toNat)) (IntKind.wrap .u64 ((1 : Int) * 2 ^ (min ((Int.tmod (x : Int) 64)).toNat 64)))))) = bs (n ||| 2 ^ x) := by
  have h1 : ((IntKind.wrap .i64 (Int.tdiv (x : Int) 64))).toNat = x / 64 := by rw [tdiv64, wrap_i64 (by omega) (by omega)]; rfl
  have h2 : ((Int.tmod (x : Int) 64)).toNat = x % 64 := by rw [tmod64]; rfl
  rw [h1, h2, bs_num n (by omega)]
  exact bs_put n x hx
theorem ck_u8 (x : Nat) (hx : x < 256) : (true && decide ((0 : Int) ≤ (IntKind.wrap .u8 (Int.tdiv (x : Int) 64))) && decide ((IntKind.wrap .u8 (Int.tdiv (x : Int) 64)) < 4)) = true := by
  rw [tdiv64, wrap_u8 (by omega) (by omega)]
  simp only [Bool.true_and, Bool.and_eq_true, decide_eq_true_eq]; omega
theorem ck_i64 (x : Nat) (hx : x < 256) : (true && decide ((0 : Int) ≤ (IntKind.wrap .i64 (Int.tdiv (x : Int) 64))) && decide ((IntKind.wrap .i64 (Int.tdiv (x : Int) 64)) < 4)) = true := by
  rw [tdiv64, wrap_i64 (by omega) (by omega)]
  simp only [Bool.true_and, Bool.and_eq_true, decide_eq_true_eq]; omega
theorem ck_mod (x : Nat) : decide ((0 : Int) ≤ Int.tmod (x : Int) 64) = true := by
  rw [tmod64]; simp only [decide_eq_true_eq]; omega

theorem spec_Has : Ult fun k => ∀ (n b : Nat) ret, b < 256 → G23 k (bs n) (b : Int) ret = ret (n.testBit b) :=
  Ult.succ (Ult.of fun k n b ret hb => by
    simp only [G23, f23_N, f23_e]
    rw [ck_u8 b hb, ck_mod b]
    simp only [cond_true]
    have h1 : ((IntKind.wrap .u8 (Int.tdiv (b : Int) 64))).toNat = b / 64 := by rw [tdiv64, wrap_u8 (by omega) (by omega)]; rfl
    have h2 : ((Int.tmod (b : Int) 64)).toNat = b % 64 := by rw [tmod64]; rfl
    rw [h1, h2, bs_num n (by omega), bs_has])

theorem spec_Range : Ult fun k => ∀ (lo hi : Nat) ret, lo < 256 → hi < 256 → G22 k (lo : Int) (hi : Int) ret = ret (bs (rng lo hi)) :=
  Ult.succ ((Ult.ge 600).mono fun k hk lo hi ret h1 h2 => by
    simp only [G22, f22_N, f22_e, f22_w1N]
    rw [wrap_i64 (by omega) (by omega), bs_zero]
    have := loopR_upE (body := f22_w1B k ret (hi : Int)) (fun (i : Nat) (a : Nat) => ((i : Int), bs a)) (res := fun i a => ret (bs (a ||| rng i hi))) (max lo (hi + 1)) ?_ ?_ k lo 0 (by omega) (by omega)
    · rw [this, Nat.zero_or]
    · intro nx a
      simp only [f22_w1B, f22_w1b0N, f22_w1b0]
      rw [wrap_i64 (n := (hi : Int)) (by omega) (by omega), decide_eq_false (by omega), rng_none (by omega), Nat.or_zero]
      rfl
    · intro i hi2 nx a hnx
      simp only [f22_w1B, f22_w1b0N, f22_w1b0]
      rw [wrap_i64 (n := (hi : Int)) (by omega) (by omega)]
      by_cases hc : i ≤ hi
      · rw [decide_eq_true (by omega), ck_i64 i (by omega), ck_mod i]
        simp only [cond_true]
        rw [put_i64 a i (by omega), show IntKind.wrap .i64 ((i : Int) + 1) = ((i + 1 : Nat) : Int) by rw [wrap_i64] <;> omega, hnx, rng_step hc (by omega), Nat.or_assoc]
      · rw [decide_eq_false (by omega), rng_none (by omega), Nat.or_zero]
        rfl)

/-- A set of some bytes. -/
def ofL : List Nat → Nat
  | [] => 0
  | b :: l => 2 ^ b ||| ofL l
theorem ofL_bit : ∀ (l : List Nat) (i : Nat), (ofL l).testBit i = decide (i ∈ l)
  | [], i => by simp [ofL]
  | b :: l, i => by
    rw [ofL, Nat.testBit_or, Nat.testBit_two_pow, ofL_bit l i, Bool.eq_iff_iff]
    simp only [Bool.or_eq_true, decide_eq_true_eq, List.mem_cons]
    rw [eq_comm (a := b)]
theorem ofL_lt : ∀ (l : List Nat), (∀ b ∈ l, b < 256) → ofL l < 2 ^ 256
  | [], _ => by simp [ofL]
  | b :: l, h => Nat.or_lt_two_pow (Nat.pow_lt_pow_right (by omega) (h b (by simp))) (ofL_lt l fun x hx => h x (by simp [hx]))
def pvL (l : List Nat) : List PV := l.map fun (b : Nat) => PV.int (b : Int)
theorem pvL_len (l : List Nat) : (pvL l).length = l.length := by simp [pvL]
theorem pvL_get {l : List Nat} {i : Nat} (h : i < l.length) : List.getD (pvL l) ((i : Int)).toNat PV.nil = PV.int (l[i] : Int) := by
  simp [pvL, List.getD, h]
theorem drop_cons' {α : Type} {ks : List α} {i : Nat} (h : i < ks.length) : ks.drop i = ks[i] :: ks.drop (i + 1) := by
  rw [List.drop_eq_getElem_cons h]

theorem spec_Of (l : List Nat) (hl : ∀ b ∈ l, b < 256) (hlen : l.length ≤ 1099511627776) : Ult fun k => ∀ ret, G18 k (.list (pvL l)) ret = ret (bs (ofL l)) :=
  Ult.succ ((Ult.ge (l.length + 2)).mono fun k hk ret => by
    simp only [G18, f18_N, f18_e, f18_w1N]
    rw [bs_zero]
    have := loopR_upE (body := f18_w1B k ret (.list (pvL l))) (fun (i : Nat) (a : Nat) => ((i : Int), bs a)) (res := fun i a => ret (bs (a ||| ofL (l.drop i)))) l.length ?_ ?_ k 0 0 (by omega) (by omega)
    · exact this.trans (by rw [Nat.zero_or, List.drop_zero])
    · intro nx a
      simp only [f18_w1B, f18_w1b0N, f18_w1b0, PV.els, pvL_len]
      rw [decide_eq_false (by omega), List.drop_length]
      simp only [cond_false, ofL, Nat.or_zero]
    · intro i hi nx a hnx
      simp only [f18_w1B, f18_w1b0N, f18_w1b0, PV.els, pvL_len]
      have hb := hl _ (List.getElem_mem hi)
      rw [decide_eq_true (show (i : Int) < (l.length : Int) by omega), decide_eq_true (show (0 : Int) ≤ (i : Int) by omega)]
      simp only [pvL_get hi, num_int, Bool.and_self, cond_true]
      rw [ck_u8 _ hb, ck_mod]
      simp only [cond_true]
      rw [put_u8 a _ hb, show IntKind.wrap .i64 ((i : Int) + 1) = ((i + 1 : Nat) : Int) by rw [wrap_i64] <;> omega, hnx, drop_cons' hi, ofL, Nat.or_assoc])

theorem spec_List : Ult fun k => ∀ (n : Nat) ret, G17 k (bs n) ret = ret (.list (pvL (lst n))) :=
  Ult.succ ((spec_Has.and (Ult.ge 300)).mono fun k ⟨h1, hk⟩ n ret => by
    simp only [G17, f17_N, f17_e, f17_w1N]
    have := loopR_upP (body := f17_w1B k (G23 k) ret (bs n)) (fun (i : Nat) (a : List PV) => ((i : Int), a)) (fun i a => a.length ≤ i) (res := fun i a => ret (.list (a ++ pvL (lstF n i)))) 256 ?_ ?_ k 0 [] (by simp) (by omega) (by omega)
    · exact this.trans rfl
    · intro nx a _
      simp only [f17_w1B, f17_w1b0N, f17_w1b0]
      rw [decide_eq_false (by omega), lstF_end]
      simp [pvL]
    · intro i hi nx a ha hnx
      simp only [f17_w1B, f17_w1b0N, f17_w1b0]
      rw [decide_eq_true (by omega), wrap_u8 (by omega) (by omega), h1 n i _ hi, lstF_step n i hi]
      rw [show IntKind.wrap .i64 ((i : Int) + 1) = ((i + 1 : Nat) : Int) by rw [wrap_i64] <;> omega]
      cases n.testBit i with
      | true =>
        rw [roomy_of (by simp; omega) (by simp; omega)]
        simp only [cond_true, if_true, Bool.and_self]
        have := hnx (a ++ [PV.int (i : Int)]) (by simp; omega)
        refine this.trans ?_
        simp [pvL]
      | false =>
        simp only [cond_false, cond_true, Bool.false_eq_true, if_false]
        have := hnx a (by omega)
        refine this.trans ?_
        simp [pvL])

theorem spec_Ones : Ult fun k => ∀ (x : Nat) ret, x < 2 ^ 64 → G63 k (x : Int) ret = ret (popN 8 x : Int) :=
  Ult.succ (Ult.of fun k x ret hx => by
    simp only [G63, f63_N, f63_e]
    have := ones_int hx
    simp only at this
    rw [this])

theorem five {k : Nat} (h : 5 ≤ k) : ∃ m, k = m + 5 := ⟨k - 5, by omega⟩

theorem spec_Len : Ult fun k => ∀ (n : Nat) ret, G16 k (bs n) ret = ret ((lst n).length : Int) :=
  Ult.succ ((spec_Ones.and (Ult.ge 5)).mono fun k ⟨h1, hk⟩ n ret => by
    simp only [G16, f16_N, f16_e, f16_w1N]
    have hl := len_lst n
    have b := lst_length_le n
    have w0 := fun r => h1 (wd n 0) r (wd_lt n 0)
    have w1 := fun r => h1 (wd n 1) r (wd_lt n 1)
    have w2 := fun r => h1 (wd n 2) r (wd_lt n 2)
    have w3 := fun r => h1 (wd n 3) r (wd_lt n 3)
    generalize popN 8 (wd n 0) = q0 at *
    generalize popN 8 (wd n 1) = q1 at *
    generalize popN 8 (wd n 2) = q2 at *
    generalize popN 8 (wd n 3) = q3 at *
    have step : ∀ (nx : Int × Int → R) (a i q : Nat), i < 4 → (PV.num (PV.fld (bs n) i)) = (wd n i : Int) → a ≤ 1000 → q ≤ 1000 → (∀ r, G63 k (wd n i : Int) r = r (q : Int)) →
        f16_w1B k (G63 k) ret (bs n) nx ((a : Int), (i : Int)) = nx (((a + q : Nat) : Int), ((i + 1 : Nat) : Int)) := fun nx a i q hi hw ha hq h => by
      simp only [f16_w1B, f16_w1b0N, f16_w1b0]
      rw [decide_eq_true (by omega), decide_eq_true (by omega)]
      simp only [Bool.and_self, cond_true, Int.toNat_natCast]
      rw [hw, h, wrap_i64 (by omega) (by omega), wrap_i64 (by omega) (by omega)]
      rfl
    obtain ⟨m, hm⟩ := five hk
    have e0 := fun nx => step nx 0 0 q0 (by omega) (bs_num n (by omega)) (by omega) (by omega) w0
    have e1 := fun nx => step nx (0 + q0) 1 q1 (by omega) (bs_num n (by omega)) (by omega) (by omega) w1
    have e2 := fun nx => step nx (0 + q0 + q1) 2 q2 (by omega) (bs_num n (by omega)) (by omega) (by omega) w2
    have e3 := fun nx => step nx (0 + q0 + q1 + q2) 3 q3 (by omega) (bs_num n (by omega)) (by omega) (by omega) w3
    have e4 : ∀ nx (a : Int), f16_w1B k (G63 k) ret (bs n) nx (a, ((3 + 1 : Nat) : Int)) = ret a := fun nx a => by
      simp only [f16_w1B, f16_w1b0N, f16_w1b0]
      rfl
    generalize f16_w1B k (G63 k) ret (bs n) = body at *
    rw [hm]
    refine (loopR_succ body (m + 4) _).trans ((e0 _).trans ((loopR_succ body (m + 3) _).trans ((e1 _).trans ((loopR_succ body (m + 2) _).trans ((e2 _).trans ((loopR_succ body (m + 1) _).trans ((e3 _).trans ((loopR_succ body m _).trans ((e4 _ _).trans ?_)))))))))
    rw [hl]; congr 1; omega)
theorem spec_Least : Ult fun k => ∀ (n : Nat) ret, G19 k (bs n) ret = match lst n with | [] => ret 0 false | b :: _ => ret (b : Int) true :=
  Ult.succ (spec_List.mono fun k h n ret => by
    simp only [G19, f19_N, f19_e, h, els_list, pvL_len]
    cases lst n with
    | nil => rfl
    | cons b l => simp only [List.length_cons]; rw [decide_eq_false (by omega)]; simp only [cond_false]; rw [decide_eq_true (show (0 : Int) < ((l.length + 1 : Nat) : Int) by omega)]; rfl)
def notN (n : Nat) : Nat := 2 ^ 256 - 1 ^^^ n
theorem notN_bit (n i : Nat) : (notN n).testBit i = (decide (i < 256) ^^ n.testBit i) := by rw [notN, Nat.testBit_xor, Nat.testBit_two_pow_sub_one]
theorem notN_lt {n : Nat} (h : n < 2 ^ 256) : notN n < 2 ^ 256 := Nat.xor_lt_two_pow (by omega) h
theorem wd_ones {i : Nat} (hi : i < 4) : wd (2 ^ 256 - 1) i = 18446744073709551615 := by
  match i, hi with
  | 0, _ => rfl
  | 1, _ => rfl
  | 2, _ => rfl
  | 3, _ => rfl
theorem spec_Not : Ult fun k => ∀ (n : Nat) ret, G21 k (bs n) ret = ret (bs (notN n)) :=
  Ult.succ ((Ult.ge 5).mono fun k hk n ret => by
    obtain ⟨m, rfl⟩ := five hk
    simp only [G21, f21_N, f21_e, f21_w1N]
    have x : ∀ i, i < 4 → intBit .xor .u64 18446744073709551615 (wd n i : Int) = (wd (notN n) i : Int) := fun i hi => by
      rw [notN, wd_xor, wd_ones hi, ← ib_xor (by decide) (wd_lt n i)]; rfl
    have e : bs (notN n) = .agg [.int (intBit .xor .u64 18446744073709551615 (wd n 0 : Int)), .int (intBit .xor .u64 18446744073709551615 (wd n 1 : Int)), .int (intBit .xor .u64 18446744073709551615 (wd n 2 : Int)), .int (intBit .xor .u64 18446744073709551615 (wd n 3 : Int))] := by
      rw [x 0 (by omega), x 1 (by omega), x 2 (by omega), x 3 (by omega)]; rfl
    rw [e]
    simp only [bs]
    refine (loopR_succ _ (m + 4) _).trans ((show _ = loopR _ (m + 4) _ from rfl).trans ?_)
    refine (loopR_succ _ (m + 3) _).trans ((show _ = loopR _ (m + 3) _ from rfl).trans ?_)
    refine (loopR_succ _ (m + 2) _).trans ((show _ = loopR _ (m + 2) _ from rfl).trans ?_)
    refine (loopR_succ _ (m + 1) _).trans ((show _ = loopR _ (m + 1) _ from rfl).trans ?_)
    exact (loopR_succ _ m _).trans rfl)
theorem spec_All : Ult fun k => ∀ ret, G20 k ret = ret (bs (2 ^ 256 - 1)) :=
  Ult.succ (spec_Not.mono fun k h ret => by
    simp only [G20, f20_N, f20_e]
    rw [bs_zero, h]; rfl)
theorem spec_Or : Ult fun k => ∀ (n o : Nat) ret, G25 k (bs n) (bs o) ret = ret (bs (n ||| o)) :=
  Ult.succ ((Ult.ge 5).mono fun k hk n o ret => by
    obtain ⟨m, rfl⟩ := five hk
    simp only [G25, f25_N, f25_e, f25_w1N]
    have x : ∀ i, intBit .or .u64 (wd n i : Int) (wd o i : Int) = (wd (n ||| o) i : Int) := fun i => by rw [wd_or, ← ib_or (wd_lt n i) (wd_lt o i)]
    have e : bs (n ||| o) = .agg [.int (intBit .or .u64 (wd n 0 : Int) (wd o 0 : Int)), .int (intBit .or .u64 (wd n 1 : Int) (wd o 1 : Int)), .int (intBit .or .u64 (wd n 2 : Int) (wd o 2 : Int)), .int (intBit .or .u64 (wd n 3 : Int) (wd o 3 : Int))] := by
      rw [x 0, x 1, x 2, x 3]; rfl
    rw [e]
    simp only [bs]
    refine (loopR_succ _ (m + 4) _).trans ((show _ = loopR _ (m + 4) _ from rfl).trans ?_)
    refine (loopR_succ _ (m + 3) _).trans ((show _ = loopR _ (m + 3) _ from rfl).trans ?_)
    refine (loopR_succ _ (m + 2) _).trans ((show _ = loopR _ (m + 2) _ from rfl).trans ?_)
    refine (loopR_succ _ (m + 1) _).trans ((show _ = loopR _ (m + 1) _ from rfl).trans ?_)
    exact (loopR_succ _ m _).trans rfl)
theorem spec_And : Ult fun k => ∀ (n o : Nat) ret, G26 k (bs n) (bs o) ret = ret (bs (n &&& o)) :=
  Ult.succ ((Ult.ge 5).mono fun k hk n o ret => by
    obtain ⟨m, rfl⟩ := five hk
    simp only [G26, f26_N, f26_e, f26_w1N]
    have x : ∀ i, intBit .and .u64 (wd n i : Int) (wd o i : Int) = (wd (n &&& o) i : Int) := fun i => by rw [wd_and, ← ib_and (wd_lt n i) (wd_lt o i)]
    have e : bs (n &&& o) = .agg [.int (intBit .and .u64 (wd n 0 : Int) (wd o 0 : Int)), .int (intBit .and .u64 (wd n 1 : Int) (wd o 1 : Int)), .int (intBit .and .u64 (wd n 2 : Int) (wd o 2 : Int)), .int (intBit .and .u64 (wd n 3 : Int) (wd o 3 : Int))] := by
      rw [x 0, x 1, x 2, x 3]; rfl
    rw [e]
    simp only [bs]
    refine (loopR_succ _ (m + 4) _).trans ((show _ = loopR _ (m + 4) _ from rfl).trans ?_)
    refine (loopR_succ _ (m + 3) _).trans ((show _ = loopR _ (m + 3) _ from rfl).trans ?_)
    refine (loopR_succ _ (m + 2) _).trans ((show _ = loopR _ (m + 2) _ from rfl).trans ?_)
    refine (loopR_succ _ (m + 1) _).trans ((show _ = loopR _ (m + 1) _ from rfl).trans ?_)
    exact (loopR_succ _ m _).trans rfl)
theorem spec_Minus : Ult fun k => ∀ (n o : Nat) ret, G27 k (bs n) (bs o) ret = ret (bs (n &&& notN o)) :=
  Ult.succ ((spec_Not.and spec_And).mono fun k ⟨h1, h2⟩ n o ret => by
    simp only [G27, f27_N, f27_e, h1, h2])
theorem bs_beq {n m : Nat} (hn : n < 2 ^ 256) (hm : m < 2 ^ 256) : PV.beq (bs n) (bs m) = decide (n = m) := by
  have h : PV.beq (bs n) (bs m) = (decide ((wd n 0 : Int) = wd m 0) && (decide ((wd n 1 : Int) = wd m 1) && (decide ((wd n 2 : Int) = wd m 2) && (decide ((wd n 3 : Int) = wd m 3) && true)))) := rfl
  rw [h, Bool.eq_iff_iff]
  simp only [Bool.and_eq_true, decide_eq_true_eq, Int.natCast_inj, and_true]
  constructor
  · rintro ⟨h0, h1, h2, h3⟩
    refine set_ext hn hm fun i hi => ?_
    have q : ∀ j, j < 4 → wd n j = wd m j := fun j hj => by
      match j, hj with
      | 0, _ => exact h0
      | 1, _ => exact h1
      | 2, _ => exact h2
      | 3, _ => exact h3
    have a := wd_bit n (i / 64) (i % 64)
    have b := wd_bit m (i / 64) (i % 64)
    rw [q _ (by omega), decide_eq_true (show i % 64 < 64 by omega), Bool.true_and, show 64 * (i / 64) + i % 64 = i by omega] at a
    rw [decide_eq_true (show i % 64 < 64 by omega), Bool.true_and, show 64 * (i / 64) + i % 64 = i by omega] at b
    rw [← a, ← b]
  · rintro rfl; exact ⟨rfl, rfl, rfl, rfl⟩
theorem pvL_num (l : List Nat) : (PV.els (.list (pvL l))).map PV.num = l.map fun (b : Nat) => (b : Int) := by
  simp [els_list, pvL, num_int]
def cmpS (n m : Nat) : Int := lexC ((lst n).map fun (b : Nat) => (b : Int)) ((lst m).map fun (b : Nat) => (b : Int))
theorem spec_bytesCompare : Ult fun k => ∀ p q ret, G64 k p q ret = ret (lexC ((PV.els p).map PV.num) ((PV.els q).map PV.num)) :=
  Ult.succ (Ult.of fun k p q ret => by simp only [G64, f64_N, f64_e, G79])
theorem spec_Cmp : Ult fun k => ∀ (n m : Nat) ret, G24 k (bs n) (bs m) ret = ret (cmpS n m) :=
  Ult.succ ((spec_List.and spec_bytesCompare).mono fun k ⟨h1, h2⟩ n m ret => by
    simp only [G24, f24_N, f24_e, h1, h2, pvL_num]; rfl)

/-- Runs, the latest first. -/
def runStep : List (Nat × Nat) → Nat → List (Nat × Nat)
  | [], b => [(b, b)]
  | (lo, hi) :: t, b => if hi + 1 = b then (lo, b) :: t else (b, b) :: (lo, hi) :: t
def runsOf (n : Nat) : List (Nat × Nat) := ((lst n).foldl runStep []).reverse
def pvR (l : List (Nat × Nat)) : List PV := l.map fun r => PV.agg [.int (r.1 : Int), .int (r.2 : Int)]
theorem pvR_len (l : List (Nat × Nat)) : (pvR l).length = l.length := by simp [pvR]
theorem runStep_len (a : List (Nat × Nat)) (b : Nat) : (runStep a b).length ≤ a.length + 1 := by
  cases a with
  | nil => simp [runStep]
  | cons x t => obtain ⟨lo, hi⟩ := x; simp only [runStep]; split <;> simp
theorem spec_Runs : Ult fun k => ∀ (n : Nat) ret, G15 k (bs n) ret = ret (.list (pvR (runsOf n))) :=
  Ult.succ ((spec_List.and (Ult.ge 300)).mono fun k ⟨h1, hk⟩ n ret => by
    simp only [G15, f15_N, f15_e, f15_w1N, h1]
    have hlen := lst_length_le n
    have hb : ∀ b ∈ lst n, b < 256 := fun b hb => (mem_lst.1 hb).1
    unfold runsOf
    generalize lst n = l at *
    have := loopR_upP (body := f15_w1B k (G17 k) ret (.list (pvL l))) (fun (i : Nat) (a : List (Nat × Nat)) => ((i : Int), pvR a.reverse)) (fun i a => a.length ≤ i ∧ ∀ r ∈ a, r.2 < 256) (res := fun i a => ret (.list (pvR ((l.drop i).foldl runStep a).reverse))) l.length ?_ ?_ k 0 [] ⟨by simp, by simp⟩ (by omega) (by omega)
    · exact this
    · intro nx a _
      simp only [f15_w1B, f15_w1b0N, f15_w1b0, els_list, pvL_len]
      rw [decide_eq_false (by omega), List.drop_length]
      rfl
    · intro i hi nx a ha hnx
      simp only [f15_w1B, f15_w1b0N, f15_w1b0, els_list, pvL_len, pvR_len, List.length_reverse, pvL_get hi, num_int]
      have hbi := hb _ (List.getElem_mem hi)
      rw [decide_eq_true (show (i : Int) < (l.length : Int) by omega), decide_eq_true (show (0 : Int) ≤ (i : Int) by omega), wrap_inc (by omega), drop_cons' hi, List.foldl_cons]
      simp only [Bool.and_self, cond_true]
      have hstep := hnx (runStep a l[i]) ⟨Nat.le_trans (runStep_len _ _) (by omega), by
        intro r hr
        cases a with
        | nil => simp only [runStep, List.mem_singleton] at hr; subst hr; exact hbi
        | cons x t =>
          obtain ⟨lo, hi2⟩ := x
          simp only [runStep] at hr
          split at hr
          · rcases List.mem_cons.1 hr with rfl | hr
            · exact hbi
            · exact ha.2 r (by simp [hr])
          · rcases List.mem_cons.1 hr with rfl | hr
            · exact hbi
            · exact ha.2 r hr⟩
      rw [← hstep]
      have hro : roomy (a.length + List.length [PV.agg [PV.int (l[i] : Int), PV.int (l[i] : Int)]]) 2 = true := roomy_of (by simp; omega) (by simp; omega)
      cases a with
      | nil => rw [decide_eq_false (by simp)]; simp only [List.length_nil] at hro; simp only [List.length_nil, hro]; rfl
      | cons x t =>
        obtain ⟨lo, hi2⟩ := x
        have h2 := ha.2 (lo, hi2) (by simp)
        simp only at h2
        have hl := ha.1
        simp only [List.length_cons] at hl hro ⊢
        have w : IntKind.wrap .i64 (((t.length + 1 : Nat) : Int) - 1) = (t.length : Int) := by rw [wrap_i64] <;> omega
        simp only [w, decide_eq_true (show (0 : Int) < ((t.length + 1 : Nat) : Int) by omega), decide_eq_true (show (0 : Int) ≤ (t.length : Int) by omega), decide_eq_true (show (t.length : Int) < ((t.length + 1 : Nat) : Int) by omega)]
        have hrev : pvR ((lo, hi2) :: t).reverse = pvR t.reverse ++ [PV.agg [.int (lo : Int), .int (hi2 : Int)]] := by simp [pvR]
        have hget : List.getD (pvR ((lo, hi2) :: t).reverse) ((t.length : Int)).toNat PV.nil = PV.agg [.int (lo : Int), .int (hi2 : Int)] := by
          rw [hrev, Int.toNat_natCast, List.getD_eq_getElem?_getD, List.getElem?_append_right (by simp [pvR])]
          simp [pvR]
        have hset : ∀ y, List.set (pvR ((lo, hi2) :: t).reverse) ((t.length : Int)).toNat y = pvR t.reverse ++ [y] := fun y => by
          rw [hrev, Int.toNat_natCast, List.set_append_right _ _ (by simp [pvR])]
          simp [pvR]
        rw [hget, hset]
        simp only [beq_self_eq_true, cond_true, Bool.and_self, show PV.fld (PV.agg [.int (lo : Int), .int (hi2 : Int)]) 1 = .int (hi2 : Int) from rfl, num_int, flds_agg]
        have w2 : IntKind.wrap .i64 (hi2 : Int) = (hi2 : Int) := by rw [wrap_i64] <;> omega
        have w3 : IntKind.wrap .i64 ((hi2 : Int) + 1) = ((hi2 + 1 : Nat) : Int) := by rw [wrap_i64] <;> omega
        have w4 : IntKind.wrap .i64 (l[i] : Int) = (l[i] : Int) := by rw [wrap_i64] <;> omega
        simp only [w2, w3, w4]
        by_cases hc : hi2 + 1 = l[i]
        · rw [decide_eq_true (by omega)]
          simp only [cond_true, runStep, if_pos hc]
          congr 2
          simp [pvR]
        · rw [decide_eq_false (by omega), hro]
          simp only [cond_false, Bool.and_self, cond_true, runStep, if_neg hc]
          congr 2
          simp [pvR])
end Go.Proofs.Ytifnlmfhbepjcaa
