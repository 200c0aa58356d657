/- Sets: one byte's place, a set of some; the printed function Of of package byteset. -/
import Derived.Test.YtoefnbinfmbckaaF
import Derived.Test.YtoefnbinfmbckaaBs
set_option linter.unusedSimpArgs false
set_option linter.unusedVariables false
namespace Go.Proofs.Ytoefnbinfmbckaa
open Go Go.X

def rng (lo hi : Nat) : Nat := mk (fun i => decide (lo ≤ i) && decide (i ≤ hi)) 256
theorem rng_bit (lo hi i : Nat) : (rng lo hi).testBit i = (decide (i < 256) && (decide (lo ≤ i) && decide (i ≤ hi))) := mk_bit _ _ _
theorem rng_lt (lo hi : Nat) : rng lo hi < 2 ^ 256 := mk_lt _ _
theorem bs_zero : PV.agg [PV.int 0, PV.int 0, PV.int 0, PV.int 0] = bs 0 := rfl
theorem rng_none {lo hi : Nat} (h : hi < lo) : rng lo hi = 0 := by
  apply Nat.eq_of_testBit_eq; intro i
  rw [rng_bit, Nat.zero_testBit]
  by_cases h1 : lo ≤ i
  · rw [decide_eq_false (show ¬ i ≤ hi by omega)]; simp
  · rw [decide_eq_false h1]; simp
theorem rng_step {i hi : Nat} (h : i ≤ hi) (hi2 : i < 256) : rng i hi = 2 ^ i ||| rng (i + 1) hi := by
  apply Nat.eq_of_testBit_eq; intro j
  rw [Nat.testBit_or, rng_bit, rng_bit, Nat.testBit_two_pow, Bool.eq_iff_iff]
  simp only [Bool.and_eq_true, Bool.or_eq_true, decide_eq_true_eq]
  omega
/-- A byte into a set, as the program does it. -/
theorem put_u8 (n x : Nat) (hx : x < 256) : PV.agg (List.set (PV.flds (bs n)) ((IntKind.wrap .u8 (Int.tdiv (x : Int) 64))).toNat (PV.int (intBit .or .u64 (PV.num (PV.fld (bs n) ((IntKind.wrap .u8 (Int.tdiv (x : Int) 64))).toNat)) (IntKind.wrap .u64 ((1 : Int) * 2 ^ (min ((Int.tmod (x : Int) 64)).toNat 64)))))) = bs (n ||| 2 ^ x) := by
  have h1 : ((IntKind.wrap .u8 (Int.tdiv (x : Int) 64))).toNat = x / 64 := by rw [tdiv64, wrap_u8 (by omega) (by omega)]; rfl
  have h2 : ((Int.tmod (x : Int) 64)).toNat = x % 64 := by rw [tmod64]; rfl
  rw [h1, h2, bs_num n (by omega)]
  exact bs_put n x hx
theorem put_i64 (n x : Nat) (hx : x < 256) : PV.agg (List.set (PV.flds (bs n)) ((IntKind.wrap .i64 (Int.tdiv (x : Int) 64))).toNat (PV.int (intBit .or .u64 (PV.num (PV.fld (bs n) ((IntKind.wrap .i64 (Int.tdiv (x : Int) 64))).toNat)) (IntKind.wrap .u64 ((1 : Int) * 2 ^ (min ((Int.tmod (x : Int) 64)).toNat 64)))))) = bs (n ||| 2 ^ x) := by
  have h1 : ((IntKind.wrap .i64 (Int.tdiv (x : Int) 64))).toNat = x / 64 := by rw [tdiv64, wrap_i64 (by omega) (by omega)]; rfl
  have h2 : ((Int.tmod (x : Int) 64)).toNat = x % 64 := by rw [tmod64]; rfl
  rw [h1, h2, bs_num n (by omega)]
  exact bs_put n x hx
theorem ck_u8 (x : Nat) (hx : x < 256) : (true && decide ((0 : Int) ≤ (IntKind.wrap .u8 (Int.tdiv (x : Int) 64))) && decide ((IntKind.wrap .u8 (Int.tdiv (x : Int) 64)) < 4)) = true := by
  rw [tdiv64, wrap_u8 (by omega) (by omega)]
  simp only [Bool.true_and, Bool.and_eq_true, decide_eq_true_eq]; omega
theorem ck_i64 (x : Nat) (hx : x < 256) : (true && decide ((0 : Int) ≤ (IntKind.wrap .i64 (Int.tdiv (x : Int) 64))) && decide ((IntKind.wrap .i64 (Int.tdiv (x : Int) 64)) < 4)) = true := by
  rw [tdiv64, wrap_i64 (by omega) (by omega)]
  simp only [Bool.true_and, Bool.and_eq_true, decide_eq_true_eq]; omega
theorem ck_mod (x : Nat) : decide ((0 : Int) ≤ Int.tmod (x : Int) 64) = true := by
  rw [tmod64]; simp only [decide_eq_true_eq]; omega

/-- A set of some bytes. -/
def ofL : List Nat → Nat
  | [] => 0
  | b :: l => 2 ^ b ||| ofL l
theorem ofL_bit : ∀ (l : List Nat) (i : Nat), (ofL l).testBit i = decide (i ∈ l)
  | [], i => by simp [ofL]
  | b :: l, i => by
    rw [ofL, Nat.testBit_or, Nat.testBit_two_pow, ofL_bit l i, Bool.eq_iff_iff]
    simp only [Bool.or_eq_true, decide_eq_true_eq, List.mem_cons]
    rw [eq_comm (a := b)]
theorem ofL_lt : ∀ (l : List Nat), (∀ b ∈ l, b < 256) → ofL l < 2 ^ 256
  | [], _ => by simp [ofL]
  | b :: l, h => Nat.or_lt_two_pow (Nat.pow_lt_pow_right (by omega) (h b (by simp))) (ofL_lt l fun x hx => h x (by simp [hx]))
def pvL (l : List Nat) : List PV := l.map fun (b : Nat) => PV.int (b : Int)
theorem pvL_len (l : List Nat) : (pvL l).length = l.length := by simp [pvL]
theorem pvL_get {l : List Nat} {i : Nat} (h : i < l.length) : List.getD (pvL l) ((i : Int)).toNat PV.nil = PV.int (l[i] : Int) := by
  simp [pvL, List.getD, h]
theorem drop_cons' {α : Type} {ks : List α} {i : Nat} (h : i < ks.length) : ks.drop i = ks[i] :: ks.drop (i + 1) := by
  rw [List.drop_eq_getElem_cons h]

theorem spec_Of (l : List Nat) (hl : ∀ b ∈ l, b < 256) (hlen : l.length ≤ 1099511627776) : Ult fun k => ∀ ret, G9 k (.list (pvL l)) ret = ret (bs (ofL l)) :=
  Ult.succ ((Ult.ge (l.length + 2)).mono fun k hk ret => by
    simp only [G9, f9_N, f9_e, f9_w1N]
    rw [bs_zero]
    have := loopR_upE (body := f9_w1B k ret (.list (pvL l))) (fun (i : Nat) (a : Nat) => ((i : Int), bs a)) (res := fun i a => ret (bs (a ||| ofL (l.drop i)))) l.length ?_ ?_ k 0 0 (by omega) (by omega)
    · exact this.trans (by rw [Nat.zero_or, List.drop_zero])
    · intro nx a
      simp only [f9_w1B, f9_w1b0N, f9_w1b0, PV.els, pvL_len]
      rw [decide_eq_false (by omega), List.drop_length]
      simp only [cond_false, ofL, Nat.or_zero]
    · intro i hi nx a hnx
      simp only [f9_w1B, f9_w1b0N, f9_w1b0, PV.els, pvL_len]
      have hb := hl _ (List.getElem_mem hi)
      rw [decide_eq_true (show (i : Int) < (l.length : Int) by omega), decide_eq_true (show (0 : Int) ≤ (i : Int) by omega)]
      simp only [pvL_get hi, num_int, Bool.and_self, cond_true]
      rw [ck_u8 _ hb, ck_mod]
      simp only [cond_true]
      rw [put_u8 a _ hb, show IntKind.wrap .i64 ((i : Int) + 1) = ((i + 1 : Nat) : Int) by rw [wrap_i64] <;> omega, hnx, drop_cons' hi, ofL, Nat.or_assoc])

theorem bs_beq {n m : Nat} (hn : n < 2 ^ 256) (hm : m < 2 ^ 256) : PV.beq (bs n) (bs m) = decide (n = m) := by
  have h : PV.beq (bs n) (bs m) = (decide ((wd n 0 : Int) = wd m 0) && (decide ((wd n 1 : Int) = wd m 1) && (decide ((wd n 2 : Int) = wd m 2) && (decide ((wd n 3 : Int) = wd m 3) && true)))) := rfl
  rw [h, Bool.eq_iff_iff]
  simp only [Bool.and_eq_true, decide_eq_true_eq, Int.natCast_inj, and_true]
  constructor
  · rintro ⟨h0, h1, h2, h3⟩
    refine set_ext hn hm fun i hi => ?_
    have q : ∀ j, j < 4 → wd n j = wd m j := fun j hj => by
      match j, hj with
      | 0, _ => exact h0
      | 1, _ => exact h1
      | 2, _ => exact h2
      | 3, _ => exact h3
    have a := wd_bit n (i / 64) (i % 64)
    have b := wd_bit m (i / 64) (i % 64)
    rw [q _ (by omega), decide_eq_true (show i % 64 < 64 by omega), Bool.true_and, show 64 * (i / 64) + i % 64 = i by omega] at a
    rw [decide_eq_true (show i % 64 < 64 by omega), Bool.true_and, show 64 * (i / 64) + i % 64 = i by omega] at b
    rw [← a, ← b]
  · rintro rfl; exact ⟨rfl, rfl, rfl, rfl⟩
theorem pvL_num (l : List Nat) : (PV.els (.list (pvL l))).map PV.num = l.map fun (b : Nat) => (b : Int) := by
  simp [els_list, pvL, num_int]
end Go.Proofs.Ytoefnbinfmbckaa
