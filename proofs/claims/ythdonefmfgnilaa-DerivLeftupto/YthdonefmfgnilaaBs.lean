/- Sets of bytes as numbers below 2 ^ 256: what is in them; one bit more; how many. -/
import Derived.Test.YthdonefmfgnilaaBits
import Derived.Test.YthdonefmfgnilaaXC
set_option linter.unusedSimpArgs false
namespace Go.X
open Go

theorem tb_dm (x i : Nat) : x.testBit i = decide (x / 2 ^ i % 2 = 1) := by rw [Nat.testBit_eq_decide_div_mod_eq]

/-- A number out of its bits. -/
def mk (p : Nat → Bool) : Nat → Nat
  | 0 => 0
  | k + 1 => mk p k ||| (if p k then 2 ^ k else 0)
/-- Sets are the same where their bytes are. -/
theorem set_ext {n m : Nat} (hn : n < 2 ^ 256) (hm : m < 2 ^ 256) (h : ∀ i, i < 256 → n.testBit i = m.testBit i) : n = m := by
  apply Nat.eq_of_testBit_eq
  intro i
  by_cases hi : i < 256
  · exact h i hi
  · have hp : 2 ^ 256 ≤ 2 ^ i := Nat.pow_le_pow_right (by omega) (by omega)
    rw [Nat.testBit_lt_two_pow (Nat.lt_of_lt_of_le hn hp), Nat.testBit_lt_two_pow (Nat.lt_of_lt_of_le hm hp)]
theorem tdiv64 (x : Nat) : Int.tdiv (x : Int) 64 = ((x / 64 : Nat) : Int) := by
  rw [Int.tdiv_eq_ediv_of_nonneg (by omega)]; rfl
theorem tmod64 (x : Nat) : Int.tmod (x : Int) 64 = ((x % 64 : Nat) : Int) := by
  rw [Int.tmod_eq_emod_of_nonneg (by omega)]; rfl
theorem pow_nat (k : Nat) : ((2 : Int) ^ k) = ((2 ^ k : Nat) : Int) := by simp
/-- Is a byte in it? -/
theorem bs_has (n x : Nat) : decide (intBit .and .u64 (Int.fdiv (wd n (x / 64) : Int) (2 ^ (min (x % 64) 64))) 1 = (1 : Int)) = n.testBit x := by
  have h1 : min (x % 64) 64 = x % 64 := by omega
  have h2 : wd n (x / 64) / 2 ^ (x % 64) < 2 ^ 64 := Nat.lt_of_le_of_lt (Nat.div_le_self _ _) (wd_lt _ _)
  rw [h1, pow_nat, fdiv_nat]
  rw [show (1 : Int) = ((1 : Nat) : Int) from rfl, ib_and h2 (by decide), Nat.and_one_is_mod]
  have h3 := wd_bit n (x / 64) (x % 64)
  rw [tb_dm, decide_eq_true (show x % 64 < 64 by omega), Bool.true_and, show 64 * (x / 64) + x % 64 = x by omega] at h3
  rw [← h3]
  congr 1
  apply propext
  omega

/-- The bytes of a set, rising, from one on. -/
def lstF (n i : Nat) : List Nat := (List.range' i (256 - i)).filter n.testBit
def lst (n : Nat) : List Nat := lstF n 0
theorem mem_lst {n b : Nat} : b ∈ lst n ↔ b < 256 ∧ n.testBit b = true := by
  unfold lst lstF
  rw [List.mem_filter, List.mem_range']
  constructor
  · rintro ⟨⟨i, h1, h2⟩, h3⟩
    exact ⟨by omega, h3⟩
  · rintro ⟨h1, h2⟩
    exact ⟨⟨b, by omega, by omega⟩, h2⟩
theorem lst_length_le (n : Nat) : (lst n).length ≤ 256 := by
  unfold lst lstF
  have := List.length_filter_le n.testBit (List.range' 0 (256 - 0))
  rw [List.length_range'] at this
  exact this
theorem lst_inj {n m : Nat} (hn : n < 2 ^ 256) (hm : m < 2 ^ 256) (h : lst n = lst m) : n = m := by
  refine set_ext hn hm fun i hi => ?_
  have h1 := mem_lst (n := n) (b := i)
  have h2 := mem_lst (n := m) (b := i)
  rw [h] at h1
  have h3 : n.testBit i = true ↔ m.testBit i = true := by
    constructor
    · intro hh; exact (h2.1 (h1.2 ⟨hi, hh⟩)).2
    · intro hh; exact (h1.1 (h2.2 ⟨hi, hh⟩)).2
  cases hx : n.testBit i <;> cases hy : m.testBit i <;> simp_all

/-- How many there are, from one place on. -/
def cnt (f : Nat → Bool) : Nat → Nat → Nat
  | _, 0 => 0
  | i, k + 1 => (if f i then 1 else 0) + cnt f (i + 1) k
theorem cnt_add (f : Nat → Bool) : ∀ a i b, cnt f i (a + b) = cnt f i a + cnt f (i + a) b
  | 0, i, b => by simp [cnt]
  | a + 1, i, b => by
    rw [show a + 1 + b = (a + b) + 1 by omega, cnt, cnt, cnt_add f a (i + 1) b, show i + (a + 1) = i + 1 + a by omega]; omega
theorem cnt_congr {f g : Nat → Bool} : ∀ {k i j : Nat}, (∀ t, t < k → f (i + t) = g (j + t)) → cnt f i k = cnt g j k
  | 0, _, _, _ => rfl
  | k + 1, i, j, h => by
    have h0 := h 0 (by omega)
    simp only [Nat.add_zero] at h0
    rw [cnt, cnt, h0, cnt_congr (k := k) (i := i + 1) (j := j + 1) fun t ht => by have := h (t + 1) (by omega); rwa [show i + (t + 1) = i + 1 + t by omega, show j + (t + 1) = j + 1 + t by omega] at this]
theorem filter_cnt (f : Nat → Bool) : ∀ k i, ((List.range' i k).filter f).length = cnt f i k
  | 0, _ => rfl
  | k + 1, i => by
    rw [List.range'_succ, List.filter_cons, cnt, ← filter_cnt f k (i + 1)]
    split <;> simp <;> omega
theorem pop8_cnt (b : Nat) : pop8 b = cnt b.testBit 0 8 := by
  rw [← filter_cnt, ← List.range_eq_range']; rfl
theorem popN_cnt : ∀ m x, popN m x = cnt x.testBit 0 (8 * m)
  | 0, _ => rfl
  | m + 1, x => by
    rw [popN, pop8_cnt, popN_cnt m, show 8 * (m + 1) = 8 + 8 * m by omega, cnt_add, show (0 + 8) = 8 from rfl]
    congr 1
    · exact cnt_congr fun t ht => by
        rw [show (256 : Nat) = 2 ^ 8 from rfl, Nat.testBit_mod_two_pow, decide_eq_true (show 0 + t < 8 by omega), Bool.true_and]
    · exact cnt_congr fun t ht => by
        rw [show (256 : Nat) = 2 ^ 8 from rfl, Nat.testBit_div_two_pow]; congr 1; omega
theorem len_lst (n : Nat) : (lst n).length = popN 8 (wd n 0) + popN 8 (wd n 1) + popN 8 (wd n 2) + popN 8 (wd n 3) := by
  have h : ∀ i, popN 8 (wd n i) = cnt n.testBit (64 * i) 64 := fun i => by
    rw [popN_cnt]
    exact cnt_congr fun t ht => by rw [wd_bit, decide_eq_true (show 0 + t < 64 by omega), Bool.true_and]; congr 1; omega
  unfold lst lstF
  rw [filter_cnt, h, h, h, h, show 256 - 0 = 64 + (64 + (64 + 64)) from rfl, cnt_add, cnt_add, cnt_add]
  simp only [Nat.zero_add, Nat.mul_zero, Nat.mul_one, show 64 * 2 = 64 + 64 from rfl, show 64 * 3 = 64 + 64 + 64 from rfl]
  omega

theorem val8_ltL : ∀ l : List Nat, (∀ b ∈ l, b < 256) → val8 l < 256 ^ l.length
  | [], _ => by simp [val8]
  | b :: l, h => by
    have h1 := h b (by simp)
    have h2 := val8_ltL l fun x hx => h x (by simp [hx])
    rw [val8, List.length_cons, Nat.pow_succ]
    generalize 256 ^ l.length = q at *
    omega
theorem val8_leL : ∀ l : List Nat, (∀ b ∈ l, b ≤ 68) → 255 * val8 l + 68 ≤ 68 * 256 ^ l.length
  | [], _ => by simp [val8]
  | b :: l, h => by
    have h1 := h b (by simp)
    have h2 := val8_leL l fun x hx => h x (by simp [hx])
    rw [val8, List.length_cons, Nat.pow_succ]
    generalize 256 ^ l.length = q at *
    omega
theorem val8_lt (t0 t1 t2 t3 t4 t5 t6 t7 : Nat) (h0 : t0 < 256) (h1 : t1 < 256) (h2 : t2 < 256) (h3 : t3 < 256) (h4 : t4 < 256) (h5 : t5 < 256) (h6 : t6 < 256) (h7 : t7 < 256) : val8 [t0, t1, t2, t3, t4, t5, t6, t7] < 2 ^ 64 := by
  have := val8_ltL [t0, t1, t2, t3, t4, t5, t6, t7] (by simp only [List.mem_cons, List.not_mem_nil, or_false, forall_eq_or_imp, forall_eq]; exact ⟨h0, h1, h2, h3, h4, h5, h6, h7⟩)
  have e : 256 ^ [t0, t1, t2, t3, t4, t5, t6, t7].length = 2 ^ 64 := by simp only [List.length_cons, List.length_nil]
  rw [e] at this
  exact this
theorem val8_le (t0 t1 t2 t3 t4 t5 t6 t7 : Nat) (h0 : t0 ≤ 68) (h1 : t1 ≤ 68) (h2 : t2 ≤ 68) (h3 : t3 ≤ 68) (h4 : t4 ≤ 68) (h5 : t5 ≤ 68) (h6 : t6 ≤ 68) (h7 : t7 ≤ 68) : val8 [t0, t1, t2, t3, t4, t5, t6, t7] ≤ 5000000000000000000 := by
  have := val8_leL [t0, t1, t2, t3, t4, t5, t6, t7] (by simp only [List.mem_cons, List.not_mem_nil, or_false, forall_eq_or_imp, forall_eq]; exact ⟨h0, h1, h2, h3, h4, h5, h6, h7⟩)
  simp only [List.length_cons, List.length_nil] at this
  generalize val8 [t0, t1, t2, t3, t4, t5, t6, t7] = v at *
  omega
theorem le68 {t : Nat} (h1 : t % 16 ≤ 4) (h2 : t / 16 ≤ 4) : t ≤ 68 := by omega
set_option maxRecDepth 10000 in
/-- Bits are counted so. -/
theorem ones_nat {x : Nat} (hx : x < 2 ^ 64) : ∃ a b c y z u, a = (x / 2 ^ 1 &&& 6148914691236517205) + (x &&& 6148914691236517205) ∧ b = (a / 2 ^ 2 &&& 3689348814741910323) + (a &&& 3689348814741910323) ∧
    c = (b / 2 ^ 4 + b) &&& 1085102592571150095 ∧ y = c + c / 2 ^ 8 ∧ z = y + y / 2 ^ 16 ∧ u = z + z / 2 ^ 32 ∧ u % 128 = popN 8 x ∧ a < 2 ^ 64 ∧ b < 2 ^ 64 ∧ b / 2 ^ 4 + b < 2 ^ 64 ∧ c < 2 ^ 64 ∧ y < 2 ^ 64 ∧ z < 2 ^ 64 ∧ u < 2 ^ 64 := by
  have hd := digits8_lt 8 x
  have s1 := step1 hx
  have hl1 : ∀ b ∈ (digits8 8 x).map st1, b < 256 := by
    intro b hb
    obtain ⟨d, hd', rfl⟩ := List.mem_map.1 hb
    exact (st_pop d (hd d hd')).1
  have s2 := step2 (l := (digits8 8 x).map st1) (by simp [digits8]) hl1
  simp only [digits8, List.map_cons, List.map_nil] at s1 s2
  have e0 := st_pop (x % 256) (by omega)
  have e1 := st_pop (x / 256 % 256) (by omega)
  have e2 := st_pop (x / 256 / 256 % 256) (by omega)
  have e3 := st_pop (x / 256 / 256 / 256 % 256) (by omega)
  have e4 := st_pop (x / 256 / 256 / 256 / 256 % 256) (by omega)
  have e5 := st_pop (x / 256 / 256 / 256 / 256 / 256 % 256) (by omega)
  have e6 := st_pop (x / 256 / 256 / 256 / 256 / 256 / 256 % 256) (by omega)
  have e7 := st_pop (x / 256 / 256 / 256 / 256 / 256 / 256 / 256 % 256) (by omega)
  have hp : popN 8 x = pop8 (x % 256) + (pop8 (x / 256 % 256) + (pop8 (x / 256 / 256 % 256) + (pop8 (x / 256 / 256 / 256 % 256) + (pop8 (x / 256 / 256 / 256 / 256 % 256) + (pop8 (x / 256 / 256 / 256 / 256 / 256 % 256) + (pop8 (x / 256 / 256 / 256 / 256 / 256 / 256 % 256) + (pop8 (x / 256 / 256 / 256 / 256 / 256 / 256 / 256 % 256) + 0))))))) := rfl
  rw [hp]
  have q1 : ∀ d, d < 256 → st1 d < 256 := fun d h => (st_pop d h).1
  have a0 := e0.1
  have a1 := e1.1
  have a2 := e2.1
  have a3 := e3.1
  have a4 := e4.1
  have a5 := e5.1
  have a6 := e6.1
  have a7 := e7.1
  clear hp hl1
  rw [← e0.2.2.1]
  rw [← e1.2.2.1]
  rw [← e2.2.2.1]
  rw [← e3.2.2.1]
  rw [← e4.2.2.1]
  rw [← e5.2.2.1]
  rw [← e6.2.2.1]
  rw [← e7.2.2.1]
  replace e0 := e0.2.2.2
  replace e1 := e1.2.2.2
  replace e2 := e2.2.2.2
  replace e3 := e3.2.2.2
  replace e4 := e4.2.2.2
  replace e5 := e5.2.2.2
  replace e6 := e6.2.2.2
  replace e7 := e7.2.2.2
  generalize st1 (x % 256) = u0 at *
  generalize st1 (x / 256 % 256) = u1 at *
  generalize st1 (x / 256 / 256 % 256) = u2 at *
  generalize st1 (x / 256 / 256 / 256 % 256) = u3 at *
  generalize st1 (x / 256 / 256 / 256 / 256 % 256) = u4 at *
  generalize st1 (x / 256 / 256 / 256 / 256 / 256 % 256) = u5 at *
  generalize st1 (x / 256 / 256 / 256 / 256 / 256 / 256 % 256) = u6 at *
  generalize st1 (x / 256 / 256 / 256 / 256 / 256 / 256 / 256 % 256) = u7 at *
  generalize st2 u0 = t0 at *
  generalize st2 u1 = t1 at *
  generalize st2 u2 = t2 at *
  generalize st2 u3 = t3 at *
  generalize st2 u4 = t4 at *
  generalize st2 u5 = t5 at *
  generalize st2 u6 = t6 at *
  generalize st2 u7 = t7 at *
  have s3 := step3 (t0 % 16) (t1 % 16) (t2 % 16) (t3 % 16) (t4 % 16) (t5 % 16) (t6 % 16) (t7 % 16) (t0 / 16) (t1 / 16) (t2 / 16) (t3 / 16) (t4 / 16) (t5 / 16) (t6 / 16) (t7 / 16) e0.1 e0.2 e1.1 e1.2 e2.1 e2.2 e3.1 e3.2 e4.1 e4.2 e5.1 e5.2 e6.1 e6.2 e7.1 e7.2
  rw [Nat.mod_add_div t0 16] at s3
  rw [Nat.mod_add_div t1 16] at s3
  rw [Nat.mod_add_div t2 16] at s3
  rw [Nat.mod_add_div t3 16] at s3
  rw [Nat.mod_add_div t4 16] at s3
  rw [Nat.mod_add_div t5 16] at s3
  rw [Nat.mod_add_div t6 16] at s3
  rw [Nat.mod_add_div t7 16] at s3
  obtain ⟨y, z, u, g1, g2, g3, g4, g5, g6, g7⟩ := step4 (t0 / 16 + t0 % 16) (t1 / 16 + t1 % 16) (t2 / 16 + t2 % 16) (t3 / 16 + t3 % 16) (t4 / 16 + t4 % 16) (t5 / 16 + t5 % 16) (t6 / 16 + t6 % 16) (t7 / 16 + t7 % 16) (Nat.add_le_add e0.2 e0.1) (Nat.add_le_add e1.2 e1.1) (Nat.add_le_add e2.2 e2.1) (Nat.add_le_add e3.2 e3.1) (Nat.add_le_add e4.2 e4.1) (Nat.add_le_add e5.2 e5.1) (Nat.add_le_add e6.2 e6.1) (Nat.add_le_add e7.2 e7.1)
  have hb : val8 [t0, t1, t2, t3, t4, t5, t6, t7] ≤ 5000000000000000000 := val8_le t0 t1 t2 t3 t4 t5 t6 t7 (le68 e0.1 e0.2) (le68 e1.1 e1.2) (le68 e2.1 e2.2) (le68 e3.1 e3.2) (le68 e4.1 e4.2) (le68 e5.1 e5.2) (le68 e6.1 e6.2) (le68 e7.1 e7.2)
  have ha : val8 [u0, u1, u2, u3, u4, u5, u6, u7] < 2 ^ 64 := val8_lt u0 u1 u2 u3 u4 u5 u6 u7 a0 a1 a2 a3 a4 a5 a6 a7
  have hc : val8 [t0 / 16 + t0 % 16, t1 / 16 + t1 % 16, t2 / 16 + t2 % 16, t3 / 16 + t3 % 16, t4 / 16 + t4 % 16, t5 / 16 + t5 % 16, t6 / 16 + t6 % 16, t7 / 16 + t7 % 16] < 2 ^ 64 := val8_lt (t0 / 16 + t0 % 16) (t1 / 16 + t1 % 16) (t2 / 16 + t2 % 16) (t3 / 16 + t3 % 16) (t4 / 16 + t4 % 16) (t5 / 16 + t5 % 16) (t6 / 16 + t6 % 16) (t7 / 16 + t7 % 16) (Nat.lt_of_le_of_lt (Nat.add_le_add e0.2 e0.1) (by decide)) (Nat.lt_of_le_of_lt (Nat.add_le_add e1.2 e1.1) (by decide)) (Nat.lt_of_le_of_lt (Nat.add_le_add e2.2 e2.1) (by decide)) (Nat.lt_of_le_of_lt (Nat.add_le_add e3.2 e3.1) (by decide)) (Nat.lt_of_le_of_lt (Nat.add_le_add e4.2 e4.1) (by decide)) (Nat.lt_of_le_of_lt (Nat.add_le_add e5.2 e5.1) (by decide)) (Nat.lt_of_le_of_lt (Nat.add_le_add e6.2 e6.1) (by decide)) (Nat.lt_of_le_of_lt (Nat.add_le_add e7.2 e7.1) (by decide))
  have r1 := s1; have r2 := s2; have r3 := s3; have r4 := g1; have r5 := g2; have r6 := g3
  clear s1 s2 s3 g1 g2 g3 a0 a1 a2 a3 a4 a5 a6 a7
  generalize val8 [t0, t1, t2, t3, t4, t5, t6, t7] = B at *
  refine ⟨val8 [u0, u1, u2, u3, u4, u5, u6, u7], B, val8 [t0 / 16 + t0 % 16, t1 / 16 + t1 % 16, t2 / 16 + t2 % 16, t3 / 16 + t3 % 16, t4 / 16 + t4 % 16, t5 / 16 + t5 % 16, t6 / 16 + t6 % 16, t7 / 16 + t7 % 16], y, z, u, r1.symm, r2.symm, r3.symm, r4, r5, r6, ?_, ha, by omega, by omega, hc, g7, g6, g5⟩
  rw [g4]; simp only [Nat.add_assoc, Nat.add_zero]
/-- How the program counts them. -/
theorem ones_int {x : Nat} (hx : x < 2 ^ 64) :
    (let n2 : Int := (IntKind.wrap .u64 ((intBit .and .u64 (Int.fdiv (x : Int) (2 ^ (min ((1 : Int)).toNat 64))) 6148914691236517205) + (intBit .and .u64 (x : Int) 6148914691236517205)))
     let n3 : Int := (IntKind.wrap .u64 ((intBit .and .u64 (Int.fdiv n2 (2 ^ (min ((2 : Int)).toNat 64))) 3689348814741910323) + (intBit .and .u64 n2 3689348814741910323)))
     let n4 : Int := (intBit .and .u64 (IntKind.wrap .u64 ((Int.fdiv n3 (2 ^ (min ((4 : Int)).toNat 64))) + n3)) 1085102592571150095)
     let n5 : Int := (Int.fdiv (IntKind.wrap .u64 (n4 + (Int.fdiv n4 (2 ^ (min ((8 : Int)).toNat 64))))) (2 ^ (min ((16 : Int)).toNat 64)))
     let n6 : Int := (Int.fdiv (IntKind.wrap .u64 ((IntKind.wrap .u64 (n4 + (Int.fdiv n4 (2 ^ (min ((8 : Int)).toNat 64))))) + n5)) (2 ^ (min ((32 : Int)).toNat 64)))
     let n7 : Int := (IntKind.wrap .u64 ((IntKind.wrap .u64 ((IntKind.wrap .u64 (n4 + (Int.fdiv n4 (2 ^ (min ((8 : Int)).toNat 64))))) + n5)) + n6))
     intBit .and .i64 (IntKind.wrap .i64 n7) 127) = (popN 8 x : Int) := by
  obtain ⟨a, b, c, y, z, u, h1, h2, h3, h4, h5, h6, h7, a1, b1, b2, c1, y1, z1, u1⟩ := ones_nat hx
  have W : ∀ n : Nat, n < 2 ^ 64 → IntKind.wrap .u64 (n : Int) = (n : Int) := fun n h => wrap_u64 (by omega) (by omega)
  have F : ∀ (n k : Nat), Int.fdiv (n : Int) (2 ^ k) = ((n / 2 ^ k : Nat) : Int) := fun n k => by rw [pow_nat, fdiv_nat]
  have D : ∀ (n k : Nat), n < 2 ^ 64 → n / 2 ^ k < 2 ^ 64 := fun n k h => Nat.lt_of_le_of_lt (Nat.div_le_self _ _) h
  have A : ∀ (n m : Nat), n < 2 ^ 64 → m < 2 ^ 64 → intBit .and .u64 (n : Int) (m : Int) = ((n &&& m : Nat) : Int) := fun n m h1 h2 => ib_and h1 h2
  have k1 : (min ((1 : Int)).toNat 64) = 1 := rfl
  have k2 : (min ((2 : Int)).toNat 64) = 2 := rfl
  have k4 : (min ((4 : Int)).toNat 64) = 4 := rfl
  have k8 : (min ((8 : Int)).toNat 64) = 8 := rfl
  have k16 : (min ((16 : Int)).toNat 64) = 16 := rfl
  have k32 : (min ((32 : Int)).toNat 64) = 32 := rfl
  have m1 : (6148914691236517205 : Int) = ((6148914691236517205 : Nat) : Int) := rfl
  have m2 : (3689348814741910323 : Int) = ((3689348814741910323 : Nat) : Int) := rfl
  have m3 : (1085102592571150095 : Int) = ((1085102592571150095 : Nat) : Int) := rfl
  have e2 : (IntKind.wrap .u64 ((intBit .and .u64 (Int.fdiv (x : Int) (2 ^ (min ((1 : Int)).toNat 64))) 6148914691236517205) + (intBit .and .u64 (x : Int) 6148914691236517205))) = (a : Int) := by
    rw [k1, F, m1, A _ _ (D _ _ hx) (by decide), A _ _ hx (by decide), ← Int.natCast_add, ← h1, W a a1]
  have e3 : (IntKind.wrap .u64 ((intBit .and .u64 (Int.fdiv (a : Int) (2 ^ (min ((2 : Int)).toNat 64))) 3689348814741910323) + (intBit .and .u64 (a : Int) 3689348814741910323))) = (b : Int) := by
    rw [k2, F, m2, A _ _ (D _ _ a1) (by decide), A _ _ a1 (by decide), ← Int.natCast_add, ← h2, W b b1]
  have e4 : (intBit .and .u64 (IntKind.wrap .u64 ((Int.fdiv (b : Int) (2 ^ (min ((4 : Int)).toNat 64))) + (b : Int))) 1085102592571150095) = (c : Int) := by
    rw [k4, F, ← Int.natCast_add, W _ b2, m3, A _ _ b2 (by decide), ← h3]
  have e5 : IntKind.wrap .u64 ((c : Int) + (Int.fdiv (c : Int) (2 ^ (min ((8 : Int)).toNat 64)))) = (y : Int) := by
    rw [k8, F, ← Int.natCast_add, ← h4, W y y1]
  have e6 : IntKind.wrap .u64 ((y : Int) + (Int.fdiv (y : Int) (2 ^ (min ((16 : Int)).toNat 64)))) = (z : Int) := by
    rw [k16, F, ← Int.natCast_add, ← h5, W z z1]
  have e7 : IntKind.wrap .u64 ((z : Int) + (Int.fdiv (z : Int) (2 ^ (min ((32 : Int)).toNat 64)))) = (u : Int) := by
    rw [k32, F, ← Int.natCast_add, ← h6, W u u1]
  simp only [e2, e3, e4, e5, e6, e7]
  show IntKind.wrap .i64 (((BitVec.ofInt 64 (IntKind.wrap .i64 (u : Int)) &&& BitVec.ofInt 64 127).toNat : Nat) : Int) = _
  have hw : (BitVec.ofInt 64 (IntKind.wrap .i64 (u : Int))).toNat = u := by
    rw [BitVec.toNat_ofInt]
    simp only [IntKind.wrap, IntKind.signed, IntKind.bits, Bool.true_and]
    split <;> omega
  rw [BitVec.toNat_and, hw, show (BitVec.ofInt 64 127).toNat = 2 ^ 7 - 1 from rfl, Nat.and_two_pow_sub_one_eq_mod, show (2 ^ 7 : Nat) = 128 from rfl, h7]
  have := Nat.mod_lt u (show 128 > 0 by omega)
  exact wrap_i64 (by omega) (by omega)
theorem loopR_succ {S : Type} [Frc S] (body : (S → R) → S → R) (n : Nat) (s : S) : loopR body (n + 1) s = body (loopR body n) s := by
  show Frc.frc s (body (loopR body n)) = _
  rw [Frc.ok]
end Go.X
