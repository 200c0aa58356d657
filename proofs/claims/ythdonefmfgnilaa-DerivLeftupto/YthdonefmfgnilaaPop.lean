/- How many bits are set: the sum by parts counts them. -/
import Derived.Test.YthdonefmfgnilaaXC
namespace Go.X
open Go

theorem tb {u v : Nat} (hu : u < 256) (i : Nat) : Nat.testBit (u + 256 * v) i = if i < 8 then u.testBit i else v.testBit (i - 8) := by
  have := Nat.testBit_two_pow_mul_add v (b := u) (i := 8) (by omega) i
  rw [show 2 ^ 8 * v + u = u + 256 * v by omega] at this
  exact this
/-- Eight bits, and the others, shifted and masked apart. -/
theorem split_mask {s b y c m : Nat} (hs : s ≤ 8) (hb : b < 256) (hc : c < 2 ^ (8 - s)) : ((b + 256 * y) / 2 ^ s) &&& (c + 256 * m) = (b / 2 ^ s &&& c) + 256 * (y / 2 ^ s &&& m) := by
  have hc8 : c < 256 := Nat.lt_of_lt_of_le hc (by have : 2 ^ (8 - s) ≤ 2 ^ 8 := Nat.pow_le_pow_right (by omega) (by omega); simpa using this)
  have hlt : (b / 2 ^ s &&& c) < 256 := Nat.lt_of_le_of_lt Nat.and_le_right hc8
  apply Nat.eq_of_testBit_eq
  intro i
  rw [Nat.testBit_and, tb hlt, tb hc8, Nat.testBit_div_two_pow, tb hb]
  by_cases h8 : i < 8
  · rw [if_pos h8, if_pos h8, Nat.testBit_and, Nat.testBit_div_two_pow]
    by_cases hi : i + s < 8
    · rw [if_pos (by omega)]
    · have : c.testBit i = false := Nat.testBit_lt_two_pow (Nat.lt_of_lt_of_le hc (Nat.pow_le_pow_right (by omega) (by omega)))
      simp [this]
  · rw [if_neg h8, if_neg h8, if_neg (by omega), Nat.testBit_and, Nat.testBit_div_two_pow]
    rw [show i + s - 8 = i - 8 + s by omega]

def val8 : List Nat → Nat
  | [] => 0
  | b :: l => b + 256 * val8 l
theorem mask8 {s c : Nat} (hs : s ≤ 8) (hc : c < 2 ^ (8 - s)) : ∀ l : List Nat, (∀ b ∈ l, b < 256) → (val8 l / 2 ^ s) &&& val8 (List.replicate l.length c) = val8 (l.map fun b => b / 2 ^ s &&& c)
  | [], _ => by simp [val8]
  | b :: l, h => by
    simp only [val8, List.length_cons, List.replicate_succ, List.map_cons]
    rw [split_mask hs (h b (by simp)) hc, mask8 hs hc l fun x hx => h x (by simp [hx])]
theorem add8 : ∀ (l m : List Nat), l.length = m.length → val8 l + val8 m = val8 (List.zipWith (· + ·) l m)
  | [], [], _ => rfl
  | [], _ :: _, h => by simp at h
  | _ :: _, [], h => by simp at h
  | a :: l, b :: m, h => by
    have := add8 l m (by simpa using h)
    simp only [val8, List.zipWith_cons_cons]
    omega
def digits8 : Nat → Nat → List Nat
  | 0, _ => []
  | n + 1, x => x % 256 :: digits8 n (x / 256)
theorem digits8_len : ∀ n x, (digits8 n x).length = n
  | 0, _ => rfl
  | n + 1, x => by simp [digits8, digits8_len n]
theorem digits8_lt : ∀ n x, ∀ b ∈ digits8 n x, b < 256
  | 0, _, b, h => by cases h
  | n + 1, x, b, h => by
    rcases List.mem_cons.1 h with rfl | h
    · exact Nat.mod_lt _ (by omega)
    · exact digits8_lt n _ b h
theorem val8_digits : ∀ n x, x < 256 ^ n → val8 (digits8 n x) = x
  | 0, x, h => by simp at h; subst h; rfl
  | n + 1, x, h => by
    have : x / 256 < 256 ^ n := Nat.div_lt_of_lt_mul (by rw [Nat.pow_succ] at h; omega)
    simp only [digits8, val8, val8_digits n _ this]
    omega
def pop8 (b : Nat) : Nat := ((List.range 8).filter fun i => b.testBit i).length
def st1 (b : Nat) : Nat := (b / 2 ^ 1 &&& 85) + (b / 2 ^ 0 &&& 85)
def st2 (b : Nat) : Nat := (b / 2 ^ 2 &&& 51) + (b / 2 ^ 0 &&& 51)
theorem st_pop : ∀ b, b < 256 → st1 b < 256 ∧ st2 (st1 b) < 256 ∧ (st2 (st1 b) / 16 + st2 (st1 b) % 16) = pop8 b ∧ st2 (st1 b) % 16 ≤ 4 ∧ st2 (st1 b) / 16 ≤ 4 := by decide +kernel
def popN : Nat → Nat → Nat
  | 0, _ => 0
  | n + 1, x => pop8 (x % 256) + popN n (x / 256)
theorem map_digits (f : Nat → Nat) : ∀ l : List Nat, List.zipWith (· + ·) (l.map fun b => b / 2 ^ 1 &&& 85) (l.map fun b => b / 2 ^ 0 &&& 85) = l.map st1
  | [] => rfl
  | b :: l => by simp only [List.map_cons, List.zipWith_cons_cons, map_digits f l]; rfl
theorem map_digits2 : ∀ l : List Nat, List.zipWith (· + ·) (l.map fun b => b / 2 ^ 2 &&& 51) (l.map fun b => b / 2 ^ 0 &&& 51) = l.map st2
  | [] => rfl
  | b :: l => by simp only [List.map_cons, List.zipWith_cons_cons, map_digits2 l]; rfl
theorem step1 {x : Nat} (h : x < 2 ^ 64) : (x / 2 ^ 1 &&& 6148914691236517205) + (x &&& 6148914691236517205) = val8 ((digits8 8 x).map st1) := by
  have e := val8_digits 8 x (by omega)
  have l := digits8_lt 8 x
  have h1 := mask8 (s := 1) (c := 85) (by omega) (by omega) (digits8 8 x) l
  have h0 := mask8 (s := 0) (c := 85) (by omega) (by omega) (digits8 8 x) l
  rw [e, digits8_len] at h1 h0
  rw [show val8 (List.replicate 8 85) = 6148914691236517205 by decide] at h1 h0
  rw [Nat.pow_zero, Nat.div_one] at h0
  rw [h1, h0, add8 _ _ (by simp), map_digits id]
theorem step2 {l : List Nat} (hl : l.length = 8) (h : ∀ b ∈ l, b < 256) : (val8 l / 2 ^ 2 &&& 3689348814741910323) + (val8 l &&& 3689348814741910323) = val8 (l.map st2) := by
  have h1 := mask8 (s := 2) (c := 51) (by omega) (by omega) l h
  have h0 := mask8 (s := 0) (c := 51) (by omega) (by omega) l h
  rw [hl, show val8 (List.replicate 8 51) = 3689348814741910323 by decide] at h1 h0
  rw [Nat.pow_zero, Nat.div_one] at h0
  rw [h1, h0, add8 _ _ (by simp), map_digits2]
theorem and15 : ∀ b, b < 256 → (b / 2 ^ 0 &&& 15) = b % 16 := by decide +kernel
theorem dig16 {a b : Nat} (h : a < 16) : (a + 16 * b) / 2 ^ 4 = b := by omega
theorem step3 (l0 l1 l2 l3 l4 l5 l6 l7 h0 h1 h2 h3 h4 h5 h6 h7 : Nat) (a0 : l0 ≤ 4) (b0 : h0 ≤ 4) (a1 : l1 ≤ 4) (b1 : h1 ≤ 4) (a2 : l2 ≤ 4) (b2 : h2 ≤ 4) (a3 : l3 ≤ 4) (b3 : h3 ≤ 4) (a4 : l4 ≤ 4) (b4 : h4 ≤ 4) (a5 : l5 ≤ 4) (b5 : h5 ≤ 4) (a6 : l6 ≤ 4) (b6 : h6 ≤ 4) (a7 : l7 ≤ 4) (b7 : h7 ≤ 4) :
    (val8 [(l0 + 16 * h0), (l1 + 16 * h1), (l2 + 16 * h2), (l3 + 16 * h3), (l4 + 16 * h4), (l5 + 16 * h5), (l6 + 16 * h6), (l7 + 16 * h7)] / 2 ^ 4 + val8 [(l0 + 16 * h0), (l1 + 16 * h1), (l2 + 16 * h2), (l3 + 16 * h3), (l4 + 16 * h4), (l5 + 16 * h5), (l6 + 16 * h6), (l7 + 16 * h7)]) &&& 1085102592571150095 = val8 [h0 + l0, h1 + l1, h2 + l2, h3 + l3, h4 + l4, h5 + l5, h6 + l6, h7 + l7] := by
  have key : val8 [(l0 + 16 * h0), (l1 + 16 * h1), (l2 + 16 * h2), (l3 + 16 * h3), (l4 + 16 * h4), (l5 + 16 * h5), (l6 + 16 * h6), (l7 + 16 * h7)] / 2 ^ 4 + val8 [(l0 + 16 * h0), (l1 + 16 * h1), (l2 + 16 * h2), (l3 + 16 * h3), (l4 + 16 * h4), (l5 + 16 * h5), (l6 + 16 * h6), (l7 + 16 * h7)] = val8 [(h0 + l0 + 16 * (h0 + l1)), (h1 + l1 + 16 * (h1 + l2)), (h2 + l2 + 16 * (h2 + l3)), (h3 + l3 + 16 * (h3 + l4)), (h4 + l4 + 16 * (h4 + l5)), (h5 + l5 + 16 * (h5 + l6)), (h6 + l6 + 16 * (h6 + l7)), (h7 + l7 + 16 * h7)] := by
    have e : val8 [(l0 + 16 * h0), (l1 + 16 * h1), (l2 + 16 * h2), (l3 + 16 * h3), (l4 + 16 * h4), (l5 + 16 * h5), (l6 + 16 * h6), (l7 + 16 * h7)] = l0 + 16 * (h0 + 16 * (val8 [(l1 + 16 * h1), (l2 + 16 * h2), (l3 + 16 * h3), (l4 + 16 * h4), (l5 + 16 * h5), (l6 + 16 * h6), (l7 + 16 * h7)])) := by
      simp only [val8]; omega
    rw [show val8 [(l0 + 16 * h0), (l1 + 16 * h1), (l2 + 16 * h2), (l3 + 16 * h3), (l4 + 16 * h4), (l5 + 16 * h5), (l6 + 16 * h6), (l7 + 16 * h7)] / 2 ^ 4 = h0 + 16 * (val8 [(l1 + 16 * h1), (l2 + 16 * h2), (l3 + 16 * h3), (l4 + 16 * h4), (l5 + 16 * h5), (l6 + 16 * h6), (l7 + 16 * h7)]) by rw [e]; exact dig16 (by omega)]
    simp only [val8]; omega
  have h0' := mask8 (s := 0) (c := 15) (by omega) (by omega) [(h0 + l0 + 16 * (h0 + l1)), (h1 + l1 + 16 * (h1 + l2)), (h2 + l2 + 16 * (h2 + l3)), (h3 + l3 + 16 * (h3 + l4)), (h4 + l4 + 16 * (h4 + l5)), (h5 + l5 + 16 * (h5 + l6)), (h6 + l6 + 16 * (h6 + l7)), (h7 + l7 + 16 * h7)] (by
    simp only [List.mem_cons, List.not_mem_nil, or_false, forall_eq_or_imp, forall_eq]
    refine ⟨?_, ?_, ?_, ?_, ?_, ?_, ?_, ?_⟩ <;> omega)
  rw [Nat.pow_zero, Nat.div_one, ← key] at h0'
  simp only [List.length_cons, List.length_nil] at h0'
  rw [show val8 (List.replicate (0 + 1 + 1 + 1 + 1 + 1 + 1 + 1 + 1) 15) = 1085102592571150095 by decide] at h0'
  rw [h0']
  simp only [List.map_cons, List.map_nil, Nat.div_one]
  rw [show ((h0 + l0 + 16 * (h0 + l1)) &&& 15) = h0 + l0 by have := and15 (h0 + l0 + 16 * (h0 + l1)) (by omega); rw [Nat.pow_zero, Nat.div_one] at this; rw [this]; omega]
  rw [show ((h1 + l1 + 16 * (h1 + l2)) &&& 15) = h1 + l1 by have := and15 (h1 + l1 + 16 * (h1 + l2)) (by omega); rw [Nat.pow_zero, Nat.div_one] at this; rw [this]; omega]
  rw [show ((h2 + l2 + 16 * (h2 + l3)) &&& 15) = h2 + l2 by have := and15 (h2 + l2 + 16 * (h2 + l3)) (by omega); rw [Nat.pow_zero, Nat.div_one] at this; rw [this]; omega]
  rw [show ((h3 + l3 + 16 * (h3 + l4)) &&& 15) = h3 + l3 by have := and15 (h3 + l3 + 16 * (h3 + l4)) (by omega); rw [Nat.pow_zero, Nat.div_one] at this; rw [this]; omega]
  rw [show ((h4 + l4 + 16 * (h4 + l5)) &&& 15) = h4 + l4 by have := and15 (h4 + l4 + 16 * (h4 + l5)) (by omega); rw [Nat.pow_zero, Nat.div_one] at this; rw [this]; omega]
  rw [show ((h5 + l5 + 16 * (h5 + l6)) &&& 15) = h5 + l5 by have := and15 (h5 + l5 + 16 * (h5 + l6)) (by omega); rw [Nat.pow_zero, Nat.div_one] at this; rw [this]; omega]
  rw [show ((h6 + l6 + 16 * (h6 + l7)) &&& 15) = h6 + l6 by have := and15 (h6 + l6 + 16 * (h6 + l7)) (by omega); rw [Nat.pow_zero, Nat.div_one] at this; rw [this]; omega]
  rw [show ((h7 + l7 + 16 * h7) &&& 15) = h7 + l7 by have := and15 (h7 + l7 + 16 * h7) (by omega); rw [Nat.pow_zero, Nat.div_one] at this; rw [this]; omega]
theorem dig1 {a b : Nat} (h : a < 256) : (a + 256 * b) / 2 ^ 8 = b := by omega
theorem dig2 {a b c : Nat} (h : a < 256) (h2 : b < 256) : (a + 256 * (b + 256 * c)) / 2 ^ 16 = c := by omega
theorem dig4 {a b c d e : Nat} (h : a < 256) (h2 : b < 256) (h3 : c < 256) (h4 : d < 256) : (a + 256 * (b + 256 * (c + 256 * (d + 256 * e)))) / 2 ^ 32 = e := by omega
theorem step4 (p0 p1 p2 p3 p4 p5 p6 p7 : Nat) (h0 : p0 ≤ 8) (h1 : p1 ≤ 8) (h2 : p2 ≤ 8) (h3 : p3 ≤ 8) (h4 : p4 ≤ 8) (h5 : p5 ≤ 8) (h6 : p6 ≤ 8) (h7 : p7 ≤ 8) :
    ∃ y z u, y = val8 [p0, p1, p2, p3, p4, p5, p6, p7] + val8 [p0, p1, p2, p3, p4, p5, p6, p7] / 2 ^ 8 ∧ z = y + y / 2 ^ 16 ∧ u = z + z / 2 ^ 32 ∧ u % 128 = p0 + p1 + p2 + p3 + p4 + p5 + p6 + p7 ∧ u < 2 ^ 64 ∧ z < 2 ^ 64 ∧ y < 2 ^ 64 := by
  refine ⟨((p0 + p1) + 256 * ((p1 + p2) + 256 * ((p2 + p3) + 256 * ((p3 + p4) + 256 * ((p4 + p5) + 256 * ((p5 + p6) + 256 * ((p6 + p7) + 256 * (p7 + 256 * 0)))))))), ((p0 + p1 + p2 + p3) + 256 * ((p1 + p2 + p3 + p4) + 256 * ((p2 + p3 + p4 + p5) + 256 * ((p3 + p4 + p5 + p6) + 256 * ((p4 + p5 + p6 + p7) + 256 * ((p5 + p6 + p7) + 256 * ((p6 + p7) + 256 * ((p7) + 256 * 0)))))))), ((p0 + p1 + p2 + p3 + p4 + p5 + p6 + p7) + 256 * ((p1 + p2 + p3 + p4 + p5 + p6 + p7) + 256 * ((p2 + p3 + p4 + p5 + p6 + p7) + 256 * ((p3 + p4 + p5 + p6 + p7) + 256 * ((p4 + p5 + p6 + p7) + 256 * ((p5 + p6 + p7) + 256 * ((p6 + p7) + 256 * ((p7) + 256 * 0)))))))), ?_, ?_, ?_, ?_, ?_, ?_, ?_⟩
  · simp only [val8]
    rw [dig1 (by omega)]; omega
  · rw [dig2 (by omega) (by omega)]; omega
  · rw [dig4 (by omega) (by omega) (by omega) (by omega)]; omega
  · have : ∀ s t : Nat, s ≤ 64 → (s + 256 * t) % 128 = s := by intro s t h; omega
    rw [this _ _ (by omega)]
  · omega
  · omega
  · omega
end Go.X
