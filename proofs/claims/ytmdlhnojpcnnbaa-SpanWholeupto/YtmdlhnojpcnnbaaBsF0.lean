/- Sets: one byte's place, a set of some; the printed function Of of package byteset. -/
import Derived.Test.YtmdlhnojpcnnbaaFPb
import Derived.Test.YtmdlhnojpcnnbaaBs
set_option linter.unusedSimpArgs false
set_option linter.unusedVariables false
namespace Go.Proofs.Ytmdlhnojpcnnbaa
open Go Go.X

def rng (lo hi : Nat) : Nat := mk (fun i => decide (lo ≤ i) && decide (i ≤ hi)) 256
theorem bs_zero : PV.agg [PV.int 0, PV.int 0, PV.int 0, PV.int 0] = bs 0 := rfl
theorem ck_u8 (x : Nat) (hx : x < 256) : (true && decide ((0 : Int) ≤ (IntKind.wrap .u8 (Int.tdiv (x : Int) 64))) && decide ((IntKind.wrap .u8 (Int.tdiv (x : Int) 64)) < 4)) = true := by
  rw [tdiv64, wrap_u8 (by omega) (by omega)]
  simp only [Bool.true_and, Bool.and_eq_true, decide_eq_true_eq]; omega
theorem ck_mod (x : Nat) : decide ((0 : Int) ≤ Int.tmod (x : Int) 64) = true := by
  rw [tmod64]; simp only [decide_eq_true_eq]; omega

def ofL : List Nat → Nat
  | [] => 0
  | b :: l => 2 ^ b ||| ofL l
def pvL (l : List Nat) : List PV := l.map fun (b : Nat) => PV.int (b : Int)
theorem pvL_len (l : List Nat) : (pvL l).length = l.length := by simp [pvL]
theorem bs_beq {n m : Nat} (hn : n < 2 ^ 256) (hm : m < 2 ^ 256) : PV.beq (bs n) (bs m) = decide (n = m) := by
  have h : PV.beq (bs n) (bs m) = (decide ((wd n 0 : Int) = wd m 0) && (decide ((wd n 1 : Int) = wd m 1) && (decide ((wd n 2 : Int) = wd m 2) && (decide ((wd n 3 : Int) = wd m 3) && true)))) := rfl
  rw [h, Bool.eq_iff_iff]
  simp only [Bool.and_eq_true, decide_eq_true_eq, Int.natCast_inj, and_true]
  constructor
  · rintro ⟨h0, h1, h2, h3⟩
    refine set_ext hn hm fun i hi => ?_
    have q : ∀ j, j < 4 → wd n j = wd m j := fun j hj => by
      match j, hj with
      | 0, _ => exact h0
      | 1, _ => exact h1
      | 2, _ => exact h2
      | 3, _ => exact h3
    have a := wd_bit n (i / 64) (i % 64)
    have b := wd_bit m (i / 64) (i % 64)
    rw [q _ (by omega), decide_eq_true (show i % 64 < 64 by omega), Bool.true_and, show 64 * (i / 64) + i % 64 = i by omega] at a
    rw [decide_eq_true (show i % 64 < 64 by omega), Bool.true_and, show 64 * (i / 64) + i % 64 = i by omega] at b
    rw [← a, ← b]
  · rintro rfl; exact ⟨rfl, rfl, rfl, rfl⟩
end Go.Proofs.Ytmdlhnojpcnnbaa
