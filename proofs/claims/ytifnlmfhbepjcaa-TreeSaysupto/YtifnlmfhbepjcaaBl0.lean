/- Sets as rows of 256 truth values; catchpoleref1.From. -/
import Derived.Test.YtifnlmfhbepjcaaBsF0
set_option linter.unusedSimpArgs false
set_option linter.unusedVariables false
set_option maxRecDepth 20000
namespace Go.Proofs.Ytifnlmfhbepjcaa
open Go Go.X

mutual
theorem beq_refl : ∀ p : PV, PV.beq p p = true
  | .int _ => by simp [PV.beq]
  | .bool b => by simp [PV.beq]
  | .str _ => by simp [PV.beq]
  | .flt _ => by simp [PV.beq]
  | .agg l => by rw [PV.beq]; exact beqs_refl l
  | .list l => by rw [PV.beq]; exact beqs_refl l
  | .nil => rfl
  | .ref p => by rw [PV.beq]; exact beq_refl p
  | .opq p => by rw [PV.beq]; exact beq_refl p
theorem beqs_refl : ∀ l : List PV, PV.beqs l l = true
  | [] => rfl
  | p :: l => by rw [PV.beqs, beq_refl p, beqs_refl l]; rfl
end

def bl (f : Nat → Bool) : PV := .agg ((List.range 256).map fun i => PV.bool (f i))
theorem bl_congr {f g : Nat → Bool} (h : ∀ i, i < 256 → f i = g i) : bl f = bl g := by
  unfold bl
  refine congrArg PV.agg ?_
  apply List.map_congr_left
  intro i hi
  rw [h i (List.mem_range.1 hi)]
theorem bl_fld (f : Nat → Bool) {i : Nat} (hi : i < 256) : PV.fld (bl f) i = .bool (f i) := by
  simp [bl, PV.fld, PV.flds, List.getD, hi]
theorem bl_tt (f : Nat → Bool) {i : Nat} (hi : i < 256) : PV.tt (PV.fld (bl f) i) = f i := by rw [bl_fld f hi]; rfl
theorem bl_set (f : Nat → Bool) {i : Nat} (hi : i < 256) (b : Bool) : PV.agg (List.set (PV.flds (bl f)) i (.bool b)) = bl (fun j => if j = i then b else f j) := by
  unfold bl
  rw [flds_agg]
  refine congrArg PV.agg ?_
  apply List.ext_getElem?
  intro j
  by_cases hj : j < 256
  · by_cases h : j = i
    · subst h
      simp [hj]
    · rw [List.getElem?_set_ne (Ne.symm h)]
      simp [hj, h]
  · simp [hj, List.getElem?_set]
theorem bl_zero : PV.agg (List.replicate 256 (PV.bool false)) = bl (fun _ => false) := by
  unfold bl
  refine congrArg PV.agg ?_
  apply List.ext_getElem?
  intro j
  rw [List.getElem?_replicate, List.getElem?_map]
  by_cases hj : j < 256
  · rw [if_pos hj, List.getElem?_range hj]; rfl
  · rw [if_neg hj, List.getElem?_eq_none (by simpa using hj)]; rfl
theorem pvL_get' {l : List Nat} {i : Nat} (h : i < l.length) : List.getD (pvL l) i PV.nil = PV.int (l[i] : Int) := by
  simp [pvL, List.getD, h]
theorem has_u64 (n x : Nat) : decide (intBit .and .u64 (Int.fdiv (wd n (x / 64) : Int) (2 ^ (min (x % 64) 64))) 1 = (1 : Int)) = n.testBit x := bs_has n x

theorem spec_From : Ult fun k => ∀ (n : Nat) ret, G65 k (bs n) ret = ret (bl n.testBit) :=
  Ult.succ ((Ult.ge 300).mono fun k hk n ret => by
    simp only [G65, f65_N, f65_e, f65_w1N]
    rw [bl_zero]
    have := loopR_upE (body := f65_w1B k ret (bs n)) (fun (i : Nat) (a : Nat → Bool) => ((i : Int), bl a)) (res := fun i a => ret (bl fun j => if i ≤ j then n.testBit j else a j)) 256 ?_ ?_ k 0 (fun _ => false) (by omega) (by omega)
    · exact this.trans (congrArg ret (bl_congr fun j hj => by simp))
    · intro nx a
      simp only [f65_w1B, f65_w1b0N, f65_w1b0]
      rw [decide_eq_false (by omega)]
      simp only [cond_false]
      refine congrArg ret (bl_congr ?_)
      exact fun i hi => by rw [if_neg (by omega)]
    · intro i hi nx a hnx
      simp only [f65_w1B, f65_w1b0N, f65_w1b0]
      have h2 : IntKind.wrap .u64 (Int.tmod (i : Int) 64) = ((i % 64 : Nat) : Int) := by rw [tmod64, wrap_u64 (by omega) (by omega)]
      have h1 : IntKind.wrap .i64 (Int.tdiv (i : Int) 64) = ((i / 64 : Nat) : Int) := by rw [tdiv64, wrap_i64 (by omega) (by omega)]
      simp only [h1, h2, wrap_inc (show i < 1099511627777 by omega), Int.toNat_natCast, bs_num n (show i / 64 < 4 by omega), has_u64, bl_set a hi, hnx, decide_eq_true (show (i : Int) < 256 by omega), decide_eq_true (show (0 : Int) ≤ ((i / 64 : Nat) : Int) by omega), decide_eq_true (show ((i / 64 : Nat) : Int) < 4 by omega), decide_eq_true (show (0 : Int) ≤ ((i % 64 : Nat) : Int) by omega), decide_eq_true (show (0 : Int) ≤ (i : Int) by omega), Bool.and_self, cond_true]
      refine congrArg ret (bl_congr ?_)
      exact fun j hj => by
        by_cases h : j = i
        · subst h; rw [if_neg (by omega), if_pos rfl, if_pos (by omega)]
        · by_cases h2 : i ≤ j
          · rw [if_pos (by omega), if_pos h2]
          · rw [if_neg (by omega), if_neg h, if_neg h2])

end Go.Proofs.Ytifnlmfhbepjcaa
