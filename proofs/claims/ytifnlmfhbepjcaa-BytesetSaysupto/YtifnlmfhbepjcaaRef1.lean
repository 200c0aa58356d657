/- The printed functions of package catchpoleref1 on sets come to what they should. -/
import Derived.Test.YtifnlmfhbepjcaaBsR
set_option linter.unusedSimpArgs false
set_option linter.unusedVariables false
set_option maxRecDepth 20000
namespace Go.Proofs.Ytifnlmfhbepjcaa
open Go Go.X

mutual
theorem beq_refl : ∀ p : PV, PV.beq p p = true
  | .int _ => by simp [PV.beq]
  | .bool b => by simp [PV.beq]
  | .str _ => by simp [PV.beq]
  | .flt _ => by simp [PV.beq]
  | .agg l => by rw [PV.beq]; exact beqs_refl l
  | .list l => by rw [PV.beq]; exact beqs_refl l
  | .nil => rfl
  | .ref p => by rw [PV.beq]; exact beq_refl p
  | .opq p => by rw [PV.beq]; exact beq_refl p
theorem beqs_refl : ∀ l : List PV, PV.beqs l l = true
  | [] => rfl
  | p :: l => by rw [PV.beqs, beq_refl p, beqs_refl l]; rfl
end

def bl (f : Nat → Bool) : PV := .agg ((List.range 256).map fun i => PV.bool (f i))
theorem bl_congr {f g : Nat → Bool} (h : ∀ i, i < 256 → f i = g i) : bl f = bl g := by
  unfold bl
  refine congrArg PV.agg ?_
  apply List.map_congr_left
  intro i hi
  rw [h i (List.mem_range.1 hi)]
theorem bl_fld (f : Nat → Bool) {i : Nat} (hi : i < 256) : PV.fld (bl f) i = .bool (f i) := by
  simp [bl, PV.fld, PV.flds, List.getD, hi]
theorem bl_tt (f : Nat → Bool) {i : Nat} (hi : i < 256) : PV.tt (PV.fld (bl f) i) = f i := by rw [bl_fld f hi]; rfl
theorem bl_set (f : Nat → Bool) {i : Nat} (hi : i < 256) (b : Bool) : PV.agg (List.set (PV.flds (bl f)) i (.bool b)) = bl (fun j => if j = i then b else f j) := by
  unfold bl
  rw [flds_agg]
  refine congrArg PV.agg ?_
  apply List.ext_getElem?
  intro j
  by_cases hj : j < 256
  · by_cases h : j = i
    · subst h
      simp [hj]
    · rw [List.getElem?_set_ne (Ne.symm h)]
      simp [hj, h]
  · simp [hj, List.getElem?_set]
theorem bl_zero : PV.agg (List.replicate 256 (PV.bool false)) = bl (fun _ => false) := by
  unfold bl
  refine congrArg PV.agg ?_
  apply List.ext_getElem?
  intro j
  rw [List.getElem?_replicate, List.getElem?_map]
  by_cases hj : j < 256
  · rw [if_pos hj, List.getElem?_range hj]; rfl
  · rw [if_neg hj, List.getElem?_eq_none (by simpa using hj)]; rfl
theorem pvL_get' {l : List Nat} {i : Nat} (h : i < l.length) : List.getD (pvL l) i PV.nil = PV.int (l[i] : Int) := by
  simp [pvL, List.getD, h]
theorem has_u64 (n x : Nat) : decide (intBit .and .u64 (Int.fdiv (wd n (x / 64) : Int) (2 ^ (min (x % 64) 64))) 1 = (1 : Int)) = n.testBit x := bs_has n x

theorem spec_From : Ult fun k => ∀ (n : Nat) ret, G65 k (bs n) ret = ret (bl n.testBit) :=
  Ult.succ ((Ult.ge 300).mono fun k hk n ret => by
    simp only [G65, f65_N, f65_e, f65_w1N]
    rw [bl_zero]
    have := loopR_upE (body := f65_w1B k ret (bs n)) (fun (i : Nat) (a : Nat → Bool) => ((i : Int), bl a)) (res := fun i a => ret (bl fun j => if i ≤ j then n.testBit j else a j)) 256 ?_ ?_ k 0 (fun _ => false) (by omega) (by omega)
    · exact this.trans (congrArg ret (bl_congr fun j hj => by simp))
    · intro nx a
      simp only [f65_w1B, f65_w1b0N, f65_w1b0]
      rw [decide_eq_false (by omega)]
      simp only [cond_false]
      refine congrArg ret (bl_congr ?_)
      exact fun i hi => by rw [if_neg (by omega)]
    · intro i hi nx a hnx
      simp only [f65_w1B, f65_w1b0N, f65_w1b0]
      have h2 : IntKind.wrap .u64 (Int.tmod (i : Int) 64) = ((i % 64 : Nat) : Int) := by rw [tmod64, wrap_u64 (by omega) (by omega)]
      have h1 : IntKind.wrap .i64 (Int.tdiv (i : Int) 64) = ((i / 64 : Nat) : Int) := by rw [tdiv64, wrap_i64 (by omega) (by omega)]
      simp only [h1, h2, wrap_inc (show i < 1099511627777 by omega), Int.toNat_natCast, bs_num n (show i / 64 < 4 by omega), has_u64, bl_set a hi, hnx, decide_eq_true (show (i : Int) < 256 by omega), decide_eq_true (show (0 : Int) ≤ ((i / 64 : Nat) : Int) by omega), decide_eq_true (show ((i / 64 : Nat) : Int) < 4 by omega), decide_eq_true (show (0 : Int) ≤ ((i % 64 : Nat) : Int) by omega), decide_eq_true (show (0 : Int) ≤ (i : Int) by omega), Bool.and_self, cond_true]
      refine congrArg ret (bl_congr ?_)
      exact fun j hj => by
        by_cases h : j = i
        · subst h; rw [if_neg (by omega), if_pos rfl, if_pos (by omega)]
        · by_cases h2 : i ≤ j
          · rw [if_pos (by omega), if_pos h2]
          · rw [if_neg (by omega), if_neg h, if_neg h2])

theorem spec_rOf (l : List Nat) (hl : ∀ b ∈ l, b < 256) (hlen : l.length ≤ 1099511627776) : Ult fun k => ∀ ret, G29 k (.list (pvL l)) ret = ret (bl fun i => decide (i ∈ l)) :=
  Ult.succ ((Ult.ge (l.length + 2)).mono fun k hk ret => by
    simp only [G29, f29_N, f29_e, f29_w1N]
    rw [bl_zero]
    have := loopR_upE (body := f29_w1B k ret (.list (pvL l))) (fun (i : Nat) (a : Nat → Bool) => ((i : Int), bl a)) (res := fun i a => ret (bl fun j => a j || decide (j ∈ l.drop i))) l.length ?_ ?_ k 0 (fun _ => false) (by omega) (by omega)
    · exact this.trans (congrArg ret (bl_congr fun j hj => by simp))
    · intro nx a
      simp only [f29_w1B, f29_w1b0N, f29_w1b0, els_list, pvL_len]
      rw [decide_eq_false (by omega)]
      simp
    · intro i hi nx a hnx
      have hb := hl _ (List.getElem_mem hi)
      simp only [f29_w1B, f29_w1b0N, f29_w1b0, els_list, pvL_len, pvL_get hi, pvL_get' hi, num_int, wrap_inc (show i < 1099511627777 by omega), Int.toNat_natCast, bl_set a hb, hnx, decide_eq_true (show (i : Int) < (l.length : Int) by omega), decide_eq_true (show (0 : Int) ≤ (i : Int) by omega), decide_eq_true (show (0 : Int) ≤ (l[i] : Int) by omega), decide_eq_true (show (l[i] : Int) < 256 by omega), Bool.and_self, cond_true]
      refine congrArg ret (bl_congr ?_)
      exact fun j hj => by
        rw [drop_cons' hi]
        by_cases h : j = l[i]
        · rw [if_pos h, decide_eq_true (show j ∈ l[i] :: List.drop (i + 1) l by rw [h]; exact List.mem_cons_self), Bool.or_true, Bool.true_or]
        · rw [if_neg h]
          congr 1
          rw [decide_eq_decide, List.mem_cons]
          exact ⟨fun e => .inr e, fun e => e.resolve_left h⟩)

theorem spec_rRange : Ult fun k => ∀ (lo hi : Nat) ret, lo < 256 → hi < 256 → G30 k (lo : Int) (hi : Int) ret = ret (bl fun i => decide (lo ≤ i) && decide (i ≤ hi)) :=
  Ult.succ ((Ult.ge 600).mono fun k hk lo hi ret h1 h2 => by
    simp only [G30, f30_N, f30_e, f30_w1N]
    rw [bl_zero]
    have := loopR_upE (body := f30_w1B k ret (hi : Int)) (fun (i : Nat) (a : Nat → Bool) => ((i : Int), bl a)) (res := fun i a => ret (bl fun j => a j || (decide (i ≤ j) && decide (j ≤ hi)))) (max lo (hi + 1)) ?_ ?_ k lo (fun _ => false) (by omega) (by omega)
    · exact this.trans (by simp)
    · intro nx a
      simp only [f30_w1B, f30_w1b0N, f30_w1b0]
      rw [decide_eq_false (by omega)]
      simp only [cond_false]
      refine congrArg ret (bl_congr ?_)
      exact fun j hj => by
        rw [show (decide (max lo (hi + 1) ≤ j) && decide (j ≤ hi)) = false by rw [Bool.and_eq_false_iff, decide_eq_false_iff_not, decide_eq_false_iff_not]; omega, Bool.or_false]
    · intro i hi2 nx a hnx
      simp only [f30_w1B, f30_w1b0N, f30_w1b0]
      by_cases hc : i ≤ hi
      · simp only [wrap_inc (show i < 1099511627777 by omega), Int.toNat_natCast, bl_set a (show i < 256 by omega), hnx, decide_eq_true (show (i : Int) ≤ (hi : Int) by omega), decide_eq_true (show (0 : Int) ≤ (i : Int) by omega), decide_eq_true (show (i : Int) < 256 by omega), Bool.and_self, cond_true]
        refine congrArg ret (bl_congr ?_)
        exact fun j hj => by
          by_cases h : j = i
          · subst h; rw [if_pos rfl, decide_eq_true (Nat.le_refl j), decide_eq_true hc]; simp
          · rw [if_neg h]; congr 2; rw [decide_eq_decide]; omega
      · rw [decide_eq_false (by omega)]
        simp only [cond_false]
        refine congrArg ret (bl_congr ?_)
        exact fun j hj => by
          rw [show (decide (i ≤ j) && decide (j ≤ hi)) = false by rw [Bool.and_eq_false_iff, decide_eq_false_iff_not, decide_eq_false_iff_not]; omega, Bool.or_false])

theorem spec_rOr : Ult fun k => ∀ (f g : Nat → Bool) ret, G31 k (bl f) (bl g) ret = ret (bl fun j => f j || g j) :=
  Ult.succ ((Ult.ge 300).mono fun k hk f g ret => by
    simp only [G31, f31_N, f31_e, f31_w1N]
    have := loopR_upE (body := f31_w1B k ret (bl g)) (fun (i : Nat) (a : Nat → Bool) => ((i : Int), bl a)) (res := fun i a => ret (bl fun j => if i ≤ j then a j || g j else a j)) 256 ?_ ?_ k 0 f (by omega) (by omega)
    · exact this.trans (by simp)
    · intro nx a
      simp only [f31_w1B, f31_w1b0N, f31_w1b0]
      rw [decide_eq_false (by omega)]
      simp only [cond_false]
      refine congrArg ret (bl_congr ?_)
      exact fun j hj => by rw [if_neg (by omega)]
    · intro i hi nx a hnx
      have key : ∀ b, b = (a i || g i) → (bl fun j => if i + 1 ≤ j then (if j = i then b else a j) || g j else (if j = i then b else a j)) = bl fun j => if i ≤ j then a j || g j else a j := by
        intro b hb
        exact bl_congr fun j hj => by
          by_cases h : j = i
          · subst h; rw [if_neg (by omega), if_pos rfl, if_pos (by omega), hb]
          · by_cases h2 : i ≤ j
            · rw [if_pos (by omega), if_neg h, if_pos h2]
            · rw [if_neg (by omega), if_neg h, if_neg h2]
      simp only [f31_w1B, f31_w1b0N, f31_w1b0, wrap_inc (show i < 1099511627777 by omega), Int.toNat_natCast, bl_tt _ hi, bl_set a hi, hnx, decide_eq_true (show (i : Int) < 256 by omega), decide_eq_true (show (0 : Int) ≤ (i : Int) by omega), Bool.and_self, cond_true]
      cases ha : a i with
      | true => simp only [Bool.true_beq, Bool.not_false, show (true == false) = false from rfl, cond_false]; rw [key true (by rw [ha]; rfl)]
      | false => simp only [show (false == false) = true from rfl, cond_true]; rw [key (g i) (by rw [ha]; rfl)])

theorem spec_rAnd : Ult fun k => ∀ (f g : Nat → Bool) ret, G32 k (bl f) (bl g) ret = ret (bl fun j => f j && g j) :=
  Ult.succ ((Ult.ge 300).mono fun k hk f g ret => by
    simp only [G32, f32_N, f32_e, f32_w1N]
    have := loopR_upE (body := f32_w1B k ret (bl g)) (fun (i : Nat) (a : Nat → Bool) => ((i : Int), bl a)) (res := fun i a => ret (bl fun j => if i ≤ j then a j && g j else a j)) 256 ?_ ?_ k 0 f (by omega) (by omega)
    · exact this.trans (by simp)
    · intro nx a
      simp only [f32_w1B, f32_w1b0N, f32_w1b0]
      rw [decide_eq_false (by omega)]
      simp only [cond_false]
      refine congrArg ret (bl_congr ?_)
      exact fun j hj => by rw [if_neg (by omega)]
    · intro i hi nx a hnx
      have key : ∀ b, b = (a i && g i) → (bl fun j => if i + 1 ≤ j then (if j = i then b else a j) && g j else (if j = i then b else a j)) = bl fun j => if i ≤ j then a j && g j else a j := by
        intro b hb
        exact bl_congr fun j hj => by
          by_cases h : j = i
          · subst h; rw [if_neg (by omega), if_pos rfl, if_pos (by omega), hb]
          · by_cases h2 : i ≤ j
            · rw [if_pos (by omega), if_neg h, if_pos h2]
            · rw [if_neg (by omega), if_neg h, if_neg h2]
      simp only [f32_w1B, f32_w1b0N, f32_w1b0, wrap_inc (show i < 1099511627777 by omega), Int.toNat_natCast, bl_tt _ hi, bl_set a hi, hnx, decide_eq_true (show (i : Int) < 256 by omega), decide_eq_true (show (0 : Int) ≤ (i : Int) by omega), Bool.and_self, cond_true]
      cases ha : a i with
      | true => simp only [show (true == true) = true from rfl, cond_true]; rw [key (g i) (by rw [ha]; rfl)]
      | false => simp only [show (false == true) = false from rfl, cond_false]; rw [key false (by rw [ha]; rfl)])

theorem spec_rNot : Ult fun k => ∀ (f : Nat → Bool) ret, G33 k (bl f) ret = ret (bl fun j => !f j) :=
  Ult.succ ((Ult.ge 300).mono fun k hk f ret => by
    simp only [G33, f33_N, f33_e, f33_w1N]
    have := loopR_upE (body := f33_w1B k ret) (fun (i : Nat) (a : Nat → Bool) => ((i : Int), bl a)) (res := fun i a => ret (bl fun j => if i ≤ j then !a j else a j)) 256 ?_ ?_ k 0 f (by omega) (by omega)
    · exact this.trans (by simp)
    · intro nx a
      simp only [f33_w1B, f33_w1b0N, f33_w1b0]
      rw [decide_eq_false (by omega)]
      simp only [cond_false]
      refine congrArg ret (bl_congr ?_)
      exact fun j hj => by rw [if_neg (by omega)]
    · intro i hi nx a hnx
      simp only [f33_w1B, f33_w1b0N, f33_w1b0, wrap_inc (show i < 1099511627777 by omega), Int.toNat_natCast, bl_tt _ hi, bl_set a hi, hnx, decide_eq_true (show (i : Int) < 256 by omega), decide_eq_true (show (0 : Int) ≤ (i : Int) by omega), Bool.and_self, cond_true]
      refine congrArg ret (bl_congr ?_)
      exact fun j hj => by
        by_cases h : j = i
        · subst h; rw [if_neg (by omega), if_pos rfl, if_pos (by omega)]
        · by_cases h2 : i ≤ j
          · rw [if_pos (by omega), if_neg h, if_pos h2]
          · rw [if_neg (by omega), if_neg h, if_neg h2])

def lstB (f : Nat → Bool) (i : Nat) : List Nat := (List.range' i (256 - i)).filter f
theorem lstB_step (f : Nat → Bool) (i : Nat) (hi : i < 256) : lstB f i = (if f i then [i] else []) ++ lstB f (i + 1) := by
  unfold lstB
  rw [show 256 - i = (256 - (i + 1)) + 1 by omega, List.range'_succ, List.filter_cons]
  split <;> simp
theorem lstB_lst (n : Nat) : lstB n.testBit 0 = lst n := rfl

theorem spec_rList : Ult fun k => ∀ (f : Nat → Bool) ret, G35 k (bl f) ret = ret (.list (pvL (lstB f 0))) :=
  Ult.succ ((Ult.ge 300).mono fun k hk f ret => by
    simp only [G35, f35_N, f35_e, f35_w1N]
    have := loopR_upP (body := f35_w1B k ret (bl f)) (fun (i : Nat) (a : List PV) => ((i : Int), a)) (fun i a => a.length ≤ i) (res := fun i a => ret (.list (a ++ pvL (lstB f i)))) 256 ?_ ?_ k 0 [] (by simp) (by omega) (by omega)
    · exact this.trans rfl
    · intro nx a _
      simp only [f35_w1B, f35_w1b0N, f35_w1b0]
      rw [decide_eq_false (by omega)]
      simp [lstB, pvL]
    · intro i hi nx a ha hnx
      simp only [f35_w1B, f35_w1b0N, f35_w1b0, wrap_inc (show i < 1099511627777 by omega), Int.toNat_natCast, bl_tt _ hi, wrap_u8 (n := (i : Int)) (by omega) (by omega), decide_eq_true (show (i : Int) < 256 by omega), decide_eq_true (show (0 : Int) ≤ (i : Int) by omega), Bool.and_self, cond_true]
      rw [lstB_step f i hi]
      cases hf : f i with
      | true =>
        rw [roomy_of (by simp; omega) (by simp; omega)]
        simp only [cond_true, if_true, Bool.and_self]
        refine (hnx (a ++ [PV.int (i : Int)]) (by simp; omega)).trans ?_
        simp [pvL]
      | false =>
        simp only [cond_false, Bool.false_eq_true, if_false]
        refine (hnx a (by omega)).trans ?_
        simp [pvL])

theorem lexLt_C : ∀ a b : List Int, lexLt a b = decide (lexC a b = -1)
  | [], [] => rfl
  | [], _ :: _ => rfl
  | _ :: _, [] => rfl
  | a :: x, b :: y => by
    have ih := lexLt_C x y
    simp only [lexLt, lexC]
    by_cases h1 : a < b
    · simp [h1]
    · by_cases h2 : b < a
      · simp [h1, h2, show a ≠ b by omega]
      · simp [h1, h2, show a = b by omega, ih]
theorem lexC_zero : ∀ a b : List Int, lexC a b = 0 ↔ a = b
  | [], [] => by simp [lexC]
  | [], _ :: _ => by simp [lexC]
  | _ :: _, [] => by simp [lexC]
  | a :: x, b :: y => by
    have ih := lexC_zero x y
    simp only [lexC, List.cons.injEq]
    by_cases h1 : a < b
    · simp [h1]; omega
    · by_cases h2 : b < a
      · simp [h1, h2]; omega
      · simp [h1, h2, ih]; omega
theorem lexC_neg : ∀ a b : List Int, lexC b a = -lexC a b
  | [], [] => rfl
  | [], _ :: _ => rfl
  | _ :: _, [] => rfl
  | a :: x, b :: y => by
    have ih := lexC_neg x y
    simp only [lexC]
    by_cases h1 : a < b
    · simp [h1, show ¬ b < a by omega]
    · by_cases h2 : b < a
      · simp [h1, h2]
      · simp [h1, h2, ih]

theorem spec_rCmp : Ult fun k => ∀ (f g : Nat → Bool) ret, G34 k (bl f) (bl g) ret = ret (lexC ((lstB f 0).map fun (b : Nat) => (b : Int)) ((lstB g 0).map fun (b : Nat) => (b : Int))) :=
  Ult.succ (spec_rList.mono fun k h f g ret => by
    simp only [G34, f34_N, f34_e, h, pvL_num]
    generalize (lstB f 0).map (fun (b : Nat) => (b : Int)) = x
    generalize (lstB g 0).map (fun (b : Nat) => (b : Int)) = y
    rw [lexLt_C]
    have hz := lexC_zero x y
    rcases lexC_val x y with h | h | h
    · rw [h]; rfl
    · rw [decide_eq_false (by omega), decide_eq_true (hz.1 h), h]; rfl
    · rw [decide_eq_false (by omega), decide_eq_false (fun e => by have := hz.2 e; omega), h]; rfl)

theorem spec_rRuns : Ult fun k => ∀ (f : Nat → Bool) ret, G36 k (bl f) ret = ret (.list (pvR (((lstB f 0).foldl runStep []).reverse))) :=
  Ult.succ ((Ult.ge 300).mono fun k hk f ret => by
    simp only [G36, f36_N, f36_e, f36_w1N]
    have := loopR_upP (body := f36_w1B k ret (bl f)) (fun (i : Nat) (a : List (Nat × Nat)) => ((i : Int), pvR a.reverse))
      (fun i a => a.length ≤ i ∧ (a = [] → i = 0 ∨ f (i - 1) = false) ∧ ∀ lo hi t, a = (lo, hi) :: t → hi < i ∧ (hi + 1 = i ↔ f (i - 1) = true)) (res := fun i a => ret (.list (pvR ((lstB f i).foldl runStep a).reverse))) 256 ?_ ?_ k 0 [] ⟨by simp, by simp, by simp⟩ (by omega) (by omega)
    · exact this
    · intro nx a _
      simp only [f36_w1B, f36_w1b0N, f36_w1b0]
      rw [decide_eq_false (by omega)]
      rfl
    · intro i hi nx a ha hnx
      obtain ⟨ha1, ha2, ha3⟩ := ha
      simp only [f36_w1B, f36_w1b0N, f36_w1b0, wrap_inc (show i < 1099511627777 by omega), Int.toNat_natCast, bl_tt _ hi, wrap_u8 (n := (i : Int)) (by omega) (by omega), pvR_len, List.length_reverse, decide_eq_true (show (i : Int) < 256 by omega), decide_eq_true (show (0 : Int) ≤ (i : Int) by omega), Bool.and_self, cond_true]
      rw [lstB_step f i hi]
      cases hf : f i with
      | false =>
        simp only [Bool.not_false, cond_true, Bool.false_eq_true, if_false, List.nil_append]
        refine hnx a ⟨by omega, fun e => .inr (by simpa using hf), fun lo h2 t e => ?_⟩
        have := ha3 lo h2 t e
        refine ⟨by omega, ?_⟩
        simp only [Nat.add_sub_cancel, hf, Bool.false_eq_true, iff_false]
        omega
      | true =>
        simp only [Bool.not_true, cond_false, if_true, List.cons_append, List.nil_append, List.foldl_cons]
        have hs1 : runStep a i = [] → i + 1 = 0 ∨ f (i + 1 - 1) = false := fun e => by
          exfalso
          cases a with
          | nil => simp [runStep] at e
          | cons x t =>
            obtain ⟨lo, h2⟩ := x
            simp only [runStep] at e
            split at e <;> cases e
        have hs2 : ∀ lo h2 t, runStep a i = (lo, h2) :: t → h2 < i + 1 ∧ (h2 + 1 = i + 1 ↔ f (i + 1 - 1) = true) := fun lo h2 t e => by
          have : h2 = i := by
            cases a with
            | nil => simp only [runStep, List.cons.injEq, Prod.mk.injEq] at e; exact e.1.2.symm
            | cons x t =>
              obtain ⟨lo', h2'⟩ := x
              simp only [runStep] at e
              split at e
              · injection e with e1 _; injection e1 with _ e2; exact e2.symm
              · injection e with e1 _; injection e1 with _ e2; exact e2.symm
          subst this
          simp [hf]
        have hstep := hnx (runStep a i) ⟨Nat.le_trans (runStep_len _ _) (by omega), hs1, hs2⟩
        rw [← hstep]
        have hro : roomy (a.length + List.length [PV.agg [PV.int (i : Int), PV.int (i : Int)]]) 2 = true := roomy_of (by simp; omega) (by simp; omega)
        by_cases h0 : i = 0
        · subst h0
          have : a = [] := List.length_eq_zero_iff.1 (by omega)
          subst this
          simp only [List.length_nil] at hro
          simp only [List.length_nil, hro, decide_eq_false (show ¬ (0 : Int) < ((0 : Nat) : Int) by omega)]
          rfl
        · have w : IntKind.wrap .i64 ((i : Int) - 1) = ((i - 1 : Nat) : Int) := by rw [wrap_i64] <;> omega
          simp only [w, Int.toNat_natCast, bl_tt f (show i - 1 < 256 by omega), decide_eq_true (show (0 : Int) < (i : Int) by omega), decide_eq_true (show (0 : Int) ≤ ((i - 1 : Nat) : Int) by omega), decide_eq_true (show ((i - 1 : Nat) : Int) < 256 by omega), beq_self_eq_true, Bool.and_self, cond_true]
          cases a with
          | nil =>
            have hfz : f (i - 1) = false := (ha2 rfl).resolve_left h0
            simp only [List.length_nil] at hro
            simp only [hfz, cond_false, List.length_nil, hro]
            rfl
          | cons x t =>
            obtain ⟨lo, h2⟩ := x
            obtain ⟨q1, q2⟩ := ha3 lo h2 t rfl
            have hl := ha1
            simp only [List.length_cons] at hl hro ⊢
            have w2 : IntKind.wrap .i64 (((t.length + 1 : Nat) : Int) - 1) = (t.length : Int) := by rw [wrap_i64] <;> omega
            have hrev : pvR ((lo, h2) :: t).reverse = pvR t.reverse ++ [PV.agg [.int (lo : Int), .int (h2 : Int)]] := by simp [pvR]
            have hget : List.getD (pvR ((lo, h2) :: t).reverse) (t.length) PV.nil = PV.agg [.int (lo : Int), .int (h2 : Int)] := by
              rw [hrev, List.getD_eq_getElem?_getD, List.getElem?_append_right (by simp [pvR])]
              simp [pvR]
            have hset : ∀ y, List.set (pvR ((lo, h2) :: t).reverse) (t.length) y = pvR t.reverse ++ [y] := fun y => by
              rw [hrev, List.set_append_right _ _ (by simp [pvR])]
              simp [pvR]
            simp only [w2, Int.toNat_natCast, hget, hset, flds_agg, decide_eq_true (show (0 : Int) ≤ (t.length : Int) by omega), decide_eq_true (show (t.length : Int) < ((t.length + 1 : Nat) : Int) by omega), Bool.and_self, cond_true]
            cases hp : f (i - 1) with
            | true =>
              have := q2.2 hp
              simp only [cond_true, runStep, if_pos this]
              congr 2
              simp [pvR]
            | false =>
              have : ¬ h2 + 1 = i := fun e => by rw [q2.1 e] at hp; cases hp
              simp only [cond_false, hro, Bool.and_self, cond_true, runStep, if_neg this]
              congr 2
              simp [pvR])
end Go.Proofs.Ytifnlmfhbepjcaa
