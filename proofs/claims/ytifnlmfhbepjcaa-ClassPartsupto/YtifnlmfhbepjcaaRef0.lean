/- The document's own sets: the printed functions Of, Range, Or, And, Not of package catchpoleref1. -/
import Derived.Test.YtifnlmfhbepjcaaBl0
set_option linter.unusedSimpArgs false
set_option linter.unusedVariables false
set_option maxRecDepth 20000
namespace Go.Proofs.Ytifnlmfhbepjcaa
open Go Go.X

theorem spec_rOf (l : List Nat) (hl : ∀ b ∈ l, b < 256) (hlen : l.length ≤ 1099511627776) : Ult fun k => ∀ ret, G29 k (.list (pvL l)) ret = ret (bl fun i => decide (i ∈ l)) :=
  Ult.succ ((Ult.ge (l.length + 2)).mono fun k hk ret => by
    simp only [G29, f29_N, f29_e, f29_w1N]
    rw [bl_zero]
    have := loopR_upE (body := f29_w1B k ret (.list (pvL l))) (fun (i : Nat) (a : Nat → Bool) => ((i : Int), bl a)) (res := fun i a => ret (bl fun j => a j || decide (j ∈ l.drop i))) l.length ?_ ?_ k 0 (fun _ => false) (by omega) (by omega)
    · exact this.trans (congrArg ret (bl_congr fun j hj => by simp))
    · intro nx a
      simp only [f29_w1B, f29_w1b0N, f29_w1b0, els_list, pvL_len]
      rw [decide_eq_false (by omega)]
      simp
    · intro i hi nx a hnx
      have hb := hl _ (List.getElem_mem hi)
      simp only [f29_w1B, f29_w1b0N, f29_w1b0, els_list, pvL_len, pvL_get hi, pvL_get' hi, num_int, wrap_inc (show i < 1099511627777 by omega), Int.toNat_natCast, bl_set a hb, hnx, decide_eq_true (show (i : Int) < (l.length : Int) by omega), decide_eq_true (show (0 : Int) ≤ (i : Int) by omega), decide_eq_true (show (0 : Int) ≤ (l[i] : Int) by omega), decide_eq_true (show (l[i] : Int) < 256 by omega), Bool.and_self, cond_true]
      refine congrArg ret (bl_congr ?_)
      exact fun j hj => by
        rw [drop_cons' hi]
        by_cases h : j = l[i]
        · rw [if_pos h, decide_eq_true (show j ∈ l[i] :: List.drop (i + 1) l by rw [h]; exact List.mem_cons_self), Bool.or_true, Bool.true_or]
        · rw [if_neg h]
          congr 1
          rw [decide_eq_decide, List.mem_cons]
          exact ⟨fun e => .inr e, fun e => e.resolve_left h⟩)

theorem spec_rRange : Ult fun k => ∀ (lo hi : Nat) ret, lo < 256 → hi < 256 → G30 k (lo : Int) (hi : Int) ret = ret (bl fun i => decide (lo ≤ i) && decide (i ≤ hi)) :=
  Ult.succ ((Ult.ge 600).mono fun k hk lo hi ret h1 h2 => by
    simp only [G30, f30_N, f30_e, f30_w1N]
    rw [bl_zero]
    have := loopR_upE (body := f30_w1B k ret (hi : Int)) (fun (i : Nat) (a : Nat → Bool) => ((i : Int), bl a)) (res := fun i a => ret (bl fun j => a j || (decide (i ≤ j) && decide (j ≤ hi)))) (max lo (hi + 1)) ?_ ?_ k lo (fun _ => false) (by omega) (by omega)
    · exact this.trans (by simp)
    · intro nx a
      simp only [f30_w1B, f30_w1b0N, f30_w1b0]
      rw [decide_eq_false (by omega)]
      simp only [cond_false]
      refine congrArg ret (bl_congr ?_)
      exact fun j hj => by
        rw [show (decide (max lo (hi + 1) ≤ j) && decide (j ≤ hi)) = false by rw [Bool.and_eq_false_iff, decide_eq_false_iff_not, decide_eq_false_iff_not]; omega, Bool.or_false]
    · intro i hi2 nx a hnx
      simp only [f30_w1B, f30_w1b0N, f30_w1b0]
      by_cases hc : i ≤ hi
      · simp only [wrap_inc (show i < 1099511627777 by omega), Int.toNat_natCast, bl_set a (show i < 256 by omega), hnx, decide_eq_true (show (i : Int) ≤ (hi : Int) by omega), decide_eq_true (show (0 : Int) ≤ (i : Int) by omega), decide_eq_true (show (i : Int) < 256 by omega), Bool.and_self, cond_true]
        refine congrArg ret (bl_congr ?_)
        exact fun j hj => by
          by_cases h : j = i
          · subst h; rw [if_pos rfl, decide_eq_true (Nat.le_refl j), decide_eq_true hc]; simp
          · rw [if_neg h]; congr 2; rw [decide_eq_decide]; omega
      · rw [decide_eq_false (by omega)]
        simp only [cond_false]
        refine congrArg ret (bl_congr ?_)
        exact fun j hj => by
          rw [show (decide (i ≤ j) && decide (j ≤ hi)) = false by rw [Bool.and_eq_false_iff, decide_eq_false_iff_not, decide_eq_false_iff_not]; omega, Bool.or_false])

theorem spec_rOr : Ult fun k => ∀ (f g : Nat → Bool) ret, G31 k (bl f) (bl g) ret = ret (bl fun j => f j || g j) :=
  Ult.succ ((Ult.ge 300).mono fun k hk f g ret => by
    simp only [G31, f31_N, f31_e, f31_w1N]
    have := loopR_upE (body := f31_w1B k ret (bl g)) (fun (i : Nat) (a : Nat → Bool) => ((i : Int), bl a)) (res := fun i a => ret (bl fun j => if i ≤ j then a j || g j else a j)) 256 ?_ ?_ k 0 f (by omega) (by omega)
    · exact this.trans (by simp)
    · intro nx a
      simp only [f31_w1B, f31_w1b0N, f31_w1b0]
      rw [decide_eq_false (by omega)]
      simp only [cond_false]
      refine congrArg ret (bl_congr ?_)
      exact fun j hj => by rw [if_neg (by omega)]
    · intro i hi nx a hnx
      have key : ∀ b, b = (a i || g i) → (bl fun j => if i + 1 ≤ j then (if j = i then b else a j) || g j else (if j = i then b else a j)) = bl fun j => if i ≤ j then a j || g j else a j := by
        intro b hb
        exact bl_congr fun j hj => by
          by_cases h : j = i
          · subst h; rw [if_neg (by omega), if_pos rfl, if_pos (by omega), hb]
          · by_cases h2 : i ≤ j
            · rw [if_pos (by omega), if_neg h, if_pos h2]
            · rw [if_neg (by omega), if_neg h, if_neg h2]
      simp only [f31_w1B, f31_w1b0N, f31_w1b0, wrap_inc (show i < 1099511627777 by omega), Int.toNat_natCast, bl_tt _ hi, bl_set a hi, hnx, decide_eq_true (show (i : Int) < 256 by omega), decide_eq_true (show (0 : Int) ≤ (i : Int) by omega), Bool.and_self, cond_true]
      cases ha : a i with
      | true => simp only [Bool.true_beq, Bool.not_false, show (true == false) = false from rfl, cond_false]; rw [key true (by rw [ha]; rfl)]
      | false => simp only [show (false == false) = true from rfl, cond_true]; rw [key (g i) (by rw [ha]; rfl)])

theorem spec_rAnd : Ult fun k => ∀ (f g : Nat → Bool) ret, G32 k (bl f) (bl g) ret = ret (bl fun j => f j && g j) :=
  Ult.succ ((Ult.ge 300).mono fun k hk f g ret => by
    simp only [G32, f32_N, f32_e, f32_w1N]
    have := loopR_upE (body := f32_w1B k ret (bl g)) (fun (i : Nat) (a : Nat → Bool) => ((i : Int), bl a)) (res := fun i a => ret (bl fun j => if i ≤ j then a j && g j else a j)) 256 ?_ ?_ k 0 f (by omega) (by omega)
    · exact this.trans (by simp)
    · intro nx a
      simp only [f32_w1B, f32_w1b0N, f32_w1b0]
      rw [decide_eq_false (by omega)]
      simp only [cond_false]
      refine congrArg ret (bl_congr ?_)
      exact fun j hj => by rw [if_neg (by omega)]
    · intro i hi nx a hnx
      have key : ∀ b, b = (a i && g i) → (bl fun j => if i + 1 ≤ j then (if j = i then b else a j) && g j else (if j = i then b else a j)) = bl fun j => if i ≤ j then a j && g j else a j := by
        intro b hb
        exact bl_congr fun j hj => by
          by_cases h : j = i
          · subst h; rw [if_neg (by omega), if_pos rfl, if_pos (by omega), hb]
          · by_cases h2 : i ≤ j
            · rw [if_pos (by omega), if_neg h, if_pos h2]
            · rw [if_neg (by omega), if_neg h, if_neg h2]
      simp only [f32_w1B, f32_w1b0N, f32_w1b0, wrap_inc (show i < 1099511627777 by omega), Int.toNat_natCast, bl_tt _ hi, bl_set a hi, hnx, decide_eq_true (show (i : Int) < 256 by omega), decide_eq_true (show (0 : Int) ≤ (i : Int) by omega), Bool.and_self, cond_true]
      cases ha : a i with
      | true => simp only [show (true == true) = true from rfl, cond_true]; rw [key (g i) (by rw [ha]; rfl)]
      | false => simp only [show (false == true) = false from rfl, cond_false]; rw [key false (by rw [ha]; rfl)])

theorem spec_rNot : Ult fun k => ∀ (f : Nat → Bool) ret, G33 k (bl f) ret = ret (bl fun j => !f j) :=
  Ult.succ ((Ult.ge 300).mono fun k hk f ret => by
    simp only [G33, f33_N, f33_e, f33_w1N]
    have := loopR_upE (body := f33_w1B k ret) (fun (i : Nat) (a : Nat → Bool) => ((i : Int), bl a)) (res := fun i a => ret (bl fun j => if i ≤ j then !a j else a j)) 256 ?_ ?_ k 0 f (by omega) (by omega)
    · exact this.trans (by simp)
    · intro nx a
      simp only [f33_w1B, f33_w1b0N, f33_w1b0]
      rw [decide_eq_false (by omega)]
      simp only [cond_false]
      refine congrArg ret (bl_congr ?_)
      exact fun j hj => by rw [if_neg (by omega)]
    · intro i hi nx a hnx
      simp only [f33_w1B, f33_w1b0N, f33_w1b0, wrap_inc (show i < 1099511627777 by omega), Int.toNat_natCast, bl_tt _ hi, bl_set a hi, hnx, decide_eq_true (show (i : Int) < 256 by omega), decide_eq_true (show (0 : Int) ≤ (i : Int) by omega), Bool.and_self, cond_true]
      refine congrArg ret (bl_congr ?_)
      exact fun j hj => by
        by_cases h : j = i
        · subst h; rw [if_neg (by omega), if_pos rfl, if_pos (by omega)]
        · by_cases h2 : i ≤ j
          · rw [if_pos (by omega), if_neg h, if_pos h2]
          · rw [if_neg (by omega), if_neg h, if_neg h2])

end Go.Proofs.Ytifnlmfhbepjcaa
