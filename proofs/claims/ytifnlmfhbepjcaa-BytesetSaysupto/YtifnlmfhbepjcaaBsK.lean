/- The laws BytesetKnown and BytesetSays come out true. -/
import Derived.Test.YtifnlmfhbepjcaaBsL
set_option linter.unusedSimpArgs false
set_option linter.unusedVariables false
set_option maxRecDepth 20000
namespace Go.Proofs.Ytifnlmfhbepjcaa
open Go Go.X

theorem BytesetKnown.main : ∃ k, G5 k (fun y => some ([.bool y], [])) = some ([.bool true], []) := by
  have oO : ∀ l : List Nat, (∀ b ∈ l, b < 256) → l.length ≤ 10 → Ult fun k => ∀ ret, G18 k (.list (pvL l)) ret = ret (bs (ofL l)) := fun l h1 h2 => spec_Of l h1 (by omega)
  refine Ult.get (Ult.succ ((spec_awake1.and (spec_Runs.and (spec_Len.and (spec_List.and (spec_Of0.and (spec_Least.and (spec_All.and (spec_Not.and (spec_Range.and (spec_Has.and (spec_Cmp.and ((oO [255, 64, 0] (by decide) (by decide)).and ((oO [0, 1, 255] (by decide) (by decide)).and ((oO [9, 3, 9] (by decide) (by decide)).and ((oO [64] (by decide) (by decide)).and ((oO [0] (by decide) (by decide)).and ((oO [1] (by decide) (by decide)).and (oO [0, 200] (by decide) (by decide))))))))))))))))))).mono fun k ⟨h1, h2, h3, h4, h5, h6, h7, h8, h9, h10, h11, o1, o2, o3, o4, o5, o6, o7⟩ => ?_))
  have o1 : ∀ ret, G18 k (.list [.int 255, .int 64, .int 0]) ret = ret (bs (ofL [255, 64, 0])) := o1
  have o2 : ∀ ret, G18 k (.list [.int 0, .int 1, .int 255]) ret = ret (bs (ofL [0, 1, 255])) := o2
  have o3 : ∀ ret, G18 k (.list [.int 9, .int 3, .int 9]) ret = ret (bs (ofL [9, 3, 9])) := o3
  have o4 : ∀ ret, G18 k (.list [.int 64]) ret = ret (bs (ofL [64])) := o4
  have o5 : ∀ ret, G18 k (.list [.int 0]) ret = ret (bs (ofL [0])) := o5
  have o6 : ∀ ret, G18 k (.list [.int 1]) ret = ret (bs (ofL [1])) := o6
  have o7 : ∀ ret, G18 k (.list [.int 0, .int 200]) ret = ret (bs (ofL [0, 200])) := o7
  have r1 : ∀ ret, G22 k 99 97 ret = ret (bs (rng 99 97)) := fun ret => h9 99 97 ret (by decide) (by decide)
  have r2 : ∀ ret, G22 k 0 255 ret = ret (bs (rng 0 255)) := fun ret => h9 0 255 ret (by decide) (by decide)
  have r3 : ∀ n ret, G23 k (bs n) 255 ret = ret (n.testBit 255) := fun n ret => h10 n 255 ret (by decide)
  have f1 : lst 0 = [] := by decide +kernel
  have f2 : lst (ofL [255, 64, 0]) = [0, 64, 255] := by decide +kernel
  have f3 : (lst (2 ^ 256 - 1)).length = 256 := by decide +kernel
  have f4 : notN (2 ^ 256 - 1) = 0 := by decide +kernel
  have f5 : notN 0 = 2 ^ 256 - 1 := by decide +kernel
  have f6 : runsOf (2 ^ 256 - 1) = [(0, 255)] := by decide +kernel
  have f7 : runsOf 0 = [] := by decide +kernel
  have f8 : runsOf (ofL [0, 1, 255]) = [(0, 1), (255, 255)] := by decide +kernel
  have f9 : rng 99 97 = 0 := by decide +kernel
  have f10 : rng 0 255 = 2 ^ 256 - 1 := by decide +kernel
  have f11 : lst (ofL [9, 3, 9]) = [3, 9] := by decide +kernel
  have f12 : (2 ^ 256 - 1).testBit 255 = true := by decide +kernel
  have f13 : PV.num (PV.fld (bs (ofL [64])) 1) = 1 := by rw [bs_num _ (by omega)]; decide +kernel
  have f14 : cmpS 0 (ofL [0]) = -1 := by decide +kernel
  have f15 : cmpS (ofL [1]) (ofL [0, 200]) = 1 := by decide +kernel
  have f16 : cmpS (2 ^ 256 - 1) (2 ^ 256 - 1) = 0 := (lexC_zero _ _).2 rfl
  generalize hA : 2 ^ 256 - 1 = A at *
  simp only [G5, f5_N, f5_e, h1, h2, h3, h4, h5, h6, h7, h8, h11, o1, o2, o3, o4, o5, o6, o7, r1, r2, r3, f1, f2, f3, f4, f5, f6, f7, f8, f9, f10, f11, f12, f13, f14, f15, f16, els_list, bs_zero, beq_refl, Bool.not_true, Bool.not_false, cond_false, cond_true, beq_self_eq_true, pvR_len, pvL_len, List.length_cons, List.length_nil]
  rfl

theorem BytesetSays.main (n m : Nat) (lo hi : Int) (l : List Nat) (hn : n < 2 ^ 256) (hm : m < 2 ^ 256) (hlo : (Lit.int .u8 lo).wf = true) (hhi : (Lit.int .u8 hi).wf = true) (hl : ∀ b ∈ l, b < 256) :
    ∃ k, G7 k (bs n) (bs m) lo hi (.list (pvL l)) (fun y => some ([.bool y], [])) = some ([.bool true], []) := by
  have hlo := wf_u8 hlo
  have hhi := wf_u8 hhi
  obtain ⟨a, rfl⟩ : ∃ a : Nat, lo = a := ⟨lo.toNat, by omega⟩
  obtain ⟨b, rfl⟩ : ∃ b : Nat, hi = b := ⟨hi.toNat, by omega⟩
  by_cases h300 : 300 < l.length
  · refine Ult.get (Ult.succ (spec_awake1.mono fun k h1 => ?_))
    simp only [G7, f7_N, f7_e, h1, els_list, pvL_len, Bool.not_true, cond_false, decide_eq_true (show (300 : Int) < (l.length : Int) by omega), cond_true]
  have hown : Ult fun k => ∀ (n : Nat) ret, G28 k (bs n) ret = ret (bl n.testBit) :=
    Ult.succ (spec_From.mono fun k h n ret => by simp only [G28, f28_N, f28_e, h])
  refine Ult.get (Ult.succ ((spec_awake1.and (spec_Runs.and (spec_Len.and (spec_List.and ((spec_Of l hl (by omega)).and (spec_Least.and (spec_Not.and (spec_Range.and (spec_Has.and (spec_Cmp.and (spec_Or.and (spec_And.and (spec_Minus.and (hown.and ((spec_rOf l hl (by omega)).and (spec_rRange.and (spec_rOr.and (spec_rAnd.and (spec_rNot.and (spec_rCmp.and (spec_rList.and (spec_rRuns.and (Ult.ge 300))))))))))))))))))))))).mono fun k ⟨h1, h2, h3, h4, h5, h6, h7, h8, h9, h10, h11, h12, h13, h14, q1, q2, q3, q4, q5, q6, q7, q8, hk⟩ => ?_))
  have r1 := fun ret => h8 a b ret (by omega) (by omega)
  have r2 := fun ret => q2 a b ret (by omega) (by omega)
  have r3 := fun ret => h9 n a ret (by omega)
  have w1 : IntKind.wrap .i64 (a : Int) = a := by rw [wrap_i64] <;> omega
  have w2 : IntKind.wrap .i64 (b : Int) = b := by rw [wrap_i64] <;> omega
  have e1 : bl (ofL l).testBit = bl fun i => decide (i ∈ l) := bl_congr fun i hi => ofL_bit l i
  have e2 : bl (rng a b).testBit = bl fun i => decide (a ≤ i) && decide (i ≤ b) := bl_congr fun i hi => by rw [rng_bit, decide_eq_true hi, Bool.true_and]
  have e3 : bl (n ||| m).testBit = bl fun j => n.testBit j || m.testBit j := bl_congr fun i hi => Nat.testBit_or ..
  have e4 : bl (n &&& m).testBit = bl fun j => n.testBit j && m.testBit j := bl_congr fun i hi => Nat.testBit_and ..
  have e5 : bl (notN n).testBit = bl fun j => !n.testBit j := bl_congr fun i hi => bit_not hi
  have e6 : bl (n &&& notN m).testBit = bl fun j => n.testBit j && !m.testBit j := bl_congr fun i hi => by rw [Nat.testBit_and, bit_not hi]
  have hrr : (List.foldl runStep [] (lstB n.testBit 0)).reverse = runsOf n := rfl
  have hcc : lexC ((lstB n.testBit 0).map fun (b : Nat) => (b : Int)) ((lstB m.testBit 0).map fun (b : Nat) => (b : Int)) = cmpS n m := rfl
  simp only [G7, f7_N, f7_e, h1, els_list, pvL_len, Bool.not_true, cond_false, decide_eq_false (show ¬ (300 : Int) < (l.length : Int) by omega), h2, h3, h4, h5, h6, h7, h10, h11, h12, h13, h14, q1, q3, q4, q5, q6, q7, q8, r1, w1, w2, r2, r3, e1, e2, e3, e4, e5, e6, hrr, hcc, beq_refl, beq_self_eq_true, cond_true, decide_true, Int.toNat_natCast, bl_tt n.testBit (show a < 256 by omega), decide_eq_true (show (0 : Int) ≤ (a : Int) by omega), decide_eq_true (show (a : Int) < 256 by omega), Bool.and_self, lstB_lst, pvR_len, f7_w1N, f7_w2N]
  have hlen := runs_len n
  have lp1 : loopR (f7_w1B k (G14 k) (G15 k) (G16 k) (G17 k) (G18 k) (G19 k) (G21 k) (G22 k) (G23 k) (G24 k) (G25 k) (G26 k) (G27 k) (G28 k) (G29 k) (G30 k) (G31 k) (G32 k) (G33 k) (G34 k) (G35 k) (G36 k) (fun y => some ([SV.bool y], [])) (PV.list (pvR (runsOf n))) (PV.list (pvR (runsOf n)))) k 0 = some ([SV.bool true], []) := by
    have := loopR_up (body := f7_w1B k (G14 k) (G15 k) (G16 k) (G17 k) (G18 k) (G19 k) (G21 k) (G22 k) (G23 k) (G24 k) (G25 k) (G26 k) (G27 k) (G28 k) (G29 k) (G30 k) (G31 k) (G32 k) (G33 k) (G34 k) (G35 k) (G36 k) (fun y => some ([SV.bool y], [])) (PV.list (pvR (runsOf n))) (PV.list (pvR (runsOf n)))) (res := fun i => some ([SV.bool true], [])) (runsOf n).length ?_ ?_ k 0 (by omega) (by omega)
    · exact this
    · intro nx
      simp only [f7_w1B, f7_w1b0N, f7_w1b0, els_list, pvR_len]
      rw [decide_eq_false (by omega)]
      rfl
    · intro i hi nx hnx
      simp only [f7_w1B, f7_w1b0N, f7_w1b0, els_list, pvR_len, decide_eq_true (show (i : Int) < ((runsOf n).length : Int) by omega), decide_eq_true (show (0 : Int) ≤ (i : Int) by omega), Bool.and_self, cond_true, decide_true, Bool.not_true, beq_self_eq_true, cond_false, wrap_inc (show i < 1099511627777 by omega)]
      exact hnx
  have lp2 : loopR (f7_w2B k (G14 k) (G15 k) (G16 k) (G17 k) (G18 k) (G19 k) (G21 k) (G22 k) (G23 k) (G24 k) (G25 k) (G26 k) (G27 k) (G28 k) (G29 k) (G30 k) (G31 k) (G32 k) (G33 k) (G34 k) (G35 k) (G36 k) (fun y => some ([SV.bool y], [])) (PV.list (pvR (runsOf n))) (PV.list (pvR (runsOf n)))) k 0 = some ([SV.bool true], []) := by
    have := loopR_up (body := f7_w2B k (G14 k) (G15 k) (G16 k) (G17 k) (G18 k) (G19 k) (G21 k) (G22 k) (G23 k) (G24 k) (G25 k) (G26 k) (G27 k) (G28 k) (G29 k) (G30 k) (G31 k) (G32 k) (G33 k) (G34 k) (G35 k) (G36 k) (fun y => some ([SV.bool y], [])) (PV.list (pvR (runsOf n))) (PV.list (pvR (runsOf n)))) (res := fun i => some ([SV.bool true], [])) (runsOf n).length ?_ ?_ k 0 (by omega) (by omega)
    · exact this
    · intro nx
      simp only [f7_w2B, f7_w2b0N, f7_w2b0, els_list, pvR_len]
      rw [decide_eq_false (by omega)]
      rfl
    · intro i hi nx hnx
      simp only [f7_w2B, f7_w2b0N, f7_w2b0, els_list, pvR_len, decide_eq_true (show (i : Int) < ((runsOf n).length : Int) by omega), decide_eq_true (show (0 : Int) ≤ (i : Int) by omega), Bool.and_self, cond_true, decide_true, Bool.not_true, beq_self_eq_true, cond_false, wrap_inc (show i < 1099511627777 by omega)]
      exact hnx
  have hrr2 : (List.foldl runStep [] (lst n)).reverse = runsOf n := rfl
  have hcc2 : lexC (List.map (fun (b : Nat) => (b : Int)) (lst n)) (List.map (fun (b : Nat) => (b : Int)) (lst m)) = cmpS n m := rfl
  rw [hrr2]
  simp only [hcc2, decide_true, Bool.not_true, beq_self_eq_true, cond_true]
  have hcs : lst n = [] ∨ ∃ x t, lst n = x :: t := by
    cases lst n with
    | nil => exact .inl rfl
    | cons x t => exact .inr ⟨x, t, rfl⟩
  rcases hcs with hL | ⟨x, t, hL⟩
  · simp only [hL, List.length_nil, lp1, lp2, decide_true, Bool.not_true, cond_false]
    rfl
  · have e : (List.getD (pvL (x :: t)) (Int.toNat 0) PV.nil).num = (x : Int) := rfl
    simp only [hL, List.length_cons, e, decide_true, Bool.not_true, cond_false, lp1, lp2, beq_self_eq_true, cond_true, decide_eq_true (show (0 : Int) < ((t.length + 1 : Nat) : Int) by omega), decide_eq_true (show (0 : Int) ≤ 0 by omega), Bool.and_self]
end Go.Proofs.Ytifnlmfhbepjcaa
