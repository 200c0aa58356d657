/- The printed functions of package eager, and the document's own, come to what they should. -/
import Derived.Test.YtbmhbnkejgjfdaaPut
import Derived.Test.YtbmhbnkejgjfdaaLex
set_option linter.unusedSimpArgs false
set_option linter.unusedVariables false
namespace Go.Proofs.Ytbmhbnkejgjfdaa
open Go Go.X

def cmpV (v w : Val) : Int := lexC v.bits w.bits
theorem spec_strCompare : Ult fun k => ∀ a b ret, G42 k a b ret = ret (lexC a b) :=
  Ult.succ ((Ult.succ (p := fun k => ∀ a b ret, G48 k a b ret = ret (lexC a b)) (Ult.of fun k a b ret => by
    simp only [G48, f48_N, f48_e, G50])).mono fun k h a b ret => by
    simp only [G42, f42_N, f42_e, h])
theorem spec_ECmp (v w : Val) (hv : v.Sm) (hw : w.Sm) : Ult fun k => ∀ ret, G25 k v.pv w.pv ret = ret (cmpV v w) :=
  Ult.succ (((spec_Put v hv).and ((spec_Put w hw).and spec_strCompare)).mono fun k ⟨h1, h2, h3⟩ ret => by
    simp only [G25, f25_N, f25_e, h1, h2, h3]; rfl)
theorem min_nat (a b : Nat) : (if (b : Int) < (a : Int) then (b : Int) else (a : Int)) = ((min a b : Nat) : Int) := by split <;> omega
theorem getDI {l : List Int} {i : Nat} (h : i < l.length) : List.getD l ((i : Int)).toNat 0 = l[i] := by simp [List.getD, h]
theorem spec_Apart (v w : Val) (hv : v.Sm) (hw : w.Sm) : Ult fun k => ∀ ret, G27 k v.pv w.pv ret = ret (apart v.bits w.bits) :=
  Ult.succ (((spec_Put v hv).and ((spec_Put w hw).and (Ult.ge (v.size + 2)))).mono fun k ⟨h1, h2, h3⟩ ret => by
    have b1 := Val.bits_len v
    have b2 := Val.bits_len w
    simp only [Val.Sm] at hv hw
    simp only [G27, f27_N, f27_e, h1, h2, min_nat, f27_w1N]
    have := loopR_up (body := f27_w1B k (G26 k) ret v.bits w.bits ((min v.bits.length w.bits.length : Nat) : Int)) (res := fun i => ret (apartF v.bits w.bits i)) (min v.bits.length w.bits.length) ?_ ?_ k 0 (by omega) (by omega)
    · refine this.trans ?_
      rw [apartF_zero]
    · intro nx
      simp only [f27_w1B, f27_w1b0N, f27_w1b0, min_nat]
      rw [decide_eq_false (by omega), apartF_end]
      by_cases h : v.bits.length = w.bits.length
      · simp only [if_pos h, cond_false, decide_eq_true (show (v.bits.length : Int) = (w.bits.length : Int) by omega), cond_true]
      · simp only [if_neg h, cond_false, decide_eq_false (show ¬ (v.bits.length : Int) = (w.bits.length : Int) by omega)]
    · intro i hi nx hnx
      have i1 : i < v.bits.length := by omega
      have i2 : i < w.bits.length := by omega
      simp only [f27_w1B, f27_w1b0N, f27_w1b0, decide_eq_true (show (i : Int) < ((min v.bits.length w.bits.length : Nat) : Int) by omega), decide_eq_true (show (0 : Int) ≤ (i : Int) by omega), decide_eq_true (show (i : Int) < (v.bits.length : Int) by omega), decide_eq_true (show (i : Int) < (w.bits.length : Int) by omega), Bool.and_self, cond_true, getDI i1, getDI i2, wrap_succ (show i < 1099511627777 by omega)]
      rw [apartF_step i1 i2]
      by_cases h : v.bits[i] = w.bits[i]
      · rw [if_pos h, decide_eq_true h]
        exact hnx
      · rw [if_neg h, decide_eq_false h]; rfl)
/-- The place of the first of them all. -/
def bst (l : List Val) : Nat → Nat → List Val → Nat
  | b, _, [] => b
  | b, i, x :: t => if lexC x.bits (l.getD b x).bits < 0 then bst l i (i + 1) t else bst l b (i + 1) t
theorem bst_lt (l : List Val) : ∀ (t : List Val) (b i : Nat), b < l.length → i + t.length ≤ l.length → bst l b i t < l.length
  | [], b, i, h, _ => h
  | x :: t, b, i, h, h2 => by
    simp only [List.length_cons] at h2
    simp only [bst]
    split
    · exact bst_lt l t i (i + 1) (by omega) (by omega)
    · exact bst_lt l t b (i + 1) h (by omega)
theorem spec_Best (l : List Val) (hl : ∀ v ∈ l, v.Sm) (hlen : l.length ≤ 1099511627776) : Ult fun k => ∀ ret, G31 k (.list (l.map Val.pv)) ret = ret (bst l 0 0 l : Nat) (decide (0 < l.length)) := by
  have hall : Ult fun k => ∀ x ∈ l, ∀ y ∈ l, ∀ ret, G25 k x.pv y.pv ret = ret (cmpV x y) :=
    Ult.forall_mem fun x hx => Ult.forall_mem fun y hy => spec_ECmp x y (hl x hx) (hl y hy)
  refine Ult.succ ((hall.and (Ult.ge (l.length + 2))).mono fun k ⟨h1, h2⟩ ret => ?_)
  simp only [G31, f31_N, f31_e, f31_w1N]
  have := vup (body := f31_w1B k (G25 k) ret (.list (l.map Val.pv))) (fun (i : Nat) (b : Nat) => ((b : Int), (i : Int))) (fun i b => b < l.length ∨ l.length = 0) (res := fun i b => ret (bst l b i (l.drop i) : Nat) (decide (0 < l.length))) l.length ?_ ?_ k 0 0 (by omega) (by omega) (by omega)
  · exact this
  · intro nx b _
    simp only [f31_w1B, f31_w1b0N, f31_w1b0, PV.els, List.length_map]
    rw [decide_eq_false (by omega), List.drop_length]
    simp only [cond_false, bst]
    congr 1
    rw [decide_eq_decide]; omega
  · intro i hi nx b hb hnx
    have hb : b < l.length := by omega
    simp only [f31_w1B, f31_w1b0N, f31_w1b0, PV.els, List.length_map, decide_eq_true (show (i : Int) < (l.length : Int) by omega), decide_eq_true (show (0 : Int) ≤ (i : Int) by omega), decide_eq_true (show (b : Int) < (l.length : Int) by omega), decide_eq_true (show (0 : Int) ≤ (b : Int) by omega), Bool.and_self, cond_true, getD_pv hi, getD_pv hb, wrap_succ (show i < 1099511627777 by omega)]
    rw [h1 _ (List.getElem_mem hi) _ (List.getElem_mem hb), drop_cons hi]
    have e : l.getD b l[i] = l[b] := by simp [List.getD, hb]
    simp only [bst, e]
    by_cases hc : cmpV l[i] l[b] < 0
    · rw [decide_eq_true hc, if_pos (show lexC l[i].bits l[b].bits < 0 from hc)]
      exact hnx i (.inl hi)
    · rw [decide_eq_false hc, if_neg (show ¬ lexC l[i].bits l[b].bits < 0 from hc)]
      exact hnx b (.inl hb)

def vByt (b : Int) : Val := .mk 2 b []
def vRow (a b : Val) : Val := .mk 3 0 [a, b]
def vLeft (a : Val) : Val := .mk 4 0 [a]
def vRight (a : Val) : Val := .mk 5 0 [a]
theorem spec_byt : Ult fun k => ∀ b ret, G30 k b ret = ret (vByt b).pv :=
  Ult.succ (Ult.of fun k b ret => by simp [G30, f30_N, f30_e, vByt, Val.pv, Val.pvs])
theorem spec_left : Ult fun k => ∀ a : Val, ∀ ret, G28 k a.pv ret = ret (vLeft a).pv :=
  Ult.succ (Ult.of fun k a ret => by simp [G28, f28_N, f28_e, vLeft, Val.pv, Val.pvs])
theorem spec_right : Ult fun k => ∀ a : Val, ∀ ret, G29 k a.pv ret = ret (vRight a).pv :=
  Ult.succ (Ult.of fun k a ret => by simp [G29, f29_N, f29_e, vRight, Val.pv, Val.pvs])
theorem row_pv (a b : Val) : PV.agg [PV.int 3, PV.int 0, PV.list [a.pv, b.pv]] = (vRow a b).pv := by simp [vRow, Val.pv, Val.pvs]
theorem bits_left (a : Val) : (vLeft a).bits = 48 :: a.bits := by simp [vLeft, Val.bits_eq (Val.mk 4 0 [a]), Val.kind, Val.kids, Val.kidl, Val.ar, Val.bitsK]
theorem bits_right (a : Val) : (vRight a).bits = 49 :: a.bits := by simp [vRight, Val.bits_eq (Val.mk 5 0 [a]), Val.kind, Val.kids, Val.kidl, Val.ar, Val.bitsK]
theorem bits_row (a b : Val) : (vRow a b).bits = a.bits ++ b.bits := by simp [vRow, Val.bits_eq (Val.mk 3 0 [a, b]), Val.kind, Val.kids, Val.kidl, Val.ar, Val.bitsK]
theorem bits_byt (b : Int) : (vByt b).bits = [] := by simp [vByt, Val.bits_eq (Val.mk 2 b []), Val.kind, Val.kids, Val.kidl, Val.ar, Val.bitsK]
theorem sm_left {a : Val} (h : a.size ≤ 200000000000) : (vLeft a).Sm := by simp only [vLeft, Val.Sm, Val.size, Val.sizes]; omega
theorem sm_right {a : Val} (h : a.size ≤ 200000000000) : (vRight a).Sm := by simp only [vRight, Val.Sm, Val.size, Val.sizes]; omega
theorem sm_row {a b : Val} (h : a.size + b.size ≤ 200000000000) : (vRow a b).Sm := by simp only [vRow, Val.Sm, Val.size, Val.sizes]; omega

theorem spec_awake : Ult fun k => ∀ ret, G23 k ret = ret true := by
  have s0 : (vByt 97).size = 4 := rfl
  have s1 : (vRight (vRow (vByt 97) (vByt 98))).Sm := by simp [Val.Sm, vRight, vRow, vByt, Val.size, Val.sizes]
  have s2 : (vLeft (vByt 97)).Sm := by simp [Val.Sm, vLeft, vByt, Val.size, Val.sizes]
  refine Ult.succ (((spec_ECmp _ _ s2 s1).and ((spec_Apart _ _ s2 s2).and (spec_byt.and (spec_left.and spec_right)))).mono fun k ⟨h1, h2, h3, h4, h5⟩ ret => ?_)
  have r1 : cmpV (vLeft (vByt 97)) (vRight (vRow (vByt 97) (vByt 98))) = -1 := by simp [cmpV, bits_left, bits_right, lexC]
  simp only [G23, f23_N, f23_e, h3, h4, row_pv, h5, h1, h2, r1, (apart_eq _ _).2 rfl, decide_true, beq_self_eq_true, cond_true]

theorem EagerTotal.main (a b c : Val) (ha : a.Ok) (hb : b.Ok) (hc : c.Ok) (hs : a.size + b.size + c.size ≤ 100000000) : ∃ k, G8 k a.pv b.pv c.pv (fun y => some ([.bool y], [])) = some ([.bool true], []) := by
  have sa : a.Sm := by simp only [Val.Sm]; omega
  have sb : b.Sm := by simp only [Val.Sm]; omega
  have sc : c.Sm := by simp only [Val.Sm]; omega
  refine Ult.get (Ult.succ ((spec_awake.and ((spec_wide a 20 (by omega)).and ((spec_wide b 20 (by omega)).and ((spec_wide c 20 (by omega)).and ((spec_ECmp a b sa sb).and ((spec_ECmp b c sb sc).and ((spec_ECmp a c sa sc).and ((spec_ECmp b a sb sa).and ((spec_Put a sa).and ((spec_Put b sb).and (spec_Apart a b sa sb))))))))))).mono fun k ⟨h0, h1, h2, h3, h4, h5, h6, h7, h8, h9, h10⟩ => ?_))
  have hn : cmpV b a = -cmpV a b := lexC_neg _ _
  have hz := lexC_zero a.bits b.bits
  have hq := apart_eq a.bits b.bits
  have ht : (cmpV a b ≤ 0 → cmpV b c ≤ 0 → cmpV a c ≤ 0) ∧ (cmpV a b < 0 → cmpV b c ≤ 0 → cmpV a c < 0) ∧ (cmpV a b ≤ 0 → cmpV b c < 0 → cmpV a c < 0) := lexC_tr a.bits b.bits c.bits
  have v1 : cmpV a b = -1 ∨ cmpV a b = 0 ∨ cmpV a b = 1 := lexC_val a.bits b.bits
  have v2 : cmpV b c = -1 ∨ cmpV b c = 0 ∨ cmpV b c = 1 := lexC_val b.bits c.bits
  have v3 : cmpV a c = -1 ∨ cmpV a c = 0 ∨ cmpV a c = 1 := lexC_val a.bits c.bits
  have hz1 : decide (a.bits = b.bits) = decide (cmpV a b = 0) := by rw [decide_eq_decide]; exact hz.symm
  have hz2 : decide (apart a.bits b.bits = -1) = decide (cmpV a b = 0) := by rw [decide_eq_decide, hq]; exact hz.symm
  simp only [G8, f8_N, f8_e, h0, h1, h2, h3, h4, h5, h6, h7, h8, h9, h10, hn, hz1, hz2]
  clear h0 h1 h2 h3 h4 h5 h6 h7 h8 h9 h10 hn hz hz1 hz2
  generalize cmpV a b = x at ht v1 ⊢
  generalize cmpV b c = y at ht v2 ⊢
  generalize cmpV a c = z at ht v3 ⊢
  have hw : IntKind.wrap .i64 (0 - x) = -x := by rw [wrap_i64] <;> omega
  rw [hw]
  cases a.wide 20 <;> cases b.wide 20 <;> cases c.wide 20 <;> simp only [Bool.not_true, cond_false, cond_true, beq_self_eq_true, Bool.true_beq, Bool.false_beq]
  all_goals try rfl
  all_goals rcases v1 with rfl | rfl | rfl <;> rcases v2 with rfl | rfl | rfl <;> rcases v3 with rfl | rfl | rfl <;> first | (exfalso; revert ht; decide) | rfl

theorem EagerParts.main (a b c : Val) (ha : a.Ok) (hb : b.Ok) (hc : c.Ok) (hs : a.size + b.size + c.size ≤ 100000000) : ∃ k, G9 k a.pv b.pv c.pv (fun y => some ([.bool y], [])) = some ([.bool true], []) := by
  have sa : a.Sm := by simp only [Val.Sm]; omega
  have sb : b.Sm := by simp only [Val.Sm]; omega
  refine Ult.get (Ult.succ ((spec_awake.and ((spec_wide a 20 (by omega)).and ((spec_wide b 20 (by omega)).and ((spec_wide c 20 (by omega)).and ((spec_ECmp a b sa sb).and ((spec_Put a sa).and ((spec_Put b sb).and ((spec_Apart a b sa sb).and ((spec_ECmp _ _ (sm_left (a := a) (by omega)) (sm_left (a := b) (by omega))).and ((spec_ECmp _ _ (sm_row (a := c) (b := a) (by omega)) (sm_row (a := c) (b := b) (by omega))).and ((spec_ECmp _ _ (sm_left (a := a) (by omega)) (sm_right (a := b) (by omega))).and (spec_left.and spec_right)))))))))))).mono fun k ⟨h0, h1, h2, h3, h4, h5, h6, h7, h8, h9, h10, h11, h12⟩ => ?_))
  have e1 : cmpV (vLeft a) (vLeft b) = cmpV a b := by simp only [cmpV, bits_left, lexC_cons]
  have e2 : cmpV (vRow c a) (vRow c b) = cmpV a b := by simp only [cmpV, bits_row, lexC_app]
  have e3 : cmpV (vLeft a) (vRight b) = -1 := by simp [cmpV, bits_left, bits_right, lexC]
  have hq := apart_eq a.bits b.bits
  have hl := apart_le a.bits b.bits
  have hz2 : decide (apart a.bits b.bits = -1) = decide (a.bits = b.bits) := by rw [decide_eq_decide]; exact hq
  simp only [G9, f9_N, f9_e, h0, h1, h2, h3, h4, h5, h6, h7, h11, h12, h8, row_pv, h9, h10, e1, e2, e3, hz2, decide_true, beq_self_eq_true, cond_true, Bool.not_true, cond_false, decide_eq_true hl.1, decide_eq_true hl.2]
  cases a.wide 20 <;> cases b.wide 20 <;> cases c.wide 20 <;> rfl

theorem EagerKnown.main : ∃ k, G10 k (fun y => some ([.bool y], [])) = some ([.bool true], []) := by
  have n0 : PV.agg [PV.int 6, PV.int 0, PV.list []] = (Val.mk 6 0 []).pv := by simp [Val.pv, Val.pvs]
  have n1 : PV.agg [PV.int 6, PV.int 0, PV.list [(vByt 97).pv]] = (Val.mk 6 0 [vByt 97]).pv := by simp [Val.pv, Val.pvs]
  generalize h0 : Val.mk 6 0 [] = none' at *
  generalize h1 : Val.mk 6 0 [vByt 97] = one at *
  have b0 : none'.bits = [49] := by rw [← h0]; decide
  have b1 : one.bits = [48, 49] := by rw [← h1]; decide
  have z0 : none'.size = 4 := by rw [← h0]; rfl
  have z1 : one.size = 8 := by rw [← h1]; rfl
  have zb : ∀ b, (vByt b).size = 4 := fun b => rfl
  have zl : ∀ v, (vLeft v).size = v.size + 4 := fun v => by simp [vLeft, Val.size, Val.sizes]
  have zr : ∀ v, (vRight v).size = v.size + 4 := fun v => by simp [vRight, Val.size, Val.sizes]
  have sm : ∀ v : Val, v.size ≤ 100 → v.Sm := fun v h => by simp only [Val.Sm]; omega
  have C : ∀ v w : Val, v.size ≤ 100 → w.size ≤ 100 → Ult fun k => ∀ ret, G25 k v.pv w.pv ret = ret (cmpV v w) := fun v w h1 h2 => spec_ECmp v w (sm v h1) (sm w h2)
  have A : ∀ v w : Val, v.size ≤ 100 → w.size ≤ 100 → Ult fun k => ∀ ret, G27 k v.pv w.pv ret = ret (apart v.bits w.bits) := fun v w h1 h2 => spec_Apart v w (sm v h1) (sm w h2)
  have s1 : ∀ v ∈ [none', one, vRight one, one], v.Sm := by
    intro v hv
    simp only [List.mem_cons, List.not_mem_nil, or_false] at hv
    rcases hv with rfl | rfl | rfl | rfl <;> exact sm _ (by simp only [z0, z1, zr]; omega)
  refine Ult.get (Ult.succ ((spec_awake.and (spec_byt.and (spec_left.and (spec_right.and ((spec_Best [none', one, vRight one, one] s1 (by simp)).and ((spec_Best [] (by simp) (by simp)).and ((C one none' (by omega) (by omega)).and ((C none' one (by omega) (by omega)).and ((C (vByt 97) (vByt 98) (by rw [zb]; omega) (by rw [zb]; omega)).and ((C (vByt 97) none' (by rw [zb]; omega) (by omega)).and ((A one none' (by omega) (by omega)).and ((A (vLeft (vLeft (vByt 97))) (vLeft (vRight (vByt 97))) (by simp only [zl, zb]; omega) (by simp only [zl, zr, zb]; omega)).and ((A (vLeft (vByt 97)) (vLeft none') (by simp only [zl, zb]; omega) (by simp only [zl, z0]; omega)).and (A (vByt 97) none' (by rw [zb]; omega) (by omega))))))))))))))).mono fun k ⟨a1, a2, a3, a4, c1, c2, c3, c4, c5, c6, c7, c8, c9, c10⟩ => ?_))
  have r0 : (bst [none', one, vRight one, one] 0 0 [none', one, vRight one, one] : Nat) = 1 := by
    simp [bst, b0, b1, bits_right, lexC, List.getD]
  have r3 : cmpV one none' = -1 := by simp [cmpV, b0, b1, lexC]
  have r4 : cmpV none' one = 1 := by simp [cmpV, b0, b1, lexC]
  have r5 : cmpV (vByt 97) (vByt 98) = 0 := by simp [cmpV, bits_byt, lexC]
  have r6 : cmpV (vByt 97) none' = -1 := by simp [cmpV, bits_byt, b0, lexC]
  have r7 : apart one.bits none'.bits = 0 := by simp [b0, b1, apart]
  have r8 : apart (vLeft (vLeft (vByt 97))).bits (vLeft (vRight (vByt 97))).bits = 1 := by simp [bits_left, bits_right, bits_byt, apart]
  have r9 : apart (vLeft (vByt 97)).bits (vLeft none').bits = 1 := by simp [bits_left, b0, bits_byt, apart]
  have r10 : apart (vByt 97).bits none'.bits = 0 := by simp [b0, bits_byt, apart]
  simp only [List.map_cons, List.map_nil] at c1 c2
  simp only [G10, f10_N, f10_e, a1, a2, a3, n0, n1, a4, c1, c2, c3, c4, c5, c6, c7, c8, c9, c10, r0, r3, r4, r5, r6, r7, r8, r9, r10]
  rfl
end Go.Proofs.Ytbmhbnkejgjfdaa
