/- The order of values as the program tells it; what is too wide; the law's small words. -/
import Derived.Test.YtbmhbnkejgjfdaaRankF
set_option linter.unusedSimpArgs false
namespace Go.Proofs.Ytbmhbnkejgjfdaa
open Go Go.X

theorem lex_end {xs ys : List Val} {i : Nat} (h : i = min xs.length ys.length) : c3 (ys.length : Int) (xs.length : Int) = Val.lex (xs.drop i) (ys.drop i) := by
  rcases Nat.lt_trichotomy xs.length ys.length with h1 | h1 | h1
  · rw [List.drop_eq_nil_of_le (by omega : xs.length ≤ i), drop_cons (by omega : i < ys.length)]
    simp only [Val.lex, c3]
    rw [if_neg (by omega), if_pos (by omega)]
  · rw [List.drop_eq_nil_of_le (by omega : xs.length ≤ i), List.drop_eq_nil_of_le (by omega : ys.length ≤ i)]
    simp only [Val.lex, c3]
    rw [if_neg (by omega), if_neg (by omega)]
  · rw [List.drop_eq_nil_of_le (by omega : ys.length ≤ i), drop_cons (by omega : i < xs.length)]
    simp only [Val.lex, c3]
    rw [if_pos (by omega)]

theorem spec_Cmp (v : Val) : v.Sm → ∀ w : Val, w.Sm → Ult fun k => ∀ ret, G14 k v.pv w.pv ret = ret (Val.rcmp v w) := by
  refine Val.ind (p := fun v => v.Sm → ∀ w : Val, w.Sm → Ult fun k => ∀ ret, G14 k v.pv w.pv ret = ret (Val.rcmp v w)) (fun kd b l ih hv w hw => ?_) v
  have hall : Ult fun k => ∀ x ∈ (Val.mk kd b l).kids.zip w.kids, ∀ ret, G14 k x.1.pv x.2.pv ret = ret (Val.rcmp x.1 x.2) :=
    Ult.forall_mem fun x hx => by
      have h1 := List.of_mem_zip hx
      exact ih x.1 (Val.mem_kidl h1.1) (hv.kid (Val.mem_kidl h1.1)) x.2 (hw.kid (Val.mem_kidl h1.2))
  refine Ult.succ ((hall.and (spec_Kids.and ((spec_Len _ hv).and ((spec_Len _ hw).and (spec_cmp.and (spec_cmpb.and (Ult.ge (l.length + 1)))))))).mono fun k ⟨h1, h2, h3, h4, h5, h6, h7⟩ ret => ?_)
  have hkl : (Val.mk kd b l).kids.length ≤ l.length := Val.kids_length _
  have hlen : l.length ≤ 274877906944 := hv.length
  rw [Val.rcmp_eq]
  generalize Val.mk kd b l = v at *
  simp only [G14, f14_N, f14_e, h2, h3, h4, h5, h6, Val.fld0, Val.fld1, PV.num, thn]
  by_cases c1 : c3 w.len v.len = 0
  · rw [if_pos c1, decide_eq_true c1]
    simp only [Bool.not_true, cond_false]
    by_cases e : v.kind = w.kind
    · rw [decide_eq_true e, show c3 v.kind w.kind = 0 by rw [e]; exact c3_self _]
      simp only [Bool.not_true, cond_false, if_true]
      by_cases e2 : v.kind = 2
      · rw [decide_eq_true e2, if_pos e2]; rfl
      · rw [decide_eq_false e2, if_neg e2]
        simp only [cond_false, f14_w1N]
        have := loopR_up (body := f14_w1B k (G14 k) (G15 k) (G35 k) (G36 k) (G37 k) ret (.list (v.kids.map Val.pv)) (.list (w.kids.map Val.pv)))
          (res := fun i => ret (Val.lex (v.kids.drop i) (w.kids.drop i))) (min v.kids.length w.kids.length) ?_ ?_ k 0 (by omega) (by omega)
        · simpa using this
        · intro nx
          simp only [f14_w1B, f14_w1b0N, f14_w1b0, PV.els, List.length_map, h5]
          rw [decide_eq_false (by split <;> omega)]
          simp only [cond_false]
          rw [lex_end rfl]
        · intro i hi nx hnx
          simp only [f14_w1B, f14_w1b0N, f14_w1b0, PV.els, List.length_map]
          have i1 : i < v.kids.length := by omega
          have i2 : i < w.kids.length := by omega
          rw [decide_eq_true (show (i : Int) < (if (w.kids.length : Int) < (v.kids.length : Int) then (w.kids.length : Int) else (v.kids.length : Int)) by split <;> omega),
            decide_eq_true (show (0 : Int) ≤ (i : Int) by omega), decide_eq_true (show (i : Int) < (v.kids.length : Int) by omega), decide_eq_true (show (i : Int) < (w.kids.length : Int) by omega), getD_pv i1, getD_pv i2]
          simp only [Bool.and_self, cond_true]
          have hz : (v.kids[i], w.kids[i]) ∈ v.kids.zip w.kids := by
            have hl : i < (v.kids.zip w.kids).length := by simp; omega
            have := List.getElem_mem hl
            simpa using this
          rw [h1 _ hz, drop_cons i1, drop_cons i2, wrap_succ (by omega), hnx]
          simp only [Val.lex, thn]
          by_cases hc : Val.rcmp v.kids[i] w.kids[i] = 0
          · simp [hc]
          · simp [hc]
    · have hc : c3 v.kind w.kind ≠ 0 := by unfold c3; repeat' split; all_goals omega
      rw [decide_eq_false e, if_neg hc]; rfl
  · rw [if_neg c1, decide_eq_false c1]; rfl

namespace Val
mutual
/-- More than is asked of here? -/
def wide : Val → Int → Bool
  | mk _ _ l, n => decide (n < 1) || decide (30 < (l.length : Int)) || wides l (n - 1)
def wides : List Val → Int → Bool
  | [], _ => false
  | v :: l, n => wide v n || wides l n
end
end Val

theorem spec_wide (v : Val) : ∀ n : Int, n ≤ 1000 → Ult fun k => ∀ ret, G13 k v.pv n ret = ret (v.wide n) := by
  refine Val.ind (p := fun v => ∀ n : Int, n ≤ 1000 → Ult fun k => ∀ ret, G13 k v.pv n ret = ret (v.wide n)) (fun kd b l ih n hn => ?_) v
  have hall : Ult fun k => ∀ x ∈ l, ∀ ret, G13 k x.pv (n - 1) ret = ret (x.wide (n - 1)) := Ult.forall_mem fun x hx => ih x hx (n - 1) (by omega)
  refine Ult.succ ((hall.and (Ult.ge 32)).mono fun k ⟨h1, h2⟩ ret => ?_)
  simp only [G13, f13_N, f13_e, Val.fld2, PV.els, List.length_map, Val.kidl, Val.wide]
  by_cases c1 : n < 1
  · simp [c1]
  · by_cases c2 : 30 < (l.length : Int)
    · simp [c1, c2]
    · rw [decide_eq_false c1, decide_eq_false c2]
      simp only [beq_self_eq_true, cond_true, cond_false, f13_w1N, Bool.false_or]
      have := loopR_up (body := f13_w1B k (G13 k) ret (Val.mk kd b l).pv n) (res := fun i => ret (Val.wides (l.drop i) (n - 1))) l.length ?_ ?_ k 0 (by omega) (by omega)
      · simpa using this
      · intro nx
        simp [f13_w1B, f13_w1b0N, f13_w1b0, Val.fld2, PV.els, Val.kidl, Val.wides]
      · intro i hi nx hnx
        simp only [f13_w1B, f13_w1b0N, f13_w1b0, Val.fld2, PV.els, List.length_map, Val.kidl]
        rw [decide_eq_true (show (i : Int) < (l.length : Int) by omega), decide_eq_true (show (0 : Int) ≤ (i : Int) by omega), getD_pv hi, wrap_i64 (by omega) (by omega)]
        simp only [Bool.and_self, cond_true]
        rw [h1 _ (List.getElem_mem hi), drop_cons hi, wrap_succ (by omega), hnx]
        simp only [Val.wides]
        cases l[i].wide (n - 1) <;> simp

def vByt (b : Int) : Val := .mk 2 b []
def vRow (a b : Val) : Val := .mk 3 0 [a, b]
def vLeft (a : Val) : Val := .mk 4 0 [a]
def vRight (a : Val) : Val := .mk 5 0 [a]
theorem spec_byt : Ult fun k => ∀ b ret, G19 k b ret = ret (vByt b).pv :=
  Ult.succ (Ult.of fun k b ret => by simp [G19, f19_N, f19_e, vByt, Val.pv, Val.pvs])
theorem spec_row : Ult fun k => ∀ a b : Val, ∀ ret, G16 k a.pv b.pv ret = ret (vRow a b).pv :=
  Ult.succ (Ult.of fun k a b ret => by simp [G16, f16_N, f16_e, vRow, Val.pv, Val.pvs])
theorem spec_left : Ult fun k => ∀ a : Val, ∀ ret, G17 k a.pv ret = ret (vLeft a).pv :=
  Ult.succ (Ult.of fun k a ret => by simp [G17, f17_N, f17_e, vLeft, Val.pv, Val.pvs])
theorem spec_right : Ult fun k => ∀ a : Val, ∀ ret, G18 k a.pv ret = ret (vRight a).pv :=
  Ult.succ (Ult.of fun k a ret => by simp [G18, f18_N, f18_e, vRight, Val.pv, Val.pvs])

theorem spec_awake : Ult fun k => ∀ ret, G12 k ret = ret true := by
  have s1 : (vRight (vRow (vByt 97) (vByt 98))).Sm := by simp [Val.Sm, vRight, vRow, vByt, Val.size, Val.sizes]
  have s2 : (vLeft (vByt 97)).Sm := by simp [Val.Sm, vLeft, vByt, Val.size, Val.sizes]
  refine Ult.succ (((spec_Cmp _ s1 _ s2).and ((spec_Cmp _ s2 _ s2).and (spec_byt.and (spec_row.and (spec_left.and spec_right))))).mono fun k ⟨h1, h2, h3, h4, h5, h6⟩ ret => ?_)
  have r1 : Val.rcmp (vRight (vRow (vByt 97) (vByt 98))) (vLeft (vByt 97)) = -1 := by decide
  simp only [G12, f12_N, f12_e, h3, h4, h5, h6, h1, h2, r1, Val.rcmp_self]
  rfl

end Go.Proofs.Ytbmhbnkejgjfdaa
