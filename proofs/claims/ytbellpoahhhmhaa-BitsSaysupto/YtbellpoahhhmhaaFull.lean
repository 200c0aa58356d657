/- Values each item of which says something. -/
import Derived.Test.YtbellpoahhhmhaaValF
set_option linter.unusedSimpArgs false
set_option linter.unusedVariables false
set_option maxRecDepth 20000
namespace Go.Proofs.Ytbellpoahhhmhaa
open Go Go.X

namespace Val
mutual
/-- Each item says something. -/
def full : Val → Bool
  | mk k _ l => fulls k l
def fulls : Int → List Val → Bool
  | _, [] => true
  | k, x :: t => (!(decide (k = 6) && decide (x.flat.length = 0)) && full x) && fulls k t
end
end Val
theorem spec_full (v : Val) : v.Sm → Ult fun k => ∀ ret, G65 k v.pv ret = ret v.full := by
  refine Val.ind (p := fun v => v.Sm → Ult fun k => ∀ ret, G65 k v.pv ret = ret v.full) (fun kd b l ih hsm => ?_) v
  have hlen : l.length ≤ 274877906944 := hsm.length
  have hall : Ult fun k => ∀ x ∈ l, ∀ ret, G65 k x.pv ret = ret x.full := Ult.forall_mem fun x hx => ih x hx (Val.Sm.kid hsm hx)
  have hle : Ult fun k => ∀ x ∈ l, ∀ ret, G23 k x.pv ret = ret (x.flat.length : Int) := Ult.forall_mem fun x hx => spec_Len x (Val.Sm.kid hsm hx)
  refine Ult.succ ((hall.and (hle.and (Ult.ge (l.length + 1)))).mono fun k ⟨h1, h2, h3⟩ ret => ?_)
  simp only [G65, f65_N, f65_e, f65_w1N, Val.full]
  have := loopR_up (body := f65_w1B k (G23 k) (G65 k) ret (Val.mk kd b l).pv) (res := fun i => ret (Val.fulls kd (l.drop i))) l.length ?_ ?_ k 0 (by omega) (by omega)
  · exact this
  · intro nx
    simp only [f65_w1B, f65_w1b0N, f65_w1b0, Val.fld2, Val.kidl, PV.els, List.length_map, decide_eq_false (show ¬ (l.length : Int) < (l.length : Int) by omega), cond_false, List.drop_length, Val.fulls]
  · intro i hi nx hnx
    simp only [f65_w1B, f65_w1b0N, f65_w1b0, Val.fld0, Val.fld2, Val.kidl, Val.kind, PV.num, PV.els, List.length_map, decide_eq_true (show (i : Int) < (l.length : Int) by omega), decide_eq_true (show (0 : Int) ≤ (i : Int) by omega), Bool.and_self, cond_true, getD_pv hi, wrap_succ (show i < 1099511627777 by omega)]
    rw [h1 _ (List.getElem_mem hi), h2 _ (List.getElem_mem hi), drop_cons hi, hnx]
    simp only [Val.fulls]
    by_cases c6 : kd = 6
    · by_cases c0 : l[i].flat.length = 0
      · simp [c6, c0]
      · simp only [dT c6, decide_eq_false (show ¬ (l[i].flat.length : Int) = 0 by omega), dF c0, beq_self_eq_true, cond_true, Bool.and_false, Bool.not_false, Bool.true_and]
        cases l[i].full <;> rfl
    · simp only [dF c6, Bool.false_beq, Bool.not_true, cond_false, Bool.false_and, Bool.not_false, Bool.true_and]
      cases l[i].full <;> rfl
theorem spec_Full (c : Cor) (hc : c.Ok) (hcs : c.Sm) (v : Val) (hv : v.Ok) (hs : v.Sm) : Ult fun k => ∀ ret, G31 k c.pv v.pv ret = ret (vGood c v && v.full) :=
  Ult.succ (((spec_vGood c hc hcs v hv hs).and (spec_full v hs)).mono fun k ⟨h1, h2⟩ ret => by
    simp only [G31, f31_N, f31_e, h1, h2]
    cases vGood c v <;> rfl)

end Go.Proofs.Ytbellpoahhhmhaa
