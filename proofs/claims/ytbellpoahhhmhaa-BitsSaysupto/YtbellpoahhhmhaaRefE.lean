/- The document's own values: when two are the same. -/
import Derived.Test.YtbellpoahhhmhaaValE
set_option linter.unusedSimpArgs false
set_option linter.unusedVariables false
set_option maxRecDepth 20000
namespace Go.Proofs.Ytbellpoahhhmhaa
open Go Go.X

theorem spec_rSame (v : Val) : v.Sm → ∀ w : Val, Ult fun k => ∀ ret, G39 k v.pv w.pv ret = ret (v.same w) := by
  refine Val.ind (p := fun v => v.Sm → ∀ w : Val, Ult fun k => ∀ ret, G39 k v.pv w.pv ret = ret (v.same w)) (fun kd b l ih hsm w => ?_) v
  obtain ⟨kd', b', l'⟩ := w
  have hlen : l.length ≤ 274877906944 := hsm.length
  have a0 : Ult fun k => ∀ x ∈ l, ∀ y ∈ l', ∀ ret, G39 k x.pv y.pv ret = ret (x.same y) :=
    Ult.forall_mem fun x hx => Ult.forall_mem fun y hy => ih x hx (Val.Sm.kid hsm hx) y
  refine Ult.succ ((a0.and (Ult.ge (l.length + 1))).mono fun k ⟨h, h2⟩ ret => ?_)
  simp only [G39, f39_N, f39_e, Val.fld0, Val.fld1, Val.fld2, PV.num, PV.els, List.length_map, Val.kind, Val.byte, Val.kidl, Val.same]
  by_cases c1 : kd = kd'
  · by_cases c2 : b = b'
    · simp only [decide_eq_true c1, decide_eq_true c2, Bool.not_true, beq_self_eq_true, cond_true, Bool.true_and]
      by_cases hl : l.length = l'.length
      · simp only [decide_eq_true (show (l.length : Int) = (l'.length : Int) by omega), Bool.not_true, cond_false, f39_w1N]
        have := loopR_up (body := f39_w1B k (G39 k) ret (Val.mk kd b l).pv (Val.mk kd' b' l').pv) (res := fun i => ret (Val.sames (l.drop i) (l'.drop i))) l.length ?_ ?_ k 0 (by omega) (by omega)
        · exact this
        · intro nx
          simp only [f39_w1B, f39_w1b0N, f39_w1b0, Val.fld2, Val.kidl, PV.els, List.length_map, decide_eq_false (show ¬ (l.length : Int) < (l.length : Int) by omega), cond_false]
          rw [List.drop_length, hl, List.drop_length]; rfl
        · intro i hi nx hnx
          have hi' : i < l'.length := by omega
          simp only [f39_w1B, f39_w1b0N, f39_w1b0, Val.fld2, Val.kidl, PV.els, List.length_map, decide_eq_true (show (i : Int) < (l.length : Int) by omega), decide_eq_true (show (i : Int) < (l'.length : Int) by omega), decide_eq_true (show (0 : Int) ≤ (i : Int) by omega), Bool.and_self, cond_true, getD_pv hi, getD_pv hi', wrap_succ (show i < 1099511627777 by omega)]
          rw [h _ (List.getElem_mem hi) _ (List.getElem_mem hi'), drop_cons hi, drop_cons hi', hnx]
          simp only [Val.sames]
          cases l[i].same l'[i] <;> rfl
      · simp only [decide_eq_false (show ¬ (l.length : Int) = (l'.length : Int) by omega), Bool.not_false, cond_true]
        refine congrArg ret ?_
        rw [Bool.eq_iff_iff]
        simp only [Bool.false_eq_true, false_iff]
        exact fun hs => hl (Val.sames_len l l' hs)
    · simp [c1, c2]
  · simp [c1]
end Go.Proofs.Ytbellpoahhhmhaa
