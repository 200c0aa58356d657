/- Values that are alike in all. -/
import Derived.Test.YtmdlhnojpcnnbaaValB
set_option linter.unusedSimpArgs false
set_option linter.unusedVariables false
namespace Go.Proofs.Ytmdlhnojpcnnbaa
open Go Go.X

namespace Val
mutual
def same : Val → Val → Bool
  | mk k b l, mk k' b' l' => decide (k = k') && (decide (b = b') && sames l l')
def sames : List Val → List Val → Bool
  | [], [] => true
  | x :: t, y :: u => same x y && sames t u
  | [], _ :: _ => false
  | _ :: _, [] => false
end
theorem sames_iff : ∀ (l l' : List Val), (∀ v ∈ l, ∀ w, same v w = true ↔ v = w) → (sames l l' = true ↔ l = l')
  | [], [], _ => by simp [sames]
  | [], _ :: _, _ => by simp [sames]
  | _ :: _, [], _ => by simp [sames]
  | x :: t, y :: u, h => by simp only [sames, Bool.and_eq_true, h x (by simp), sames_iff t u (fun z hz => h z (by simp [hz])), List.cons.injEq]
theorem sames_len : ∀ (l l' : List Val), sames l l' = true → l.length = l'.length
  | [], [], _ => rfl
  | [], _ :: _, h => by simp [sames] at h
  | _ :: _, [], h => by simp [sames] at h
  | x :: t, y :: u, h => by
    simp only [sames, Bool.and_eq_true] at h
    simp only [List.length_cons, sames_len t u h.2]
theorem same_iff (v : Val) : ∀ w, same v w = true ↔ v = w := by
  refine ind (p := fun v => ∀ w, same v w = true ↔ v = w) (fun k b l ih w => ?_) v
  obtain ⟨k', b', l'⟩ := w
  simp only [same, Bool.and_eq_true, decide_eq_true_eq, sames_iff l l' ih, mk.injEq]
end Val
theorem spec_Same (v : Val) : v.Sm → ∀ w : Val, Ult fun k => ∀ ret, G32 k v.pv w.pv ret = ret (v.same w) := by
  refine Val.ind (p := fun v => v.Sm → ∀ w : Val, Ult fun k => ∀ ret, G32 k v.pv w.pv ret = ret (v.same w)) (fun kd b l ih hsm w => ?_) v
  obtain ⟨kd', b', l'⟩ := w
  have hlen : l.length ≤ 274877906944 := hsm.length
  have a0 : Ult fun k => ∀ x ∈ l, ∀ y ∈ l', ∀ ret, G32 k x.pv y.pv ret = ret (x.same y) :=
    Ult.forall_mem fun x hx => Ult.forall_mem fun y hy => ih x hx (Val.Sm.kid hsm hx) y
  have a1 : Ult fun k => ∀ ret, G63 k (.list (l.map Val.pv)) (.list (l'.map Val.pv)) ret = ret (Val.sames l l') := Ult.succ ((a0.and (Ult.ge (l.length + 1))).mono fun k ⟨h, h2⟩ ret => by
    simp only [G63, f63_N, f63_e, f63_w1N, PV.els, List.length_map]
    by_cases hl : l.length = l'.length
    · simp only [decide_eq_true (show (l.length : Int) = (l'.length : Int) by omega), Bool.not_true, cond_false]
      have := loopR_up (body := f63_w1B k (G32 k) ret (.list (l.map Val.pv)) (.list (l'.map Val.pv))) (res := fun i => ret (Val.sames (l.drop i) (l'.drop i))) l.length ?_ ?_ k 0 (by omega) (by omega)
      · exact this
      · intro nx
        simp only [f63_w1B, f63_w1b0N, f63_w1b0, PV.els, List.length_map, decide_eq_false (show ¬ (l.length : Int) < (l.length : Int) by omega), cond_false]
        rw [List.drop_length, hl, List.drop_length]; rfl
      · intro i hi nx hnx
        have hi' : i < l'.length := by omega
        simp only [f63_w1B, f63_w1b0N, f63_w1b0, PV.els, List.length_map, decide_eq_true (show (i : Int) < (l.length : Int) by omega), decide_eq_true (show (i : Int) < (l'.length : Int) by omega), decide_eq_true (show (0 : Int) ≤ (i : Int) by omega), Bool.and_self, cond_true, getD_pv hi, getD_pv hi', wrap_succ (show i < 1099511627777 by omega)]
        rw [h _ (List.getElem_mem hi) _ (List.getElem_mem hi'), drop_cons hi, drop_cons hi', hnx]
        simp only [Val.sames]
        cases l[i].same l'[i] <;> rfl
    · simp only [decide_eq_false (show ¬ (l.length : Int) = (l'.length : Int) by omega), Bool.not_false, cond_true]
      refine congrArg ret ?_
      rw [Bool.eq_iff_iff]
      simp only [Bool.false_eq_true, false_iff]
      exact fun hs => hl (Val.sames_len l l' hs))
  refine Ult.succ (a1.mono fun k h ret => ?_)
  simp only [G32, f32_N, f32_e, Val.fld0, Val.fld1, Val.fld2, PV.num, h, Val.kind, Val.byte, Val.kidl, Val.same]
  by_cases h1 : kd = kd'
  · by_cases h2 : b = b'
    · simp [h1, h2]
    · simp [h1, h2]
  · simp [h1]

end Go.Proofs.Ytmdlhnojpcnnbaa
