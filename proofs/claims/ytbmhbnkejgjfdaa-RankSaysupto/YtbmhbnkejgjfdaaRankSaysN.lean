/- RankSays: the law's own run. -/
import Derived.Test.YtbmhbnkejgjfdaaRankSaysM
set_option linter.unusedSimpArgs false
set_option linter.unusedVariables false
namespace Go.Proofs.Ytbmhbnkejgjfdaa
open Go Go.X

def curB (l : List Val) : Nat → Nat
  | 0 => 0
  | i + 1 => if Val.rcmp (nth l i) (nth l (curB l i)) < 0 then i else curB l i
theorem curB_best (l : List Val) : ∀ i, i ≤ l.length → bestGo l (l.length - i) (curB l i) i = best l
  | 0, _ => rfl
  | i + 1, h => by
    rw [← curB_best l i (by omega), show l.length - i = (l.length - (i + 1)) + 1 by omega, bestGo, curB]
    split <;> rfl
theorem curB_end (l : List Val) : curB l l.length = best l := by
  have := curB_best l l.length (Nat.le_refl _)
  rw [Nat.sub_self, bestGo] at this
  exact this
theorem curB_lt (l : List Val) : ∀ i, 0 < i → curB l i < i
  | 0, h => by omega
  | 1, _ => by simp only [curB, Val.rcmp_self]; decide
  | i + 2, _ => by
    have := curB_lt l (i + 1) (by omega)
    rw [curB]
    split <;> omega

theorem RankSays.main (v w : Val) (l : List Val) (_ : v.Ok) (_ : w.Ok) (_ : Val.Oks l) (hs : v.size + (w.size + (Val.sizes l + 1 + 0)) ≤ 1048576) :
    ∃ k, G6 k v.pv w.pv (.list (l.map Val.pv)) (fun y => some ([.bool y], [])) = some ([.bool true], []) := by
  have hv : v.Sm := by simp only [Val.Sm]; omega
  have hw : w.Sm := by simp only [Val.Sm]; omega
  have hsm : ∀ x ∈ l, x.Sm := fun x hx => by have := Val.size_le_of_mem hx; simp only [Val.Sm]; omega
  have hww : Ult fun k => ∀ x ∈ l, ∀ ret, G13 k x.pv 20 ret = ret (x.wide 20) := Ult.forall_mem fun x _ => spec_wide x 20 (by omega)
  have hc := Ult.all2 (l := l) (m := l) fun x hx y hy => spec_rRank x (hsm x hx) y (hsm y hy)
  have hvo : Ult fun k => ∀ x ∈ l, ∀ ret, G22 k x.pv ret = ret x.pv := Ult.forall_mem fun x hx => spec_valueOf x (hsm x hx)
  have hll : l.length ≤ 1048576 := by have := Val.length_le_sizes l; omega
  refine Ult.get (Ult.succ ((spec_awake.and ((spec_wide v 30 (by omega)).and ((spec_wide w 30 (by omega)).and (hww.and (hc.and (hvo.and ((spec_Best l hsm (by omega)).and ((spec_Cmp v hv w hw).and ((spec_valueOf v hv).and ((spec_valueOf w hw).and ((spec_rRank v hv w hw).and (Ult.ge 20)))))))))))).mono fun k ⟨h0, h1, h2, h3, h4, h5, h6, h7, h8, h9, h10, h11⟩ => ?_))
  simp only [G6, f6_N, f6_e, h0, h1, h2, PV.els, List.length_map]
  cases v.wide 30
  · cases w.wide 30
    · by_cases c2 : 12 < (l.length : Int)
      · simp [c2]
      · rw [decide_eq_false c2]
        simp only [Bool.not_true, cond_false, beq_self_eq_true, cond_true, f6_w1N]
        have := loopR_upE (A := Unit) (body := f6_w1B k (G12 k) (G13 k) (G14 k) (G20 k) (G21 k) (G22 k) (fun y => some ([.bool y], [])) v.pv w.pv (.list (l.map Val.pv)))
          (fun i _ => ((if i = 0 then (-1 : Int) else (curB l i : Int)), (i : Int)))
          (res := fun _ _ => some ([.bool true], [])) l.length ?_ ?_ k 0 () (by omega) (by omega)
        · simpa using this
        · intro nx _
          simp only [f6_w1B, f6_w1b0N, f6_w1b0, PV.els, List.length_map]
          rw [decide_eq_false (show ¬ ((l.length : Int) < (l.length : Int)) by omega), curB_end]
          simp only [cond_false, h6, h7, h8, h9, h10]
          by_cases hz : l.length = 0
          · simp [hz]
          · have hp : 0 < l.length := by omega
            rw [if_neg hz, decide_eq_true (show (0 : Int) < (l.length : Int) by omega), decide_eq_true (show (0 : Int) ≤ (best l : Int) by omega)]
            simp
        · intro i hi nx _ hnx
          have hn := hnx ()
          simp only [f6_w1B, f6_w1b0N, f6_w1b0, PV.els, List.length_map]
          rw [decide_eq_true (show (i : Int) < (l.length : Int) by omega), decide_eq_true (show (0 : Int) ≤ (i : Int) by omega), getD_nth hi]
          simp only [Bool.and_self, cond_true]
          rw [h3 _ (nth_mem hi), wrap_succ (by omega)]
          cases (nth l i).wide 20
          · simp only [cond_false]
            by_cases hz : i = 0
            · subst hz
              rw [if_neg (by omega)] at hn
              have : curB l 1 = 0 := by have := curB_lt l 1 (by omega); omega
              rw [this] at hn
              simpa using hn
            · have hb := curB_lt l i (by omega)
              rw [if_neg hz, decide_eq_false (show ¬ ((curB l i : Int) < 0) by omega), decide_eq_true (show (0 : Int) ≤ (curB l i : Int) by omega), decide_eq_true (show (curB l i : Int) < (l.length : Int) by omega), getD_nth (show curB l i < l.length by omega)]
              simp only [Bool.and_self, cond_true, beq_self_eq_true]
              rw [h5 _ (nth_mem hi), h5 _ (nth_mem (show curB l i < l.length by omega)), h4 _ (nth_mem hi) _ (nth_mem (show curB l i < l.length by omega))]
              rw [if_neg (by omega), curB] at hn
              by_cases hlt : Val.rcmp (nth l i) (nth l (curB l i)) < 0
              · rw [if_pos hlt] at hn
                rw [decide_eq_true hlt]; exact hn
              · rw [if_neg hlt] at hn
                rw [decide_eq_false hlt]; exact hn
          · rfl
    · rfl
  · rfl
end Go.Proofs.Ytbmhbnkejgjfdaa
