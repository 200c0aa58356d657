/- May nodes be so, their groups numbered from one on? The printed functions come to it. -/
import Derived.Test.YtifnlmfhbepjcaaTrG
set_option linter.unusedSimpArgs false
set_option linter.unusedVariables false
set_option maxRecDepth 20000
namespace Go.Proofs.Ytifnlmfhbepjcaa
open Go Go.X

namespace Nd
mutual
/-- The number behind. -/
def gd : Nd → Int → Option Int
  | mk k s a b n l, g => bif (mk k s a b n l).cln && (mk k s a b n l).shp then (if k = 5 then (if n = g + 1 then gds l (g + 1) else none) else gds l g) else none
def gds : List Nd → Int → Option Int
  | [], g => some g
  | v :: l, g => match gd v g with
    | some g' => gds l g'
    | none => none
end
theorem gd_bound (v : Nd) : ∀ g g', gd v g = some g' → g ≤ g' ∧ g' ≤ g + v.cnt := by
  refine ind (p := fun v => ∀ g g', gd v g = some g' → g ≤ g' ∧ g' ≤ g + v.cnt) (fun k s a b n l ih g g' h => ?_) v
  have hl : ∀ (l : List Nd), (∀ v ∈ l, ∀ g g', gd v g = some g' → g ≤ g' ∧ g' ≤ g + v.cnt) → ∀ g g', gds l g = some g' → g ≤ g' ∧ g' ≤ g + cnts l := by
    intro l
    induction l with
    | nil => intro _ g g' h; simp only [gds, Option.some.injEq] at h; subst h; simp [cnts]
    | cons v l ih =>
      intro h1 g g' h
      simp only [gds] at h
      cases hv : gd v g with
      | none => rw [hv] at h; cases h
      | some g1 =>
        rw [hv] at h
        have e1 := h1 v (by simp) g g1 hv
        have e2 := ih (fun x hx => h1 x (by simp [hx])) g1 g' h
        simp only [cnts]; omega
  simp only [gd] at h
  obtain ⟨_, h⟩ := cond_some h
  simp only [cnt]
  split at h
  · split at h
    · have := hl l ih _ _ h; omega
    · cases h
  · have := hl l ih _ _ h; omega
theorem gds_bound (l : List Nd) : ∀ g g', gds l g = some g' → g ≤ g' ∧ g' ≤ g + cnts l := by
  induction l with
  | nil => intro g g' h; simp only [gds, Option.some.injEq] at h; subst h; simp [cnts]
  | cons v l ih =>
    intro g g' h
    simp only [gds] at h
    cases hv : gd v g with
    | none => rw [hv] at h; cases h
    | some g1 =>
      rw [hv] at h
      have e1 := gd_bound v g g1 hv
      have e2 := ih g1 g' h
      simp only [cnts]; omega
theorem cnt_size (v : Nd) : v.cnt ≤ v.size := by
  refine Nd.rec (motive_1 := fun v => v.cnt ≤ v.size) (motive_2 := fun l => cnts l ≤ sizes l) (fun k s a b n l ih => ?_) (by simp [cnts, sizes]) (fun a l h1 h2 => ?_) v
  · simp only [cnt, size]; omega
  · simp only [cnts, sizes]; omega
/-- May a pattern be? -/
def good (v : Nd) (g : Int) : Bool := decide (v.dep ≤ 64) && (decide (v.cnt ≤ 2000) && (match gd v 0 with | some n => decide (n = g) && decide (n ≤ 32) | none => false))
end Nd

theorem spec_good (v : Nd) : v.Ok → v.Sm → Ult fun k => ∀ (g : Int) ret, 0 ≤ g → g + v.cnt ≤ 1000000000000 → G73 k v.pv g ret = match v.gd g with | some g' => ret g' true | none => ret 0 false := by
  refine Nd.ind (p := fun v => v.Ok → v.Sm → Ult fun k => ∀ (g : Int) ret, 0 ≤ g → g + v.cnt ≤ 1000000000000 → G73 k v.pv g ret = match v.gd g with | some g' => ret g' true | none => ret 0 false) (fun kd s a b m l ih hok hsm => ?_) v
  have hall : Ult fun k => ∀ x ∈ l, ∀ (g : Int) ret, 0 ≤ g → g + x.cnt ≤ 1000000000000 → G73 k x.pv g ret = match x.gd g with | some g' => ret g' true | none => ret 0 false :=
    Ult.forall_mem fun x hx => ih x hx (Nd.Ok.kid hok hx) (Nd.Sm.kid hsm hx)
  refine Ult.succ ((hall.and ((spec_clean _ hok).and ((spec_shaped _ hok hsm).and (Ult.ge (l.length + 2))))).mono fun k ⟨h1, h2, h3, h4⟩ g ret hg hgc => ?_)
  have hlen : l.length ≤ 274877906944 := hsm.length
  have hcnt : (Nd.mk kd s a b m l).cnt = Nd.cnts l + 1 := by simp only [Nd.cnt]
  have loop : ∀ g : Int, 0 ≤ g → g + Nd.cnts l ≤ 1000000000000 → f73_w1N k (G73 k) (G80 k) (G81 k) ret (Nd.mk kd s a b m l).pv g 0 = match Nd.gds l g with | some g' => ret g' true | none => ret 0 false := by
    intro g hg hgc
    have := vup (body := f73_w1B k (G73 k) (G80 k) (G81 k) ret (Nd.mk kd s a b m l).pv) (fun (i : Nat) (a : Int) => (a, (i : Int))) (fun i a => 0 ≤ a ∧ a + Nd.cnts (l.drop i) ≤ 1000000000000) (res := fun i a => match Nd.gds (l.drop i) a with | some g' => ret g' true | none => ret 0 false) l.length ?_ ?_ k 0 g ⟨hg, by simpa using hgc⟩ (by omega) (by omega)
    · exact this
    · intro nx a ha
      simp only [f73_w1B, f73_w1b0N, f73_w1b0, Nd.fld5, PV.els, Nd.kidl, List.length_map, dF (show ¬ (l.length : Int) < (l.length : Int) by omega), cond_false, List.drop_length, Nd.gds]
    · intro i hi nx a ⟨ha, hac⟩ hnx
      simp only [f73_w1B, f73_w1b0N, f73_w1b0, Nd.fld5, PV.els, Nd.kidl, List.length_map, dT (show (i : Int) < (l.length : Int) by omega), dT (show (0 : Int) ≤ (i : Int) by omega), Bool.and_self, cond_true, getD_map Nd.pv hi, wrap_succ (show i < 1099511627777 by omega)]
      rw [drop_cons hi] at hac
      rw [drop_cons hi]
      simp only [Nd.cnts] at hac
      rw [h1 _ (List.getElem_mem hi) a _ ha (by omega)]
      simp only [Nd.gds]
      cases hv : Nd.gd l[i] a with
      | none => rfl
      | some g' =>
        have := Nd.gd_bound _ _ _ hv
        exact hnx g' ⟨by omega, by omega⟩
  simp only [G73, f73_N, f73_e, h2, h3, Nd.fld0, Nd.fld4, PV.num, Nd.kind, Nd.num, Nd.gd]
  cases (Nd.mk kd s a b m l).cln
  · rfl
  cases (Nd.mk kd s a b m l).shp
  · rfl
  simp only [Bool.not_true, beq_self_eq_true, cond_true, cond_false, Bool.and_self]
  rw [wrap_i64 (by omega) (by omega)]
  by_cases h5 : kd = 5
  · rw [dT h5, cond_true, if_pos h5]
    by_cases hm : m = g + 1
    · rw [dT hm, if_pos hm]
      exact loop _ (by omega) (by omega)
    · rw [dF hm, if_neg hm]; rfl
  · rw [dF h5, cond_false, if_neg h5]
    exact loop _ hg (by omega)

theorem spec_tGood (q : Pat) (hok : q.Ok) (hsm : q.root.Sm) : Ult fun k => ∀ ret, G48 k q.pv ret = ret (q.root.good q.g) :=
  Ult.succ (((spec_Depth _ hsm).and ((spec_Size _ hsm).and (spec_good _ hok.1 hsm))).mono fun k ⟨h1, h2, h3⟩ ret => by
    have e2 : PV.fld q.pv 2 = q.root.pv := rfl
    have e3 : PV.fld q.pv 3 = .int q.g := rfl
    have hc : q.root.cnt ≤ 274877906944 := Nat.le_trans (Nd.cnt_size _) hsm
    simp only [G48, f48_N, f48_e, e2, e3, h1, h2, PV.num, Nd.good]
    rw [h3 0 _ (by omega) (by omega)]
    by_cases d1 : q.root.dep ≤ 64
    · rw [dF (show ¬ (64 : Int) < ((min q.root.dep 65 : Nat) : Int) by omega), dT d1]
      by_cases d2 : q.root.cnt ≤ 2000
      · rw [dF (show ¬ (2000 : Int) < ((min q.root.cnt 100000 : Nat) : Int) by omega), dT d2]
        cases q.root.gd 0 with
        | none => rfl
        | some n =>
          simp only [beq_self_eq_true, cond_true, cond_false, Bool.true_and]
          cases decide (n = q.g) <;> rfl
      · rw [dT (show (2000 : Int) < ((min q.root.cnt 100000 : Nat) : Int) by omega), dF d2]; rfl
    · rw [dT (show (64 : Int) < ((min q.root.dep 65 : Nat) : Int) by omega), dF d1]; rfl)
end Go.Proofs.Ytifnlmfhbepjcaa
