/- How many nodes, how deep, how wide: the printed functions come to it. -/
import Derived.Test.YtifnlmfhbepjcaaTrN
import Derived.Test.YtifnlmfhbepjcaaGen
set_option linter.unusedSimpArgs false
set_option linter.unusedVariables false
set_option maxRecDepth 20000
namespace Go.Proofs.Ytifnlmfhbepjcaa
open Go Go.X

namespace Nd
mutual
/-- Its nodes. -/
def cnt : Nd → Nat
  | mk _ _ _ _ _ l => cnts l + 1
def cnts : List Nd → Nat
  | [] => 0
  | v :: l => cnt v + cnts l
end
mutual
/-- How deep. -/
def dep : Nd → Nat
  | mk _ _ _ _ _ l => deps l + 1
def deps : List Nd → Nat
  | [] => 0
  | v :: l => max (dep v) (deps l)
end
theorem cnt_pos (v : Nd) : 1 ≤ v.cnt := by cases v; simp only [cnt]; omega
theorem dep_pos (v : Nd) : 1 ≤ v.dep := by cases v; simp only [dep]; omega
end Nd

theorem min_if (n : Nat) : (if (100000 : Int) < (n : Int) then (100000 : Int) else (n : Int)) = ((min n 100000 : Nat) : Int) := by split <;> omega
theorem spec_Size (v : Nd) : v.Sm → Ult fun k => ∀ ret, G51 k v.pv ret = ret ((min v.cnt 100000 : Nat) : Int) := by
  refine Nd.ind (p := fun v => v.Sm → Ult fun k => ∀ ret, G51 k v.pv ret = ret ((min v.cnt 100000 : Nat) : Int)) (fun kd s a b m l ih hsm => ?_) v
  have hall : Ult fun k => ∀ x ∈ l, ∀ ret, G51 k x.pv ret = ret ((min x.cnt 100000 : Nat) : Int) := Ult.forall_mem fun x hx => ih x hx (Nd.Sm.kid hsm hx)
  refine Ult.succ ((hall.and (Ult.ge (l.length + 2))).mono fun k ⟨h1, h2⟩ ret => ?_)
  have hlen : l.length ≤ 274877906944 := hsm.length
  simp only [G51, f51_N, f51_e, f51_w1N]
  have := vup (body := f51_w1B k (G51 k) ret (Nd.mk kd s a b m l).pv) (fun (i : Nat) (a : Nat) => ((a : Int), (i : Int))) (fun i a => a ≤ 300000) (res := fun i a => ret ((min (a + Nd.cnts (l.drop i)) 100000 : Nat) : Int)) l.length ?_ ?_ k 0 1 (by omega) (by omega) (by omega)
  · rw [show (min (Nd.mk kd s a b m l).cnt 100000) = min (1 + Nd.cnts (l.drop 0)) 100000 by simp only [Nd.cnt, List.drop_zero]; omega]; exact this
  · intro nx a ha
    simp only [f51_w1B, f51_w1b0N, f51_w1b0, Nd.fld5, PV.els, Nd.kidl, List.length_map, decide_eq_false (show ¬ (l.length : Int) < (l.length : Int) by omega), cond_false, List.drop_length, Nd.cnts, Nat.add_zero, min_if]
  · intro i hi nx a ha hnx
    simp only [f51_w1B, f51_w1b0N, f51_w1b0, Nd.fld5, PV.els, Nd.kidl, List.length_map, decide_eq_true (show (i : Int) < (l.length : Int) by omega), decide_eq_true (show (0 : Int) ≤ (i : Int) by omega), Bool.and_self, cond_true, getD_map Nd.pv hi, wrap_succ (show i < 1099511627777 by omega), min_if]
    rw [drop_cons hi]
    simp only [Nd.cnts]
    by_cases hc : 100000 ≤ a
    · rw [dT (by omega), cond_true]
      congr 1; omega
    · rw [dF (by omega), cond_false, h1 _ (List.getElem_mem hi), wrap_i64 (by omega) (by omega)]
      have := hnx (a + min l[i].cnt 100000) (by omega)
      rw [show ((a : Int) + ((min l[i].cnt 100000 : Nat) : Int)) = ((a + min l[i].cnt 100000 : Nat) : Int) by omega]
      refine this.trans ?_
      congr 1; omega

theorem spec_depth (v : Nd) : v.Sm → ∀ n : Nat, 1 ≤ n → n ≤ 1000 → Ult fun k => ∀ ret, G74 k v.pv (n : Int) ret = ret ((min v.dep n : Nat) : Int) := by
  refine Nd.ind (p := fun v => v.Sm → ∀ n : Nat, 1 ≤ n → n ≤ 1000 → Ult fun k => ∀ ret, G74 k v.pv (n : Int) ret = ret ((min v.dep n : Nat) : Int)) (fun kd s a b m l ih hsm n h1n hn => ?_) v
  have hall : Ult fun k => ∀ x ∈ l, 2 ≤ n → ∀ ret, G74 k x.pv (((n - 1 : Nat) : Int)) ret = ret ((min x.dep (n - 1) : Nat) : Int) := Ult.forall_mem fun x hx => by
    by_cases h2 : 2 ≤ n
    · exact (ih x hx (Nd.Sm.kid hsm hx) (n - 1) (by omega) (by omega)).mono fun k h _ => h
    · exact Ult.of fun k h => absurd h h2
  refine Ult.succ ((hall.and (Ult.ge (l.length + 2))).mono fun k ⟨h1, h2⟩ ret => ?_)
  have hlen : l.length ≤ 274877906944 := hsm.length
  simp only [G74, f74_N, f74_e, f74_w1N]
  have := vup (body := f74_w1B k (G74 k) ret (Nd.mk kd s a b m l).pv (n : Int)) (fun (i : Nat) (a : Nat) => ((a : Int), (i : Int))) (fun i a => a ≤ n - 1) (res := fun i a => ret ((max a (min (Nd.deps (l.drop i)) (n - 1)) + 1 : Nat) : Int)) l.length ?_ ?_ k 0 0 (by omega) (by omega) (by omega)
  · rw [show min (Nd.mk kd s a b m l).dep n = max 0 (min (Nd.deps (l.drop 0)) (n - 1)) + 1 by simp only [Nd.dep, List.drop_zero]; omega]; exact this
  · intro nx a ha
    simp only [f74_w1B, f74_w1b0N, f74_w1b0, Nd.fld5, PV.els, Nd.kidl, List.length_map, decide_eq_false (show ¬ (l.length : Int) < (l.length : Int) by omega), cond_false, List.drop_length, Nd.deps]
    rw [wrap_i64 (by omega) (by omega)]
    congr 1; omega
  · intro i hi nx a ha hnx
    simp only [f74_w1B, f74_w1b0N, f74_w1b0, Nd.fld5, PV.els, Nd.kidl, List.length_map, decide_eq_true (show (i : Int) < (l.length : Int) by omega), decide_eq_true (show (0 : Int) ≤ (i : Int) by omega), Bool.and_self, cond_true, getD_map Nd.pv hi, wrap_succ (show i < 1099511627777 by omega)]
    rw [drop_cons hi, wrap_i64 (show -9223372036854775808 ≤ (n : Int) - 1 by omega) (by omega)]
    simp only [Nd.deps]
    by_cases hc : n - 1 ≤ a
    · rw [dT (by omega), cond_true, wrap_i64 (by omega) (by omega)]
      congr 1; omega
    · rw [dF (by omega), cond_false, show (n : Int) - 1 = ((n - 1 : Nat) : Int) by omega, h1 _ (List.getElem_mem hi) (by omega)]
      have := hnx (max a (min l[i].dep (n - 1))) (by omega)
      rw [show (if (a : Int) < ((min l[i].dep (n - 1) : Nat) : Int) then ((min l[i].dep (n - 1) : Nat) : Int) else (a : Int)) = ((max a (min l[i].dep (n - 1)) : Nat) : Int) by split <;> omega]
      refine this.trans ?_
      congr 1; omega
theorem spec_Depth (v : Nd) (h : v.Sm) : Ult fun k => ∀ ret, G50 k v.pv ret = ret ((min v.dep 65 : Nat) : Int) :=
  Ult.succ ((spec_depth v h 65 (by omega) (by omega)).mono fun k h ret => by
    simp only [G50, f50_N, f50_e]
    exact h _)
end Go.Proofs.Ytifnlmfhbepjcaa
