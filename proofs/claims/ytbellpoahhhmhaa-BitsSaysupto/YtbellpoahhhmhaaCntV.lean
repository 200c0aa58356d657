/- The document's own values: which items count; a value as the document's own. -/
import Derived.Test.YtbellpoahhhmhaaValK
set_option linter.unusedSimpArgs false
set_option linter.unusedVariables false
namespace Go.Proofs.Ytbellpoahhhmhaa
open Go Go.X

theorem take_all {α : Type} (l : List α) : List.drop ((0 : Int)).toNat (List.take ((l.length : Int)).toNat l) = l := by simp
theorem spec_counts : Ult fun k => ∀ (v : Val) ret, G69 k v.pv ret = ret (.list (v.kids.map Val.pv)) :=
  Ult.succ (Ult.of fun k v ret => by
    simp only [G69, f69_N, f69_e, Val.fld0, Val.fld2, PV.num, PV.els, Val.kids, Val.ar]
    generalize v.kind = kd
    generalize v.kidl = l
    have ck : ∀ m : Nat, m ≤ l.length → (decide ((0 : Int) ≤ (0 : Int)) && decide ((0 : Int) ≤ (m : Int)) && decide ((m : Int) ≤ ((l.map Val.pv).length : Int))) = true := fun m h => by
      simp only [Bool.and_eq_true, decide_eq_true_eq, List.length_map]; omega
    have tk : ∀ m : Nat, List.drop ((0 : Int)).toNat (List.take ((m : Int)).toNat (l.map Val.pv)) = (l.take m).map Val.pv := fun m => by simp
    have full : (decide ((0 : Int) ≤ (0 : Int)) && decide ((0 : Int) ≤ ((l.map Val.pv).length : Int)) && decide (((l.map Val.pv).length : Int) ≤ ((l.map Val.pv).length : Int))) = true := by
      simp only [Bool.and_eq_true, decide_eq_true_eq]; omega
    have one : ∀ m : Nat, (bif decide (((l.map Val.pv).length : Int) < (m : Int)) then
        (bif (decide ((0 : Int) ≤ (0 : Int)) && decide ((0 : Int) ≤ ((l.map Val.pv).length : Int)) && decide (((l.map Val.pv).length : Int) ≤ ((l.map Val.pv).length : Int))) then ret (PV.list (List.drop ((0 : Int)).toNat (List.take (((l.map Val.pv).length : Int)).toNat (l.map Val.pv)))) else none)
        else bif (decide ((0 : Int) ≤ (0 : Int)) && decide ((0 : Int) ≤ (m : Int)) && decide ((m : Int) ≤ ((l.map Val.pv).length : Int))) then ret (PV.list (List.drop ((0 : Int)).toNat (List.take ((m : Int)).toNat (l.map Val.pv)))) else none) = ret (PV.list ((l.take m).map Val.pv)) := fun m => by
      by_cases h : (l.length : Int) < (m : Int)
      · rw [decide_eq_true (by rw [List.length_map]; exact h), full, take_all, List.take_of_length_le (l := l) (show l.length ≤ m by omega)]; rfl
      · rw [decide_eq_false (by rw [List.length_map]; exact h), ck m (by omega), tk m]; rfl
    by_cases h3 : kd = 3
    · simp only [h3, decide_true, cond_true, if_true]; exact one 2
    by_cases h4 : kd = 4
    · simp only [h4, show decide ((4 : Int) = 3) = false from rfl, show ¬ ((4 : Int) = 3) by decide, decide_true, cond_true, cond_false, if_true, if_false]; exact one 1
    by_cases h5 : kd = 5
    · simp only [h5, show decide ((5 : Int) = 3) = false from rfl, show decide ((5 : Int) = 4) = false from rfl, show ¬ ((5 : Int) = 3) by decide, show ¬ ((5 : Int) = 4) by decide, decide_true, cond_true, cond_false, if_true, if_false]; exact one 1
    by_cases h7 : kd = 7
    · simp only [h7, show decide ((7 : Int) = 3) = false from rfl, show decide ((7 : Int) = 4) = false from rfl, show decide ((7 : Int) = 5) = false from rfl, show ¬ ((7 : Int) = 3) by decide, show ¬ ((7 : Int) = 4) by decide, show ¬ ((7 : Int) = 5) by decide, decide_true, cond_true, cond_false, if_true, if_false]; exact one 1
    by_cases h6 : kd = 6
    · simp only [h6, show decide ((6 : Int) = 3) = false from rfl, show decide ((6 : Int) = 4) = false from rfl, show decide ((6 : Int) = 5) = false from rfl, show decide ((6 : Int) = 7) = false from rfl, show ¬ ((6 : Int) = 3) by decide, show ¬ ((6 : Int) = 4) by decide, show ¬ ((6 : Int) = 5) by decide, show ¬ ((6 : Int) = 7) by decide, decide_true, cond_true, cond_false, if_true, if_false, decide_eq_false (show ¬ ((l.map Val.pv).length : Int) < ((l.map Val.pv).length : Int) by omega), full, take_all]
      rw [List.take_length]
      rfl
    · simp only [decide_eq_false h3, decide_eq_false h4, decide_eq_false h5, decide_eq_false h7, decide_eq_false h6, cond_false, if_neg h3, if_neg h4, if_neg h5, if_neg h7, if_neg h6]; exact one 0)

theorem spec_valueOf (v : Val) : v.Sm → Ult fun k => ∀ ret, G48 k v.pv ret = ret v.pv := by
  refine Val.ind (p := fun v => v.Sm → Ult fun k => ∀ ret, G48 k v.pv ret = ret v.pv) (fun kd b l ih hsm => ?_) v
  have hall : Ult fun k => ∀ x ∈ l, ∀ ret, G48 k x.pv ret = ret x.pv := Ult.forall_mem fun x hx => ih x hx (Val.Sm.kid hsm hx)
  refine Ult.succ ((hall.and (Ult.ge (l.length + 2))).mono fun k ⟨h1, h2⟩ ret => ?_)
  have hlen : l.length ≤ 274877906944 := hsm.length
  simp only [G48, f48_N, f48_e, f48_w1N]
  have := vup (body := f48_w1B k (G48 k) ret (Val.mk kd b l).pv)
    (fun (i : Nat) (a : Unit) => (if i = 0 then .inl () else .inr ((i : Int), (l.take i).map Val.pv) : Sum Unit (Int × List PV))) (fun i a => True) (res := fun i a => ret (Val.mk kd b l).pv) l.length ?_ ?_ k 0 () trivial (by omega) (by omega)
  · exact this
  · intro nx a _
    by_cases h0 : l.length = 0
    · have : l = [] := List.length_eq_zero_iff.1 h0
      subst this
      simp only [List.length_nil, if_true, f48_w1B, f48_w1b0N, f48_w1b0, Sum.elim_inl, Val.fld0, Val.fld1, Val.fld2, PV.num, PV.els, Val.kidl, Val.kind, Val.byte, List.map_nil]
      rfl
    · rw [if_neg h0]
      simp only [f48_w1B, f48_w1b1N, f48_w1b1, Sum.elim_inr, Val.fld0, Val.fld1, Val.fld2, PV.num, PV.els, Val.kidl, Val.kind, Val.byte, List.length_map, decide_eq_false (show ¬ (l.length : Int) < (l.length : Int) by omega), cond_false, List.take_length]
      simp only [Val.pv, Val.pvs_eq]
  · intro i hi nx a _ hnx
    have hn := hnx () trivial
    rw [if_neg (show ¬ i + 1 = 0 by omega)] at hn
    by_cases h0 : i = 0
    · subst h0
      simp only [if_true, f48_w1B, f48_w1b0N, f48_w1b0, Sum.elim_inl, Val.fld2, PV.els, Val.kidl, List.length_map, decide_eq_true (show (0 : Int) < (l.length : Int) by omega), decide_eq_true (show (0 : Int) ≤ 0 by omega), Bool.and_self, cond_true]
      have e := getD_pv hi
      simp only [Int.natCast_zero] at e
      rw [e, h1 _ (List.getElem_mem hi)]
      rw [List.take_succ_eq_append_getElem hi] at hn
      simpa using hn
    · rw [if_neg h0]
      simp only [f48_w1B, f48_w1b1N, f48_w1b1, Sum.elim_inr, Val.fld2, PV.els, Val.kidl, List.length_map, decide_eq_true (show (i : Int) < (l.length : Int) by omega), decide_eq_true (show (0 : Int) ≤ (i : Int) by omega), Bool.and_self, cond_true, getD_pv hi, wrap_succ (show i < 1099511627777 by omega)]
      rw [h1 _ (List.getElem_mem hi), roomy_of (by simp; omega) (by simp; omega)]
      rw [List.take_succ_eq_append_getElem hi, List.map_append] at hn
      exact hn

end Go.Proofs.Ytbellpoahhhmhaa
