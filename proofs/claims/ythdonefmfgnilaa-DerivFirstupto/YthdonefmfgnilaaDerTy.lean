/- The law DerivTidy comes out true. -/
import Derived.Test.YthdonefmfgnilaaDerT
set_option linter.unusedSimpArgs false
set_option linter.unusedVariables false
set_option maxRecDepth 20000
namespace Go.Proofs.Ythdonefmfgnilaa
open Go Go.X

theorem spec_awake : Ult fun k => ∀ ret, G14 k ret = ret true := by
  refine (Ult.ge 300).mono fun k hk ret => ?_
  obtain ⟨m, rfl⟩ := Nat.exists_eq_add_of_le' hk
  kernel_rfl
theorem Cor.td_kid {k : Int} {s : Nat} {n : Int} {l : List Cor} (h : (Cor.mk k s n l).td = true) : k ≠ 6 ∧ ∀ x ∈ l, x.td = true := by
  simp only [Cor.td, Bool.and_eq_true, Cor.tds_all, List.all_eq_true, decide_eq_true_eq] at h
  exact ⟨h.2.2.1, h.1⟩
theorem spec_each (v : Cor) : v.Sm → v.td = true → Ult fun k => ∀ ret, G61 k v.pv [] ret = ret [] := by
  refine Cor.ind (p := fun v => v.Sm → v.td = true → Ult fun k => ∀ ret, G61 k v.pv [] ret = ret []) (fun kd s m l ih hsm ht => ?_) v
  obtain ⟨h6, hkid⟩ := Cor.td_kid ht
  have hlen : l.length ≤ 274877906944 := hsm.length
  have a0 : Ult fun k => ∀ x ∈ l, ∀ ret, G61 k x.pv [] ret = ret [] := Ult.forall_mem fun x hx => ih x hx (Cor.Sm.kid hsm hx) (hkid x hx)
  have a1 : Ult fun k => ∀ ret, G62 k (Cor.mk kd s m l).pv [] ret = ret [] := Ult.succ (Ult.of fun k ret => by
    simp only [G62, f62_N, f62_e, Cor.fld0, Cor.kind, PV.num, dF h6]; rfl)
  refine Ult.succ ((a0.and (a1.and (Ult.ge (l.length + 1)))).mono fun k ⟨h, h1, hk⟩ ret => ?_)
  simp only [G61, f61_N, f61_e, f61_w1N, h1]
  have := vup (body := f61_w1B k (G61 k) (G62 k) ret (Cor.mk kd s m l).pv) (fun (i : Nat) (_ : Unit) => ((i : Int), ([] : List PV))) (fun i a => True) (res := fun i _ => ret []) l.length ?_ ?_ k 0 () trivial (by omega) (by omega)
  · exact this
  · intro nx _ _
    simp only [f61_w1B, f61_w1b0N, f61_w1b0, Cor.fld3, PV.els, Cor.kidl, List.length_map, decide_eq_false (show ¬ (l.length : Int) < (l.length : Int) by omega), cond_false]
  · intro i hi nx _ _ hnx
    simp only [f61_w1B, f61_w1b0N, f61_w1b0, Cor.fld3, PV.els, Cor.kidl, List.length_map, decide_eq_true (show (i : Int) < (l.length : Int) by omega), decide_eq_true (show (0 : Int) ≤ (i : Int) by omega), Bool.and_self, cond_true, getD_map Cor.pv hi, wrap_succ (show i < 1099511627777 by omega)]
    rw [h _ (List.getElem_mem hi)]
    exact hnx () trivial
theorem spec_Groups (v : Cor) (hs : v.Sm) (ht : v.td = true) : Ult fun k => ∀ ret, G29 k v.pv ret = ret (.list []) :=
  Ult.succ ((spec_each v hs ht).mono fun k h ret => by simp only [G29, f29_N, f29_e, h])
theorem spec_Tidy (v : Cor) (hok : v.Ok) (hg : v.good = true) : Ult fun k => ∀ ret, G26 k v.pv ret = ret v.tidy.pv :=
  Ult.succ (((spec_cGood v hok (Cor.good_sm hg)).and (spec_dtidy v hok (Cor.good_iff.1 hg).2 (Cor.good_sm hg))).mono fun k ⟨h1, h2⟩ ret => by
    simp only [G26, f26_N, f26_e, h1, h2, hg]; rfl)

theorem DerivTidy.main (c : Cor) (hc : c.Ok) (hz : c.size ≤ 100000000) : ∃ k, G5 k c.pv (fun y => some ([.bool y], [])) = some ([.bool true], []) := by
  have sc : c.Sm := by simp only [Cor.Sm]; omega
  by_cases hg : c.good = true
  · obtain ⟨hcnt, hf⟩ := Cor.good_iff.1 hg
    have xok := Cor.tidy_ok c hc
    have xc := Cor.tidy_cnt c
    have xf := Cor.tidy_fmd c hf
    have xt := Cor.tidy_td c hf
    have xg : c.tidy.good = true := Cor.good_iff.2 ⟨by omega, xf⟩
    have xx : c.tidy.tidy = c.tidy := Cor.td_tidy _ xt
    have hs : Cor.same c.tidy c.tidy = true := (Cor.same_iff _ _).2 rfl
    have t2 := spec_Tidy c.tidy xok xg
    rw [xx] at t2
    refine Ult.get (Ult.succ ((spec_awake.and ((spec_big c 100 (by omega)).and ((spec_csize c sc).and ((spec_cGood c hc sc).and ((spec_Tidy c hc hg).and ((spec_cGood c.tidy xok (Cor.good_sm xg)).and ((spec_csize c.tidy (Cor.good_sm xg)).and (t2.and ((spec_Same c.tidy xok (Cor.good_sm xg) c.tidy xok).and (spec_Groups c.tidy (Cor.good_sm xg) xt)))))))))).mono fun k ⟨h0, h1, h2, h3, h4, h5, h6, h7, h8, h9⟩ => ?_))
    simp only [G5, f5_N, f5_e, h0, h1, h2, h3, h4, h5, h6, h7, h8, h9, hg, xg, hs, Bool.not_true, cond_false, cond_true, beq_self_eq_true]
    cases c.big 100
    case true => rfl
    by_cases l1 : 300 < c.cnt
    · rw [dT (show (300 : Int) < ((min c.cnt 100000 : Nat) : Int) by omega)]; rfl
    · rw [dF (show ¬ (300 : Int) < ((min c.cnt 100000 : Nat) : Int) by omega), dT (show ((min c.tidy.cnt 100000 : Nat) : Int) ≤ ((min c.cnt 100000 : Nat) : Int) by omega)]
      rfl
  · have hg : c.good = false := by simpa using hg
    refine Ult.get (Ult.succ ((spec_awake.and ((spec_big c 100 (by omega)).and ((spec_csize c sc).and (spec_cGood c hc sc)))).mono fun k ⟨h0, h1, h2, h3⟩ => ?_))
    simp only [G5, f5_N, f5_e, h0, h1, h2, h3, hg]
    cases c.big 100
    case true => rfl
    by_cases l1 : 300 < c.cnt
    · rw [dT (show (300 : Int) < ((min c.cnt 100000 : Nat) : Int) by omega)]; rfl
    · rw [dF (show ¬ (300 : Int) < ((min c.cnt 100000 : Nat) : Int) by omega)]; rfl
end Go.Proofs.Ythdonefmfgnilaa
