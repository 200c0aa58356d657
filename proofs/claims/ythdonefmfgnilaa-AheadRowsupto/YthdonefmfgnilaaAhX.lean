/- What may still come: asked by paths; the law AheadMore comes out true. -/
import Derived.Test.YthdonefmfgnilaaAhW
import Derived.Test.YthdonefmfgnilaaIntRd
set_option linter.unusedSimpArgs false
set_option linter.unusedVariables false
set_option maxRecDepth 20000
namespace Go.Proofs.Ythdonefmfgnilaa
open Go Go.X

theorem cast_toNat {n : Int} (h : 0 ≤ n) : n = ((n.toNat : Nat) : Int) := by omega
theorem spec_part (path : List Int) (hpl : path.length ≤ 1000) : Ult fun k => ∀ (Q : R → Prop) (M : Nat → Prop) (h : List HE) (ia ipa : Nat) (T : Tab) (past : List (Option (List Bool))) (at' : Int) (ret : Int → Bool → List HE → R), Ah M h ia ipa T past → Pk T.P →
    (∀ n : Nat, pathN T.P path 0 = some n → n < T.P.length → Q (ret (n : Int) (decide (0 ≤ at' ∧ at' ≤ (T.s.length : Int))) h)) → (pathN T.P path 0 = none → Q (ret 0 false h)) → Q (G71 k (.rp ia) (.list (pints path)) at' h ret) :=
  Ult.succ ((spec_Part path hpl).mono fun k hp Q M h ia ipa T past at' ret ah pk h1 h2 => by
    have hv := ah.v
    have ef : PV.fld (hvarOf h (PV.rI (PV.rp ia))) 0 = .rp T.it := by simp [hvarOf_of hv, PV.rI, PV.fld, PV.flds]
    have en : PV.num (PV.fld (hvarOf h (PV.rI (PV.rp ia))) 1) = (T.s.length : Int) := by simp [hvarOf_of hv, PV.rI, PV.fld, PV.flds, PV.num]
    simp (config := { zeta := false }) only [G71, f71_N]
    unfold f71_e
    refine cT rfl (cT (hokV_of hv) ?_)
    rw [ef]
    refine hp Q M h T _ ah.tb pk (fun n hn hlt => ?_) (fun hn => ?_)
    · have g := h1 n hn hlt
      refine cT rfl ?_
      by_cases h0 : 0 ≤ at'
      · refine cT (by rw [decide_eq_true h0]; rfl) (cT rfl (cT (hokV_of hv) ?_))
        rw [en]
        have : decide (at' ≤ (T.s.length : Int)) = decide (0 ≤ at' ∧ at' ≤ (T.s.length : Int)) := decide_eq_decide.2 ⟨fun h => ⟨h0, h⟩, fun h => h.2⟩
        rw [this]
        exact g
      · refine cF (by rw [decide_eq_false h0]; rfl) ?_
        rw [decide_eq_false (fun h => h0 h.1)] at g
        exact g
    · exact cF rfl (h2 hn))
/-- Into a part. -/
theorem spec_Into (c : Cor) (hf : c.fmd = true) (path : List Int) (hpl : path.length ≤ 1000) : Ult fun k => ∀ (Q : R → Prop) (M : Nat → Prop) (h : List HE) (ia ipa : Nat) (T : Tab) (past : List (Option (List Bool))) (at' : Int) (ret : Bool → List HE → R), T.P = Cor.flat c 0 → Ah M h ia ipa T past → Tok T → (∀ j, j < T.P.length → Is T.s past j) →
    (∀ h', Fr M h h' → Ah (Mx M h h') h' ia ipa T past → Q (ret (IntoN T.P T.s past path at') h')) → Q (G42 k (.rp ia) (.list (pints path)) at' h ret) := by
  have hpk := Pk.flat hf
  have hin : Ult fun k => ∀ x ∈ Cor.flat c 0, intoS x.1 k := Ult.forall_mem fun x hx => by
    obtain ⟨i, hi⟩ := List.getElem?_of_mem hx
    exact spec_into x.1 (hpk.fmd i _ x.2 hi)
  refine Ult.succ ((hin.and (spec_part path hpl)).mono fun k ⟨h1, h2⟩ Q M h ia ipa T past at' ret hTP ah tok his hQ => ?_)
  have pk : Pk T.P := by rw [hTP]; exact hpk
  simp (config := { zeta := false }) only [G42, f42_N, f42_e]
  refine h2 Q M h ia ipa T past at' _ ah pk (fun n hn hlt => ?_) (fun hn => ?_)
  · have hget := List.getElem?_eq_getElem hlt
    obtain ⟨b, hb1, hb2⟩ := his n hlt
    have eI : IntoN T.P T.s past path at' = (decide (0 ≤ at' ∧ at' ≤ (T.s.length : Int)) && intoN T.s b T.P[n].1 at'.toNat at'.toNat) := by
      unfold IntoN; rw [hn]; simp only [hget, hb1]
    by_cases hr : 0 ≤ at' ∧ at' ≤ (T.s.length : Int)
    · rw [decide_eq_true hr]
      refine cT rfl ?_
      rw [cast_toNat hr.1]
      refine h1 T.P[n] (by rw [← hTP]; exact List.getElem_mem hlt) Q M h ia ipa T past n at'.toNat at'.toNat [] b _ ah tok (pk.at' n _ _ hget) hb1 (by omega) (by omega) (fun h' hfr hah => ?_)
      have := hQ h' hfr hah
      rw [eI, decide_eq_true hr] at this
      exact this
    · rw [decide_eq_false hr]
      refine cF rfl ?_
      have := hQ h (Fr.refl _ _) (ah.frame ah.tb.mx0 (Fr.refl M h))
      rw [eI, decide_eq_false hr] at this
      exact this
  · refine cF rfl ?_
    have := hQ h (Fr.refl _ _) (ah.frame ah.tb.mx0 (Fr.refl M h))
    have eI : IntoN T.P T.s past path at' = false := by unfold IntoN; rw [hn]
    rw [eI] at this
    exact this
/-- Behind a part. -/
theorem spec_Past (c : Cor) (hf : c.fmd = true) (path : List Int) (hpl : path.length ≤ 1000) : Ult fun k => ∀ (Q : R → Prop) (M : Nat → Prop) (h : List HE) (ia ipa : Nat) (T : Tab) (past : List (Option (List Bool))) (at' : Int) (ret : Bool → List HE → R), T.P = Cor.flat c 0 → Ah M h ia ipa T past → Tok T → (∀ j, j < T.P.length → Is T.s past j) →
    Q (ret (PastN T.P T.s past path at') h) → Q (G41 k (.rp ia) (.list (pints path)) at' h ret) := by
  have hpk := Pk.flat hf
  refine Ult.succ ((spec_part path hpl).mono fun k h2 Q M h ia ipa T past at' ret hTP ah tok his hQ => ?_)
  have pk : Pk T.P := by rw [hTP]; exact hpk
  have hv := ah.v
  simp (config := { zeta := false }) only [G41, f41_N, f41_e]
  refine h2 Q M h ia ipa T past at' _ ah pk (fun n hn hlt => ?_) (fun hn => ?_)
  · obtain ⟨b, hb1, hb2⟩ := his n hlt
    have eI : PastN T.P T.s past path at' = (decide (0 ≤ at' ∧ at' ≤ (T.s.length : Int)) && b.getD at'.toNat false) := by
      unfold PastN; rw [hn]; simp only [hb1]
    rw [eI] at hQ
    by_cases hr : 0 ≤ at' ∧ at' ≤ (T.s.length : Int)
    · rw [decide_eq_true hr] at hQ ⊢
      obtain ⟨l, q, p1, p2, p3, p4, p5, p6⟩ := ah.past hb1
      have e2 : PV.fld (hvarOf h (PV.rI (PV.rp ia))) 2 = .rs ipa past.length := by simp [hvarOf_of hv, PV.rI, PV.fld, PV.flds]
      have e5 : List.getD (hrowOf h (PV.rI (PV.fld (hvarOf h (PV.rI (PV.rp ia))) 2))) ((n : Int)).toNat PV.nil = .rs q (T.s.length + 1) := by
        rw [e2]; simp [PV.rI, hrowOf_of p1, p4]
      refine cT rfl ?_
      rw [cast_toNat hr.1]
      have hlt2 : at'.toNat < T.s.length + 1 := by omega
      refine cT rfl (cT (hokV_of hv) (cT (by rw [e2]; exact rb_of (m := past.length) (by omega)) (cT (by rw [e2]; exact hokR_of p1 p3) (cT (by rw [e5]; exact rb_of (m := T.s.length + 1) hlt2) (cT (by rw [e5]; exact hokR_of p6 (by rw [bools_len]; omega)) ?_)))))
      rw [e5]
      have : PV.tt (List.getD (hrowOf h (PV.rI (.rs q (T.s.length + 1)))) (((at'.toNat : Nat) : Int)).toNat PV.nil) = b.getD at'.toNat false := by
        show PV.tt (List.getD (hrowOf h q) _ _) = _
        rw [hrowOf_of p6]; exact bools_get (by omega)
      rw [this]
      exact hQ
    · rw [decide_eq_false hr] at hQ ⊢
      exact cF rfl hQ
  · have eI : PastN T.P T.s past path at' = false := by unfold PastN; rw [hn]
    rw [eI] at hQ
    exact cF rfl hQ
end Go.Proofs.Ythdonefmfgnilaa
