/- From here to there: made, and asked by paths. -/
import Derived.Test.YtmdlhnojpcnnbaaSpB
set_option linter.unusedSimpArgs false
set_option linter.unusedVariables false
set_option maxRecDepth 20000
namespace Go.Proofs.Ytmdlhnojpcnnbaa
open Go Go.X

theorem spec_May (c : Cor) (s : List Nat) (hok : c.Ok) (hsm : c.Sm) (hg : c.good = true) (hc : c.cnt ≤ 100) (hs : s.length ≤ 20) : Ult fun k => ∀ ret, G49 k c.pv (.list (ints s)) ret = ret 0 :=
  Ult.succ (((spec_cGood c hok hsm).and (spec_csize c hsm)).mono fun k ⟨h1, h2⟩ ret => by
    have hb : (c.cnt * (s.length + 1)) * (s.length + 1) ≤ (100 * 21) * 21 := Nat.mul_le_mul (Nat.mul_le_mul hc (by omega)) (by omega)
    have hb1 : c.cnt * (s.length + 1) ≤ 100 * 21 := Nat.mul_le_mul hc (by omega)
    simp only [G49, f49_N, f49_e, h1, h2, hg, PV.els, ints_len]
    have hm : ((min c.cnt 100000 : Nat) : Int) = (c.cnt : Int) := by omega
    rw [hm, wrap_succ (by omega)]
    have e1 : (c.cnt : Int) * ((s.length + 1 : Nat) : Int) = ((c.cnt * (s.length + 1) : Nat) : Int) := by simp
    have w1 : IntKind.wrap .i64 ((c.cnt * (s.length + 1) : Nat) : Int) = ((c.cnt * (s.length + 1) : Nat) : Int) := wrap_i64 (by omega) (by omega)
    have w2 : IntKind.wrap .i64 ((c.cnt * (s.length + 1) * (s.length + 1) : Nat) : Int) = ((c.cnt * (s.length + 1) * (s.length + 1) : Nat) : Int) := wrap_i64 (by omega) (by omega)
    rw [e1, w1]
    have e2 : ((c.cnt * (s.length + 1) : Nat) : Int) * ((s.length + 1 : Nat) : Int) = ((c.cnt * (s.length + 1) * (s.length + 1) : Nat) : Int) := by simp
    rw [e2, w2, decide_eq_false (show ¬ (256 : Int) < (s.length : Int) by omega), decide_eq_false (show ¬ (4000000 : Int) < ((c.cnt * (s.length + 1) * (s.length + 1) : Nat) : Int) by omega)]
    rfl)
theorem spec_sNew (c : Cor) (s : List Nat) (hok : c.Ok) (hsm : c.Sm) (hg : c.good = true) (hc : c.cnt ≤ 100) (hs : s.length ≤ 20) (hb : ∀ x ∈ s, x < 256) : Ult fun k => ∀ (Q : R → Prop) (h : List HE) (ret : PV → Int → List HE → R),
    (∀ h' ix T M, T.P = Cor.flat c 0 → T.s = s → Tok T → Sx M h' ix T → Q (ret (.rp ix) 0 h')) → Q (G17 k c.pv (.list (ints s)) h ret) :=
  Ult.succ (((spec_May c s hok hsm hg hc hs).and (spec_New c s (by omega) (by omega) hb)).mono fun k ⟨h1, h2⟩ Q h ret hQ => by
    simp (config := { zeta := false }) only [G17, f17_N, f17_e, h1]
    refine cF rfl (h2 Q h _ (fun h' T hTP hTs tok hlen hold tb hit => ?_))
    extract_lets +onlyGivenNames h7
    refine hQ h7 h'.length T _ hTP hTs tok ⟨tb.push _, ?_⟩
    simp only [h7, PV.els, ints_len]
    rw [push_eq, hTs])
def noVal : Val := .mk 0 0 []
def saysX (P : List (Cor × List Nat)) (s : List Nat) (path : List Int) (f t : Int) : Bool :=
  match pathN P path 0 with
  | none => false
  | some n => match P[n]? with
    | some (c, _) => decide (0 ≤ f ∧ f ≤ t ∧ t ≤ (s.length : Int)) && (c.ends s f.toNat).testBit t.toNat
    | none => false
def bestX (P : List (Cor × List Nat)) (s : List Nat) (path : List Int) (f t : Int) : Val × Int :=
  match pathN P path 0 with
  | none => (noVal, 1)
  | some n => match P[n]? with
    | some (c, _) => if 0 ≤ f ∧ f ≤ t ∧ t ≤ (s.length : Int) then (bif (c.ends s f.toNat).testBit t.toNat then (Cor.best s c f.toNat t.toNat, 0) else (noVal, 5)) else (noVal, 1)
    | none => (noVal, 1)
theorem spec_sPart (path : List Int) (hpl : path.length ≤ 1000) : Ult fun k => ∀ (Q : R → Prop) (M : Nat → Prop) (h : List HE) (ix : Nat) (T : Tab) (f t : Int) (ret : Int → Bool → List HE → R), Sx M h ix T → Pk T.P →
    (∀ n : Nat, pathN T.P path 0 = some n → n < T.P.length → Q (ret (n : Int) (decide (0 ≤ f ∧ f ≤ t ∧ t ≤ (T.s.length : Int))) h)) → (pathN T.P path 0 = none → Q (ret 0 false h)) → Q (G51 k (.rp ix) (.list (pints path)) f t h ret) :=
  Ult.succ ((spec_Part path hpl).mono fun k hp Q M h ix T f t ret a pk h1 h2 => by
    have hv := a.v
    have ef : PV.fld (hvarOf h (PV.rI (PV.rp ix))) 0 = .rp T.it := by simp [hvarOf_of hv, PV.rI, PV.fld, PV.flds]
    have en : PV.num (PV.fld (hvarOf h (PV.rI (PV.rp ix))) 1) = (T.s.length : Int) := by simp [hvarOf_of hv, PV.rI, PV.fld, PV.flds, PV.num]
    simp (config := { zeta := false }) only [G51, f51_N]
    unfold f51_e
    refine cT rfl (cT (hokV_of hv) ?_)
    rw [ef]
    refine hp Q M h T _ a.tb pk (fun n hn hlt => ?_) (fun hn => ?_)
    · have g := h1 n hn hlt
      refine cT rfl ?_
      by_cases h0 : 0 ≤ f
      · refine cT (by rw [decide_eq_true h0]; rfl) ?_
        by_cases h1' : f ≤ t
        · refine cT (by rw [decide_eq_true h1']; rfl) (cT rfl (cT (hokV_of hv) ?_))
          rw [en]
          have : decide (t ≤ (T.s.length : Int)) = decide (0 ≤ f ∧ f ≤ t ∧ t ≤ (T.s.length : Int)) := decide_eq_decide.2 ⟨fun h => ⟨h0, h1', h⟩, fun h => h.2.2⟩
          rw [this]
          exact g
        · refine cF (by rw [decide_eq_false h1']; rfl) ?_
          rw [decide_eq_false (fun h => h1' h.2.1)] at g
          exact g
      · refine cF (by rw [decide_eq_false h0]; rfl) ?_
        rw [decide_eq_false (fun h => h0 h.1)] at g
        exact g
    · exact cF rfl (h2 hn))
theorem spec_sBest (c : Cor) (hf : c.fmd = true) (path : List Int) (hpl : path.length ≤ 1000) : Ult fun k => ∀ (Q : R → Prop) (M : Nat → Prop) (h : List HE) (ix : Nat) (T : Tab) (f t : Int) (ret : PV → Int → List HE → R), T.P = Cor.flat c 0 → Sx M h ix T → Tok T →
    (∀ h', Fr M h h' → Sx (Mx M h h') h' ix T → Q (ret (bestX T.P T.s path f t).1.pv (bestX T.P T.s path f t).2 h')) → Q (G18 k (.rp ix) (.list (pints path)) f t h ret) := by
  have hpk := Pk.flat hf
  have hin : Ult fun k => ∀ x ∈ Cor.flat c 0, SaysS x.1 k := Ult.forall_mem fun x hx => by
    obtain ⟨i, hi⟩ := List.getElem?_of_mem hx
    exact spec_Says x.1 (hpk.fmd i _ x.2 hi)
  have hbs : Ult fun k => ∀ x ∈ Cor.flat c 0, BestS x.1 k := Ult.forall_mem fun x hx => by
    obtain ⟨i, hi⟩ := List.getElem?_of_mem hx
    exact spec_best x.1 (hpk.fmd i _ x.2 hi)
  refine Ult.succ ((hin.and (hbs.and (spec_sPart path hpl))).mono fun k ⟨h1, h3, h2⟩ Q M h ix T f t ret hTP a tok hQ => ?_)
  have pk : Pk T.P := by rw [hTP]; exact hpk
  have htn := tok.n
  have e0 : PV.fld (hvarOf h (PV.rI (PV.rp ix))) 0 = .rp T.it := by simp [hvarOf_of a.v, PV.rI, PV.fld, PV.flds]
  simp (config := { zeta := false }) only [G18, f18_N, f18_e]
  refine h2 Q M h ix T f t _ a pk (fun n hn hlt => ?_) (fun hn => ?_)
  · have hget := List.getElem?_eq_getElem hlt
    by_cases hr : 0 ≤ f ∧ f ≤ t ∧ t ≤ (T.s.length : Int)
    · have eI : bestX T.P T.s path f t = bif (Cor.ends T.s T.P[n].1 f.toNat).testBit t.toNat then (Cor.best T.s T.P[n].1 f.toNat t.toNat, 0) else (noVal, 5) := by
        unfold bestX; rw [hn]; simp only [hget]; rw [if_pos hr]
      rw [decide_eq_true hr]
      refine cF rfl (cT rfl (cT (hokV_of a.v) ?_))
      rw [e0, cast_toNat hr.1, cast_toNat (show 0 ≤ t by omega)]
      refine h1 T.P[n] (by rw [← hTP]; exact List.getElem_mem hlt) Q M h T n f.toNat t.toNat _ a.tb tok (pk.at' n _ _ hget) (by omega) (by omega) (fun h' hfr htb => ?_)
      have a' := a.frame htb hfr
      by_cases hb : (Cor.ends T.s T.P[n].1 f.toNat).testBit t.toNat = true
      · refine cF (by rw [hb]; rfl) ?_
        refine h3 T.P[n] (by rw [← hTP]; exact List.getElem_mem hlt) Q _ h' ix T n f.toNat t.toNat _ a' tok (pk.at' n _ _ hget) (by omega) hb (fun h2' fr2 a2 => ?_)
        have := hQ h2' (Mx_trans hfr fr2) (Sx.then a.tb.b hfr.len fr2.len a2)
        rw [eI, hb, cond_true] at this
        exact this
      · have hb' : (Cor.ends T.s T.P[n].1 f.toNat).testBit t.toNat = false := by simpa using hb
        refine cT (by rw [hb']; rfl) ?_
        have := hQ h' hfr a'
        rw [eI, hb', cond_false] at this
        exact this
    · have eI : bestX T.P T.s path f t = (noVal, 1) := by
        unfold bestX; rw [hn]; simp only [hget]; rw [if_neg hr]
      rw [decide_eq_false hr]
      refine cT rfl ?_
      have := hQ h (Fr.refl _ _) a.self
      rw [eI] at this
      exact this
  · refine cT rfl ?_
    have := hQ h (Fr.refl _ _) a.self
    have eI : bestX T.P T.s path f t = (noVal, 1) := by unfold bestX; rw [hn]
    rw [eI] at this
    exact this
theorem spec_sFull (c : Cor) (s : List Nat) (hok : c.Ok) (hsm : c.Sm) (hg : c.good = true) (hf : c.fmd = true) (hc : c.cnt ≤ 100) (hs : s.length ≤ 20) (hb : ∀ x ∈ s, x < 256) : Ult fun k => ∀ ret, G19 k c.pv (.list (ints s)) ret = ret (bestX (Cor.flat c 0) s [] 0 s.length).1.pv (bestX (Cor.flat c 0) s [] 0 s.length).2 :=
  Ult.succ (((spec_sNew c s hok hsm hg hc hs hb).and (spec_sBest c hf [] (by simp))).mono fun k ⟨h1, h2⟩ ret => by
    simp (config := { zeta := false }) only [G19, f19_N, f19_e]
    refine h1 (fun r => r = ret (bestX (Cor.flat c 0) s [] 0 s.length).1.pv (bestX (Cor.flat c 0) s [] 0 s.length).2) [] _ (fun h' ix T M hTP hTs tok a => ?_)
    refine cF (Q := fun r => r = _) rfl ?_
    simp only [PV.els, ints_len]
    refine h2 (fun r => r = ret (bestX (Cor.flat c 0) s [] 0 s.length).1.pv (bestX (Cor.flat c 0) s [] 0 s.length).2) M h' ix T 0 (s.length : Int) _ hTP a tok (fun h'' _ _ => ?_)
    rw [hTP, hTs])
end Go.Proofs.Ytmdlhnojpcnnbaa
