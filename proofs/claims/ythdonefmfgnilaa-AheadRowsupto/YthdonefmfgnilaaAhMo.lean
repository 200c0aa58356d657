/- The law AheadMore comes out true. -/
import Derived.Test.YthdonefmfgnilaaAhX
set_option linter.unusedSimpArgs false
set_option linter.unusedVariables false
set_option maxRecDepth 20000
namespace Go.Proofs.Ythdonefmfgnilaa
open Go Go.X

theorem spec_awake : Ult fun k => ∀ ret, G35 k ret = ret true :=
  ⟨300, fun k hk ret => by
    obtain ⟨m, rfl⟩ : ∃ m, k = m + 300 := ⟨k - 300, by omega⟩
    revert ret m; intro m _ ret
    kernel_rfl⟩
/-- Two on one heap. -/
def Two (H : List HE) (ia ipa : Nat) (T : Tab) (pa : List (Option (List Bool))) (ib ipb : Nat) (U : Tab) (pb : List (Option (List Bool))) : Prop :=
  ∃ Ma Mb, Ah Ma H ia ipa T pa ∧ Ah Mb H ib ipb U pb ∧ ∀ i, Ma i → ¬ Mb i
theorem An.fr {h0 h : List HE} {ia ipa : Nat} {T : Tab} {past : List (Option (List Bool))} (a : An h0 h ia ipa T past) : Fr (fun _ => False) h0 h :=
  ⟨a.2.1, fun i hi _ => a.2.2.1 i hi, fun i x hx _ => by rw [a.2.2.1 i (lt_of_some hx)]; exact hx⟩
theorem Le.last {n : Nat} : Le (lastP true n) (lastP false n) := ⟨by simp [lastP], fun i h => by
  by_cases hi : i ≤ n
  · rw [lastP_get _ _ hi]; rfl
  · simp only [lastP, List.getD] at h
    rw [List.getElem?_eq_none (by simp; omega)] at h
    cases h⟩
theorem AheadMore.main (c : Cor) (s : List Nat) (path : List Int) (at' : Int) (hc : c.Ok) (hs : ∀ b ∈ s, b < 256) (hpath : ∀ b ∈ path, (Lit.int .i64 b).wf = true) (hat : (Lit.int .i64 at').wf = true) (hz : c.size ≤ 100000000) :
    ∃ k, G9 k c.pv (.list (pvL s)) (.list (path.map PV.int)) at' (fun y => some ([.bool y], [])) = some ([.bool true], []) := by
  have sc : c.Sm := by simp only [Cor.Sm]; omega
  refine Ult.get (Ult.succ ?_)
  have base := spec_awake.and ((spec_big c 40 (by omega)).and ((spec_csize c sc).and (spec_cGood c hc sc)))
  by_cases hg : c.good = true
  case neg =>
    refine base.mono fun k ⟨h0, h1, h2, h3⟩ => ?_
    simp only [G9, f9_N, f9_e, h0, h1, h2, h3]
    have : c.good = false := by simpa using hg
    rw [this]
    cases c.big 40 <;> rfl
  by_cases hcn : c.cnt ≤ 50
  case neg =>
    refine base.mono fun k ⟨h0, h1, h2, h3⟩ => ?_
    simp only [G9, f9_N, f9_e, h0, h1, h2, h3]
    rw [hg, decide_eq_true (show (50 : Int) < ((min c.cnt 100000 : Nat) : Int) by omega)]
    cases c.big 40 <;> rfl
  have hd : decide ((50 : Int) < ((min c.cnt 100000 : Nat) : Int)) = false := decide_eq_false (by omega)
  by_cases hsl : s.length ≤ 8
  case neg =>
    refine base.mono fun k ⟨h0, h1, h2, h3⟩ => ?_
    simp only [G9, f9_N, f9_e, h0, h1, h2, h3, PV.els, pvL_len]
    rw [hg, hd, decide_eq_true (show (8 : Int) < (s.length : Int) by omega)]
    cases c.big 40 <;> rfl
  have hd2 : decide ((8 : Int) < (s.length : Int)) = false := decide_eq_false (by omega)
  by_cases hpl : path.length ≤ 30
  case neg =>
    refine base.mono fun k ⟨h0, h1, h2, h3⟩ => ?_
    simp only [G9, f9_N, f9_e, h0, h1, h2, h3, PV.els, pvL_len, List.length_map]
    rw [hg, hd, hd2, decide_eq_true (show (30 : Int) < (path.length : Int) by omega)]
    cases c.big 40 <;> rfl
  have hd3 : decide ((30 : Int) < (path.length : Int)) = false := decide_eq_false (by omega)
  have hf : c.fmd = true := by simp only [Cor.good, Bool.and_eq_true] at hg; exact hg.2
  have pk := Pk.flat hf
  refine (base.and ((spec_New2 c s hc sc hg hf (by omega) (by omega) hs).and ((spec_Into c hf path (by omega)).and (spec_Past c hf path (by omega))))).mono fun k ⟨⟨h0, h1, h2, h3⟩, hnew, hinto, hpast⟩ => ?_
  simp (config := { zeta := false }) only [G9, f9_N, f9_e, h0, h1, h2, h3, PV.els, pvL_len, List.length_map]
  rw [hg, hd, hd2, hd3]
  cases c.big 40 with
  | true => rfl
  | false =>
    refine hnew (fun r => r = some ([.bool true], [])) [] true _ (fun h11 ia ipa T hTP hTs tok a => ?_)
    refine hnew (fun r => r = some ([.bool true], [])) h11 false _ (fun h14 ib ipb U hUP hUs uok b => ?_)
    have isa : ∀ j, j < T.P.length → Is T.s (runN T.P T.s (lastP true s.length) T.P.length) j := fun j hj => run_all (by rw [hTP]; exact pk) T.s (by rw [lastP_len, hTs]) (Nat.le_refl _) (by omega) hj
    have isb : ∀ j, j < U.P.length → Is U.s (runN U.P U.s (lastP false s.length) U.P.length) j := fun j hj => run_all (by rw [hUP]; exact pk) U.s (by rw [lastP_len, hUs]) (Nat.le_refl _) (by omega) hj
    have hles : Les (runN T.P T.s (lastP true s.length) T.P.length) (runN U.P U.s (lastP false s.length) U.P.length) := by
      rw [hTP, hUP, hTs, hUs]
      exact run_mono pk s Le.last (by rw [lastP_len]) _ (Nat.le_refl _)
    have two : Two h14 ia ipa T (runN T.P T.s (lastP true s.length) T.P.length) ib ipb U (runN U.P U.s (lastP false s.length) U.P.length) :=
      ⟨_, _, a.1.other b.fr (fun _ _ h => h), b.1, fun i h1 h2 => by omega⟩
    generalize hpa : runN T.P T.s (lastP true s.length) T.P.length = pa at *
    generalize hpb : runN U.P U.s (lastP false s.length) U.P.length = pb at *
    have hI : IntoN T.P T.s pa path at' = true → IntoN U.P U.s pb path at' = true := by rw [hTP, hUP, hTs, hUs]; exact IntoN_mono hles path at'
    have hP : PastN T.P T.s pa path at' = true → PastN U.P U.s pb path at' = true := by rw [hTP, hUP, hTs, hUs]; exact PastN_mono hles path at'
    have callA : ∀ (H : List HE) (ret : Bool → List HE → R), Two H ia ipa T pa ib ipb U pb → (∀ H', Two H' ia ipa T pa ib ipb U pb → ret (IntoN T.P T.s pa path at') H' = some ([.bool true], [])) → G42 k (.rp ia) (.list (pints path)) at' H ret = some ([.bool true], []) := fun H ret ⟨Ma, Mb, x, y, d⟩ g =>
      hinto (fun r => r = some ([.bool true], [])) Ma H ia ipa T pa at' ret hTP x tok isa fun H' hfr hah => g H' ⟨_, Mb, hah, y.other hfr (fun i hb ha => d i ha hb), fun i ha hb => by
        rcases ha with ha | ha
        · exact d i ha hb
        · have := y.tb.b i hb; omega⟩
    have callB : ∀ (H : List HE) (ret : Bool → List HE → R), Two H ia ipa T pa ib ipb U pb → (∀ H', Two H' ia ipa T pa ib ipb U pb → ret (IntoN U.P U.s pb path at') H' = some ([.bool true], [])) → G42 k (.rp ib) (.list (pints path)) at' H ret = some ([.bool true], []) := fun H ret ⟨Ma, Mb, x, y, d⟩ g =>
      hinto (fun r => r = some ([.bool true], [])) Mb H ib ipb U pb at' ret hUP y uok isb fun H' hfr hah => g H' ⟨Ma, _, x.other hfr d, hah, fun i ha hb => by
        rcases hb with hb | hb
        · exact d i ha hb
        · have := x.tb.b i ha; omega⟩
    have pastA : ∀ (H : List HE) (ret : Bool → List HE → R), Two H ia ipa T pa ib ipb U pb → ret (PastN T.P T.s pa path at') H = some ([.bool true], []) → G41 k (.rp ia) (.list (pints path)) at' H ret = some ([.bool true], []) := fun H ret ⟨Ma, Mb, x, y, d⟩ g =>
      hpast (fun r => r = some ([.bool true], [])) Ma H ia ipa T pa at' ret hTP x tok isa g
    have pastB : ∀ (H : List HE) (ret : Bool → List HE → R), Two H ia ipa T pa ib ipb U pb → ret (PastN U.P U.s pb path at') H = some ([.bool true], []) → G41 k (.rp ib) (.list (pints path)) at' H ret = some ([.bool true], []) := fun H ret ⟨Ma, Mb, x, y, d⟩ g =>
      hpast (fun r => r = some ([.bool true], [])) Mb H ib ipb U pb at' ret hUP y uok isb g
    show G42 k (.rp ia) (.list (pints path)) at' h14 _ = _
    by_cases hIA : IntoN T.P T.s pa path at' = true
    · have hIB := hI hIA
      have hr := IntoN_at hIA
      rw [hTs] at hr
      refine callA _ _ two fun H two => ?_
      rw [hIA]
      show G42 k (.rp ib) (.list (pints path)) at' H _ = _
      refine callB _ _ two fun H two => ?_
      rw [hIB]
      show G41 k (.rp ia) (.list (pints path)) at' H _ = _
      have fin : ∀ H, Two H ia ipa T pa ib ipb U pb → G42 k (.rp ia) (.list (pints path)) at' H (fun b23 h24 => bif ((!b23) == false) then bif ((decide ((0 : Int) ≤ at')) == true) then some ([SV.bool (decide (at' ≤ (s.length : Int)))], []) else some ([SV.bool false], []) else some ([SV.bool true], [])) = some ([.bool true], []) := fun H two => by
        refine callA _ _ two fun H two => ?_
        rw [hIA, decide_eq_true hr.1, decide_eq_true hr.2]
        rfl
      by_cases hPA : PastN T.P T.s pa path at' = true
      · refine pastA _ _ two ?_
        rw [hPA]
        show G41 k (.rp ib) (.list (pints path)) at' H _ = _
        refine pastB _ _ two ?_
        rw [hP hPA]
        exact fin H two
      · have hPA' : PastN T.P T.s pa path at' = false := by simpa using hPA
        refine pastA _ _ two ?_
        rw [hPA']
        exact fin H two
    · have hIA' : IntoN T.P T.s pa path at' = false := by simpa using hIA
      refine callA _ _ two fun H two => ?_
      rw [hIA']
      show G41 k (.rp ia) (.list (pints path)) at' H _ = _
      by_cases hPA : PastN T.P T.s pa path at' = true
      · refine pastA _ _ two ?_
        rw [hPA]
        show G41 k (.rp ib) (.list (pints path)) at' H _ = _
        refine pastB _ _ two ?_
        rw [hP hPA]
        show G42 k (.rp ia) (.list (pints path)) at' H _ = _
        refine callA _ _ two fun H two => ?_
        rw [hIA']
        rfl
      · have hPA' : PastN T.P T.s pa path at' = false := by simpa using hPA
        refine pastA _ _ two ?_
        rw [hPA']
        show G42 k (.rp ia) (.list (pints path)) at' H _ = _
        refine callA _ _ two fun H two => ?_
        rw [hIA']
        rfl
end Go.Proofs.Ythdonefmfgnilaa
