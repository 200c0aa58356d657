/- The law SpanWhole comes out true. -/
import Derived.Test.YtmdlhnojpcnnbaaSpX
import Derived.Test.YtmdlhnojpcnnbaaSpZ
import Derived.Test.YtmdlhnojpcnnbaaSpSh
import Derived.Test.YtmdlhnojpcnnbaaValE
set_option linter.unusedSimpArgs false
set_option linter.unusedVariables false
set_option maxRecDepth 20000
namespace Go.Proofs.Ytmdlhnojpcnnbaa
open Go Go.X

theorem spec_awake : Ult fun k => ∀ ret, G12 k ret = ret true :=
  ⟨300, fun k hk ret => by
    obtain ⟨m, rfl⟩ : ∃ m, k = m + 300 := ⟨k - 300, by omega⟩
    revert ret m; intro m _ ret
    kernel_rfl⟩
theorem flat_head (c : Cor) : ∃ ks, (Cor.flat c 0)[0]? = some (c, ks) := by cases c; exact ⟨_, by simp [Cor.flat]; rfl⟩
theorem bestX_nil (c : Cor) (s : List Nat) {f t : Nat} (h1 : f ≤ t) (h2 : t ≤ s.length) : bestX (Cor.flat c 0) s [] (f : Int) (t : Int) = bif (c.ends s f).testBit t then (Cor.best s c f t, 0) else (noVal, 5) := by
  obtain ⟨ks, hk⟩ := flat_head c
  have hp : pathN (Cor.flat c 0) [] 0 = some 0 := rfl
  unfold bestX
  rw [hp]
  simp only [hk]
  rw [if_pos ⟨by omega, by omega, by omega⟩]
  simp

theorem SpanWhole.main (c : Cor) (s : List Nat) (f t : Int) (hc : c.Ok) (hs : ∀ b ∈ s, b < 256) (_ : (Lit.int .i64 f).wf = true) (_ : (Lit.int .i64 t).wf = true) (hz : c.size ≤ 10000000) :
    ∃ k, G5 k c.pv (.list (pvL s)) f t (fun y => some ([.bool y], [])) = some ([.bool true], []) := by
  refine Ult.get (Ult.succ ?_)
  have sc : c.Sm := by unfold Cor.Sm; omega
  have base := spec_awake.and ((spec_big c 40 (by omega)).and ((spec_csize c sc).and (spec_cGood c hc sc)))
  by_cases hg : c.good = true
  case neg =>
    refine base.mono fun k ⟨h0, h2, h4, h5⟩ => ?_
    simp only [G5, f5_N, f5_e, h0, h2, h4, h5]
    have : c.good = false := by simpa using hg
    rw [this]
    cases c.big 40 <;> rfl
  by_cases hcn : c.cnt ≤ 50
  case neg =>
    refine base.mono fun k ⟨h0, h2, h4, h5⟩ => ?_
    simp only [G5, f5_N, f5_e, h0, h2, h4, h5]
    rw [hg, decide_eq_true (show (50 : Int) < ((min c.cnt 100000 : Nat) : Int) by omega)]
    cases c.big 40 <;> rfl
  have hd1 : decide ((50 : Int) < ((min c.cnt 100000 : Nat) : Int)) = false := decide_eq_false (by omega)
  by_cases hsl : s.length ≤ 10
  case neg =>
    refine base.mono fun k ⟨h0, h2, h4, h5⟩ => ?_
    simp only [G5, f5_N, f5_e, h0, h2, h4, h5, PV.els, pvL_len]
    rw [hg, hd1, decide_eq_true (show (10 : Int) < (s.length : Int) by omega)]
    cases c.big 40 <;> rfl
  have hd2 : decide ((10 : Int) < (s.length : Int)) = false := decide_eq_false (by omega)
  by_cases ha0 : f < 0
  · refine base.mono fun k ⟨h0, h2, h4, h5⟩ => ?_
    simp only [G5, f5_N, f5_e, h0, h2, h4, h5, PV.els, pvL_len]
    rw [hg, hd1, hd2, decide_eq_true ha0]
    cases c.big 40 <;> rfl
  by_cases ha1 : t < f
  · refine base.mono fun k ⟨h0, h2, h4, h5⟩ => ?_
    simp only [G5, f5_N, f5_e, h0, h2, h4, h5, PV.els, pvL_len]
    rw [hg, hd1, hd2, decide_eq_false ha0, decide_eq_true ha1]
    cases c.big 40 <;> rfl
  by_cases ha2 : (s.length : Int) < t
  · refine base.mono fun k ⟨h0, h2, h4, h5⟩ => ?_
    simp only [G5, f5_N, f5_e, h0, h2, h4, h5, PV.els, pvL_len]
    rw [hg, hd1, hd2, decide_eq_false ha0, decide_eq_false ha1, decide_eq_true ha2]
    cases c.big 40 <;> rfl
  obtain ⟨i, rfl⟩ : ∃ i : Nat, f = (i : Int) := ⟨f.toNat, by omega⟩
  obtain ⟨j, rfl⟩ : ∃ j : Nat, t = (j : Int) := ⟨t.toNat, by omega⟩
  have hij : i ≤ j := by omega
  have hjl : j ≤ s.length := by omega
  have hf : c.fmd = true := by simp only [Cor.good, Bool.and_eq_true] at hg; exact hg.2
  obtain ⟨u, hu⟩ : ∃ u, u = Cor.seg s i j := ⟨_, rfl⟩
  have hul : u.length = j - i := by rw [hu]; exact Cor.seg_len s hij hjl
  have hus : ∀ b ∈ u, b < 256 := fun b hb => by
    rw [hu] at hb
    exact hs b (List.mem_of_mem_drop (List.mem_of_mem_take hb))
  have hpl : List.drop i (List.take j (pvL s)) = pvL u := by
    rw [hu]; unfold Cor.seg pvL
    rw [← List.map_take, ← List.map_drop, List.drop_take]
  obtain ⟨W, hW⟩ : ∃ W, W = bestX (Cor.flat c 0) s [] (i : Int) (j : Int) := ⟨_, rfl⟩
  have hW1 := hW
  rw [bestX_nil c s hij hjl] at hW1
  have hW2 : bestX (Cor.flat c 0) u [] 0 (u.length : Int) = W := by
    have := bestX_nil c u (Nat.zero_le u.length) (Nat.le_refl _)
    rw [show ((0 : Nat) : Int) = 0 from rfl] at this
    rw [this, hW1, hu]
    have e1 := Cor.ends_shift hij hjl c hf (i := 0) (j := j - i) (by omega) (by omega)
    rw [show i + 0 = i by omega, show i + (j - i) = j by omega] at e1
    rw [Cor.seg_len s hij hjl, e1]
    cases hb : (c.ends s i).testBit j with
    | false => rfl
    | true =>
      have e2 := Cor.best_shift hij hjl c hf 0 (j - i) (by omega) (by omega) (by rw [e1]; exact hb)
      rw [show i + 0 = i by omega, show i + (j - i) = j by omega] at e2
      rw [cond_true, cond_true, e2]
  have hWs : W.1.Sm := by
    rw [hW1]
    cases hb : (c.ends s i).testBit j with
    | false => unfold Val.Sm; simp [noVal, Val.size, Val.sizes]
    | true =>
      have := Cor.best_sm hf (by omega) hb (by omega) (by omega)
      rw [cond_true]; unfold Val.Sm; simp only; omega
  refine (base.and ((spec_sNew c s hc sc hg (by omega) (by omega) hs).and ((spec_sBest c hf [] (by simp)).and ((spec_sFull c u hc sc hg hf (by omega) (by omega) hus).and ((spec_Same W.1 hWs W.1).and (Ult.ge 300)))))).mono fun k ⟨⟨h0, h2, h4, h5⟩, hnew, hbn, hfull, hsm, hge⟩ => ?_
  simp (config := { zeta := false }) only [G5, f5_N, f5_e, h0, h2, h4, h5, PV.els, pvL_len]
  rw [hg, hd1, hd2, decide_eq_false ha0, decide_eq_false ha1, decide_eq_false ha2]
  cases c.big 40 with
  | true => rfl
  | false =>
    obtain ⟨Q, hQd⟩ : ∃ Q : R → Prop, Q = fun r => r = some ([.bool true], []) := ⟨_, rfl⟩
    suffices hgoal : Q _ by rw [hQd] at hgoal; exact hgoal
    have hfin : Q (some ([.bool true], [])) := by rw [hQd]
    refine hnew Q [] _ (fun h14 ix T M hTP hTs tok a => ?_)
    refine cT rfl (cF rfl ?_)
    refine hbn Q M h14 ix T (i : Int) (j : Int) _ hTP a tok (fun H1 _ a1 => ?_)
    rw [hTP, hTs, ← hW]
    refine cT (by rw [decide_eq_true (show (0 : Int) ≤ (i : Int) by omega), decide_eq_true (show (i : Int) ≤ (j : Int) by omega), decide_eq_true (show (j : Int) ≤ (s.length : Int) by omega)]; rfl) ?_
    rw [Int.toNat_natCast, Int.toNat_natCast, hpl]
    show Q (G19 k c.pv (.list (ints u)) _)
    rw [hfull, hW2]
    refine cT (by rw [decide_eq_true rfl]; rfl) ?_
    rw [hsm, (Val.same_iff _ _).2 rfl]
    exact hfin
end Go.Proofs.Ytmdlhnojpcnnbaa
