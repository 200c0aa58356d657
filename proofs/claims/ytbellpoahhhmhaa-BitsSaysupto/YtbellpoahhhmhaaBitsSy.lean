/- The law BitsSays comes out true. -/
import Derived.Test.YtbellpoahhhmhaaBitsS
set_option linter.unusedSimpArgs false
set_option linter.unusedVariables false
set_option maxRecDepth 20000
namespace Go.Proofs.Ytbellpoahhhmhaa
open Go Go.X

theorem BitsSays.main (c : Cor) (v : Val) (s : List Int) (l : List Nat) (hc : c.Ok) (hv : v.Ok) (hs : ∃ b : ByteArray, s = chars b ∧ b.size ≤ maxLen) (hl : ∀ b ∈ l, b < 256) (hz : c.size + v.size ≤ 100000000) : ∃ k, G8 k c.pv v.pv s (.list (pvL l)) (fun y => some ([.bool y], [])) = some ([.bool true], []) := by
  have sc : c.Sm := by simp only [Cor.Sm]; omega
  have sv : v.Sm := by simp only [Val.Sm]; omega
  have ht := byt_ints hl
  rw [pvL_ints]
  generalize ints l = t at ht
  have sx : (got c s t).1.Sm := by
    by_cases hg : (got c s t).2 = 0
    · exact (got_sm hg ht).2
    · rw [got_v0 hg]; simp [Val.Sm, Val.size, Val.sizes]
  refine Ult.get (Ult.succ ((spec_awake.and ((spec_big c 100 (by omega)).and ((spec_wide v 40 (by omega)).and ((spec_coreOf c (by omega)).and ((spec_valueOf v sv).and ((spec_valueOf _ sx).and ((spec_Put v sv).and ((spec_rBits v sv).and ((spec_Get c hc sc).and ((spec_rGet c hc sc).and (spec_rSame _ sx (got c s t).1))))))))))).mono fun k ⟨h0, h1, h2, h3, h4, h5, h6, h7, h8, h9, h10⟩ => ?_))
  simp only [G8, f8_N, f8_e, h0, h1, h2, els_len]
  cases c.big 100
  case true => rfl
  cases v.wide 40
  case true => rfl
  simp only [Bool.not_true, cond_false, beq_self_eq_true, cond_true]
  by_cases l2 : 200 < s.length
  · rw [decide_eq_true (show (200 : Int) < (s.length : Int) by omega)]; rfl
  rw [decide_eq_false (show ¬ (200 : Int) < (s.length : Int) by omega)]
  by_cases l3 : 100 < t.length
  · rw [decide_eq_true (show (100 : Int) < (t.length : Int) by omega)]; rfl
  rw [decide_eq_false (show ¬ (100 : Int) < (t.length : Int) by omega)]
  simp only [beq_self_eq_true, cond_true, cond_false]
  rw [h8 s t ht (by omega), h3, h9 s t ht (by omega), h6, h4, h7]
  simp only [decide_true, beq_self_eq_true, cond_true]
  rw [h5, h10, (Val.same_iff _ _).2 rfl]
end Go.Proofs.Ytbellpoahhhmhaa
