/- The law ValueSays comes out true. -/
import Derived.Test.YtbellpoahhhmhaaRefG
import Derived.Test.YtbellpoahhhmhaaValM
set_option linter.unusedSimpArgs false
set_option linter.unusedVariables false
set_option maxRecDepth 20000
namespace Go.Proofs.Ytbellpoahhhmhaa
open Go Go.X

theorem ValueSays.main (c : Cor) (v u : Val) (hc : c.Ok) (hv : v.Ok) (hu : u.Ok) (hs : c.size + (v.size + u.size) ≤ 100000000) : ∃ k, G7 k c.pv v.pv u.pv (fun y => some ([.bool y], [])) = some ([.bool true], []) := by
  have sc : c.Sm := by simp only [Cor.Sm]; omega
  have sv : v.Sm := by simp only [Val.Sm]; omega
  have su : u.Sm := by simp only [Val.Sm]; omega
  refine Ult.get (Ult.succ ((spec_awake.and ((spec_big c 100 (by omega)).and ((spec_wide v 40 (by omega)).and ((spec_wide u 40 (by omega)).and ((spec_coreOf c (by omega)).and ((spec_valueOf v sv).and ((spec_valueOf u su).and ((spec_vGood c hc sc v hv sv).and ((spec_GoodValue c hc sc v hv sv).and ((spec_Full c hc sc v hv sv).and ((spec_rFull c hc sc v hv sv).and ((spec_Flat v sv).and ((spec_rFlat v sv).and ((spec_Len v sv).and ((spec_Text v hv sv).and ((spec_rText v hv sv).and ((spec_VSize v sv).and ((spec_rVSize v sv).and ((spec_Same v sv u).and (spec_rSame v sv u)))))))))))))))))))).mono fun k ⟨h0, h1, h2, h3, h4, h5, h6, h7, h8, h9, h10, h11, h12, h13, h14, h15, h16, h17, h18, h19⟩ => ?_))
  simp only [G7, f7_N, f7_e, h0, h1, h2, h3, h4, h5, h6, h7, h8, h9, h10, h11, h12, h13, h14, h15, h16, h17, h18, h19, PV.els, pvI_len, decide_true, beq_self_eq_true, cond_true]
  cases c.big 100
  case true => rfl
  cases v.wide 40
  case true => rfl
  cases u.wide 40
  case true => rfl
  rfl
end Go.Proofs.Ytbellpoahhhmhaa
