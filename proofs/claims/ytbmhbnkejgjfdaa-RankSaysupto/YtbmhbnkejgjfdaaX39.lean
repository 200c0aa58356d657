/- The interpreter X, part 39: what is asked of a program, by looking. -/
import Derived.Test.YtbmhbnkejgjfdaaX38
namespace Go.X
open Go

/-- All regions whose order is drawn are such that it does not matter. -/
def codeOkB : Code → Bool
  | .region _ ops true => dOk ops
  | .seq x y => codeOkB x && codeOkB y
  | .cond _ x y => codeOkB x && codeOkB y
  | .block _ c => codeOkB c
  | .loop c => codeOkB c
  | .scope c => codeOkB c
  | _ => true

theorem drawsOk_of {E : Env} (hL : laidOutB E.P = true) (hC : OracleOk E.P E.C) (hm : E.P.follows .mixedOrders = true) : ∀ {c : Code}, codeOkB c = true → DrawsOk E c
  | .region _ ops true, h => draw_ok hL hC hm h
  | .region _ ops false, _ => trivial
  | .seq x y, h => by
    simp only [codeOkB, Bool.and_eq_true] at h
    exact ⟨drawsOk_of hL hC hm h.1, drawsOk_of hL hC hm h.2⟩
  | .cond _ x y, h => by
    simp only [codeOkB, Bool.and_eq_true] at h
    exact ⟨drawsOk_of hL hC hm h.1, drawsOk_of hL hC hm h.2⟩
  | .block _ c, h => drawsOk_of (c := c) hL hC hm h
  | .loop c, h => drawsOk_of (c := c) hL hC hm h
  | .scope c, h => drawsOk_of (c := c) hL hC hm h
  | .skip, _ => trivial
  | .exit _, _ => trivial
  | .ret, _ => trivial
  | .rangeFunc _ _ _ _, _ => trivial
  | .label _, _ => trivial
  | .goto _, _ => trivial
  | .refuse _, _ => trivial

def drawsB (P : Program) (okF : FuncId → Bool) : Bool :=
  (List.range P.funcs.size).all fun f => !okF f || (match P.funcs[f]? with | some fn => (match fn.body with | some c => codeOkB c | none => true) | none => true)

theorem fine_of {P : Program} {cfg : Cfg} (h1 : laidOutB P = true) (h2 : noNum P = true) (h3 : P.follows .mixedOrders = true) (h4 : drawsB P cfg.okF = true) (h5 : ∀ f s args B r, cfg.ext f = some s → s args B = some r → CallOk P f args B r) : Fine P cfg := by
  refine ⟨h1, h2, fun f fn c hok hf hb E hE hC => ?_, h5⟩
  unfold drawsB at h4
  simp only [List.all_eq_true, List.mem_range] at h4
  have := h4 f (Array.getElem?_eq_some_iff.1 hf).1
  rw [hok, hf] at this
  simp only [hb, Bool.not_true, Bool.false_or] at this
  subst hE
  exact drawsOk_of h1 hC h3 this

end Go.X
