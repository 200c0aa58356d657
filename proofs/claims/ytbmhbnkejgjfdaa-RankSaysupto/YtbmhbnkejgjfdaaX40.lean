/- The interpreter X, part 40: laws without arguments. -/
import Derived.Test.YtbmhbnkejgjfdaaX39
import Derived.ProofKit
namespace Go.X
open Go

theorem kept_of_old {w w' : World} (may : MemPlace → Prop) (hos : w'.os = w.os) (hout : w'.output = w.output) (h : ∀ i, i < w.heap.size → w'.heap[i]? = w.heap[i]?) : w.keptBut w' may := by
  refine ⟨hos, hout, fun i hi => ?_⟩
  rw [h i hi]
  exact (World.keptBut_refl w may).2.2 i hi

/-- A call that is handed data alone: it answers what X answers; what was is as it was. -/
theorem data_calls {P : Program} {cfg : Cfg} (H : Fine P cfg) {k : Nat} {f : FuncId} (hx : cfg.ext f = none) {args : List SV} {b : Bool} (h : ev P cfg k f args [] = some ([.bool b], [])) {vs : List Value} {w : World}
    (hlen : vs.length = args.length) (hs : ∀ (i : Nat) (s : SV) (v : Value), args[i]? = some s → vs[i]? = some v → RS P w (fun _ => False) (fun _ => none) [] s v) :
    Calls P f vs.toArray w (fun e w' => e = .returned (.bool b) ∧ w'.os = w.os ∧ w'.output = w.output ∧ w.heap.size ≤ w'.heap.size ∧ ∀ i, i < w.heap.size → w'.heap[i]? = w.heap[i]?) := by
  have hmut : ∀ b, ¬ Mut (fun _ => False) (fun _ => none) ([] : Obs) b := by
    rintro b (h | ⟨_, _, _, h, _⟩)
    · exact h
    · cases h
  have hR : Rel P (fun _ => False) (fun _ => none) args [] vs w :=
    ⟨hlen, fun i s v a c => RS.noObs (fun b _ _ => hmut b) (hs i s v a c), (fun d o h => by cases h), (fun d o d' o' b c c' h => by cases h), (fun d o b c h => by cases h), (fun d o b c h => by cases h), fun b h => h.elim⟩
  refine Calls.mono (ev_calls H hx h hR) fun e w' he => ?_
  obtain ⟨rvs, β', rfl, h1, h2⟩ := he
  have hv : rvs = [.bool b] := by
    have hl := h1.len
    match rvs, hl with
    | [v], _ =>
      have := h1.slot 0 (.bool b) v rfl rfl
      cases this; rfl
  subst hv
  exact ⟨rfl, h2.os, h2.output, h2.size, fun i hi => h2.old i hi (by rintro ⟨d, o, c, h, _⟩; cases h)⟩

end Go.X
