/- The law GreedyKnown of catchpole, in its second form, is proved out of GreedyKnown.main: handed any arguments that can be read, it returns true and leaves all that was as it was; conditions: the row's own (the arguments' bulk is at most 1048576). -/
import Derived.Test.YtmdlhnojpcnnbaaGrKP
import Derived.JoinedCond
import Derived.ProofKit
set_option linter.unusedVariables false
set_option linter.unusedSimpArgs false
set_option maxRecDepth 100000
namespace Go.Proofs.Ytmdlhnojpcnnbaa
open Go Go.X Go.ChangeShapes Go.WideShapes Go.ChangeAt Go.RowKit

theorem GreedyKnown.own : ownKnob Try.prog.godebug = none := by kernel_rfl

theorem GreedyKnown.contract (H : Type) (enc : TypeId × Value → H) (W : World) (base : Nat) (args : Array Value) (ds gs : List (DataW H)) (before : List MemPlace)
    (hval : ∀ (j : Nat) t v, Try.f7.params[j]? = some t → args[j]? = some v → Value.okWide Try.prog W .any base t v)
    (hW : DataW.Whole enc Try.prog Try.f7.params.toList Rows.greedyKnownSpec.vars false W args.toList ds gs before) (hk : Rows.uptoSmall H (ds ++ gs) = true) :
    Calls Try.prog 7 args W fun e W' => ∃ v, e = .returned v ∧ Rows.greedyKnownSpec.post enc Try.prog Try.f7 false true false false W args v W' := by
  have hW' := hW
  obtain ⟨p, q, hA0, hV, rfl, hfz, hnd⟩ := hW
  have hA : DataW.TrodAll enc Try.prog W 0 (fun _ => true) true Try.f7.params.toList args.toList ds p := hA0
  obtain ⟨rfl, rfl⟩ := trodVars_none hV
  rw [Try.params7] at hA hval
  obtain ⟨hl, ps, hargs, hsz⟩ := args_of (base := base) (T := []) (P := Try.prog) (by kernel_rfl) (by decide) hA (fun j t v ht _ => by simp at ht)
  have hbulk : bulks ds ≤ 1048576 := by simpa [Rows.uptoSmall] using hk
  have hstay := fun (W' : World) (hold : ∀ i, i < W.heap.size → W'.heap[i]? = W.heap[i]?) => stays_all laidOut hold (ts := []) (by
    intro t ht
    cases ht) (DataW.TrodAll.lt hA) hA
  match ds, hl, ps, hargs.2.1 with
  | [], _, [], _ =>
    obtain ⟨k, hmain⟩ := GreedyKnown.main  
    have hcalls := law_calls (S7 k) (x := ()) (b := true) hmain (ts := []) (ps := []) (by kernel_rfl) hargs (GlobOk.none (by kernel_rfl))
    rw [Array.toArray_toList] at hcalls
    refine hcalls.mono fun e W' ⟨he, h1, h2, h3, h4⟩ => ?_
    subst he
    exact ⟨_, rfl, [], [], _, [], p, [], hW', trodAll_mk1 (shut_bool Try.underlying4 true), hstay W' h4, rfl, kept_of_old _ h1 h2 h4, fun h => by cases h⟩

set_option maxRecDepth 100000 in
theorem GreedyKnown.lifted (os : Os) (started : os.Started) (H : Type) (enc : TypeId × Value → H) (F : Stop.Interp) :
    ReturnsInHanded {} Try.checked os 7 .any ((Rows.OpenSpec.upto Rows.greedyKnownSpec).pre6 enc Try.prog Try.f7 Rows.greedyKnownUptoRow.domain false) (((Rows.OpenSpec.upto Rows.greedyKnownSpec).at F).post enc Try.prog Try.f7 false true false false) := by
  refine returnsInHanded_of_cond (C := Try.checked) (s := Rows.OpenSpec.upto Rows.greedyKnownSpec) (k := Rows.uptoSmall) rfl GreedyKnown.own started (by kernel_rfl) Try.func7
    (OpenSpec.witness (enc := enc) (C := Try.checked) (s := Rows.OpenSpec.upto Rows.greedyKnownSpec) (k := Rows.uptoSmall) rfl false ⟨#[], #[], []⟩ 8 (by kernel_rfl) (by kernel_rfl) (by kernel_rfl)
      (x := ([], [], [])) (by kernel_rfl) rfl (by kernel_rfl)) ?_
  intro W base args ds gs before hval hW _ hk _
  exact GreedyKnown.contract H enc W base args ds gs before hval hW hk

theorem GreedyKnown.holds : Rows.GreedyKnownUptoSaid :=
  OpenClaim.holds_of_cond 7 Try.f7 rfl rfl rfl rfl rfl rfl rfl ⟨rfl, rfl, rfl, rfl, rfl⟩ rfl rfl rfl rfl rfl (by kernel_rfl) Try.func7 (by kernel_rfl)
    (of_decide_eq_true (by kernel_rfl)) (by unfold Func.isWrapper; first | (rw [if_pos (by decide +kernel)]; kernel_rfl) | (rw [if_neg (by decide +kernel)]; exact ⟨rfl, rfl⟩))
    (fun os started H enc _ F => GreedyKnown.lifted os started H enc F)

end Go.Proofs.Ytmdlhnojpcnnbaa

