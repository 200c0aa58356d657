/- The law TreeSays of catchpole, in its second form, is proved out of TreeSays.main: handed any arguments that can be read, it returns true and leaves all that was as it was; conditions: the row's own (the arguments' bulk is at most 1048576). -/
import Derived.Test.YtifnlmfhbepjcaaTrSy
import Derived.JoinedCond
import Derived.ProofKit
set_option linter.unusedVariables false
set_option linter.unusedSimpArgs false
set_option maxRecDepth 100000
namespace Go.Proofs.Ytifnlmfhbepjcaa
open Go Go.X Go.ChangeShapes Go.WideShapes Go.ChangeAt Go.RowKit

theorem TreeSays.own : ownKnob Try.prog.godebug = none := by kernel_rfl

theorem TreeSays.contract (H : Type) (enc : TypeId × Value → H) (W : World) (base : Nat) (args : Array Value) (ds gs : List (DataW H)) (before : List MemPlace)
    (hval : ∀ (j : Nat) t v, Try.f12.params[j]? = some t → args[j]? = some v → Value.okWide Try.prog W .any base t v)
    (hW : DataW.Whole enc Try.prog Try.f12.params.toList Rows.treeSaysSpec.vars false W args.toList ds gs before) (hk : Rows.uptoSmall H (ds ++ gs) = true) :
    Calls Try.prog 12 args W fun e W' => ∃ v, e = .returned v ∧ Rows.treeSaysSpec.post enc Try.prog Try.f12 false true false false W args v W' := by
  have hW' := hW
  obtain ⟨p, q, hA0, hV, rfl, hfz, hnd⟩ := hW
  have hA : DataW.TrodAll enc Try.prog W 0 (fun _ => true) true Try.f12.params.toList args.toList ds p := hA0
  obtain ⟨rfl, rfl⟩ := trodVars_none hV
  rw [Try.params12] at hA hval
  obtain ⟨hl, ps, hargs, hsz⟩ := args_of (base := base) (T := [74, 70, 68, 24, 22, 3, 4]) (P := Try.prog) (by kernel_rfl) (by decide) hA (fun j t v ht hv => hval j t v (by simpa using ht) (by simpa using hv))
  have hbulk : bulks ds ≤ 1048576 := by simpa [Rows.uptoSmall] using hk
  have hstay := fun (W' : World) (hold : ∀ i, i < W.heap.size → W'.heap[i]? = W.heap[i]?) => stays_all laidOut hold (ts := [74, 70]) (by
    intro t ht
    simp only [List.mem_cons, List.not_mem_nil, or_false] at ht
    rcases ht with rfl | rfl <;> exact ⟨by kernel_rfl, of_decide_eq_true (by kernel_rfl)⟩) (DataW.TrodAll.lt hA) hA
  match ds, hl, ps, hargs.2.1 with
  | [d0, d1], _, [p0, p1], _ =>
    have rd : ∀ (i : Nat) (t : TypeId) (p : PV), ([74, 70] : List TypeId)[i]? = some t → ([p0, p1] : List PV)[i]? = some p → ∃ cs, Rd Try.prog W (fun _ => False) t p cs := by
      intro i t p ht hp
      have hi := get_lt hp
      have hv : args.toList[i]? = some (args.toList[i]'(by rw [hargs.1]; simpa using hi)) := List.getElem?_eq_getElem _
      obtain ⟨cs, _, hr⟩ := hargs.2.2 i _ _ p ht hv hp
      exact ⟨cs, hr⟩
    obtain ⟨cs0, hr⟩ := rd 0 74 p0 rfl rfl
    obtain ⟨x0, rfl, h0⟩ := pat_of_rd hr rfl
    obtain ⟨cs1, hr⟩ := rd 1 70 p1 rfl rfl
    obtain ⟨x1, rfl, h1⟩ := (nd_of_rd hr).1 rfl
    simp only [PV.sizes, PV.size, Pat.pv] at hsz
    have hnd0 := Nd.size_pv x0.root
    have hnd1 := Nd.size_pv x1
    obtain ⟨k, hmain⟩ := TreeSays.main x0 x1 h0 h1 (by omega)
    have hcalls := law_calls (S12 k) (x := (x0.pv, x1.pv)) (b := true) hmain (ts := [74, 70]) (ps := [x0.pv, x1.pv]) (by kernel_rfl) hargs
    rw [Array.toArray_toList] at hcalls
    refine hcalls.mono fun e W' ⟨he, h1, h2, h3, h4⟩ => ?_
    subst he
    exact ⟨_, rfl, [d0, d1], [], _, [], p, [], hW', trodAll_mk1 (shut_bool Try.underlying4 true), hstay W' h4, rfl, kept_of_old _ h1 h2 h4, fun h => by cases h⟩

set_option maxRecDepth 100000 in
theorem TreeSays.lifted (os : Os) (started : os.Started) (H : Type) (enc : TypeId × Value → H) (F : Stop.Interp) :
    ReturnsInHanded {} Try.checked os 12 .any ((Rows.OpenSpec.upto Rows.treeSaysSpec).pre6 enc Try.prog Try.f12 Rows.treeSaysUptoRow.domain false) (((Rows.OpenSpec.upto Rows.treeSaysSpec).at F).post enc Try.prog Try.f12 false true false false) := by
  refine returnsInHanded_of_cond (C := Try.checked) (s := Rows.OpenSpec.upto Rows.treeSaysSpec) (k := Rows.uptoSmall) rfl TreeSays.own started (by kernel_rfl) Try.func12
    (OpenSpec.witness (enc := enc) (C := Try.checked) (s := Rows.OpenSpec.upto Rows.treeSaysSpec) (k := Rows.uptoSmall) rfl false ⟨#[], #[.agg #[.bool false, .bool false, .int .i64 0, .int .u64 0, .int .u64 0, .int .u64 0, .int .u64 0, .int .i64 0, .int .i64 0, .int .i64 0, .slice none 0 0, .int .i64 0], .agg #[.int .i64 0, .int .u64 0, .int .u64 0, .int .u64 0, .int .u64 0, .int .i64 0, .int .i64 0, .int .i64 0, .slice none 0 0]], []⟩ 8 (by kernel_rfl) (by kernel_rfl) (by kernel_rfl)
      (x := ([.agg [.lit (.bool false), .lit (.bool false), .agg [.lit (.int .i64 0), .agg [.lit (.int .u64 0), .lit (.int .u64 0), .lit (.int .u64 0), .lit (.int .u64 0)], .lit (.int .i64 0), .lit (.int .i64 0), .lit (.int .i64 0), .nil], .lit (.int .i64 0)], .agg [.lit (.int .i64 0), .agg [.lit (.int .u64 0), .lit (.int .u64 0), .lit (.int .u64 0), .lit (.int .u64 0)], .lit (.int .i64 0), .lit (.int .i64 0), .lit (.int .i64 0), .nil]], [], [])) (by kernel_rfl) rfl (by kernel_rfl)) ?_
  intro W base args ds gs before hval hW _ hk _
  exact TreeSays.contract H enc W base args ds gs before hval hW hk

theorem TreeSays.holds : Rows.TreeSaysUptoSaid :=
  OpenClaim.holds_of_cond 12 Try.f12 rfl rfl rfl rfl rfl rfl rfl ⟨rfl, rfl, rfl, rfl, rfl⟩ rfl rfl rfl rfl rfl (by kernel_rfl) Try.func12 (by kernel_rfl)
    (of_decide_eq_true (by kernel_rfl)) (by unfold Func.isWrapper; first | (rw [if_pos (by decide +kernel)]; kernel_rfl) | (rw [if_neg (by decide +kernel)]; exact ⟨rfl, rfl⟩))
    (fun os started H enc _ F => TreeSays.lifted os started H enc F)

end Go.Proofs.Ytifnlmfhbepjcaa

