/- The law SpanWhole of catchpole, in its second form, is proved out of SpanWhole.main: handed any arguments that can be read, it returns true and leaves all that was as it was; conditions: the row's own (the arguments' bulk is at most 1048576). -/
import Derived.Test.YtmdlhnojpcnnbaaSpWh
import Derived.JoinedCond
import Derived.ProofKit
set_option linter.unusedVariables false
set_option linter.unusedSimpArgs false
set_option maxRecDepth 100000
namespace Go.Proofs.Ytmdlhnojpcnnbaa
open Go Go.X Go.ChangeShapes Go.WideShapes Go.ChangeAt Go.RowKit

theorem SpanWhole.own : ownKnob Try.prog.godebug = none := by kernel_rfl

theorem SpanWhole.contract (H : Type) (enc : TypeId × Value → H) (W : World) (base : Nat) (args : Array Value) (ds gs : List (DataW H)) (before : List MemPlace)
    (hval : ∀ (j : Nat) t v, Try.f5.params[j]? = some t → args[j]? = some v → Value.okWide Try.prog W .any base t v)
    (hW : DataW.Whole enc Try.prog Try.f5.params.toList Rows.spanWholeSpec.vars false W args.toList ds gs before) (hk : Rows.uptoSmall H (ds ++ gs) = true) :
    Calls Try.prog 5 args W fun e W' => ∃ v, e = .returned v ∧ Rows.spanWholeSpec.post enc Try.prog Try.f5 false true false false W args v W' := by
  have hW' := hW
  obtain ⟨p, q, hA0, hV, rfl, hfz, hnd⟩ := hW
  have hA : DataW.TrodAll enc Try.prog W 0 (fun _ => true) true Try.f5.params.toList args.toList ds p := hA0
  obtain ⟨rfl, rfl⟩ := trodVars_none hV
  rw [Try.params5] at hA hval
  obtain ⟨hl, ps, hargs, hsz⟩ := args_of (base := base) (T := [28, 26, 25, 23, 3, 5, 36]) (P := Try.prog) (by kernel_rfl) (by decide) hA (fun j t v ht hv => hval j t v (by simpa using ht) (by simpa using hv))
  have hbulk : bulks ds ≤ 1048576 := by simpa [Rows.uptoSmall] using hk
  have hstay := fun (W' : World) (hold : ∀ i, i < W.heap.size → W'.heap[i]? = W.heap[i]?) => stays_all laidOut hold (ts := [28, 36, 3, 3]) (by
    intro t ht
    simp only [List.mem_cons, List.not_mem_nil, or_false] at ht
    rcases ht with rfl | rfl | rfl | rfl <;> exact ⟨by kernel_rfl, of_decide_eq_true (by kernel_rfl)⟩) (DataW.TrodAll.lt hA) hA
  match ds, hl, ps, hargs.2.1 with
  | [d0, d1, d2, d3], _, [p0, p1, p2, p3], _ =>
    have rd : ∀ (i : Nat) (t : TypeId) (p : PV), ([28, 36, 3, 3] : List TypeId)[i]? = some t → ([p0, p1, p2, p3] : List PV)[i]? = some p → ∃ cs, Rd Try.prog W (fun _ => False) t p cs := by
      intro i t p ht hp
      have hi := get_lt hp
      have hv : args.toList[i]? = some (args.toList[i]'(by rw [hargs.1]; simpa using hi)) := List.getElem?_eq_getElem _
      obtain ⟨cs, _, hr⟩ := hargs.2.2 i _ _ p ht hv hp
      exact ⟨cs, hr⟩
    obtain ⟨cs0, hr⟩ := rd 0 28 p0 rfl rfl
    obtain ⟨x0, rfl, h0⟩ := (cor_of_rd hr).1 rfl
    obtain ⟨cs1, hr⟩ := rd 1 36 p1 rfl rfl
    obtain ⟨x1, rfl, h1⟩ := bytes_of_rd hr rfl
    obtain ⟨cs2, hr⟩ := rd 2 3 p2 rfl rfl
    obtain ⟨x2, rfl, h2⟩ := cells_int Try.underlying3 hr
    obtain ⟨cs3, hr⟩ := rd 3 3 p3 rfl rfl
    obtain ⟨x3, rfl, h3⟩ := cells_int Try.underlying3 hr
    simp only [PV.sizes, PV.size, Cor.size_pv] at hsz
    obtain ⟨k, hmain⟩ := SpanWhole.main x0 x1 x2 x3 h0 h1 h2 h3 (by omega)
    have hcalls := law_calls (S5 k) (x := (x0.pv, .list (pvL x1), x2, x3)) (b := true) hmain (ts := [28, 36, 3, 3]) (ps := [x0.pv, .list (pvL x1), .int x2, .int x3]) (by kernel_rfl) hargs (GlobOk.none (by kernel_rfl))
    rw [Array.toArray_toList] at hcalls
    refine hcalls.mono fun e W' ⟨he, h1, h2, h3, h4⟩ => ?_
    subst he
    exact ⟨_, rfl, [d0, d1, d2, d3], [], _, [], p, [], hW', trodAll_mk1 (shut_bool Try.underlying4 true), hstay W' h4, rfl, kept_of_old _ h1 h2 h4, fun h => by cases h⟩

set_option maxRecDepth 100000 in
theorem SpanWhole.lifted (os : Os) (started : os.Started) (H : Type) (enc : TypeId × Value → H) (F : Stop.Interp) :
    ReturnsInHanded {} Try.checked os 5 .any ((Rows.OpenSpec.upto Rows.spanWholeSpec).pre6 enc Try.prog Try.f5 Rows.spanWholeUptoRow.domain false) (((Rows.OpenSpec.upto Rows.spanWholeSpec).at F).post enc Try.prog Try.f5 false true false false) := by
  refine returnsInHanded_of_cond (C := Try.checked) (s := Rows.OpenSpec.upto Rows.spanWholeSpec) (k := Rows.uptoSmall) rfl SpanWhole.own started (by kernel_rfl) Try.func5
    (OpenSpec.witness (enc := enc) (C := Try.checked) (s := Rows.OpenSpec.upto Rows.spanWholeSpec) (k := Rows.uptoSmall) rfl false ⟨#[], #[.agg #[.int .i64 0, .int .u64 0, .int .u64 0, .int .u64 0, .int .u64 0, .int .i64 0, .slice none 0 0], .slice none 0 0, .int .i64 0, .int .i64 0], []⟩ 8 (by kernel_rfl) (by kernel_rfl) (by kernel_rfl)
      (x := ([.agg [.lit (.int .i64 0), .agg [.lit (.int .u64 0), .lit (.int .u64 0), .lit (.int .u64 0), .lit (.int .u64 0)], .lit (.int .i64 0), .nil], .nil, .lit (.int .i64 0), .lit (.int .i64 0)], [], [])) (by kernel_rfl) rfl (by kernel_rfl)) ?_
  intro W base args ds gs before hval hW _ hk _
  exact SpanWhole.contract H enc W base args ds gs before hval hW hk

theorem SpanWhole.holds : Rows.SpanWholeUptoSaid :=
  OpenClaim.holds_of_cond 5 Try.f5 rfl rfl rfl rfl rfl rfl rfl ⟨rfl, rfl, rfl, rfl, rfl⟩ rfl rfl rfl rfl rfl (by kernel_rfl) Try.func5 (by kernel_rfl)
    (of_decide_eq_true (by kernel_rfl)) (by unfold Func.isWrapper; first | (rw [if_pos (by decide +kernel)]; kernel_rfl) | (rw [if_neg (by decide +kernel)]; exact ⟨rfl, rfl⟩))
    (fun os started H enc _ F => SpanWhole.lifted os started H enc F)

end Go.Proofs.Ytmdlhnojpcnnbaa

