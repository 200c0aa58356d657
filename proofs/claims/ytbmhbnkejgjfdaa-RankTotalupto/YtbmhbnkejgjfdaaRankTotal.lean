/- The law RankTotal of catchpole's chapter 13, in its second form, is proved: handed any three values that can be read, it returns true and leaves all that was as it was; conditions: the row's own (the arguments' bulk is at most 1048576). -/
import Derived.Test.YtbmhbnkejgjfdaaRankG
import Derived.JoinedCond
import Derived.ProofKit
set_option linter.unusedSimpArgs false
namespace Go.Proofs.Ytbmhbnkejgjfdaa
open Go Go.X Go.ChangeShapes Go.WideShapes Go.ChangeAt Go.RowKit

theorem own : ownKnob Try.prog.godebug = none := by kernel_rfl

theorem RankTotal.main (a b c : Val) (ha : a.Sm) (hb : b.Sm) (hc : c.Sm) : ∃ k, G3 k a.pv b.pv c.pv (fun y => some ([.bool y], [])) = some ([.bool true], []) := by
  refine Ult.get (Ult.succ ((spec_awake.and ((spec_wide a 20 (by omega)).and ((spec_wide b 20 (by omega)).and ((spec_wide c 20 (by omega)).and ((spec_Cmp a ha b hb).and ((spec_Cmp b hb c hc).and ((spec_Cmp a ha c hc).and ((spec_Cmp b hb a ha).and (spec_Cmp a ha a ha))))))))).mono fun k ⟨h0, h1, h2, h3, h4, h5, h6, h7, h8⟩ => ?_))
  simp only [G3, f3_N, f3_e, h0, h1, h2, h3, h4, h5, h6, h7, h8, Val.rcmp_self, Val.rcmp_neg a b]
  have t := Val.rcmp_tr a b c
  have v1 := Val.rcmp_val a b
  have v2 := Val.rcmp_val b c
  have v3 := Val.rcmp_val a c
  generalize Val.rcmp a b = x at *
  generalize Val.rcmp b c = y at *
  generalize Val.rcmp a c = z at *
  have hw : IntKind.wrap .i64 (0 - x) = -x := by rw [wrap_i64] <;> omega
  rw [hw]
  unfold Tr at t
  cases a.wide 20 <;> cases b.wide 20 <;> cases c.wide 20 <;> simp only [Bool.not_true, cond_false, cond_true, beq_self_eq_true, Bool.true_beq, Bool.false_beq]
  all_goals try rfl
  all_goals rcases v1 with rfl | rfl | rfl <;> rcases v2 with rfl | rfl | rfl <;> rcases v3 with rfl | rfl | rfl <;> first | (exfalso; revert t; decide) | rfl

theorem RankTotal.contract (H : Type) (enc : TypeId × Value → H) (W : World) (base : Nat) (args : Array Value) (ds gs : List (DataW H)) (before : List MemPlace)
    (hval : ∀ (j : Nat) t v, Try.f3.params[j]? = some t → args[j]? = some v → Value.okWide Try.prog W .any base t v)
    (hW : DataW.Whole enc Try.prog Try.f3.params.toList Rows.rankTotalSpec.vars false W args.toList ds gs before) (hk : Rows.uptoSmall H (ds ++ gs) = true) :
    Calls Try.prog 3 args W fun e W' => ∃ v, e = .returned v ∧ Rows.rankTotalSpec.post enc Try.prog Try.f3 false true false false W args v W' := by
  have hW' := hW
  obtain ⟨p, q, hA0, hV, rfl, hfz, hnd⟩ := hW
  have hA : DataW.TrodAll enc Try.prog W 0 (fun _ => true) true Try.f3.params.toList args.toList ds p := hA0
  obtain ⟨rfl, rfl⟩ := trodVars_none hV
  rw [Try.params3] at hA hval
  obtain ⟨hl, ps, hargs, hsz⟩ := args_of (T := [24, 22, 3, 5]) (P := Try.prog) (by kernel_rfl) (by decide) hA (fun j t v ht hv => hval j t v (by simpa using ht) (by simpa using hv))
  have hbulk : bulks ds ≤ 1048576 := by simpa [Rows.uptoSmall] using hk
  have hstay := fun (W' : World) (hold : ∀ i, i < W.heap.size → W'.heap[i]? = W.heap[i]?) => stays_all laidOut hold (ts := [24, 24, 24]) (by intro t ht; simp only [List.mem_cons, List.not_mem_nil, or_false, or_self] at ht; subst ht; exact ⟨by kernel_rfl, of_decide_eq_true (by kernel_rfl)⟩) (DataW.TrodAll.lt hA) hA
  match ds, hl, ps, hargs.2.1 with
  | [d1, d2, d3], _, [p1, p2, p3], _ =>
    have rd : ∀ (i : Nat) (p : PV), [p1, p2, p3][i]? = some p → ∃ v : Val, p = v.pv := by
      intro i p hp
      have hi := get_lt hp
      have hv : args.toList[i]? = some (args.toList[i]'(by rw [hargs.1]; simpa using hi)) := List.getElem?_eq_getElem _
      have ht : ([24, 24, 24] : List TypeId)[i]? = some 24 := by
        match i, hi with
        | 0, _ => rfl
        | 1, _ => rfl
        | 2, _ => rfl
      obtain ⟨cs, _, hr⟩ := hargs.2.2 i _ _ p ht hv hp
      obtain ⟨v, hv, _⟩ := (val_of_rd hr).1 rfl
      exact ⟨v, hv⟩
    obtain ⟨a, rfl⟩ := rd 0 p1 rfl
    obtain ⟨b, rfl⟩ := rd 1 p2 rfl
    obtain ⟨c, rfl⟩ := rd 2 p3 rfl
    simp only [PV.sizes, Val.size_pv] at hsz
    obtain ⟨k, hmain⟩ := RankTotal.main a b c (by simp only [Val.Sm]; omega) (by simp only [Val.Sm]; omega) (by simp only [Val.Sm]; omega)
    have hcalls := law_calls (S3 k) (x := (a.pv, b.pv, c.pv)) (b := true) hmain (ts := [24, 24, 24]) (ps := [a.pv, b.pv, c.pv]) (by kernel_rfl) hargs
    rw [Array.toArray_toList] at hcalls
    refine hcalls.mono fun e W' ⟨he, h1, h2, h3, h4⟩ => ?_
    subst he
    exact ⟨_, rfl, [d1, d2, d3], [], _, [], p, [], hW', trodAll_mk1 (shut_bool Try.underlying4 true), hstay W' h4, rfl, kept_of_old _ h1 h2 h4, fun h => by cases h⟩

set_option maxRecDepth 100000 in
theorem RankTotal.lifted (os : Os) (started : os.Started) (H : Type) (enc : TypeId × Value → H) (F : Stop.Interp) :
    ReturnsInHanded {} Try.checked os 3 .any ((Rows.OpenSpec.upto Rows.rankTotalSpec).pre6 enc Try.prog Try.f3 Rows.rankTotalUptoRow.domain false) (((Rows.OpenSpec.upto Rows.rankTotalSpec).at F).post enc Try.prog Try.f3 false true false false) := by
  refine returnsInHanded_of_cond (C := Try.checked) (s := Rows.OpenSpec.upto Rows.rankTotalSpec) (k := Rows.uptoSmall) rfl own started (by kernel_rfl) Try.func3
    (OpenSpec.witness (enc := enc) (C := Try.checked) (s := Rows.OpenSpec.upto Rows.rankTotalSpec) (k := Rows.uptoSmall) rfl false ⟨#[], #[.agg #[.int .i64 0, .int .u8 0, .slice none 0 0], .agg #[.int .i64 0, .int .u8 0, .slice none 0 0], .agg #[.int .i64 0, .int .u8 0, .slice none 0 0]], []⟩ 8 (by kernel_rfl) (by kernel_rfl) (by kernel_rfl)
      (x := ([.agg [.lit (.int .i64 0), .lit (.int .u8 0), .nil], .agg [.lit (.int .i64 0), .lit (.int .u8 0), .nil], .agg [.lit (.int .i64 0), .lit (.int .u8 0), .nil]], [], [])) (by kernel_rfl) rfl (by kernel_rfl)) ?_
  intro W base args ds gs before hval hW _ hk _
  exact RankTotal.contract H enc W base args ds gs before hval hW hk

theorem RankTotal.holds : Rows.RankTotalUptoSaid :=
  OpenClaim.holds_of_cond 3 Try.f3 rfl rfl rfl rfl rfl rfl rfl ⟨rfl, rfl, rfl, rfl, rfl⟩ rfl rfl rfl rfl rfl (by kernel_rfl) Try.func3 (by kernel_rfl)
    (of_decide_eq_true (by kernel_rfl)) (by unfold Func.isWrapper; first | (rw [if_pos (by decide +kernel)]; kernel_rfl) | (rw [if_neg (by decide +kernel)]; exact ⟨rfl, rfl⟩))
    (fun os started H enc _ F => RankTotal.lifted os started H enc F)

end Go.Proofs.Ytbmhbnkejgjfdaa
