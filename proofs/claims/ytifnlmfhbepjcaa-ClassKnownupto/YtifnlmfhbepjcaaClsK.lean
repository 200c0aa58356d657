/- The law ClassKnown comes out true. -/
import Derived.Test.YtifnlmfhbepjcaaCls2
set_option linter.unusedSimpArgs false
set_option linter.unusedVariables false
set_option maxRecDepth 20000
namespace Go.Proofs.Ytifnlmfhbepjcaa
open Go Go.X

theorem clsAs_fin : ∀ i : Fin 12, (clsAs (cls.getD i.1 ([], 0)).2) = some (cls.getD i.1 ([], 0)) := by decide +kernel
theorem clsAs_get {i : Nat} (h : i < cls.length) : clsAs cls[i].2 = some cls[i] := by
  have := clsAs_fin ⟨i, h⟩
  simpa [List.getD, h] using this
theorem in97 : (cls.filter fun c => c.2.testBit 97).map (fun c => c.1) = [[97, 108, 110, 117, 109], [97, 108, 112, 104, 97], [103, 114, 97, 112, 104], [108, 111, 119, 101, 114], [112, 114, 105, 110, 116], [120, 100, 105, 103, 105, 116]] := by decide +kernel
theorem in200 : (cls.filter fun c => c.2.testBit 200).map (fun c => c.1) = [] := by decide +kernel
theorem in9 : ((cls.filter fun c => c.2.testBit 9).map (fun c => c.1)).length = 3 := by decide +kernel
theorem nmC_map (l : List (List Int × Nat)) : l.map nmC = (l.map fun c => c.1).map PV.str := by
  rw [List.map_map]; rfl
theorem spec_All : Ult fun k => ∀ ret, G20 k ret = ret (bs (2 ^ 256 - 1)) :=
  Ult.succ (spec_Not.mono fun k h ret => by
    simp only [G20, f20_N, f20_e]
    rw [bs_zero, h]; rfl)

theorem ClassKnown.main : ∃ k, G10 k (fun y => some ([.bool y], [])) = some ([.bool true], []) := by
  have hL : cls.length = 12 := rfl
  have c1 : clsOf [119, 111, 114, 100] = none := rfl
  have c2 : clsOf [] = none := rfl
  have c3 : clsOf [65, 76, 80, 72, 65] = none := rfl
  have c4 : clsAs (2 ^ 256 - 1) = none := by decide +kernel
  have c5 : clsAs (ofL []) = none := by decide +kernel
  have eL : PV.list [] = .list (pvL []) := rfl
  have hW : Ult fun k => ∀ c ∈ cls, ∀ ret, G40 k (bs c.2) ret = match clsAs c.2 with | some c => ret c.1 true | none => ret [] false := Ult.forall_mem fun c hc => spec_Whole c.2 (cls_lt c hc)
  refine Ult.get (Ult.succ ((spec_awake.and (spec_Names.and (spec_rNames.and (spec_Named.and (spec_rNamed.and (spec_own.and (spec_All.and ((spec_Of [] (by simp) (by simp)).and (hW.and ((spec_Whole (2 ^ 256 - 1) (by omega)).and ((spec_Whole (ofL []) (ofL_lt [] (by simp))).and ((spec_In 97 (by omega)).and ((spec_In 200 (by omega)).and ((spec_In 9 (by omega)).and (Ult.ge 100))))))))))))))).mono fun k ⟨h0, h1, h2, h3, h4, h5, h6, h7, h8, h9, h10, h11, h12, h13, h14⟩ => ?_))
  simp only [Int.cast_ofNat_Int] at h11 h12 h13
  simp only [G10, f10_N, f10_e, h0, h1, h2, Bool.not_true, cond_false, f10_w1N]
  have := loopR_up (body := f10_w1B k (G18 k) (G20 k) (G37 k) (G38 k) (G39 k) (G40 k) (G42 k) (G43 k) (G44 k) (G45 k) (fun y => some ([.bool y], [])) (.list (cls.map nmC)) (.list (cls.map nmC))) (res := fun i => (some ([SV.bool true], []) : R)) cls.length ?_ ?_ k 0 (by omega) (by omega)
  · exact this
  · intro nx
    simp only [f10_w1B, f10_w1b0N, f10_w1b0, PV.els, List.length_map, decide_eq_false (show ¬ (cls.length : Int) < (cls.length : Int) by omega), cond_false, h3, c1, c2, c3, h6, h9, c4, eL, h7, h10, c5, h11, h12, h13]
    rw [nmC_map, in97]
    have e97 : ((List.filter (fun c => c.2.testBit 97) cls).length : Int) = 6 := by have := congrArg List.length in97; rw [List.length_map] at this; rw [this]; rfl
    have e200 : ((List.filter (fun c => c.2.testBit 200) cls).length : Int) = 0 := by have := congrArg List.length in200; rw [List.length_map] at this; rw [this]; rfl
    have e9 : ((List.filter (fun c => c.2.testBit 9) cls).length : Int) = 3 := by have := in9; rw [List.length_map] at this; rw [this]; rfl
    simp only [e9, e97, e200]
    rfl
  · intro i hi nx hnx
    have e0 : PV.chars (nmC cls[i]) = cls[i].1 := rfl
    simp only [f10_w1B, f10_w1b0N, f10_w1b0, PV.els, List.length_map, decide_eq_true (show (i : Int) < (cls.length : Int) by omega), decide_eq_true (show (0 : Int) ≤ (i : Int) by omega), Bool.and_self, cond_true, getD_map nmC hi, wrap_succ (show i < 1099511627777 by omega), e0, h3, h4, clsOf_get hi, h5, h8 _ (List.getElem_mem hi), clsAs_get hi, beq_refl, decide_true, Bool.not_true, beq_self_eq_true, cond_false, hnx]
end Go.Proofs.Ytifnlmfhbepjcaa
