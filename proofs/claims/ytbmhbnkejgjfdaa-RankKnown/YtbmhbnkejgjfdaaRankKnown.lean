/- The law RankKnown of catchpole's chapter 13 is proved: whatever the state of the world it is called in, it returns true and leaves all that was as it was; conditions: none but the row's own (the program's start as the row says). -/
import Derived.Test.YtbmhbnkejgjfdaaRows
import Derived.Test.YtbmhbnkejgjfdaaX40
import Derived.Test.YtbmhbnkejgjfdaaProg
import Derived.ProofKit
namespace Go.Proofs.Ytbmhbnkejgjfdaa
open Go.ChangeShapes Go.WideShapes Go.ChangeAt Go.RowKit Go.X

theorem RankKnown.own : ownKnob Try.prog.godebug = none := by kernel_rfl
def RankKnown.cfg : Cfg := { ownPar := fun f i => f == 47 && i == 0, ownRet := fun f => f == 47, okF := fun f => f.blt 48 }
theorem RankKnown.laidOut : laidOutB Try.prog = true := by kernel_rfl
theorem RankKnown.num : noNum Try.prog = true := by kernel_rfl
theorem RankKnown.mixed : Try.prog.follows .mixedOrders = true := by kernel_rfl
theorem RankKnown.draws : drawsB Try.prog RankKnown.cfg.okF = true := by kernel_rfl
theorem RankKnown.fine : Fine Try.prog RankKnown.cfg := fine_of RankKnown.laidOut RankKnown.num RankKnown.mixed RankKnown.draws (fun _ _ _ _ _ h => by cases h)
theorem RankKnown.run : ev Try.prog RankKnown.cfg 400 5 [] [] = some ([.bool true], []) := by kernel_rfl

set_option maxRecDepth 100000 in
theorem RankKnown.lifted (os : Os) (started : os.Started) (H : Type) (enc : TypeId × Value → H) :
    ReturnsInHanded {} Try.checked os 5 .any (Rows.rankKnownSpec.pre6 enc Try.prog Try.f5 Rows.rankKnownRow.domain false) (Rows.rankKnownSpec.post enc Try.prog Try.f5 false true false false) := by
  refine returnsInHanded_of_change (C := Try.checked) RankKnown.own started (by kernel_rfl) Try.func5
    (ChangeSpec.witness6 (enc := enc) (C := Try.checked) false ⟨#[], #[], []⟩ 8 (by kernel_rfl) (by kernel_rfl) (by kernel_rfl) (by kernel_rfl)) ?_
  intro W base args ds gs before hval0 hW hcnd _
  have hW' := hW
  obtain ⟨p, q, hA0, hV, rfl, hfz, hnd⟩ := hW
  have hA : DataW.TrodAll enc Try.prog W 0 (fun _ => true) true Try.f5.params.toList args.toList ds p := hA0
  rw [Try.params5] at hA
  obtain ⟨rfl, rfl, rfl⟩ := trodAll_none hA
  obtain ⟨rfl, rfl⟩ := trodVars_none hV
  refine (data_calls RankKnown.fine rfl RankKnown.run (vs := []) (w := W) rfl (fun i s v h => by simp at h)).mono fun e W' ⟨he, h1, h2, h3, h4⟩ => ?_
  subst he
  exact ⟨_, rfl, [], [], _, [], [], [], hW', trodAll_mk1 (shut_bool Try.underlying4 true), trodAll_mk0, rfl, kept_of_old _ h1 h2 h4, fun h => by cases h⟩

theorem RankKnown.holds : Rows.RankKnownSaid :=
  OpenClaim.holds_of_wide 5 Try.f5 rfl rfl rfl rfl rfl rfl rfl ⟨rfl, rfl, rfl, rfl, rfl⟩ rfl rfl rfl rfl rfl (by kernel_rfl) Try.func5 (by kernel_rfl)
    (of_decide_eq_true (by kernel_rfl)) (by unfold Func.isWrapper; first | (rw [if_pos (by decide +kernel)]; kernel_rfl) | (rw [if_neg (by decide +kernel)]; exact ⟨rfl, rfl⟩))
    (fun os started H enc _ => RankKnown.lifted os started H enc)

end Go.Proofs.Ytbmhbnkejgjfdaa
