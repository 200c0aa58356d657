/- A set of those of two: the printed function comes to it. -/
import Derived.Test.YtoefnbinfmbckaaBsLn
set_option linter.unusedSimpArgs false
set_option linter.unusedVariables false
namespace Go.Proofs.Ytoefnbinfmbckaa
open Go Go.X

theorem spec_Or : Ult fun k => ∀ (n o : Nat) ret, G12 k (bs n) (bs o) ret = ret (bs (n ||| o)) :=
  Ult.succ ((Ult.ge 5).mono fun k hk n o ret => by
    obtain ⟨m, rfl⟩ := five hk
    simp only [G12, f12_N, f12_e, f12_w1N]
    have x : ∀ i, intBit .or .u64 (wd n i : Int) (wd o i : Int) = (wd (n ||| o) i : Int) := fun i => by rw [wd_or, ← ib_or (wd_lt n i) (wd_lt o i)]
    have e : bs (n ||| o) = .agg [.int (intBit .or .u64 (wd n 0 : Int) (wd o 0 : Int)), .int (intBit .or .u64 (wd n 1 : Int) (wd o 1 : Int)), .int (intBit .or .u64 (wd n 2 : Int) (wd o 2 : Int)), .int (intBit .or .u64 (wd n 3 : Int) (wd o 3 : Int))] := by
      rw [x 0, x 1, x 2, x 3]; rfl
    rw [e]
    simp only [bs]
    refine (loopR_succ _ (m + 4) _).trans ((show _ = loopR _ (m + 4) _ from rfl).trans ?_)
    refine (loopR_succ _ (m + 3) _).trans ((show _ = loopR _ (m + 3) _ from rfl).trans ?_)
    refine (loopR_succ _ (m + 2) _).trans ((show _ = loopR _ (m + 2) _ from rfl).trans ?_)
    refine (loopR_succ _ (m + 1) _).trans ((show _ = loopR _ (m + 1) _ from rfl).trans ?_)
    exact (loopR_succ _ m _).trans rfl)
end Go.Proofs.Ytoefnbinfmbckaa
