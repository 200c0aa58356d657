/- Has a set a byte: the printed function Has of package byteset. -/
import Derived.Test.YtmdlhnojpcnnbaaBsF0
set_option linter.unusedSimpArgs false
set_option linter.unusedVariables false
namespace Go.Proofs.Ytmdlhnojpcnnbaa
open Go Go.X

theorem spec_Has : Ult fun k => ∀ (n b : Nat) ret, b < 256 → G97 k (bs n) (b : Int) ret = ret (n.testBit b) :=
  Ult.succ (Ult.of fun k n b ret hb => by
    simp only [G97, f97_N, f97_e]
    rw [ck_u8 b hb, ck_mod b]
    simp only [cond_true]
    have h1 : ((IntKind.wrap .u8 (Int.tdiv (b : Int) 64))).toNat = b / 64 := by rw [tdiv64, wrap_u8 (by omega) (by omega)]; rfl
    have h2 : ((Int.tmod (b : Int) 64)).toNat = b % 64 := by rw [tmod64]; rfl
    rw [h1, h2, bs_num n (by omega), bs_has])

end Go.Proofs.Ytmdlhnojpcnnbaa
