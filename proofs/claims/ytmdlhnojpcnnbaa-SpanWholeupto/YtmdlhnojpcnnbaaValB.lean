/- Values: which of their items count; how many there may be; choices. -/
import Derived.Test.YtmdlhnojpcnnbaaVal
import Derived.Test.YtmdlhnojpcnnbaaGen
set_option linter.unusedSimpArgs false
set_option linter.unusedVariables false
namespace Go.Proofs.Ytmdlhnojpcnnbaa
open Go Go.X

theorem getD_pv {ks : List Val} {i : Nat} (h : i < ks.length) : List.getD (ks.map Val.pv) ((i : Int)).toNat PV.nil = (ks[i]).pv := by
  simp [List.getD, h]
namespace Val
def ar (k : Int) (n : Nat) : Nat := if k = 3 then 2 else if k = 4 then 1 else if k = 5 then 1 else if k = 7 then 1 else if k = 6 then n else 0
def kids (v : Val) : List Val := v.kidl.take (ar v.kind v.kidl.length)
def Sm (v : Val) : Prop := v.size ≤ 274877906944
theorem Sm.kid {v x : Val} (h : v.Sm) (hx : x ∈ v.kidl) : x.Sm := by
  cases v with
  | mk k b l => have := size_le_of_mem (l := l) hx; simp only [Sm, size] at h ⊢; omega
theorem Sm.length {v : Val} (h : v.Sm) : v.kidl.length ≤ 274877906944 := by
  cases v with
  | mk k b l => have := length_le_sizes l; simp only [Sm, size] at h; simp only [kidl]; omega
mutual
def wide : Val → Int → Bool
  | mk _ _ l, n => decide (n < 1) || decide (30 < (l.length : Int)) || wides l (n - 1)
def wides : List Val → Int → Bool
  | [], _ => false
  | v :: l, n => wide v n || wides l n
end
mutual
def bits : Val → List Int
  | mk k b l => (if k = 4 then [48] else if k = 5 then [49] else []) ++ (bitsL k (ar k l.length) l ++ (if k = 6 then [49] else []))
def bitsL (k : Int) : Nat → List Val → List Int
  | _, [] => []
  | 0, _ :: _ => []
  | n + 1, v :: l => ((if k = 6 then [48] else []) ++ bits v) ++ bitsL k n l
end
def bitsK (k : Int) (l : List Val) : List Int := l.flatMap fun x => (if k = 6 then [48] else []) ++ bits x
end Val

end Go.Proofs.Ytmdlhnojpcnnbaa
