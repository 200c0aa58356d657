/- Values of package value, as data. -/
import Derived.Test.YtmdlhnojpcnnbaaFPb
import Derived.Test.YtmdlhnojpcnnbaaCi
namespace Go.Proofs.Ytmdlhnojpcnnbaa
open Go Go.X

inductive Val where
  | mk (k b : Int) (l : List Val)
namespace Val
@[reducible] def kind : Val → Int | mk k _ _ => k
@[reducible] def byte : Val → Int | mk _ b _ => b
@[reducible] def kidl : Val → List Val | mk _ _ l => l
mutual
def pv : Val → PV
  | mk k b l => .agg [.int k, .int b, .list (pvs l)]
def pvs : List Val → List PV
  | [] => []
  | v :: l => pv v :: pvs l
end
theorem pvs_eq : ∀ l : List Val, pvs l = l.map pv
  | [] => rfl
  | v :: l => by simp [pvs, pvs_eq l]
@[simp] theorem fld0 (v : Val) : PV.fld v.pv 0 = .int v.kind := by cases v; rfl
@[simp] theorem fld1 (v : Val) : PV.fld v.pv 1 = .int v.byte := by cases v; rfl
@[simp] theorem fld2 (v : Val) : PV.fld v.pv 2 = .list (v.kidl.map pv) := by cases v; simp [pv, PV.fld, PV.flds, kidl, pvs_eq]

mutual
def Ok : Val → Prop
  | mk k b l => (-9223372036854775808 ≤ k ∧ k < 9223372036854775808) ∧ (0 ≤ b ∧ b < 256) ∧ Oks l
def Oks : List Val → Prop
  | [] => True
  | v :: l => Ok v ∧ Oks l
end
theorem oks_iff : ∀ l : List Val, Oks l ↔ ∀ v ∈ l, v.Ok
  | [] => by simp [Oks]
  | v :: l => by simp [Oks, oks_iff l]

theorem ind {p : Val → Prop} (h : ∀ k b l, (∀ v ∈ l, p v) → p (mk k b l)) (v : Val) : p v :=
  Val.rec (motive_1 := p) (motive_2 := fun l => ∀ v ∈ l, p v) (fun k b l ih => h k b l ih) (fun v hv => by cases hv) (fun a l h1 h2 v hv => by
    rcases List.mem_cons.1 hv with rfl | hv
    · exact h1
    · exact h2 v hv) v

mutual
def size : Val → Nat
  | mk _ _ l => sizes l + 4
def sizes : List Val → Nat
  | [] => 0
  | v :: l => size v + sizes l
end
theorem size_pv : ∀ v : Val, v.pv.size = v.size := by
  intro v
  refine Val.rec (motive_1 := fun v => v.pv.size = v.size) (motive_2 := fun l => PV.sizes (pvs l) = sizes l) (fun k b l ih => ?_) rfl (fun a l h1 h2 => ?_) v
  · simp only [pv, PV.size, PV.sizes, size, ih]; omega
  · simp only [pvs, PV.sizes, sizes, h1, h2]
theorem size_le_of_mem {v : Val} : ∀ {l : List Val}, v ∈ l → v.size ≤ sizes l
  | [], h => by cases h
  | a :: l, h => by
    simp only [sizes]
    rcases List.mem_cons.1 h with rfl | h
    · omega
    · have := size_le_of_mem h; omega
theorem length_le_sizes : ∀ l : List Val, l.length ≤ sizes l
  | [] => by simp
  | a :: l => by have := length_le_sizes l; cases a; simp only [sizes, size, List.length_cons]; omega
end Val

end Go.Proofs.Ytmdlhnojpcnnbaa
