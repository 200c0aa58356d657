/- Values of package value, as data. -/
import Derived.Test.YtbellpoahhhmhaaFb
import Derived.Test.YtbellpoahhhmhaaCi
namespace Go.Proofs.Ytbellpoahhhmhaa
open Go Go.X

inductive Val where
  | mk (k b : Int) (l : List Val)
namespace Val
@[reducible] def kind : Val → Int | mk k _ _ => k
@[reducible] def byte : Val → Int | mk _ b _ => b
@[reducible] def kidl : Val → List Val | mk _ _ l => l
mutual
def pv : Val → PV
  | mk k b l => .agg [.int k, .int b, .list (pvs l)]
def pvs : List Val → List PV
  | [] => []
  | v :: l => pv v :: pvs l
end
theorem pvs_eq : ∀ l : List Val, pvs l = l.map pv
  | [] => rfl
  | v :: l => by simp [pvs, pvs_eq l]
@[simp] theorem fld0 (v : Val) : PV.fld v.pv 0 = .int v.kind := by cases v; rfl
@[simp] theorem fld1 (v : Val) : PV.fld v.pv 1 = .int v.byte := by cases v; rfl
@[simp] theorem fld2 (v : Val) : PV.fld v.pv 2 = .list (v.kidl.map pv) := by cases v; simp [pv, PV.fld, PV.flds, kidl, pvs_eq]

mutual
/-- In their types' ranges. -/
def Ok : Val → Prop
  | mk k b l => (-9223372036854775808 ≤ k ∧ k < 9223372036854775808) ∧ (0 ≤ b ∧ b < 256) ∧ Oks l
def Oks : List Val → Prop
  | [] => True
  | v :: l => Ok v ∧ Oks l
end
theorem oks_iff : ∀ l : List Val, Oks l ↔ ∀ v ∈ l, v.Ok
  | [] => by simp [Oks]
  | v :: l => by simp [Oks, oks_iff l]

theorem ind {p : Val → Prop} (h : ∀ k b l, (∀ v ∈ l, p v) → p (mk k b l)) (v : Val) : p v :=
  Val.rec (motive_1 := p) (motive_2 := fun l => ∀ v ∈ l, p v) (fun k b l ih => h k b l ih) (fun v hv => by cases hv) (fun a l h1 h2 v hv => by
    rcases List.mem_cons.1 hv with rfl | hv
    · exact h1
    · exact h2 v hv) v

mutual
def size : Val → Nat
  | mk _ _ l => sizes l + 4
def sizes : List Val → Nat
  | [] => 0
  | v :: l => size v + sizes l
end
theorem size_pv : ∀ v : Val, v.pv.size = v.size := by
  intro v
  refine Val.rec (motive_1 := fun v => v.pv.size = v.size) (motive_2 := fun l => PV.sizes (pvs l) = sizes l) (fun k b l ih => ?_) rfl (fun a l h1 h2 => ?_) v
  · simp only [pv, PV.size, PV.sizes, size, ih]; omega
  · simp only [pvs, PV.sizes, sizes, h1, h2]
theorem sizes_pvs (l : List Val) : PV.sizes (pvs l) = sizes l := by
  induction l with
  | nil => rfl
  | cons v l ih => simp only [pvs, PV.sizes, sizes, size_pv, ih]
theorem size_le_of_mem {v : Val} : ∀ {l : List Val}, v ∈ l → v.size ≤ sizes l
  | [], h => by cases h
  | a :: l, h => by
    simp only [sizes]
    rcases List.mem_cons.1 h with rfl | h
    · omega
    · have := size_le_of_mem h; omega
theorem length_le_sizes : ∀ l : List Val, l.length ≤ sizes l
  | [] => by simp
  | a :: l => by have := length_le_sizes l; cases a; simp only [sizes, size, List.length_cons]; omega
end Val

/-- What can be read as a value is one. -/
theorem val_of_rd {w : World} {M : Nat → Prop} {t : TypeId} {p : PV} {cs : List Value} (h : Rd Try.prog w M t p cs) :
    (t = 30 → ∃ v : Val, p = v.pv ∧ v.Ok) ∧ (t = 28 → ∃ l : List Val, p = .list (l.map Val.pv) ∧ Val.Oks l) := by
  induction h with
  | @struct t fs l cs hu ht hl hc hf ih =>
    refine ⟨fun e => ?_, fun e => ?_⟩
    · subst e
      rw [Try.underlying30] at hu
      injection hu with hu; injection hu with hu; subst hu
      match l, hl with
      | [a, b, c], _ =>
        obtain ⟨n, rfl, hn⟩ := cells_int Try.underlying3 (hf 0 _ a rfl rfl)
        obtain ⟨m, rfl, hm⟩ := cells_int Try.underlying5 (hf 1 _ b rfl rfl)
        obtain ⟨l, rfl, hl⟩ := (ih 2 _ c rfl rfl).2 rfl
        exact ⟨.mk n m l, by simp [Val.pv, Val.pvs_eq], wf_i64 hn, wf_u8 hm, hl⟩
    · subst e; rw [Try.underlying28] at hu; cases hu
  | @slice t e a n c l cs hu hl hn hc hcs hf ih =>
    refine ⟨fun e => ?_, fun e => ?_⟩
    · subst e; rw [Try.underlying30] at hu; cases hu
    · subst e
      rw [Try.underlying28] at hu
      injection hu with hu; injection hu with hu; subst hu
      have : ∀ p ∈ l, ∃ v : Val, p = v.pv ∧ v.Ok := by
        intro p hp
        obtain ⟨i, hi⟩ := List.getElem?_of_mem hp
        exact (ih i p hi).1 rfl
      clear hl hn hc hcs hf ih
      induction l with
      | nil => exact ⟨[], rfl, trivial⟩
      | cons p l ih =>
        obtain ⟨v, rfl, hv⟩ := this p (by simp)
        obtain ⟨vs, h1, h2⟩ := ih (fun p hp => this p (by simp [hp]))
        injection h1 with h1
        exact ⟨v :: vs, by simp [h1], hv, h2⟩
  | nilSlice hu => exact ⟨fun e => (by subst e; rw [Try.underlying30] at hu; cases hu), fun _ => ⟨[], rfl, trivial⟩⟩
  | int hu => exact ⟨fun e => (by subst e; rw [Try.underlying30] at hu; cases hu), fun e => (by subst e; rw [Try.underlying28] at hu; cases hu)⟩
  | bool hu => exact ⟨fun e => (by subst e; rw [Try.underlying30] at hu; cases hu), fun e => (by subst e; rw [Try.underlying28] at hu; cases hu)⟩
  | str hu => exact ⟨fun e => (by subst e; rw [Try.underlying30] at hu; cases hu), fun e => (by subst e; rw [Try.underlying28] at hu; cases hu)⟩
  | flt hu => exact ⟨fun e => (by subst e; rw [Try.underlying30] at hu; cases hu), fun e => (by subst e; rw [Try.underlying28] at hu; cases hu)⟩
  | nilPtr hu => exact ⟨fun e => (by subst e; rw [Try.underlying30] at hu; cases hu), fun e => (by subst e; rw [Try.underlying28] at hu; cases hu)⟩
  | ref hu => exact ⟨fun e => (by subst e; rw [Try.underlying30] at hu; cases hu), fun e => (by subst e; rw [Try.underlying28] at hu; cases hu)⟩
  | nilIface hu => exact ⟨fun e => (by subst e; rw [Try.underlying30] at hu; cases hu), fun e => (by subst e; rw [Try.underlying28] at hu; cases hu)⟩
  | arr hu => exact ⟨fun e => (by subst e; rw [Try.underlying30] at hu; cases hu), fun e => (by subst e; rw [Try.underlying28] at hu; cases hu)⟩

end Go.Proofs.Ytbellpoahhhmhaa
