/- Cores of package core, as data. -/
import Derived.Test.YtmdlhnojpcnnbaaSetRd
namespace Go.Proofs.Ytmdlhnojpcnnbaa
open Go Go.X

inductive Cor where
  | mk (k : Int) (s : Nat) (n : Int) (l : List Cor)
namespace Cor
@[reducible] def kind : Cor → Int | mk k _ _ _ => k
@[reducible] def set : Cor → Nat | mk _ s _ _ => s
@[reducible] def num : Cor → Int | mk _ _ n _ => n
@[reducible] def kidl : Cor → List Cor | mk _ _ _ l => l
mutual
def pv : Cor → PV
  | mk k s n l => .agg [.int k, bs s, .int n, .list (pvs l)]
def pvs : List Cor → List PV
  | [] => []
  | v :: l => pv v :: pvs l
end
theorem pvs_eq : ∀ l : List Cor, pvs l = l.map pv
  | [] => rfl
  | v :: l => by simp [pvs, pvs_eq l]
@[simp] theorem fld0 (v : Cor) : PV.fld v.pv 0 = .int v.kind := by cases v; rfl
@[simp] theorem fld1 (v : Cor) : PV.fld v.pv 1 = bs v.set := by cases v; rfl
@[simp] theorem fld2 (v : Cor) : PV.fld v.pv 2 = .int v.num := by cases v; rfl
@[simp] theorem fld3 (v : Cor) : PV.fld v.pv 3 = .list (v.kidl.map pv) := by cases v; simp [pv, PV.fld, PV.flds, kidl, pvs_eq]

mutual
def Ok : Cor → Prop
  | mk k s n l => (-9223372036854775808 ≤ k ∧ k < 9223372036854775808) ∧ s < 2 ^ 256 ∧ (-9223372036854775808 ≤ n ∧ n < 9223372036854775808) ∧ Oks l
def Oks : List Cor → Prop
  | [] => True
  | v :: l => Ok v ∧ Oks l
end
theorem oks_iff : ∀ l : List Cor, Oks l ↔ ∀ v ∈ l, v.Ok
  | [] => by simp [Oks]
  | v :: l => by simp [Oks, oks_iff l]
theorem Ok.kid {v x : Cor} (h : v.Ok) (hx : x ∈ v.kidl) : x.Ok := by
  cases v with
  | mk k s n l => exact (oks_iff l).1 h.2.2.2 x hx
theorem Ok.set {v : Cor} (h : v.Ok) : v.set < 2 ^ 256 := by
  cases v with
  | mk k s n l => exact h.2.1

theorem ind {p : Cor → Prop} (h : ∀ k s n l, (∀ v ∈ l, p v) → p (mk k s n l)) (v : Cor) : p v :=
  Cor.rec (motive_1 := p) (motive_2 := fun l => ∀ v ∈ l, p v) (fun k s n l ih => h k s n l ih) (fun v hv => by cases hv) (fun a l h1 h2 v hv => by
    rcases List.mem_cons.1 hv with rfl | hv
    · exact h1
    · exact h2 v hv) v

mutual
def size : Cor → Nat
  | mk _ _ _ l => sizes l + 9
def sizes : List Cor → Nat
  | [] => 0
  | v :: l => size v + sizes l
end
theorem size_bs (n : Nat) : (bs n).size = 5 := rfl
theorem size_pv : ∀ v : Cor, v.pv.size = v.size := by
  intro v
  refine Cor.rec (motive_1 := fun v => v.pv.size = v.size) (motive_2 := fun l => PV.sizes (pvs l) = sizes l) (fun k s n l ih => ?_) rfl (fun a l h1 h2 => ?_) v
  · simp only [pv, PV.size, PV.sizes, size, ih, size_bs]; omega
  · simp only [pvs, PV.sizes, sizes, h1, h2]
theorem size_le_of_mem {v : Cor} : ∀ {l : List Cor}, v ∈ l → v.size ≤ sizes l
  | [], h => by cases h
  | a :: l, h => by
    simp only [sizes]
    rcases List.mem_cons.1 h with rfl | h
    · omega
    · have := size_le_of_mem h; omega
theorem length_le_sizes : ∀ l : List Cor, l.length ≤ sizes l
  | [] => by simp
  | a :: l => by have := length_le_sizes l; cases a; simp only [sizes, size, List.length_cons]; omega
def Sm (v : Cor) : Prop := v.size ≤ 274877906944
theorem Sm.kid {v x : Cor} (h : v.Sm) (hx : x ∈ v.kidl) : x.Sm := by
  cases v with
  | mk k s n l => have := size_le_of_mem (l := l) hx; simp only [Sm, size] at h ⊢; omega
theorem Sm.length {v : Cor} (h : v.Sm) : v.kidl.length ≤ 274877906944 := by
  cases v with
  | mk k s n l => have := length_le_sizes l; simp only [Sm, size] at h; simp only [kidl]; omega
end Cor

theorem cor_of_rd {w : World} {M : Nat → Prop} {t : TypeId} {p : PV} {cs : List Value} (h : Rd Try.prog w M t p cs) :
    (t = 28 → ∃ v : Cor, p = v.pv ∧ v.Ok) ∧ (t = 26 → ∃ l : List Cor, p = .list (l.map Cor.pv) ∧ Cor.Oks l) := by
  induction h with
  | @struct t fs l cs hu ht hl hc hf ih =>
    refine ⟨fun e => ?_, fun e => ?_⟩
    · subst e
      rw [Try.underlying28] at hu
      injection hu with hu; injection hu with hu; subst hu
      match l, hl with
      | [a, b, c, d], _ =>
        obtain ⟨k, rfl, hk⟩ := cells_int Try.underlying3 (hf 0 _ a rfl rfl)
        obtain ⟨s, rfl, hs⟩ := set_of_rd (hf 1 _ b rfl rfl) rfl
        obtain ⟨n, rfl, hn⟩ := cells_int Try.underlying3 (hf 2 _ c rfl rfl)
        obtain ⟨l, rfl, hl⟩ := (ih 3 _ d rfl rfl).2 rfl
        exact ⟨.mk k s n l, by simp [Cor.pv, Cor.pvs_eq], wf_i64 hk, hs, wf_i64 hn, hl⟩
    · subst e; rw [Try.underlying26] at hu; cases hu
  | @slice t e a n c l cs hu hl hn hc hcs hf ih =>
    refine ⟨fun e => ?_, fun e => ?_⟩
    · subst e; rw [Try.underlying28] at hu; cases hu
    · subst e
      rw [Try.underlying26] at hu
      injection hu with hu; injection hu with hu; subst hu
      have : ∀ p ∈ l, ∃ v : Cor, p = v.pv ∧ v.Ok := by
        intro p hp
        obtain ⟨i, hi⟩ := List.getElem?_of_mem hp
        exact (ih i p hi).1 rfl
      clear hl hn hc hcs hf ih
      induction l with
      | nil => exact ⟨[], rfl, trivial⟩
      | cons p l ih =>
        obtain ⟨v, rfl, hv⟩ := this p (by simp)
        obtain ⟨vs, h1, h2⟩ := ih (fun p hp => this p (by simp [hp]))
        injection h1 with h1
        exact ⟨v :: vs, by simp [h1], hv, h2⟩
  | nilSlice hu => exact ⟨fun e => (by subst e; rw [Try.underlying28] at hu; cases hu), fun _ => ⟨[], rfl, trivial⟩⟩
  | int hu => exact ⟨fun e => (by subst e; rw [Try.underlying28] at hu; cases hu), fun e => (by subst e; rw [Try.underlying26] at hu; cases hu)⟩
  | bool hu => exact ⟨fun e => (by subst e; rw [Try.underlying28] at hu; cases hu), fun e => (by subst e; rw [Try.underlying26] at hu; cases hu)⟩
  | str hu => exact ⟨fun e => (by subst e; rw [Try.underlying28] at hu; cases hu), fun e => (by subst e; rw [Try.underlying26] at hu; cases hu)⟩
  | flt hu => exact ⟨fun e => (by subst e; rw [Try.underlying28] at hu; cases hu), fun e => (by subst e; rw [Try.underlying26] at hu; cases hu)⟩
  | nilPtr hu => exact ⟨fun e => (by subst e; rw [Try.underlying28] at hu; cases hu), fun e => (by subst e; rw [Try.underlying26] at hu; cases hu)⟩
  | ref hu => exact ⟨fun e => (by subst e; rw [Try.underlying28] at hu; cases hu), fun e => (by subst e; rw [Try.underlying26] at hu; cases hu)⟩
  | nilIface hu => exact ⟨fun e => (by subst e; rw [Try.underlying28] at hu; cases hu), fun e => (by subst e; rw [Try.underlying26] at hu; cases hu)⟩
  | arr hu => exact ⟨fun e => (by subst e; rw [Try.underlying28] at hu; cases hu), fun e => (by subst e; rw [Try.underlying26] at hu; cases hu)⟩

end Go.Proofs.Ytmdlhnojpcnnbaa
