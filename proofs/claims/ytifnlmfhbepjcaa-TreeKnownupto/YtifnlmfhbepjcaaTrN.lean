/- Nodes of package tree, as data. -/
import Derived.Test.YtifnlmfhbepjcaaSetRd
set_option linter.unusedSimpArgs false
set_option linter.unusedVariables false
namespace Go.Proofs.Ytifnlmfhbepjcaa
open Go Go.X

def inI (n : Int) : Prop := -9223372036854775808 ≤ n ∧ n < 9223372036854775808
inductive Nd where
  | mk (k : Int) (s : Nat) (lo hi n : Int) (l : List Nd)
namespace Nd
@[reducible] def kind : Nd → Int | mk k _ _ _ _ _ => k
@[reducible] def set : Nd → Nat | mk _ s _ _ _ _ => s
@[reducible] def lo : Nd → Int | mk _ _ a _ _ _ => a
@[reducible] def hi : Nd → Int | mk _ _ _ b _ _ => b
@[reducible] def num : Nd → Int | mk _ _ _ _ n _ => n
@[reducible] def kidl : Nd → List Nd | mk _ _ _ _ _ l => l
mutual
def pv : Nd → PV
  | mk k s a b n l => .agg [.int k, bs s, .int a, .int b, .int n, .list (pvs l)]
def pvs : List Nd → List PV
  | [] => []
  | v :: l => pv v :: pvs l
end
theorem pvs_eq : ∀ l : List Nd, pvs l = l.map pv
  | [] => rfl
  | v :: l => by simp [pvs, pvs_eq l]
theorem pv_mk (k : Int) (s : Nat) (a b n : Int) (l : List Nd) : (mk k s a b n l).pv = .agg [.int k, bs s, .int a, .int b, .int n, .list (l.map pv)] := by rw [pv, pvs_eq]
@[simp] theorem fld0 (v : Nd) : PV.fld v.pv 0 = .int v.kind := by cases v; rfl
@[simp] theorem fld1 (v : Nd) : PV.fld v.pv 1 = bs v.set := by cases v; rfl
@[simp] theorem fld2 (v : Nd) : PV.fld v.pv 2 = .int v.lo := by cases v; rfl
@[simp] theorem fld3 (v : Nd) : PV.fld v.pv 3 = .int v.hi := by cases v; rfl
@[simp] theorem fld4 (v : Nd) : PV.fld v.pv 4 = .int v.num := by cases v; rfl
@[simp] theorem fld5 (v : Nd) : PV.fld v.pv 5 = .list (v.kidl.map pv) := by cases v; simp [pv, PV.fld, PV.flds, kidl, pvs_eq]

mutual
/-- In their types' ranges. -/
def Ok : Nd → Prop
  | mk k s a b n l => inI k ∧ s < 2 ^ 256 ∧ inI a ∧ inI b ∧ inI n ∧ Oks l
def Oks : List Nd → Prop
  | [] => True
  | v :: l => Ok v ∧ Oks l
end
theorem oks_iff : ∀ l : List Nd, Oks l ↔ ∀ v ∈ l, v.Ok
  | [] => by simp [Oks]
  | v :: l => by simp [Oks, oks_iff l]
theorem ok_mk {k : Int} {s : Nat} {a b n : Int} {l : List Nd} : (mk k s a b n l).Ok ↔ inI k ∧ s < 2 ^ 256 ∧ inI a ∧ inI b ∧ inI n ∧ ∀ v ∈ l, v.Ok := by rw [Ok, oks_iff]
theorem Ok.kid {v x : Nd} (h : v.Ok) (hx : x ∈ v.kidl) : x.Ok := by
  cases v with
  | mk k s a b n l => exact (ok_mk.1 h).2.2.2.2.2 x hx
theorem Ok.set {v : Nd} (h : v.Ok) : v.set < 2 ^ 256 := by
  cases v with
  | mk k s a b n l => exact (ok_mk.1 h).2.1

theorem ind {p : Nd → Prop} (h : ∀ k s a b n l, (∀ v ∈ l, p v) → p (mk k s a b n l)) (v : Nd) : p v :=
  Nd.rec (motive_1 := p) (motive_2 := fun l => ∀ v ∈ l, p v) (fun k s a b n l ih => h k s a b n l ih) (fun v hv => by cases hv) (fun a l h1 h2 v hv => by
    rcases List.mem_cons.1 hv with rfl | hv
    · exact h1
    · exact h2 v hv) v

mutual
def size : Nd → Nat
  | mk _ _ _ _ _ l => sizes l + 12
def sizes : List Nd → Nat
  | [] => 0
  | v :: l => size v + sizes l
end
theorem size_bs (n : Nat) : (bs n).size = 5 := rfl
theorem size_pv : ∀ v : Nd, v.pv.size ≤ v.size ∧ v.size ≤ v.pv.size + v.pv.size := by
  intro v
  refine Nd.rec (motive_1 := fun v => v.pv.size ≤ v.size ∧ v.size ≤ v.pv.size + v.pv.size) (motive_2 := fun l => PV.sizes (pvs l) ≤ sizes l ∧ sizes l ≤ PV.sizes (pvs l) + PV.sizes (pvs l)) (fun k s a b n l ih => ?_) (by simp [pvs, PV.sizes, sizes]) (fun a l h1 h2 => ?_) v
  · simp only [pv, PV.size, PV.sizes, size, size_bs]; omega
  · simp only [pvs, PV.sizes, sizes]; omega
theorem size_le_of_mem {v : Nd} : ∀ {l : List Nd}, v ∈ l → v.size ≤ sizes l
  | [], h => by cases h
  | a :: l, h => by
    simp only [sizes]
    rcases List.mem_cons.1 h with rfl | h
    · omega
    · have := size_le_of_mem h; omega
theorem length_le_sizes : ∀ l : List Nd, l.length ≤ sizes l
  | [] => by simp
  | a :: l => by have := length_le_sizes l; cases a; simp only [sizes, size, List.length_cons]; omega
/-- Of no more than may be. -/
def Sm (v : Nd) : Prop := v.size ≤ 274877906944
theorem Sm.kid {v x : Nd} (h : v.Sm) (hx : x ∈ v.kidl) : x.Sm := by
  cases v with
  | mk k s a b n l => have := size_le_of_mem (l := l) hx; simp only [Sm, size] at h ⊢; omega
theorem Sm.length {v : Nd} (h : v.Sm) : v.kidl.length ≤ 274877906944 := by
  cases v with
  | mk k s a b n l => have := length_le_sizes l; simp only [Sm, size] at h; simp only [kidl]; omega
end Nd

/-- What can be read as a node is one. -/
theorem nd_of_rd {w : World} {M : Nat → Prop} {t : TypeId} {p : PV} {cs : List Value} (h : Rd Try.prog w M t p cs) :
    (t = 70 → ∃ v : Nd, p = v.pv ∧ v.Ok) ∧ (t = 68 → ∃ l : List Nd, p = .list (l.map Nd.pv) ∧ ∀ v ∈ l, v.Ok) := by
  induction h with
  | @struct t fs l cs hu ht hl hc hf ih =>
    refine ⟨fun e => ?_, fun e => ?_⟩
    · subst e
      rw [Try.underlying70] at hu
      injection hu with hu; injection hu with hu; subst hu
      match l, hl with
      | [a, b, c, d, e, f], _ =>
        obtain ⟨k, rfl, hk⟩ := cells_int Try.underlying3 (hf 0 _ a rfl rfl)
        obtain ⟨s, rfl, hs⟩ := set_of_rd (hf 1 _ b rfl rfl) rfl
        obtain ⟨x, rfl, hx⟩ := cells_int Try.underlying3 (hf 2 _ c rfl rfl)
        obtain ⟨y, rfl, hy⟩ := cells_int Try.underlying3 (hf 3 _ d rfl rfl)
        obtain ⟨n, rfl, hn⟩ := cells_int Try.underlying3 (hf 4 _ e rfl rfl)
        obtain ⟨l, rfl, hl⟩ := (ih 5 _ f rfl rfl).2 rfl
        exact ⟨.mk k s x y n l, by rw [Nd.pv_mk], Nd.ok_mk.2 ⟨wf_i64 hk, hs, wf_i64 hx, wf_i64 hy, wf_i64 hn, hl⟩⟩
    · subst e; rw [Try.underlying68] at hu; cases hu
  | @slice t e a n c l cs hu hl hn hc hcs hf ih =>
    refine ⟨fun e => ?_, fun e => ?_⟩
    · subst e; rw [Try.underlying70] at hu; cases hu
    · subst e
      rw [Try.underlying68] at hu
      injection hu with hu; injection hu with hu; subst hu
      have : ∀ p ∈ l, ∃ v : Nd, p = v.pv ∧ v.Ok := by
        intro p hp
        obtain ⟨i, hi⟩ := List.getElem?_of_mem hp
        exact (ih i p hi).1 rfl
      clear hl hn hc hcs hf ih
      induction l with
      | nil => exact ⟨[], rfl, by simp⟩
      | cons p l ih =>
        obtain ⟨v, rfl, hv⟩ := this p (by simp)
        obtain ⟨vs, h1, h2⟩ := ih (fun p hp => this p (by simp [hp]))
        injection h1 with h1
        refine ⟨v :: vs, by simp [h1], fun z hz => ?_⟩
        rcases List.mem_cons.1 hz with rfl | hz
        · exact hv
        · exact h2 z hz
  | nilSlice hu => exact ⟨fun e => (by subst e; rw [Try.underlying70] at hu; cases hu), fun _ => ⟨[], rfl, by simp⟩⟩
  | int hu => exact ⟨fun e => (by subst e; rw [Try.underlying70] at hu; cases hu), fun e => (by subst e; rw [Try.underlying68] at hu; cases hu)⟩
  | bool hu => exact ⟨fun e => (by subst e; rw [Try.underlying70] at hu; cases hu), fun e => (by subst e; rw [Try.underlying68] at hu; cases hu)⟩
  | str hu => exact ⟨fun e => (by subst e; rw [Try.underlying70] at hu; cases hu), fun e => (by subst e; rw [Try.underlying68] at hu; cases hu)⟩
  | flt hu => exact ⟨fun e => (by subst e; rw [Try.underlying70] at hu; cases hu), fun e => (by subst e; rw [Try.underlying68] at hu; cases hu)⟩
  | nilPtr hu => exact ⟨fun e => (by subst e; rw [Try.underlying70] at hu; cases hu), fun e => (by subst e; rw [Try.underlying68] at hu; cases hu)⟩
  | ref hu => exact ⟨fun e => (by subst e; rw [Try.underlying70] at hu; cases hu), fun e => (by subst e; rw [Try.underlying68] at hu; cases hu)⟩
  | nilIface hu => exact ⟨fun e => (by subst e; rw [Try.underlying70] at hu; cases hu), fun e => (by subst e; rw [Try.underlying68] at hu; cases hu)⟩
  | arr hu => exact ⟨fun e => (by subst e; rw [Try.underlying70] at hu; cases hu), fun e => (by subst e; rw [Try.underlying68] at hu; cases hu)⟩

/-- A whole pattern. -/
structure Pat where
  st : Bool
  en : Bool
  root : Nd
  g : Int
def Pat.pv (q : Pat) : PV := .agg [.bool q.st, .bool q.en, q.root.pv, .int q.g]
def Pat.Ok (q : Pat) : Prop := q.root.Ok ∧ inI q.g
theorem cells_bool {w : World} {M : Nat → Prop} {t : TypeId} {p : PV} {cs : List Value} (hu : Try.prog.underlying t = some .bool) (h : Rd Try.prog w M t p cs) : ∃ b, p = .bool b := by
  cases h with
  | bool h1 => exact ⟨_, rfl⟩
  | int h1 => rw [hu] at h1; cases h1
  | str h1 => rw [hu] at h1; cases h1
  | flt h1 => rw [hu] at h1; cases h1
  | nilSlice h1 => rw [hu] at h1; cases h1
  | slice h1 => rw [hu] at h1; cases h1
  | nilPtr h1 => rw [hu] at h1; cases h1
  | ref h1 => rw [hu] at h1; cases h1
  | nilIface h1 => rw [hu] at h1; cases h1
  | struct h1 => rw [hu] at h1; cases h1
  | arr h1 => rw [hu] at h1; cases h1
theorem pat_of_rd {w : World} {M : Nat → Prop} {t : TypeId} {p : PV} {cs : List Value} (h : Rd Try.prog w M t p cs) (ht : t = 74) : ∃ q : Pat, p = q.pv ∧ q.Ok := by
  cases h with
  | @struct t fs l cs hu _ hl hc hf =>
    subst ht
    rw [Try.underlying74] at hu
    injection hu with hu; injection hu with hu; subst hu
    match l, hl with
    | [a, b, c, d], _ =>
      obtain ⟨x, rfl⟩ := cells_bool Try.underlying4 (hf 0 _ a rfl rfl)
      obtain ⟨y, rfl⟩ := cells_bool Try.underlying4 (hf 1 _ b rfl rfl)
      obtain ⟨v, rfl, hv⟩ := (nd_of_rd (hf 2 _ c rfl rfl)).1 rfl
      obtain ⟨n, rfl, hn⟩ := cells_int Try.underlying3 (hf 3 _ d rfl rfl)
      exact ⟨⟨x, y, v, n⟩, rfl, hv, wf_i64 hn⟩
  | int h1 => subst ht; rw [Try.underlying74] at h1; cases h1
  | bool h1 => subst ht; rw [Try.underlying74] at h1; cases h1
  | str h1 => subst ht; rw [Try.underlying74] at h1; cases h1
  | flt h1 => subst ht; rw [Try.underlying74] at h1; cases h1
  | nilSlice h1 => subst ht; rw [Try.underlying74] at h1; cases h1
  | slice h1 => subst ht; rw [Try.underlying74] at h1; cases h1
  | nilPtr h1 => subst ht; rw [Try.underlying74] at h1; cases h1
  | ref h1 => subst ht; rw [Try.underlying74] at h1; cases h1
  | nilIface h1 => subst ht; rw [Try.underlying74] at h1; cases h1
  | arr h1 => subst ht; rw [Try.underlying74] at h1; cases h1

end Go.Proofs.Ytifnlmfhbepjcaa
