/- The interpreter X, part 44: enough fuel; loops that count up; numbers. -/
import Derived.Test.YtbmhbnkejgjfdaaX43
namespace Go.X
open Go

/-- From some fuel on. -/
def Ult (p : Nat → Prop) : Prop := ∃ k0, ∀ k, k0 ≤ k → p k
theorem Ult.of {p : Nat → Prop} (h : ∀ k, p k) : Ult p := ⟨0, fun k _ => h k⟩
theorem Ult.mono {p q : Nat → Prop} (h : Ult p) (hpq : ∀ k, p k → q k) : Ult q := h.imp fun _ g k hk => hpq k (g k hk)
theorem Ult.and {p q : Nat → Prop} (h : Ult p) (g : Ult q) : Ult fun k => p k ∧ q k := by
  obtain ⟨a, ha⟩ := h
  obtain ⟨b, hb⟩ := g
  exact ⟨max a b, fun k hk => ⟨ha k (by omega), hb k (by omega)⟩⟩
theorem Ult.ge (n : Nat) : Ult fun k => n ≤ k := ⟨n, fun _ h => h⟩
theorem Ult.succ {p : Nat → Prop} (h : Ult fun k => p (k + 1)) : Ult p := by
  obtain ⟨a, ha⟩ := h
  refine ⟨a + 1, fun k hk => ?_⟩
  obtain ⟨m, rfl⟩ : ∃ m, k = m + 1 := ⟨k - 1, by omega⟩
  exact ha m (by omega)
theorem Ult.forall_mem {α : Type} {p : α → Nat → Prop} : ∀ {l : List α}, (∀ x ∈ l, Ult (p x)) → Ult fun k => ∀ x ∈ l, p x k
  | [], _ => Ult.of fun k x hx => by cases hx
  | a :: l, h => by
    refine ((h a (by simp)).and (Ult.forall_mem (l := l) fun x hx => h x (by simp [hx]))).mono fun k hk x hx => ?_
    rcases List.mem_cons.1 hx with rfl | hx
    · exact hk.1
    · exact hk.2 x hx
theorem Ult.get {p : Nat → Prop} (h : Ult p) : ∃ k, p k := by
  obtain ⟨a, ha⟩ := h
  exact ⟨a, ha a (Nat.le_refl _)⟩

/-- A loop that counts up to N: what it comes to from each place on. -/
theorem loopR_up {body : (Int → R) → Int → R} {res : Nat → R} (N : Nat) (hN : ∀ nx, body nx (N : Int) = res N) (h : ∀ i : Nat, i < N → ∀ nx, nx ((i + 1 : Nat) : Int) = res (i + 1) → body nx (i : Int) = res i) :
    ∀ (n i : Nat), i ≤ N → N < n + i → loopR body n (i : Int) = res i
  | 0, i, h1, h2 => by omega
  | n + 1, i, h1, h2 => by
    unfold loopR
    by_cases hi : i = N
    · subst hi; exact hN _
    · exact h i (by omega) _ (loopR_up N hN h n (i + 1) (by omega) (by omega))
/-- The like with more that is carried. -/
theorem loopR_upE {S A : Type} {body : (S → R) → S → R} (st : Nat → A → S) {res : Nat → A → R} (N : Nat) (hN : ∀ nx a, body nx (st N a) = res N a)
    (h : ∀ i : Nat, i < N → ∀ nx a, (∀ a, nx (st (i + 1) a) = res (i + 1) a) → body nx (st i a) = res i a) :
    ∀ (n i : Nat) (a : A), i ≤ N → N < n + i → loopR body n (st i a) = res i a
  | 0, i, a, h1, h2 => by omega
  | n + 1, i, a, h1, h2 => by
    unfold loopR
    by_cases hi : i = N
    · subst hi; exact hN _ _
    · exact h i (by omega) _ a fun a => loopR_upE st N hN h n (i + 1) a (by omega) (by omega)

theorem wrap_i64 {n : Int} (h1 : -9223372036854775808 ≤ n) (h2 : n < 9223372036854775808) : IntKind.wrap .i64 n = n := by
  simp only [IntKind.wrap, IntKind.signed, IntKind.bits, Bool.true_and]
  split <;> rename_i h <;> simp at h <;> omega
theorem wf_i64 {n : Int} (h : (Lit.int .i64 n).wf = true) : -9223372036854775808 ≤ n ∧ n < 9223372036854775808 := by
  simp [Lit.wf, IntKind.min, IntKind.max, IntKind.signed, IntKind.bits] at h
  omega
theorem wf_u8 {n : Int} (h : (Lit.int .u8 n).wf = true) : 0 ≤ n ∧ n < 256 := by
  simp [Lit.wf, IntKind.min, IntKind.max, IntKind.signed, IntKind.bits] at h
  omega
theorem roomy_of {n b : Nat} (h1 : n * b ≤ 35184372088832) (h2 : n ≤ 35184372088832) : roomy n b = true := by simp [roomy, h1, h2]

end Go.X
