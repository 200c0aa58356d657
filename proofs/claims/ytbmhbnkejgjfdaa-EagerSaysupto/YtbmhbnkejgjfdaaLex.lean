/- The order of texts. -/
import Derived.Test.YtbmhbnkejgjfdaaXC
set_option linter.unusedSimpArgs false
namespace Go.X
open Go

theorem lexLt_C : ∀ a b : List Int, lexLt a b = decide (lexC a b = -1)
  | [], [] => rfl
  | [], _ :: _ => rfl
  | _ :: _, [] => rfl
  | a :: x, b :: y => by
    have ih := lexLt_C x y
    simp only [lexLt, lexC]
    by_cases h1 : a < b
    · simp [h1]
    · by_cases h2 : b < a
      · simp [h1, h2, show a ≠ b by omega]
      · simp [h1, h2, show a = b by omega, ih]
theorem lexC_zero : ∀ a b : List Int, lexC a b = 0 ↔ a = b
  | [], [] => by simp [lexC]
  | [], _ :: _ => by simp [lexC]
  | _ :: _, [] => by simp [lexC]
  | a :: x, b :: y => by
    have ih := lexC_zero x y
    simp only [lexC, List.cons.injEq]
    by_cases h1 : a < b
    · simp [h1]; omega
    · by_cases h2 : b < a
      · simp [h1, h2]; omega
      · simp [h1, h2, ih]; omega
theorem lexC_neg : ∀ a b : List Int, lexC b a = -lexC a b
  | [], [] => rfl
  | [], _ :: _ => rfl
  | _ :: _, [] => rfl
  | a :: x, b :: y => by
    have ih := lexC_neg x y
    simp only [lexC]
    by_cases h1 : a < b
    · simp [h1, show ¬ b < a by omega]
    · by_cases h2 : b < a
      · simp [h1, h2]
      · simp [h1, h2, ih]
theorem lexC_app : ∀ p x y : List Int, lexC (p ++ x) (p ++ y) = lexC x y
  | [], _, _ => rfl
  | a :: p, x, y => by simp only [List.cons_append, lexC, Int.lt_irrefl, if_false, lexC_app p x y]
theorem lexC_cons (a : Int) (x y : List Int) : lexC (a :: x) (a :: y) = lexC x y := lexC_app [a] x y
/-- Through a third one. -/
theorem lexC_tr : ∀ a b c : List Int, (lexC a b ≤ 0 → lexC b c ≤ 0 → lexC a c ≤ 0) ∧ (lexC a b < 0 → lexC b c ≤ 0 → lexC a c < 0) ∧ (lexC a b ≤ 0 → lexC b c < 0 → lexC a c < 0)
  | [], [], [] => by simp [lexC]
  | [], [], _ :: _ => by simp [lexC]
  | [], _ :: _, [] => by simp [lexC]
  | [], _ :: _, _ :: _ => by simp [lexC]
  | _ :: _, [], [] => by simp [lexC]
  | _ :: _, [], _ :: _ => by simp [lexC]
  | _ :: _, _ :: _, [] => by simp [lexC]
  | a :: x, b :: y, c :: z => by
    have ih := lexC_tr x y z
    simp only [lexC]
    by_cases h1 : a < b
    · by_cases h2 : b < c
      · simp [h1, h2, show a < c by omega]
      · by_cases h3 : c < b
        · simp [h1, h2, h3]
        · simp [h1, show b = c by omega]; subst_vars; simp [show a < c by omega]
    · by_cases h2 : b < a
      · simp [h1, h2]
      · have : a = b := by omega
        subst this
        by_cases h3 : a < c
        · simp [h3]
        · by_cases h4 : c < a
          · simp [h3, h4]
          · simpa [h3, h4] using ih
/-- Where two texts are first unlike; -1: nowhere. -/
def apart : List Int → List Int → Int
  | [], [] => -1
  | [], _ :: _ => 0
  | _ :: _, [] => 0
  | a :: x, b :: y => if a = b then (if apart x y = -1 then -1 else apart x y + 1) else 0
theorem apart_ge : ∀ a b, -1 ≤ apart a b
  | [], [] => by simp [apart]
  | [], _ :: _ => by simp [apart]
  | _ :: _, [] => by simp [apart]
  | a :: x, b :: y => by have := apart_ge x y; simp only [apart]; split <;> (try split) <;> omega
theorem apart_eq : ∀ a b, apart a b = -1 ↔ a = b
  | [], [] => by simp [apart]
  | [], _ :: _ => by simp [apart]
  | _ :: _, [] => by simp [apart]
  | a :: x, b :: y => by
    have ih := apart_eq x y
    have := apart_ge x y
    simp only [apart, List.cons.injEq]
    by_cases h : a = b
    · by_cases h2 : apart x y = -1
      · rw [if_pos h, if_pos h2]; exact ⟨fun _ => ⟨h, ih.1 h2⟩, fun _ => rfl⟩
      · simp only [h, if_true, if_neg h2, true_and]
        constructor
        · intro; omega
        · intro e; exact absurd (ih.2 e) h2
    · simp [h]
theorem apart_le : ∀ a b, apart a b ≤ a.length ∧ apart a b ≤ b.length
  | [], [] => by simp [apart]
  | [], _ :: _ => by simp [apart]; omega
  | _ :: _, [] => by simp [apart]; omega
  | a :: x, b :: y => by
    have := apart_le x y
    simp only [apart, List.length_cons]
    split <;> (try split) <;> omega
/-- From a place on. -/
def apartF (a b : List Int) (i : Nat) : Int := if apart (a.drop i) (b.drop i) = -1 then -1 else i + apart (a.drop i) (b.drop i)
theorem apartF_zero (a b : List Int) : apartF a b 0 = apart a b := by
  unfold apartF
  simp only [List.drop_zero]
  split
  · rename_i h; rw [h]
  · simp
theorem apartF_step {a b : List Int} {i : Nat} (h1 : i < a.length) (h2 : i < b.length) : apartF a b i = if a[i] = b[i] then apartF a b (i + 1) else (i : Int) := by
  unfold apartF
  rw [List.drop_eq_getElem_cons h1, List.drop_eq_getElem_cons h2, apart]
  have := apart_ge (a.drop (i + 1)) (b.drop (i + 1))
  by_cases h : a[i] = b[i]
  · simp only [if_pos h]
    by_cases h3 : apart (a.drop (i + 1)) (b.drop (i + 1)) = -1
    · simp [h3]
    · simp only [if_neg h3]
      rw [if_neg (by omega)]
      omega
  · simp only [if_neg h]
    simp
theorem apartF_end {a b : List Int} : apartF a b (min a.length b.length) = if a.length = b.length then (-1 : Int) else ((min a.length b.length : Nat) : Int) := by
  unfold apartF
  rcases Nat.lt_trichotomy a.length b.length with h | h | h
  · rw [show min a.length b.length = a.length by omega, List.drop_length, List.drop_eq_getElem_cons h]
    have h' : ¬ a.length = b.length := by omega
    simp [apart, h']
  · rw [if_pos h, show min a.length b.length = a.length by omega, List.drop_length, h, List.drop_length]
    simp [apart]
  · rw [show min a.length b.length = b.length by omega, List.drop_length, List.drop_eq_getElem_cons h]
    have h' : ¬ a.length = b.length := by omega
    simp [apart, h']
end Go.X
