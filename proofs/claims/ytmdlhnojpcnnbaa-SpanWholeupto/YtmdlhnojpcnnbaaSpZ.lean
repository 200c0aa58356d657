/- The value that comes first is of no great size. -/
import Derived.Test.YtmdlhnojpcnnbaaSpN
set_option linter.unusedSimpArgs false
set_option linter.unusedVariables false
set_option maxRecDepth 20000
namespace Go.Proofs.Ytmdlhnojpcnnbaa
open Go Go.X

namespace Cor
theorem items_size {b : Nat → Nat → Val} {sp : Nat → Option Nat} {t A B : Nat} {ok : Nat → Prop} (hsp : ∀ f k, ok f → sp f = some k → f < k ∧ k ≤ t ∧ ok k ∧ (b f k).size ≤ A * (k - f) + B) : ∀ (n f : Nat), ok f → Val.sizes (itemsN b sp t n f) ≤ (A + B) * (t - f)
  | 0, f, _ => by simp [itemsN, Val.sizes]
  | n + 1, f, ho => by
    rw [itemsN]
    split
    · split
      · rename_i k hk
        obtain ⟨h1, h2, h3, h4⟩ := hsp f k ho hk
        have ih := items_size hsp n k h3
        simp only [Val.sizes]
        have e : t - f = (k - f) + (t - k) := by omega
        rw [e, Nat.mul_add]
        have h5 : A * (k - f) + B ≤ (A + B) * (k - f) := by
          rw [Nat.add_mul]
          have : B * 1 ≤ B * (k - f) := Nat.mul_le_mul_left B (by omega)
          omega
        omega
      · simp [Val.sizes]
    · simp [Val.sizes]
theorem sq_mono {a b : Nat} (h : a ≤ b) : 4 * a * a ≤ 4 * b * b := Nat.mul_le_mul (Nat.mul_le_mul_left 4 h) h
theorem best_size (s : List Nat) (c : Cor) : c.fmd = true → ∀ f t, f ≤ s.length → (ends s c f).testBit t = true → (best s c f t).size ≤ 4 * c.cnt * c.cnt * (t - f) + 4 * c.cnt := by
  refine ind (p := fun c => c.fmd = true → ∀ f t, f ≤ s.length → (ends s c f).testBit t = true → (best s c f t).size ≤ 4 * c.cnt * c.cnt * (t - f) + 4 * c.cnt) (fun k st n l ih hfmd f t hf hb => ?_) c
  obtain ⟨hkd, hfk⟩ := kids_of hfmd
  cases hkd with
  | k0 e =>
    have hc : (mk k st n []).cnt = 1 := by simp [cnt, cnts]
    rw [hc]
    rcases e with rfl | rfl | rfl
    · rw [ends0] at hb; simp at hb
    · rw [best1]; simp [Val.size, Val.sizes]
    · rw [best2]; simp [Val.size, Val.sizes]
  | @k1 x e =>
    have hx := ih x (by simp) (hfk x (by simp))
    have hc : (mk k st n [x]).cnt = x.cnt + 1 := by simp [cnt, cnts]; omega
    have hm : 4 * x.cnt * x.cnt * (t - f) ≤ 4 * (x.cnt + 1) * (x.cnt + 1) * (t - f) := Nat.mul_le_mul_right _ (sq_mono (by omega))
    rw [hc]
    rcases e with rfl | rfl | rfl
    · rw [best5]
      simp only [Val.size]
      have := items_size (b := best s x) (sp := fun f => mid s x (mk 5 st n [x]) f (f + 1) t) (t := t) (A := 4 * x.cnt * x.cnt) (B := 4 * x.cnt) (ok := fun f => f ≤ s.length) (fun f k hf hk => by
        obtain ⟨h1, h2, h3, h4⟩ := mid_some hk
        have hkl := (ends_le (hfk x (by simp)) hf h3).2
        exact ⟨by omega, h2, hkl, hx f k hf h3⟩) (t - f) f hf
      have h2 : (4 * x.cnt * x.cnt + 4 * x.cnt) * (t - f) ≤ 4 * (x.cnt + 1) * (x.cnt + 1) * (t - f) := by
        refine Nat.mul_le_mul_right _ ?_
        have : 4 * (x.cnt + 1) * (x.cnt + 1) = 4 * x.cnt * x.cnt + 4 * x.cnt + (4 * x.cnt + 4) := by
          simp only [Nat.mul_add, Nat.add_mul, Nat.mul_one, Nat.one_mul, Nat.add_assoc, Nat.add_comm, Nat.add_left_comm]
        omega
      omega
    · rw [ends67 _ _ _ _ _ _ (.inl rfl)] at hb
      rw [best6]
      have := hx f t hf hb
      simp only [Val.size, Val.sizes]
      omega
    · rw [ends67 _ _ _ _ _ _ (.inr rfl)] at hb
      rw [best7]
      have := hx f t hf hb
      omega
  | @k2 x y e =>
    have hx := ih x (by simp) (hfk x (by simp))
    have hy := ih y (by simp) (hfk y (by simp))
    have hc : (mk k st n [x, y]).cnt = x.cnt + y.cnt + 1 := by simp [cnt, cnts]; omega
    rw [hc]
    have q1 := sq_mono (show x.cnt ≤ x.cnt + y.cnt + 1 by omega)
    have q2 := sq_mono (show y.cnt ≤ x.cnt + y.cnt + 1 by omega)
    generalize hC : 4 * (x.cnt + y.cnt + 1) * (x.cnt + y.cnt + 1) = C at *
    rcases e with rfl | rfl
    · obtain ⟨m, hm⟩ := mid_both hfmd hf hb
      obtain ⟨h1, h2, h3, h4⟩ := mid_some hm
      have hml := (ends_le (hfk x (by simp)) hf h3).2
      rw [best3, hm]
      have a1 := hx f m hf h3
      have a2 := hy m t hml h4
      have b1 := Nat.mul_le_mul_right (m - f) q1
      have b2 := Nat.mul_le_mul_right (t - m) q2
      have e : t - f = (m - f) + (t - m) := by omega
      rw [e, Nat.mul_add]
      simp only [Val.size, Val.sizes, Option.getD_some]
      omega
    · rw [ends4, Nat.testBit_or, Bool.or_eq_true] at hb
      rw [best4]
      by_cases hbx : (ends s x f).testBit t = true
      · have a1 := hx f t hf hbx
        have b1 := Nat.mul_le_mul_right (t - f) q1
        rw [hbx, cond_true]
        simp only [Val.size, Val.sizes]
        omega
      · have a1 := hy f t hf (hb.resolve_left hbx)
        have b1 := Nat.mul_le_mul_right (t - f) q2
        rw [show (ends s x f).testBit t = false by simpa using hbx, cond_false]
        simp only [Val.size, Val.sizes]
        omega
theorem best_sm {s : List Nat} {c : Cor} (hc : c.fmd = true) {f t : Nat} (hf : f ≤ s.length) (hb : (ends s c f).testBit t = true) (hn : c.cnt ≤ 2000) (hs : s.length ≤ 256) : (best s c f t).size ≤ 5000000000 := by
  have h := best_size s c hc f t hf hb
  have ht := (ends_le hc hf hb).2
  have h1 : 4 * c.cnt * c.cnt * (t - f) ≤ 4 * 2000 * 2000 * 256 := Nat.mul_le_mul (Nat.mul_le_mul (Nat.mul_le_mul_left 4 hn) hn) (by omega)
  omega
end Cor
end Go.Proofs.Ytmdlhnojpcnnbaa
