/- A part of a text, by itself: its ends and its values are those that stand in the text. -/
import Derived.Test.YtmdlhnojpcnnbaaSpN
set_option linter.unusedSimpArgs false
set_option linter.unusedVariables false
set_option maxRecDepth 20000
namespace Go.Proofs.Ytmdlhnojpcnnbaa
open Go Go.X

theorem lastK_congr {p q : Nat → Bool} {least k : Nat} (h : ∀ m, least ≤ m → m ≤ k → p m = q m) : lastK p least k = lastK q least k := by
  cases hq : lastK q least k with
  | none =>
    cases hp : lastK p least k with
    | none => rfl
    | some m =>
      obtain ⟨h1, h2, h3, _⟩ := lastK_some hp
      have := lastK_none hq m h1 h2
      rw [← h m h1 h2, h3] at this; cases this
  | some m =>
    obtain ⟨h1, h2, h3, h4⟩ := lastK_some hq
    exact lastK_eq h1 h2 (by rw [h m h1 h2]; exact h3) fun j hj hk => by rw [h j (by omega) hk]; exact h4 j hj hk
theorem lastK_shift (p : Nat → Bool) (a least k : Nat) : lastK p (a + least) (a + k) = (lastK (fun m => p (a + m)) least k).map (a + ·) := by
  cases hq : lastK (fun m => p (a + m)) least k with
  | none =>
    cases hp : lastK p (a + least) (a + k) with
    | none => rfl
    | some m =>
      obtain ⟨h1, h2, h3, _⟩ := lastK_some hp
      have := lastK_none hq (m - a) (by omega) (by omega)
      rw [show a + (m - a) = m by omega, h3] at this; cases this
  | some m =>
    obtain ⟨h1, h2, h3, h4⟩ := lastK_some hq
    show lastK p (a + least) (a + k) = some (a + m)
    exact lastK_eq (by omega) (by omega) h3 fun j hj hk => by
      have := h4 (j - a) (by omega) (by omega)
      rwa [show a + (j - a) = j by omega] at this
namespace Cor
theorem seg_seg (s : List Nat) {a b i j : Nat} (h1 : i ≤ j) (h2 : a + j ≤ b) : seg (seg s a b) i j = seg s (a + i) (a + j) := by
  unfold seg
  rw [List.drop_take, List.drop_drop, List.take_take, show a + j - (a + i) = j - i by omega, Nat.min_eq_left (by omega)]
variable {s : List Nat} {a b : Nat}
theorem ends_shift (hab : a ≤ b) (hb : b ≤ s.length) (c : Cor) (hc : c.fmd = true) {i j : Nat} (hi : a + i ≤ b) (hj : a + j ≤ b) : (ends (seg s a b) c i).testBit j = (ends s c (a + i)).testBit (a + j) := by
  have hl := seg_len s hab hb
  have h1 := ends_iff (seg s a b) c hc i j (by omega)
  have h2 := ends_iff s c hc (a + i) (a + j) (by omega)
  have : (ends (seg s a b) c i).testBit j = true ↔ (ends s c (a + i)).testBit (a + j) = true := by
    rw [h1, h2]
    constructor
    · rintro ⟨g1, g2, g3⟩
      exact ⟨by omega, by omega, by rw [← seg_seg s g1 hj]; exact g3⟩
    · rintro ⟨g1, g2, g3⟩
      exact ⟨by omega, by omega, by rw [seg_seg s (by omega) hj]; exact g3⟩
  exact Bool.eq_iff_iff.2 this
theorem mid_shift (hab : a ≤ b) (hb : b ≤ s.length) (x y : Cor) (hx : x.fmd = true) (hy : y.fmd = true) {f least t : Nat} (hf : a + f ≤ b) (ht : a + t ≤ b) : mid s x y (a + f) (a + least) (a + t) = (mid (seg s a b) x y f least t).map (a + ·) := by
  unfold mid
  rw [lastK_shift]
  congr 1
  refine lastK_congr fun m h1 h2 => ?_
  rw [ends_shift hab hb x hx hf (by omega), ends_shift hab hb y hy (by omega) ht]
theorem items_shift {g h : Nat → Nat → Val} {p q : Nat → Option Nat} {a t : Nat} {ok : Nat → Prop} (hp : ∀ f, ok f → f < t → q (a + f) = (p f).map (a + ·) ∧ ∀ k, p f = some k → ok k ∧ g f k = h (a + f) (a + k)) : ∀ (n f : Nat), ok f → itemsN g p t n f = itemsN h q (a + t) n (a + f)
  | 0, f, _ => rfl
  | n + 1, f, ho => by
    rw [itemsN, itemsN]
    by_cases hlt : f < t
    · rw [if_pos hlt, if_pos (by omega)]
      obtain ⟨e, hk⟩ := hp f ho hlt
      rw [e]
      cases hpf : p f with
      | none => rfl
      | some k =>
        obtain ⟨h1, h2⟩ := hk k hpf
        simp only [Option.map_some]
        rw [h2, items_shift hp n k h1]
    · rw [if_neg hlt, if_neg (by omega)]
theorem best_shift (hab : a ≤ b) (hb : b ≤ s.length) (c : Cor) : c.fmd = true → ∀ i j, a + i ≤ b → a + j ≤ b → (ends (seg s a b) c i).testBit j = true → best (seg s a b) c i j = best s c (a + i) (a + j) := by
  have hl := seg_len s hab hb
  refine ind (p := fun c => c.fmd = true → ∀ i j, a + i ≤ b → a + j ≤ b → (ends (seg s a b) c i).testBit j = true → best (seg s a b) c i j = best s c (a + i) (a + j)) (fun k st n l ih hfmd i j hi hj hbit => ?_) c
  obtain ⟨hkd, hfk⟩ := kids_of hfmd
  cases hkd with
  | k0 e =>
    rcases e with rfl | rfl | rfl
    · rw [ends0] at hbit; simp at hbit
    · rw [best1, best1]
    · obtain ⟨g1, g2, g3⟩ := (ends_iff _ _ hfmd i j (by omega)).1 hbit
      rw [lg2] at g3
      obtain ⟨x, hx, _⟩ := g3
      have hlen := seg_len (seg s a b) g1 g2
      rw [hx, List.length_singleton] at hlen
      rw [best2, best2]
      have : (seg s a b).getD i 0 = s.getD (a + i) 0 := by
        unfold seg
        rw [List.getD_eq_getElem?_getD, List.getD_eq_getElem?_getD, List.getElem?_take, if_pos (by omega), List.getElem?_drop]
      rw [this]
  | @k1 x e =>
    have hfx := hfk x (by simp)
    have hx := ih x (by simp) hfx
    rcases e with rfl | rfl | rfl
    · rw [best5, best5]
      congr 1
      rw [show a + j - (a + i) = j - i by omega]
      refine items_shift (ok := fun f => a + f ≤ b) (fun f hf hlt => ?_) (j - i) i hi
      refine ⟨?_, fun k hk => ?_⟩
      · rw [show a + f + 1 = a + (f + 1) by omega]
        exact mid_shift hab hb x _ hfx hfmd hf hj
      · obtain ⟨h1, h2, h3, h4⟩ := mid_some hk
        exact ⟨by omega, hx f k hf (by omega) h3⟩
    · rw [ends67 _ _ _ _ _ _ (.inl rfl)] at hbit
      rw [best6, best6, hx i j hi hj hbit]
    · rw [ends67 _ _ _ _ _ _ (.inr rfl)] at hbit
      rw [best7, best7, hx i j hi hj hbit]
  | @k2 x y e =>
    have hfx := hfk x (by simp)
    have hfy := hfk y (by simp)
    have hx := ih x (by simp) hfx
    have hy := ih y (by simp) hfy
    rcases e with rfl | rfl
    · obtain ⟨m, hm⟩ := mid_both hfmd (by omega) hbit
      obtain ⟨h1, h2, h3, h4⟩ := mid_some hm
      rw [best3, best3, mid_shift hab hb x y hfx hfy hi hj, hm]
      simp only [Option.map_some, Option.getD_some]
      rw [hx i m hi (by omega) h3, hy m j (by omega) hj h4]
    · rw [best4, best4, ends_shift hab hb x hfx hi hj]
      rw [ends4, Nat.testBit_or, Bool.or_eq_true, ends_shift hab hb x hfx hi hj] at hbit
      cases hbx : (ends s x (a + i)).testBit (a + j) with
      | true => rw [cond_true, cond_true, hx i j hi hj (by rw [ends_shift hab hb x hfx hi hj]; exact hbx)]
      | false => rw [cond_false, cond_false, hy i j hi hj (hbit.resolve_left (by rw [hbx]; simp))]
end Cor
end Go.Proofs.Ytmdlhnojpcnnbaa
