/- The value of a part that comes first, from here to there: in plain terms. -/
import Derived.Test.YtmdlhnojpcnnbaaLng
import Derived.Test.YtmdlhnojpcnnbaaVal
set_option linter.unusedSimpArgs false
set_option linter.unusedVariables false
set_option maxRecDepth 20000
namespace Go.Proofs.Ytmdlhnojpcnnbaa
open Go Go.X

def lastK (p : Nat → Bool) (least : Nat) : Nat → Option Nat
  | 0 => if least = 0 ∧ p 0 = true then some 0 else none
  | k + 1 => if k + 1 < least then none else if p (k + 1) = true then some (k + 1) else lastK p least k
theorem lastK_some {p : Nat → Bool} {least : Nat} : ∀ {k m : Nat}, lastK p least k = some m → least ≤ m ∧ m ≤ k ∧ p m = true ∧ ∀ j, m < j → j ≤ k → p j = false
  | 0, m, h => by
    simp only [lastK] at h
    split at h
    · rename_i hh
      injection h with h; subst h
      exact ⟨by omega, by omega, hh.2, fun j h1 h2 => by omega⟩
    · cases h
  | k + 1, m, h => by
    simp only [lastK] at h
    split at h
    · cases h
    · split at h
      · rename_i h1 h2
        injection h with h; subst h
        exact ⟨by omega, by omega, h2, fun j h1 h2 => by omega⟩
      · rename_i h1 h2
        obtain ⟨g1, g2, g3, g4⟩ := lastK_some h
        refine ⟨g1, by omega, g3, fun j hj hk => ?_⟩
        by_cases e : j = k + 1
        · subst e; simpa using h2
        · exact g4 j hj (by omega)
theorem lastK_none {p : Nat → Bool} {least : Nat} : ∀ {k : Nat}, lastK p least k = none → ∀ j, least ≤ j → j ≤ k → p j = false
  | 0, h, j, h1, h2 => by
    simp only [lastK] at h
    split at h
    · cases h
    · rename_i hh
      have : j = 0 := by omega
      subst this
      have : ¬ p 0 = true := fun e => hh ⟨by omega, e⟩
      simpa using this
  | k + 1, h, j, h1, h2 => by
    simp only [lastK] at h
    split at h
    · omega
    · split at h
      · cases h
      · rename_i g1 g2
        by_cases e : j = k + 1
        · subst e; simpa using g2
        · exact lastK_none h j h1 (by omega)
theorem lastK_eq {p : Nat → Bool} {least k m : Nat} (h1 : least ≤ m) (h2 : m ≤ k) (h3 : p m = true) (h4 : ∀ j, m < j → j ≤ k → p j = false) : lastK p least k = some m := by
  cases h : lastK p least k with
  | none => have := lastK_none h m h1 h2; rw [h3] at this; cases this
  | some m' =>
    obtain ⟨g1, g2, g3, g4⟩ := lastK_some h
    by_cases e : m < m'
    · have := h4 m' e g2; rw [g3] at this; cases this
    · by_cases e' : m' < m
      · have := g4 m e' h2; rw [h3] at this; cases this
      · rw [show m' = m by omega]
theorem lastK_ex {p : Nat → Bool} {least k j : Nat} (h1 : least ≤ j) (h2 : j ≤ k) (h3 : p j = true) : ∃ m, lastK p least k = some m := by
  cases h : lastK p least k with
  | none => have := lastK_none h j h1 h2; rw [h3] at this; cases this
  | some m => exact ⟨m, rfl⟩

namespace Cor
def itemsN (b : Nat → Nat → Val) (sp : Nat → Option Nat) (t : Nat) : Nat → Nat → List Val
  | 0, _ => []
  | n + 1, f => if f < t then (match sp f with | some k => b f k :: itemsN b sp t n k | none => []) else []
mutual
def best (s : List Nat) : Cor → Nat → Nat → Val
  | .mk k st n l, f, t =>
    if k = 2 then .mk 2 (s.getD f 0 : Nat) []
    else if k = 3 then .mk 3 0 [bestN s l 0 f ((lastK (fun m => (endsN s l 0 f).testBit m && (endsN s l 1 m).testBit t) f t).getD 0), bestN s l 1 ((lastK (fun m => (endsN s l 0 f).testBit m && (endsN s l 1 m).testBit t) f t).getD 0) t]
    else if k = 4 then (bif (endsN s l 0 f).testBit t then .mk 4 0 [bestN s l 0 f t] else .mk 5 0 [bestN s l 1 f t])
    else if k = 5 then .mk 6 0 (itemsN (bestN s l 0) (fun f => lastK (fun m => (endsN s l 0 f).testBit m && (ends s (.mk k st n l) m).testBit t) (f + 1) t) t (t - f) f)
    else if k = 6 then .mk 7 0 [bestN s l 0 f t]
    else if k = 7 then bestN s l 0 f t
    else .mk 1 0 []
def bestN (s : List Nat) : List Cor → Nat → Nat → Nat → Val
  | [], _, _, _ => .mk 1 0 []
  | c :: _, 0, f, t => best s c f t
  | _ :: l, j + 1, f, t => bestN s l j f t
end
def mid (s : List Nat) (x y : Cor) (f least t : Nat) : Option Nat := lastK (fun m => (ends s x f).testBit m && (ends s y m).testBit t) least t
theorem best1 (s : List Nat) (t : Nat) (n : Int) (l : List Cor) (i j : Nat) : best s (.mk 1 t n l) i j = .mk 1 0 [] := by simp [best]
theorem best2 (s : List Nat) (t : Nat) (n : Int) (l : List Cor) (i j : Nat) : best s (.mk 2 t n l) i j = .mk 2 (s.getD i 0 : Nat) [] := by simp [best]
theorem best3 (s : List Nat) (t : Nat) (n : Int) (x y : Cor) (i j : Nat) : best s (.mk 3 t n [x, y]) i j = .mk 3 0 [best s x i ((mid s x y i i j).getD 0), best s y ((mid s x y i i j).getD 0) j] := by
  simp [best, bestN, endsN, mid]
theorem best4 (s : List Nat) (t : Nat) (n : Int) (x y : Cor) (i j : Nat) : best s (.mk 4 t n [x, y]) i j = bif (ends s x i).testBit j then .mk 4 0 [best s x i j] else .mk 5 0 [best s y i j] := by
  simp [best, bestN, endsN]
theorem best5 (s : List Nat) (t : Nat) (n : Int) (x : Cor) (i j : Nat) : best s (.mk 5 t n [x]) i j = .mk 6 0 (itemsN (best s x) (fun f => mid s x (.mk 5 t n [x]) f (f + 1) j) j (j - i) i) := by
  have h : bestN s [x] 0 = best s x := by funext a b; simp [bestN]
  simp [best, h, endsN, mid]
theorem best6 (s : List Nat) (t : Nat) (n : Int) (x : Cor) (i j : Nat) : best s (.mk 6 t n [x]) i j = .mk 7 0 [best s x i j] := by simp [best, bestN]
theorem best7 (s : List Nat) (t : Nat) (n : Int) (x : Cor) (i j : Nat) : best s (.mk 7 t n [x]) i j = best s x i j := by simp [best, bestN]

theorem ends_le {s : List Nat} {c : Cor} (hc : c.fmd = true) {i j : Nat} (hi : i ≤ s.length) (h : (ends s c i).testBit j = true) : i ≤ j ∧ j ≤ s.length :=
  have := (ends_iff s c hc i j hi).1 h
  ⟨this.1, this.2.1⟩
theorem mid_some {s : List Nat} {x y : Cor} {f least t m : Nat} (h : mid s x y f least t = some m) : least ≤ m ∧ m ≤ t ∧ (ends s x f).testBit m = true ∧ (ends s y m).testBit t = true := by
  obtain ⟨h1, h2, h3, _⟩ := lastK_some h
  rw [Bool.and_eq_true] at h3
  exact ⟨h1, h2, h3.1, h3.2⟩
theorem mid_both {s : List Nat} {x y : Cor} {t' : Nat} {n : Int} (hc : (Cor.mk 3 t' n [x, y]).fmd = true) {f t : Nat} (hf : f ≤ s.length) (h : (ends s (.mk 3 t' n [x, y]) f).testBit t = true) : ∃ m, mid s x y f f t = some m := by
  have hy := (kids_of hc).2 y (by simp)
  rw [ends3, both_bit] at h
  simp only [List.any_eq_true, List.mem_range'_1, Bool.and_eq_true] at h
  obtain ⟨k, ⟨h1, h2⟩, h3, h4⟩ := h
  have := ends_ge s y hy k t h4
  exact lastK_ex (j := k) h1 this (by rw [h3, h4]; rfl)
theorem mid_star {s : List Nat} {x : Cor} {t' : Nat} {n : Int} (hc : (Cor.mk 5 t' n [x]).fmd = true) {f t : Nat} (hf : f ≤ s.length) (hlt : f < t) (h : (ends s (.mk 5 t' n [x]) f).testBit t = true) : ∃ m, mid s x (.mk 5 t' n [x]) f (f + 1) t = some m := by
  have hx := (kids_of hc).2 x (by simp)
  obtain ⟨h1, h2, h3⟩ := (ends_iff s _ hc f t hf).1 h
  rw [lg5] at h3
  rcases h3 with h3 | ⟨u, v, h3, hne, hu, hv⟩
  · have := seg_len s h1 h2
    rw [h3] at this
    simp at this; omega
  · obtain ⟨g1, g2, g3⟩ := seg_split h1 h2 h3
    have hul : 0 < u.length := List.length_pos_iff.2 hne
    refine lastK_ex (j := f + u.length) (by omega) g1 ?_
    rw [(ends_iff s x hx f _ hf).2 ⟨by omega, by omega, by rw [g2]; exact hu⟩, (ends_iff s _ hc _ t (by omega)).2 ⟨g1, h2, by rw [g3]; exact hv⟩]
    rfl
theorem items_fuel {b : Nat → Nat → Val} {sp : Nat → Option Nat} {t : Nat} (hsp : ∀ f k, sp f = some k → f < k) : ∀ (n m f : Nat), t - f ≤ n → t - f ≤ m → itemsN b sp t n f = itemsN b sp t m f
  | 0, 0, f, _, _ => rfl
  | 0, m + 1, f, h1, h2 => by rw [itemsN, itemsN, if_neg (by omega)]
  | n + 1, 0, f, h1, h2 => by rw [itemsN, itemsN, if_neg (by omega)]
  | n + 1, m + 1, f, h1, h2 => by
    rw [itemsN, itemsN]
    split
    · cases h : sp f with
      | none => rfl
      | some k =>
        have := hsp f k h
        simp only
        rw [items_fuel hsp n m k (by omega) (by omega)]
    · rfl
theorem items_cons {b : Nat → Nat → Val} {sp : Nat → Option Nat} {t f k : Nat} (hsp : ∀ f k, sp f = some k → f < k) (hlt : f < t) (h : sp f = some k) : itemsN b sp t (t - f) f = b f k :: itemsN b sp t (t - k) k := by
  obtain ⟨n, hn⟩ : ∃ n, t - f = n + 1 := ⟨t - f - 1, by omega⟩
  have := hsp f k h
  rw [hn, itemsN, if_pos hlt, h]
  simp only
  rw [items_fuel hsp n (t - k) k (by omega) (by omega)]
theorem items_nil {b : Nat → Nat → Val} {sp : Nat → Option Nat} {t f : Nat} (h : ¬ f < t) : itemsN b sp t (t - f) f = [] := by
  rw [show t - f = 0 by omega]; rfl
theorem mid_gt {s : List Nat} {x y : Cor} {t f k : Nat} (h : mid s x y f (f + 1) t = some k) : f < k := by
  have := (mid_some h).1; omega
end Cor
end Go.Proofs.Ytmdlhnojpcnnbaa
