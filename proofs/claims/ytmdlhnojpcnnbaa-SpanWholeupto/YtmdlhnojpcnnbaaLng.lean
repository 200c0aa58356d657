/- The texts that a core says; what ends where; what is left behind a byte, tidied cores: the same texts. -/
import Derived.Test.YtmdlhnojpcnnbaaTbN
set_option linter.unusedSimpArgs false
set_option linter.unusedVariables false
set_option maxRecDepth 20000
namespace Go.Proofs.Ytmdlhnojpcnnbaa
open Go Go.X

namespace Cor
inductive Lg : Cor → List Nat → Prop
  | empty {t n l} : Lg (.mk 1 t n l) []
  | byte {t n l b} : t.testBit b = true → Lg (.mk 2 t n l) [b]
  | both {t n x y u v} : Lg x u → Lg y v → Lg (.mk 3 t n [x, y]) (u ++ v)
  | orl {t n x y u} : Lg x u → Lg (.mk 4 t n [x, y]) u
  | orr {t n x y u} : Lg y u → Lg (.mk 4 t n [x, y]) u
  | star0 {t n x} : Lg (.mk 5 t n [x]) []
  | star1 {t n x u v} : Lg x u → u ≠ [] → Lg (.mk 5 t n [x]) v → Lg (.mk 5 t n [x]) (u ++ v)
  | grp {k t n x u} : k = 6 ∨ k = 7 → Lg x u → Lg (.mk k t n [x]) u
theorem lg0 {t n l w} : ¬ Lg (.mk 0 t n l) w := by
  intro h
  generalize hc : Cor.mk 0 t n l = c at h
  cases h <;> cases hc
  rename_i h _; omega
theorem lg1 {t n l w} : Lg (.mk 1 t n l) w ↔ w = [] := by
  constructor
  · intro h
    generalize hc : Cor.mk 1 t n l = c at h
    cases h <;> cases hc
    · rfl
    · rename_i h _; omega
  · rintro rfl; exact .empty
theorem lg2 {t n l w} : Lg (.mk 2 t n l) w ↔ ∃ b, w = [b] ∧ t.testBit b = true := by
  constructor
  · intro h
    generalize hc : Cor.mk 2 t n l = c at h
    cases h <;> cases hc
    · exact ⟨_, rfl, by assumption⟩
    · rename_i h _; omega
  · rintro ⟨b, rfl, h⟩; exact .byte h
theorem lg3 {t n x y w} : Lg (.mk 3 t n [x, y]) w ↔ ∃ u v, w = u ++ v ∧ Lg x u ∧ Lg y v := by
  constructor
  · intro h
    generalize hc : Cor.mk 3 t n [x, y] = c at h
    cases h <;> cases hc
    exact ⟨_, _, rfl, by assumption, by assumption⟩
  · rintro ⟨u, v, rfl, h1, h2⟩; exact .both h1 h2
theorem lg4 {t n x y w} : Lg (.mk 4 t n [x, y]) w ↔ Lg x w ∨ Lg y w := by
  constructor
  · intro h
    generalize hc : Cor.mk 4 t n [x, y] = c at h
    cases h <;> cases hc
    · exact .inl (by assumption)
    · exact .inr (by assumption)
  · rintro (h | h)
    · exact .orl h
    · exact .orr h
theorem lg5 {t n x w} : Lg (.mk 5 t n [x]) w ↔ w = [] ∨ ∃ u v, w = u ++ v ∧ u ≠ [] ∧ Lg x u ∧ Lg (.mk 5 t n [x]) v := by
  constructor
  · intro h
    generalize hc : Cor.mk 5 t n [x] = c at h
    cases h <;> cases hc
    · exact .inl rfl
    · exact .inr ⟨_, _, rfl, by assumption, by assumption, by assumption⟩
    · rename_i h _; omega
  · rintro (rfl | ⟨u, v, rfl, h1, h2, h3⟩)
    · exact .star0
    · exact .star1 h2 h1 h3
theorem lg67 {k : Int} {t n x w} (hk : k = 6 ∨ k = 7) : Lg (.mk k t n [x]) w ↔ Lg x w := by
  constructor
  · intro h
    generalize hc : Cor.mk k t n [x] = c at h
    cases h <;> cases hc
    all_goals first | assumption | (exfalso; omega)
  · exact .grp hk
theorem star_ind {t n x} {p : List Nat → Prop} (h0 : p []) (h1 : ∀ u v, Lg x u → u ≠ [] → Lg (.mk 5 t n [x]) v → p v → p (u ++ v)) {w : List Nat} (h : Lg (.mk 5 t n [x]) w) : p w := by
  generalize hc : Cor.mk 5 t n [x] = c at h
  induction h with
  | star0 => exact h0
  | @star1 t' n' x' u v hx hne hv ih1 ih2 =>
    injection hc with _ e1 e2 e3
    injection e3 with e3 _
    subst e1; subst e2; subst e3
    exact h1 _ _ hx hne hv (ih2 rfl)
  | grp hk => injection hc with hc; omega
  | _ => cases hc
theorem star_app {t n x u v} (h : Lg (.mk 5 t n [x]) u) (h2 : Lg (.mk 5 t n [x]) v) : Lg (.mk 5 t n [x]) (u ++ v) := by
  refine star_ind (p := fun u => Lg (.mk 5 t n [x]) (u ++ v)) (by simpa using h2) (fun u v' hx hne _ ih => ?_) h
  rw [List.append_assoc]
  exact .star1 hx hne ih
theorem star_one {t n x u} (h : Lg x u) : Lg (.mk 5 t n [x]) u := by
  by_cases e : u = []
  · subst e; exact .star0
  · have := Lg.star1 (t := t) (n := n) h e .star0
    simpa using this

def seg (s : List Nat) (i j : Nat) : List Nat := (s.drop i).take (j - i)
theorem seg_self (s : List Nat) (i : Nat) : seg s i i = [] := by simp [seg]
theorem seg_app (s : List Nat) {i k j : Nat} (h1 : i ≤ k) (h2 : k ≤ j) : seg s i k ++ seg s k j = seg s i j := by
  unfold seg
  rw [show j - i = (k - i) + (j - k) by omega, List.take_add, List.drop_drop, show i + (k - i) = k by omega]
theorem seg_len (s : List Nat) {i j : Nat} (h1 : i ≤ j) (h2 : j ≤ s.length) : (seg s i j).length = j - i := by
  simp [seg]; omega
theorem seg_split {s : List Nat} {i j : Nat} {u v : List Nat} (h1 : i ≤ j) (h2 : j ≤ s.length) (h : seg s i j = u ++ v) : i + u.length ≤ j ∧ seg s i (i + u.length) = u ∧ seg s (i + u.length) j = v := by
  have hl := seg_len s h1 h2
  rw [h, List.length_append] at hl
  have hk : i + u.length ≤ j := by omega
  have ha := seg_app s (show i ≤ i + u.length by omega) hk
  rw [h] at ha
  have hlu := seg_len s (show i ≤ i + u.length by omega) (by omega)
  have := List.append_inj ha (by rw [hlu]; omega)
  exact ⟨hk, this.1, this.2⟩
theorem seg_one {s : List Nat} {i : Nat} (h : i < s.length) : seg s i (i + 1) = [s.getD i 0] := by
  unfold seg
  rw [show i + 1 - i = 1 by omega, List.drop_eq_getElem_cons h, List.take_succ_cons, List.take_zero]
  congr 1
  simp [List.getD, h]

theorem fold_sub {f : Nat → Nat} : ∀ (l : List Nat) (a j : Nat), a.testBit j = true → (l.foldl (fun a k => if a.testBit k = true then a ||| f k else a) a).testBit j = true
  | [], a, j, h => h
  | k :: l, a, j, h => by
    refine fold_sub l _ j ?_
    simp only
    split
    · rw [Nat.testBit_or, h]; rfl
    · exact h
theorem fold_low {f : Nat → Nat} (hf : ∀ k j, (f k).testBit j = true → k ≤ j) {i : Nat} : ∀ (l : List Nat) (a : Nat), (∀ k ∈ l, i < k) → (l.foldl (fun a k => if a.testBit k = true then a ||| f k else a) a).testBit i = a.testBit i
  | [], a, _ => rfl
  | k :: l, a, h => by
    rw [List.foldl_cons, fold_low hf l _ fun k hk => h k (by simp [hk])]
    split
    · rw [Nat.testBit_or]
      have : (f k).testBit i = false := by
        cases hb : (f k).testBit i with
        | false => rfl
        | true => have := hf k i hb; have := h k (by simp); omega
      rw [this, Bool.or_false]
    · rfl
theorem fold_closed {f : Nat → Nat} (hf : ∀ k j, (f k).testBit j = true → k ≤ j) : ∀ (m i a k j : Nat), i ≤ k → k < i + m → ((List.range' i m).foldl (fun a k => if a.testBit k = true then a ||| f k else a) a).testBit k = true → (f k).testBit j = true → ((List.range' i m).foldl (fun a k => if a.testBit k = true then a ||| f k else a) a).testBit j = true
  | 0, i, a, k, j, h1, h2, _, _ => by omega
  | m + 1, i, a, k, j, h1, h2, h3, h4 => by
    rw [List.range'_succ, List.foldl_cons] at h3 ⊢
    by_cases e : k = i
    · subst e
      rw [fold_low hf _ _ (fun x hx => by have := List.mem_range'_1.1 hx; omega)] at h3
      refine fold_sub _ _ j ?_
      by_cases ha : a.testBit k = true
      · rw [if_pos ha, Nat.testBit_or, h4, Bool.or_true]
      · rw [if_neg ha] at h3; exact absurd h3 ha
    · exact fold_closed hf m (i + 1) _ k j (by omega) (by omega) h3 h4
theorem ends_iff (s : List Nat) (c : Cor) : c.fmd = true → ∀ i j, i ≤ s.length → ((ends s c i).testBit j = true ↔ i ≤ j ∧ j ≤ s.length ∧ Lg c (seg s i j)) := by
  refine ind (p := fun c => c.fmd = true → ∀ i j, i ≤ s.length → ((ends s c i).testBit j = true ↔ i ≤ j ∧ j ≤ s.length ∧ Lg c (seg s i j))) (fun k t n l ih h i j hi => ?_) c
  obtain ⟨hk, hf⟩ := kids_of h
  cases hk with
  | k0 e =>
    rcases e with rfl | rfl | rfl
    · rw [ends0]
      simp only [Nat.zero_testBit, Bool.false_eq_true, false_iff]
      exact fun h => lg0 h.2.2
    · rw [ends1, Nat.testBit_two_pow]
      simp only [decide_eq_true_eq, lg1]
      constructor
      · rintro rfl; exact ⟨Nat.le_refl _, hi, seg_self s i⟩
      · rintro ⟨h1, h2, h3⟩
        have := seg_len s h1 h2
        rw [h3] at this
        simp at this; omega
    · rw [ends2]
      simp only [lg2]
      split
      · rename_i hh
        rw [Nat.testBit_two_pow]
        simp only [decide_eq_true_eq]
        constructor
        · rintro rfl
          exact ⟨by omega, by omega, _, seg_one hh.1, hh.2⟩
        · rintro ⟨h1, h2, b, h3, _⟩
          have := seg_len s h1 h2
          rw [h3] at this
          simp at this; omega
      · rename_i hh
        simp only [Nat.zero_testBit, Bool.false_eq_true, false_iff]
        rintro ⟨h1, h2, b, h3, h4⟩
        have hl := seg_len s h1 h2
        rw [h3] at hl
        simp at hl
        have hlt : i < s.length := by omega
        rw [show j = i + 1 by omega, seg_one hlt] at h3
        injection h3 with h3 _
        exact hh ⟨hlt, by rw [h3]; exact h4⟩
  | @k1 x e =>
    have hx := ih x (by simp) (hf x (by simp))
    have hge := ends_ge s x (hf x (by simp))
    rcases e with rfl | rfl | rfl
    · rw [ends5]
      have hmono := fold_closed (f := ends s x) (fun k j h => hge k j h) (s.length + 1 - i) i (2 ^ i)
      have h2i : (2 ^ i).testBit i = true := by rw [Nat.testBit_two_pow]; simp
      constructor
      · -- sound
        have key : ∀ (l : List Nat) (a : Nat), (∀ k ∈ l, k ≤ s.length) → (∀ j, a.testBit j = true → i ≤ j ∧ j ≤ s.length ∧ Lg (.mk 5 t n [x]) (seg s i j)) → ∀ j, (l.foldl (fun a k => if a.testBit k = true then a ||| ends s x k else a) a).testBit j = true → i ≤ j ∧ j ≤ s.length ∧ Lg (.mk 5 t n [x]) (seg s i j) := by
          intro l
          induction l with
          | nil => intro a _ h; exact h
          | cons k l ihl =>
            intro a hl ha
            refine ihl _ (fun k hk => hl k (by simp [hk])) fun j hj => ?_
            simp only at hj
            split at hj
            · rename_i hb
              rw [Nat.testBit_or, Bool.or_eq_true] at hj
              rcases hj with hj | hj
              · exact ha j hj
              · obtain ⟨h1, h2, h3⟩ := ha k hb
                obtain ⟨h4, h5, h6⟩ := (hx k j (hl k (by simp))).1 hj
                refine ⟨by omega, h5, ?_⟩
                rw [← seg_app s h1 h4]
                exact star_app h3 (star_one h6)
            · exact ha j hj
        exact key _ _ (fun k hk => by have := List.mem_range'_1.1 hk; omega) (fun j hj => by
          rw [Nat.testBit_two_pow] at hj
          have : i = j := by simpa using hj
          subst this
          exact ⟨Nat.le_refl _, hi, by rw [seg_self]; exact .star0⟩) j
      · rintro ⟨h1, h2, h3⟩
        have key : ∀ w, Lg (.mk 5 t n [x]) w → ∀ k, i ≤ k → k ≤ j → seg s k j = w → (starE s.length (ends s x) i).testBit k = true → (starE s.length (ends s x) i).testBit j = true := by
          intro w hw
          refine star_ind (p := fun w => ∀ k, i ≤ k → k ≤ j → seg s k j = w → (starE s.length (ends s x) i).testBit k = true → (starE s.length (ends s x) i).testBit j = true) (fun k hk1 hk2 hs hb => ?_) (fun u v hu hne _ ih k hk1 hk2 hs hb => ?_) hw
          · have := seg_len s hk2 h2
            rw [hs] at this
            simp at this
            rw [show j = k by omega]; exact hb
          · obtain ⟨g1, g2, g3⟩ := seg_split hk2 h2 hs
            refine ih (k + u.length) (by omega) g1 g3 ?_
            refine hmono k _ hk1 (by omega) hb ?_
            exact (hx k _ (by omega)).2 ⟨by omega, by omega, by rw [g2]; exact hu⟩
        exact key _ h3 i (Nat.le_refl _) h1 rfl (fold_sub _ _ _ h2i)
    · rw [ends67 _ _ _ _ _ _ (.inl rfl), lg67 (.inl rfl)]; exact hx i j hi
    · rw [ends67 _ _ _ _ _ _ (.inr rfl), lg67 (.inr rfl)]; exact hx i j hi
  | @k2 x y e =>
    have hx := ih x (by simp) (hf x (by simp))
    have hy := ih y (by simp) (hf y (by simp))
    rcases e with rfl | rfl
    · rw [ends3, both_bit, lg3]
      simp only [List.any_eq_true, List.mem_range'_1, Bool.and_eq_true]
      constructor
      · rintro ⟨k, ⟨h1, h2⟩, h3, h4⟩
        obtain ⟨a1, a2, a3⟩ := (hx i k hi).1 h3
        obtain ⟨b1, b2, b3⟩ := (hy k j a2).1 h4
        exact ⟨by omega, b2, _, _, (seg_app s a1 b1).symm, a3, b3⟩
      · rintro ⟨h1, h2, u, v, h3, h4, h5⟩
        obtain ⟨g1, g2, g3⟩ := seg_split h1 h2 h3
        refine ⟨i + u.length, ⟨by omega, by omega⟩, (hx i _ hi).2 ⟨by omega, by omega, by rw [g2]; exact h4⟩, (hy _ j (by omega)).2 ⟨g1, h2, by rw [g3]; exact h5⟩⟩
    · rw [ends4, Nat.testBit_or, Bool.or_eq_true, hx i j hi, hy i j hi, lg4]
      constructor
      · rintro (⟨h1, h2, h3⟩ | ⟨h1, h2, h3⟩)
        · exact ⟨h1, h2, .inl h3⟩
        · exact ⟨h1, h2, .inr h3⟩
      · rintro ⟨h1, h2, h3 | h3⟩
        · exact .inl ⟨h1, h2, h3⟩
        · exact .inr ⟨h1, h2, h3⟩
end Cor
end Go.Proofs.Ytmdlhnojpcnnbaa
