/- What is left behind a byte says what comes behind it; a tidied core says the same. -/
import Derived.Test.YthdonefmfgnilaaLng
set_option linter.unusedSimpArgs false
set_option linter.unusedVariables false
set_option maxRecDepth 20000
namespace Go.Proofs.Ythdonefmfgnilaa
open Go Go.X

namespace Cor
theorem null_lg (c : Cor) : c.fmd = true → (null c = true ↔ Lg c []) := by
  refine ind (p := fun c => c.fmd = true → (null c = true ↔ Lg c [])) (fun k s n l ih h => ?_) c
  obtain ⟨hk, hf⟩ := kids_of h
  cases hk with
  | k0 e =>
    rcases e with rfl | rfl | rfl
    · simp [null]; exact lg0
    · simp [null]; exact lg1.2 rfl
    · simp [null]; rw [lg2]; rintro ⟨b, h, _⟩; cases h
  | @k1 x e =>
    have hx := ih x (by simp) (hf x (by simp))
    rcases e with rfl | rfl | rfl
    · simp [null]; exact .star0
    · rw [lg67 (.inl rfl), ← hx]; simp [null, nullN]
    · rw [lg67 (.inr rfl), ← hx]; simp [null, nullN]
  | @k2 x y e =>
    have hx := ih x (by simp) (hf x (by simp))
    have hy := ih y (by simp) (hf y (by simp))
    rcases e with rfl | rfl
    · rw [null3, Bool.and_eq_true, hx, hy, lg3]
      constructor
      · rintro ⟨h1, h2⟩; exact ⟨[], [], rfl, h1, h2⟩
      · rintro ⟨u, v, h, h1, h2⟩
        have := List.append_eq_nil_iff.1 h.symm
        rw [this.1] at h1; rw [this.2] at h2
        exact ⟨h1, h2⟩
    · rw [null4, Bool.or_eq_true, hx, hy, lg4]
theorem by_lg (b : Nat) (c : Cor) : c.fmd = true → ∀ w, (Lg (by' c b) w ↔ Lg c (b :: w)) := by
  refine ind (p := fun c => c.fmd = true → ∀ w, (Lg (by' c b) w ↔ Lg c (b :: w))) (fun k s n l ih h w => ?_) c
  obtain ⟨hk, hf⟩ := kids_of h
  cases hk with
  | k0 e =>
    rcases e with rfl | rfl | rfl
    · rw [by0 _ _ _ _ (.inl rfl)]; exact ⟨fun h => absurd h lg0, fun h => absurd h lg0⟩
    · rw [by0 _ _ _ _ (.inr rfl)]; exact ⟨fun h => absurd h lg0, fun h => by rw [lg1] at h; cases h⟩
    · rw [by2, lg2]
      cases hb : s.testBit b with
      | true =>
        rw [cond_true, lg1]
        constructor
        · rintro rfl; exact ⟨b, rfl, hb⟩
        · rintro ⟨b', h, _⟩; injection h
      | false =>
        rw [cond_false]
        refine ⟨fun h => absurd h lg0, ?_⟩
        rintro ⟨b', h, h2⟩
        injection h with h _
        rw [← h, hb] at h2; cases h2
  | @k1 x e =>
    have hx := ih x (by simp) (hf x (by simp))
    rcases e with rfl | rfl | rfl
    · rw [by5, lg3, lg5 (w := b :: w)]
      constructor
      · rintro ⟨u, v, rfl, h1, h2⟩
        exact .inr ⟨b :: u, v, rfl, by simp, (hx u).1 h1, h2⟩
      · rintro (h | ⟨u, v, h, hne, h1, h2⟩)
        · cases h
        · cases u with
          | nil => exact absurd rfl hne
          | cons a u =>
            injection h with e1 e2
            subst e1; subst e2
            exact ⟨u, v, rfl, (hx u).2 h1, h2⟩
    · rw [by6 _ _ _ _ _ (.inl rfl), lg67 (.inl rfl)]; exact hx w
    · rw [by6 _ _ _ _ _ (.inr rfl), lg67 (.inr rfl)]; exact hx w
  | @k2 x y e =>
    have hx := ih x (by simp) (hf x (by simp))
    have hy := ih y (by simp) (hf y (by simp))
    have hn := null_lg x (hf x (by simp))
    rcases e with rfl | rfl
    · have key : Lg (.mk 3 s n [x, y]) (b :: w) ↔ (∃ u v, w = u ++ v ∧ Lg x (b :: u) ∧ Lg y v) ∨ (Lg x [] ∧ Lg y (b :: w)) := by
        rw [lg3]
        constructor
        · rintro ⟨u, v, h, h1, h2⟩
          cases u with
          | nil => simp at h; subst h; exact .inr ⟨h1, h2⟩
          | cons a u =>
            injection h with e1 e2
            subst e1
            exact .inl ⟨u, v, e2, h1, h2⟩
        · rintro (⟨u, v, rfl, h1, h2⟩ | ⟨h1, h2⟩)
          · exact ⟨b :: u, v, rfl, h1, h2⟩
          · exact ⟨[], b :: w, rfl, h1, h2⟩
      have k3 : Lg (two 3 (by' x b) y) w ↔ ∃ u v, w = u ++ v ∧ Lg x (b :: u) ∧ Lg y v := by
        rw [lg3]
        constructor
        · rintro ⟨u, v, h, h1, h2⟩; exact ⟨u, v, h, (hx u).1 h1, h2⟩
        · rintro ⟨u, v, h, h1, h2⟩; exact ⟨u, v, h, (hx u).2 h1, h2⟩
      rw [by3, key]
      cases hnx : null x with
      | true =>
        rw [cond_true, lg4, k3, hy w]
        constructor
        · rintro (h | h)
          · exact .inl h
          · exact .inr ⟨hn.1 hnx, h⟩
        · rintro (h | h)
          · exact .inl h
          · exact .inr h.2
      | false =>
        rw [cond_false, k3]
        constructor
        · exact .inl
        · rintro (h | h)
          · exact h
          · have := hn.2 h.1; rw [hnx] at this; cases this
    · rw [by4, lg4, lg4, hx w, hy w]
theorem kind0 {c : Cor} (h : c.kind = 0) (w : List Nat) : ¬ Lg c w := by
  obtain ⟨k, s, n, l⟩ := c
  have h : k = 0 := h
  subst h; exact lg0
theorem kind1 {c : Cor} (h : c.kind = 1) (w : List Nat) : Lg c w ↔ w = [] := by
  obtain ⟨k, s, n, l⟩ := c
  have h : k = 1 := h
  subst h; exact lg1
theorem star_cong {x y : Cor} (h : ∀ w, Lg x w → Lg y w) {t t' n n' w} (hw : Lg (.mk 5 t n [x]) w) : Lg (.mk 5 t' n' [y]) w :=
  star_ind (p := fun w => Lg (.mk 5 t' n' [y]) w) .star0 (fun u v hu hne _ ih => .star1 (h u hu) hne ih) hw
theorem tidy1_lg {k : Int} {s : Nat} {n : Int} {l : List Cor} (h : (mk k s n l).fmd = true) (w : List Nat) : Lg (tidy1 k s n l) w ↔ Lg (.mk k s n l) w := by
  obtain ⟨hk, hf⟩ := kids_of h
  cases hk with
  | k0 e =>
    rcases e with rfl | rfl | rfl
    · simp [tidy1]
    · simp [tidy1]
    · by_cases hs : s = 0
      · subst hs
        simp only [tidy1, if_true]
        refine ⟨fun h => absurd h lg0, fun h => ?_⟩
        rw [lg2] at h
        obtain ⟨b, _, h⟩ := h
        simp at h
      · simp [tidy1, hs]
  | @k1 x e =>
    rcases e with rfl | rfl | rfl
    · simp only [tidy1]
      rw [if_neg (by decide), if_neg (by decide), if_neg (by decide), if_pos trivial]
      split
      · rename_i h01
        rw [lg1]
        constructor
        · rintro rfl; exact .star0
        · intro h
          refine star_ind (p := fun w => w = []) rfl (fun u v hu hne _ _ => ?_) h
          rcases h01 with h0 | h1
          · exact absurd hu (kind0 h0 u)
          · exact absurd ((kind1 h1 u).1 hu) hne
      · split
        · rename_i h5
          have hfx := hf x (by simp)
          obtain ⟨k', s', n', l'⟩ := x
          have h5 : k' = 5 := h5
          subst h5
          obtain ⟨hk', _⟩ := kids_of hfx
          cases hk' with
          | k0 e => omega
          | k2 e => omega
          | @k1 z e =>
            refine ⟨star_one, fun h => ?_⟩
            exact star_ind (p := fun w => Lg (.mk 5 s' n' [z]) w) .star0 (fun u v hu _ _ ih => star_app hu ih) h
        · exact Iff.rfl
    · rw [lg67 (.inl rfl)]; simp [tidy1]
    · rw [lg67 (.inr rfl)]; simp [tidy1]
  | @k2 x y e =>
    rcases e with rfl | rfl
    · simp only [tidy1]
      rw [if_neg (by decide), if_pos trivial, lg3]
      split
      · rename_i h0
        refine ⟨fun h => absurd h lg0, ?_⟩
        rintro ⟨u, v, _, h1, h2⟩
        rcases h0 with h0 | h0
        · exact absurd h1 (kind0 h0 u)
        · exact absurd h2 (kind0 h0 v)
      · split
        · rename_i h1
          constructor
          · intro h; exact ⟨[], w, rfl, (kind1 h1 []).2 rfl, h⟩
          · rintro ⟨u, v, rfl, hu, hv⟩
            rw [(kind1 h1 u).1 hu]; exact hv
        · split
          · rename_i h1
            constructor
            · intro h; exact ⟨w, [], by simp, h, (kind1 h1 []).2 rfl⟩
            · rintro ⟨u, v, rfl, hu, hv⟩
              rw [(kind1 h1 v).1 hv, List.append_nil]; exact hu
          · rw [lg3]
    · simp only [tidy1]
      rw [if_neg (by decide), if_neg (by decide), if_pos trivial, lg4]
      split
      · rename_i h0
        exact ⟨.inr, fun h => h.resolve_left (kind0 h0 w)⟩
      · split
        · rename_i h0
          refine ⟨.inl, fun h => ?_⟩
          rcases h with h | h
          · exact h
          · rcases h0 with h0 | h0
            · exact absurd h (kind0 h0 w)
            · rw [h0]; exact h
        · rw [lg4]
theorem tidy_lg (c : Cor) : c.fmd = true → ∀ w, (Lg (tidy c) w ↔ Lg c w) := by
  refine ind (p := fun c => c.fmd = true → ∀ w, (Lg (tidy c) w ↔ Lg c w)) (fun k s n l ih h w => ?_) c
  have hft := tidy_fmd _ h
  obtain ⟨hk, hf⟩ := kids_of h
  have hmap : ((mk k s n (l.map tidy)).fmd = true) := by
    simp only [fmd, Bool.and_eq_true, fmds_all, List.all_eq_true] at h ⊢
    refine ⟨by rw [List.length_map]; exact h.1, fun x hx => ?_⟩
    obtain ⟨y, hy, rfl⟩ := List.mem_map.1 hx
    exact tidy_fmd y (h.2 y hy)
  rw [tidy_eq, tidy1_lg hmap]
  cases hk with
  | k0 e => exact Iff.rfl
  | @k1 x e =>
    have hx := ih x (by simp) (hf x (by simp))
    rcases e with rfl | rfl | rfl
    · exact ⟨star_cong fun w => (hx w).1, star_cong fun w => (hx w).2⟩
    · simp only [List.map_cons, List.map_nil]; rw [lg67 (.inl rfl), lg67 (.inl rfl)]; exact hx w
    · simp only [List.map_cons, List.map_nil]; rw [lg67 (.inr rfl), lg67 (.inr rfl)]; exact hx w
  | @k2 x y e =>
    have hx := ih x (by simp) (hf x (by simp))
    have hy := ih y (by simp) (hf y (by simp))
    rcases e with rfl | rfl
    · simp only [List.map_cons, List.map_nil]; rw [lg3, lg3]
      constructor
      · rintro ⟨u, v, h, h1, h2⟩; exact ⟨u, v, h, (hx u).1 h1, (hy v).1 h2⟩
      · rintro ⟨u, v, h, h1, h2⟩; exact ⟨u, v, h, (hx u).2 h1, (hy v).2 h2⟩
    · simp only [List.map_cons, List.map_nil]; rw [lg4, lg4, hx w, hy w]
end Cor
end Go.Proofs.Ythdonefmfgnilaa
