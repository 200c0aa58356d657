/- What is read of a text is read of a longer one. -/
import Derived.Test.YtoefnbinfmbckaaTkT
set_option linter.unusedSimpArgs false
set_option linter.unusedVariables false
set_option maxRecDepth 20000
namespace Go.Proofs.Ytoefnbinfmbckaa
open Go Go.X

theorem hp_ext {s r : List Int} (t : List Int) (h : s.length ≤ r.length) : hp s (r ++ t) = hp s r := by
  unfold hp
  rw [List.take_append_of_le_length h, Bool.eq_iff_iff]
  simp only [Bool.and_eq_true, decide_eq_true_eq, List.length_append]
  constructor
  · rintro ⟨_, h2⟩; exact ⟨by omega, h2⟩
  · rintro ⟨_, h2⟩; exact ⟨by omega, h2⟩
theorem num_ext {r : List Int} (t : List Int) (h : (num' r).2 < r.length) : num' (r ++ t) = num' r := by
  unfold num' at h ⊢
  rw [List.takeWhile_append, if_neg (by simp only at h; omega)]
theorem drop_app {r t : List Int} {n : Nat} (h : n ≤ r.length) : (r ++ t).drop n = r.drop n ++ t := List.drop_append_of_le_length h
theorem hp1_len {c : Int} {r : List Int} (h : hp [c] r = true) : 1 ≤ r.length := by simpa using hp_len h
theorem often_ext {r t : List Int} {v : Int × Int} {c : Nat} (h : often' r = .ok v c) : often' (r ++ t) = .ok v c ∧ c ≤ r.length := by
  unfold often' at h ⊢
  by_cases hb : 255 < (num' r).1
  · rw [if_pos hb] at h; cases h
  rw [if_neg hb] at h
  have hn := num_len r
  cases hc : (decide (0 < (num' r).2) && hp [44] (r.drop (num' r).2)) with
  | true =>
    rw [hc, cond_true] at h
    simp only [Bool.and_eq_true, decide_eq_true_eq] at hc
    have g := hp1_len hc.2
    simp only [List.length_drop] at g
    rw [num_ext t (by omega), if_neg hb, drop_app (by omega), hp_ext t (by simp only [List.length_cons, List.length_nil, List.length_drop]; omega), hc.2, decide_eq_true hc.1]
    simp only [Bool.and_self, cond_true]
    by_cases hu : 255 < (num' (r.drop ((num' r).2 + 1))).1
    · rw [if_pos hu] at h; cases h
    rw [if_neg hu] at h
    have hn2 := num_len (r.drop ((num' r).2 + 1))
    simp only [List.length_drop] at hn2
    cases h125 : hp [125] (r.drop ((num' r).2 + 1 + (num' (r.drop ((num' r).2 + 1))).2)) with
    | false => rw [h125] at h; cases h
    | true =>
      have g2 := hp1_len h125
      simp only [List.length_drop] at g2
      rw [h125, cond_true] at h
      rw [drop_app (show (num' r).2 + 1 ≤ r.length by omega), num_ext t (by simp only [List.length_drop]; omega), if_neg hu, drop_app (by omega), hp_ext t (by simp only [List.length_cons, List.length_nil, List.length_drop]; omega), h125, cond_true]
      refine ⟨h, ?_⟩
      split at h
      · injection h with _ h; omega
      · split at h
        · cases h
        · injection h with _ h; omega
  | false =>
    rw [hc, cond_false] at h
    cases hd : (decide (0 < (num' r).2) && hp [125] (r.drop (num' r).2)) with
    | false => rw [hd] at h; cases h
    | true =>
      have hd' := hd
      simp only [Bool.and_eq_true, decide_eq_true_eq] at hd
      have g := hp1_len hd.2
      simp only [List.length_drop] at g
      rw [hd', cond_true] at h
      rw [num_ext t (by omega), if_neg hb, drop_app (by omega), hp_ext t (by simp only [List.length_cons, List.length_nil, List.length_drop]; omega), hp_ext t (by simp only [List.length_cons, List.length_nil, List.length_drop]; omega), hc, cond_false, hd', cond_true]
      refine ⟨h, ?_⟩
      injection h with _ h; omega
theorem escaped_ext {r t : List Int} {v c : Nat} (h : escaped' r = .ok v c) : escaped' (r ++ t) = .ok v c ∧ c ≤ r.length := by
  cases r with
  | nil => cases h
  | cons b l =>
    refine ⟨h, ?_⟩
    simp only [escaped'] at h
    split at h
    · cases h
    · split at h
      · cases h
      · injection h with _ h; simp only [List.length_cons]; omega
theorem end_ext {r : List Int} (t : List Int) (h : 2 ≤ r.length) : end' (r ++ t) = end' r := by
  match r, h with
  | b :: c :: l, _ =>
    have e : ∀ s : List Int, s.length = 2 → hp s (b :: c :: (l ++ t)) = hp s (b :: c :: l) := fun s hs => hp_ext (r := b :: c :: l) t (by simp only [List.length_cons]; omega)
    show end' (b :: c :: (l ++ t)) = _
    simp only [end', e [91, 58] rfl, e [91, 46] rfl, e [91, 61] rfl]
theorem preL_ext : ∀ {p l : List Int} (t : List Int), p.length ≤ l.length → preL p (l ++ t) = preL p l
  | [], _, _, _ => by simp [preL]
  | _ :: _, [], _, h => by simp at h
  | a :: p, b :: l, t, h => by
    simp only [List.length_cons] at h
    simp only [List.cons_append, preL, preL_ext t (show p.length ≤ l.length by omega)]
theorem idxL_ext : ∀ {l m : List Int} {n : Nat} (t : List Int), 1 ≤ m.length → idxL l m = .ofNat n → idxL (l ++ t) m = .ofNat n
  | [], [], n, t, hm, _ => by simp at hm
  | [], _ :: _, n, t, hm, h => by cases h
  | b :: l, m, n, t, hm, h => by
    have hlen := idxL_len h
    simp only [idxL] at h
    show idxL (b :: (l ++ t)) m = _
    simp only [idxL]
    have hp : preL m (b :: (l ++ t)) = preL m (b :: l) := preL_ext (l := b :: l) t (by omega)
    rw [hp]
    cases hq : preL m (b :: l) with
    | true => rw [hq] at h; exact h
    | false =>
      rw [hq, cond_false] at h
      rw [cond_false]
      cases hi : idxL l m with
      | ofNat j => rw [hi] at h; rw [idxL_ext t hm hi]; exact h
      | negSucc j => rw [hi] at h; cases h
theorem cutL_ext {s nm rest : List Int} (t : List Int) (h : cutL s [58, 93] = (nm, rest, true)) : ∃ rest', cutL (s ++ t) [58, 93] = (nm, rest', true) := by
  unfold cutL at h ⊢
  cases hi : idxL s [58, 93] with
  | ofNat n =>
    have hl := idxL_len hi
    simp only [List.length_cons, List.length_nil] at hl
    rw [hi] at h
    rw [idxL_ext t (by simp) hi]
    simp only [Prod.mk.injEq] at h ⊢
    exact ⟨_, by rw [List.take_append_of_le_length (by omega)]; exact h.1, rfl, trivial⟩
  | negSucc n => rw [hi] at h; simp at h
theorem item_ext {first : Bool} {r : List Int} {x c : Nat} (t : List Int) (h : item' first r = .ok x c) (hc : c < r.length) (h1 : 1 ≤ c) : item' first (r ++ t) = .ok x c := by
  have h2 : 2 ≤ r.length := by omega
  unfold item' at h ⊢
  rw [hp_ext t (by simp only [List.length_cons, List.length_nil]; omega)]
  cases h58 : hp [91, 58] r with
  | true =>
    rw [h58, cond_true] at h
    rw [cond_true, drop_app h2]
    cases hcut : cutL (r.drop 2) [58, 93] with
    | mk nm y =>
      obtain ⟨rest, ok⟩ := y
      rw [hcut] at h
      cases ok with
      | false => simp at h
      | true =>
        obtain ⟨rest', hcut'⟩ := cutL_ext t hcut
        rw [hcut']
        exact h
  | false =>
    rw [h58, cond_false] at h
    rw [cond_false, end_ext t h2]
    cases he : end' r with
    | err e => rw [he] at h; cases h
    | ok lo c1 =>
      rw [he] at h
      simp only at h ⊢
      have hr1 : 1 ≤ (r.drop 1).length := by simp only [List.length_drop]; omega
      rw [drop_app (show 1 ≤ r.length by omega), hp_ext t (by simpa using hr1), hp_ext t (by simpa using hr1)]
      cases hc1 : (decide (lo = 45) && (!first && !hp [93] (r.drop 1))) with
      | true => rw [hc1] at h; cases h
      | false =>
        rw [hc1, cond_false] at h
        rw [cond_false]
        cases h45 : hp [45] (r.drop 1) with
        | false => rw [h45] at h; exact h
        | true =>
          rw [h45] at h
          simp only [Bool.not_true, Bool.false_or] at h ⊢
          -- there is one more behind the dash, or nothing is read
          have h3 : 3 ≤ r.length := by
            rcases Nat.lt_or_ge r.length 3 with hlt | hge
            · exfalso
              have hl1 : hp [45, 93] (r.drop 1) = false := by
                cases hh : hp [45, 93] (r.drop 1) with
                | false => rfl
                | true =>
                  have := hp_len hh
                  simp only [List.length_cons, List.length_nil, List.length_drop] at this; omega
              rw [hl1, cond_false, List.drop_eq_nil_of_le (show r.length ≤ 2 by omega)] at h
              cases h
            · exact hge
          rw [hp_ext t (by simp only [List.length_cons, List.length_nil, List.length_drop]; omega)]
          cases h4593 : hp [45, 93] (r.drop 1) with
          | true => rw [h4593] at h; exact h
          | false =>
            rw [h4593, cond_false] at h
            rw [cond_false, drop_app (show 2 ≤ r.length by omega)]
            have h4 : 4 ≤ r.length := by
              cases he2 : end' (r.drop 2) with
              | err e => rw [he2] at h; cases h
              | ok hi c2 =>
                rw [he2] at h
                simp only at h
                split at h
                · cases h
                · injection h with _ h; omega
            rw [end_ext t (by simp only [List.length_drop]; omega)]
            exact h
theorem item_nil (first : Bool) : item' first [] = .err 2 := by cases first <;> rfl
theorem bl_nil (f : Nat) (s : Nat) : bl f false s [] = .err 2 := by
  cases f with
  | zero => rfl
  | succ f =>
    simp only [bl, item_nil]
    rfl
theorem bl_nilT (f : Nat) (s : Nat) : bl f true s [] = .err 2 := by
  cases f with
  | zero => rfl
  | succ f => simp only [bl, item_nil]; rfl
theorem bl_ext : ∀ (f : Nat) (first : Bool) (s : Nat) (r : List Int) (s' c : Nat), ByI r → bl f first s r = .ok s' c → c ≤ r.length ∧ ∀ (t : List Int) (g : Nat), f ≤ g → bl g first s (r ++ t) = .ok s' c
  | 0, _, _, _, _, _, _, h => by cases h
  | f + 1, first, s, r, s', c, hb, h => by
    simp only [bl] at h
    cases hc : (!first && hp [93] r) with
    | true =>
      rw [hc, cond_true] at h
      injection h with h1 h2
      subst h1; subst h2
      simp only [Bool.and_eq_true] at hc
      have g1 := hp1_len hc.2
      refine ⟨g1, fun t g hg => ?_⟩
      obtain ⟨g, rfl⟩ : ∃ g', g = g' + 1 := ⟨g - 1, by omega⟩
      simp only [bl, hp_ext t (show ([93] : List Int).length ≤ r.length by simpa using g1), hc.1, hc.2]
      rfl
    | false =>
      rw [hc, cond_false] at h
      cases hi : item' first r with
      | err e => rw [hi] at h; cases h
      | ok x c1 =>
        rw [hi] at h
        simp only at h
        obtain ⟨_, i1, i2⟩ := item_ok hb hi
        cases hr : bl f false (s ||| x) (r.drop c1) with
        | err e => rw [hr] at h; cases h
        | ok s2 c2 =>
          rw [hr] at h
          injection h with h1 h2
          subst h1; subst h2
          obtain ⟨j1, j2⟩ := bl_ext f false (s ||| x) (r.drop c1) s2 c2 (ByI.drop hb c1) hr
          simp only [List.length_drop] at j1
          have hlt : c1 < r.length := by
            rcases Nat.lt_or_ge c1 r.length with h | h
            · exact h
            · rw [List.drop_eq_nil_of_le h, bl_nil] at hr; cases hr
          refine ⟨by omega, fun t g hg => ?_⟩
          obtain ⟨g, rfl⟩ : ∃ g', g = g' + 1 := ⟨g - 1, by omega⟩
          simp only [bl, hp_ext t (show ([93] : List Int).length ≤ r.length by simp only [List.length_cons, List.length_nil]; omega), hc, cond_false, item_ext t hi hlt i1, drop_app i2, j2 t g (by omega)]
theorem bracket_ext {r t : List Int} {v c : Nat} (hb : ByI r) (h : bracket' r = .ok v c) : bracket' (r ++ t) = .ok v c ∧ c ≤ r.length := by
  unfold bracket' at h ⊢
  have hne : 1 ≤ r.length := by
    cases r with
    | nil => rw [show (if hp [94] ([] : List Int) then 1 else 0) = 0 by decide, List.drop_nil, bl_nilT] at h; cases h
    | cons _ _ => simp
  rw [hp_ext t (by simpa using hne)]
  have hd : (if hp [94] r then 1 else 0) ≤ r.length := by split <;> omega
  rw [drop_app hd]
  cases hr : bl (r.length + 2) true 0 (r.drop (if hp [94] r then 1 else 0)) with
  | err e => rw [hr] at h; cases h
  | ok s c1 =>
    rw [hr] at h
    obtain ⟨j1, j2⟩ := bl_ext _ _ _ _ _ _ (ByI.drop hb _) hr
    simp only [List.length_drop] at j1
    rw [j2 t _ (by simp only [List.length_append]; omega)]
    simp only at h ⊢
    refine ⟨h, ?_⟩
    by_cases hz : (if hp [94] r then notN s else s) = 0
    · rw [if_pos hz] at h; cases h
    · rw [if_neg hz] at h
      injection h with _ h
      generalize (if hp [94] r = true then 1 else 0) = q at *
      omega
/-- Ends it in what may yet become a bracket's beginning? -/
def Whole (r : List Int) : Prop := (∀ u, r ≠ u ++ [40]) ∧ ∀ u, r ≠ u ++ [40, 63]
theorem Whole.drop {r : List Int} (h : Whole r) (n : Nat) : Whole (r.drop n) :=
  ⟨fun u e => h.1 (r.take n ++ u) (by rw [List.append_assoc, ← e, List.take_append_drop]), fun u e => h.2 (r.take n ++ u) (by rw [List.append_assoc, ← e, List.take_append_drop])⟩
theorem open_ext {r : List Int} (t : List Int) (hw : Whole r) (hne : r ≠ []) : hp [40, 63, 58] (r ++ t) = hp [40, 63, 58] r := by
  match r, hne with
  | [b], _ =>
    have hb : ¬ b = 40 := fun e => hw.1 [] (by rw [e]; rfl)
    show hp [40, 63, 58] (b :: t) = _
    rw [hp_cons, hp_cons, decide_eq_false hb]; rfl
  | [b, c], _ =>
    have hb : ¬ (b = 40 ∧ c = 63) := fun e => hw.2 [] (by rw [e.1, e.2]; rfl)
    show hp [40, 63, 58] (b :: c :: t) = _
    rw [hp_cons, hp_cons, hp_cons, hp_cons]
    by_cases h1 : b = 40
    · rw [decide_eq_false (fun h2 => hb ⟨h1, h2⟩)]; simp
    · rw [decide_eq_false h1]; rfl
  | b :: c :: d :: l, _ => exact hp_ext t (by simp)
theorem one_ext {r t : List Int} {tk : Tk} {c : Nat} (hb : ByI r) (hw : Whole r) (h : one' r = .ok tk c) : one' (r ++ t) = .ok tk c ∧ c ≤ r.length := by
  match r with
  | [] => cases h
  | b :: l =>
    have ho := open_ext t hw (by simp)
    have hbl : ByI l := fun x hx => hb x (by simp [hx])
    show one' (b :: (l ++ t)) = _ ∧ _
    have ho : hp [40, 63, 58] (b :: (l ++ t)) = hp [40, 63, 58] (b :: l) := ho
    unfold one' at h ⊢
    simp only [ho] at h ⊢
    cases c1 : hp [40, 63, 58] (b :: l) with
    | true =>
      rw [c1, cond_true] at h
      refine ⟨h, ?_⟩
      have := hp_len c1
      injection h with _ h
      simp only [List.length_cons, List.length_nil] at this ⊢; omega
    | false =>
    rw [c1, cond_false] at h
    rw [cond_false]
    cases c2 : decide (b = 123) with
    | true =>
      rw [c2, cond_true] at h
      rw [cond_true]
      cases hr : often' l with
      | err e => rw [hr] at h; cases h
      | ok v d =>
        obtain ⟨j1, j2⟩ := often_ext (t := t) hr
        rw [hr] at h
        rw [j1]
        refine ⟨h, ?_⟩
        injection h with _ h; simp only [List.length_cons]; omega
    | false =>
    rw [c2, cond_false] at h
    rw [cond_false]
    cases c3 : decide (b = 92) with
    | true =>
      rw [c3, cond_true] at h
      rw [cond_true]
      cases hr : escaped' l with
      | err e => rw [hr] at h; cases h
      | ok v d =>
        obtain ⟨j1, j2⟩ := escaped_ext (t := t) hr
        rw [hr] at h
        rw [j1]
        refine ⟨h, ?_⟩
        injection h with _ h; simp only [List.length_cons]; omega
    | false =>
    rw [c3, cond_false] at h
    rw [cond_false]
    cases c4 : decide (b = 91) with
    | true =>
      rw [c4, cond_true] at h
      rw [cond_true]
      cases hr : bracket' l with
      | err e => rw [hr] at h; cases h
      | ok v d =>
        obtain ⟨j1, j2⟩ := bracket_ext (t := t) hbl hr
        rw [hr] at h
        rw [j1]
        refine ⟨h, ?_⟩
        injection h with _ h; simp only [List.length_cons]; omega
    | false =>
    rw [c4, cond_false] at h
    rw [cond_false]
    refine ⟨h, ?_⟩
    cases c5 : decide ((0 : Int) ≤ idxB lets b) with
    | true => rw [c5, cond_true] at h; injection h with _ h; simp only [List.length_cons]; omega
    | false => rw [c5, cond_false] at h; injection h with _ h; simp only [List.length_cons]; omega
theorem cutN_fuel : ∀ (f g off : Nat) (r : List Int), r.length < f → r.length < g → cutN f off r = cutN g off r
  | 0, _, _, _, h, _ => by omega
  | _ + 1, 0, _, _, _, h => by omega
  | f + 1, g + 1, off, [], _, _ => rfl
  | f + 1, g + 1, off, b :: t, h1, h2 => by
    simp only [cutN]
    cases ho : one' (b :: t) with
    | err e => rfl
    | ok tk c =>
      have hp := one_pos ho
      simp only [List.length_cons] at h1 h2
      have := cutN_fuel f g (off + c) ((b :: t).drop c) (by simp only [List.length_drop, List.length_cons]; omega) (by simp only [List.length_drop, List.length_cons]; omega)
      simp only [this]
theorem cutN_shift (d : Nat) : ∀ (f off : Nat) (r : List Int), cutN f (off + d) r = match cutN f off r with | .inl x => .inl (x.1 + d, x.2) | .inr l => .inr (l.map fun x => (x.1, x.2 + d))
  | 0, _, _ => rfl
  | f + 1, off, [] => rfl
  | f + 1, off, b :: t => by
    simp only [cutN]
    cases ho : one' (b :: t) with
    | err e => rfl
    | ok tk c =>
      have := cutN_shift d f (off + c) ((b :: t).drop c)
      simp only [show off + d + c = off + c + d by omega, this]
      cases cutN f (off + c) ((b :: t).drop c) with
      | inl x => rfl
      | inr l => rfl
theorem cutN_app (t : List Int) : ∀ (f off : Nat) (r : List Int) (l : List (Tk × Nat)), r.length < f → ByI r → Whole r → cutN f off r = .inr l →
    ∀ g, (r ++ t).length < g → cutN g off (r ++ t) = match cutN (t.length + 1) (off + r.length) t with | .inl x => .inl x | .inr l2 => .inr (l ++ l2)
  | 0, _, _, _, h, _, _, _, _, _ => by omega
  | f + 1, off, [], l, _, _, _, h, g, hg => by
    simp only [cutN, Sum.inr.injEq] at h
    subst h
    rw [List.nil_append] at hg ⊢
    rw [cutN_fuel g (t.length + 1) off t hg (by omega)]
    simp only [List.length_nil, Nat.add_zero]
    cases cutN (t.length + 1) off t <;> rfl
  | f + 1, off, b :: r, l, hf, hb, hw, h, g, hg => by
    obtain ⟨g, rfl⟩ : ∃ g', g = g' + 1 := ⟨g - 1, by omega⟩
    simp only [cutN] at h
    cases ho : one' (b :: r) with
    | err e => rw [ho] at h; cases h
    | ok tk c =>
      rw [ho] at h
      simp only at h
      obtain ⟨j1, j2⟩ := one_ext (t := t) hb hw ho
      have hp := one_pos ho
      cases hr : cutN f (off + c) ((b :: r).drop c) with
      | inl x => rw [hr] at h; cases h
      | inr l1 =>
        rw [hr] at h
        simp only [Sum.inr.injEq] at h
        subst h
        simp only [List.length_cons, List.length_append] at hf hg j2
        have ih := cutN_app t f (off + c) ((b :: r).drop c) l1 (by simp only [List.length_drop, List.length_cons]; omega) (ByI.drop hb c) (Whole.drop hw c) hr g (by simp only [List.length_append, List.length_drop, List.length_cons]; omega)
        have j1 : one' (b :: (r ++ t)) = .ok tk c := j1
        show cutN (g + 1) off (b :: (r ++ t)) = _
        have e : (b :: (r ++ t)).drop c = (b :: r).drop c ++ t := drop_app (r := b :: r) (by simp only [List.length_cons]; omega)
        have e2 : off + c + ((b :: r).drop c).length = off + (b :: r).length := by simp only [List.length_drop, List.length_cons]; omega
        rw [e2] at ih
        generalize cutN (t.length + 1) (off + (b :: r).length) t = X at ih ⊢
        simp only [cutN, j1]
        rw [e, ih]
        cases X <;> rfl
end Go.Proofs.Ytoefnbinfmbckaa
