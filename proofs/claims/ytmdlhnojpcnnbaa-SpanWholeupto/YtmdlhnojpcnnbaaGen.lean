/- Loops over rows. -/
import Derived.Test.YtmdlhnojpcnnbaaXC
set_option linter.unusedSimpArgs false
set_option linter.unusedVariables false
namespace Go.Proofs.Ytmdlhnojpcnnbaa
open Go Go.X

theorem dT {p : Prop} {i : Decidable p} (h : p) : @decide p i = true := decide_eq_true h
theorem vup {S A : Type} [Frc S] {body : (S → R) → S → R} (st : Nat → A → S) (I : Nat → A → Prop) {res : Nat → A → R} (N : Nat) (hN : ∀ nx a, I N a → body nx (st N a) = res N a)
    (h : ∀ i : Nat, i < N → ∀ nx a, I i a → (∀ a, I (i + 1) a → nx (st (i + 1) a) = res (i + 1) a) → body nx (st i a) = res i a) :
    ∀ (n i : Nat) (a : A), I i a → i ≤ N → N < n + i → loopR body n (st i a) = res i a
  | 0, i, a, hI, h1, h2 => by omega
  | n + 1, i, a, hI, h1, h2 => by
    unfold loopR
    rw [Frc.ok]
    by_cases hi : i = N
    · subst hi; exact hN _ _ hI
    · exact h i (by omega) _ a hI fun a hI' => vup st I N hN h n (i + 1) a hI' (by omega) (by omega)
theorem wrap_succ {i : Nat} (h : i < 1099511627777) : IntKind.wrap .i64 ((i : Int) + 1) = ((i + 1 : Nat) : Int) := by
  rw [wrap_i64] <;> omega
theorem drop_cons {α : Type} {ks : List α} {i : Nat} (h : i < ks.length) : ks.drop i = ks[i] :: ks.drop (i + 1) := by
  rw [List.drop_eq_getElem_cons h]

def fi {α : Type} (p : α → Bool) : Nat → List α → Int
  | _, [] => -1
  | i, x :: t => if p x then (i : Int) else fi p (i + 1) t
theorem fi_iff {α : Type} (p : α → Bool) : ∀ (i : Nat) (l : List α), (0 : Int) ≤ fi p i l ↔ l.any p = true
  | _, [] => by simp [fi]
  | i, x :: t => by
    have ih := fi_iff p (i + 1) t
    unfold fi
    by_cases h : p x = true
    · rw [if_pos h]; simp [h]
    · rw [if_neg h, ih]; simp [h]
theorem fi_any {α : Type} (p : α → Bool) (i : Nat) (l : List α) : decide ((0 : Int) ≤ fi p i l) = l.any p := by
  rw [Bool.eq_iff_iff, decide_eq_true_eq]; exact fi_iff p i l
theorem getD_map {α : Type} (f : α → PV) {l : List α} {i : Nat} (h : i < l.length) : List.getD (l.map f) ((i : Int)).toNat PV.nil = f l[i] := by
  simp [List.getD, h]
theorem idx_loop {α γ : Type} [Frc (Int × γ)] (pvf : α → PV) (l : List α) (p : α → Bool) (g : γ) (cF : PV → γ → (Bool → γ → R) → R) (ret : Int → γ → R) (body : (Int × γ → R) → Int × γ → R)
    (hbody : ∀ nx n g, body nx (n, g) = bif (decide (n < (List.length (l.map pvf) : Int))) then
      bif (true && decide ((0 : Int) ≤ n) && decide (n < (List.length (l.map pvf) : Int))) then
        cF (List.getD (l.map pvf) n.toNat PV.nil) g fun b g' => bif b then ret n g' else nx (IntKind.wrap .i64 (n + (1 : Int)), g')
      else none
    else ret (-1) g)
    (hF : ∀ x ∈ l, ∀ r, cF (pvf x) g r = r (p x) g) (hl : l.length ≤ 1099511627776) (n : Nat) (hn : l.length < n) :
    loopR body n ((0 : Int), g) = ret (fi p 0 l) g := by
  have := vup (body := body) (fun (i : Nat) (_ : Unit) => ((i : Int), g)) (fun i a => True) (res := fun i _ => ret (fi p i (l.drop i)) g) l.length ?_ ?_ n 0 () trivial (by omega) (by omega)
  · exact this
  · intro nx _ _
    rw [hbody, List.length_map, decide_eq_false (by omega), List.drop_length]; rfl
  · intro i hi nx _ _ hnx
    rw [hbody, List.length_map, decide_eq_true (show (i : Int) < (l.length : Int) by omega), decide_eq_true (show (0 : Int) ≤ (i : Int) by omega), getD_map pvf hi, wrap_succ (by omega)]
    simp only [Bool.and_self, cond_true]
    rw [hF _ (List.getElem_mem hi), drop_cons hi, hnx () trivial]
    simp only [fi]
    cases p l[i] <;> rfl

end Go.Proofs.Ytmdlhnojpcnnbaa
