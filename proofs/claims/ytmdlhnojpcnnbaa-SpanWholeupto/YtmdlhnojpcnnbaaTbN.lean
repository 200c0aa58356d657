/- The parts of a core in a row, by their numbers; where what a core says from a place on may end: in plain terms. -/
import Derived.Test.YtmdlhnojpcnnbaaCorKi
set_option linter.unusedSimpArgs false
set_option linter.unusedVariables false
namespace Go.Proofs.Ytmdlhnojpcnnbaa
open Go Go.X

namespace Cor
def nums : Nat → List Cor → List Nat
  | _, [] => []
  | b, c :: l => b :: nums (b + c.cnt) l
mutual
def flat : Cor → Nat → List (Cor × List Nat)
  | .mk k s n l, b => (.mk k s n l, nums (b + 1) l) :: flats l (b + 1)
def flats : List Cor → Nat → List (Cor × List Nat)
  | [], _ => []
  | c :: l, b => flat c b ++ flats l (b + c.cnt)
end
mutual
def At (P : List (Cor × List Nat)) : Cor → Nat → Prop
  | .mk k s n l, i => ∃ ks, P[i]? = some (.mk k s n l, ks) ∧ Ats P l ks
def Ats (P : List (Cor × List Nat)) : List Cor → List Nat → Prop
  | [], ks => ks = []
  | c :: l, ks => ∃ i t, ks = i :: t ∧ At P c i ∧ Ats P l t
end
theorem nums_length : ∀ (b : Nat) (l : List Cor), (nums b l).length = l.length
  | _, [] => rfl
  | b, c :: l => by simp only [nums, List.length_cons, nums_length]
theorem flat_length (c : Cor) : ∀ b, (flat c b).length = c.cnt := by
  refine Cor.rec (motive_1 := fun c => ∀ b, (flat c b).length = c.cnt) (motive_2 := fun l => ∀ b, (flats l b).length = cnts l) (fun k s n l ih b => ?_) (fun b => rfl) (fun c l h1 h2 b => ?_) c
  · simp only [flat, List.length_cons, ih, cnt]; omega
  · simp only [flats, List.length_append, h1, h2, cnts]
theorem flats_length : ∀ (l : List Cor) (b : Nat), (flats l b).length = cnts l
  | [], _ => rfl
  | c :: l, b => by simp only [flats, List.length_append, flat_length, flats_length l, cnts]
theorem At_flat (c : Cor) : ∀ (A B : List (Cor × List Nat)), At (A ++ flat c A.length ++ B) c A.length := by
  refine Cor.rec (motive_1 := fun c => ∀ (A B : List (Cor × List Nat)), At (A ++ flat c A.length ++ B) c A.length) (motive_2 := fun l => ∀ (A B : List (Cor × List Nat)), Ats (A ++ flats l A.length ++ B) l (nums A.length l)) (fun k s n l ih A B => ?_) (fun A B => rfl) (fun c l h1 h2 A B => ?_) c
  · simp only [At, flat]
    refine ⟨nums (A.length + 1) l, by simp, ?_⟩
    have := ih (A ++ [(.mk k s n l, nums (A.length + 1) l)]) B
    simpa [List.append_assoc] using this
  · simp only [Ats, flats, nums]
    refine ⟨_, _, rfl, ?_, ?_⟩
    · have := h1 A (flats l (A.length + c.cnt) ++ B)
      simpa [List.append_assoc] using this
    · have := h2 (A ++ flat c A.length) B
      simpa [List.append_assoc, flat_length] using this
theorem At_lt {P : List (Cor × List Nat)} {c : Cor} {i : Nat} (h : At P c i) : i < P.length := by
  cases c with
  | mk k s n l =>
    obtain ⟨ks, h, _⟩ := h
    exact (List.getElem?_eq_some_iff.1 h).1

theorem nums_mem : ∀ (l : List Cor) (b x : Nat), x ∈ nums b l → b ≤ x ∧ x < b + cnts l
  | [], _, _, h => by cases h
  | c :: l, b, x, h => by
    have hc := cnt_pos c
    simp only [nums, List.mem_cons] at h
    simp only [cnts]
    rcases h with rfl | h
    · omega
    · have := nums_mem l _ _ h; omega
theorem flat_kids (c : Cor) : ∀ (b i : Nat) (d : Cor) (ks : List Nat), (flat c b)[i]? = some (d, ks) → ∀ x ∈ ks, b + i < x ∧ x < b + c.cnt := by
  refine Cor.rec (motive_1 := fun c => ∀ (b i : Nat) (d : Cor) (ks : List Nat), (flat c b)[i]? = some (d, ks) → ∀ x ∈ ks, b + i < x ∧ x < b + c.cnt)
    (motive_2 := fun l => ∀ (b i : Nat) (d : Cor) (ks : List Nat), (flats l b)[i]? = some (d, ks) → ∀ x ∈ ks, b + i < x ∧ x < b + cnts l)
    (fun k s n l ih b i d ks h x hx => ?_) (fun b i d ks h => by simp [flats] at h) (fun c l h1 h2 b i d ks h x hx => ?_) c
  · simp only [flat] at h
    simp only [cnt]
    cases i with
    | zero =>
      simp only [List.getElem?_cons_zero, Option.some.injEq, Prod.mk.injEq] at h
      obtain ⟨-, rfl⟩ := h
      have := nums_mem _ _ _ hx; omega
    | succ i =>
      simp only [List.getElem?_cons_succ] at h
      have := ih _ _ _ _ h x hx; omega
  · simp only [flats, List.getElem?_append, flat_length] at h
    simp only [cnts]
    split at h
    · have := h1 _ _ _ _ h x hx; omega
    · have := h2 _ _ _ _ h x hx; omega
theorem nums_cover : ∀ (l : List Cor) (b : Nat), (∀ x ∈ l, ∀ b j, b < j → j < b + x.cnt → ∃ i d ks, (flat x b)[i]? = some (d, ks) ∧ j ∈ ks ∧ b + i < j) → ∀ j, b ≤ j → j < b + cnts l → j ∈ nums b l ∨ ∃ i d ks, (flats l b)[i]? = some (d, ks) ∧ j ∈ ks ∧ b + i < j
  | [], b, _, j, h1, h2 => by simp [cnts] at h2; omega
  | c :: l, b, ih, j, h1, h2 => by
    simp only [cnts] at h2
    by_cases e : j = b
    · subst e; exact .inl (by simp [nums])
    by_cases hj : j < b + c.cnt
    · obtain ⟨i, d, ks, h, hm, hi⟩ := ih c (by simp) b j (by omega) hj
      refine .inr ⟨i, d, ks, ?_, hm, hi⟩
      simp only [flats]
      have hlt : i < (flat c b).length := (List.getElem?_eq_some_iff.1 h).1
      rw [List.getElem?_append_left hlt]; exact h
    · rcases nums_cover l (b + c.cnt) (fun x hx => ih x (by simp [hx])) j (by omega) (by omega) with h | ⟨i, d, ks, h, hm, hi⟩
      · exact .inl (by simp [nums, h])
      · refine .inr ⟨c.cnt + i, d, ks, ?_, hm, by omega⟩
        simp only [flats]
        rw [List.getElem?_append_right (by rw [flat_length]; omega), flat_length, Nat.add_sub_cancel_left]; exact h
theorem flat_cover (c : Cor) : ∀ b j, b < j → j < b + c.cnt → ∃ i d ks, (flat c b)[i]? = some (d, ks) ∧ j ∈ ks ∧ b + i < j := by
  refine ind (p := fun c => ∀ b j, b < j → j < b + c.cnt → ∃ i d ks, (flat c b)[i]? = some (d, ks) ∧ j ∈ ks ∧ b + i < j) (fun k s n l ih b j h1 h2 => ?_) c
  simp only [cnt] at h2
  rcases nums_cover l (b + 1) ih j (by omega) (by omega) with h | ⟨i, d, ks, h, hm, hi⟩
  · exact ⟨0, .mk k s n l, nums (b + 1) l, by simp [flat], h, by omega⟩
  · exact ⟨i + 1, d, ks, by simp [flat, h], hm, by omega⟩
theorem flat_mem (c : Cor) : ∀ (b i : Nat) (d : Cor) (ks : List Nat), (flat c b)[i]? = some (d, ks) → ks.length = d.kidl.length := by
  refine Cor.rec (motive_1 := fun c => ∀ (b i : Nat) (d : Cor) (ks : List Nat), (flat c b)[i]? = some (d, ks) → ks.length = d.kidl.length)
    (motive_2 := fun l => ∀ (b i : Nat) (d : Cor) (ks : List Nat), (flats l b)[i]? = some (d, ks) → ks.length = d.kidl.length)
    (fun k s n l ih b i d ks h => ?_) (fun b i d ks h => by simp [flats] at h) (fun c l h1 h2 b i d ks h => ?_) c
  · simp only [flat] at h
    cases i with
    | zero =>
      simp only [List.getElem?_cons_zero, Option.some.injEq, Prod.mk.injEq] at h
      obtain ⟨rfl, rfl⟩ := h
      simp [nums_length]
    | succ i =>
      simp only [List.getElem?_cons_succ] at h
      exact ih _ _ _ _ h
  · simp only [flats, List.getElem?_append, flat_length] at h
    split at h
    · exact h1 _ _ _ _ h
    · exact h2 _ _ _ _ h
theorem flat_all {p : Cor → Prop} (hk : ∀ c, p c → ∀ x ∈ c.kidl, p x) (c : Cor) : ∀ (b i : Nat) (d : Cor) (ks : List Nat), p c → (flat c b)[i]? = some (d, ks) → p d := by
  refine Cor.rec (motive_1 := fun c => ∀ (b i : Nat) (d : Cor) (ks : List Nat), p c → (flat c b)[i]? = some (d, ks) → p d)
    (motive_2 := fun l => ∀ (b i : Nat) (d : Cor) (ks : List Nat), (∀ x ∈ l, p x) → (flats l b)[i]? = some (d, ks) → p d)
    (fun k s n l ih b i d ks hp h => ?_) (fun b i d ks hp h => by simp [flats] at h) (fun c l h1 h2 b i d ks hp h => ?_) c
  · simp only [flat] at h
    cases i with
    | zero =>
      simp only [List.getElem?_cons_zero, Option.some.injEq, Prod.mk.injEq] at h
      obtain ⟨rfl, rfl⟩ := h
      exact hp
    | succ i =>
      simp only [List.getElem?_cons_succ] at h
      exact ih _ _ _ _ (fun x hx => hk _ hp x hx) h
  · simp only [flats, List.getElem?_append, flat_length] at h
    split at h
    · exact h1 _ _ _ _ (hp _ (by simp)) h
    · exact h2 _ _ _ _ (fun x hx => hp x (by simp [hx])) h

def bothE (n : Nat) (m : Nat) (f : Nat → Nat) (i : Nat) : Nat := (List.range' i (n + 1 - i)).foldl (fun a k => if m.testBit k then a ||| f k else a) 0
def starE (n : Nat) (f : Nat → Nat) (i : Nat) : Nat := (List.range' i (n + 1 - i)).foldl (fun a k => if a.testBit k then a ||| f k else a) (2 ^ i)
mutual
def ends (s : List Nat) : Cor → Nat → Nat
  | .mk k t _ l, i =>
    if k = 1 then 2 ^ i
    else if k = 2 then (if i < s.length ∧ t.testBit (s.getD i 0) = true then 2 ^ (i + 1) else 0)
    else if k = 3 then bothE s.length (endsN s l 0 i) (endsN s l 1) i
    else if k = 4 then endsN s l 0 i ||| endsN s l 1 i
    else if k = 5 then starE s.length (endsN s l 0) i
    else if k = 6 then endsN s l 0 i
    else if k = 7 then endsN s l 0 i
    else 0
def endsN (s : List Nat) : List Cor → Nat → Nat → Nat
  | [], _, _ => 0
  | c :: _, 0, i => ends s c i
  | _ :: l, j + 1, i => endsN s l j i
end
theorem ends1 (s : List Nat) (t : Nat) (n : Int) (l : List Cor) (i : Nat) : ends s (.mk 1 t n l) i = 2 ^ i := by simp [ends]
theorem ends2 (s : List Nat) (t : Nat) (n : Int) (l : List Cor) (i : Nat) : ends s (.mk 2 t n l) i = if i < s.length ∧ t.testBit (s.getD i 0) = true then 2 ^ (i + 1) else 0 := by simp [ends]
theorem ends3 (s : List Nat) (t : Nat) (n : Int) (x y : Cor) (i : Nat) : ends s (.mk 3 t n [x, y]) i = bothE s.length (ends s x i) (ends s y) i := by
  have h : endsN s [x, y] 1 = ends s y := by funext j; simp [endsN]
  simp [ends, endsN, h]
theorem ends4 (s : List Nat) (t : Nat) (n : Int) (x y : Cor) (i : Nat) : ends s (.mk 4 t n [x, y]) i = ends s x i ||| ends s y i := by simp [ends, endsN]
theorem ends5 (s : List Nat) (t : Nat) (n : Int) (x : Cor) (i : Nat) : ends s (.mk 5 t n [x]) i = starE s.length (ends s x) i := by
  have h : endsN s [x] 0 = ends s x := by funext j; simp [endsN]
  simp [ends, h]
theorem ends67 (s : List Nat) (k : Int) (t : Nat) (n : Int) (x : Cor) (i : Nat) (hk : k = 6 ∨ k = 7) : ends s (.mk k t n [x]) i = ends s x i := by
  rcases hk with rfl | rfl <;> simp [ends, endsN]
theorem ends0 (s : List Nat) (t : Nat) (n : Int) (l : List Cor) (i : Nat) : ends s (.mk 0 t n l) i = 0 := by simp [ends]

theorem foldl_ge {f : Nat → Nat} {p : Nat → Nat → Bool} {lo : Nat} : ∀ (l : List Nat) (a : Nat), (∀ j, a.testBit j = true → lo ≤ j) → (∀ k ∈ l, ∀ j, (f k).testBit j = true → lo ≤ j) → ∀ j, (l.foldl (fun a k => if p a k = true then a ||| f k else a) a).testBit j = true → lo ≤ j
  | [], a, h, _, j, hj => h j hj
  | k :: l, a, h, hf, j, hj => by
    refine foldl_ge l _ ?_ (fun k hk => hf k (by simp [hk])) j hj
    intro j hj
    simp only at hj
    split at hj
    · rw [Nat.testBit_or, Bool.or_eq_true] at hj
      rcases hj with hj | hj
      · exact h j hj
      · exact hf k (by simp) j hj
    · exact h j hj
theorem two_pow_ge {i j : Nat} (h : (2 ^ i).testBit j = true) : i = j := by
  rw [Nat.testBit_two_pow] at h; simpa using h
theorem ends_ge (s : List Nat) (c : Cor) : c.fmd = true → ∀ i j, (ends s c i).testBit j = true → i ≤ j := by
  refine ind (p := fun c => c.fmd = true → ∀ i j, (ends s c i).testBit j = true → i ≤ j) (fun k t n l ih h i j hj => ?_) c
  obtain ⟨hk, hf⟩ := kids_of h
  cases hk with
  | k0 e =>
    rcases e with rfl | rfl | rfl
    · rw [ends0] at hj; simp at hj
    · rw [ends1] at hj; have := two_pow_ge hj; omega
    · rw [ends2] at hj
      split at hj
      · have := two_pow_ge hj; omega
      · simp at hj
  | @k1 x e =>
    have hx := ih x (by simp) (hf x (by simp))
    rcases e with rfl | rfl | rfl
    · rw [ends5, starE] at hj
      refine foldl_ge (f := ends s x) (p := fun a k => a.testBit k) _ _ (fun j hj => by have := two_pow_ge hj; omega) (fun k hk j hj => ?_) j hj
      have := hx k j hj
      have := List.mem_range'_1.1 hk
      omega
    · rw [ends67 _ _ _ _ _ _ (.inl rfl)] at hj; exact hx i j hj
    · rw [ends67 _ _ _ _ _ _ (.inr rfl)] at hj; exact hx i j hj
  | @k2 x y e =>
    have hx := ih x (by simp) (hf x (by simp))
    have hy := ih y (by simp) (hf y (by simp))
    rcases e with rfl | rfl
    · rw [ends3, bothE] at hj
      refine foldl_ge (f := ends s y) (p := fun a k => (ends s x i).testBit k) _ _ (fun j hj => by simp at hj) (fun k hk j hj => ?_) j hj
      have := hy k j hj
      have := List.mem_range'_1.1 hk
      omega
    · rw [ends4, Nat.testBit_or, Bool.or_eq_true] at hj
      rcases hj with hj | hj
      · exact hx i j hj
      · exact hy i j hj
theorem foldl_both {f : Nat → Nat} {p : Nat → Bool} : ∀ (l : List Nat) (a j : Nat), (l.foldl (fun a k => if p k = true then a ||| f k else a) a).testBit j = (a.testBit j || l.any fun k => p k && (f k).testBit j)
  | [], a, j => by simp
  | k :: l, a, j => by
    simp only [List.foldl_cons, List.any_cons]
    rw [foldl_both l]
    cases p k <;> simp [Nat.testBit_or, Bool.or_assoc]
theorem both_bit (n m : Nat) (f : Nat → Nat) (i j : Nat) : (bothE n m f i).testBit j = (List.range' i (n + 1 - i)).any fun k => m.testBit k && (f k).testBit j := by
  rw [bothE, foldl_both]; simp
end Cor
end Go.Proofs.Ytmdlhnojpcnnbaa
