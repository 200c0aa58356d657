/- What is left of a core behind a byte; cores tidied: in plain terms. -/
import Derived.Test.YthdonefmfgnilaaCorK
set_option linter.unusedSimpArgs false
set_option linter.unusedVariables false
set_option maxRecDepth 20000
namespace Go.Proofs.Ythdonefmfgnilaa
open Go Go.X

namespace Cor
abbrev none' : Cor := .mk 0 0 0 []
abbrev empty' : Cor := .mk 1 0 0 []
abbrev two (k : Int) (a b : Cor) : Cor := .mk k 0 0 [a, b]
mutual
/-- Says it the empty text? -/
def null : Cor → Bool
  | .mk k _ _ l => if k = 1 then true else if k = 5 then true else if k = 3 then nullN l 0 && nullN l 1 else if k = 4 then nullN l 0 || nullN l 1 else if k = 6 then nullN l 0 else if k = 7 then nullN l 0 else false
def nullN : List Cor → Nat → Bool
  | [], _ => false
  | c :: _, 0 => null c
  | _ :: l, i + 1 => nullN l i
end
mutual
/-- What is left behind a byte. -/
def by' : Cor → Nat → Cor
  | .mk k s n l, b =>
    if k = 2 then (if s.testBit b then empty' else none')
    else if k = 3 then
      (match l with
       | x :: y :: _ => if null x then two 4 (two 3 (byN l 0 b) y) (byN l 1 b) else two 3 (byN l 0 b) y
       | _ => none')
    else if k = 4 then two 4 (byN l 0 b) (byN l 1 b)
    else if k = 5 then two 3 (byN l 0 b) (.mk k s n l)
    else if k = 6 then byN l 0 b
    else if k = 7 then byN l 0 b
    else none'
def byN : List Cor → Nat → Nat → Cor
  | [], _, _ => none'
  | c :: _, 0, b => by' c b
  | _ :: l, i + 1, b => byN l i b
end
mutual
def same : Cor → Cor → Bool
  | .mk k s n l, .mk k' s' n' l' => decide (k = k') && (decide (s = s') && (decide (n = n') && sames l l'))
def sames : List Cor → List Cor → Bool
  | [], [] => true
  | a :: l, b :: l' => same a b && sames l l'
  | _, _ => false
end
theorem sames_iff : ∀ (l l' : List Cor), (∀ v ∈ l, ∀ w, same v w = true ↔ v = w) → (sames l l' = true ↔ l = l')
  | [], [], _ => by simp [sames]
  | [], _ :: _, _ => by simp [sames]
  | _ :: _, [], _ => by simp [sames]
  | a :: l, b :: l', h => by
    rw [sames, Bool.and_eq_true, h a (by simp), sames_iff l l' (fun v hv => h v (by simp [hv])), List.cons.injEq]
theorem same_iff (v : Cor) : ∀ w, same v w = true ↔ v = w := by
  refine ind (p := fun v => ∀ w, same v w = true ↔ v = w) (fun k s n l ih w => ?_) v
  obtain ⟨k', s', n', l'⟩ := w
  rw [same, Bool.and_eq_true, Bool.and_eq_true, Bool.and_eq_true, sames_iff l l' ih, decide_eq_true_iff, decide_eq_true_iff, decide_eq_true_iff, mk.injEq]
instance : DecidableEq Cor := fun a b => if h : same a b = true then isTrue ((same_iff a b).1 h) else isFalse fun e => h ((same_iff a b).2 e)
/-- A core tidied whose kids are tidied. -/
def tidy1 (k : Int) (s : Nat) (n : Int) (l : List Cor) : Cor :=
  if k = 2 then (if s = 0 then none' else .mk k s n l)
  else if k = 3 then
    (match l with
     | x :: y :: _ => if x.kind = 0 ∨ y.kind = 0 then none' else if x.kind = 1 then y else if y.kind = 1 then x else .mk k s n l
     | _ => .mk k s n l)
  else if k = 4 then
    (match l with
     | x :: y :: _ => if x.kind = 0 then y else if y.kind = 0 ∨ x = y then x else .mk k s n l
     | _ => .mk k s n l)
  else if k = 5 then
    (match l with
     | x :: _ => if x.kind = 0 ∨ x.kind = 1 then empty' else if x.kind = 5 then x else .mk k s n l
     | _ => .mk k s n l)
  else if k = 6 ∨ k = 7 then
    (match l with
     | x :: _ => x
     | _ => .mk k s n l)
  else .mk k s n l
mutual
def tidy : Cor → Cor
  | .mk k s n l => tidy1 k s n (tidys l)
def tidys : List Cor → List Cor
  | [] => []
  | x :: t => tidy x :: tidys t
end
theorem tidys_eq : ∀ l : List Cor, tidys l = l.map tidy
  | [] => rfl
  | x :: t => by rw [tidys, tidys_eq t]; rfl
theorem tidy_eq (k : Int) (s : Nat) (n : Int) (l : List Cor) : tidy (.mk k s n l) = tidy1 k s n (l.map tidy) := by rw [tidy, tidys_eq]

/-- What a core comes to whose kids are tidied. -/
theorem tidy1_cases (k : Int) (s : Nat) (n : Int) (l : List Cor) : tidy1 k s n l = none' ∨ tidy1 k s n l = empty' ∨ (∃ x ∈ l, tidy1 k s n l = x) ∨ (tidy1 k s n l = .mk k s n l ∧ (k = 6 ∨ k = 7 → l = [])) := by
  unfold tidy1
  by_cases k2 : k = 2
  · rw [if_pos k2]
    split
    · exact .inl rfl
    · exact .inr (.inr (.inr ⟨rfl, fun h => by omega⟩))
  rw [if_neg k2]
  by_cases k3 : k = 3
  · rw [if_pos k3]
    match l with
    | x :: y :: t =>
      simp only
      split
      · exact .inl rfl
      split
      · exact .inr (.inr (.inl ⟨y, by simp, rfl⟩))
      split
      · exact .inr (.inr (.inl ⟨x, by simp, rfl⟩))
      · exact .inr (.inr (.inr ⟨rfl, fun h => by omega⟩))
    | [] => exact .inr (.inr (.inr ⟨rfl, fun h => by omega⟩))
    | [x] => exact .inr (.inr (.inr ⟨rfl, fun h => by omega⟩))
  rw [if_neg k3]
  by_cases k4 : k = 4
  · rw [if_pos k4]
    match l with
    | x :: y :: t =>
      simp only
      split
      · exact .inr (.inr (.inl ⟨y, by simp, rfl⟩))
      split
      · exact .inr (.inr (.inl ⟨x, by simp, rfl⟩))
      · exact .inr (.inr (.inr ⟨rfl, fun h => by omega⟩))
    | [] => exact .inr (.inr (.inr ⟨rfl, fun h => by omega⟩))
    | [x] => exact .inr (.inr (.inr ⟨rfl, fun h => by omega⟩))
  rw [if_neg k4]
  by_cases k5 : k = 5
  · rw [if_pos k5]
    match l with
    | x :: t =>
      simp only
      split
      · exact .inr (.inl rfl)
      split
      · exact .inr (.inr (.inl ⟨x, by simp, rfl⟩))
      · exact .inr (.inr (.inr ⟨rfl, fun h => by omega⟩))
    | [] => exact .inr (.inr (.inr ⟨rfl, fun h => by omega⟩))
  rw [if_neg k5]
  by_cases k6 : k = 6 ∨ k = 7
  · rw [if_pos k6]
    match l with
    | x :: t => exact .inr (.inr (.inl ⟨x, by simp, rfl⟩))
    | [] => exact .inr (.inr (.inr ⟨rfl, fun h => rfl⟩))
  · rw [if_neg k6]
    exact .inr (.inr (.inr ⟨rfl, fun h => absurd h k6⟩))
theorem cnts_tidys (l : List Cor) (h : ∀ x ∈ l, (tidy x).cnt ≤ x.cnt) : cnts (l.map tidy) ≤ cnts l := by
  induction l with
  | nil => exact Nat.le_refl _
  | cons x t ih =>
    have h1 := h x (by simp)
    have h2 := ih fun y hy => h y (by simp [hy])
    simp only [List.map_cons, cnts]; omega
theorem tidy_cnt (c : Cor) : (tidy c).cnt ≤ c.cnt := by
  refine ind (p := fun c => (tidy c).cnt ≤ c.cnt) (fun k s n l ih => ?_) c
  have hl := cnts_tidys l ih
  rw [tidy_eq]
  rcases tidy1_cases k s n (l.map tidy) with h | h | ⟨x, hx, h⟩ | ⟨h, _⟩
  · rw [h]; simp only [cnt, cnts]; omega
  · rw [h]; simp only [cnt, cnts]; omega
  · rw [h]; have := cnt_mem hx; simp only [cnt]; omega
  · rw [h]; simp only [cnt]; omega
theorem tidy_fmd (c : Cor) : c.fmd = true → (tidy c).fmd = true := by
  refine ind (p := fun c => c.fmd = true → (tidy c).fmd = true) (fun k s n l ih hf => ?_) c
  simp only [fmd, Bool.and_eq_true, fmds_all, List.all_eq_true] at hf
  have hl : ∀ x ∈ l.map tidy, x.fmd = true := by
    intro x hx
    obtain ⟨y, hy, rfl⟩ := List.mem_map.1 hx
    exact ih y hy (hf.2 y hy)
  rw [tidy_eq]
  rcases tidy1_cases k s n (l.map tidy) with h | h | ⟨x, hx, h⟩ | ⟨h, _⟩
  · rw [h]; decide
  · rw [h]; decide
  · rw [h]; exact hl x hx
  · rw [h]
    simp only [fmd, Bool.and_eq_true, fmds_all, List.all_eq_true]
    exact ⟨by rw [List.length_map]; exact hf.1, hl⟩
theorem tidy_ok (c : Cor) : c.Ok → (tidy c).Ok := by
  refine ind (p := fun c => c.Ok → (tidy c).Ok) (fun k s n l ih hf => ?_) c
  have hl : ∀ x ∈ l.map tidy, x.Ok := by
    intro x hx
    obtain ⟨y, hy, rfl⟩ := List.mem_map.1 hx
    exact ih y hy ((oks_iff l).1 hf.2.2.2 y hy)
  rw [tidy_eq]
  rcases tidy1_cases k s n (l.map tidy) with h | h | ⟨x, hx, h⟩ | ⟨h, _⟩
  · rw [h]; exact ⟨by omega, by decide, by omega, trivial⟩
  · rw [h]; exact ⟨by omega, by decide, by omega, trivial⟩
  · rw [h]; exact hl x hx
  · rw [h]; exact ⟨hf.1, hf.2.1, hf.2.2.1, (oks_iff _).2 hl⟩

mutual
/-- Nothing in it can be tidied. -/
def td : Cor → Bool
  | .mk k s n l => tds l && (decide (tidy1 k s n l = .mk k s n l) && decide (k ≠ 6 ∧ k ≠ 7))
def tds : List Cor → Bool
  | [] => true
  | x :: t => td x && tds t
end
theorem by_eq (k : Int) (s : Nat) (n : Int) (l : List Cor) (b : Nat) : by' (.mk k s n l) b =
    if k = 2 then (if s.testBit b then empty' else none')
    else if k = 3 then
      (match l with
       | x :: y :: _ => if null x then two 4 (two 3 (byN l 0 b) y) (byN l 1 b) else two 3 (byN l 0 b) y
       | _ => none')
    else if k = 4 then two 4 (byN l 0 b) (byN l 1 b)
    else if k = 5 then two 3 (byN l 0 b) (.mk k s n l)
    else if k = 6 then byN l 0 b
    else if k = 7 then byN l 0 b
    else none' := by
  rw [by'.eq_def]
end Cor
end Go.Proofs.Ythdonefmfgnilaa
