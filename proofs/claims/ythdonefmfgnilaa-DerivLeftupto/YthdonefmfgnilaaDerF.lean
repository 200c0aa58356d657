/- What a core says begins with: in plain terms; what is left behind a byte says something just if something begins with it. -/
import Derived.Test.YthdonefmfgnilaaDerN
import Derived.Test.YthdonefmfgnilaaCorKi
set_option linter.unusedSimpArgs false
set_option linter.unusedVariables false
set_option maxRecDepth 20000
namespace Go.Proofs.Ythdonefmfgnilaa
open Go Go.X

namespace Cor
mutual
/-- Says it anything? -/
def says : Cor → Bool
  | .mk k s _ l => if k = 0 then false else if k = 2 then decide (s ≠ 0) else if k = 3 then saysN l 0 && saysN l 1 else if k = 4 then saysN l 0 || saysN l 1 else if k = 6 then saysN l 0 else if k = 7 then saysN l 0 else true
def saysN : List Cor → Nat → Bool
  | [], _ => false
  | c :: _, 0 => says c
  | _ :: l, i + 1 => saysN l i
end
mutual
/-- With what it begins. -/
def first : Cor → Nat
  | .mk k s _ l => if k = 2 then s else if k = 3 then (if !saysN l 0 || !saysN l 1 then 0 else if nullN l 0 then firstN l 0 ||| firstN l 1 else firstN l 0) else if k = 4 then firstN l 0 ||| firstN l 1 else if k = 5 then firstN l 0 else if k = 6 then firstN l 0 else if k = 7 then firstN l 0 else 0
def firstN : List Cor → Nat → Nat
  | [], _ => 0
  | c :: _, 0 => first c
  | _ :: l, i + 1 => firstN l i
end
theorem null3 (s : Nat) (n : Int) (x y : Cor) : null (.mk 3 s n [x, y]) = (null x && null y) := by simp [null, nullN]
theorem null4 (s : Nat) (n : Int) (x y : Cor) : null (.mk 4 s n [x, y]) = (null x || null y) := by simp [null, nullN]
theorem by3 (s : Nat) (n : Int) (x y : Cor) (b : Nat) : by' (.mk 3 s n [x, y]) b = bif null x then two 4 (two 3 (by' x b) y) (by' y b) else two 3 (by' x b) y := by
  rw [by_eq]
  rcases Bool.eq_false_or_eq_true (null x) with h3 | h3 <;> simp [h3, byN]
theorem by4 (s : Nat) (n : Int) (x y : Cor) (b : Nat) : by' (.mk 4 s n [x, y]) b = two 4 (by' x b) (by' y b) := by
  rw [by_eq]; simp [byN]
theorem by0 (k : Int) (s : Nat) (n : Int) (b : Nat) (h : k = 0 ∨ k = 1) : by' (.mk k s n []) b = none' := by
  rw [by_eq]; rcases h with rfl | rfl <;> simp
theorem by2 (s : Nat) (n : Int) (b : Nat) : by' (.mk 2 s n []) b = bif s.testBit b then empty' else none' := by
  rw [by_eq, if_pos rfl]; cases s.testBit b <;> rfl
theorem by5 (s : Nat) (n : Int) (x : Cor) (b : Nat) : by' (.mk 5 s n [x]) b = two 3 (by' x b) (.mk 5 s n [x]) := by
  rw [by_eq]; simp [byN]
theorem by6 (k : Int) (s : Nat) (n : Int) (x : Cor) (b : Nat) (h : k = 6 ∨ k = 7) : by' (.mk k s n [x]) b = by' x b := by
  rw [by_eq]; rcases h with rfl | rfl <;> simp [byN]

/-- What is left behind a byte is well formed, and not too great. -/
theorem by_fmd (b : Nat) (c : Cor) : c.fmd = true → (by' c b).fmd = true := by
  refine ind (p := fun c => c.fmd = true → (by' c b).fmd = true) (fun k s n l ih h => ?_) c
  obtain ⟨hk, hf⟩ := kids_of h
  have two3 : ∀ x y : Cor, x.fmd = true → y.fmd = true → (two 3 x y).fmd = true := fun x y hx hy => by simp [fmd, fmds, nodeOk, partsI, hx, hy]
  have two4 : ∀ x y : Cor, x.fmd = true → y.fmd = true → (two 4 x y).fmd = true := fun x y hx hy => by simp [fmd, fmds, nodeOk, partsI, hx, hy]
  have n0 : none'.fmd = true := by decide
  have e0 : empty'.fmd = true := by decide
  cases hk with
  | k0 e =>
    rcases e with rfl | rfl | rfl
    · rw [by0 _ _ _ _ (.inl rfl)]; exact n0
    · rw [by0 _ _ _ _ (.inr rfl)]; exact n0
    · rw [by2]; cases s.testBit b <;> assumption
  | @k1 x e =>
    have hx := ih x (by simp) (hf x (by simp))
    rcases e with rfl | rfl | rfl
    · rw [by5]; exact two3 _ _ hx h
    · rw [by6 _ _ _ _ _ (.inl rfl)]; exact hx
    · rw [by6 _ _ _ _ _ (.inr rfl)]; exact hx
  | @k2 x y e =>
    have hx := ih x (by simp) (hf x (by simp))
    have hy := ih y (by simp) (hf y (by simp))
    rcases e with rfl | rfl
    · rw [by3]
      cases null x
      · exact two3 _ _ hx (hf y (by simp))
      · exact two4 _ _ (two3 _ _ hx (hf y (by simp))) hy
    · rw [by4]; exact two4 _ _ hx hy
theorem by_ok (b : Nat) (c : Cor) : c.fmd = true → c.Ok → (by' c b).Ok := by
  refine ind (p := fun c => c.fmd = true → c.Ok → (by' c b).Ok) (fun k s n l ih h ho => ?_) c
  obtain ⟨hk, hf⟩ := kids_of h
  have kid : ∀ x ∈ l, x.Ok := (oks_iff l).1 ho.2.2.2
  have twok : ∀ (k : Int) (x y : Cor), k = 3 ∨ k = 4 → x.Ok → y.Ok → (two k x y).Ok := fun k x y hk hx hy => ⟨by omega, by decide, by omega, hx, hy, trivial⟩
  have n0 : none'.Ok := ⟨by omega, by decide, by omega, trivial⟩
  have e0 : empty'.Ok := ⟨by omega, by decide, by omega, trivial⟩
  cases hk with
  | k0 e =>
    rcases e with rfl | rfl | rfl
    · rw [by0 _ _ _ _ (.inl rfl)]; exact n0
    · rw [by0 _ _ _ _ (.inr rfl)]; exact n0
    · rw [by2]; cases s.testBit b <;> assumption
  | @k1 x e =>
    have hx := ih x (by simp) (hf x (by simp)) (kid x (by simp))
    rcases e with rfl | rfl | rfl
    · rw [by5]; exact twok 3 _ _ (.inl rfl) hx ho
    · rw [by6 _ _ _ _ _ (.inl rfl)]; exact hx
    · rw [by6 _ _ _ _ _ (.inr rfl)]; exact hx
  | @k2 x y e =>
    have hx := ih x (by simp) (hf x (by simp)) (kid x (by simp))
    have hy := ih y (by simp) (hf y (by simp)) (kid y (by simp))
    rcases e with rfl | rfl
    · rw [by3]
      cases null x
      · exact twok 3 _ _ (.inl rfl) hx (kid y (by simp))
      · exact twok 4 _ _ (.inr rfl) (twok 3 _ _ (.inl rfl) hx (kid y (by simp))) hy
    · rw [by4]; exact twok 4 _ _ (.inr rfl) hx hy
theorem by_cnt (b : Nat) (c : Cor) : c.fmd = true → (by' c b).cnt ≤ 2 * c.cnt * c.cnt := by
  refine ind (p := fun c => c.fmd = true → (by' c b).cnt ≤ 2 * c.cnt * c.cnt) (fun k s n l ih h => ?_) c
  obtain ⟨hk, hf⟩ := kids_of h
  cases hk with
  | k0 e =>
    have : (mk k s n []).cnt = 1 := by simp [cnt, cnts]
    rcases e with rfl | rfl | rfl
    · rw [this, by0 _ _ _ _ (.inl rfl)]; simp [cnt, cnts]
    · rw [this, by0 _ _ _ _ (.inr rfl)]; simp [cnt, cnts]
    · rw [this, by2]; cases s.testBit b <;> simp [cnt, cnts]
  | @k1 x e =>
    have hx := ih x (by simp) (hf x (by simp))
    have hp := cnt_pos x
    have hc : (mk k s n [x]).cnt = x.cnt + 1 := by simp only [cnt, cnts]; omega
    have hsq : 2 * (x.cnt + 1) * (x.cnt + 1) = 2 * x.cnt * x.cnt + 4 * x.cnt + 2 := by
      generalize x.cnt = p
      have : 2 * (p + 1) * (p + 1) = 2 * p * p + 2 * p + (2 * p + 2) := by
        simp only [Nat.mul_add, Nat.add_mul, Nat.mul_one, Nat.one_mul]
      omega
    rw [hc, hsq]
    rcases e with rfl | rfl | rfl
    · rw [by5]; simp only [cnt, cnts] at hx ⊢; omega
    · rw [by6 _ _ _ _ _ (.inl rfl)]; omega
    · rw [by6 _ _ _ _ _ (.inr rfl)]; omega
  | @k2 x y e =>
    have hx := ih x (by simp) (hf x (by simp))
    have hy := ih y (by simp) (hf y (by simp))
    have hpx := cnt_pos x
    have hpy := cnt_pos y
    have hc : (mk k s n [x, y]).cnt = x.cnt + y.cnt + 1 := by simp only [cnt, cnts]; omega
    have hsq : 2 * x.cnt * x.cnt + 2 * y.cnt * y.cnt + 4 * x.cnt + 4 * y.cnt + 2 ≤ 2 * (x.cnt + y.cnt + 1) * (x.cnt + y.cnt + 1) := by
      generalize x.cnt = p
      generalize y.cnt = q
      have : 2 * (p + q + 1) * (p + q + 1) = 2 * p * p + 2 * q * q + 4 * p + 4 * q + 2 + 4 * (p * q) := by
        simp only [Nat.mul_add, Nat.add_mul, Nat.mul_one, Nat.one_mul]
        have e1 : 2 * q * p = 2 * (p * q) := by rw [Nat.mul_assoc, Nat.mul_comm q p]
        have e2 : 2 * p * q = 2 * (p * q) := by rw [Nat.mul_assoc]
        rw [e1, e2]
        omega
      omega
    rw [hc]
    rcases e with rfl | rfl
    · rw [by3]
      cases null x
      · simp only [cond_false, cnt, cnts] at hx hy ⊢; omega
      · simp only [cond_true, cnt, cnts] at hx hy ⊢; omega
    · rw [by4]; simp only [cnt, cnts] at hx hy ⊢; omega
theorem size_cnt (c : Cor) : c.size = 9 * c.cnt := by
  refine ind (p := fun c => c.size = 9 * c.cnt) (fun k s n l ih => ?_) c
  have : sizes l = 9 * cnts l := by
    induction l with
    | nil => rfl
    | cons x t iht =>
      have h1 := ih x (by simp)
      have h2 := iht fun y hy => ih y (by simp [hy])
      simp only [sizes, cnts, h1, h2]; omega
  simp only [size, cnt, this]; omega
end Cor
end Go.Proofs.Ythdonefmfgnilaa
