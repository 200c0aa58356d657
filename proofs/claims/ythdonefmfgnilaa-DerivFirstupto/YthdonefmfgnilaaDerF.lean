/- What a core says begins with: in plain terms; what is left behind a byte says something just if something begins with it. -/
import Derived.Test.YthdonefmfgnilaaDerN
set_option linter.unusedSimpArgs false
set_option linter.unusedVariables false
set_option maxRecDepth 20000
namespace Go.Proofs.Ythdonefmfgnilaa
open Go Go.X

namespace Cor
mutual
/-- Says it anything? -/
def says : Cor → Bool
  | .mk k s _ l => if k = 0 then false else if k = 2 then decide (s ≠ 0) else if k = 3 then saysN l 0 && saysN l 1 else if k = 4 then saysN l 0 || saysN l 1 else if k = 6 then saysN l 0 else if k = 7 then saysN l 0 else true
def saysN : List Cor → Nat → Bool
  | [], _ => false
  | c :: _, 0 => says c
  | _ :: l, i + 1 => saysN l i
end
mutual
/-- With what it begins. -/
def first : Cor → Nat
  | .mk k s _ l => if k = 2 then s else if k = 3 then (if !saysN l 0 || !saysN l 1 then 0 else if nullN l 0 then firstN l 0 ||| firstN l 1 else firstN l 0) else if k = 4 then firstN l 0 ||| firstN l 1 else if k = 5 then firstN l 0 else if k = 6 then firstN l 0 else if k = 7 then firstN l 0 else 0
def firstN : List Cor → Nat → Nat
  | [], _ => 0
  | c :: _, 0 => first c
  | _ :: l, i + 1 => firstN l i
end
/-- A core's kids, by its kind. -/
inductive Kids : Int → List Cor → Prop
  | k0 {k} : k = 0 ∨ k = 1 ∨ k = 2 → Kids k []
  | k1 {k x} : k = 5 ∨ k = 6 ∨ k = 7 → Kids k [x]
  | k2 {k x y} : k = 3 ∨ k = 4 → Kids k [x, y]
theorem kids_of {k : Int} {s : Nat} {n : Int} {l : List Cor} (h : (mk k s n l).fmd = true) : Kids k l ∧ ∀ x ∈ l, x.fmd = true := by
  simp only [fmd, nodeOk, Bool.and_eq_true, fmds_all, List.all_eq_true] at h
  refine ⟨?_, h.2⟩
  have hl : (l.length : Int) = partsI k := by simpa using h.1.1
  unfold partsI at hl
  match l, hl with
  | [], hl =>
    refine .k0 ?_
    by_cases e0 : k = 0
    · exact .inl e0
    by_cases e1 : k = 1
    · exact .inr (.inl e1)
    by_cases e2 : k = 2
    · exact .inr (.inr e2)
    exfalso
    simp only [e0, e1, e2, if_false, List.length_nil] at hl
    repeat' split at hl
    all_goals omega
  | [x], hl =>
    refine .k1 ?_
    by_cases e5 : k = 5
    · exact .inl e5
    by_cases e6 : k = 6
    · exact .inr (.inl e6)
    by_cases e7 : k = 7
    · exact .inr (.inr e7)
    exfalso
    simp only [e5, e6, e7, if_false, List.length_cons, List.length_nil] at hl
    repeat' split at hl
    all_goals omega
  | [x, y], hl =>
    refine .k2 ?_
    by_cases e3 : k = 3
    · exact .inl e3
    by_cases e4 : k = 4
    · exact .inr e4
    exfalso
    simp only [e3, e4, if_false, List.length_cons, List.length_nil] at hl
    repeat' split at hl
    all_goals omega
  | x :: y :: z :: t, hl =>
    exfalso
    simp only [List.length_cons] at hl
    repeat' split at hl
    all_goals omega

theorem says3 (s : Nat) (n : Int) (x y : Cor) : says (.mk 3 s n [x, y]) = (says x && says y) := by simp [says, saysN]
theorem says4 (s : Nat) (n : Int) (x y : Cor) : says (.mk 4 s n [x, y]) = (says x || says y) := by simp [says, saysN]
theorem null3 (s : Nat) (n : Int) (x y : Cor) : null (.mk 3 s n [x, y]) = (null x && null y) := by simp [null, nullN]
theorem null4 (s : Nat) (n : Int) (x y : Cor) : null (.mk 4 s n [x, y]) = (null x || null y) := by simp [null, nullN]
theorem first3 (s : Nat) (n : Int) (x y : Cor) : first (.mk 3 s n [x, y]) = bif says x && says y then (bif null x then first x ||| first y else first x) else 0 := by
  simp only [first, firstN, saysN, nullN]
  rcases Bool.eq_false_or_eq_true (says x) with h1 | h1 <;> rcases Bool.eq_false_or_eq_true (says y) with h2 | h2 <;> rcases Bool.eq_false_or_eq_true (null x) with h3 | h3 <;> simp [h1, h2, h3]
theorem first4 (s : Nat) (n : Int) (x y : Cor) : first (.mk 4 s n [x, y]) = first x ||| first y := by simp [first, firstN]
theorem by3 (s : Nat) (n : Int) (x y : Cor) (b : Nat) : by' (.mk 3 s n [x, y]) b = bif null x then two 4 (two 3 (by' x b) y) (by' y b) else two 3 (by' x b) y := by
  rw [by_eq]
  rcases Bool.eq_false_or_eq_true (null x) with h3 | h3 <;> simp [h3, byN]
theorem by4 (s : Nat) (n : Int) (x y : Cor) (b : Nat) : by' (.mk 4 s n [x, y]) b = two 4 (by' x b) (by' y b) := by
  rw [by_eq]; simp [byN]
theorem by0 (k : Int) (s : Nat) (n : Int) (b : Nat) (h : k = 0 ∨ k = 1) : by' (.mk k s n []) b = none' := by
  rw [by_eq]; rcases h with rfl | rfl <;> simp
theorem by2 (s : Nat) (n : Int) (b : Nat) : by' (.mk 2 s n []) b = bif s.testBit b then empty' else none' := by
  rw [by_eq, if_pos rfl]; cases s.testBit b <;> rfl
theorem by5 (s : Nat) (n : Int) (x : Cor) (b : Nat) : by' (.mk 5 s n [x]) b = two 3 (by' x b) (.mk 5 s n [x]) := by
  rw [by_eq]; simp [byN]
theorem by6 (k : Int) (s : Nat) (n : Int) (x : Cor) (b : Nat) (h : k = 6 ∨ k = 7) : by' (.mk k s n [x]) b = by' x b := by
  rw [by_eq]; rcases h with rfl | rfl <;> simp [byN]

theorem says_iff (c : Cor) : c.fmd = true → says c = (null c || decide (first c ≠ 0)) := by
  refine ind (p := fun c => c.fmd = true → says c = (null c || decide (first c ≠ 0))) (fun k s n l ih h => ?_) c
  obtain ⟨hk, hf⟩ := kids_of h
  cases hk with
  | k0 e => rcases e with rfl | rfl | rfl <;> simp [says, null, first]
  | @k1 x e =>
    have hx := ih x (by simp) (hf x (by simp))
    rcases e with rfl | rfl | rfl <;> simp [says, null, first, saysN, nullN, firstN, hx]
  | @k2 x y e =>
    have hx := ih x (by simp) (hf x (by simp))
    have hy := ih y (by simp) (hf y (by simp))
    have or0 : ∀ a b : Nat, a ||| b = 0 ↔ a = 0 ∧ b = 0 := fun a b => Nat.or_eq_zero_iff
    rcases e with rfl | rfl
    · rw [says3, null3, first3, hx, hy]
      rcases Bool.eq_false_or_eq_true (null x) with h1 | h1 <;> rcases Bool.eq_false_or_eq_true (null y) with h2 | h2 <;> by_cases a : first x = 0 <;> by_cases b : first y = 0 <;> simp [h1, h2, a, b, or0]
    · rw [says4, null4, first4, hx, hy]
      rcases Bool.eq_false_or_eq_true (null x) with h1 | h1 <;> rcases Bool.eq_false_or_eq_true (null y) with h2 | h2 <;> by_cases a : first x = 0 <;> by_cases b : first y = 0 <;> simp [h1, h2, a, b, or0]

theorem by_says (b : Nat) (c : Cor) : c.fmd = true → says (by' c b) = (first c).testBit b := by
  refine ind (p := fun c => c.fmd = true → says (by' c b) = (first c).testBit b) (fun k s n l ih h => ?_) c
  obtain ⟨hk, hf⟩ := kids_of h
  cases hk with
  | k0 e =>
    rcases e with rfl | rfl | rfl
    · rw [by0 _ _ _ _ (.inl rfl)]; simp [says, first]
    · rw [by0 _ _ _ _ (.inr rfl)]; simp [says, first]
    · rw [by2]; simp only [first, if_pos]
      rcases Bool.eq_false_or_eq_true (s.testBit b) with hb | hb <;> simp [says, hb]
  | @k1 x e =>
    have hx := ih x (by simp) (hf x (by simp))
    rcases e with rfl | rfl | rfl
    · rw [by5, says3, hx]; simp [says, first, firstN]
    · rw [by6 _ _ _ _ _ (.inl rfl), hx]; simp [first, firstN]
    · rw [by6 _ _ _ _ _ (.inr rfl), hx]; simp [first, firstN]
  | @k2 x y e =>
    have hx := ih x (by simp) (hf x (by simp))
    have hy := ih y (by simp) (hf y (by simp))
    have sx := says_iff x (hf x (by simp))
    have sy := says_iff y (hf y (by simp))
    rcases e with rfl | rfl
    · rw [by3, first3]
      rcases Bool.eq_false_or_eq_true (null x) with hn | hn
      · have sx : says x = true := by rw [sx, hn]; rfl
        rw [hn, cond_true, cond_true, says4, says3, hx, hy, sx]
        rcases Bool.eq_false_or_eq_true (says y) with hs | hs
        · simp [hs]
        · have : first y = 0 := by
            rw [hs] at sy
            have := sy.symm
            simp at this
            exact this.2
          simp [hs, this]
      · rw [hn, cond_false, cond_false, says3, hx]
        rcases Bool.eq_false_or_eq_true (says y) with hs | hs
        · rcases Bool.eq_false_or_eq_true (says x) with hs2 | hs2
          · simp [hs, hs2]
          · have : first x = 0 := by
              rw [hs2, hn] at sx
              have := sx.symm
              simpa using this
            simp [hs, hs2, this]
        · simp [hs]
    · rw [by4, says4, first4, hx, hy, Nat.testBit_or]

theorem nullN_map {l : List Cor} (h : ∀ x ∈ l, null (tidy x) = null x) (i : Nat) : nullN (l.map tidy) i = nullN l i := by
  induction l generalizing i with
  | nil => rfl
  | cons x t ih =>
    cases i with
    | zero => simp [nullN, h x (by simp)]
    | succ i => simp [nullN, ih (fun y hy => h y (by simp [hy]))]
theorem saysN_map {l : List Cor} (h : ∀ x ∈ l, says (tidy x) = says x) (i : Nat) : saysN (l.map tidy) i = saysN l i := by
  induction l generalizing i with
  | nil => rfl
  | cons x t ih =>
    cases i with
    | zero => simp [saysN, h x (by simp)]
    | succ i => simp [saysN, ih (fun y hy => h y (by simp [hy]))]
theorem null_kind {x : Cor} : (x.kind = 0 → null x = false) ∧ (x.kind = 1 → null x = true) ∧ (x.kind = 5 → null x = true) := by
  obtain ⟨k, s, n, l⟩ := x
  refine ⟨fun h => ?_, fun h => ?_, fun h => ?_⟩ <;> (have h : k = _ := h; subst h; simp [null])
theorem says_kind {x : Cor} : (x.kind = 0 → says x = false) ∧ (x.kind = 1 → says x = true) ∧ (x.kind = 5 → says x = true) := by
  obtain ⟨k, s, n, l⟩ := x
  refine ⟨fun h => ?_, fun h => ?_, fun h => ?_⟩ <;> (have h : k = _ := h; subst h; simp [says])
theorem tidy1_null (k : Int) (s : Nat) (n : Int) (l : List Cor) : null (tidy1 k s n l) = null (.mk k s n l) := by
  unfold tidy1
  by_cases k2 : k = 2
  · subst k2; rw [if_pos rfl]
    split <;> simp [null]
  rw [if_neg k2]
  by_cases k3 : k = 3
  · subst k3; rw [if_pos rfl]
    match l with
    | x :: y :: t =>
      have hx := @null_kind x
      have hy := @null_kind y
      simp only
      split
      · rename_i h
        rcases h with h | h
        · simp [null, nullN, hx.1 h]
        · simp [null, nullN, hy.1 h]
      split
      · rename_i h; simp [null, nullN, hx.2.1 h]
      split
      · rename_i h; simp [null, nullN, hy.2.1 h]
      · rfl
    | [] => rfl
    | [x] => rfl
  rw [if_neg k3]
  by_cases k4 : k = 4
  · subst k4; rw [if_pos rfl]
    match l with
    | x :: y :: t =>
      have hx := @null_kind x
      have hy := @null_kind y
      simp only
      split
      · rename_i h; simp [null, nullN, hx.1 h]
      split
      · rename_i h
        rcases h with h | h
        · simp [null, nullN, hy.1 h]
        · subst h; simp [null, nullN]
      · rfl
    | [] => rfl
    | [x] => rfl
  rw [if_neg k4]
  by_cases k5 : k = 5
  · subst k5; rw [if_pos rfl]
    match l with
    | x :: t =>
      have hx := @null_kind x
      simp only
      split
      · simp [null]
      split
      · rename_i h; simp [null, hx.2.2 h]
      · rfl
    | [] => rfl
  rw [if_neg k5]
  by_cases k6 : k = 6 ∨ k = 7
  · rw [if_pos k6]
    match l with
    | x :: t => rcases k6 with rfl | rfl <;> simp [null, nullN]
    | [] => rfl
  · rw [if_neg k6]
theorem tidy1_says (k : Int) (s : Nat) (n : Int) (l : List Cor) : says (tidy1 k s n l) = says (.mk k s n l) := by
  unfold tidy1
  by_cases k2 : k = 2
  · subst k2; rw [if_pos rfl]
    split
    · rename_i h; simp [says, h]
    · rfl
  rw [if_neg k2]
  by_cases k3 : k = 3
  · subst k3; rw [if_pos rfl]
    match l with
    | x :: y :: t =>
      have hx := @says_kind x
      have hy := @says_kind y
      simp only
      split
      · rename_i h
        rcases h with h | h
        · simp [says, saysN, hx.1 h]
        · simp [says, saysN, hy.1 h]
      split
      · rename_i h; simp [says, saysN, hx.2.1 h]
      split
      · rename_i h; simp [says, saysN, hy.2.1 h]
      · rfl
    | [] => rfl
    | [x] => rfl
  rw [if_neg k3]
  by_cases k4 : k = 4
  · subst k4; rw [if_pos rfl]
    match l with
    | x :: y :: t =>
      have hx := @says_kind x
      have hy := @says_kind y
      simp only
      split
      · rename_i h; simp [says, saysN, hx.1 h]
      split
      · rename_i h
        rcases h with h | h
        · simp [says, saysN, hy.1 h]
        · subst h; simp [says, saysN]
      · rfl
    | [] => rfl
    | [x] => rfl
  rw [if_neg k4]
  by_cases k5 : k = 5
  · subst k5; rw [if_pos rfl]
    match l with
    | x :: t =>
      have hx := @says_kind x
      simp only
      split
      · simp [says]
      split
      · rename_i h; simp [says, hx.2.2 h]
      · rfl
    | [] => rfl
  rw [if_neg k5]
  by_cases k6 : k = 6 ∨ k = 7
  · rw [if_pos k6]
    match l with
    | x :: t => rcases k6 with rfl | rfl <;> simp [says, saysN]
    | [] => rfl
  · rw [if_neg k6]
theorem tidy_null (c : Cor) : null (tidy c) = null c := by
  refine ind (p := fun c => null (tidy c) = null c) (fun k s n l ih => ?_) c
  rw [tidy_eq, tidy1_null]
  simp only [null, nullN_map ih]
theorem tidy_says (c : Cor) : says (tidy c) = says c := by
  refine ind (p := fun c => says (tidy c) = says c) (fun k s n l ih => ?_) c
  rw [tidy_eq, tidy1_says]
  simp only [says, saysN_map ih]

/-- What is left behind a byte is well formed, and not too great. -/
theorem by_fmd (b : Nat) (c : Cor) : c.fmd = true → (by' c b).fmd = true := by
  refine ind (p := fun c => c.fmd = true → (by' c b).fmd = true) (fun k s n l ih h => ?_) c
  obtain ⟨hk, hf⟩ := kids_of h
  have two3 : ∀ x y : Cor, x.fmd = true → y.fmd = true → (two 3 x y).fmd = true := fun x y hx hy => by simp [fmd, fmds, nodeOk, partsI, hx, hy]
  have two4 : ∀ x y : Cor, x.fmd = true → y.fmd = true → (two 4 x y).fmd = true := fun x y hx hy => by simp [fmd, fmds, nodeOk, partsI, hx, hy]
  have n0 : none'.fmd = true := by decide
  have e0 : empty'.fmd = true := by decide
  cases hk with
  | k0 e =>
    rcases e with rfl | rfl | rfl
    · rw [by0 _ _ _ _ (.inl rfl)]; exact n0
    · rw [by0 _ _ _ _ (.inr rfl)]; exact n0
    · rw [by2]; cases s.testBit b <;> assumption
  | @k1 x e =>
    have hx := ih x (by simp) (hf x (by simp))
    rcases e with rfl | rfl | rfl
    · rw [by5]; exact two3 _ _ hx h
    · rw [by6 _ _ _ _ _ (.inl rfl)]; exact hx
    · rw [by6 _ _ _ _ _ (.inr rfl)]; exact hx
  | @k2 x y e =>
    have hx := ih x (by simp) (hf x (by simp))
    have hy := ih y (by simp) (hf y (by simp))
    rcases e with rfl | rfl
    · rw [by3]
      cases null x
      · exact two3 _ _ hx (hf y (by simp))
      · exact two4 _ _ (two3 _ _ hx (hf y (by simp))) hy
    · rw [by4]; exact two4 _ _ hx hy
theorem by_ok (b : Nat) (c : Cor) : c.fmd = true → c.Ok → (by' c b).Ok := by
  refine ind (p := fun c => c.fmd = true → c.Ok → (by' c b).Ok) (fun k s n l ih h ho => ?_) c
  obtain ⟨hk, hf⟩ := kids_of h
  have kid : ∀ x ∈ l, x.Ok := (oks_iff l).1 ho.2.2.2
  have twok : ∀ (k : Int) (x y : Cor), k = 3 ∨ k = 4 → x.Ok → y.Ok → (two k x y).Ok := fun k x y hk hx hy => ⟨by omega, by decide, by omega, hx, hy, trivial⟩
  have n0 : none'.Ok := ⟨by omega, by decide, by omega, trivial⟩
  have e0 : empty'.Ok := ⟨by omega, by decide, by omega, trivial⟩
  cases hk with
  | k0 e =>
    rcases e with rfl | rfl | rfl
    · rw [by0 _ _ _ _ (.inl rfl)]; exact n0
    · rw [by0 _ _ _ _ (.inr rfl)]; exact n0
    · rw [by2]; cases s.testBit b <;> assumption
  | @k1 x e =>
    have hx := ih x (by simp) (hf x (by simp)) (kid x (by simp))
    rcases e with rfl | rfl | rfl
    · rw [by5]; exact twok 3 _ _ (.inl rfl) hx ho
    · rw [by6 _ _ _ _ _ (.inl rfl)]; exact hx
    · rw [by6 _ _ _ _ _ (.inr rfl)]; exact hx
  | @k2 x y e =>
    have hx := ih x (by simp) (hf x (by simp)) (kid x (by simp))
    have hy := ih y (by simp) (hf y (by simp)) (kid y (by simp))
    rcases e with rfl | rfl
    · rw [by3]
      cases null x
      · exact twok 3 _ _ (.inl rfl) hx (kid y (by simp))
      · exact twok 4 _ _ (.inr rfl) (twok 3 _ _ (.inl rfl) hx (kid y (by simp))) hy
    · rw [by4]; exact twok 4 _ _ (.inr rfl) hx hy
theorem by_cnt (b : Nat) (c : Cor) : c.fmd = true → (by' c b).cnt ≤ 2 * c.cnt * c.cnt := by
  refine ind (p := fun c => c.fmd = true → (by' c b).cnt ≤ 2 * c.cnt * c.cnt) (fun k s n l ih h => ?_) c
  obtain ⟨hk, hf⟩ := kids_of h
  cases hk with
  | k0 e =>
    have : (mk k s n []).cnt = 1 := by simp [cnt, cnts]
    rcases e with rfl | rfl | rfl
    · rw [this, by0 _ _ _ _ (.inl rfl)]; simp [cnt, cnts]
    · rw [this, by0 _ _ _ _ (.inr rfl)]; simp [cnt, cnts]
    · rw [this, by2]; cases s.testBit b <;> simp [cnt, cnts]
  | @k1 x e =>
    have hx := ih x (by simp) (hf x (by simp))
    have hp := cnt_pos x
    have hc : (mk k s n [x]).cnt = x.cnt + 1 := by simp only [cnt, cnts]; omega
    have hsq : 2 * (x.cnt + 1) * (x.cnt + 1) = 2 * x.cnt * x.cnt + 4 * x.cnt + 2 := by
      generalize x.cnt = p
      have : 2 * (p + 1) * (p + 1) = 2 * p * p + 2 * p + (2 * p + 2) := by
        simp only [Nat.mul_add, Nat.add_mul, Nat.mul_one, Nat.one_mul]
      omega
    rw [hc, hsq]
    rcases e with rfl | rfl | rfl
    · rw [by5]; simp only [cnt, cnts] at hx ⊢; omega
    · rw [by6 _ _ _ _ _ (.inl rfl)]; omega
    · rw [by6 _ _ _ _ _ (.inr rfl)]; omega
  | @k2 x y e =>
    have hx := ih x (by simp) (hf x (by simp))
    have hy := ih y (by simp) (hf y (by simp))
    have hpx := cnt_pos x
    have hpy := cnt_pos y
    have hc : (mk k s n [x, y]).cnt = x.cnt + y.cnt + 1 := by simp only [cnt, cnts]; omega
    have hsq : 2 * x.cnt * x.cnt + 2 * y.cnt * y.cnt + 4 * x.cnt + 4 * y.cnt + 2 ≤ 2 * (x.cnt + y.cnt + 1) * (x.cnt + y.cnt + 1) := by
      generalize x.cnt = p
      generalize y.cnt = q
      have : 2 * (p + q + 1) * (p + q + 1) = 2 * p * p + 2 * q * q + 4 * p + 4 * q + 2 + 4 * (p * q) := by
        simp only [Nat.mul_add, Nat.add_mul, Nat.mul_one, Nat.one_mul]
        have e1 : 2 * q * p = 2 * (p * q) := by rw [Nat.mul_assoc, Nat.mul_comm q p]
        have e2 : 2 * p * q = 2 * (p * q) := by rw [Nat.mul_assoc]
        rw [e1, e2]
        omega
      omega
    rw [hc]
    rcases e with rfl | rfl
    · rw [by3]
      cases null x
      · simp only [cond_false, cnt, cnts] at hx hy ⊢; omega
      · simp only [cond_true, cnt, cnts] at hx hy ⊢; omega
    · rw [by4]; simp only [cnt, cnts] at hx hy ⊢; omega
theorem size_cnt (c : Cor) : c.size = 9 * c.cnt := by
  refine ind (p := fun c => c.size = 9 * c.cnt) (fun k s n l ih => ?_) c
  have : sizes l = 9 * cnts l := by
    induction l with
    | nil => rfl
    | cons x t iht =>
      have h1 := ih x (by simp)
      have h2 := iht fun y hy => ih y (by simp [hy])
      simp only [sizes, cnts, h1, h2]; omega
  simp only [size, cnt, this]; omega
end Cor
end Go.Proofs.Ythdonefmfgnilaa
