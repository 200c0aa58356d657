/- What the functions of package rank, and those that they call, come to. -/
import Derived.Test.YtbmhbnkejgjfdaaVal
namespace Go.Proofs.Ytbmhbnkejgjfdaa
open Go Go.X

def c3 (a b : Int) : Int := if a < b then -1 else if b < a then 1 else 0
def thn (a b : Int) : Int := if a = 0 then b else a
/-- What may be of one's order with another, with a third. -/
def Tr (x y z : Int) : Prop := (x ≤ 0 → y ≤ 0 → z ≤ 0) ∧ (x < 0 → y ≤ 0 → z < 0) ∧ (x ≤ 0 → y < 0 → z < 0) ∧ (x = 0 → y = 0 → z = 0)
theorem c3_tr (a b c : Int) : Tr (c3 a b) (c3 b c) (c3 a c) := by
  unfold Tr c3
  repeat' split
  all_goals omega
theorem thn_tr {x y z x' y' z' : Int} (h : Tr x y z) (h' : x = 0 → y = 0 → Tr x' y' z') : Tr (thn x x') (thn y y') (thn z z') := by
  obtain ⟨h1, h2, h3, h4⟩ := h
  by_cases hx : x = 0
  · by_cases hy : y = 0
    · have := h' hx hy
      simp only [thn, hx, hy, h4 hx hy, if_true]
      exact this
    · have hz : y < 0 → z ≠ 0 := fun h => by have := h3 (by omega) h; omega
      unfold Tr thn
      rw [if_pos hx, if_neg hy]
      by_cases hy0 : y < 0
      · rw [if_neg (hz hy0)]
        have := h3 (by omega) hy0
        omega
      · split <;> omega
  · unfold Tr thn
    rw [if_neg hx]
    by_cases hx0 : x < 0
    · by_cases hy0 : y ≤ 0
      · have := h2 hx0 hy0
        split <;> split <;> omega
      · split <;> split <;> omega
    · split <;> split <;> omega
theorem c3_neg (a b : Int) : c3 b a = -c3 a b := by unfold c3; repeat' split; all_goals omega
theorem c3_self (a : Int) : c3 a a = 0 := by simp [c3]
theorem thn_neg (a b : Int) : thn (-a) (-b) = -thn a b := by unfold thn; split <;> split <;> omega
theorem c3_val (a b : Int) : c3 a b = -1 ∨ c3 a b = 0 ∨ c3 a b = 1 := by unfold c3; repeat' split; all_goals omega
theorem thn_val {a b : Int} (ha : a = -1 ∨ a = 0 ∨ a = 1) (hb : b = -1 ∨ b = 0 ∨ b = 1) : thn a b = -1 ∨ thn a b = 0 ∨ thn a b = 1 := by unfold thn; split <;> omega

namespace Val
/-- How many of a value's items count. -/
def ar (k : Int) (n : Nat) : Nat := if k = 3 then 2 else if k = 4 then 1 else if k = 5 then 1 else if k = 7 then 1 else if k = 6 then n else 0
def kids (v : Val) : List Val := v.kidl.take (ar v.kind v.kidl.length)
mutual
def flat : Val → List Int
  | mk k b l => (if k = 2 then [b] else []) ++ flats (ar k l.length) l
def flats : Nat → List Val → List Int
  | _, [] => []
  | 0, _ :: _ => []
  | n + 1, v :: l => flat v ++ flats n l
end
theorem flats_eq : ∀ (n : Nat) (l : List Val), flats n l = (l.take n).flatMap flat
  | 0, [] => by simp [flats]
  | 0, _ :: _ => by simp [flats]
  | n + 1, [] => by simp [flats]
  | n + 1, v :: l => by simp [flats, flats_eq n l]
theorem flat_eq (v : Val) : v.flat = (if v.kind = 2 then [v.byte] else []) ++ v.kids.flatMap flat := by
  cases v; simp only [flat, flats_eq, kids, kind, byte, kidl]; rfl
def len (v : Val) : Int := v.flat.length
theorem flats_len_le : ∀ (n : Nat) (l : List Val), (∀ v ∈ l, v.flat.length ≤ v.size) → (flats n l).length ≤ sizes l
  | _, [], _ => by simp [flats]
  | 0, _ :: _, _ => by simp [flats]
  | n + 1, v :: l, h => by
    have h1 := h v (by simp)
    have h2 := flats_len_le n l (fun x hx => h x (by simp [hx]))
    simp only [flats, List.length_append, sizes]; omega
theorem flat_len_le (v : Val) : v.flat.length ≤ v.size := by
  refine ind (p := fun v => v.flat.length ≤ v.size) (fun k b l ih => ?_) v
  have := flats_len_le (ar k l.length) l ih
  simp only [flat, List.length_append, size]
  split <;> simp <;> omega
/-- Of no more than may be. -/
def Sm (v : Val) : Prop := v.size ≤ 274877906944
theorem Sm.kid {v x : Val} (h : v.Sm) (hx : x ∈ v.kidl) : x.Sm := by
  cases v with
  | mk k b l => have := size_le_of_mem (l := l) hx; simp only [Sm, size] at h ⊢; omega
theorem mem_kidl {v x : Val} (h : x ∈ v.kids) : x ∈ v.kidl := List.mem_of_mem_take h
theorem Sm.length {v : Val} (h : v.Sm) : v.kidl.length ≤ 274877906944 := by
  cases v with
  | mk k b l => have := length_le_sizes l; simp only [Sm, size] at h; simp only [kidl]; omega
theorem kids_length (v : Val) : v.kids.length ≤ v.kidl.length := by simp only [kids, List.length_take]; omega
mutual
/-- The longest first. -/
def rcmp : Val → Val → Int
  | mk k b l, w => thn (c3 w.len (mk k b l).len) (thn (c3 k w.kind) (if k = 2 then c3 b w.byte else rcmps (ar k l.length) l w.kids))
def rcmps : Nat → List Val → List Val → Int
  | _, [], [] => 0
  | _, [], _ :: _ => 1
  | 0, _ :: _, [] => 0
  | 0, _ :: _, _ :: _ => 1
  | _ + 1, _ :: _, [] => -1
  | n + 1, a :: xs, b :: ys => thn (rcmp a b) (rcmps n xs ys)
end
def lex : List Val → List Val → Int
  | [], [] => 0
  | [], _ :: _ => 1
  | _ :: _, [] => -1
  | a :: xs, b :: ys => thn (rcmp a b) (lex xs ys)
theorem rcmps_eq : ∀ (n : Nat) (xs ys : List Val), rcmps n xs ys = lex (xs.take n) ys
  | 0, [], [] => rfl
  | _ + 1, [], [] => rfl
  | 0, [], _ :: _ => rfl
  | _ + 1, [], _ :: _ => rfl
  | 0, _ :: _, [] => rfl
  | 0, _ :: _, _ :: _ => rfl
  | n + 1, _ :: _, [] => rfl
  | n + 1, a :: xs, b :: ys => by simp [rcmps, lex, rcmps_eq n xs ys]
theorem rcmp_eq (v w : Val) : rcmp v w = thn (c3 w.len v.len) (thn (c3 v.kind w.kind) (if v.kind = 2 then c3 v.byte w.byte else lex v.kids w.kids)) := by
  cases v with | mk k b l => rw [rcmp, rcmps_eq]; rfl

theorem lex_val : ∀ (xs ys : List Val), (∀ a ∈ xs, ∀ b, rcmp a b = -1 ∨ rcmp a b = 0 ∨ rcmp a b = 1) → lex xs ys = -1 ∨ lex xs ys = 0 ∨ lex xs ys = 1
  | [], [], _ => by simp [lex]
  | [], _ :: _, _ => by simp [lex]
  | _ :: _, [], _ => by simp [lex]
  | a :: xs, b :: ys, h => thn_val (h a (by simp) b) (lex_val xs ys fun x hx => h x (by simp [hx]))
theorem rcmp_val (v w : Val) : rcmp v w = -1 ∨ rcmp v w = 0 ∨ rcmp v w = 1 := by
  refine ind (p := fun v => ∀ w, rcmp v w = -1 ∨ rcmp v w = 0 ∨ rcmp v w = 1) (fun k b l ih w => ?_) v w
  rw [rcmp_eq]
  refine thn_val (c3_val _ _) (thn_val (c3_val _ _) ?_)
  split
  · exact c3_val _ _
  · exact lex_val _ _ fun a ha b => ih a (mem_kidl ha) b
theorem lex_neg : ∀ (xs ys : List Val), (∀ a ∈ xs, ∀ b, rcmp b a = -rcmp a b) → lex ys xs = -lex xs ys
  | [], [], _ => by simp [lex]
  | [], _ :: _, _ => by simp [lex]
  | _ :: _, [], _ => by simp [lex]
  | a :: xs, b :: ys, h => by
    simp only [lex]
    rw [h a (by simp) b, lex_neg xs ys fun x hx => h x (by simp [hx]), thn_neg]
theorem rcmp_neg (v w : Val) : rcmp w v = -rcmp v w := by
  refine ind (p := fun v => ∀ w, rcmp w v = -rcmp v w) (fun k b l ih w => ?_) v w
  rw [rcmp_eq, rcmp_eq]
  rw [c3_neg, show kind (mk k b l) = k from rfl, c3_neg k w.kind]
  by_cases hk : k = w.kind
  · have h2 : (w.kind = 2) ↔ (k = 2) := by omega
    by_cases h : k = 2
    · rw [if_pos h, if_pos (h2.2 h), c3_neg (byte (mk k b l)) w.byte, thn_neg, thn_neg]
    · rw [if_neg h, if_neg (fun h' => h (h2.1 h')), lex_neg _ _ (fun a ha b' => ih a (mem_kidl (v := mk k b l) ha) b'), thn_neg, thn_neg]
  · have hc : c3 k w.kind ≠ 0 := by unfold c3; repeat' split; all_goals omega
    rw [show ∀ y, thn (-c3 k w.kind) y = -c3 k w.kind from fun y => by simp [thn, hc], show ∀ y, thn (c3 k w.kind) y = c3 k w.kind from fun y => by simp [thn, hc], thn_neg]
theorem rcmp_self (v : Val) : rcmp v v = 0 := by have := rcmp_neg v v; omega
theorem lex_tr : ∀ (xs ys zs : List Val), (∀ a ∈ xs, ∀ b c, Tr (rcmp a b) (rcmp b c) (rcmp a c)) → Tr (lex xs ys) (lex ys zs) (lex xs zs)
  | [], [], [], _ => by simp [lex, Tr]
  | [], [], _ :: _, _ => by simp [lex, Tr]
  | [], _ :: _, [], _ => by simp [lex, Tr]
  | [], _ :: _, _ :: _, _ => by simp [lex, Tr]
  | _ :: _, [], [], _ => by simp [lex, Tr]
  | a :: xs, [], c :: zs, _ => by simp [lex, Tr]
  | a :: xs, b :: ys, [], _ => by simp [lex, Tr]
  | a :: xs, b :: ys, c :: zs, h => thn_tr (h a (by simp) b c) fun _ _ => lex_tr xs ys zs fun x hx => h x (by simp [hx])
theorem rcmp_tr (u v w : Val) : Tr (rcmp u v) (rcmp v w) (rcmp u w) := by
  refine ind (p := fun u => ∀ v w, Tr (rcmp u v) (rcmp v w) (rcmp u w)) (fun k b l ih v w => ?_) u v w
  rw [rcmp_eq, rcmp_eq v w, rcmp_eq (mk k b l) w]
  refine thn_tr ?_ fun _ _ => thn_tr (c3_tr _ _ _) fun e1 e2 => ?_
  · have h1 := c3_tr w.len v.len (len (mk k b l))
    unfold Tr at h1 ⊢
    omega
  · have hz : ∀ a b : Int, c3 a b = 0 → a = b := fun a b h => by unfold c3 at h; repeat' split at h; all_goals omega
    have k1 := hz _ _ e1
    have k2 := hz _ _ e2
    rw [← k1]
    split
    · exact c3_tr _ _ _
    · exact lex_tr _ _ _ fun a ha => ih a (mem_kidl ha)
end Val
end Go.Proofs.Ytbmhbnkejgjfdaa
