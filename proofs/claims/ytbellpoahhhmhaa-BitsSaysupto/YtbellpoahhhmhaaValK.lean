/- Values: which of their items count; how many there may be; too wide ones; choices. -/
import Derived.Test.YtbellpoahhhmhaaVal
import Derived.Test.YtbellpoahhhmhaaGen
set_option linter.unusedSimpArgs false
set_option linter.unusedVariables false
namespace Go.Proofs.Ytbellpoahhhmhaa
open Go Go.X

theorem getD_pv {ks : List Val} {i : Nat} (h : i < ks.length) : List.getD (ks.map Val.pv) ((i : Int)).toNat PV.nil = (ks[i]).pv := by
  simp [List.getD, h]
theorem getD_pv' {ks : List Val} {i : Nat} (h : i < ks.length) : List.getD (ks.map Val.pv) i PV.nil = (ks[i]).pv := by
  simp [List.getD, h]
namespace Val
/-- How many of a value's items count. -/
def ar (k : Int) (n : Nat) : Nat := if k = 3 then 2 else if k = 4 then 1 else if k = 5 then 1 else if k = 7 then 1 else if k = 6 then n else 0
def kids (v : Val) : List Val := v.kidl.take (ar v.kind v.kidl.length)
theorem mem_kidl {v x : Val} (h : x ∈ v.kids) : x ∈ v.kidl := List.mem_of_mem_take h
theorem kids_length (v : Val) : v.kids.length ≤ v.kidl.length := by simp only [kids, List.length_take]; omega
/-- Of no more than may be. -/
def Sm (v : Val) : Prop := v.size ≤ 274877906944
theorem Sm.kid {v x : Val} (h : v.Sm) (hx : x ∈ v.kidl) : x.Sm := by
  cases v with
  | mk k b l => have := size_le_of_mem (l := l) hx; simp only [Sm, size] at h ⊢; omega
theorem Sm.length {v : Val} (h : v.Sm) : v.kidl.length ≤ 274877906944 := by
  cases v with
  | mk k b l => have := length_le_sizes l; simp only [Sm, size] at h; simp only [kidl]; omega
mutual
/-- More than is asked of here? -/
def wide : Val → Int → Bool
  | mk _ _ l, n => decide (n < 1) || decide (30 < (l.length : Int)) || wides l (n - 1)
def wides : List Val → Int → Bool
  | [], _ => false
  | v :: l, n => wide v n || wides l n
end
mutual
/-- A value's choices. -/
def bits : Val → List Int
  | mk k b l => (if k = 4 then [48] else if k = 5 then [49] else []) ++ (bitsL k (ar k l.length) l ++ (if k = 6 then [49] else []))
def bitsL (k : Int) : Nat → List Val → List Int
  | _, [] => []
  | 0, _ :: _ => []
  | n + 1, v :: l => ((if k = 6 then [48] else []) ++ bits v) ++ bitsL k n l
end
def bitsK (k : Int) (l : List Val) : List Int := l.flatMap fun x => (if k = 6 then [48] else []) ++ bits x
theorem bitsL_eq (k : Int) : ∀ (n : Nat) (l : List Val), bitsL k n l = bitsK k (l.take n)
  | 0, [] => by simp [bitsL, bitsK]
  | 0, _ :: _ => by simp [bitsL, bitsK]
  | n + 1, [] => by simp [bitsL, bitsK]
  | n + 1, v :: l => by have := bitsL_eq k n l; simp only [bitsL, bitsK] at this ⊢; rw [this, List.take_succ_cons, List.flatMap_cons]
theorem bits_eq (v : Val) : v.bits = (if v.kind = 4 then [48] else if v.kind = 5 then [49] else []) ++ (bitsK v.kind v.kids ++ (if v.kind = 6 then [49] else [])) := by
  cases v; simp only [bits, bitsL_eq, kids, kind, kidl] <;> rfl
theorem bitsL_len (k : Int) : ∀ (n : Nat) (l : List Val), (∀ v ∈ l, v.bits.length + 1 ≤ v.size) → (bitsL k n l).length ≤ sizes l
  | _, [], _ => by simp [bitsL]
  | 0, _ :: _, _ => by simp [bitsL]
  | n + 1, v :: l, h => by
    have h1 := h v (by simp)
    have h2 := bitsL_len k n l (fun x hx => h x (by simp [hx]))
    simp only [bitsL, List.length_append, sizes]
    split <;> simp only [List.length_cons, List.length_nil] <;> omega
theorem bits_len (v : Val) : v.bits.length + 1 ≤ v.size := by
  refine ind (p := fun v => v.bits.length + 1 ≤ v.size) (fun k b l ih => ?_) v
  have := bitsL_len k (ar k l.length) l ih
  simp only [bits, List.length_append, size]
  split
  · split <;> simp only [List.length_cons, List.length_nil] <;> omega
  · split
    · split <;> simp only [List.length_cons, List.length_nil] <;> omega
    · split <;> simp only [List.length_cons, List.length_nil] <;> omega
end Val

theorem take_min {α : Type} (m : Int) (hm : 0 ≤ m) (L : List α) : List.take (if (L.length : Int) < m then (L.length : Int) else m).toNat L = List.take m.toNat L := by
  split
  · rename_i h
    rw [List.take_of_length_le (by omega), List.take_of_length_le (by omega)]
  · rfl
theorem chk_min {α : Type} (m : Int) (hm : 0 ≤ m) (L : List α) : (decide ((0 : Int) ≤ (if (L.length : Int) < m then (L.length : Int) else m)) && decide ((if (L.length : Int) < m then (L.length : Int) else m) ≤ (L.length : Int))) = true := by
  simp only [Bool.and_eq_true, decide_eq_true_eq]
  split <;> omega

theorem spec_Kids : Ult fun k => ∀ (v : Val) ret, G59 k v.pv ret = ret (.list (v.kids.map Val.pv)) :=
  Ult.succ (Ult.of fun k v ret => by
    simp only [G59, f59_N, f59_e, Val.fld0, Val.fld2, PV.num, PV.els, Val.kids, Val.ar]
    generalize v.kind = kd
    generalize v.kidl = l
    have t0 := take_min 0 (by omega) l
    have t1 := take_min 1 (by omega) l
    have t2 := take_min 2 (by omega) l
    have c0 := chk_min 0 (by omega) l
    have c1 := chk_min 1 (by omega) l
    have c2 := chk_min 2 (by omega) l
    by_cases h3 : kd = 3
    · simp [h3, c2, t2, ← List.map_take]
    by_cases h4 : kd = 4
    · simp [h4, c1, t1, ← List.map_take]
    by_cases h5 : kd = 5
    · simp [h5, c1, t1, ← List.map_take]
    by_cases h7 : kd = 7
    · simp [h7, c1, t1, ← List.map_take]
    by_cases h6 : kd = 6
    · simp [h6, List.take_of_length_le]
    · simp [h3, h4, h5, h7, h6, c0, t0, ← List.map_take])

theorem spec_wide (v : Val) : ∀ n : Int, n ≤ 1000 → Ult fun k => ∀ ret, G42 k v.pv n ret = ret (v.wide n) := by
  refine Val.ind (p := fun v => ∀ n : Int, n ≤ 1000 → Ult fun k => ∀ ret, G42 k v.pv n ret = ret (v.wide n)) (fun kd b l ih n hn => ?_) v
  have hall : Ult fun k => ∀ x ∈ l, ∀ ret, G42 k x.pv (n - 1) ret = ret (x.wide (n - 1)) := Ult.forall_mem fun x hx => ih x hx (n - 1) (by omega)
  refine Ult.succ ((hall.and (Ult.ge 32)).mono fun k ⟨h1, h2⟩ ret => ?_)
  simp only [G42, f42_N, f42_e, Val.fld2, PV.els, List.length_map, Val.kidl, Val.wide]
  by_cases c1 : n < 1
  · simp [c1]
  · by_cases c2 : 30 < (l.length : Int)
    · simp [c1, c2]
    · rw [decide_eq_false c1, decide_eq_false c2]
      simp only [beq_self_eq_true, cond_true, cond_false, f42_w1N, Bool.false_or]
      have := loopR_up (body := f42_w1B k (G42 k) ret (Val.mk kd b l).pv n) (res := fun i => ret (Val.wides (l.drop i) (n - 1))) l.length ?_ ?_ k 0 (by omega) (by omega)
      · simpa using this
      · intro nx
        simp [f42_w1B, f42_w1b0N, f42_w1b0, Val.fld2, PV.els, Val.kidl, Val.wides]
      · intro i hi nx hnx
        simp only [f42_w1B, f42_w1b0N, f42_w1b0, Val.fld2, PV.els, List.length_map, Val.kidl]
        rw [decide_eq_true (show (i : Int) < (l.length : Int) by omega), decide_eq_true (show (0 : Int) ≤ (i : Int) by omega), getD_pv hi, wrap_i64 (by omega) (by omega)]
        simp only [Bool.and_self, cond_true]
        rw [h1 _ (List.getElem_mem hi), drop_cons hi, wrap_succ (by omega), hnx]
        simp only [Val.wides]
        cases l[i].wide (n - 1) <;> simp

end Go.Proofs.Ytbellpoahhhmhaa
