/- The interpreter X, part 36: regions whose order is drawn: what is asked of them; what comes ahead of what. -/
import Derived.Test.YtbmhbnkejgjfdaaX35
import Derived.Orders
namespace Go.X
open Go

/-- Is a region such that its order does not matter? -/
def dOk (ops : Array Oper) : Bool :=
  let bf := Region.before ops
  let A := ops.toList.takeWhile fun o => !lateOp o
  let m := A.length
  ((List.range ops.size).all fun j => match ops[j]? with | some o => o.after.toList.all fun e => !Region.binds .any e || e.on.blt j | none => true) &&
  ((List.range m).all fun j => (List.range j).all fun i => (bf.getD j 0).testBit i || (match ops[i]?, ops[j]? with | some x, some y => x.apart ops y | _, _ => false)) &&
  ((List.range ops.size).all fun j => j.blt m || ((List.range j).all fun i => (bf.getD j 0).testBit i)) &&
  nodupB (A.filterMap (·.dst)) && (A.all fun o => (o.dst.getD 0).blt lowB && (!laysOp o || o.dst.isSome))

/-- An operation has another ahead of it. -/
inductive Bef (ops : Array Oper) : Nat → Nat → Prop
  | edge {j o e} : ops[j]? = some o → e ∈ o.after → Region.binds .any e = true → Bef ops j e.on
  | trans {j o e i} : ops[j]? = some o → e ∈ o.after → Region.binds .any e = true → Bef ops e.on i → Bef ops j i

theorem inner_fold (acc : Array Nat) : ∀ (l : List Edge) (s i : Nat), (l.foldl (fun s e => if Region.binds .any e then s ||| 2 ^ e.on ||| acc.getD e.on 0 else s) s).testBit i = true →
    s.testBit i = true ∨ ∃ e ∈ l, Region.binds .any e = true ∧ (i = e.on ∨ (acc.getD e.on 0).testBit i = true)
  | [], s, i, h => .inl h
  | e :: l, s, i, h => by
    rw [List.foldl_cons] at h
    rcases inner_fold acc l _ i h with h1 | ⟨e', h1, h2, h3⟩
    · by_cases hb : Region.binds .any e = true
      · rw [if_pos hb, Nat.testBit_or, Nat.testBit_or] at h1
        simp only [Bool.or_eq_true] at h1
        rcases h1 with (h1 | h1) | h1
        · exact .inl h1
        · rw [Nat.testBit_two_pow] at h1
          exact .inr ⟨e, by simp, hb, .inl (by simpa using (of_decide_eq_true h1).symm)⟩
        · exact .inr ⟨e, by simp, hb, .inr h1⟩
      · rw [if_neg hb] at h1; exact .inl h1
    · exact .inr ⟨e', List.mem_cons_of_mem _ h1, h2, h3⟩

theorem before_fold (ops : Array Oper) : ∀ (l : List Oper) (acc : Array Nat), (∀ j, l[j]? = ops[acc.size + j]?) → (∀ j i, (acc.getD j 0).testBit i = true → Bef ops j i) →
    ∀ j i, ((l.foldl (fun acc o => acc.push (o.after.foldl (fun s e => if Region.binds .any e then s ||| 2 ^ e.on ||| acc.getD e.on 0 else s) 0)) acc).getD j 0).testBit i = true → Bef ops j i
  | [], acc, _, hacc, j, i, h => hacc j i h
  | o :: l, acc, hl, hacc, j, i, h => by
    rw [List.foldl_cons] at h
    refine before_fold ops l _ (fun k => ?_) (fun k i hk => ?_) j i h
    · rw [Array.size_push]
      have := hl (k + 1)
      rw [List.getElem?_cons_succ] at this
      rw [this]; congr 1; omega
    · by_cases hks : k = acc.size
      · subst hks
        have ho : ops[acc.size]? = some o := by have := hl 0; simpa using this.symm
        rw [Array.getD_eq_getD_getElem?, Array.getElem?_push_size, Option.getD_some] at hk
        rw [← Array.foldl_toList] at hk
        rcases inner_fold acc o.after.toList 0 i hk with h1 | ⟨e, h1, h2, h3⟩
        · simp at h1
        · have he : e ∈ o.after := by simpa using h1
          rcases h3 with h3 | h3
          · subst h3; exact .edge ho he h2
          · exact .trans ho he h2 (hacc _ _ h3)
      · rw [Array.getD_eq_getD_getElem?, Array.getElem?_push] at hk
        rw [if_neg (fun h => hks h)] at hk
        exact hacc k i (by rw [Array.getD_eq_getD_getElem?]; exact hk)

theorem before_spec (ops : Array Oper) {j i : Nat} (h : ((Region.before ops).getD j 0).testBit i = true) : Bef ops j i := by
  unfold Region.before at h
  rw [← Array.foldl_toList] at h
  exact before_fold ops ops.toList #[] (fun j => by simp) (fun j i h => by simp at h) j i h

/-- What is listed has all that it needs listed. -/
def Closed (ops : Array Oper) (listed : Array Bool) : Prop :=
  ∀ (j : Nat) (o : Oper), ops[j]? = some o → listed.getD j false = true → ∀ e ∈ o.after, Region.binds .any e = true → listed.getD e.on false = true

theorem closed_bef {ops : Array Oper} {listed : Array Bool} (hc : Closed ops listed) {j i : Nat} (h : Bef ops j i) : (∀ o, ops[j]? = some o → ∀ e ∈ o.after, Region.binds .any e = true → listed.getD e.on false = true) → listed.getD i false = true := by
  induction h with
  | edge ho he hb => exact fun h => h _ ho _ he hb
  | trans ho he hb _ ih =>
    intro h
    have hk := h _ ho _ he hb
    exact ih fun o' ho' => hc _ o' ho' hk

theorem bef_listed {ops : Array Oper} {listed : Array Bool} (hc : Closed ops listed) {j i : Nat} (h : Bef ops j i) (hj : listed.getD j false = true) : listed.getD i false = true :=
  closed_bef hc h fun o ho => hc j o ho hj

theorem getD_set (listed : Array Bool) (i j : Nat) (d : Bool) (hi : i < listed.size) : (listed.setIfInBounds i true).getD j d = if i = j then true else listed.getD j d := by
  by_cases h : i = j
  · subst h; rw [if_pos rfl]; simp [hi]
  · rw [if_neg h]; exact getD_set_ne d h

theorem closed_set {ops : Array Oper} {listed : Array Bool} (hc : Closed ops listed) {i : Nat} (hi : i < listed.size) (hr : ∀ o, ops[i]? = some o → ∀ e ∈ o.after, Region.binds .any e = true → listed.getD e.on false = true) : Closed ops (listed.setIfInBounds i true) := by
  intro j o ho hj e he hb
  rw [getD_set _ _ _ _ hi] at hj ⊢
  by_cases h : i = e.on
  · rw [if_pos h]
  · rw [if_neg h]
    by_cases hij : i = j
    · subst hij; exact hr o ho e he hb
    · rw [if_neg hij] at hj; exact hc j o ho hj e he hb

/-- How many of the first are not listed. -/
def unl (listed : Array Bool) : Nat → Nat
  | 0 => 0
  | k + 1 => unl listed k + (if listed.getD k false = true then 0 else 1)
theorem unl_zero {listed : Array Bool} : ∀ {m : Nat}, unl listed m = 0 → ∀ j, j < m → listed.getD j false = true
  | 0, _, j, hj => by omega
  | m + 1, h, j, hj => by
    unfold unl at h
    by_cases hl : listed.getD m false = true
    · rw [if_pos hl] at h
      by_cases hjm : j = m
      · subst hjm; exact hl
      · exact unl_zero (m := m) h j (by omega)
    · rw [if_neg hl] at h; omega
theorem unl_set {listed : Array Bool} {i : Nat} (hi : i < listed.size) (hu : listed.getD i false = false) : ∀ m, (m ≤ i → unl (listed.setIfInBounds i true) m = unl listed m) ∧ (i < m → unl (listed.setIfInBounds i true) m + 1 = unl listed m)
  | 0 => ⟨fun _ => rfl, fun h => by omega⟩
  | m + 1 => by
    obtain ⟨h1, h2⟩ := unl_set hi hu m
    unfold unl
    rw [getD_set _ _ _ _ hi]
    by_cases him : i = m
    · subst him
      rw [if_pos rfl]
      refine ⟨fun h => by omega, fun _ => ?_⟩
      rw [h1 (Nat.le_refl _), hu]; simp
    · rw [if_neg him]
      generalize (if listed.getD m false = true then 0 else 1) = c
      exact ⟨fun h => by rw [h1 (by omega)], fun h => by have := h2 (by omega); omega⟩
theorem unl_ex {listed : Array Bool} : ∀ {m : Nat}, unl listed m ≠ 0 → ∃ k, k < m ∧ listed.getD k false = false ∧ ∀ j, j < k → listed.getD j false = true
  | 0, h => absurd rfl h
  | m + 1, h => by
    by_cases h0 : unl listed m = 0
    · refine ⟨m, by omega, ?_, unl_zero h0⟩
      unfold unl at h
      rw [h0] at h
      by_cases hl : listed.getD m false = true
      · rw [if_pos hl] at h; omega
      · simpa using hl
    · obtain ⟨k, k1, k2, k3⟩ := unl_ex (m := m) h0
      exact ⟨k, by omega, k2, k3⟩

/-- The last operations, whose order is forced. -/
theorem any_of_forced {P : Program} {ops : Array Oper} {Q : Exit → Act → World → Prop} {m : Nat} (hlt : ∀ (j : Nat) (o : Oper), ops[j]? = some o → ∀ e ∈ o.after, Region.binds .any e = true → e.on < j) (htail : ∀ j, m ≤ j → j < ops.size → ∀ i, i < j → Bef ops j i) :
    ∀ (c k : Nat) (listed : Array Bool) (a : Act) (w : World), k + c = ops.size → m ≤ k → listed.size = ops.size → Closed ops listed → (∀ j, listed.getD j false = decide (j < k)) → wpOps P ops Q (List.range' k c) a w → wpAny P .any ops Q c listed a w
  | 0, k, listed, a, w, hk, hm, hs, hc, hl, h => by
    refine ⟨?_, h⟩
    rw [List.eq_nil_iff_forall_not_mem]
    intro i hi
    obtain ⟨h1, o, ho, _⟩ := mem_ready.1 hi
    have hlt' := (Array.getElem?_eq_some_iff.1 ho).1
    have h2 := hl i
    rw [show decide (i < k) = true by simpa using (by omega : i < k)] at h2
    rw [Array.getD_eq_getD_getElem?] at h1 h2
    rw [Array.getElem?_eq_getElem (by omega)] at h1 h2
    rw [Option.getD_some] at h1 h2
    rw [h1] at h2; cases h2
  | c + 1, k, listed, a, w, hk, hm, hs, hc, hl, h => by
    have hkl : k < ops.size := by omega
    have hko : ops[k]? = some ops[k] := Array.getElem?_eq_getElem hkl
    have getb : ∀ i (b : Bool), i < ops.size → listed.getD i b = decide (i < k) := by
      intro i b hi
      rw [← hl i, Array.getD_eq_getD_getElem?, Array.getD_eq_getD_getElem?, Array.getElem?_eq_getElem (by omega)]; rfl
    have hready : k ∈ Region.ready .any ops listed := mem_ready.2 ⟨by rw [getb k true hkl]; simp, _, hko, fun e he hb => by
      have := hlt k _ hko e he hb
      rw [hl]; simpa using this⟩
    refine ⟨(fun h0 => by rw [h0] at hready; cases hready), fun i hi => ?_⟩
    obtain ⟨h1, o, ho, h2⟩ := mem_ready.1 hi
    have hil := (Array.getElem?_eq_some_iff.1 ho).1
    rw [getb i true hil] at h1
    have hki : k ≤ i := by simpa using h1
    have hik : i = k := by
      rcases Nat.lt_or_eq_of_le hki with hgt | he
      · have := closed_bef hc (htail i (by omega) hil k hgt) (fun o' ho' e he hb => h2 e (by rw [ho] at ho'; injection ho' with ho'; rw [ho']; exact he) hb)
        rw [hl k] at this; simp at this
      · exact he.symm
    subst hik
    rw [List.range'_succ, wpOps_cons] at h
    refine wpOp_mono (fun a w h => ?_) h
    refine any_of_forced hlt htail c (i + 1) _ a w (by omega) (by omega) (by simpa using hs) (closed_set hc (by omega) fun o' ho' e he hb => h2 e (by rw [ho] at ho'; injection ho' with ho'; rw [ho']; exact he) hb) (fun j => ?_) h
    rw [getD_set _ _ _ _ (by omega)]
    by_cases hij : i = j
    · subst hij; simp
    · rw [if_neg hij, hl j]
      by_cases hj : j < i
      · rw [decide_eq_true hj, decide_eq_true (by omega)]
      · rw [decide_eq_false hj, decide_eq_false (by omega)]

end Go.X
