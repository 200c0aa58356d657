/- Letter by letter, in plain terms: numbers, how often, behind a backslash, an end of a range. -/
import Derived.Test.YtoefnbinfmbckaaTkCo
import Derived.Test.YtoefnbinfmbckaaCls
set_option linter.unusedSimpArgs false
set_option linter.unusedVariables false
set_option maxRecDepth 20000
namespace Go.Proofs.Ytoefnbinfmbckaa
open Go Go.X

/-- What is read, and how far; or why not. -/
inductive Res (α : Type) where
  | ok (v : α) (c : Nat)
  | err (e : Int)
def ByI (p : List Int) : Prop := ∀ c ∈ p, 0 ≤ c ∧ c < 256
/-- What a reader's function comes to. -/
def AnsR {α β : Type} (f : α → β) (G : (β → Int → PV → R) → R) (p : List Int) (a : Nat) : Res α → Prop
  | .ok v c => a + c ≤ p.length ∧ ∀ ret, G ret = ret (f v) 0 (ct p (a + c))
  | .err e => e ≠ 0 ∧ ∃ v b, b ≤ p.length ∧ ∀ ret, G ret = ret v e (ct p b)
def isDb (c : Int) : Bool := decide ((0 : Int) ≤ idxB [48, 49, 50, 51, 52, 53, 54, 55, 56, 57] c)
theorem isDb_iff (c : Int) : isDb c = true ↔ isD c := by
  constructor
  · intro h
    unfold isDb at h
    have h := of_decide_eq_true h
    by_cases hc : isD c
    · exact hc
    · exfalso
      unfold isD at hc
      have : ∀ x : Int, 48 ≤ x → x ≤ 57 → decide (x = c) = false := fun x h1 h2 => decide_eq_false (by rintro rfl; exact hc ⟨h1, h2⟩)
      simp only [idxB, this 48 (by omega) (by omega), this 49 (by omega) (by omega), this 50 (by omega) (by omega), this 51 (by omega) (by omega), this 52 (by omega) (by omega), this 53 (by omega) (by omega), this 54 (by omega) (by omega), this 55 (by omega) (by omega), this 56 (by omega) (by omega), this 57 (by omega) (by omega), cond_false] at h
      exact absurd h (by decide)
  · intro h; exact decide_eq_true (dig_idx h)
/-- A number: how great, and how long. -/
def num' (r : List Int) : Int × Nat := (nv 0 (r.takeWhile isDb), (r.takeWhile isDb).length)
theorem nv_range : ∀ (ds : List Int) (n : Int), 0 ≤ n → n ≤ 256 → (∀ d ∈ ds, isD d) → 0 ≤ nv n ds ∧ nv n ds ≤ 256
  | [], n, h1, h2, _ => ⟨h1, h2⟩
  | d :: ds, n, h1, h2, h => by
    have hd := h d (by simp)
    unfold isD at hd
    refine nv_range ds _ ?_ ?_ fun x hx => h x (by simp [hx])
    · split <;> omega
    · split <;> omega
theorem num_len (r : List Int) : (num' r).2 ≤ r.length := by
  unfold num'
  exact (List.takeWhile_sublist _).length_le
theorem num_isD (r : List Int) : ∀ d ∈ r.takeWhile isDb, isD d := fun d hd => (isDb_iff d).1 (List.all_eq_true.1 (List.all_takeWhile (l := r) (p := isDb)) d hd)
theorem num_range (r : List Int) : 0 ≤ (num' r).1 ∧ (num' r).1 ≤ 256 := nv_range _ 0 (by omega) (by omega) (num_isD r)
theorem drop_nil_of {p : List Int} {a : Nat} (h : p.drop a = []) : p.length ≤ a := by simpa using h
theorem spec_number' : Ult fun k => ∀ (p : List Int) (a : Nat) ret, p.length ≤ 1100 → a ≤ p.length →
    G23 k (ct p a) ret = ret (num' (p.drop a)).1 (decide (0 < (num' (p.drop a)).2)) (ct p (a + (num' (p.drop a)).2)) :=
  Ult.succ ((spec_idx.and (Ult.ge 1200)).mono fun k ⟨h1, hk⟩ p a ret hp1 ha => by
    simp only [G23, f23_N, f23_e, f23_w1N]
    have gen : ∀ (m : Nat) (kk : Nat) (n : Int) (b : Nat), p.length - b = m → m < kk → b ≤ p.length → 0 ≤ n → n ≤ 256 → a ≤ b →
        loopR (f23_w1B k (G20 k) ret (ct p a)) kk (n, ct p b) = ret (nv n ((p.drop b).takeWhile isDb)) (decide (a < b + ((p.drop b).takeWhile isDb).length)) (ct p (b + ((p.drop b).takeWhile isDb).length)) := by
      intro m
      induction m with
      | zero =>
        intro kk n b hm hkk hbl hn0 hn1 hab
        obtain ⟨kk, rfl⟩ : ∃ k', kk = k' + 1 := ⟨kk - 1, by omega⟩
        rw [vsucc]
        simp only [f23_w1B, f23_w1b0N, f23_w1b0, ct0, ct1]
        rw [dF (show ¬ (b : Int) < (p.length : Int) by omega), show decide ((a : Int) < (b : Int)) = decide (a < b + ([] : List Int).length) from decide_eq_decide.2 (by simp), List.drop_eq_nil_of_le (show p.length ≤ b by omega)]
        rfl
      | succ m ih =>
        intro kk n b hm hkk hbl hn0 hn1 hab
        obtain ⟨kk, rfl⟩ : ∃ k', kk = k' + 1 := ⟨kk - 1, by omega⟩
        have hbl' : b < p.length := by omega
        have hd := List.drop_eq_getElem_cons hbl'
        have d2 : p.getD b 0 = p[b] := by simp [List.getD, hbl']
        rw [vsucc]
        simp only [f23_w1B, f23_w1b0N, f23_w1b0, ct0, ct1, Int.toNat_natCast, d2, h1, ct_set]
        rw [dT (show (b : Int) < (p.length : Int) by omega), dT (show (0 : Int) ≤ (b : Int) by omega)]
        simp only [beq_self_eq_true, Bool.and_self, cond_true]
        rw [hd]
        cases hdb : isDb p[b] with
        | false =>
          have e : decide ((0 : Int) ≤ idxB [48, 49, 50, 51, 52, 53, 54, 55, 56, 57] p[b]) = false := hdb
          rw [e, List.takeWhile_cons_of_neg (by simp [hdb]), show decide ((a : Int) < (b : Int)) = decide (a < b + ([] : List Int).length) from decide_eq_decide.2 (by simp)]
          rfl
        | true =>
          have e : decide ((0 : Int) ≤ idxB [48, 49, 50, 51, 52, 53, 54, 55, 56, 57] p[b]) = true := hdb
          have hdd := (isDb_iff _).1 hdb
          unfold isD at hdd
          rw [e, List.takeWhile_cons_of_pos hdb, wrap_u8' (show 0 ≤ p[b] - 48 by omega) (by omega), wrap_i64 (show -9223372036854775808 ≤ 10 * n by omega) (by omega), wrap_i64 (show -9223372036854775808 ≤ p[b] - 48 by omega) (by omega), wrap_i64 (show -9223372036854775808 ≤ 10 * n + (p[b] - 48) by omega) (by omega), wrap_i64 (show -9223372036854775808 ≤ (b : Int) + 1 by omega) (by omega)]
          simp only [cond_true]
          have := ih kk (if (256 : Int) < 10 * n + (p[b] - 48) then 256 else 10 * n + (p[b] - 48)) (b + 1) (by omega) (by omega) (by omega) (by split <;> omega) (by split <;> omega) (by omega)
          refine this.trans ?_
          rw [show b + 1 + ((p.drop (b + 1)).takeWhile isDb).length = b + (p[b] :: (p.drop (b + 1)).takeWhile isDb).length by simp only [List.length_cons]; omega]
          rfl
    have := gen (p.length - a) k 0 a rfl (by omega) ha (by omega) (by omega) (Nat.le_refl _)
    rw [show decide (a < a + ((p.drop a).takeWhile isDb).length) = decide (0 < (num' (p.drop a)).2) from decide_eq_decide.2 (by unfold num'; simp only; omega)] at this
    exact this)

/-- Behind a brace. -/
def often' (r : List Int) : Res (Int × Int) :=
  if 255 < (num' r).1 then .err 4
  else bif decide (0 < (num' r).2) && hp [44] (r.drop (num' r).2) then
    (if 255 < (num' (r.drop ((num' r).2 + 1))).1 then .err 4
     else bif hp [125] (r.drop ((num' r).2 + 1 + (num' (r.drop ((num' r).2 + 1))).2)) then
       (if (num' (r.drop ((num' r).2 + 1))).2 = 0 then .ok ((num' r).1, -1) ((num' r).2 + 1 + 0 + 1)
        else if (num' (r.drop ((num' r).2 + 1))).1 < (num' r).1 then .err 2
        else .ok ((num' r).1, (num' (r.drop ((num' r).2 + 1))).1) ((num' r).2 + 1 + (num' (r.drop ((num' r).2 + 1))).2 + 1))
     else .err 2)
  else bif decide (0 < (num' r).2) && hp [125] (r.drop (num' r).2) then .ok ((num' r).1, (num' r).1) ((num' r).2 + 1) else .err 2
theorem hp_len {s r : List Int} (h : hp s r = true) : s.length ≤ r.length := by
  unfold hp at h
  simp only [Bool.and_eq_true, decide_eq_true_eq] at h
  omega
def AnsO (G : (Int → Int → Int → PV → R) → R) (p : List Int) (a : Nat) : Res (Int × Int) → Prop
  | .ok v c => a + c ≤ p.length ∧ ∀ ret, G ret = ret v.1 v.2 0 (ct p (a + c))
  | .err e => e ≠ 0 ∧ ∃ b, b ≤ p.length ∧ ∀ ret, G ret = ret 0 0 e (ct p b)
theorem spec_often' : Ult fun k => ∀ (p : List Int) (a : Nat), p.length ≤ 1100 → a ≤ p.length → AnsO (G17 k (ct p a)) p a (often' (p.drop a)) :=
  Ult.succ ((spec_number'.and spec_is).mono fun k ⟨h1, h2⟩ p a hl ha => by
    have e1 := fun ret => h1 p a ret hl ha
    have l1 := num_len (p.drop a)
    have r1 := num_range (p.drop a)
    simp only [List.length_drop] at l1
    have e2 := fun s ret (hs : s.length ≤ 1000) => h2 s p (a + (num' (p.drop a)).2) ret (by omega) (by omega) hs
    have e3 := fun ret (h : a + (num' (p.drop a)).2 + 1 ≤ p.length) => h1 p (a + (num' (p.drop a)).2 + 1) ret hl h
    have l3 := num_len (p.drop (a + (num' (p.drop a)).2 + 1))
    have r3 := num_range (p.drop (a + (num' (p.drop a)).2 + 1))
    simp only [List.length_drop] at l3
    unfold often'
    try simp only [List.drop_drop]
    rw [show a + ((num' (p.drop a)).2 + 1) = a + (num' (p.drop a)).2 + 1 by omega]
    generalize hn : num' (p.drop a) = n at *
    obtain ⟨v, c⟩ := n
    try simp only at *
    by_cases hb : 255 < v
    · rw [if_pos hb]
      refine ⟨by decide, a + c, by omega, fun ret => ?_⟩
      simp only [G17, f17_N, f17_e, e1]
      rw [dT hb]; rfl
    rw [if_neg hb]
    by_cases hc : 0 < c
    · cases h44 : hp [44] (p.drop (a + c)) with
      | true =>
        have g44 := hp_len h44
        simp only [List.length_cons, List.length_nil, List.length_drop] at g44
        have e3 := fun ret => e3 ret (by omega)
        have e4 := fun s ret (hs : s.length ≤ 1000) => h2 s p (a + c + 1 + (num' (p.drop (a + c + 1))).2) ret (by omega) (by omega) hs
        rw [decide_eq_true hc]
        simp only [Bool.and_self, cond_true]
        rw [show a + (c + 1 + (num' (p.drop (a + c + 1))).2) = a + c + 1 + (num' (p.drop (a + c + 1))).2 by omega]
        generalize hm : num' (p.drop (a + c + 1)) = m at *
        obtain ⟨u, d⟩ := m
        try simp only at *
        by_cases hu : 255 < u
        · rw [if_pos hu]
          refine ⟨by decide, a + c + 1 + d, by omega, fun ret => ?_⟩
          simp only [G17, f17_N, f17_e, e1]
          rw [dF hb, dT hc]
          simp only [beq_self_eq_true, cond_true, cond_false, e2 [44] _ (by simp), h44, List.length_cons, List.length_nil, Nat.zero_add, e3]
          rw [dT hu]; rfl
        rw [if_neg hu]
        cases h125 : hp [125] (p.drop (a + c + 1 + d)) with
        | false =>
          refine ⟨by decide, a + c + 1 + d, by omega, fun ret => ?_⟩
          simp only [G17, f17_N, f17_e, e1]
          rw [dF hb, dT hc]
          simp only [beq_self_eq_true, cond_true, cond_false, e2 [44] _ (by simp), h44, List.length_cons, List.length_nil, Nat.zero_add, e3]
          rw [dF hu]
          cases decide (0 < d) <;> simp only [Bool.not_true, Bool.not_false, beq_self_eq_true, cond_true, cond_false, e4 [125] _ (by simp), h125] <;> rfl
        | true =>
          have g125 := hp_len h125
          simp only [List.length_cons, List.length_nil, List.length_drop] at g125
          by_cases hd : d = 0
          · simp only [cond_true, if_pos hd]
            refine ⟨by omega, fun ret => ?_⟩
            simp only [G17, f17_N, f17_e, e1]
            rw [dF hb, dT hc]
            simp only [beq_self_eq_true, cond_true, cond_false, e2 [44] _ (by simp), h44, List.length_cons, List.length_nil, Nat.zero_add, e3]
            rw [dF hu, dF (show ¬ 0 < d by omega)]
            simp only [Bool.not_true, Bool.not_false, beq_self_eq_true, cond_true, cond_false, e4 [125] _ (by simp), h125, List.length_cons, List.length_nil, Nat.zero_add]
            rw [show a + c + 1 + d + 1 = a + (c + 1 + 0 + 1) by omega]
          · simp only [cond_true, if_neg hd]
            by_cases hlt : u < v
            · rw [if_pos hlt]
              refine ⟨by decide, a + c + 1 + d + 1, by omega, fun ret => ?_⟩
              simp only [G17, f17_N, f17_e, e1]
              rw [dF hb, dT hc]
              simp only [beq_self_eq_true, cond_true, cond_false, e2 [44] _ (by simp), h44, List.length_cons, List.length_nil, Nat.zero_add, e3]
              rw [dF hu, dT (show 0 < d by omega)]
              simp only [Bool.not_true, Bool.not_false, beq_self_eq_true, cond_true, cond_false, e4 [125] _ (by simp), h125, List.length_cons, List.length_nil, Nat.zero_add]
              rw [dF (show ¬ u = -1 by omega), dT hlt]; rfl
            · rw [if_neg hlt]
              refine ⟨by omega, fun ret => ?_⟩
              simp only [G17, f17_N, f17_e, e1]
              rw [dF hb, dT hc]
              simp only [beq_self_eq_true, cond_true, cond_false, e2 [44] _ (by simp), h44, List.length_cons, List.length_nil, Nat.zero_add, e3]
              rw [dF hu, dT (show 0 < d by omega)]
              simp only [Bool.not_true, Bool.not_false, beq_self_eq_true, cond_true, cond_false, e4 [125] _ (by simp), h125, List.length_cons, List.length_nil, Nat.zero_add]
              rw [dF (show ¬ u = -1 by omega), dF hlt, show a + c + 1 + d + 1 = a + (c + 1 + d + 1) by omega]; rfl
      | false =>
        rw [decide_eq_true hc]
        simp only [Bool.and_false, Bool.true_and, cond_false]
        cases h125 : hp [125] (p.drop (a + c)) with
        | true =>
          have g125 := hp_len h125
          simp only [List.length_cons, List.length_nil, List.length_drop] at g125
          simp only [cond_true]
          refine ⟨by omega, fun ret => ?_⟩
          simp only [G17, f17_N, f17_e, e1]
          rw [dF hb, dT hc]
          simp only [beq_self_eq_true, Bool.not_true, cond_true, cond_false, e2 [44] _ (by simp), h44, e2 [125] _ (by simp), h125, List.length_cons, List.length_nil, Nat.zero_add]
          rw [dF (show ¬ v = -1 by omega), dF (show ¬ v < v by omega)]; rfl
        | false =>
          refine ⟨by decide, a + c, by omega, fun ret => ?_⟩
          simp only [G17, f17_N, f17_e, e1]
          rw [dF hb, dT hc]
          simp only [beq_self_eq_true, Bool.not_true, cond_true, cond_false, e2 [44] _ (by simp), h44, e2 [125] _ (by simp), h125]; rfl
    · rw [decide_eq_false hc]
      simp only [Bool.false_and, cond_false]
      refine ⟨by decide, a + c, by omega, fun ret => ?_⟩
      simp only [G17, f17_N, f17_e, e1]
      rw [dF hb, dF hc]; rfl)
end Go.Proofs.Ytoefnbinfmbckaa
