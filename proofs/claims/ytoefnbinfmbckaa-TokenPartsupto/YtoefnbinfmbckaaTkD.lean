/- Letter by letter, in plain terms: brackets, tokens, a whole pattern. -/
import Derived.Test.YtoefnbinfmbckaaTkB
set_option linter.unusedSimpArgs false
set_option linter.unusedVariables false
set_option maxRecDepth 20000
namespace Go.Proofs.Ytoefnbinfmbckaa
open Go Go.X

theorem rng_lt' (a b : Nat) : rng a b < 2 ^ 256 := rng_lt a b
theorem ofL1i_lt {b : Int} (h0 : 0 ≤ b) (h1 : b < 256) : ofL [b.toNat] < 2 ^ 256 := ofL_lt _ (by simp; omega)
theorem clsOf_lt {s : List Int} {c : List Int × Nat} (h : clsOf s = some c) : c.2 < 2 ^ 256 := by
  have hm : c ∈ cls := List.mem_of_find?_eq_some h
  have hall : (cls.all fun c => decide (c.2 < 2 ^ 256)) = true := by decide +kernel
  simpa using List.all_eq_true.1 hall c hm
theorem mem_drop' {r : List Int} {n : Nat} {x : Int} {t : List Int} (h : r.drop n = x :: t) : x ∈ r := List.mem_of_mem_drop (i := n) (by rw [h]; simp)
theorem item_ok {first : Bool} {r : List Int} {x c : Nat} (hb : ByI r) (h : item' first r = .ok x c) : x < 2 ^ 256 ∧ 1 ≤ c ∧ c ≤ r.length := by
  unfold item' at h
  cases h58 : hp [91, 58] r with
  | true =>
    rw [h58, cond_true] at h
    have g := hp_len h58
    simp only [List.length_cons, List.length_nil] at g
    cases hcut : cutL (r.drop 2) [58, 93] with
    | mk nm y =>
      obtain ⟨rest, ok⟩ := y
      rw [hcut] at h
      cases ok with
      | false => simp at h
      | true =>
        have hl := cutL_len hcut
        simp only [List.length_cons, List.length_nil, List.length_drop] at hl
        simp only [cond_true] at h
        cases hc : clsOf nm with
        | none => rw [hc] at h; cases h
        | some k =>
          rw [hc] at h
          injection h with h1 h2
          subst h1; subst h2
          exact ⟨clsOf_lt hc, by omega, by omega⟩
  | false =>
    rw [h58, cond_false] at h
    cases he : end' r with
    | err e => rw [he] at h; cases h
    | ok lo c1 =>
      rw [he] at h
      obtain ⟨rfl, t, ht⟩ := end_ok he
      have hlo := hb lo (by rw [ht]; simp)
      have hrl : 1 ≤ r.length := by rw [ht]; simp
      simp only at h
      cases hc1 : (decide (lo = 45) && (!first && !hp [93] (r.drop 1))) with
      | true => rw [hc1] at h; cases h
      | false =>
        rw [hc1, cond_false] at h
        cases hc2 : (!hp [45] (r.drop 1) || hp [45, 93] (r.drop 1)) with
        | true =>
          rw [hc2, cond_true] at h
          injection h with h1 h2
          subst h1; subst h2
          exact ⟨ofL1i_lt hlo.1 hlo.2, by omega, by omega⟩
        | false =>
          rw [hc2, cond_false] at h
          cases he2 : end' (r.drop 2) with
          | err e => rw [he2] at h; cases h
          | ok hi c2 =>
            rw [he2] at h
            obtain ⟨rfl, t2, ht2⟩ := end_ok he2
            simp only at h
            split at h
            · cases h
            · injection h with h1 h2
              subst h1; subst h2
              have := congrArg List.length ht2
              simp only [List.length_drop, List.length_cons] at this
              exact ⟨rng_lt _ _, by omega, by omega⟩
theorem lst_zero {n : Nat} (hn : n < 2 ^ 256) : (lst n).length = 0 ↔ n = 0 := by
  constructor
  · intro h
    have h0 : lst n = [] := List.eq_nil_of_length_eq_zero h
    refine lst_inj hn (by omega) (h0.trans ?_)
    exact (List.eq_nil_of_length_eq_zero (by decide +kernel)).symm
  · rintro rfl; decide +kernel
theorem notN_lt' {n : Nat} (hn : n < 2 ^ 256) : notN n < 2 ^ 256 := Nat.xor_lt_two_pow (by omega) hn

/-- The items of a bracket, up to its end. -/
def bl : Nat → Bool → Nat → List Int → Res Nat
  | 0, _, _, _ => .err 2
  | f + 1, first, s, r => bif !first && hp [93] r then .ok s 1 else match item' first r with
    | .err e => .err e
    | .ok x c => match bl f false (s ||| x) (r.drop c) with
      | .err e => .err e
      | .ok s' c' => .ok s' (c + c')
def bracket' (r : List Int) : Res Nat :=
  match bl (r.length + 2) true 0 (r.drop (if hp [94] r then 1 else 0)) with
  | .err e => .err e
  | .ok s c => if (if hp [94] r then notN s else s) = 0 then .err 2 else .ok (if hp [94] r then notN s else s) ((if hp [94] r then 1 else 0) + c)
theorem ByI.drop {p : List Int} (h : ByI p) (a : Nat) : ByI (p.drop a) := fun c hc => h c (List.mem_of_mem_drop hc)
theorem spec_bracket : Ult fun k => ∀ (p : List Int) (a : Nat), p.length ≤ 1100 → a ≤ p.length → ByI p → AnsR bs (G19 k (ct p a)) p a (bracket' (p.drop a)) :=
  Ult.succ ((spec_is.and (spec_item.and (spec_Or.and (spec_Not.and (spec_Len.and (Ult.ge 2000)))))).mono fun k ⟨h1, h2, h3, h4, h5, hk⟩ p a hl ha hb => by
    have gen : ∀ (f kk : Nat) (first nt : Bool) (s b : Nat), (p.drop b).length < f → f ≤ kk → b ≤ p.length → s < 2 ^ 256 →
        match bl f first s (p.drop b) with
        | .ok s' c => b + c ≤ p.length ∧ s' < 2 ^ 256 ∧ ∀ ret, loopR (f19_w1B k (G10 k) (G12 k) (G16 k) (G24 k) (G25 k) ret nt) kk (first, bs s, ct p b) = (if (if nt then notN s' else s') = 0 then ret (bs 0) 2 (ct p (b + c)) else ret (bs (if nt then notN s' else s')) 0 (ct p (b + c)))
        | .err e => e ≠ 0 ∧ ∃ d, d ≤ p.length ∧ ∀ ret, loopR (f19_w1B k (G10 k) (G12 k) (G16 k) (G24 k) (G25 k) ret nt) kk (first, bs s, ct p b) = ret (bs 0) e (ct p d) := by
      intro f
      induction f with
      | zero => intro kk first nt s b h1 _ _ _; omega
      | succ f ih =>
        intro kk first nt s b hf hkk hbl hs
        obtain ⟨kk, rfl⟩ : ∃ k', kk = k' + 1 := ⟨kk - 1, by omega⟩
        have e := fun s ret (hs : s.length ≤ 1000) => h1 s p b ret hbl (by omega) hs
        have hcl : (!first && hp [93] (p.drop b)) = true → _ := fun hc => hc
        simp only [bl]
        cases hc : (!first && hp [93] (p.drop b)) with
        | true =>
          have hff : first = false := by cases first with
            | false => rfl
            | true => cases hc
          subst hff
          have h93 : hp [93] (p.drop b) = true := hc
          have g := hp_len h93
          simp only [List.length_cons, List.length_nil, List.length_drop] at g
          simp only [cond_true]
          refine ⟨by omega, hs, fun ret => ?_⟩
          rw [vsucc]
          simp only [f19_w1B, f19_w1b0N, f19_w1b0, beq_self_eq_true, cond_true, e [93] _ (by simp), h93, Bool.not_true, cond_false, List.length_cons, List.length_nil, Nat.zero_add, bs_z]
          cases nt with
          | true =>
            simp only [cond_true, if_true, h4, h5]
            by_cases hz : notN s = 0
            · rw [if_pos hz, dT (by have := (lst_zero (notN_lt' hs)).2 hz; omega)]; rfl
            · rw [if_neg hz, dF (by have := (not_congr (lst_zero (notN_lt' hs))).2 hz; omega)]; rfl
          | false =>
            simp only [cond_false, Bool.false_eq_true, if_false, h5]
            by_cases hz : s = 0
            · rw [if_pos hz, dT (by have := (lst_zero hs).2 hz; omega)]; rfl
            · rw [if_neg hz, dF (by have := (not_congr (lst_zero hs)).2 hz; omega)]; rfl
        | false =>
          simp only [cond_false]
          -- one item, then the rest
          have hstep : ∀ ret, loopR (f19_w1B k (G10 k) (G12 k) (G16 k) (G24 k) (G25 k) ret nt) (kk + 1) (first, bs s, ct p b) = G24 k first (ct p b) fun p20 n21 p22 => bif !(decide (n21 = (0 : Int))) then ret (bs 0) n21 p22 else G12 k (bs s) p20 fun p23 => loopR (f19_w1B k (G10 k) (G12 k) (G16 k) (G24 k) (G25 k) ret nt) kk (false, p23, p22) := fun ret => by
            rw [vsucc]
            simp only [f19_w1B, f19_w1b0N, f19_w1b0, bs_z]
            cases first with
            | true => rfl
            | false =>
              have h93 : hp [93] (p.drop b) = false := hc
              simp only [beq_self_eq_true, cond_true, e [93] _ (by simp), h93, cond_false, Bool.not_false]
          have hi := h2 first p b hl hbl hb
          cases hit : item' first (p.drop b) with
          | err er =>
            rw [hit] at hi
            obtain ⟨hne, v, d, hd, hi⟩ := hi
            simp only
            refine ⟨hne, d, hd, fun ret => ?_⟩
            rw [hstep, hi, dF hne]; rfl
          | ok x c =>
            rw [hit] at hi
            obtain ⟨hcl, hi⟩ := hi
            obtain ⟨hx, hc1, hc2⟩ := item_ok (ByI.drop hb b) hit
            simp only [List.length_drop] at hc2 hf
            have ih := ih kk false nt (s ||| x) (b + c) (by simp only [List.length_drop]; omega) (by omega) hcl (Nat.or_lt_two_pow hs hx)
            simp only [List.drop_drop]
            have hgo : ∀ ret, loopR (f19_w1B k (G10 k) (G12 k) (G16 k) (G24 k) (G25 k) ret nt) (kk + 1) (first, bs s, ct p b) = loopR (f19_w1B k (G10 k) (G12 k) (G16 k) (G24 k) (G25 k) ret nt) kk (false, bs (s ||| x), ct p (b + c)) := fun ret => by
              rw [hstep, hi]
              simp only [decide_true, Bool.not_true, cond_false, h3]
            cases hr : bl f false (s ||| x) (p.drop (b + c)) with
            | err er =>
              rw [hr] at ih
              obtain ⟨i1, d, i2, i3⟩ := ih
              exact ⟨i1, d, i2, fun ret => (hgo ret).trans (i3 ret)⟩
            | ok s' c' =>
              rw [hr] at ih
              obtain ⟨i1, i2, i3⟩ := ih
              refine ⟨by omega, i2, fun ret => ?_⟩
              rw [hgo, i3, show b + c + c' = b + (c + c') by omega]
    unfold bracket'
    have e := fun s ret (hs : s.length ≤ 1000) => h1 s p a ret ha (by omega) hs
    have hrun : ∀ ret, G19 (k + 1) (ct p a) ret = loopR (f19_w1B k (G10 k) (G12 k) (G16 k) (G24 k) (G25 k) ret (hp [94] (p.drop a))) k (true, bs 0, ct p (a + (if hp [94] (p.drop a) then 1 else 0))) := fun ret => by
      simp only [G19, f19_N, f19_e, f19_w1N, e [94] _ (by simp), bs_z]
      cases hp [94] (p.drop a) <;> rfl
    have hle : a + (if hp [94] (p.drop a) then 1 else 0) ≤ p.length := by
      split
      · rename_i h
        have g := hp_len h
        simp only [List.length_cons, List.length_nil, List.length_drop] at g; omega
      · omega
    have hg := gen ((p.drop a).length + 2) k true (hp [94] (p.drop a)) 0 (a + (if hp [94] (p.drop a) then 1 else 0)) (by simp only [List.length_drop]; omega) (by simp only [List.length_drop]; omega) hle (by omega)
    rw [List.drop_drop]
    cases hr : bl ((p.drop a).length + 2) true 0 (p.drop (a + (if hp [94] (p.drop a) then 1 else 0))) with
    | err er =>
      rw [hr] at hg
      obtain ⟨i1, d, i2, i3⟩ := hg
      exact ⟨i1, bs 0, d, i2, fun ret => (hrun ret).trans (i3 ret)⟩
    | ok s c =>
      rw [hr] at hg
      obtain ⟨i1, i2, i3⟩ := hg
      simp only
      by_cases hz : (if hp [94] (p.drop a) then notN s else s) = 0
      · rw [if_pos hz]
        exact ⟨by decide, bs 0, _, i1, fun ret => by rw [hrun, i3, if_pos hz]⟩
      · rw [if_neg hz]
        refine ⟨by omega, fun ret => ?_⟩
        rw [hrun, i3, if_neg hz, show a + (if hp [94] (p.drop a) then 1 else 0) + c = a + ((if hp [94] (p.drop a) then 1 else 0) + c) by omega])
end Go.Proofs.Ytoefnbinfmbckaa
