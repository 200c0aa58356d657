/- Any two numbers in braces: how often, or too great, or none (TokenCounts). -/
import Derived.Test.YtoefnbinfmbckaaTkCo
set_option linter.unusedSimpArgs false
set_option linter.unusedVariables false
set_option maxRecDepth 20000
namespace Go.Proofs.Ytoefnbinfmbckaa
open Go Go.X

theorem is1 {k : Nat} (h : ∀ (s p : List Int) (a : Nat) ret, a ≤ p.length → p.length ≤ 1000000 → s.length ≤ 1000 → G16 k s (ct p a) ret = bif hp s (p.drop a) then ret true (ct p (a + s.length)) else ret false (ct p a))
    {p : List Int} {a : Nat} {x : Int} {t : List Int} (hp1 : p.length ≤ 1000) (hd : p.drop a = x :: t) (c : Int) (ret : Bool → PV → R) : G16 k [c] (ct p a) ret = bif decide (x = c) then ret true (ct p (a + 1)) else ret false (ct p a) := by
  obtain ⟨h1, _, _⟩ := drop_at hd
  rw [h [c] p a ret (by omega) (by omega) (by simp), hd, hp_cons, hp_nil, Bool.and_true]
  rfl
theorem drop_add {p : List Int} {a : Nat} {l m : List Int} (h : p.drop a = l ++ m) : p.drop (a + l.length) = m := by
  rw [← List.drop_drop, h, List.drop_left' rfl]
/-- What stands behind a brace: a number, and the brace. -/
theorem spec_oftenA : Ult fun k => ∀ (p : List Int) (a : Nat) (ds : List Int) (t : List Int) (v : Nat) ret, p.length ≤ 1000 → p.drop a = ds ++ 125 :: t → (∀ d ∈ ds, isD d) → 1 ≤ ds.length → nv 0 ds = (v : Int) →
    (if 255 < v then G17 k (ct p a) ret = ret 0 0 4 (ct p (a + ds.length)) else G17 k (ct p a) ret = ret v v 0 (ct p (a + ds.length + 1))) :=
  Ult.succ ((spec_number.and spec_is).mono fun k ⟨h1, h2⟩ p a ds t v ret hl hd hds hlen hv => by
    simp only [G17, f17_N, f17_e]
    have e := fun ret => h1 p a ds 125 t ret hl hd hds (by decide)
    simp only [e, hv]
    have hd2 := drop_add hd
    rw [dT (show 0 < ds.length by omega)]
    by_cases hb : 255 < v
    · rw [if_pos hb, dT (show (255 : Int) < (v : Int) by omega)]; rfl
    · rw [if_neg hb, dF (show ¬ (255 : Int) < (v : Int) by omega)]
      simp only [beq_self_eq_true, cond_true, cond_false, is1 h2 hl hd2, decide_eq_false (show ¬ (125 : Int) = 44 by decide), decide_true, Bool.not_true]
      rw [dF (show ¬ (v : Int) = -1 by omega), dF (show ¬ (v : Int) < (v : Int) by omega)]
      rfl)
theorem spec_oftenB : Ult fun k => ∀ (p : List Int) (a : Nat) (ds : List Int) (t : List Int) (v : Nat) ret, p.length ≤ 1000 → p.drop a = ds ++ 44 :: 125 :: t → (∀ d ∈ ds, isD d) → 1 ≤ ds.length → nv 0 ds = (v : Int) →
    (if 255 < v then G17 k (ct p a) ret = ret 0 0 4 (ct p (a + ds.length)) else G17 k (ct p a) ret = ret v (-1) 0 (ct p (a + ds.length + 2))) :=
  Ult.succ ((spec_number.and spec_is).mono fun k ⟨h1, h2⟩ p a ds t v ret hl hd hds hlen hv => by
    simp only [G17, f17_N, f17_e]
    have e := fun ret => h1 p a ds 44 (125 :: t) ret hl hd hds (by decide)
    simp only [e, hv]
    have hd2 := drop_add hd
    have hd3 := (drop_at hd2).2.2
    have e2 := fun ret => h1 p (a + ds.length + 1) [] 125 t ret hl hd3 (by simp) (by decide)
    rw [dT (show 0 < ds.length by omega)]
    by_cases hb : 255 < v
    · rw [if_pos hb, dT (show (255 : Int) < (v : Int) by omega)]; rfl
    · rw [if_neg hb, dF (show ¬ (255 : Int) < (v : Int) by omega)]
      simp only [beq_self_eq_true, cond_true, cond_false, is1 h2 hl hd2, decide_true, Bool.not_true, e2, nv, List.length_nil, Nat.add_zero, decide_eq_false (show ¬ (0 : Nat) < 0 by decide), decide_eq_false (show ¬ (255 : Int) < 0 by decide), Bool.not_false, is1 h2 hl hd3]
      rfl)
theorem spec_oftenC : Ult fun k => ∀ (p : List Int) (a : Nat) (ds es : List Int) (t : List Int) (v u : Nat) ret, p.length ≤ 1000 → p.drop a = ds ++ 44 :: (es ++ 125 :: t) → (∀ d ∈ ds, isD d) → 1 ≤ ds.length → nv 0 ds = (v : Int) → (∀ d ∈ es, isD d) → 1 ≤ es.length → nv 0 es = (u : Int) →
    (if 255 < v then G17 k (ct p a) ret = ret 0 0 4 (ct p (a + ds.length)) else if 255 < u then G17 k (ct p a) ret = ret 0 0 4 (ct p (a + ds.length + 1 + es.length)) else
      if u < v then G17 k (ct p a) ret = ret 0 0 2 (ct p (a + ds.length + 1 + es.length + 1)) else G17 k (ct p a) ret = ret v u 0 (ct p (a + ds.length + 1 + es.length + 1))) :=
  Ult.succ ((spec_number.and spec_is).mono fun k ⟨h1, h2⟩ p a ds es t v u ret hl hd hds hlen hv hes hlen2 hu => by
    simp only [G17, f17_N, f17_e]
    have e := fun ret => h1 p a ds 44 (es ++ 125 :: t) ret hl hd hds (by decide)
    simp only [e, hv]
    have hd2 := drop_add hd
    have hd3 := (drop_at hd2).2.2
    have e2 := fun ret => h1 p (a + ds.length + 1) es 125 t ret hl hd3 hes (by decide)
    have hd4 := drop_add hd3
    rw [dT (show 0 < ds.length by omega)]
    by_cases hb : 255 < v
    · rw [if_pos hb, dT (show (255 : Int) < (v : Int) by omega)]; rfl
    · rw [if_neg hb, dF (show ¬ (255 : Int) < (v : Int) by omega)]
      simp only [beq_self_eq_true, cond_true, cond_false, is1 h2 hl hd2, decide_true, Bool.not_true, e2, hu]
      rw [dT (show 0 < es.length by omega)]
      by_cases hc : 255 < u
      · rw [if_pos hc, dT (show (255 : Int) < (u : Int) by omega)]; rfl
      · rw [if_neg hc, dF (show ¬ (255 : Int) < (u : Int) by omega)]
        simp only [beq_self_eq_true, cond_true, cond_false, is1 h2 hl hd4, decide_true, Bool.not_true]
        rw [dF (show ¬ (u : Int) = -1 by omega)]
        by_cases hm : u < v
        · rw [if_pos hm, dT (show (u : Int) < (v : Int) by omega)]; rfl
        · rw [if_neg hm, dF (show ¬ (u : Int) < (v : Int) by omega)]; rfl)

/-- A token of how often. -/
def tok (lo hi : Int) : PV := .agg [.int 6, .agg [.int 0, .int 0, .int 0, .int 0], .int lo, .int hi, .int 0]
/-- One cut of a text that is a brace and what stands behind it. -/
theorem cut_of {k : Nat} (h1 : ∀ (s p : List Int) (a : Nat) ret, a ≤ p.length → p.length ≤ 1000000 → s.length ≤ 1000 → G16 k s (ct p a) ret = bif hp s (p.drop a) then ret true (ct p (a + s.length)) else ret false (ct p a))
    (hk : 10 ≤ k) {q : List Int} (hq : q.length ≤ 900) {lo hi e : Int} {at_ : Nat} (ho : ∀ ret, G17 k (ct (123 :: q) 1) ret = ret lo hi e (ct (123 :: q) at_)) (he : e = 0 → at_ = q.length + 1) (ret : PV → Int → Int → R) :
    G8 (k + 2) (123 :: q) ret = if e = 0 then ret (.list [tok lo hi]) ((q.length + 1 : Nat) : Int) 0 else ret (.list []) 0 e := by
  have hone : ∀ ret, G15 (k + 1) (ct (123 :: q) 0) ret = ret (tok lo hi) e (ct (123 :: q) at_) := fun ret => by
    simp only [G15, f15_N, f15_e, ct0, ct1, List.length_cons]
    rw [dT (show (0 : Int) ≤ ((0 : Nat) : Int) by omega), dT (show ((0 : Nat) : Int) < ((q.length + 1 : Nat) : Int) by omega)]
    simp only [Bool.and_self, cond_true]
    rw [h1 [40, 63, 58] (123 :: q) 0 _ (by simp) (by simp only [List.length_cons]; omega) (by simp), List.drop_zero, hp_cons, decide_eq_false (show ¬ (123 : Int) = 40 by decide)]
    simp only [Bool.false_and, cond_false]
    rw [h1 [123] (123 :: q) 0 _ (by simp) (by simp only [List.length_cons]; omega) (by simp), List.drop_zero, hp_cons, hp_nil]
    simp only [decide_true, Bool.and_self, cond_true, List.length_cons, List.length_nil, Nat.zero_add, ho]
    rfl
  have hcut : G8 (k + 2) (123 :: q) ret = f8_N (k + 1) (G15 (k + 1)) ret (123 :: q) := rfl
  rw [hcut]
  simp only [f8_N, f8_e, f8_w1N, List.length_cons]
  rw [dF (show ¬ (1024 : Int) < ((q.length + 1 : Nat) : Int) by omega), cond_false]
  have e0 : PV.agg [PV.str (123 :: q), PV.int 0] = ct (123 :: q) 0 := rfl
  rw [e0, vsucc]
  simp only [f8_w1B, f8_w1b0N, f8_w1b0, ct1, List.length_cons]
  rw [dT (show ((0 : Nat) : Int) < ((q.length + 1 : Nat) : Int) by omega)]
  simp only [cond_true, hone]
  by_cases hz : e = 0
  · rw [dT hz, if_pos hz]
    simp only [Bool.not_true, cond_false, List.nil_append, List.length_nil, List.length_cons, Nat.zero_add]
    rw [roomy_of (by omega) (by omega)]
    simp only [Bool.and_self, cond_true]
    obtain ⟨kk, rfl⟩ : ∃ kk, k = kk + 1 := ⟨k - 1, by omega⟩
    rw [vsucc]
    simp only [f8_w1B, f8_w1b0N, f8_w1b0, ct1, List.length_cons, he hz]
    rw [dF (show ¬ ((q.length + 1 : Nat) : Int) < ((q.length + 1 : Nat) : Int) by omega)]
    rfl
  · rw [dF hz, if_neg hz]; rfl
theorem spec_awake : Ult fun k => ∀ ret, G7 k ret = ret true := by
  refine (Ult.ge 300).mono fun k hk ret => ?_
  obtain ⟨m, rfl⟩ := Nat.exists_eq_add_of_le' hk
  kernel_rfl
end Go.Proofs.Ytoefnbinfmbckaa
