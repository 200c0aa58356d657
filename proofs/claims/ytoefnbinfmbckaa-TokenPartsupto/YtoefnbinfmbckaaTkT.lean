/- Letter by letter, in plain terms: one token; a whole pattern. -/
import Derived.Test.YtoefnbinfmbckaaTkD
set_option linter.unusedSimpArgs false
set_option linter.unusedVariables false
set_option maxRecDepth 20000
namespace Go.Proofs.Ytoefnbinfmbckaa
open Go Go.X

/-- A token, but for its place. -/
structure Tk where
  kind : Int
  set : Nat
  lo : Int
  hi : Int
def pvT (t : Tk) (a : Nat) : PV := .agg [.int t.kind, bs t.set, .int t.lo, .int t.hi, .int (a : Int)]
def lets : List Int := [40, 41, 124, 94, 36, 42, 43, 63, 46]
def sign' (b : Int) : Tk :=
  if b = 40 then ⟨2, 0, 0, 0⟩ else if b = 41 then ⟨4, 0, 0, 0⟩ else if b = 124 then ⟨5, 0, 0, 0⟩ else if b = 94 then ⟨7, 0, 0, 0⟩ else if b = 36 then ⟨8, 0, 0, 0⟩
  else if b = 42 then ⟨6, 0, 0, -1⟩ else if b = 43 then ⟨6, 0, 1, -1⟩ else if b = 63 then ⟨6, 0, 0, 1⟩ else ⟨1, notN 0, 0, 0⟩
theorem spec_sign : Ult fun k => ∀ (a : Nat) (b : Int) ret, G21 k (pvT ⟨0, 0, 0, 0⟩ a) b ret = ret (pvT (sign' b) a) :=
  Ult.succ (Ult.succ (spec_Not.mono fun k h a b ret => by
    simp only [G21, f21_N, f21_e, G13, f13_N, f13_e, bs_z, h]
    unfold sign'
    by_cases h1 : b = 40
    · rw [dT h1, if_pos h1]; rfl
    rw [dF h1, if_neg h1]
    by_cases h2 : b = 41
    · rw [dT h2, if_pos h2]; rfl
    rw [dF h2, if_neg h2]
    by_cases h3 : b = 124
    · rw [dT h3, if_pos h3]; rfl
    rw [dF h3, if_neg h3]
    by_cases h4 : b = 94
    · rw [dT h4, if_pos h4]; rfl
    rw [dF h4, if_neg h4]
    by_cases h5 : b = 36
    · rw [dT h5, if_pos h5]; rfl
    rw [dF h5, if_neg h5]
    by_cases h6 : b = 42
    · rw [dT h6, if_pos h6]; rfl
    rw [dF h6, if_neg h6]
    by_cases h7 : b = 43
    · rw [dT h7, if_pos h7]; rfl
    rw [dF h7, if_neg h7]
    by_cases h8 : b = 63
    · rw [dT h8, if_pos h8]; rfl
    rw [dF h8, if_neg h8]
    rfl))
/-- One token. -/
def one' (r : List Int) : Res Tk :=
  match r with
  | [] => .err 2
  | b :: t =>
    bif hp [40, 63, 58] (b :: t) then .ok ⟨3, 0, 0, 0⟩ 3
    else bif decide (b = 123) then (match often' t with | .err e => .err e | .ok v c => .ok ⟨6, 0, v.1, v.2⟩ (c + 1))
    else bif decide (b = 92) then (match escaped' t with | .err e => .err e | .ok s c => .ok ⟨1, s, 0, 0⟩ (c + 1))
    else bif decide (b = 91) then (match bracket' t with | .err e => .err e | .ok s c => .ok ⟨1, s, 0, 0⟩ (c + 1))
    else bif decide ((0 : Int) ≤ idxB lets b) then .ok (sign' b) 1 else .ok ⟨1, ofL [b.toNat], 0, 0⟩ 1
theorem spec_one : Ult fun k => ∀ (p : List Int) (a : Nat), p.length ≤ 1100 → a < p.length → ByI p → AnsR (fun t => pvT t a) (G15 k (ct p a)) p a (one' (p.drop a)) :=
  Ult.succ ((spec_is.and (spec_often'.and (spec_escaped.and (spec_bracket.and (spec_idx.and (spec_sign.and spec_of1)))))).mono fun k ⟨h1, h2, h3, h4, h5, h6, h7⟩ p a hl ha hb => by
    have e := fun s ret (hs : s.length ≤ 1000) => h1 s p a ret (by omega) (by omega) hs
    have hd := List.drop_eq_getElem_cons ha
    have d2 : p.getD a 0 = p[a] := by simp [List.getD, ha]
    have hbb := hb p[a] (List.getElem_mem ha)
    rw [hd] at e ⊢
    have s1 : ∀ c : Int, hp [c] (p[a] :: p.drop (a + 1)) = decide (p[a] = c) := fun c => by rw [hp_cons, hp_nil, Bool.and_true]
    have w1 : IntKind.wrap .i64 ((a : Int) + 1) = ((a + 1 : Nat) : Int) := by rw [wrap_i64 (by omega) (by omega)]; rfl
    have e0 : PV.agg [PV.str p, PV.int ((a + 1 : Nat) : Int)] = ct p (a + 1) := rfl
    have et : ∀ (kd lo hi : Int) (s : Nat), PV.agg [PV.int kd, bs s, PV.int lo, PV.int hi, PV.int (a : Int)] = pvT ⟨kd, s, lo, hi⟩ a := fun _ _ _ _ => rfl
    have hrun : ∀ ret, G15 (k + 1) (ct p a) ret = (bif hp [40, 63, 58] (p[a] :: p.drop (a + 1)) then ret (pvT ⟨3, 0, 0, 0⟩ a) 0 (ct p (a + 3))
        else bif decide (p[a] = 123) then G17 k (ct p (a + 1)) fun n6 n7 n8 p9 => ret (pvT ⟨6, 0, n6, n7⟩ a) n8 p9
        else bif decide (p[a] = 92) then G18 k (ct p (a + 1)) fun p12 n13 p14 => ret (PV.agg [PV.int 1, p12, PV.int 0, PV.int 0, PV.int (a : Int)]) n13 p14
        else bif decide (p[a] = 91) then G19 k (ct p (a + 1)) fun p17 n18 p19 => ret (PV.agg [PV.int 1, p17, PV.int 0, PV.int 0, PV.int (a : Int)]) n18 p19
        else bif decide ((0 : Int) ≤ idxB lets p[a]) then ret (pvT (sign' p[a]) a) 0 (ct p (a + 1)) else ret (pvT ⟨1, ofL [p[a].toNat], 0, 0⟩ a) 0 (ct p (a + 1))) := fun ret => by
      simp only [G15, f15_N, f15_e, ct0, ct1, Int.toNat_natCast, d2, e [40, 63, 58] _ (by simp), e [123] _ (by simp), e [92] _ (by simp), e [91] _ (by simp), s1, h5, h7 _ _ hbb.1 hbb.2, ct_set, w1, e0, bs_z, et, h6, List.length_cons, List.length_nil, Nat.zero_add]
      rw [dT (show (0 : Int) ≤ (a : Int) by omega), dT (show (a : Int) < (p.length : Int) by omega)]
      simp only [Bool.and_self, cond_true]
      cases hp [40, 63, 58] (p[a] :: p.drop (a + 1)) <;> cases decide (p[a] = 123) <;> cases decide (p[a] = 92) <;> cases decide (p[a] = 91) <;> rfl
    unfold one'
    simp only
    cases c1 : hp [40, 63, 58] (p[a] :: p.drop (a + 1)) with
    | true =>
      have g := hp_len c1
      simp only [List.length_cons, List.length_nil, List.length_drop] at g
      simp only [cond_true]
      exact ⟨by omega, fun ret => by rw [hrun, c1]; rfl⟩
    | false =>
    simp only [cond_false]
    have hrun : ∀ ret, _ := fun ret => (hrun ret).trans (by rw [c1, cond_false])
    cases c2 : decide (p[a] = 123) with
    | true =>
      simp only [cond_true]
      have ho := h2 p (a + 1) hl (by omega)
      cases hr : often' (p.drop (a + 1)) with
      | err er =>
        rw [hr] at ho
        obtain ⟨i1, d, i2, i3⟩ := ho
        exact ⟨i1, pvT ⟨6, 0, 0, 0⟩ a, d, i2, fun ret => by rw [hrun, c2, cond_true, i3]⟩
      | ok v c =>
        rw [hr] at ho
        obtain ⟨i1, i2⟩ := ho
        exact ⟨by omega, fun ret => by rw [hrun, c2, cond_true, i2, show a + 1 + c = a + (c + 1) by omega]⟩
    | false =>
    simp only [cond_false]
    have hrun : ∀ ret, _ := fun ret => (hrun ret).trans (by rw [c2, cond_false])
    cases c3 : decide (p[a] = 92) with
    | true =>
      simp only [cond_true]
      have ho := h3 p (a + 1) hl (by omega) hb
      cases hr : escaped' (p.drop (a + 1)) with
      | err er =>
        rw [hr] at ho
        obtain ⟨i1, v, d, i2, i3⟩ := ho
        exact ⟨i1, PV.agg [PV.int 1, v, PV.int 0, PV.int 0, PV.int (a : Int)], d, i2, fun ret => by rw [hrun, c3, cond_true, i3]⟩
      | ok v c =>
        rw [hr] at ho
        obtain ⟨i1, i2⟩ := ho
        exact ⟨by omega, fun ret => by rw [hrun, c3, cond_true, i2, show a + 1 + c = a + (c + 1) by omega]; rfl⟩
    | false =>
    simp only [cond_false]
    have hrun : ∀ ret, _ := fun ret => (hrun ret).trans (by rw [c3, cond_false])
    cases c4 : decide (p[a] = 91) with
    | true =>
      simp only [cond_true]
      have ho := h4 p (a + 1) hl (by omega) hb
      cases hr : bracket' (p.drop (a + 1)) with
      | err er =>
        rw [hr] at ho
        obtain ⟨i1, v, d, i2, i3⟩ := ho
        exact ⟨i1, PV.agg [PV.int 1, v, PV.int 0, PV.int 0, PV.int (a : Int)], d, i2, fun ret => by rw [hrun, c4, cond_true, i3]⟩
      | ok v c =>
        rw [hr] at ho
        obtain ⟨i1, i2⟩ := ho
        exact ⟨by omega, fun ret => by rw [hrun, c4, cond_true, i2, show a + 1 + c = a + (c + 1) by omega]; rfl⟩
    | false =>
    simp only [cond_false]
    have hrun : ∀ ret, _ := fun ret => (hrun ret).trans (by rw [c4, cond_false])
    cases c5 : decide ((0 : Int) ≤ idxB lets p[a]) with
    | true => exact ⟨by omega, fun ret => by rw [hrun, c5]; rfl⟩
    | false => exact ⟨by omega, fun ret => by rw [hrun, c5]; rfl⟩)

theorem one_pos {r : List Int} {t : Tk} {c : Nat} (h : one' r = .ok t c) : 1 ≤ c := by
  unfold one' at h
  split at h
  · cases h
  · rename_i b l
    cases c1 : hp [40, 63, 58] (b :: l) with
    | true => rw [c1, cond_true] at h; injection h with _ h; omega
    | false =>
    rw [c1, cond_false] at h
    cases c2 : decide (b = 123) with
    | true =>
      rw [c2, cond_true] at h
      split at h
      · cases h
      · injection h with _ h; omega
    | false =>
    rw [c2, cond_false] at h
    cases c3 : decide (b = 92) with
    | true =>
      rw [c3, cond_true] at h
      split at h
      · cases h
      · injection h with _ h; omega
    | false =>
    rw [c3, cond_false] at h
    cases c4 : decide (b = 91) with
    | true =>
      rw [c4, cond_true] at h
      split at h
      · cases h
      · injection h with _ h; omega
    | false =>
    rw [c4, cond_false] at h
    cases c5 : decide ((0 : Int) ≤ idxB lets b) with
    | true => rw [c5, cond_true] at h; injection h with _ h; omega
    | false => rw [c5, cond_false] at h; injection h with _ h; omega

/-- A whole pattern's tokens, with their places; or where it cannot be cut, and why. -/
def cutN : Nat → Nat → List Int → (Nat × Int) ⊕ List (Tk × Nat)
  | 0, off, _ => .inl (off, 2)
  | f + 1, off, r => match r with
    | [] => .inr []
    | b :: t => match one' (b :: t) with
      | .err e => .inl (off, e)
      | .ok tk c => match cutN f (off + c) ((b :: t).drop c) with
        | .inl x => .inl x
        | .inr l => .inr ((tk, off) :: l)
def pvTk (x : Tk × Nat) : PV := pvT x.1 x.2
theorem spec_Cut : Ult fun k => ∀ (p : List Int), p.length ≤ 1024 → ByI p → match cutN (p.length + 1) 0 p with
    | .inl x => x.2 ≠ 0 ∧ ∀ ret, G8 k p ret = ret (.list []) (x.1 : Int) x.2
    | .inr l => ∀ ret, G8 k p ret = ret (.list (l.map pvTk)) (p.length : Int) 0 :=
  Ult.succ ((spec_one.and (Ult.ge 2000)).mono fun k ⟨h1, hk⟩ p hl hb => by
    have gen : ∀ (f kk : Nat) (acc : List (Tk × Nat)) (a : Nat), (p.drop a).length < f → f ≤ kk → a ≤ p.length → acc.length + (p.length - a) ≤ 1100 →
        match cutN f a (p.drop a) with
        | .inl x => x.2 ≠ 0 ∧ ∀ ret, loopR (f8_w1B k (G15 k) ret p) kk (acc.map pvTk, ct p a) = ret (.list []) (x.1 : Int) x.2
        | .inr l => ∀ ret, loopR (f8_w1B k (G15 k) ret p) kk (acc.map pvTk, ct p a) = ret (.list ((acc ++ l).map pvTk)) (p.length : Int) 0 := by
      intro f
      induction f with
      | zero => intro kk acc a h _ _ _; omega
      | succ f ih =>
        intro kk acc a hf hkk hal hacc
        obtain ⟨kk, rfl⟩ : ∃ k', kk = k' + 1 := ⟨kk - 1, by omega⟩
        rcases Nat.lt_or_ge a p.length with hlt | hge
        · have hd := List.drop_eq_getElem_cons hlt
          have ho := h1 p a (by omega) hlt hb
          rw [hd] at ho ⊢
          simp only [cutN]
          have hstep : ∀ ret, loopR (f8_w1B k (G15 k) ret p) (kk + 1) (acc.map pvTk, ct p a) = G15 k (ct p a) fun p7 n8 p9 => bif !(decide (n8 = (0 : Int))) then ret (PV.list []) (a : Int) n8 else bif (true && roomy ((acc.map pvTk).length + [p7].length) 64) then loopR (f8_w1B k (G15 k) ret p) kk (acc.map pvTk ++ [p7], p9) else none := fun ret => by
            rw [vsucc]
            simp only [f8_w1B, f8_w1b0N, f8_w1b0, ct1]
            rw [dT (show (a : Int) < (p.length : Int) by omega)]; rfl
          cases hone : one' (p[a] :: p.drop (a + 1)) with
          | err er =>
            rw [hone] at ho
            obtain ⟨i1, v, d, i2, i3⟩ := ho
            simp only
            exact ⟨i1, fun ret => by rw [hstep, i3, dF i1]; rfl⟩
          | ok t c =>
            rw [hone] at ho
            obtain ⟨i1, i2⟩ := ho
            have hpos := one_pos hone
            simp only [List.length_drop] at hf
            simp only
            rw [← hd, List.drop_drop]
            have ih := ih kk (acc ++ [(t, a)]) (a + c) (by simp only [List.length_drop]; omega) (by omega) i1 (by simp only [List.length_append, List.length_singleton]; omega)
            have hgo : ∀ ret, loopR (f8_w1B k (G15 k) ret p) (kk + 1) (acc.map pvTk, ct p a) = loopR (f8_w1B k (G15 k) ret p) kk ((acc ++ [(t, a)]).map pvTk, ct p (a + c)) := fun ret => by
              rw [hstep, i2, dT rfl]
              simp only [Bool.not_true, cond_false, List.length_map, List.length_cons, List.length_nil]
              rw [roomy_of (by omega) (by omega), List.map_append]
              rfl
            cases hr : cutN f (a + c) (p.drop (a + c)) with
            | inl x =>
              rw [hr] at ih
              exact ⟨ih.1, fun ret => (hgo ret).trans (ih.2 ret)⟩
            | inr l =>
              rw [hr] at ih
              simp only
              intro ret
              rw [hgo, ih, List.append_assoc]; rfl
        · rw [List.drop_eq_nil_of_le hge]
          simp only [cutN]
          intro ret
          rw [vsucc]
          simp only [f8_w1B, f8_w1b0N, f8_w1b0, ct1]
          rw [dF (show ¬ (a : Int) < (p.length : Int) by omega), List.append_nil]; rfl
    have hg := gen (p.length + 1) k [] 0 (by simp) (by omega) (by omega) (by simp; omega)
    rw [List.drop_zero] at hg
    have hrun : ∀ ret, G8 (k + 1) p ret = loopR (f8_w1B k (G15 k) ret p) k ([], ct p 0) := fun ret => by
      simp only [G8, f8_N, f8_e, f8_w1N]
      rw [dF (show ¬ (1024 : Int) < (p.length : Int) by omega)]; rfl
    cases hr : cutN (p.length + 1) 0 p with
    | inl x => rw [hr] at hg; exact ⟨hg.1, fun ret => (hrun ret).trans (hg.2 ret)⟩
    | inr l => rw [hr] at hg; exact fun ret => (hrun ret).trans (hg ret))
end Go.Proofs.Ytoefnbinfmbckaa
