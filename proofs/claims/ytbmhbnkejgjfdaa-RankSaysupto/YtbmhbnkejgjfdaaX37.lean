/- The interpreter X, part 37: regions whose order is drawn: the run in the order of the text. -/
import Derived.Test.YtbmhbnkejgjfdaaX36
namespace Go.X
open Go
section
variable {E : Env}

def putT (T : List SV) (d : Option Nat) (s : SV) : List SV := match d with | some d => T.set d s | none => T
theorem put_eq (T : List SV) (B : Obs) (d : Option Nat) (s : SV) : ({ T := T, B := B } : St).put d s = { T := putT T d s, B := B } := by cases d <;> rfl
theorem putT_len (T : List SV) (d : Option Nat) (s : SV) : (putT T d s).length = T.length := by cases d <;> simp [putT]
def putAll : List Oper → List (SV × Obs) → Nat → List SV → List SV
  | _, _, 0, T => T
  | o :: l, x :: tr, j + 1, T => putAll l tr j (putT T o.dst x.1)
  | _, _, _, T => T

theorem putAll_len : ∀ (l : List Oper) (tr : List (SV × Obs)) (j : Nat) (T : List SV), (putAll l tr j T).length = T.length
  | [], _, 0, _ | [], _, _ + 1, _ | _ :: _, _, 0, _ | _ :: _, [], _ + 1, _ => rfl
  | o :: l, x :: tr, j + 1, T => by
    show (putAll l tr j _).length = _
    rw [putAll_len l tr j, putT_len]

/-- A slot that no operation writes. -/
theorem putAll_out : ∀ (l : List Oper) (tr : List (SV × Obs)) (j : Nat) (T : List SV) (i : Nat), (∀ (k : Nat) (o : Oper), k < j → l[k]? = some o → o.dst ≠ some i) → (putAll l tr j T)[i]? = T[i]?
  | [], _, 0, _, _, _ | [], _, _ + 1, _, _, _ | _ :: _, _, 0, _, _, _ | _ :: _, [], _ + 1, _, _, _ => rfl
  | o :: l, x :: tr, j + 1, T, i, h => by
    show (putAll l tr j _)[i]? = _
    rw [putAll_out l tr j _ i (fun k o' hk ho => h (k + 1) o' (by omega) (by simpa using ho))]
    have h0 := h 0 o (by omega) rfl
    unfold putT
    cases hd : o.dst with
    | none => rfl
    | some d =>
      simp only
      rw [List.getElem?_set_ne]
      intro hdi
      subst hdi
      exact h0 hd

theorem filterMap_nodup_ne {l : List Oper} (h : (l.filterMap (·.dst)).Nodup) : ∀ {j k : Nat} {x y : Oper} {d : Nat}, l[j]? = some x → l[k]? = some y → x.dst = some d → y.dst = some d → j = k := by
  induction l with
  | nil => intro j k x y d hx; simp at hx
  | cons o l ih =>
    intro j k x y d hx hy hdx hdy
    have hmem : ∀ {k : Nat} {y : Oper}, l[k]? = some y → y.dst = some d → d ∈ l.filterMap (·.dst) := fun hk hd => List.mem_filterMap.2 ⟨_, List.mem_of_getElem? hk, hd⟩
    have htail : (l.filterMap (·.dst)).Nodup := by
      cases ho : o.dst with
      | none => rw [List.filterMap_cons_none ho] at h; exact h
      | some e => rw [List.filterMap_cons_some ho, List.nodup_cons] at h; exact h.2
    have hhead : ∀ e, o.dst = some e → e ∉ l.filterMap (·.dst) := by
      intro e ho
      rw [List.filterMap_cons_some ho, List.nodup_cons] at h; exact h.1
    cases j with
    | zero =>
      replace hx : o = x := by simpa using hx
      subst hx
      cases k with
      | zero => rfl
      | succ k => exact absurd (hmem (by simpa using hy) hdy) (hhead d hdx)
    | succ j =>
      cases k with
      | zero =>
        replace hy : o = y := by simpa using hy
        subst hy
        exact absurd (hmem (by simpa using hx) hdx) (hhead d hdy)
      | succ k => exact congrArg (· + 1) (ih htail (j := j) (k := k) (by simpa using hx) (by simpa using hy) hdx hdy)

/-- A slot that an operation has written. -/
theorem putAll_in : ∀ (l : List Oper) (tr : List (SV × Obs)) (j : Nat) (T : List SV) (i k : Nat) (o : Oper) (x : SV × Obs), (l.filterMap (·.dst)).Nodup → l[k]? = some o → tr[k]? = some x → o.dst = some i → k < j → i < T.length → (putAll l tr j T)[i]? = some x.1
  | [], _, _, _, _, _, _, _, _, h, _, _, _, _ => by simp at h
  | _ :: _, [], _, _, _, _, _, _, _, _, h, _, _, _ => by simp at h
  | _ :: _, _ :: _, 0, _, _, _, _, _, _, _, _, _, h, _ => by omega
  | o' :: l, x' :: tr, j + 1, T, i, k, o, x, hn, ho, hx, hd, hk, hi => by
    show (putAll l tr j _)[i]? = _
    cases k with
    | zero =>
      replace ho : o' = o := by simpa using ho
      replace hx : x' = x := by simpa using hx
      subst ho; subst hx
      rw [putAll_out l tr j _ i (fun k o2 hk2 ho2 hd2 => by
        have := filterMap_nodup_ne hn (j := 0) (k := k + 1) (x := o') (y := o2) (d := i) rfl (by simpa using ho2) hd hd2
        omega)]
      rw [hd]
      show (T.set i x'.1)[i]? = _
      rw [List.getElem?_set_self hi]
    | succ k =>
      have hn' : (l.filterMap (·.dst)).Nodup := by
        cases ho2 : o'.dst with
        | none => rw [List.filterMap_cons_none ho2] at hn; exact hn
        | some e => rw [List.filterMap_cons_some ho2, List.nodup_cons] at hn; exact hn.2
      exact putAll_in l tr j _ i k o x hn' (by simpa using ho) (by simpa using hx) hd (by omega) (by rw [putT_len]; exact hi)

/-- What an operation of the run yields. -/
def Yield (E : Env) (ops : Array Oper) (B : Obs) (o : Oper) (T : List SV) (x : SV × Obs) : Prop :=
  (∃ j want dj, o.guard = some (j, want) ∧ (ops[j]?).bind (·.dst) = some dj ∧ (T.getD dj .dead = .undef ∨ ∃ b, T.getD dj .dead = .bool b ∧ (b == want) = false) ∧ x = (.undef, [])) ∨
  ((o.guard = none ∨ ∃ j want dj b, o.guard = some (j, want) ∧ (ops[j]?).bind (·.dst) = some dj ∧ T.getD dj .dead = .bool b ∧ (b == want) = true) ∧
    opQ E o { T := T, B := B } pairK = some ([x.1], x.2) ∧ (∀ t, o.op = .alloc t → zeroRows E (o.dst.getD 0) 0 (fieldsOf E.P t) = []) ∧
    (x.2 = [] ∨ ∃ d ob, x.2 = [(d, ob)] ∧ o.dst = some d ∧ laysOp o = true ∧ d < lowB))

theorem stepA_spec (hp : Par E.C) {o : Oper} {T : List SV} {B os : Obs} {K : St → Obs → Option Out} {r : Out} (h : stepA E o { T := T, B := B } os K = some r) :
    ∃ s l, opQ E o { T := T, B := B } pairK = some ([s], l) ∧ (∀ t, o.op = .alloc t → zeroRows E (o.dst.getD 0) 0 (fieldsOf E.P t) = []) ∧ (l = [] ∨ ∃ d ob, l = [(d, ob)] ∧ o.dst = some d ∧ laysOp o = true ∧ d < lowB) ∧ K { T := putT T o.dst s, B := B } (l ++ os) = some r := by
  unfold stepA at h
  obtain ⟨hc, h⟩ := cond_none h
  simp only [Bool.or_eq_false_iff, Bool.not_eq_false'] at hc
  rw [opQ_param E hp] at h
  cases hq : opQ E o { T := T, B := B } pairK with
  | none => rw [hq] at h; cases h
  | some y =>
    rw [hq] at h
    simp only [Option.bind_some] at h
    obtain ⟨y1, y2⟩ := y
    have hal : ∀ t, o.op = .alloc t → zeroRows E (o.dst.getD 0) 0 (fieldsOf E.P t) = [] := by
      intro t ht
      have := hc.2
      rw [ht] at this
      simpa using this
    match y1 with
    | [] => cases h
    | _ :: _ :: _ => cases h
    | [s] =>
      simp only [unpair] at h
      match y2 with
      | [] =>
        simp only [put_eq] at h
        exact ⟨s, [], rfl, hal, .inl rfl, h⟩
      | [(d, ob)] =>
        simp only [put_eq] at h
        obtain ⟨hb, h⟩ := cond_some h
        simp only [Bool.and_eq_true, beq_iff_eq] at hb
        exact ⟨s, [(d, ob)], rfl, hal, .inr ⟨d, ob, rfl, hb.1.1, hb.1.2, by simpa using hb.2⟩, h⟩
      | _ :: _ :: _ => cases h

/-- The run in the order of the text, step by step. -/
theorem execA_trace (hp : Par E.C) {ops : Array Oper} {B : Obs} {K : St → Obs → Option Out} {r : Out} : ∀ (l : List Oper) (T : List SV) (os : Obs), execA E ops l K { T := T, B := B } os = some r →
    ∃ tr : List (SV × Obs), tr.length = l.length ∧ (∀ (j : Nat) (o : Oper) (x : SV × Obs), l[j]? = some o → tr[j]? = some x → Yield E ops B o (putAll l tr j T) x) ∧
      K { T := putAll l tr l.length T, B := B } (((tr.map (·.2)).reverse).flatten ++ os) = some r
  | [], T, os, h => ⟨[], rfl, fun j o x hj => by simp at hj, h⟩
  | o :: l, T, os, h => by
    have main : ∀ (x : SV × Obs), Yield E ops B o T x → execA E ops l K { T := putT T o.dst x.1, B := B } (x.2 ++ os) = some r →
        ∃ tr : List (SV × Obs), tr.length = (o :: l).length ∧ (∀ (j : Nat) (o2 : Oper) (x : SV × Obs), (o :: l)[j]? = some o2 → tr[j]? = some x → Yield E ops B o2 (putAll (o :: l) tr j T) x) ∧
          K { T := putAll (o :: l) tr (o :: l).length T, B := B } (((tr.map (·.2)).reverse).flatten ++ os) = some r := by
      intro x hx h
      obtain ⟨tr, t1, t2, t3⟩ := execA_trace hp l _ _ h
      refine ⟨x :: tr, by simp [t1], fun j o2 y hj hy => ?_, ?_⟩
      · cases j with
        | zero =>
          replace hj : o = o2 := by simpa using hj
          replace hy : x = y := by simpa using hy
          subst hj; subst hy
          exact hx
        | succ j => exact t2 j o2 y (by simpa using hj) (by simpa using hy)
      · have : ((x :: tr).map (·.2)).reverse.flatten ++ os = ((tr.map (·.2)).reverse).flatten ++ (x.2 ++ os) := by simp
        rw [this]
        exact t3
    unfold execA at h
    cases hg : o.guard with
    | none =>
      rw [hg] at h
      simp only at h
      obtain ⟨s, l', h1, h2, h3, h4⟩ := stepA_spec hp h
      exact main (s, l') (.inr ⟨.inl hg, h1, h2, h3⟩) h4
    | some gw =>
      obtain ⟨j, want⟩ := gw
      rw [hg] at h
      simp only at h
      cases hd : (ops[j]?).bind (·.dst) with
      | none => rw [hd] at h; cases h
      | some dj =>
        rw [hd] at h
        simp only at h
        cases hs : T.getD dj .dead with
        | bool b =>
          rw [hs] at h
          simp only at h
          have e1 : ({ T := T, B := B } : St).setT dj (.bool b) = { T := T, B := B } := by
            show ({ T := T.set dj (.bool b), B := B } : St) = _
            rw [set_same hs (by simp)]
          cases hb : b == want with
          | true =>
            have hbw : want = b := (beq_iff_eq.1 hb).symm
            rw [hb, cond_true, hbw, e1] at h
            obtain ⟨s, l', h1, h2, h3, h4⟩ := stepA_spec hp h
            exact main (s, l') (.inr ⟨.inr ⟨j, want, dj, b, hg, hd, hs, hb⟩, h1, h2, h3⟩) h4
          | false =>
            have hbw : (!want) = b := by cases b <;> cases want <;> first | rfl | (simp at hb)
            rw [hb, cond_false, hbw, e1, put_eq] at h
            exact main (.undef, []) (.inl ⟨j, want, dj, hg, hd, .inr ⟨b, hs, hb⟩, rfl⟩) h
        | undef =>
          rw [hs] at h
          simp only [put_eq] at h
          exact main (.undef, []) (.inl ⟨j, want, dj, hg, hd, .inl hs, rfl⟩) h
        | _ => rw [hs] at h; cases h

end
end Go.X
