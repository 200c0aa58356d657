/- Letter by letter, in plain terms: one item of a bracket. -/
import Derived.Test.YtoefnbinfmbckaaTkI
set_option linter.unusedSimpArgs false
set_option linter.unusedVariables false
set_option maxRecDepth 20000
namespace Go.Proofs.Ytoefnbinfmbckaa
open Go Go.X

theorem preL_len : ∀ {p l : List Int}, preL p l = true → p.length ≤ l.length
  | [], _, _ => by simp
  | _ :: _, [], h => by simp [preL] at h
  | a :: p, b :: l, h => by
    simp only [preL, Bool.and_eq_true] at h
    have := preL_len h.2
    simp only [List.length_cons]; omega
theorem idxL_len : ∀ {l m : List Int} {n : Nat}, idxL l m = .ofNat n → n + m.length ≤ l.length
  | [], [], n, h => by
    have h : (0 : Int) = (n : Int) := h
    simp only [List.length_nil]; omega
  | [], _ :: _, n, h => by cases h
  | b :: l, m, n, h => by
    simp only [idxL] at h
    cases hp : preL m (b :: l) with
    | true =>
      rw [hp, cond_true] at h
      have := preL_len hp
      have : n = 0 := by
        have h : (0 : Int) = (n : Int) := h
        omega
      omega
    | false =>
      rw [hp, cond_false] at h
      cases hi : idxL l m with
      | ofNat j =>
        rw [hi] at h
        have := idxL_len hi
        have h : ((j + 1 : Nat) : Int) = (n : Int) := h
        simp only [List.length_cons]; omega
      | negSucc j => rw [hi] at h; cases h
theorem cutL_len {s m nm rest : List Int} (h : cutL s m = (nm, rest, true)) : nm.length + m.length ≤ s.length := by
  unfold cutL at h
  cases hi : idxL s m with
  | ofNat n =>
    rw [hi] at h
    simp only [Prod.mk.injEq] at h
    have := idxL_len hi
    rw [← h.1, List.length_take]; omega
  | negSucc n => rw [hi] at h; simp at h
theorem spec_hasp : Ult fun k => ∀ (s q : List Int) ret, q.length ≤ 1000000 → G22 k q s ret = ret (hp s q) :=
  Ult.succ (Ult.succ (Ult.of fun k s q ret hq => by
    simp only [G22, f22_N, f22_e, G27, f27_N, f27_e, Int.toNat_natCast, Int.toNat_zero, List.drop_zero]
    unfold hp
    by_cases h1 : (s.length : Int) ≤ (q.length : Int)
    · rw [dT h1, dT (show (0 : Int) ≤ 0 by omega), dT (show (0 : Int) ≤ (s.length : Int) by omega)]
      simp only [beq_self_eq_true, Bool.and_self, cond_true, Bool.true_and]
    · rw [dF h1]; rfl))
theorem spec_cutS : Ult fun k => ∀ (s q : List Int) ret, s.length ≤ 1048576 → G28 k s q ret = ret (cutL s q).1 (cutL s q).2.1 (cutL s q).2.2 :=
  Ult.of fun k s q ret h => by
    have : G28 k s q ret = bif decide (s.length ≤ 1048576) then (match cutL s q with | (a, b, c) => ret a b c) else none := by cases k <;> rfl
    rw [this, dT h]
    rfl
theorem end_ok {r : List Int} {v : Int} {c : Nat} (h : end' r = .ok v c) : c = 1 ∧ ∃ t, r = v :: t := by
  unfold end' at h
  split at h
  · cases h
  · rename_i b t
    cases h58 : hp [91, 58] (b :: t) with
    | true => rw [h58] at h; cases h
    | false =>
      rw [h58, cond_false] at h
      cases h2 : (hp [91, 46] (b :: t) || hp [91, 61] (b :: t)) with
      | true => rw [h2] at h; cases h
      | false => rw [h2, cond_false] at h; injection h with h1 h2; exact ⟨h2.symm, t, by rw [h1]⟩
theorem end_err {r : List Int} {e : Int} (h : end' r = .err e) : e = 2 ∨ e = 3 := by
  unfold end' at h
  split at h
  · injection h with h; exact .inl h.symm
  · rename_i b t
    cases h58 : hp [91, 58] (b :: t) with
    | true => rw [h58] at h; injection h with h; exact .inl h.symm
    | false =>
      rw [h58, cond_false] at h
      cases h2 : (hp [91, 46] (b :: t) || hp [91, 61] (b :: t)) with
      | true => rw [h2] at h; injection h with h; exact .inr h.symm
      | false => rw [h2, cond_false] at h; cases h
theorem bs_z : PV.agg [PV.int 0, PV.int 0, PV.int 0, PV.int 0] = bs 0 := rfl
theorem spec_item : Ult fun k => ∀ (first : Bool) (p : List Int) (a : Nat), p.length ≤ 1100 → a ≤ p.length → ByI p → AnsR bs (G24 k first (ct p a)) p a (item' first (p.drop a)) :=
  Ult.succ ((spec_is.and (spec_end.and (spec_hasp.and (spec_cutS.and (spec_Named.and (spec_of1.and spec_Range)))))).mono fun k ⟨h1, h2, h3, h4, h5, h6, h7⟩ first p a hl ha hb => by
    have e := fun s ret (hs : s.length ≤ 1000) => h1 s p a ret ha (by omega) hs
    have etake : List.take p.length p = p := List.take_length
    unfold item'
    cases h58 : hp [91, 58] (p.drop a) with
    | true =>
      have g := hp_len h58
      simp only [List.length_cons, List.length_nil, List.length_drop] at g
      simp only [cond_true]
      have hrun : ∀ ret, G24 (k + 1) first (ct p a) ret = (bif (!(cutL (p.drop (a + 2)) [58, 93]).2.2) == false then (match clsOf (cutL (p.drop (a + 2)) [58, 93]).1 with | some c => ret (bs c.2) 0 (PV.agg [.str p, .int (IntKind.wrap .i64 (((a + 2 : Nat) : Int) + IntKind.wrap .i64 (((cutL (p.drop (a + 2)) [58, 93]).1.length : Int) + 2)))]) | none => ret (bs 0) 2 (ct p (a + 2))) else ret (bs 0) 2 (ct p (a + 2))) := fun ret => by
        simp only [G24, f24_N, f24_e, e [91, 58] _ (by simp), h58, cond_true, List.length_cons, List.length_nil, Nat.zero_add, ct0, ct1, Int.toNat_natCast, etake, ct_set, bs_z]
        rw [dT (show (0 : Int) ≤ ((a + 2 : Nat) : Int) by omega), dT (show ((a + 2 : Nat) : Int) ≤ (p.length : Int) by omega), dT (show (p.length : Int) ≤ (p.length : Int) by omega)]
        simp only [Bool.and_self, cond_true]
        rw [h4 _ _ _ (by simp only [List.length_drop]; omega), h5]
        cases clsOf (cutL (p.drop (a + 2)) [58, 93]).1 with
        | none => simp only [Bool.not_false, cond_true]
        | some c => simp only [Bool.not_true, cond_false]
      rw [List.drop_drop]
      cases hcut : cutL (p.drop (a + 2)) [58, 93] with
      | mk nm x =>
        obtain ⟨rest, ok⟩ := x
        rw [hcut] at hrun
        simp only at hrun ⊢
        cases ok with
        | false =>
          simp only [cond_false]
          exact ⟨by decide, bs 0, a + 2, by omega, fun ret => by rw [hrun]; rfl⟩
        | true =>
          simp only [cond_true]
          have hnl := cutL_len hcut
          simp only [List.length_cons, List.length_nil, List.length_drop] at hnl
          cases hc : clsOf nm with
          | none => exact ⟨by decide, bs 0, a + 2, by omega, fun ret => by rw [hrun, hc]; rfl⟩
          | some c =>
            refine ⟨by omega, fun ret => ?_⟩
            rw [hrun, hc]
            simp only [Bool.not_true, beq_self_eq_true, cond_true]
            rw [wrap_i64 (show -9223372036854775808 ≤ (nm.length : Int) + 2 by omega) (by omega), wrap_i64 (by omega) (by omega)]
            have e0 : PV.agg [PV.str p, PV.int (((a + 2 : Nat) : Int) + ((nm.length : Int) + 2))] = ct p (a + (2 + (nm.length + 2))) := by
              unfold ct
              rw [show ((a + 2 : Nat) : Int) + ((nm.length : Int) + 2) = ((a + (2 + (nm.length + 2)) : Nat) : Int) by omega]
            rw [e0]
    | false =>
      simp only [cond_false]
      have he := h2 p a hl ha
      cases hend : end' (p.drop a) with
      | err er =>
        rw [hend] at he
        obtain ⟨hne, v, b, hbl, he⟩ := he
        simp only
        refine ⟨hne, bs 0, b, hbl, fun ret => ?_⟩
        simp only [G24, f24_N, f24_e, e [91, 58] _ (by simp), h58, cond_false, he, ct0, ct1]
        rw [dT (show (0 : Int) ≤ (b : Int) by omega), dT (show (b : Int) ≤ (p.length : Int) by omega), dT (show (p.length : Int) ≤ (p.length : Int) by omega), dF hne]
        rfl
      | ok lo c =>
        rw [hend] at he
        obtain ⟨hcl, he⟩ := he
        obtain ⟨rfl, t, ht⟩ := end_ok hend
        simp only at he
        obtain ⟨hal, hga, hdt⟩ := drop_at ht
        have hlo : 0 ≤ lo ∧ lo < 256 := hb lo (by
          have : lo ∈ p.drop a := by rw [ht]; simp
          exact List.mem_of_mem_drop this)
        have w1 : IntKind.wrap .i64 (((a + 1 : Nat) : Int) + 1) = ((a + 2 : Nat) : Int) := by rw [wrap_i64 (by omega) (by omega)]; rfl
        have e0 : PV.agg [PV.str p, PV.int ((a + 2 : Nat) : Int)] = ct p (a + 2) := rfl
        have h6 := fun ret => h6 lo ret hlo.1 hlo.2
        let T : (PV → Int → PV → R) → R := fun ret => bif !hp [45] (p.drop (a + 1)) || hp [45, 93] (p.drop (a + 1)) then ret (bs (ofL [lo.toNat])) 0 (ct p (a + 1)) else
          G30 k (ct p (a + 2)) fun n21 n22 p23 => bif (decide (n22 = (0 : Int)) == true) then (bif decide (n21 < lo) then ret (bs 0) 2 p23 else bif !(decide (n22 = (0 : Int))) then ret (bs 0) n22 p23 else G11 k lo n21 fun p24 => ret p24 0 p23) else bif !(decide (n22 = (0 : Int))) then ret (bs 0) n22 p23 else G11 k lo n21 fun p24 => ret p24 0 p23
        have hrun : ∀ ret, G24 (k + 1) first (ct p a) ret = bif decide (lo = 45) && (!first && !hp [93] (p.drop (a + 1))) then ret (bs 0) 2 (ct p (a + 1)) else T ret := fun ret => by
          have hs : (p.drop (a + 1)).length ≤ 1000000 := by simp only [List.length_drop]; omega
          simp only [G24, f24_N, f24_e, e [91, 58] _ (by simp), h58, cond_false, he, ct0, ct1, Int.toNat_natCast, etake, ct_set, bs_z, w1, e0]
          rw [dT (show (0 : Int) ≤ ((a + 1 : Nat) : Int) by omega), dT (show ((a + 1 : Nat) : Int) ≤ (p.length : Int) by omega), dT (show (p.length : Int) ≤ (p.length : Int) by omega)]
          simp only [Bool.and_self, cond_true, decide_true, Bool.not_true, cond_false, h3 _ _ _ hs, h6]
          show _ = bif _ then _ else (bif !hp [45] (p.drop (a + 1)) || hp [45, 93] (p.drop (a + 1)) then _ else _)
          cases decide (lo = 45) <;> cases first <;> cases hp [93] (p.drop (a + 1)) <;> cases hp [45] (p.drop (a + 1)) <;> cases hp [45, 93] (p.drop (a + 1)) <;> rfl
        rw [List.drop_drop, List.drop_drop]
        simp only
        cases hc1 : (decide (lo = 45) && (!first && !hp [93] (p.drop (a + 1)))) with
        | true =>
          simp only [cond_true]
          exact ⟨by decide, bs 0, a + 1, by omega, fun ret => by rw [hrun, hc1]; rfl⟩
        | false =>
          simp only [cond_false]
          have hrun : ∀ ret, G24 (k + 1) first (ct p a) ret = T ret := fun ret => by rw [hrun, hc1]; rfl
          cases hc2 : (!hp [45] (p.drop (a + 1)) || hp [45, 93] (p.drop (a + 1))) with
          | true =>
            simp only [cond_true]
            refine ⟨by omega, fun ret => ?_⟩
            rw [hrun]
            show (bif !hp [45] (p.drop (a + 1)) || hp [45, 93] (p.drop (a + 1)) then _ else _) = _
            rw [hc2]; rfl
          | false =>
            simp only [cond_false]
            have h45 : hp [45] (p.drop (a + 1)) = true := by
              cases h : hp [45] (p.drop (a + 1)) with
              | true => rfl
              | false => rw [h] at hc2; cases hc2
            have g45 := hp_len h45
            simp only [List.length_cons, List.length_nil, List.length_drop] at g45
            have he2 := h2 p (a + 2) hl (by omega)
            have hT : ∀ ret, T ret = G30 k (ct p (a + 2)) fun n21 n22 p23 => bif (decide (n22 = (0 : Int)) == true) then (bif decide (n21 < lo) then ret (bs 0) 2 p23 else bif !(decide (n22 = (0 : Int))) then ret (bs 0) n22 p23 else G11 k lo n21 fun p24 => ret p24 0 p23) else bif !(decide (n22 = (0 : Int))) then ret (bs 0) n22 p23 else G11 k lo n21 fun p24 => ret p24 0 p23 := fun ret => by
              show (bif !hp [45] (p.drop (a + 1)) || hp [45, 93] (p.drop (a + 1)) then _ else _) = _
              rw [hc2]; rfl
            cases hend2 : end' (p.drop (a + 2)) with
            | err er =>
              rw [hend2] at he2
              obtain ⟨hne, v, b, hbl, he2⟩ := he2
              simp only
              refine ⟨hne, bs 0, b, hbl, fun ret => ?_⟩
              rw [hrun, hT, he2, dF hne]; rfl
            | ok hi c2 =>
              rw [hend2] at he2
              obtain ⟨hcl2, he2⟩ := he2
              obtain ⟨rfl, t2, ht2⟩ := end_ok hend2
              have hhi : 0 ≤ hi ∧ hi < 256 := hb hi (by
                have : hi ∈ p.drop (a + 2) := by rw [ht2]; simp
                exact List.mem_of_mem_drop this)
              simp only
              by_cases hlt : hi < lo
              · rw [if_pos hlt]
                refine ⟨by decide, bs 0, a + 2 + 1, by omega, fun ret => ?_⟩
                rw [hrun, hT, he2, dT hlt]; rfl
              · rw [if_neg hlt]
                refine ⟨by omega, fun ret => ?_⟩
                rw [hrun, hT, he2, dF hlt]
                have := h7 lo.toNat hi.toNat (fun p24 => ret p24 0 (ct p (a + 2 + 1))) (by omega) (by omega)
                rw [Int.toNat_of_nonneg hlo.1, Int.toNat_of_nonneg hhi.1] at this
                exact this)
end Go.Proofs.Ytoefnbinfmbckaa
