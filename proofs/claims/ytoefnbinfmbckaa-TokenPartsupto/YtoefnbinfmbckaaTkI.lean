/- Letter by letter, in plain terms: what stands in a bracket, behind a backslash. -/
import Derived.Test.YtoefnbinfmbckaaTkN
set_option linter.unusedSimpArgs false
set_option linter.unusedVariables false
set_option maxRecDepth 20000
namespace Go.Proofs.Ytoefnbinfmbckaa
open Go Go.X

/-- One byte that may be an end of a range. -/
def end' (r : List Int) : Res Int :=
  match r with
  | [] => .err 2
  | b :: t => bif hp [91, 58] (b :: t) then .err 2 else bif hp [91, 46] (b :: t) || hp [91, 61] (b :: t) then .err 3 else .ok b 1
theorem spec_end : Ult fun k => ∀ (p : List Int) (a : Nat), p.length ≤ 1100 → a ≤ p.length → AnsR (fun x => x) (G30 k (ct p a)) p a (end' (p.drop a)) :=
  Ult.succ (spec_is.mono fun k h p a hl ha => by
    have e := fun s ret (hs : s.length ≤ 1000) => h s p a ret ha (by omega) hs
    rcases Nat.lt_or_ge a p.length with hlt | hge
    · have hd := List.drop_eq_getElem_cons hlt
      have d2 : p.getD a 0 = p[a] := by simp [List.getD, hlt]
      rw [hd] at e ⊢
      simp only [end']
      have hne : decide ((a : Int) = (p.length : Int)) = false := dF (by omega)
      cases h58 : hp [91, 58] (p[a] :: p.drop (a + 1)) with
      | true =>
        simp only [cond_true]
        have g := hp_len h58
        simp only [List.length_cons, List.length_nil, List.length_drop] at g
        refine ⟨by decide, 0, a + 2, by omega, fun ret => ?_⟩
        simp only [G30, f30_N, f30_e, ct0, ct1, hne, beq_self_eq_true, cond_true, e [91, 58] _ (by simp), h58, List.length_cons, List.length_nil, Nat.zero_add]
      | false =>
        simp only [cond_false]
        cases h46 : hp [91, 46] (p[a] :: p.drop (a + 1)) with
        | true =>
          simp only [Bool.true_or, cond_true]
          have g := hp_len h46
          simp only [List.length_cons, List.length_nil, List.length_drop] at g
          refine ⟨by decide, 0, a + 2, by omega, fun ret => ?_⟩
          simp only [G30, f30_N, f30_e, ct0, ct1, hne, beq_self_eq_true, cond_true, cond_false, e [91, 58] _ (by simp), h58, e [91, 46] _ (by simp), h46, List.length_cons, List.length_nil, Nat.zero_add]
          rfl
        | false =>
          cases h61 : hp [91, 61] (p[a] :: p.drop (a + 1)) with
          | true =>
            simp only [Bool.or_true, cond_true]
            have g := hp_len h61
            simp only [List.length_cons, List.length_nil, List.length_drop] at g
            refine ⟨by decide, 0, a + 2, by omega, fun ret => ?_⟩
            simp only [G30, f30_N, f30_e, ct0, ct1, hne, beq_self_eq_true, cond_true, cond_false, e [91, 58] _ (by simp), h58, e [91, 46] _ (by simp), h46, e [91, 61] _ (by simp), h61, List.length_cons, List.length_nil, Nat.zero_add]
          | false =>
            simp only [Bool.or_false, cond_false]
            refine ⟨by omega, fun ret => ?_⟩
            simp only [G30, f30_N, f30_e, ct0, ct1, hne, beq_self_eq_true, cond_true, cond_false, e [91, 58] _ (by simp), h58, e [91, 46] _ (by simp), h46, e [91, 61] _ (by simp), h61, ct_set]
            have w1 : IntKind.wrap .i64 ((a : Int) + 1) = ((a + 1 : Nat) : Int) := by rw [wrap_i64 (by omega) (by omega)]; rfl
            have e0 : PV.agg [PV.str p, PV.int ((a + 1 : Nat) : Int)] = ct p (a + 1) := rfl
            rw [w1, e0]
            simp only [ct0, ct1]
            rw [wrap_i64 (by omega) (by omega), dT (show (0 : Int) ≤ ((a + 1 : Nat) : Int) - 1 by omega), dT (show ((a + 1 : Nat) : Int) - 1 < (p.length : Int) by omega), show (((a + 1 : Nat) : Int) - 1).toNat = a by omega, d2]
            rfl
    · have ha' : a = p.length := by omega
      rw [List.drop_eq_nil_of_le hge]
      refine ⟨by decide, 0, a, ha, fun ret => ?_⟩
      simp only [G30, f30_N, f30_e, ct0, ct1]
      rw [dT (show (a : Int) = (p.length : Int) by omega)]; rfl)

/-- Behind a backslash. -/
def escaped' (r : List Int) : Res Nat :=
  match r with
  | [] => .err 2
  | b :: _ => if 49 ≤ b ∧ b ≤ 57 then .err 3 else if idxB [46, 91, 93, 92, 40, 41, 42, 43, 63, 123, 125, 124, 94, 36, 45] b < 0 then .err 2 else .ok (ofL [b.toNat]) 1
theorem spec_of1 : Ult fun k => ∀ (b : Int) ret, 0 ≤ b → b < 256 → G9 k (.list [.int b]) ret = ret (bs (ofL [b.toNat])) := by
  have : Ult fun k => ∀ b ∈ List.range 256, ∀ ret, G9 k (.list (pvL [b])) ret = ret (bs (ofL [b])) := Ult.forall_mem fun b hb => spec_Of [b] (by simpa using List.mem_range.1 hb) (by simp)
  refine this.mono fun k h b ret h0 h1 => ?_
  have := h b.toNat (List.mem_range.2 (by omega)) ret
  rw [show pvL [b.toNat] = [PV.int b] by simp [pvL, Int.toNat_of_nonneg h0]] at this
  exact this
theorem spec_escaped : Ult fun k => ∀ (p : List Int) (a : Nat), p.length ≤ 1100 → a ≤ p.length → ByI p → AnsR bs (G18 k (ct p a)) p a (escaped' (p.drop a)) :=
  Ult.succ ((spec_idx.and spec_of1).mono fun k ⟨h, h2⟩ p a hl ha hb => by
    rcases Nat.lt_or_ge a p.length with hlt | hge
    · have hd := List.drop_eq_getElem_cons hlt
      have d2 : p.getD a 0 = p[a] := by simp [List.getD, hlt]
      have hbb := hb p[a] (List.getElem_mem hlt)
      have w1 : IntKind.wrap .i64 ((a : Int) + 1) = ((a + 1 : Nat) : Int) := by rw [wrap_i64 (by omega) (by omega)]; rfl
      have e0 : PV.agg [PV.str p, PV.int ((a + 1 : Nat) : Int)] = ct p (a + 1) := rfl
      have hrun : ∀ ret, G18 (k + 1) (ct p a) ret = (bif decide ((49 : Int) ≤ p[a]) && decide (p[a] ≤ 57) then ret (PV.agg [PV.int 0, PV.int 0, PV.int 0, PV.int 0]) 3 (ct p (a + 1)) else bif decide (idxB [46, 91, 93, 92, 40, 41, 42, 43, 63, 123, 125, 124, 94, 36, 45] p[a] < 0) then ret (PV.agg [PV.int 0, PV.int 0, PV.int 0, PV.int 0]) 2 (ct p (a + 1)) else ret (bs (ofL [p[a].toNat])) 0 (ct p (a + 1))) := fun ret => by
        simp only [G18, f18_N, f18_e, ct0, ct1, Int.toNat_natCast, d2, h, ct_set, w1, e0]
        rw [dF (show ¬ (a : Int) = (p.length : Int) by omega), dT (show (0 : Int) ≤ (a : Int) by omega), dT (show (a : Int) < (p.length : Int) by omega)]
        simp only [Bool.and_self, cond_true, cond_false, h2 p[a] _ hbb.1 hbb.2]
        cases decide ((49 : Int) ≤ p[a]) <;> cases decide (p[a] ≤ 57) <;> rfl
      rw [hd]
      simp only [escaped']
      by_cases h1 : 49 ≤ p[a] ∧ p[a] ≤ 57
      · rw [if_pos h1]
        refine ⟨by decide, PV.agg [PV.int 0, PV.int 0, PV.int 0, PV.int 0], a + 1, by omega, fun ret => ?_⟩
        rw [hrun, dT h1.1, dT h1.2]; rfl
      · rw [if_neg h1]
        have hf : (decide ((49 : Int) ≤ p[a]) && decide (p[a] ≤ 57)) = false := by
          rw [Bool.eq_false_iff]; intro hh; simp only [Bool.and_eq_true, decide_eq_true_eq] at hh; exact h1 hh
        by_cases h3 : idxB [46, 91, 93, 92, 40, 41, 42, 43, 63, 123, 125, 124, 94, 36, 45] p[a] < 0
        · rw [if_pos h3]
          refine ⟨by decide, PV.agg [PV.int 0, PV.int 0, PV.int 0, PV.int 0], a + 1, by omega, fun ret => ?_⟩
          rw [hrun, hf, dT h3]; rfl
        · rw [if_neg h3]
          refine ⟨by omega, fun ret => ?_⟩
          rw [hrun, hf, dF h3]; rfl
    · rw [List.drop_eq_nil_of_le hge]
      refine ⟨by decide, PV.agg [PV.int 0, PV.int 0, PV.int 0, PV.int 0], a, ha, fun ret => ?_⟩
      simp only [G18, f18_N, f18_e, ct0, ct1]
      rw [dT (show (a : Int) = (p.length : Int) by omega)]; rfl)

/-- One item of a bracket. -/
def item' (first : Bool) (r : List Int) : Res Nat :=
  bif hp [91, 58] r then
    (match cutL (r.drop 2) [58, 93] with
     | (nm, _, ok) => bif ok then (match clsOf nm with | some c => .ok c.2 (2 + (nm.length + 2)) | none => .err 2) else .err 2)
  else match end' r with
    | .err e => .err e
    | .ok lo _ =>
      bif decide (lo = 45) && (!first && !hp [93] (r.drop 1)) then .err 2
      else bif !hp [45] (r.drop 1) || hp [45, 93] (r.drop 1) then .ok (ofL [lo.toNat]) 1
      else match end' (r.drop 2) with
        | .err e => .err e
        | .ok hi _ => if hi < lo then .err 2 else .ok (rng lo.toNat hi.toNat) 3
end Go.Proofs.Ytoefnbinfmbckaa
