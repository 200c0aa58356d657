/- Texts that are cut each by itself are cut one behind the other (TokenParts). -/
import Derived.Test.YtoefnbinfmbckaaTkE
set_option linter.unusedSimpArgs false
set_option linter.unusedVariables false
set_option maxRecDepth 20000
namespace Go.Proofs.Ytoefnbinfmbckaa
open Go Go.X

mutual
theorem tk_beq : ∀ p : PV, PV.beq p p = true
  | .int _ => by simp [PV.beq]
  | .bool b => by simp [PV.beq]
  | .str _ => by simp [PV.beq]
  | .flt _ => by simp [PV.beq]
  | .agg l => by rw [PV.beq]; exact tk_beqs l
  | .list l => by rw [PV.beq]; exact tk_beqs l
  | .nil => rfl
  | .ref p => by rw [PV.beq]; exact tk_beq p
  | .opq p => by rw [PV.beq]; exact tk_beq p
theorem tk_beqs : ∀ l : List PV, PV.beqs l l = true
  | [] => rfl
  | p :: l => by rw [PV.beqs, tk_beq p, tk_beqs l]; rfl
end
theorem spec_awake : Ult fun k => ∀ ret, G7 k ret = ret true := by
  refine (Ult.ge 300).mono fun k hk ret => ?_
  obtain ⟨m, rfl⟩ := Nat.exists_eq_add_of_le' hk
  kernel_rfl
theorem cutN_place : ∀ (f off : Nat) (r : List Int) (l : List (Tk × Nat)), cutN f off r = .inr l → ∀ x ∈ l, x.2 ≤ off + r.length
  | 0, _, _, _, h, _, _ => by cases h
  | f + 1, off, [], l, h, x, hx => by
    simp only [cutN, Sum.inr.injEq] at h
    subst h; cases hx
  | f + 1, off, b :: r, l, h, x, hx => by
    simp only [cutN] at h
    cases ho : one' (b :: r) with
    | err e => rw [ho] at h; cases h
    | ok tk c =>
      rw [ho] at h
      simp only at h
      cases hr : cutN f (off + c) ((b :: r).drop c) with
      | inl y => rw [hr] at h; cases h
      | inr l1 =>
        rw [hr] at h
        simp only [Sum.inr.injEq] at h
        subst h
        rcases List.mem_cons.1 hx with rfl | hx
        · simp only; omega
        · rcases Nat.lt_or_ge (b :: r).length c with hlt | hge
          · rw [List.drop_eq_nil_of_le (by omega)] at hr
            cases f with
            | zero => cases hr
            | succ f =>
              simp only [cutN, Sum.inr.injEq] at hr
              subst hr; cases hx
          · have := cutN_place f (off + c) ((b :: r).drop c) l1 hr x hx
            simp only [List.length_drop] at this
            omega
def sh (d : Nat) (x : Tk × Nat) : Tk × Nat := (x.1, x.2 + d)
def rT (y : Bool) : R := some ([.bool y], [])
theorem parts_loop {k : Nat} (hk : 3000 ≤ k) (a : List Int) (la lb : List (Tk × Nat)) (ha : a.length ≤ 300) (hla : la.length ≤ 400) (hlb : lb.length ≤ 400) (hpl : ∀ x ∈ lb, x.2 ≤ 300) (c7 : (Bool → R) → R) (c8 : List Int → (PV → Int → Int → R) → R) :
    f4_w1N k c7 c8 rT a (.list (la.map pvTk)) (.list (lb.map pvTk)) (.list ((la ++ lb.map (sh a.length)).map pvTk)) 0 = rT true := by
  simp only [f4_w1N]
  refine loopR_up (res := fun _ => rT true) (la.length + lb.length) (fun nx => ?_) (fun i hi nx hnx => ?_) k 0 (by omega) (by omega)
  · simp only [f4_w1B, f4_w1b0N, f4_w1b0, PV.els, List.length_map, List.length_append]
    rw [dF (show ¬ ((la.length + lb.length : Nat) : Int) < ((la.length + lb.length : Nat) : Int) by omega)]; rfl
  · have hz : i < (la ++ lb.map (sh a.length)).length := by simp only [List.length_append, List.length_map]; omega
    have gz := getD_map pvTk hz
    simp only [f4_w1B, f4_w1b0N, f4_w1b0, PV.els, List.length_map, List.length_append, gz, wrap_succ (show i < 1099511627777 by omega)]
    rw [dT (show (i : Int) < ((la.length + lb.length : Nat) : Int) by omega), dT (show (0 : Int) ≤ (i : Int) by omega)]
    by_cases hx : i < la.length
    · have gx := getD_map pvTk hx
      rw [dT (show (i : Int) < (la.length : Int) by omega), dF (show ¬ (la.length : Int) ≤ (i : Int) by omega), gx]
      have e : (la ++ lb.map (sh a.length))[i] = la[i] := List.getElem_append_left hx
      rw [e, tk_beq]
      exact hnx
    · have hy : i - la.length < lb.length := by omega
      have gy := getD_map pvTk hy
      rw [dF (show ¬ (i : Int) < (la.length : Int) by omega), dT (show (la.length : Int) ≤ (i : Int) by omega), wrap_i64 (show -9223372036854775808 ≤ (i : Int) - (la.length : Int) by omega) (by omega), show (i : Int) - (la.length : Int) = ((i - la.length : Nat) : Int) by omega, dT (show (0 : Int) ≤ ((i - la.length : Nat) : Int) by omega), dT (show ((i - la.length : Nat) : Int) < (lb.length : Int) by omega), gy]
      have e : (la ++ lb.map (sh a.length))[i] = sh a.length lb[i - la.length] := by
        rw [List.getElem_append_right (by omega), List.getElem_map]
      have hp := hpl lb[i - la.length] (List.getElem_mem hy)
      rw [e]
      have e4 : ∀ x : Tk × Nat, PV.num (PV.fld (pvTk x) 4) = (x.2 : Int) := fun _ => rfl
      have e5 : ∀ (x : Tk × Nat) (d : Nat), PV.agg (List.set (PV.flds (pvTk x)) 4 (PV.int ((x.2 + d : Nat) : Int))) = pvTk (sh d x) := fun _ _ => rfl
      simp only [e4]
      rw [wrap_i64 (show -9223372036854775808 ≤ ((lb[i - la.length]).2 : Int) + (a.length : Int) by omega) (by omega), show ((lb[i - la.length]).2 : Int) + (a.length : Int) = (((lb[i - la.length]).2 + a.length : Nat) : Int) by omega, e5, tk_beq]
      exact hnx
/-- The three cuts, and what is made of them. -/
theorem parts_tail {k : Nat} (hk : 3000 ≤ k) (hC : ∀ (p : List Int), p.length ≤ 1024 → ByI p → match cutN (p.length + 1) 0 p with
    | .inl x => x.2 ≠ 0 ∧ ∀ ret, G8 k p ret = ret (.list []) (x.1 : Int) x.2
    | .inr l => ∀ ret, G8 k p ret = ret (.list (l.map pvTk)) (p.length : Int) 0) (hlen : ∀ (p : List Int) (l : List (Tk × Nat)), cutN (p.length + 1) 0 p = .inr l → l.length ≤ p.length)
    (a b : List Int) (ha : a.length ≤ 300) (hb : b.length ≤ 300) (ba : ByI a) (bb : ByI b) (hw : Whole a) (c7 : (Bool → R) → R) (c8 : List Int → (PV → Int → Int → R) → R) :
    (G8 k a fun p6 n7 n8 => G8 k b fun p9 n10 n11 => bif ((!(decide (n8 = (0 : Int)))) == false) then (bif (!(decide (n11 = (0 : Int)))) then rT true else bif (decide (a.length + b.length ≤ 4611686018427387904)) then
      G8 k (a ++ b) fun p12 n13 n14 => bif ((!(decide (n14 = (0 : Int)))) == false) then (bif (!(decide ((List.length (PV.els p12) : Int) = (IntKind.wrap .i64 ((List.length (PV.els p6) : Int) + (List.length (PV.els p9) : Int)))))) then rT false else f4_w1N k c7 c8 rT a p6 p9 p12 0) else rT false else none) else rT true) = rT true := by
  have hA := hC a (by omega) ba
  have hB := hC b (by omega) bb
  cases ca : cutN (a.length + 1) 0 a with
  | inl x =>
    rw [ca] at hA
    cases cb : cutN (b.length + 1) 0 b with
    | inl y => rw [cb] at hB; rw [hA.2, hB.2, dF hA.1]; rfl
    | inr l => rw [cb] at hB; rw [hA.2, hB, dF hA.1]; rfl
  | inr la =>
    rw [ca] at hA
    cases cb : cutN (b.length + 1) 0 b with
    | inl y => rw [cb] at hB; rw [hA, hB.2, dF hB.1]; rfl
    | inr lb =>
      rw [cb] at hB
      have hAB := hC (a ++ b) (by simp only [List.length_append]; omega) (fun c hc => by
        rcases List.mem_append.1 hc with h | h
        · exact ba c h
        · exact bb c h)
      have happ := cutN_app b (a.length + 1) 0 a la (by omega) ba hw ca ((a ++ b).length + 1) (by omega)
      rw [cutN_shift a.length (b.length + 1) 0 b, cb] at happ
      rw [happ] at hAB
      have la1 := hlen a la ca
      have lb1 := hlen b lb cb
      have pl := cutN_place _ _ _ _ cb
      rw [hA, hB, dT rfl]
      simp only [Bool.not_true, beq_self_eq_true, cond_true, cond_false]
      rw [dT (show a.length + b.length ≤ 4611686018427387904 by omega), cond_true, hAB, dT rfl]
      simp only [Bool.not_true, beq_self_eq_true, cond_true, PV.els, List.length_map, List.length_append]
      rw [wrap_i64 (by omega) (by omega), dT (show ((la.length + lb.length : Nat) : Int) = (la.length : Int) + (lb.length : Int) by omega)]
      simp only [Bool.not_true, cond_false]
      exact parts_loop hk a la lb ha (by omega) (by omega) (fun x hx => by have := pl x hx; omega) c7 c8
theorem cutN_len : ∀ (f off : Nat) (r : List Int) (l : List (Tk × Nat)), cutN f off r = .inr l → l.length ≤ r.length
  | 0, _, _, _, h => by cases h
  | f + 1, off, [], l, h => by
    simp only [cutN, Sum.inr.injEq] at h
    subst h; simp
  | f + 1, off, b :: r, l, h => by
    simp only [cutN] at h
    cases ho : one' (b :: r) with
    | err e => rw [ho] at h; cases h
    | ok tk c =>
      rw [ho] at h
      simp only at h
      have hp := one_pos ho
      cases hr : cutN f (off + c) ((b :: r).drop c) with
      | inl y => rw [hr] at h; cases h
      | inr l1 =>
        rw [hr] at h
        simp only [Sum.inr.injEq] at h
        subst h
        have := cutN_len f (off + c) ((b :: r).drop c) l1 hr
        simp only [List.length_drop, List.length_cons] at this ⊢
        omega
theorem by_chars (b : ByteArray) : ByI (chars b) := by
  intro c hc
  rw [chars_eq] at hc
  obtain ⟨x, _, rfl⟩ := List.mem_map.1 hc
  unfold b2i
  have := x.toNat_lt
  omega
theorem TokenParts.main (a b : List Int) (ha : ∃ B : ByteArray, a = chars B ∧ B.size ≤ maxLen) (hb : ∃ B : ByteArray, b = chars B ∧ B.size ≤ maxLen) : ∃ k, G4 k a b (fun y => some ([.bool y], [])) = some ([.bool true], []) := by
  have ba : ByI a := by obtain ⟨B, rfl, _⟩ := ha; exact by_chars B
  have bb : ByI b := by obtain ⟨B, rfl, _⟩ := hb; exact by_chars B
  refine Ult.get (Ult.succ ((spec_awake.and (spec_Cut.and (Ult.ge 3000))).mono fun k ⟨h0, hC, hk⟩ => ?_))
  have htail := fun (h1 : a.length ≤ 300) (h2 : b.length ≤ 300) (hw : Whole a) => parts_tail hk hC (fun p l h => cutN_len _ _ _ _ h) a b h1 h2 ba bb hw (G7 k) (G8 k)
  change G4 (k + 1) a b rT = rT true
  simp only [G4, f4_N, f4_e, h0, Bool.not_true, cond_false]
  by_cases l1 : 300 < a.length
  · rw [dT (show (300 : Int) < (a.length : Int) by omega)]; rfl
  rw [dF (show ¬ (300 : Int) < (a.length : Int) by omega)]
  by_cases l2 : 300 < b.length
  · rw [dT (show (300 : Int) < (b.length : Int) by omega)]; rfl
  rw [dF (show ¬ (300 : Int) < (b.length : Int) by omega)]
  simp only [beq_self_eq_true, cond_true]
  by_cases n0 : 0 < a.length
  · rw [dT (show (0 : Int) < (a.length : Int) by omega), wrap_i64 (show -9223372036854775808 ≤ (a.length : Int) - 1 by omega) (by omega), dT (show (0 : Int) ≤ (a.length : Int) - 1 by omega), dT (show (a.length : Int) - 1 < (a.length : Int) by omega), show ((a.length : Int) - 1).toNat = a.length - 1 by omega]
    simp only [beq_self_eq_true, Bool.and_self, cond_true]
    by_cases n1 : a.getD (a.length - 1) 0 = 40
    · rw [dT n1]; rfl
    rw [dF n1]
    have w1 : ∀ u, a ≠ u ++ [40] := fun u e => n1 (by rw [e]; simp [List.getD])
    simp only [beq_self_eq_true, cond_true]
    by_cases n2 : 1 < a.length
    · rw [dT (show (1 : Int) < (a.length : Int) by omega), wrap_i64 (show -9223372036854775808 ≤ (a.length : Int) - 2 by omega) (by omega), dT (show (0 : Int) ≤ (a.length : Int) - 2 by omega), dT (show (a.length : Int) - 2 ≤ (a.length : Int) by omega), dT (show (a.length : Int) ≤ (a.length : Int) by omega), show ((a.length : Int) - 2).toNat = a.length - 2 by omega, Int.toNat_natCast, List.take_length]
      simp only [beq_self_eq_true, Bool.and_self, cond_true]
      by_cases n3 : a.drop (a.length - 2) = [40, 63]
      · rw [dT n3]; rfl
      rw [dF n3]
      have w2 : ∀ u, a ≠ u ++ [40, 63] := fun u e => n3 (by rw [e]; simp)
      exact htail (by omega) (by omega) ⟨w1, w2⟩
    · rw [dF (show ¬ (1 : Int) < (a.length : Int) by omega)]
      have w2 : ∀ u, a ≠ u ++ [40, 63] := fun u e => by
        have := congrArg List.length e
        simp only [List.length_append, List.length_cons, List.length_nil] at this; omega
      exact htail (by omega) (by omega) ⟨w1, w2⟩
  · rw [dF (show ¬ (0 : Int) < (a.length : Int) by omega), dF (show ¬ (1 : Int) < (a.length : Int) by omega)]
    have w : Whole a := ⟨fun u e => by
        have := congrArg List.length e
        simp only [List.length_append, List.length_cons, List.length_nil] at this; omega, fun u e => by
        have := congrArg List.length e
        simp only [List.length_append, List.length_cons, List.length_nil] at this; omega⟩
    exact htail (by omega) (by omega) w
end Go.Proofs.Ytoefnbinfmbckaa
