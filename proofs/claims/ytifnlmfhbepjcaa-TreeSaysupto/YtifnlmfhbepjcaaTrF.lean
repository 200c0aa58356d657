/- May nodes be so, as the document says: the printed function comes to it; it is the same. -/
import Derived.Test.YtifnlmfhbepjcaaTrR
set_option linter.unusedSimpArgs false
set_option linter.unusedVariables false
set_option maxRecDepth 20000
namespace Go.Proofs.Ytifnlmfhbepjcaa
open Go Go.X

namespace Nd
/-- Kids that may not be. -/
def badk (k y : Int) : Bool := (decide (k = 2) && (decide (y = 2) || decide (y = 3))) || ((decide (k = 3) && decide (y = 3)) || (decide (k = 4) && (decide (y = 2) || (decide (y = 3) || decide (y = 4)))))
/-- A node by itself. -/
def frmB (k : Int) (s : Nat) (a b n len nx : Int) : Bool :=
  (decide (k = 1) || decide (s = 0)) && ((decide (k = 4) || (decide (a = 0) && decide (b = 0))) && ((decide (k = 5) || decide (n = 0)) &&
    (if k = 1 then !decide (s = 0) && decide (len = 0)
     else if k = 2 then !decide (len < 2)
     else if k = 3 then !decide (len < 2)
     else if k = 4 then decide (len = 1) && (!decide (a < 0) && (!decide (255 < a) && (decide (b = -1) || (!decide (b < a) && !decide (255 < b)))))
     else if k = 5 then decide (len = 1) && decide (n = nx)
     else if k = 6 then decide (len = 1)
     else false)))
mutual
def fd : Nd → Int → Option Int
  | mk k s a b n l, nx => bif frmB k s a b n (l.length : Int) nx then fds l k (if k = 5 then nx + 1 else nx) else none
def fds : List Nd → Int → Int → Option Int
  | [], _, nx => some nx
  | v :: l, k, nx => bif badk k v.kind then none else match fd v nx with
    | some nx' => fds l k nx'
    | none => none
end
end Nd

theorem spec_formed (v : Nd) : v.Ok → v.Sm → Ult fun k => ∀ (nx : Int) ret, (∀ m m', ret false m = ret false m') → 0 ≤ nx → nx + v.cnt ≤ 1000000000000 → (∀ n, v.fd nx = some n → nx ≤ n ∧ n ≤ nx + v.cnt) ∧ G77 k v.rpv nx ret = match v.fd nx with | some n => ret true n | none => ret false 0 := by
  refine Nd.ind (p := fun v => v.Ok → v.Sm → Ult fun k => ∀ (nx : Int) ret, (∀ m m', ret false m = ret false m') → 0 ≤ nx → nx + v.cnt ≤ 1000000000000 → (∀ n, v.fd nx = some n → nx ≤ n ∧ n ≤ nx + v.cnt) ∧ G77 k v.rpv nx ret = match v.fd nx with | some n => ret true n | none => ret false 0) (fun kd s a b m l ih hok hsm => ?_) v
  have hs : s < 2 ^ 256 := hok.set
  have hall : Ult fun k => ∀ x ∈ l, ∀ (nx : Int) ret, (∀ m m', ret false m = ret false m') → 0 ≤ nx → nx + x.cnt ≤ 1000000000000 → (∀ n, x.fd nx = some n → nx ≤ n ∧ n ≤ nx + x.cnt) ∧ G77 k x.rpv nx ret = match x.fd nx with | some n => ret true n | none => ret false 0 :=
    Ult.forall_mem fun x hx => ih x hx (Nd.Ok.kid hok hx) (Nd.Sm.kid hsm hx)
  have hlen : l.length ≤ 274877906944 := hsm.length
  refine Ult.succ ((hall.and (Ult.ge (l.length + 2))).mono fun k ⟨h1, h4⟩ nx ret hret hnx hnc => ?_)
  simp only [Nd.cnt] at hnc
  have hbl : ∀ (l' : List Nd) (nx : Int), (∀ x ∈ l', x ∈ l) → 0 ≤ nx → nx + Nd.cnts l' ≤ 1000000000000 → ∀ n, Nd.fds l' kd nx = some n → nx ≤ n ∧ n ≤ nx + Nd.cnts l' := by
    intro l'
    induction l' with
    | nil => intro nx _ _ _ n h; simp only [Nd.fds, Option.some.injEq] at h; subst h; simp [Nd.cnts]
    | cons x l' ih =>
      intro nx hm h0 hc n h
      simp only [Nd.cnts] at hc
      simp only [Nd.fds] at h
      have hx := (h1 x (hm x (by simp)) nx (fun _ _ => none) (fun _ _ => rfl) h0 (by omega)).1
      cases hb : Nd.badk kd x.kind with
      | true => rw [hb] at h; cases h
      | false =>
        rw [hb, cond_false] at h
        cases hf : Nd.fd x nx with
        | none => rw [hf] at h; cases h
        | some n1 =>
          rw [hf] at h
          have e1 := hx n1 hf
          have e2 := ih n1 (fun y hy => hm y (by simp [hy])) (by omega) (by omega) n h
          simp only [Nd.cnts]; omega
  have loop : ∀ nx : Int, 0 ≤ nx → nx + Nd.cnts l ≤ 1000000000000 → f77_w1N k (G77 k) ret (Nd.mk kd s a b m l).rpv 0 nx = match Nd.fds l kd nx with | some n => ret true n | none => ret false 0 := by
    intro nx h0 hc
    have := vup (body := f77_w1B k (G77 k) ret (Nd.mk kd s a b m l).rpv) (fun (i : Nat) (a : Int) => ((i : Int), a)) (fun i a => 0 ≤ a ∧ a + Nd.cnts (l.drop i) ≤ 1000000000000) (res := fun i a => match Nd.fds (l.drop i) kd a with | some n => ret true n | none => ret false 0) l.length ?_ ?_ k 0 nx ⟨h0, by simpa using hc⟩ (by omega) (by omega)
    · exact this
    · intro nxt a ha
      simp only [f77_w1B, f77_w1b0N, f77_w1b0, Nd.rfld5, PV.els, Nd.kidl, List.length_map, dF (show ¬ (l.length : Int) < (l.length : Int) by omega), cond_false, List.drop_length, Nd.fds]
    · intro i hi nxt a ⟨ha, hac⟩ hnxt
      rw [drop_cons hi] at hac
      rw [drop_cons hi]
      simp only [Nd.cnts] at hac
      have hkid := fun (ret' : Bool → Int → R) (hr : ∀ m m', ret' false m = ret' false m') => h1 _ (List.getElem_mem hi) a ret' hr ha (by omega)
      have hgood : (G77 k (l[i]).rpv a fun b n => bif (!b) then ret false n else nxt ((((i + 1 : Nat) : Int)), n)) = (match Nd.fds (l[i] :: l.drop (i + 1)) kd a with | some n => ret true n | none => ret false 0) ∨ Nd.badk kd (l[i]).kind = true := by
        cases hb : Nd.badk kd (l[i]).kind with
        | true => exact .inr rfl
        | false =>
          left
          have h2 := hkid (fun b n => bif (!b) then ret false n else nxt ((((i + 1 : Nat) : Int)), n)) (fun m m' => hret m m')
          rw [h2.2]
          simp only [Nd.fds, hb, cond_false]
          cases hf : Nd.fd (l[i]) a with
          | none => rfl
          | some n1 =>
            have := h2.1 n1 hf
            exact hnxt n1 ⟨by omega, by omega⟩
      have hbad : Nd.badk kd (l[i]).kind = true → (match Nd.fds (l[i] :: l.drop (i + 1)) kd a with | some n => ret true n | none => ret false 0) = ret false a := by
        intro hb
        simp only [Nd.fds, hb, cond_true]
        exact hret _ _
      simp only [f77_w1B, f77_w1b0N, f77_w1b0, Nd.rfld0, Nd.rfld5, PV.num, PV.els, Nd.kidl, Nd.kind, List.length_map, dT (show (i : Int) < (l.length : Int) by omega), dT (show (0 : Int) ≤ (i : Int) by omega), Bool.and_self, cond_true, getD_map Nd.rpv hi, wrap_succ (show i < 1099511627777 by omega)]
      rcases hgood with hgood | hb
      · by_cases hb : Nd.badk kd (l[i]).kind = true
        · rw [hbad hb]
          unfold Nd.badk at hb
          cases e1 : decide (kd = 2) <;> cases e2 : decide (kd = 3) <;> cases e3 : decide (kd = 4) <;> cases e4 : decide ((l[i]).kind = 2) <;> cases e5 : decide ((l[i]).kind = 3) <;> cases e6 : decide ((l[i]).kind = 4) <;> first | rfl | (exfalso; rw [e1, e2, e3, e4, e5, e6] at hb; exact absurd hb (by decide))
        · unfold Nd.badk at hb
          cases e1 : decide (kd = 2) <;> cases e2 : decide (kd = 3) <;> cases e3 : decide (kd = 4) <;> cases e4 : decide ((l[i]).kind = 2) <;> cases e5 : decide ((l[i]).kind = 3) <;> cases e6 : decide ((l[i]).kind = 4) <;> first | exact hgood | (exfalso; rw [e1, e2, e3, e4, e5, e6] at hb; exact absurd rfl hb)
      · rw [hbad hb]
        unfold Nd.badk at hb
        cases e1 : decide (kd = 2) <;> cases e2 : decide (kd = 3) <;> cases e3 : decide (kd = 4) <;> cases e4 : decide ((l[i]).kind = 2) <;> cases e5 : decide ((l[i]).kind = 3) <;> cases e6 : decide ((l[i]).kind = 4) <;> first | rfl | (exfalso; rw [e1, e2, e3, e4, e5, e6] at hb; exact absurd hb (by decide))
  refine ⟨fun n h => ?_, ?_⟩
  · simp only [Nd.fd] at h
    obtain ⟨_, h⟩ := cond_some h
    simp only [Nd.cnt]
    split at h
    · have := hbl l _ (fun x hx => hx) (by omega) (by omega) n h; omega
    · have := hbl l _ (fun x hx => hx) (by omega) (by omega) n h; omega
  have hrz : PV.beq (rb s) (PV.agg (List.replicate 256 (PV.bool false))) = decide (s = 0) := by rw [bl_zero', rb, bl_beq hs (by omega)]
  have hr0 : ∀ m, ret false m = ret false 0 := fun m => hret m 0
  have hbad : Nd.frmB kd s a b m (l.length : Int) nx = false → (match (Nd.mk kd s a b m l).fd nx with | some n => ret true n | none => ret false 0) = ret false nx := by
    intro hb; simp only [Nd.fd, hb, cond_false]; exact hret _ _
  have hgo : Nd.frmB kd s a b m (l.length : Int) nx = true → kd ≠ 5 → f77_w1N k (G77 k) ret (Nd.mk kd s a b m l).rpv 0 nx = (match (Nd.mk kd s a b m l).fd nx with | some n => ret true n | none => ret false 0) := by
    intro hb h5; simp only [Nd.fd, hb, cond_true, if_neg h5]; exact loop nx hnx (by omega)
  have hgo5 : Nd.frmB kd s a b m (l.length : Int) nx = true → kd = 5 → f77_w1N k (G77 k) ret (Nd.mk kd s a b m l).rpv 0 (nx + 1) = (match (Nd.mk kd s a b m l).fd nx with | some n => ret true n | none => ret false 0) := by
    intro hb h5; simp only [Nd.fd, hb, cond_true, if_pos h5]; exact loop (nx + 1) (by omega) (by omega)
  have hgo1 : Nd.frmB kd s a b m (l.length : Int) nx = true → kd = 1 → ret true nx = (match (Nd.mk kd s a b m l).fd nx with | some n => ret true n | none => ret false 0) := by
    intro hb h1
    have hl : l = [] := by
      unfold Nd.frmB at hb
      rw [if_pos h1] at hb
      simp only [Bool.and_eq_true, decide_eq_true_eq] at hb
      exact List.eq_nil_of_length_eq_zero (by omega)
    subst hl
    simp only [Nd.fd, hb, cond_true, if_neg (show ¬ kd = 5 by omega), Nd.fds]
  simp only [G77, f77_N, f77_e, Nd.rfld0, Nd.rfld1, Nd.rfld2, Nd.rfld3, Nd.rfld4, Nd.rfld5, PV.num, PV.els, List.length_map, Nd.kind, Nd.set, Nd.lo, Nd.hi, Nd.num, Nd.kidl, hrz, wrap_i64 (show -9223372036854775808 ≤ nx + 1 by omega) (show nx + 1 < 9223372036854775808 by omega)]
  generalize f77_w1N k (G77 k) ret (Nd.mk kd s a b m l).rpv 0 nx = W at hgo ⊢
  generalize f77_w1N k (G77 k) ret (Nd.mk kd s a b m l).rpv 0 (nx + 1) = W5 at hgo5 ⊢
  generalize (match (Nd.mk kd s a b m l).fd nx with | some n => ret true n | none => ret false 0) = RR at *
  generalize (l.length : Int) = len at *
  unfold Nd.frmB at hbad hgo hgo5 hgo1
  by_cases k1 : kd = 1
  · simp only [dT k1, if_pos k1, dF (show ¬ kd = 4 by omega), dF (show ¬ kd = 5 by omega), Bool.not_true, Bool.not_false, Bool.true_or, Bool.false_or, Bool.true_and, beq_self_eq_true, cond_true, cond_false, show (false == true) = false from rfl, show (true == false) = false from rfl] at hbad hgo1 ⊢
    generalize decide (a = 0) = c0 at hbad hgo1 ⊢
    generalize decide (b = 0) = c1 at hbad hgo1 ⊢
    generalize decide (m = 0) = c2 at hbad hgo1 ⊢
    generalize decide (s = 0) = c3 at hbad hgo1 ⊢
    generalize decide (len = 0) = c4 at hbad hgo1 ⊢
    cases c0 <;> cases c1 <;> cases c2 <;> cases c3 <;> cases c4 <;> first | exact (hbad rfl).symm | exact hgo1 rfl k1
  by_cases k2 : kd = 2
  · simp only [dF k1, dT k2, if_neg k1, if_pos k2, dF (show ¬ kd = 4 by omega), dF (show ¬ kd = 5 by omega), Bool.not_true, Bool.not_false, Bool.true_or, Bool.false_or, Bool.true_and, beq_self_eq_true, cond_true, cond_false, show (false == true) = false from rfl, show (true == false) = false from rfl] at hbad hgo ⊢
    generalize decide (a = 0) = c0 at hbad hgo ⊢
    generalize decide (b = 0) = c1 at hbad hgo ⊢
    generalize decide (m = 0) = c2 at hbad hgo ⊢
    generalize decide (s = 0) = c3 at hbad hgo ⊢
    generalize decide (len < 2) = c4 at hbad hgo ⊢
    cases c0 <;> cases c1 <;> cases c2 <;> cases c3 <;> cases c4 <;> first | exact (hbad rfl).symm | exact hgo rfl (by omega)
  by_cases k3 : kd = 3
  · simp only [dF k1, dF k2, dT k3, if_neg k1, if_neg k2, if_pos k3, dF (show ¬ kd = 4 by omega), dF (show ¬ kd = 5 by omega), Bool.not_true, Bool.not_false, Bool.true_or, Bool.false_or, Bool.true_and, beq_self_eq_true, cond_true, cond_false, show (false == true) = false from rfl, show (true == false) = false from rfl] at hbad hgo ⊢
    generalize decide (a = 0) = c0 at hbad hgo ⊢
    generalize decide (b = 0) = c1 at hbad hgo ⊢
    generalize decide (m = 0) = c2 at hbad hgo ⊢
    generalize decide (s = 0) = c3 at hbad hgo ⊢
    generalize decide (len < 2) = c4 at hbad hgo ⊢
    cases c0 <;> cases c1 <;> cases c2 <;> cases c3 <;> cases c4 <;> first | exact (hbad rfl).symm | exact hgo rfl (by omega)
  by_cases k4 : kd = 4
  · simp only [dF k1, dF k2, dF k3, dT k4, if_neg k1, if_neg k2, if_neg k3, if_pos k4, dF (show ¬ kd = 5 by omega), Bool.not_true, Bool.not_false, Bool.true_or, Bool.false_or, Bool.true_and, beq_self_eq_true, cond_true, cond_false, show (false == true) = false from rfl, show (true == false) = false from rfl] at hbad hgo ⊢
    generalize decide (m = 0) = c0 at hbad hgo ⊢
    generalize decide (s = 0) = c1 at hbad hgo ⊢
    generalize decide (len = 1) = c2 at hbad hgo ⊢
    generalize decide (a < 0) = c3 at hbad hgo ⊢
    generalize decide (255 < a) = c4 at hbad hgo ⊢
    generalize decide (b = -1) = c5 at hbad hgo ⊢
    generalize decide (b < a) = c6 at hbad hgo ⊢
    generalize decide (255 < b) = c7 at hbad hgo ⊢
    cases c0 <;> cases c1 <;> cases c2 <;> cases c3 <;> cases c4 <;> cases c5 <;> cases c6 <;> cases c7 <;> first | exact (hbad rfl).symm | exact hgo rfl (by omega)
  by_cases k5 : kd = 5
  · simp only [dF k1, dF k2, dF k3, dF k4, dT k5, if_neg k1, if_neg k2, if_neg k3, if_neg k4, if_pos k5, Bool.not_true, Bool.not_false, Bool.true_or, Bool.false_or, Bool.true_and, beq_self_eq_true, cond_true, cond_false, show (false == true) = false from rfl, show (true == false) = false from rfl] at hbad hgo5 ⊢
    generalize decide (a = 0) = c0 at hbad hgo5 ⊢
    generalize decide (b = 0) = c1 at hbad hgo5 ⊢
    generalize decide (s = 0) = c2 at hbad hgo5 ⊢
    generalize decide (len = 1) = c3 at hbad hgo5 ⊢
    generalize decide (m = nx) = c4 at hbad hgo5 ⊢
    cases c0 <;> cases c1 <;> cases c2 <;> cases c3 <;> cases c4 <;> first | exact (hbad rfl).symm | exact hgo5 rfl k5
  by_cases k6 : kd = 6
  · simp only [dF k1, dF k2, dF k3, dF k4, dF k5, dT k6, if_neg k1, if_neg k2, if_neg k3, if_neg k4, if_neg k5, if_pos k6, Bool.not_true, Bool.not_false, Bool.true_or, Bool.false_or, Bool.true_and, beq_self_eq_true, cond_true, cond_false, show (false == true) = false from rfl, show (true == false) = false from rfl] at hbad hgo ⊢
    generalize decide (a = 0) = c0 at hbad hgo ⊢
    generalize decide (b = 0) = c1 at hbad hgo ⊢
    generalize decide (m = 0) = c2 at hbad hgo ⊢
    generalize decide (s = 0) = c3 at hbad hgo ⊢
    generalize decide (len = 1) = c4 at hbad hgo ⊢
    cases c0 <;> cases c1 <;> cases c2 <;> cases c3 <;> cases c4 <;> first | exact (hbad rfl).symm | exact hgo rfl (by omega)
  · simp only [dF k1, dF k2, dF k3, dF k4, dF k5, dF k6, if_neg k1, if_neg k2, if_neg k3, if_neg k4, if_neg k5, if_neg k6, Bool.not_true, Bool.not_false, Bool.true_or, Bool.false_or, Bool.true_and, beq_self_eq_true, cond_true, cond_false, show (false == true) = false from rfl, show (true == false) = false from rfl] at hbad ⊢
    generalize decide (a = 0) = c0 at hbad ⊢
    generalize decide (b = 0) = c1 at hbad ⊢
    generalize decide (m = 0) = c2 at hbad ⊢
    generalize decide (s = 0) = c3 at hbad ⊢
    cases c0 <;> cases c1 <;> cases c2 <;> cases c3 <;> exact (hbad rfl).symm
end Go.Proofs.Ytifnlmfhbepjcaa
