/- Any nodes: as the document says (TreeSays). -/
import Derived.Test.YtifnlmfhbepjcaaTrF
set_option linter.unusedSimpArgs false
set_option linter.unusedVariables false
set_option maxRecDepth 20000
namespace Go.Proofs.Ytifnlmfhbepjcaa
open Go Go.X

namespace Nd
theorem gd_kind {v : Nd} {g n : Int} (h : gd v g = some n) : has [1, 2, 3, 4, 5, 6] v.kind = true := by
  cases v with
  | mk k s a b m l =>
    simp only [gd] at h
    have := (cond_some h).1
    rw [Bool.and_eq_true] at this
    exact shp_kind this.2
theorem gds_kind : ∀ {l : List Nd} {g n : Int}, gds l g = some n → ∀ x ∈ l, has [1, 2, 3, 4, 5, 6] x.kind = true
  | [], _, _, _, x, hx => by cases hx
  | v :: l, g, n, h, x, hx => by
    simp only [gds] at h
    cases hv : gd v g with
    | none => rw [hv] at h; cases h
    | some g1 =>
      rw [hv] at h
      rcases List.mem_cons.1 hx with rfl | hx
      · exact gd_kind hv
      · exact gds_kind h x hx
theorem six {n : Int} (h : has [1, 2, 3, 4, 5, 6] n = true) : n = 1 ∨ n = 2 ∨ n = 3 ∨ n = 4 ∨ n = 5 ∨ n = 6 := by
  simpa [has] using h
theorem odds_iff {ks : List Int} {k : Int} (hk : ∀ n, has [1, 2, 3, 4, 5, 6] n = true → has ks n = !badk k n) {l : List Nd} (hl : ∀ x ∈ l, has [1, 2, 3, 4, 5, 6] x.kind = true) :
    (!odds ks l) = l.all fun x => !badk k x.kind := by
  induction l with
  | nil => rfl
  | cons x l ih =>
    have ih := ih fun y hy => hl y (by simp [hy])
    simp only [odds, List.any_cons, List.all_cons, hk _ (hl x (by simp))] at ih ⊢
    rw [← ih]
    cases badk k x.kind <;> simp
theorem fds_iff (k : Int) : ∀ (l : List Nd), (∀ v ∈ l, ∀ nx m, fd v nx = some m ↔ gd v (nx - 1) = some (m - 1)) → ∀ nx m, fds l k nx = some m ↔ (l.all fun x => !badk k x.kind) = true ∧ gds l (nx - 1) = some (m - 1)
  | [], _, nx, m => by
    simp only [fds, gds, List.all_nil, true_and, Option.some.injEq]; omega
  | v :: l, h, nx, m => by
    have ih := fds_iff k l fun x hx => h x (by simp [hx])
    have hv := h v (by simp) nx
    simp only [fds, gds, List.all_cons]
    cases hb : badk k v.kind
    · simp only [cond_false, Bool.not_false, Bool.true_and]
      cases hf : fd v nx with
      | none =>
        cases hg : gd v (nx - 1) with
        | none => simp
        | some g1 =>
          have := (hv (g1 + 1)).2 (by rw [hg]; congr 1; omega)
          rw [hf] at this; cases this
      | some n1 =>
        have := (hv n1).1 hf
        rw [this]
        exact ih n1 m
    · simp
theorem fd_iff (v : Nd) : v.cnt ≤ 100000 → ∀ nx m, fd v nx = some m ↔ gd v (nx - 1) = some (m - 1) := by
  refine ind (p := fun v => v.cnt ≤ 100000 → ∀ nx m, fd v nx = some m ↔ gd v (nx - 1) = some (m - 1)) (fun k s a b n l ih hc nx m => ?_) v
  simp only [cnt] at hc
  have hcm : ∀ x ∈ l, x.cnt ≤ 100000 := by
    intro x hx
    have : ∀ l : List Nd, x ∈ l → x.cnt ≤ cnts l := by
      intro l
      induction l with
      | nil => intro h; cases h
      | cons y l ih =>
        intro h
        simp only [cnts]
        rcases List.mem_cons.1 h with rfl | h
        · omega
        · have := ih h; omega
    have := this l hx; omega
  have hlen : ∀ l : List Nd, l.length ≤ cnts l := by
    intro l
    induction l with
    | nil => simp
    | cons y l ih => have := cnt_pos y; simp only [cnts, List.length_cons]; omega
  have hlen := hlen l
  have hf := fds_iff k l fun x hx => ih x hx (hcm x hx)
  simp only [fd, gd]
  have gk : ∀ g, gds l g = some (m - 1) → ∀ x ∈ l, has [1, 2, 3, 4, 5, 6] x.kind = true := fun g h => gds_kind h
  -- the two sides' conditions, where the kids are of some kind
  have key : ∀ g, gds l g = some (m - 1) → ((cln (mk k s a b n l) && shp (mk k s a b n l)) = true ∧ (k = 5 → n = nx) ↔ frmB k s a b n (l.length : Int) nx = true ∧ (l.all fun x => !badk k x.kind) = true) := by
    intro g hg
    have hk := gk g hg
    have six' := fun (ks : List Int) (hks : (∀ n, n = 1 ∨ n = 2 ∨ n = 3 ∨ n = 4 ∨ n = 5 ∨ n = 6 → has ks n = !badk k n)) => odds_iff (ks := ks) (k := k) (fun n hn => hks n (six hn)) hk
    by_cases k1 : k = 1
    · subst k1
      simp only [cln, shp, frmB, if_pos, Bool.and_eq_true, decide_eq_true_eq, Bool.not_eq_true', decide_eq_false_iff_not, Bool.or_eq_true]
      constructor
      · rintro ⟨⟨⟨c1, c2, c3⟩, c4, c5⟩, _⟩
        have : l = [] := List.eq_nil_of_length_eq_zero (by omega)
        subst this
        exact ⟨⟨.inl trivial, .inr ⟨c1, c2⟩, .inr c3, c4, c5⟩, rfl⟩
      · rintro ⟨⟨_, c1, c2, c3, c4⟩, _⟩
        have c1 : a = 0 ∧ b = 0 := by rcases c1 with h | h; · omega
                                      · exact h
        have c2 : n = 0 := by rcases c2 with h | h; · omega
                              · exact h
        exact ⟨⟨⟨c1.1, c1.2, c2⟩, c3, c4⟩, fun h => by omega⟩
    by_cases k2 : k = 2
    · subst k2
      have ho := six' [1, 4, 5, 6] (by rintro n (rfl | rfl | rfl | rfl | rfl | rfl) <;> decide)
      simp only [cln, shp, frmB, ho, if_neg (show ¬ (2 : Int) = 1 by decide), if_neg (show ¬ (2 : Int) = 4 by decide), if_neg (show ¬ (2 : Int) = 5 by decide), if_pos, Bool.and_eq_true, decide_eq_true_eq, Bool.not_eq_true', decide_eq_false_iff_not, Bool.or_eq_true]
      constructor
      · rintro ⟨⟨⟨c1, c2, c3, c4⟩, c5, c6, c7⟩, _⟩
        exact ⟨⟨.inr c1, .inr ⟨c2, c3⟩, .inr c4, by omega⟩, c7⟩
      · rintro ⟨⟨c1, c2, c3, c4⟩, c5⟩
        have c1 : s = 0 := by rcases c1 with h | h; · omega
                              · exact h
        have c2 : a = 0 ∧ b = 0 := by rcases c2 with h | h; · omega
                                      · exact h
        have c3 : n = 0 := by rcases c3 with h | h; · omega
                              · exact h
        exact ⟨⟨⟨c1, c2.1, c2.2, c3⟩, by omega, by omega, c5⟩, fun h => by omega⟩
    by_cases k3 : k = 3
    · subst k3
      have ho := six' [1, 2, 4, 5, 6] (by rintro n (rfl | rfl | rfl | rfl | rfl | rfl) <;> decide)
      simp only [cln, shp, frmB, ho, if_neg (show ¬ (3 : Int) = 1 by decide), if_neg (show ¬ (3 : Int) = 2 by decide), if_neg (show ¬ (3 : Int) = 4 by decide), if_neg (show ¬ (3 : Int) = 5 by decide), if_pos, Bool.and_eq_true, decide_eq_true_eq, Bool.not_eq_true', decide_eq_false_iff_not, Bool.or_eq_true]
      constructor
      · rintro ⟨⟨⟨c1, c2, c3, c4⟩, c5, c6, c7⟩, _⟩
        exact ⟨⟨.inr c1, .inr ⟨c2, c3⟩, .inr c4, by omega⟩, c7⟩
      · rintro ⟨⟨c1, c2, c3, c4⟩, c5⟩
        have c1 : s = 0 := by rcases c1 with h | h; · omega
                              · exact h
        have c2 : a = 0 ∧ b = 0 := by rcases c2 with h | h; · omega
                                      · exact h
        have c3 : n = 0 := by rcases c3 with h | h; · omega
                              · exact h
        exact ⟨⟨⟨c1, c2.1, c2.2, c3⟩, by omega, by omega, c5⟩, fun h => by omega⟩
    by_cases k4 : k = 4
    · subst k4
      have ho := six' [1, 5, 6] (by rintro n (rfl | rfl | rfl | rfl | rfl | rfl) <;> decide)
      simp only [cln, shp, frmB, ho, if_neg (show ¬ (4 : Int) = 1 by decide), if_neg (show ¬ (4 : Int) = 2 by decide), if_neg (show ¬ (4 : Int) = 3 by decide), if_neg (show ¬ (4 : Int) = 5 by decide), if_pos, Bool.and_eq_true, decide_eq_true_eq, Bool.not_eq_true', decide_eq_false_iff_not, Bool.or_eq_true]
      constructor
      · rintro ⟨⟨⟨c1, c2⟩, c3, c4, c5, c6, c7, c8⟩, _⟩
        exact ⟨⟨.inr c1, .inl trivial, .inr c2, by omega, c3, c4, c5⟩, c8⟩
      · rintro ⟨⟨c1, _, c3, c4, c5, c6, c7⟩, c8⟩
        have c1 : s = 0 := by rcases c1 with h | h; · omega
                              · exact h
        have c3 : n = 0 := by rcases c3 with h | h; · omega
                              · exact h
        exact ⟨⟨⟨c1, c3⟩, c5, c6, c7, by omega, by omega, c8⟩, fun h => by omega⟩
    by_cases k5 : k = 5
    · subst k5
      have ho := six' [1, 2, 3, 4, 5, 6] (by rintro n (rfl | rfl | rfl | rfl | rfl | rfl) <;> decide)
      simp only [cln, shp, frmB, ho, if_neg (show ¬ (5 : Int) = 1 by decide), if_neg (show ¬ (5 : Int) = 2 by decide), if_neg (show ¬ (5 : Int) = 3 by decide), if_neg (show ¬ (5 : Int) = 4 by decide), if_pos, Bool.and_eq_true, decide_eq_true_eq, Bool.not_eq_true', decide_eq_false_iff_not, Bool.or_eq_true]
      constructor
      · rintro ⟨⟨⟨c1, c2, c3⟩, c5, c6, c7⟩, c8⟩
        exact ⟨⟨.inr c1, .inr ⟨c2, c3⟩, .inl trivial, by omega, c8 trivial⟩, c7⟩
      · rintro ⟨⟨c1, c2, _, c4, c5⟩, c6⟩
        have c1 : s = 0 := by rcases c1 with h | h; · omega
                              · exact h
        have c2 : a = 0 ∧ b = 0 := by rcases c2 with h | h; · omega
                                      · exact h
        exact ⟨⟨⟨c1, c2.1, c2.2⟩, by omega, by omega, c6⟩, fun _ => c5⟩
    by_cases k6 : k = 6
    · subst k6
      have ho := six' [1, 2, 3, 4, 5, 6] (by rintro n (rfl | rfl | rfl | rfl | rfl | rfl) <;> decide)
      simp only [cln, shp, frmB, ho, if_neg (show ¬ (6 : Int) = 1 by decide), if_neg (show ¬ (6 : Int) = 2 by decide), if_neg (show ¬ (6 : Int) = 3 by decide), if_neg (show ¬ (6 : Int) = 4 by decide), if_neg (show ¬ (6 : Int) = 5 by decide), if_pos, Bool.and_eq_true, decide_eq_true_eq, Bool.not_eq_true', decide_eq_false_iff_not, Bool.or_eq_true]
      constructor
      · rintro ⟨⟨⟨c1, c2, c3, c4⟩, c5, c6, c7⟩, _⟩
        exact ⟨⟨.inr c1, .inr ⟨c2, c3⟩, .inr c4, by omega⟩, c7⟩
      · rintro ⟨⟨c1, c2, c3, c4⟩, c5⟩
        have c1 : s = 0 := by rcases c1 with h | h; · omega
                              · exact h
        have c2 : a = 0 ∧ b = 0 := by rcases c2 with h | h; · omega
                                      · exact h
        have c3 : n = 0 := by rcases c3 with h | h; · omega
                              · exact h
        exact ⟨⟨⟨c1, c2.1, c2.2, c3⟩, by omega, by omega, c5⟩, fun h => by omega⟩
    · have h1 : shp (mk k s a b n l) = false := by
        simp only [shp, if_neg k1, if_neg k2, if_neg k3, if_neg k4, if_neg k5, if_neg k6]
      have h2 : frmB k s a b n (l.length : Int) nx = false := by
        simp only [frmB, if_neg k1, if_neg k2, if_neg k3, if_neg k4, if_neg k5, if_neg k6, Bool.and_false]
      rw [h1, h2]; simp
  by_cases k5 : k = 5
  · rw [if_pos k5, if_pos k5]
    constructor
    · intro h
      obtain ⟨h1, h2⟩ := cond_some h
      obtain ⟨h3, h4⟩ := (hf (nx + 1) m).1 h2
      obtain ⟨e1, e2⟩ := (key _ h4).2 ⟨h1, h3⟩
      rw [e1, cond_true, if_pos (by have := e2 k5; omega), show nx - 1 + 1 = nx + 1 - 1 by omega]
      exact h4
    · intro h
      obtain ⟨h1, h2⟩ := cond_some h
      split at h2
      · rename_i hn
        rw [show nx - 1 + 1 = nx + 1 - 1 by omega] at h2
        obtain ⟨e1, e2⟩ := (key _ h2).1 ⟨h1, fun _ => by omega⟩
        rw [e1, cond_true]
        exact (hf (nx + 1) m).2 ⟨e2, h2⟩
      · cases h2
  · rw [if_neg k5, if_neg k5]
    constructor
    · intro h
      obtain ⟨h1, h2⟩ := cond_some h
      obtain ⟨h3, h4⟩ := (hf nx m).1 h2
      obtain ⟨e1, e2⟩ := (key _ h4).2 ⟨h1, h3⟩
      rw [e1, cond_true]
      exact h4
    · intro h
      obtain ⟨h1, h2⟩ := cond_some h
      obtain ⟨e1, e2⟩ := (key _ h2).1 ⟨h1, fun h => absurd h k5⟩
      rw [e1, cond_true]
      exact (hf nx m).2 ⟨e2, h2⟩
end Nd

def Pat.rpv (q : Pat) : PV := .agg [.bool q.st, .bool q.en, q.root.rpv, .int q.g]
theorem spec_pattern (q : Pat) (h : q.root.size ≤ 100000000) : Ult fun k => ∀ ret, G55 k q.pv ret = ret q.rpv :=
  Ult.succ ((spec_node q.root h).mono fun k h ret => by
    have e2 : PV.fld q.pv 2 = q.root.pv := rfl
    simp only [G55, f55_N, f55_e, e2, h]
    rfl)
theorem spec_rGood (q : Pat) (hok : q.Ok) (hsm : q.root.Sm) : Ult fun k => ∀ ret, G56 k q.rpv ret = ret (q.root.good q.g) :=
  Ult.succ (((spec_rSize _ hsm).and ((spec_rDepth _ hsm 64 (by omega)).and (spec_formed _ hok.1 hsm))).mono fun k ⟨h1, h2, h3⟩ ret => by
    have e2 : PV.fld q.rpv 2 = q.root.rpv := rfl
    have e3 : PV.fld q.rpv 3 = .int q.g := rfl
    have hc : q.root.cnt ≤ 274877906944 := Nat.le_trans (Nd.cnt_size _) hsm
    have e2001 : (2001 : Int) = ((2001 : Nat) : Int) := rfl
    have e64 : (64 : Int) = ((64 : Nat) : Int) := rfl
    simp only [G56, f56_N, f56_e, e2, e3, PV.num, Nd.good]
    rw [e2001, h1 2001 _ (by omega)]
    by_cases d2 : q.root.cnt ≤ 2000
    · rw [dT (show ((min q.root.cnt 2001 : Nat) : Int) ≤ 2000 by omega), dT d2]
      simp only [beq_self_eq_true, cond_true, Bool.true_and]
      have h2' : ∀ ret, G60 k q.root.rpv 64 ret = ret ((min q.root.dep 65 : Nat) : Int) := h2
      rw [h2']
      by_cases d1 : q.root.dep ≤ 64
      · rw [dT (show ((min q.root.dep 65 : Nat) : Int) ≤ 64 by omega), dT d1]
        simp only [beq_self_eq_true, cond_true, Bool.true_and]
        have hfd := Nd.fd_iff q.root (by omega) 1
        have h3 := h3 1 (fun b4 n5 => bif b4 == true then (bif decide (q.g = IntKind.wrap .i64 (n5 - 1)) == true then ret (decide (q.g ≤ 32)) else ret false) else ret false) (fun _ _ => rfl) (by omega) (by omega)
        rw [h3.2]
        cases hf : q.root.fd 1 with
        | none =>
          cases hg : q.root.gd 0 with
          | none => rfl
          | some n =>
            have := (hfd (n + 1)).2 (by rw [show (1 : Int) - 1 = 0 from rfl, hg]; congr 1; omega)
            rw [hf] at this; cases this
        | some n =>
          have hb := h3.1 n hf
          have hg := (hfd n).1 hf
          rw [show (1 : Int) - 1 = 0 from rfl] at hg
          rw [hg]
          simp only [beq_self_eq_true, cond_true]
          rw [wrap_i64 (by omega) (by omega)]
          by_cases hq : q.g = n - 1
          · rw [dT hq, dT hq.symm, hq]; rfl
          · rw [dF hq, dF (Ne.symm hq)]; rfl
      · rw [dF (show ¬ ((min q.root.dep 65 : Nat) : Int) ≤ 64 by omega), dF d1]; rfl
    · rw [dF (show ¬ ((min q.root.cnt 2001 : Nat) : Int) ≤ 2000 by omega), dF d2, Bool.false_and, Bool.and_false]; rfl)

theorem TreeSays.main (q : Pat) (o : Nd) (hq : q.Ok) (ho : o.Ok) (hz : q.root.size + o.size ≤ 100000000) : ∃ k, G12 k q.pv o.pv (fun y => some ([.bool y], [])) = some ([.bool true], []) := by
  have hok : q.root.Ok := hq.1
  have hsm : q.root.Sm := by simp only [Nd.Sm]; omega
  have hcs := Nd.cnt_size q.root
  have e2 : PV.fld q.pv 2 = q.root.pv := rfl
  have e2r : PV.fld q.rpv 2 = q.root.rpv := rfl
  have hsets : Ult fun k => q.root.good q.g = true → (∀ ret, G53 k q.root.pv ret = ret (.list ((q.root.sts []).map bs))) ∧ (∀ ret, G57 k q.root.rpv ret = ret (.list ((q.root.sts []).map rb))) ∧ (q.root.sts []).length ≤ 2000 := by
    by_cases hg : q.root.good q.g = true
    · have hg' := hg
      simp only [Nd.good, Bool.and_eq_true, decide_eq_true_eq] at hg'
      have hlf : q.root.lf = true := by
        cases hv : q.root.gd 0 with
        | none => rw [hv] at hg'; exact absurd hg'.2.2 Bool.false_ne_true
        | some n => exact Nd.gd_lf _ _ _ hv
      have hl := (Nd.sts_all q.root hok [] (by simp)).2
      exact ((spec_Sets _ hok hsm (by omega)).and (spec_rSets _ hok hsm hlf (by omega))).mono fun k ⟨a, b⟩ _ => ⟨a, b, by simp only [List.length_nil] at hl; omega⟩
    · exact Ult.of fun k h => absurd h hg
  refine Ult.get (Ult.succ ((spec_awake.and ((spec_heavy q.root 70 (by omega)).and ((spec_heavy o 70 (by omega)).and ((spec_pattern q (by omega)).and ((spec_rGood q hq hsm).and ((spec_tGood q hq hsm).and ((spec_Size q.root hsm).and ((spec_rSize q.root hsm).and ((spec_Depth q.root hsm).and ((spec_rDepth q.root hsm 64 (by omega)).and ((spec_Same q.root hok hsm o ho).and ((spec_node o (by omega)).and ((spec_rSame q.root hok hsm o ho).and (hsets.and (spec_own.and (Ult.ge 3000)))))))))))))))).mono fun k ⟨h0, h1, h2, h3, h4, h5, h6, h7, h8, h9, h10, h11, h12, h13, h14, hk⟩ => ?_))
  have h7' : ∀ ret, G59 k q.root.rpv 100000 ret = ret ((min q.root.cnt 100000 : Nat) : Int) := fun ret => h7 100000 ret (by omega)
  have h9' : ∀ ret, G60 k q.root.rpv 64 ret = ret ((min q.root.dep 65 : Nat) : Int) := h9
  simp only [G12, f12_N, f12_e, h0, e2, e2r, h1, h2, h3, h4, h5, h6, h7', h8, h9', h10, h11, h12, Bool.not_true, cond_false, decide_eq_true (rfl : ((min q.root.cnt 100000 : Nat) : Int) = ((min q.root.cnt 100000 : Nat) : Int)), decide_eq_true (rfl : ((min q.root.dep 65 : Nat) : Int) = ((min q.root.dep 65 : Nat) : Int)), beq_self_eq_true, cond_true]
  cases q.root.big 70
  case true => rfl
  cases o.big 70
  case true => rfl
  cases hg : q.root.good q.g
  case false => rfl
  obtain ⟨b1, b2, b3⟩ := h13 hg
  simp only [beq_self_eq_true, cond_true, cond_false, b1, b2, PV.els, List.length_map, Bool.not_true, f12_w1N]
  simp only [decide_true, Bool.not_true, cond_false]
  generalize hB : f12_w1B k _ _ _ _ _ _ _ _ _ _ _ _ _ _ _ _ _ _ _ _ _ = body
  have step : ∀ nx s, body nx s = f12_w1B k _ _ _ _ _ _ _ _ _ _ _ _ _ _ _ _ _ _ _ _ _ nx s := fun nx s => by rw [← hB]
  have := loopR_up (body := body) (res := fun i => some ([.bool true], [])) (q.root.sts []).length ?_ ?_ k 0 (by omega) (by omega)
  · exact this
  · intro nx
    rw [step]
    simp only [f12_w1B, f12_w1b0N, f12_w1b0, e2, e2r, PV.els, List.length_map, dF (show ¬ ((q.root.sts []).length : Int) < ((q.root.sts []).length : Int) by omega), cond_false, h4, h5, h6, h7', h8, h9', h10, h11, h12, decide_eq_true (rfl : ((min q.root.cnt 100000 : Nat) : Int) = ((min q.root.cnt 100000 : Nat) : Int)), decide_eq_true (rfl : ((min q.root.dep 65 : Nat) : Int) = ((min q.root.dep 65 : Nat) : Int)), beq_self_eq_true, cond_true, decide_true]
  · intro i hi nx hnx
    rw [step]
    simp only [f12_w1B, f12_w1b0N, f12_w1b0, PV.els, List.length_map, dT (show (i : Int) < ((q.root.sts []).length : Int) by omega), dT (show (0 : Int) ≤ (i : Int) by omega), Bool.and_self, cond_true, getD_map bs hi, getD_map rb hi, wrap_succ (show i < 1099511627777 by omega), h14, beq_refl, Bool.not_true, cond_false]
    exact hnx
end Go.Proofs.Ytifnlmfhbepjcaa
