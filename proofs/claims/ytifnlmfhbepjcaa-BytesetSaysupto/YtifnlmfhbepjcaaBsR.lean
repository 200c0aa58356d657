/- Runs of a set: apart, rising, all of it. -/
import Derived.Test.YtifnlmfhbepjcaaBsF
set_option linter.unusedSimpArgs false
set_option linter.unusedVariables false
namespace Go.Proofs.Ytifnlmfhbepjcaa
open Go Go.X

structure RunsOk (pre : List Nat) (r : List (Nat × Nat)) : Prop where
  ok : ∀ x ∈ r, x.1 ≤ x.2
  gap : r.Pairwise fun a b => b.2 + 1 < a.1
  mem : ∀ x, x ∈ pre ↔ ∃ a ∈ r, a.1 ≤ x ∧ x ≤ a.2
  sum : (r.map fun a => a.2 + 1 - a.1).sum = pre.length
  top : ∀ a t, r = a :: t → ∀ x ∈ pre, x ≤ a.2

theorem RunsOk.step {pre : List Nat} {r : List (Nat × Nat)} (h : RunsOk pre r) {b : Nat} (hb : ∀ x ∈ pre, x < b) : RunsOk (pre ++ [b]) (runStep r b) := by
  cases r with
  | nil =>
    have hp : pre = [] := by
      cases pre with
      | nil => rfl
      | cons x l => obtain ⟨a, ha, _⟩ := (h.mem x).1 (by simp); cases ha
    subst hp
    refine ⟨by simp [runStep], by simp [runStep], fun x => ?_, by simp [runStep], fun a t e x hx => ?_⟩
    · simp only [runStep, List.nil_append, List.mem_singleton, exists_eq_left]; omega
    · simp only [runStep, List.cons.injEq] at e; rw [← e.1]; simp at hx; simp only; omega
  | cons a t =>
    obtain ⟨lo, hi⟩ := a
    have hok := h.ok (lo, hi) (by simp)
    simp only at hok
    have hhi : hi ∈ pre := (h.mem hi).2 ⟨(lo, hi), by simp, hok, Nat.le_refl _⟩
    have hlt := hb hi hhi
    have hg := List.pairwise_cons.1 h.gap
    by_cases hc : hi + 1 = b
    · have e : runStep ((lo, hi) :: t) b = (lo, b) :: t := by simp only [runStep, if_pos hc]
      rw [e]
      refine ⟨fun x hx => ?_, List.pairwise_cons.2 ⟨hg.1, hg.2⟩, fun x => ?_, ?_, fun a' t' e' x hx => ?_⟩
      · rcases List.mem_cons.1 hx with rfl | hx
        · simp only; omega
        · exact h.ok x (by simp [hx])
      · rw [List.mem_append, h.mem x, List.mem_singleton]
        constructor
        · rintro (⟨a, ha, h1, h2⟩ | rfl)
          · rcases List.mem_cons.1 ha with rfl | ha
            · exact ⟨(lo, b), by simp, h1, by simp only at h2 ⊢; omega⟩
            · exact ⟨a, by simp [ha], h1, h2⟩
          · exact ⟨(lo, x), by simp, by simp only; omega, Nat.le_refl _⟩
        · rintro ⟨a, ha, h1, h2⟩
          rcases List.mem_cons.1 ha with rfl | ha
          · simp only at h1 h2
            by_cases hx : x = b
            · exact .inr hx
            · exact .inl ⟨(lo, hi), by simp, h1, by simp only; omega⟩
          · exact .inl ⟨a, by simp [ha], h1, h2⟩
      · have := h.sum
        simp only [List.map_cons, List.sum_cons, List.length_append, List.length_singleton] at this ⊢; omega
      · injection e' with e1 e2; subst e1
        rcases List.mem_append.1 hx with hx | hx
        · have := hb x hx; simp only; omega
        · simp at hx; simp only; omega
    · have e : runStep ((lo, hi) :: t) b = (b, b) :: (lo, hi) :: t := by simp only [runStep, if_neg hc]
      rw [e]
      refine ⟨fun x hx => ?_, List.pairwise_cons.2 ⟨fun x hx => ?_, h.gap⟩, fun x => ?_, ?_, fun a' t' e' x hx => ?_⟩
      · rcases List.mem_cons.1 hx with rfl | hx
        · exact Nat.le_refl _
        · exact h.ok x hx
      · rcases List.mem_cons.1 hx with rfl | hx
        · simp only; omega
        · have := hg.1 x hx; simp only at this ⊢; omega
      · rw [List.mem_append, h.mem x, List.mem_singleton]
        constructor
        · rintro (⟨a, ha, h1, h2⟩ | rfl)
          · exact ⟨a, List.mem_cons_of_mem _ ha, h1, h2⟩
          · exact ⟨(x, x), by simp, Nat.le_refl _, Nat.le_refl _⟩
        · rintro ⟨a, ha, h1, h2⟩
          rcases List.mem_cons.1 ha with rfl | ha
          · simp only at h1 h2; exact .inr (by omega)
          · exact .inl ⟨a, ha, h1, h2⟩
      · have := h.sum
        simp only [List.map_cons, List.sum_cons, List.length_append, List.length_singleton] at this ⊢; omega
      · injection e' with e1 e2; subst e1
        rcases List.mem_append.1 hx with hx | hx
        · have := hb x hx; simp only; omega
        · simp at hx; simp only; omega

theorem RunsOk.fold : ∀ (l pre : List Nat) (r : List (Nat × Nat)), RunsOk pre r → (pre ++ l).Pairwise (· < ·) → RunsOk (pre ++ l) (l.foldl runStep r)
  | [], pre, r, h, _ => by simpa using h
  | b :: l, pre, r, h, hp => by
    have h2 := List.pairwise_append.1 hp
    have := RunsOk.fold l (pre ++ [b]) (runStep r b) (h.step fun x hx => h2.2.2 x hx b (by simp)) (by simpa using hp)
    simpa using this
theorem runs_ok (n : Nat) : RunsOk (lst n) (runsOf n).reverse := by
  have := RunsOk.fold (lst n) [] [] ⟨by simp, by simp, by simp, rfl, by simp⟩ (by simpa using lst_sorted n)
  unfold runsOf
  rw [List.reverse_reverse]
  simpa using this
theorem runs_lt {n : Nat} {r : Nat × Nat} (h : r ∈ runsOf n) : r.1 ≤ r.2 ∧ r.2 < 256 := by
  have hk := runs_ok n
  have h1 := hk.ok r (by simpa using h)
  exact ⟨h1, (mem_lst.1 ((hk.mem r.2).2 ⟨r, by simpa using h, h1, Nat.le_refl _⟩)).1⟩
theorem runs_gap (n : Nat) : (runsOf n).Pairwise fun a b => a.2 + 1 < b.1 := by
  have := (runs_ok n).gap
  rwa [List.pairwise_reverse] at this
theorem runs_sum (n : Nat) : ((runsOf n).map fun a => a.2 + 1 - a.1).sum = (lst n).length := by
  have := (runs_ok n).sum
  rw [List.map_reverse, List.sum_reverse] at this
  exact this
theorem runs_mem (n x : Nat) (hn : n < 2 ^ 256) : n.testBit x = true ↔ ∃ a ∈ runsOf n, a.1 ≤ x ∧ x ≤ a.2 := by
  have := (runs_ok n).mem x
  simp only [List.mem_reverse] at this
  rw [← this, mem_lst]
  constructor
  · intro h
    refine ⟨?_, h⟩
    by_cases hx : x < 256
    · exact hx
    · rw [bit_out hn hx] at h; cases h
  · exact fun h => h.2
theorem runs_len (n : Nat) : (runsOf n).length ≤ 256 := by
  have h1 := runs_sum n
  have h2 : ∀ l : List (Nat × Nat), (∀ r ∈ l, r.1 ≤ r.2) → l.length ≤ (l.map fun a => a.2 + 1 - a.1).sum := by
    intro l
    induction l with
    | nil => simp
    | cons a l ih =>
      intro h
      have := ih fun r hr => h r (by simp [hr])
      have := h a (by simp)
      simp only [List.length_cons, List.map_cons, List.sum_cons]; omega
  have := h2 (runsOf n) fun r hr => (runs_lt hr).1
  have := lst_length_le n
  omega
theorem pvR_get {l : List (Nat × Nat)} {i : Nat} (h : i < l.length) : List.getD (pvR l) ((i : Int)).toNat PV.nil = PV.agg [.int (l[i].1 : Int), .int (l[i].2 : Int)] := by
  simp [pvR, List.getD, h]
theorem agg_f0 (a b : Int) : PV.fld (PV.agg [.int a, .int b]) 0 = .int a := rfl
theorem agg_f1 (a b : Int) : PV.fld (PV.agg [.int a, .int b]) 1 = .int b := rfl

theorem spec_awake1 : Ult fun k => ∀ ret, G14 k ret = ret true :=
  Ult.succ ((spec_Range.and (spec_Runs.and (spec_Has.and spec_Len))).mono fun k ⟨h1, h2, h3, h4⟩ ret => by
    simp only [G14, f14_N, f14_e]
    have e1 := h1 97 99
    have r1 : runsOf (rng 97 99) = [(97, 99)] := by decide +kernel
    have r2 : (rng 97 99).testBit 98 = true := by decide +kernel
    have r3 : (rng 97 99).testBit 100 = false := by decide +kernel
    have r4 : (lst (rng 97 99)).length = 3 := by decide +kernel
    have e3 := h3 (rng 97 99) 98
    have e4 := h3 (rng 97 99) 100
    refine (e1 _ (by omega) (by omega)).trans ?_
    rw [h2, r1]
    simp only [els_list, pvR, List.map_cons, List.map_nil, List.length_cons, List.length_nil]
    have e5 : PV.beq (List.getD [PV.agg [PV.int ((97, 99) : Nat × Nat).1, PV.int ((97, 99) : Nat × Nat).2]] ((0 : Int)).toNat PV.nil) (PV.agg [(PV.int 97), (PV.int 99)]) = true := rfl
    rw [e5]
    refine (show _ = _ from e3 _ (by omega)).trans ?_
    rw [r2]
    refine (show _ = _ from e4 _ (by omega)).trans ?_
    rw [r3, h4, r4]
    rfl)

theorem BytesetRuns.main (n : Nat) (hn : n < 2 ^ 256) : ∃ k, G3 k (bs n) (fun y => some ([.bool y], [])) = some ([.bool true], []) := by
  refine Ult.get (Ult.succ ((spec_awake1.and (spec_Runs.and (spec_Len.and (Ult.ge 300)))).mono fun k ⟨h1, h2, h3, hk⟩ => ?_))
  simp only [G3, f3_N, f3_e, h1, h2, Bool.not_true, cond_false, f3_w1N]
  generalize hret : (fun y => some ([SV.bool y], [])) = ret
  have hlt : ∀ r ∈ runsOf n, r.1 ≤ r.2 ∧ r.2 < 256 := fun r hr => runs_lt hr
  have hgap := runs_gap n
  have hsum := runs_sum n
  have hlen := runs_len n
  have hl2 := lst_length_le n
  generalize runsOf n = l at *
  have hb : ∀ i, ((l.take i).map fun a => a.2 + 1 - a.1).sum ≤ 256 := by
    intro i
    have : l = l.take i ++ l.drop i := (List.take_append_drop i l).symm
    rw [this, List.map_append, List.sum_append] at hsum
    omega
  have := loopR_upP (body := f3_w1B k (G14 k) (G15 k) (G16 k) ret (bs n) (.list (pvR l))) (fun (i : Nat) (a : Nat) => ((a : Int), (i : Int))) (fun i a => a = ((l.take i).map fun a => a.2 + 1 - a.1).sum) (res := fun i a => ret true) l.length ?_ ?_ k 0 0 rfl (by omega) (by omega)
  · exact this.trans (by rw [← hret])
  · intro nx a ha
    simp only [f3_w1B, f3_w1b0N, f3_w1b0, els_list, pvR_len]
    rw [decide_eq_false (by omega), h3]
    rw [List.take_length] at ha
    simp only [cond_false]
    rw [decide_eq_true (by omega)]
  · intro i hi nx a ha hnx
    simp only [f3_w1B, f3_w1b0N, f3_w1b0, els_list, pvR_len, pvR_get hi, agg_f0, agg_f1, num_int]
    have h5 := hlt _ (List.getElem_mem hi)
    have hbi := hb i
    rw [← ha] at hbi
    have hnext := hnx (a + (l[i].2 + 1 - l[i].1)) (by rw [List.take_succ_eq_append_getElem hi, List.map_append, List.sum_append, ← ha]; simp)
    have w1 : IntKind.wrap .i64 (l[i].1 : Int) = l[i].1 := by rw [wrap_i64] <;> omega
    have w2 : IntKind.wrap .i64 (l[i].2 : Int) = l[i].2 := by rw [wrap_i64] <;> omega
    have w3 : IntKind.wrap .i64 ((a : Int) + (l[i].2 : Int)) = (a : Int) + (l[i].2 : Int) := by rw [wrap_i64] <;> omega
    have w4 : IntKind.wrap .i64 ((a : Int) + (l[i].2 : Int) - (l[i].1 : Int)) = (a : Int) + (l[i].2 : Int) - (l[i].1 : Int) := by rw [wrap_i64] <;> omega
    have w5 : IntKind.wrap .i64 ((a : Int) + (l[i].2 : Int) - (l[i].1 : Int) + 1) = ((a + (l[i].2 + 1 - l[i].1) : Nat) : Int) := by rw [wrap_i64] <;> omega
    simp only [w1, w2, w3, w4, w5, wrap_inc (show i < 1099511627777 by omega), decide_eq_true (show (i : Int) < (l.length : Int) by omega), decide_eq_true (show (0 : Int) ≤ (i : Int) by omega), decide_eq_false (show ¬ (l[i].2 : Int) < (l[i].1 : Int) by omega), Bool.and_self, cond_true, beq_self_eq_true]
    by_cases h0 : i = 0
    · subst h0
      simp only [decide_eq_false (show ¬ (0 : Int) < ((0 : Nat) : Int) by omega), show (false == true) = false from rfl, cond_false]
      exact hnext
    · have hi1 : i - 1 < l.length := by omega
      have w6 : IntKind.wrap .i64 ((i : Int) - 1) = ((i - 1 : Nat) : Int) := by rw [wrap_i64] <;> omega
      have hlt1 := hlt _ (List.getElem_mem hi1)
      have w7 : IntKind.wrap .i64 (l[i - 1].2 : Int) = l[i - 1].2 := by rw [wrap_i64] <;> omega
      have w8 : IntKind.wrap .i64 ((l[i - 1].2 : Int) + 1) = (l[i - 1].2 : Int) + 1 := by rw [wrap_i64] <;> omega
      have hg := List.pairwise_iff_getElem.1 hgap (i - 1) i hi1 hi (by omega)
      simp only [w6, pvR_get hi1, agg_f1, num_int, w7, w8, decide_eq_true (show (0 : Int) < (i : Int) by omega), beq_self_eq_true, cond_true, decide_eq_true (show (0 : Int) ≤ ((i - 1 : Nat) : Int) by omega), decide_eq_true (show ((i - 1 : Nat) : Int) < (l.length : Int) by omega), Bool.and_self,
        decide_eq_false (show ¬ (l[i].1 : Int) ≤ (l[i - 1].2 : Int) + 1 by omega), cond_false]
      exact hnext
end Go.Proofs.Ytifnlmfhbepjcaa
