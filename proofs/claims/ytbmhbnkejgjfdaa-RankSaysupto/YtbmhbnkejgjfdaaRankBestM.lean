/- RankBest: what is to be shown of values. -/
import Derived.Test.YtbmhbnkejgjfdaaRankG
set_option linter.unusedSimpArgs false
namespace Go.Proofs.Ytbmhbnkejgjfdaa
open Go Go.X

theorem Ult.all2 {p : Val → Val → Nat → Prop} {l m : List Val} (h : ∀ x ∈ l, ∀ y ∈ m, Ult (p x y)) : Ult fun k => ∀ x ∈ l, ∀ y ∈ m, p x y k :=
  Ult.forall_mem fun x hx => Ult.forall_mem fun y hy => h x hx y hy

def nth (l : List Val) (i : Nat) : Val := l.getD i (vByt 0)
theorem nth_eq {l : List Val} {i : Nat} (h : i < l.length) : nth l i = l[i] := by simp [nth, List.getD, h]
theorem nth_mem {l : List Val} {i : Nat} (h : i < l.length) : nth l i ∈ l := by rw [nth_eq h]; exact List.getElem_mem h
theorem getD_nth {l : List Val} {i : Nat} (h : i < l.length) : List.getD (l.map Val.pv) ((i : Int)).toNat PV.nil = (nth l i).pv := by rw [getD_pv h, nth_eq h]
def bestGo (l : List Val) : Nat → Nat → Nat → Nat
  | 0, b, _ => b
  | n + 1, b, i => if Val.rcmp (nth l i) (nth l b) < 0 then bestGo l n i (i + 1) else bestGo l n b (i + 1)
def best (l : List Val) : Nat := bestGo l l.length 0 0
theorem bestGo_spec (l : List Val) : ∀ n b i, i + n = l.length → b ≤ i → b < l.length → (∀ x, x < i → 0 ≤ Val.rcmp (nth l x) (nth l b) ∧ (x < b → 0 < Val.rcmp (nth l x) (nth l b))) →
    bestGo l n b i < l.length ∧ ∀ x, x < l.length → 0 ≤ Val.rcmp (nth l x) (nth l (bestGo l n b i)) ∧ (x < bestGo l n b i → 0 < Val.rcmp (nth l x) (nth l (bestGo l n b i)))
  | 0, b, i, h1, _, h3, h4 => ⟨h3, fun x hx => h4 x (by omega)⟩
  | n + 1, b, i, h1, h2, h3, h4 => by
    unfold bestGo
    by_cases hc : Val.rcmp (nth l i) (nth l b) < 0
    · rw [if_pos hc]
      refine bestGo_spec l n i (i + 1) (by omega) (by omega) (by omega) fun x hx => ?_
      by_cases he : x = i
      · subst he
        rw [Val.rcmp_self]
        exact ⟨by omega, fun h => by omega⟩
      · have h5 := (h4 x (by omega)).1
        have t := Val.rcmp_tr (nth l i) (nth l b) (nth l x)
        have e := Val.rcmp_neg (nth l x) (nth l b)
        have e2 := Val.rcmp_neg (nth l x) (nth l i)
        unfold Tr at t
        have := t.2.1 hc (by omega)
        exact ⟨by omega, fun _ => by omega⟩
    · rw [if_neg hc]
      refine bestGo_spec l n b (i + 1) (by omega) (by omega) h3 fun x hx => ?_
      by_cases he : x = i
      · subst he
        exact ⟨by omega, fun h => by omega⟩
      · exact h4 x (by omega)
theorem best_spec {l : List Val} (h : l ≠ []) : best l < l.length ∧ ∀ x, x < l.length → 0 ≤ Val.rcmp (nth l x) (nth l (best l)) ∧ (x < best l → 0 < Val.rcmp (nth l x) (nth l (best l))) := by
  have : 0 < l.length := List.length_pos_iff.2 h
  exact bestGo_spec l l.length 0 0 (by omega) (by omega) this fun x hx => by omega

theorem spec_Best (l : List Val) (hl : ∀ x ∈ l, x.Sm) (hn : l.length ≤ 274877906944) : Ult fun k => ∀ ret, G20 k (.list (l.map Val.pv)) ret = ret (best l : Int) (decide (0 < (l.length : Int))) := by
  refine Ult.succ (((Ult.all2 (l := l) (m := l) fun x hx y hy => spec_Cmp x (hl x hx) y (hl y hy)).and (Ult.ge (l.length + 1))).mono fun k ⟨h1, h2⟩ ret => ?_)
  simp only [G20, f20_N, f20_e, f20_w1N]
  have := loopR_upE (A := { b : Nat // l = [] ∨ b < l.length }) (body := f20_w1B k (G14 k) ret (.list (l.map Val.pv))) (fun i b => ((b.1 : Int), (i : Int)))
    (res := fun i b => ret (bestGo l (l.length - i) b.1 i : Int) (decide (0 < (l.length : Int)))) l.length ?_ ?_ k 0 ⟨0, by cases l <;> simp⟩ (by omega) (by omega)
  · simpa [best] using this
  · intro nx b
    simp [f20_w1B, f20_w1b0N, f20_w1b0, PV.els, bestGo]
  · intro i hi nx b hnx
    have hb : b.1 < l.length := by
      rcases b.2 with h | h
      · rw [h] at hi; simp at hi
      · exact h
    simp only [f20_w1B, f20_w1b0N, f20_w1b0, PV.els, List.length_map]
    rw [decide_eq_true (show (i : Int) < (l.length : Int) by omega), decide_eq_true (show (0 : Int) ≤ (i : Int) by omega), decide_eq_true (show (0 : Int) ≤ (b.1 : Int) by omega), decide_eq_true (show (b.1 : Int) < (l.length : Int) by omega), getD_nth hi, getD_nth hb]
    simp only [Bool.and_self, cond_true]
    rw [h1 _ (nth_mem hi) _ (nth_mem hb), wrap_succ (by omega)]
    have e : l.length - i = (l.length - (i + 1)) + 1 := by omega
    rw [e, bestGo]
    by_cases hc : Val.rcmp (nth l i) (nth l b.1) < 0
    · rw [decide_eq_true hc, if_pos hc]
      simp only [cond_true]
      exact hnx ⟨i, .inr hi⟩
    · rw [decide_eq_false hc, if_neg hc]
      simp only [cond_false]
      exact hnx b

/-- A row, turned. -/
def rot (l : List Val) (t : Nat) : List Val := (List.range l.length).map fun i => nth l ((i + t % l.length) % l.length)
theorem rot_length (l : List Val) (t : Nat) : (rot l t).length = l.length := by simp [rot]
theorem rot_nth {l : List Val} {t i : Nat} (h : i < l.length) : nth (rot l t) i = nth l ((i + t % l.length) % l.length) := by
  rw [nth_eq (by rw [rot_length]; exact h)]; simp [rot]
theorem rot_mem {l : List Val} {t : Nat} {x : Val} (h : x ∈ rot l t) : x ∈ l := by
  simp only [rot, List.mem_map, List.mem_range] at h
  obtain ⟨i, hi, rfl⟩ := h
  exact nth_mem (Nat.mod_lt _ (by omega))
theorem rot_has {l : List Val} {t i : Nat} (h : i < l.length) : ∃ j, j < l.length ∧ nth (rot l t) j = nth l i := by
  have ht : t % l.length < l.length := Nat.mod_lt _ (by omega)
  by_cases hc : t % l.length ≤ i
  · refine ⟨i - t % l.length, by omega, ?_⟩
    rw [rot_nth (by omega), show i - t % l.length + t % l.length = i by omega, Nat.mod_eq_of_lt h]
  · refine ⟨i + l.length - t % l.length, by omega, ?_⟩
    rw [rot_nth (by omega), show i + l.length - t % l.length + t % l.length = i + l.length by omega, Nat.add_mod_right, Nat.mod_eq_of_lt h]
theorem best_rot {l : List Val} (hl : l ≠ []) (t : Nat) : Val.rcmp (nth l (best l)) (nth (rot l t) (best (rot l t))) = 0 := by
  have hr : rot l t ≠ [] := by intro h; have := rot_length l t; rw [h] at this; simp at this; exact hl (List.length_eq_zero_iff.1 this.symm)
  obtain ⟨a1, a2⟩ := best_spec hl
  obtain ⟨b1, b2⟩ := best_spec hr
  rw [rot_length] at b1 b2
  obtain ⟨j, hj, e⟩ := rot_has (t := t) a1
  have h1 := (b2 j hj).1
  rw [e] at h1
  have h2 := a2 ((best (rot l t) + t % l.length) % l.length) (Nat.mod_lt _ (by omega))
  rw [← rot_nth b1] at h2
  have := Val.rcmp_neg (nth l (best l)) (nth (rot l t) (best (rot l t)))
  omega

theorem RankBest.main (l : List Val) (t : Int) (_ : Val.Oks l) (_ : (Lit.int .i64 t).wf = true) (hs : Val.sizes l + 1 + (1 + 0) ≤ 1048576) :
    ∃ k, G7 k (.list (l.map Val.pv)) t (fun y => some ([.bool y], [])) = some ([.bool true], []) := by
  have hsm : ∀ x ∈ l, x.Sm := fun x hx => by have := Val.size_le_of_mem hx; simp only [Val.Sm]; omega
  have hw : Ult fun k => ∀ x ∈ l, ∀ ret, G13 k x.pv 20 ret = ret (x.wide 20) := Ult.forall_mem fun x _ => spec_wide x 20 (by omega)
  have hc := Ult.all2 (l := l) (m := l) fun x hx y hy => spec_Cmp x (hsm x hx) y (hsm y hy)
  have hll : l.length ≤ 1048576 := by have := Val.length_le_sizes l; omega
  have hb1 := spec_Best l hsm (by omega)
  have hb2 := spec_Best (rot l t.toNat) (fun x hx => hsm x (rot_mem hx)) (by rw [rot_length]; omega)
  refine Ult.get (Ult.succ ((spec_awake.and (hw.and (hc.and (hb1.and (hb2.and (Ult.ge 20)))))).mono fun k ⟨h0, h1, h2, h3, h4, h5⟩ => ?_))
  simp only [G7, f7_N, f7_e, h0, PV.els, List.length_map]
  by_cases c1 : (l.length : Int) < 1
  · simp [c1]
  by_cases c2 : 12 < (l.length : Int)
  · simp [c1, c2]
  by_cases c3 : t < 0
  · simp [c1, c2, c3]
  rw [decide_eq_false c1, decide_eq_false c2, decide_eq_false c3]
  simp only [Bool.not_true, cond_false, beq_self_eq_true, cond_true]
  have hne : l ≠ [] := by intro h; subst h; simp at c1
  have hmod : ∀ i : Nat, i < l.length → Int.tmod (IntKind.wrap .i64 ((i : Int) + Int.tmod t (l.length : Int))) (l.length : Int) = (((i + t.toNat % l.length) % l.length : Nat) : Int) := by
    intro i hi
    have e : t = (t.toNat : Int) := by omega
    have e1 : Int.tmod t (l.length : Int) = ((t.toNat % l.length : Nat) : Int) := by rw [e, ← Int.ofNat_tmod]; simp
    have hlt : t.toNat % l.length < l.length := Nat.mod_lt _ (by omega)
    rw [e1, wrap_i64 (by omega) (by omega), show ((i : Int) + ((t.toNat % l.length : Nat) : Int)) = ((i + t.toNat % l.length : Nat) : Int) by omega, ← Int.ofNat_tmod]
  simp only [f7_w1N]
  have htake : ∀ i, i < l.length → (rot l t.toNat).take (i + 1) = (rot l t.toNat).take i ++ [nth l ((i + t.toNat % l.length) % l.length)] := by
    intro i hi
    rw [List.take_add_one, List.getElem?_eq_getElem (by rw [rot_length]; exact hi)]
    simp [rot]
  have := loopR_upE (A := Unit) (body := f7_w1B k (G12 k) (G13 k) (G14 k) (G20 k) (fun y => some ([.bool y], [])) (.list (l.map Val.pv)) t) (fun i _ => ((i : Int), ((rot l t.toNat).take i).map Val.pv))
    (res := fun _ _ => some ([.bool true], [])) l.length ?_ ?_ k 0 () (by omega) (by omega)
  · simpa using this
  · intro nx _
    simp only [f7_w1B, f7_w1b0N, f7_w1b0, PV.els, List.length_map]
    rw [decide_eq_false (show ¬ ((l.length : Int) < (l.length : Int)) by omega), List.take_of_length_le (by rw [rot_length]; omega)]
    simp only [cond_false, h3, h4, rot_length]
    obtain ⟨a1, a2⟩ := best_spec hne
    have hr : rot l t.toNat ≠ [] := by intro h; have := rot_length l t.toNat; rw [h] at this; simp at this; exact hne (List.length_eq_zero_iff.1 this.symm)
    obtain ⟨b1, _⟩ := best_spec hr
    rw [rot_length] at b1
    rw [decide_eq_true (show (0 : Int) < (l.length : Int) by omega), decide_eq_false (show ¬ ((best l : Int) < 0) by omega), decide_eq_false (show ¬ ((best (rot l t.toNat) : Int) < 0) by omega),
      decide_eq_false (show ¬ ((l.length : Int) ≤ (best l : Int)) by omega), decide_eq_false (show ¬ ((l.length : Int) ≤ (best (rot l t.toNat) : Int)) by omega)]
    simp only [Bool.not_true, beq_self_eq_true, cond_true, cond_false, f7_w3N]
    refine loopR_up (res := fun _ => some ([.bool true], [])) l.length ?_ ?_ k 0 (by omega) (by omega)
    · intro nx
      simp only [f7_w3B, f7_w3b0N, f7_w3b0, PV.els, List.length_map, rot_length]
      rw [decide_eq_false (show ¬ ((l.length : Int) < (l.length : Int)) by omega), decide_eq_true (show (0 : Int) ≤ (best l : Int) by omega), decide_eq_true (show (best l : Int) < (l.length : Int) by omega),
        decide_eq_true (show (0 : Int) ≤ (best (rot l t.toNat) : Int) by omega), decide_eq_true (show (best (rot l t.toNat) : Int) < (l.length : Int) by omega), getD_nth a1, getD_nth (l := rot l t.toNat) (by rw [rot_length]; exact b1)]
      simp only [Bool.and_self, cond_true, cond_false]
      rw [h2 _ (nth_mem a1) _ (rot_mem (nth_mem (l := rot l t.toNat) (by rw [rot_length]; exact b1))), best_rot hne]
      rfl
    · intro i hi nx hnx
      simp only [f7_w3B, f7_w3b0N, f7_w3b0, PV.els, List.length_map]
      rw [decide_eq_true (show (i : Int) < (l.length : Int) by omega), decide_eq_true (show (0 : Int) ≤ (i : Int) by omega), decide_eq_true (show (0 : Int) ≤ (best l : Int) by omega), decide_eq_true (show (best l : Int) < (l.length : Int) by omega), getD_nth hi, getD_nth a1]
      simp only [Bool.and_self, cond_true]
      rw [h2 _ (nth_mem hi) _ (nth_mem a1)]
      obtain ⟨g1, g2⟩ := a2 i hi
      rw [decide_eq_false (show ¬ (Val.rcmp (nth l i) (nth l (best l)) < 0) by omega), wrap_succ (by omega), hnx]
      simp only [beq_self_eq_true, cond_true]
      by_cases hlt : i < best l
      · rw [decide_eq_true (show (i : Int) < (best l : Int) by omega)]
        simp only [beq_self_eq_true, cond_true]
        rw [h2 _ (nth_mem hi) _ (nth_mem a1), decide_eq_false (show ¬ (Val.rcmp (nth l i) (nth l (best l)) = 0) by have := g2 hlt; omega)]
        rfl
      · rw [decide_eq_false (show ¬ ((i : Int) < (best l : Int)) by omega)]
        rfl
  · intro i hi nx _ hnx
    simp only [f7_w1B, f7_w1b0N, f7_w1b0, PV.els, List.length_map]
    have hlt : (i + t.toNat % l.length) % l.length < l.length := Nat.mod_lt _ (by omega)
    rw [hmod i hi, decide_eq_true (show (i : Int) < (l.length : Int) by omega), decide_eq_true (show (0 : Int) ≤ (i : Int) by omega), getD_nth hi, decide_eq_false (show ¬ ((l.length : Int) = 0) by omega),
      decide_eq_true (show (0 : Int) ≤ (((i + t.toNat % l.length) % l.length : Nat) : Int) by omega), decide_eq_true (show (((i + t.toNat % l.length) % l.length : Nat) : Int) < (l.length : Int) by omega), getD_nth hlt]
    simp only [Bool.and_self, cond_true, cond_false]
    rw [h1 _ (nth_mem hi), roomy_of (by simp only [List.length_map, List.length_take, rot_length, List.length_cons, List.length_nil]; omega) (by simp only [List.length_map, List.length_take, rot_length, List.length_cons, List.length_nil]; omega), wrap_succ (by omega)]
    have hn := hnx ()
    rw [htake i hi, List.map_append] at hn
    simp only [Bool.and_self, cond_true]
    cases (nth l i).wide 20
    · simp only [cond_false]; exact hn
    · rfl
end Go.Proofs.Ytbmhbnkejgjfdaa
