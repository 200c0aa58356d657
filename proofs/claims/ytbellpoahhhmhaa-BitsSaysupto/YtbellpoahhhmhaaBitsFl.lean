/- The law BitsFull comes out true. -/
import Derived.Test.YtbellpoahhhmhaaBitsE
set_option linter.unusedSimpArgs false
set_option linter.unusedVariables false
set_option maxRecDepth 20000
namespace Go.Proofs.Ytbellpoahhhmhaa
open Go Go.X

theorem spec_awake : Ult fun k => ∀ ret, G40 k ret = ret true := by
  refine (Ult.ge 300).mono fun k hk ret => ?_
  obtain ⟨m, rfl⟩ := Nat.exists_eq_add_of_le' hk
  kernel_rfl
/-- A row of bytes, as whole numbers. -/
def ints (l : List Nat) : List Int := l.map fun n : Nat => (n : Int)
theorem pvL_ints (l : List Nat) : pvL l = pvI (ints l) := by simp [pvL, pvI, ints]
theorem byt_ints {l : List Nat} (h : ∀ b ∈ l, b < 256) : Byt (ints l) := by
  intro x hx
  obtain ⟨n, hn, rfl⟩ := List.mem_map.1 hx
  have := h n hn
  exact ⟨by omega, by omega⟩
theorem els_len (t : List Int) : (List.length (PV.els (PV.list (pvI t))) : Int) = (t.length : Int) := by rw [vels, pvI_len]

theorem BitsFull.main (c : Cor) (s : List Int) (l : List Nat) (n : Int) (hc : c.Ok) (hs : ∃ b : ByteArray, s = chars b ∧ b.size ≤ maxLen) (hl : ∀ b ∈ l, b < 256) (hn : (Lit.int .i64 n).wf = true) (hz : c.size ≤ 100000000) : ∃ k, G9 k c.pv s (.list (pvL l)) n (fun y => some ([.bool y], [])) = some ([.bool true], []) := by
  have sc : c.Sm := by simp only [Cor.Sm]; omega
  refine Ult.get (Ult.succ ((spec_awake.and ((spec_big c 60 (by omega)).and (spec_Get c hc sc))).mono fun k ⟨h0, h1, h2⟩ => ?_))
  simp only [G9, f9_N, f9_e, h0, h1, pvL_ints, els_len]
  have ht := byt_ints hl
  generalize ints l = t at ht
  cases c.big 60
  case true => rfl
  simp only [Bool.not_true, cond_false, beq_self_eq_true, cond_true]
  by_cases l1 : 100 < s.length
  · rw [decide_eq_true (show (100 : Int) < (s.length : Int) by omega)]; rfl
  rw [decide_eq_false (show ¬ (100 : Int) < (s.length : Int) by omega)]
  by_cases l2 : 60 < t.length
  · rw [decide_eq_true (show (60 : Int) < (t.length : Int) by omega)]; rfl
  rw [decide_eq_false (show ¬ (60 : Int) < (t.length : Int) by omega)]
  by_cases l3 : n < 0
  · rw [decide_eq_true l3]; rfl
  rw [decide_eq_false l3]
  by_cases l4 : (s.length : Int) ≤ n
  · rw [decide_eq_true l4]; rfl
  rw [decide_eq_false l4]
  simp only [beq_self_eq_true, cond_true, cond_false]
  rw [h2 s t ht (by omega)]
  by_cases hg : (got c s t).2 = 0
  case neg => rw [decide_eq_false hg]; rfl
  have q1 : s.length + List.length [(48 : Nat)] ≤ 4611686018427387904 := by simp only [List.length_cons, List.length_nil]; omega
  have q2 : s.length + List.length [(49 : Nat)] ≤ 4611686018427387904 := by simp only [List.length_cons, List.length_nil]; omega
  simp only [decide_eq_true hg, decide_eq_true (show (0 : Int) ≤ 0 by omega), decide_eq_true (show (0 : Int) ≤ n by omega), decide_eq_true (show n ≤ (s.length : Int) by omega), decide_eq_true q1, decide_eq_true q2]
  simp only [Bool.not_true, Bool.and_self, cond_false, cond_true]
  have e1 : List.drop ((0 : Int)).toNat (List.take n.toNat s) = s.take n.toNat := rfl
  rw [e1, h2 _ t ht (by rw [List.length_take]; omega), h2 _ t ht (by simp only [List.length_append, List.length_cons, List.length_nil]; omega), h2 _ t ht (by simp only [List.length_append, List.length_cons, List.length_nil]; omega)]
  have g1 : (got c (s.take n.toNat) t).2 = 7 := got_uniq hg (s.drop n.toNat) (by
    intro h
    have := congrArg List.length h
    simp only [List.length_drop, List.length_nil] at this
    omega) (.inl (List.take_append_drop _ _).symm)
  have g2 : ∀ x : Int, (got c (s ++ [x]) t).2 = 7 := fun x => got_uniq hg [x] (by simp) (.inr rfl)
  rw [g1, g2, g2]
  rfl
end Go.Proofs.Ytbellpoahhhmhaa
