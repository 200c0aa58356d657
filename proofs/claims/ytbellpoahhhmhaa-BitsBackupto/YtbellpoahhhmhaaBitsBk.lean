/- The law BitsBack comes out true. -/
import Derived.Test.YtbellpoahhhmhaaBitsFl
set_option linter.unusedSimpArgs false
set_option linter.unusedVariables false
set_option maxRecDepth 20000
namespace Go.Proofs.Ytbellpoahhhmhaa
open Go Go.X

theorem byt_flat (v : Val) : v.Ok → Byt v.flat := by
  refine Val.ind (p := fun v => v.Ok → Byt v.flat) (fun k b l ih h => ?_) v
  rw [Val.flat_eq]
  intro x hx
  rcases List.mem_append.1 hx with hx | hx
  · by_cases h2 : (Val.mk k b l).kind = 2
    · rw [if_pos h2] at hx
      have hx : x = b := by simpa [Val.byte] using hx
      subst hx; exact h.2.1
    · rw [if_neg h2] at hx; cases hx
  · obtain ⟨y, hy, hx⟩ := List.mem_flatMap.1 hx
    have hyl : y ∈ l := by unfold Val.kids at hy; exact List.mem_of_mem_take hy
    exact ih y hyl (Val.Ok.kid h hyl) x hx
theorem nums (l : List Int) : List.map PV.num (PV.els (PV.list (pvI l))) = l := by rw [vels]; exact pvI_num l

/-- The second half: what is got is Full, and has these choices and these bytes. -/
theorem back2 (c : Cor) (hc : c.Ok) (sc : c.Sm) (s t : List Int) (ht : Byt t) : (got c s t).2 = 0 → Ult fun k =>
    (∀ ret, G31 k c.pv (got c s t).1.pv ret = ret true) ∧ (∀ ret, G46 k (got c s t).1.pv ret = ret s) ∧ (∀ ret, G27 k (got c s t).1.pv ret = ret (.list (pvI t))) := by
  intro hg
  obtain ⟨g, _, f⟩ := got_ok hg
  obtain ⟨ok, sm⟩ := got_sm hg ht
  obtain ⟨f1, f2, f3, f4⟩ := f
  rw [List.append_nil] at f3 f4
  refine ((spec_Full c hc sc _ ok sm).and ((spec_Put _ sm).and (spec_Flat _ sm))).mono fun k ⟨h1, h2, h3⟩ => ⟨fun ret => ?_, fun ret => ?_, fun ret => ?_⟩
  · rw [h1, vGood, g, f1, f2]; rfl
  · rw [h2, ← f3]
  · rw [h3, ← f4]

theorem BitsBack.main (c : Cor) (v : Val) (s : List Int) (l : List Nat) (hc : c.Ok) (hv : v.Ok) (hs : ∃ b : ByteArray, s = chars b ∧ b.size ≤ maxLen) (hl : ∀ b ∈ l, b < 256) (hz : c.size + v.size ≤ 100000000) : ∃ k, G11 k c.pv v.pv s (.list (pvL l)) (fun y => some ([.bool y], [])) = some ([.bool true], []) := by
  have sc : c.Sm := by simp only [Cor.Sm]; omega
  have sv : v.Sm := by simp only [Val.Sm]; omega
  have ht := byt_ints hl
  rw [pvL_ints]
  generalize ints l = t at ht
  have hb2 : Ult fun k => (got c s t).2 = 0 → (∀ ret, G31 k c.pv (got c s t).1.pv ret = ret true) ∧ (∀ ret, G46 k (got c s t).1.pv ret = ret s) ∧ (∀ ret, G27 k (got c s t).1.pv ret = ret (.list (pvI t))) := by
    by_cases hg : (got c s t).2 = 0
    · exact (back2 c hc sc s t ht hg).mono fun k h _ => h
    · exact Ult.of fun k h => absurd h hg
  refine Ult.get (Ult.succ ((spec_awake.and ((spec_big c 100 (by omega)).and ((spec_wide v 40 (by omega)).and ((spec_Len v sv).and ((spec_Full c hc sc v hv sv).and ((spec_Put v sv).and ((spec_Flat v sv).and ((spec_Get c hc sc).and ((spec_Same v sv v).and hb2))))))))).mono fun k ⟨h0, h1, h2, h3, h4, h5, h6, h7, h8, h9⟩ => ?_))
  simp only [G11, f11_N, f11_e, h0, h1, h2, h3, h4, h5, h6, els_len]
  cases c.big 100
  case true => rfl
  cases v.wide 40
  case true => rfl
  simp only [Bool.not_true, cond_false, beq_self_eq_true, cond_true]
  by_cases l1 : 200 < v.flat.length
  · rw [decide_eq_true (show (200 : Int) < (v.flat.length : Int) by omega)]; rfl
  rw [decide_eq_false (show ¬ (200 : Int) < (v.flat.length : Int) by omega)]
  by_cases l2 : 200 < s.length
  · rw [decide_eq_true (show (200 : Int) < (s.length : Int) by omega)]; rfl
  rw [decide_eq_false (show ¬ (200 : Int) < (s.length : Int) by omega)]
  by_cases l3 : 100 < t.length
  · rw [decide_eq_true (show (100 : Int) < (t.length : Int) by omega)]; rfl
  rw [decide_eq_false (show ¬ (100 : Int) < (t.length : Int) by omega)]
  simp only [beq_self_eq_true, cond_true, cond_false]
  have hbl := Val.bits_len v
  have last : (G43 k c.pv s (.list (pvI t)) fun p20 n21 =>
          bif ((!(decide (n21 = (0 : Int)))) == false) then
            G31 k c.pv p20 fun b22 =>
            bif (b22 == true) then
              G46 k p20 fun s23 =>
              bif ((decide ((s23 : List Int) = s)) == true) then
                G27 k p20 fun p24 =>
                (fun y => some ([.bool y], [])) (decide (((List.map PV.num (PV.els p24)) : List Int) = (List.map PV.num (PV.els (.list (pvI t))))))
              else (fun y => some ([.bool y], [])) false
            else (fun y => some ([.bool y], [])) false
          else (fun y => some ([.bool y], [])) true) = some ([SV.bool true], []) := by
    rw [h7 s t ht (by omega)]
    by_cases hg : (got c s t).2 = 0
    · obtain ⟨q1, q2, q3⟩ := h9 hg
      rw [hg, q1]
      simp only [decide_true, Bool.not_true, beq_self_eq_true, cond_true]
      rw [q2]
      simp only [decide_true, beq_self_eq_true, cond_true]
      rw [q3]
      simp only [decide_true]
    · rw [decide_eq_false hg]; rfl
  by_cases hf : (vGood c v && v.full) = true
  · rw [hf]
    simp only [cond_true]
    rw [h7 v.bits v.flat (byt_flat v hv) (by simp only [Val.Sm] at sv; omega)]
    simp only [vGood, Bool.and_eq_true] at hf
    rw [got_back hf.1.1 (by omega) hf.1.2 hf.2]
    simp only [decide_true, Bool.not_true, beq_self_eq_true, cond_true]
    rw [h8, (Val.same_iff v v).2 rfl]
    exact last
  · have hf : (vGood c v && v.full) = false := by simpa using hf
    rw [hf]
    exact last
end Go.Proofs.Ytbellpoahhhmhaa
