/- Values' bytes; the printed functions of package value that tell them. -/
import Derived.Test.YtbellpoahhhmhaaValG
import Derived.Test.YtbellpoahhhmhaaWr
set_option linter.unusedSimpArgs false
set_option linter.unusedVariables false
namespace Go.Proofs.Ytbellpoahhhmhaa
open Go Go.X

namespace Val
mutual
/-- A value's bytes. -/
def flat : Val → List Int
  | mk k b l => (if k = 2 then [b] else []) ++ flatL (ar k l.length) l
def flatL : Nat → List Val → List Int
  | _, [] => []
  | 0, _ :: _ => []
  | n + 1, v :: l => flat v ++ flatL n l
end
theorem flatL_eq : ∀ (n : Nat) (l : List Val), flatL n l = (l.take n).flatMap flat
  | 0, [] => by simp [flatL]
  | 0, _ :: _ => by simp [flatL]
  | n + 1, [] => by simp [flatL]
  | n + 1, v :: l => by simp only [flatL, List.take_succ_cons, List.flatMap_cons, flatL_eq n l]
theorem flat_eq (v : Val) : v.flat = (if v.kind = 2 then [v.byte] else []) ++ v.kids.flatMap flat := by
  cases v; simp only [flat, flatL_eq, kids]
theorem flatL_len : ∀ (n : Nat) (l : List Val), (∀ v ∈ l, v.flat.length ≤ v.size) → (flatL n l).length ≤ sizes l
  | _, [], _ => by simp [flatL]
  | 0, _ :: _, _ => by simp [flatL]
  | n + 1, v :: l, h => by
    have h1 := h v (by simp)
    have h2 := flatL_len n l (fun x hx => h x (by simp [hx]))
    simp only [flatL, List.length_append, sizes]; omega
theorem flat_len (v : Val) : v.flat.length ≤ v.size := by
  refine ind (p := fun v => v.flat.length ≤ v.size) (fun k b l ih => ?_) v
  have := flatL_len (ar k l.length) l ih
  simp only [flat, List.length_append, size]
  split <;> simp only [List.length_cons, List.length_nil] <;> omega
end Val
theorem pvI_app (a b : List Int) : pvI a ++ pvI b = pvI (a ++ b) := by simp [pvI]

theorem spec_flat (v : Val) : v.Sm → Ult fun k => ∀ (l : List PV) ret, l.length + v.flat.length ≤ 35184372088832 → G63 k v.pv l ret = ret (l ++ pvI v.flat) := by
  refine Val.ind (p := fun v => v.Sm → Ult fun k => ∀ (l : List PV) ret, l.length + v.flat.length ≤ 35184372088832 → G63 k v.pv l ret = ret (l ++ pvI v.flat)) (fun kd b xs ih hsm => ?_) v
  have hall : Ult fun k => ∀ x ∈ (Val.mk kd b xs).kids, ∀ (l : List PV) ret, l.length + x.flat.length ≤ 35184372088832 → G63 k x.pv l ret = ret (l ++ pvI x.flat) :=
    Ult.forall_mem fun x hx => ih x (Val.mem_kidl (v := Val.mk kd b xs) hx) (Val.Sm.kid hsm (Val.mem_kidl hx))
  refine Ult.succ ((hall.and (spec_Kids.and (Ult.ge (xs.length + 1)))).mono fun k ⟨h1, h2, h4⟩ l ret hl => ?_)
  have hkl : (Val.mk kd b xs).kids.length ≤ xs.length := Val.kids_length _
  have hlen : xs.length ≤ 274877906944 := hsm.length
  generalize Val.mk kd b xs = v at *
  rw [Val.flat_eq] at hl ⊢
  have loop : ∀ (body : (Int × List PV → R) → Int × List PV → R) (hbody : ∀ nx n l, body nx (n, l) = bif (decide (n < (List.length (v.kids.map Val.pv) : Int))) then
      bif (true && decide ((0 : Int) ≤ n) && decide (n < (List.length (v.kids.map Val.pv) : Int))) then
        G63 k (List.getD (v.kids.map Val.pv) n.toNat PV.nil) l fun l => nx (IntKind.wrap .i64 (n + (1 : Int)), l)
      else none
    else ret l), ∀ l0 : List PV, l0.length + (v.kids.flatMap Val.flat).length ≤ 35184372088832 → loopR body k ((0 : Int), l0) = ret (l0 ++ pvI (v.kids.flatMap Val.flat)) := by
    intro body hbody l0 hl0
    have := vup (body := body) (fun (i : Nat) (l : List PV) => ((i : Int), l)) (fun i l => l.length + ((v.kids.drop i).flatMap Val.flat).length ≤ 35184372088832) (res := fun i l => ret (l ++ pvI ((v.kids.drop i).flatMap Val.flat))) v.kids.length ?_ ?_ k 0 l0 (by simpa using hl0) (by omega) (by omega)
    · exact this
    · intro nx l _
      rw [hbody, List.length_map, decide_eq_false (by omega), List.drop_length]
      simp [pvI]
    · intro i hi nx l hl hnx
      rw [drop_cons hi, List.flatMap_cons] at hl ⊢
      simp only [List.length_append] at hl
      rw [hbody, List.length_map, decide_eq_true (show (i : Int) < (v.kids.length : Int) by omega), decide_eq_true (show (0 : Int) ≤ (i : Int) by omega), getD_pv hi, wrap_succ (by omega)]
      simp only [Bool.and_self, cond_true]
      rw [h1 _ (List.getElem_mem hi) _ _ (by omega), hnx _ (by simp only [List.length_append, pvI_len]; omega), List.append_assoc, pvI_app]
  simp only [G63, f63_N, f63_e, Val.fld0, Val.fld1, PV.num, h2]
  by_cases c2 : v.kind = 2
  · rw [if_pos c2] at hl ⊢
    simp only [List.length_append, List.length_cons, List.length_nil] at hl
    simp only [decide_eq_true c2, cond_true, f63_w1N]
    rw [roomy_of (by simp; omega) (by simp; omega)]
    simp only [Bool.and_self, cond_true]
    rw [loop _ (fun nx n l => by simp only [f63_w1B, f63_w1b0N, f63_w1b0, PV.els]; rfl) _ (by simp only [List.length_append, List.length_cons, List.length_nil]; omega), List.append_assoc]
    rfl
  · rw [if_neg c2] at hl ⊢
    simp only [decide_eq_false c2, cond_false, f63_w2N]
    rw [loop _ (fun nx n l => by simp only [f63_w2B, f63_w2b0N, f63_w2b0, PV.els]; rfl) _ (by simpa only [List.nil_append] using hl)]
    rfl
theorem spec_Flat (v : Val) (hv : v.Sm) : Ult fun k => ∀ ret, G27 k v.pv ret = ret (.list (pvI v.flat)) :=
  Ult.succ ((spec_flat v hv).mono fun k h ret => by
    have := Val.flat_len v
    simp only [Val.Sm] at hv
    simp only [G27, f27_N, f27_e]
    rw [h _ _ (by simp; omega)]; rfl)
theorem spec_Len (v : Val) (hv : v.Sm) : Ult fun k => ∀ ret, G23 k v.pv ret = ret (v.flat.length : Int) :=
  Ult.succ ((spec_Flat v hv).mono fun k h ret => by
    simp only [G23, f23_N, f23_e, h, PV.els, pvI_len])

end Go.Proofs.Ytbellpoahhhmhaa
