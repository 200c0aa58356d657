/- The printed functions of package rank, and those that they call, come to what they should. -/
import Derived.Test.YtbmhbnkejgjfdaaRank
set_option linter.unusedSimpArgs false
namespace Go.Proofs.Ytbmhbnkejgjfdaa
open Go Go.X

theorem spec_isNaN : Ult fun k => ∀ n ret, G45 k n ret = ret false :=
  Ult.succ (Ult.of fun k n ret => by simp [G45, f45_N, f45_e])
theorem spec_isNaNb : Ult fun k => ∀ n ret, G46 k n ret = ret false :=
  Ult.succ (Ult.of fun k n ret => by simp [G46, f46_N, f46_e])
theorem spec_cmp : Ult fun k => ∀ a b ret, G35 k a b ret = ret (c3 a b) :=
  Ult.succ (spec_isNaN.mono fun k h a b ret => by
    simp only [G35, f35_N, f35_e, h, cond_false, c3]
    by_cases h1 : a < b <;> by_cases h2 : b < a <;> simp [h1, h2])
theorem spec_cmpb : Ult fun k => ∀ a b ret, G36 k a b ret = ret (c3 a b) :=
  Ult.succ (spec_isNaNb.mono fun k h a b ret => by
    simp only [G36, f36_N, f36_e, h, cond_false, c3]
    by_cases h1 : a < b <;> by_cases h2 : b < a <;> simp [h1, h2])

theorem take_min {α : Type} (m : Int) (hm : 0 ≤ m) (L : List α) : List.take (if (L.length : Int) < m then (L.length : Int) else m).toNat L = List.take m.toNat L := by
  split
  · rename_i h
    rw [List.take_of_length_le (by omega), List.take_of_length_le (by omega)]
  · rfl
theorem chk_min {α : Type} (m : Int) (hm : 0 ≤ m) (L : List α) : (decide ((0 : Int) ≤ (if (L.length : Int) < m then (L.length : Int) else m)) && decide ((if (L.length : Int) < m then (L.length : Int) else m) ≤ (L.length : Int))) = true := by
  simp only [Bool.and_eq_true, decide_eq_true_eq]
  split <;> omega

theorem spec_Kids : Ult fun k => ∀ (v : Val) ret, G37 k v.pv ret = ret (.list (v.kids.map Val.pv)) :=
  Ult.succ (Ult.of fun k v ret => by
    simp only [G37, f37_N, f37_e, Val.fld0, Val.fld2, PV.num, PV.els, Val.kids, Val.ar]
    generalize v.kind = kd
    generalize v.kidl = l
    have t0 := take_min 0 (by omega) l
    have t1 := take_min 1 (by omega) l
    have t2 := take_min 2 (by omega) l
    have c0 := chk_min 0 (by omega) l
    have c1 := chk_min 1 (by omega) l
    have c2 := chk_min 2 (by omega) l
    by_cases h3 : kd = 3
    · simp [h3, c2, t2, ← List.map_take]
    by_cases h4 : kd = 4
    · simp [h4, c1, t1, ← List.map_take]
    by_cases h5 : kd = 5
    · simp [h5, c1, t1, ← List.map_take]
    by_cases h7 : kd = 7
    · simp [h7, c1, t1, ← List.map_take]
    by_cases h6 : kd = 6
    · simp [h6, List.take_of_length_le]
    · simp [h3, h4, h5, h7, h6, c0, t0, ← List.map_take])

theorem getD_pv {ks : List Val} {i : Nat} (h : i < ks.length) : List.getD (ks.map Val.pv) ((i : Int)).toNat PV.nil = (ks[i]).pv := by
  simp [List.getD, h]
theorem wrap_succ {i : Nat} (h : i < 1099511627777) : IntKind.wrap .i64 ((i : Int) + 1) = ((i + 1 : Nat) : Int) := by
  rw [wrap_i64] <;> omega
theorem drop_cons {α : Type} {ks : List α} {i : Nat} (h : i < ks.length) : ks.drop i = ks[i] :: ks.drop (i + 1) := by
  rw [List.drop_eq_getElem_cons h]

theorem flat_loop (k : Nat) (c37 : PV → (PV → R) → R) (c47 : PV → List PV → (List PV → R) → R) (ret : List PV → R) (ks : List Val) (hk : ks.length ≤ 274877906944) (body : (Int × List PV → R) → Int × List PV → R)
    (hbody : ∀ nx n l, body nx (n, l) = bif (decide (n < (List.length (PV.els (.list (ks.map Val.pv))) : Int))) then
      bif (true && decide ((0 : Int) ≤ n) && decide (n < (List.length (PV.els (.list (ks.map Val.pv))) : Int))) then
        c47 (List.getD (PV.els (.list (ks.map Val.pv))) n.toNat PV.nil) l fun l => nx (IntKind.wrap .i64 (n + (1 : Int)), l)
      else none
    else ret l)
    (hc : ∀ x ∈ ks, ∀ acc r, acc.length + x.flat.length ≤ 35184372088832 → c47 x.pv acc r = r (acc ++ x.flat.map .int)) :
    ∀ (n i : Nat) (acc : List PV), i ≤ ks.length → ks.length < n + i → acc.length + ((ks.drop i).flatMap Val.flat).length ≤ 35184372088832 → loopR body n ((i : Int), acc) = ret (acc ++ ((ks.drop i).flatMap Val.flat).map .int)
  | 0, i, acc, h1, h2, h3 => by omega
  | n + 1, i, acc, h1, h2, h3 => by
    unfold loopR
    rw [hbody]
    simp only [PV.els, List.length_map]
    by_cases hi : i < ks.length
    · rw [drop_cons hi] at h3 ⊢
      simp only [List.flatMap_cons, List.length_append] at h3
      rw [decide_eq_true (show (i : Int) < (ks.length : Int) by omega), decide_eq_true (show (0 : Int) ≤ (i : Int) by omega), getD_pv hi]
      simp only [Bool.and_self, cond_true]
      rw [hc _ (List.getElem_mem hi) acc _ (by omega), wrap_succ (by omega)]
      rw [flat_loop k c37 c47 ret ks hk body hbody hc n (i + 1) _ (by omega) (by omega) (by simp only [List.length_append, List.length_map]; omega)]
      simp only [List.flatMap_cons, List.map_append, List.append_assoc]
    · have : i = ks.length := by omega
      subst this
      simp

theorem spec_flat (v : Val) : v.Sm → Ult fun k => ∀ (acc : List PV) ret, acc.length + v.flat.length ≤ 35184372088832 → G47 k v.pv acc ret = ret (acc ++ v.flat.map .int) := by
  refine Val.ind (p := fun v => v.Sm → Ult fun k => ∀ (acc : List PV) ret, acc.length + v.flat.length ≤ 35184372088832 → G47 k v.pv acc ret = ret (acc ++ v.flat.map .int)) (fun kd b l ih hsm => ?_) v
  have hall : Ult fun k => ∀ x ∈ l, ∀ (acc : List PV) ret, acc.length + x.flat.length ≤ 35184372088832 → G47 k x.pv acc ret = ret (acc ++ x.flat.map .int) :=
    Ult.forall_mem fun x hx => ih x hx (Val.Sm.kid hsm hx)
  refine Ult.succ ((hall.and (spec_Kids.and (Ult.ge (l.length + 1)))).mono fun k ⟨h1, h2, h3⟩ acc ret hacc => ?_)
  have hkl : (Val.mk kd b l).kids.length ≤ l.length := Val.kids_length _
  have hlen : l.length ≤ 274877906944 := hsm.length
  rw [Val.flat_eq] at hacc ⊢
  have hc : ∀ x ∈ (Val.mk kd b l).kids, ∀ (acc : List PV) ret, acc.length + x.flat.length ≤ 35184372088832 → G47 k x.pv acc ret = ret (acc ++ x.flat.map .int) := fun x hx => h1 x (Val.mem_kidl hx)
  simp only [G47, f47_N, f47_e, Val.fld0, Val.fld1, PV.num, h2]
  by_cases h : (Val.mk kd b l).kind = 2
  · rw [if_pos h] at hacc ⊢
    simp only [List.length_append, List.length_cons, List.length_nil] at hacc
    rw [decide_eq_true h, roomy_of (by simp; omega) (by simp; omega)]
    simp only [Bool.and_self, cond_true, f47_w1N]
    have := flat_loop k (G37 k) (G47 k) ret (Val.mk kd b l).kids (by omega) (f47_w1B k (G37 k) (G47 k) ret (.list ((Val.mk kd b l).kids.map Val.pv))) (fun nx n l => rfl) hc k 0 (acc ++ [PV.int (Val.mk kd b l).byte]) (by omega) (by omega) (by simp only [List.drop_zero, List.length_append, List.length_cons, List.length_nil]; omega)
    refine Eq.trans this ?_
    simp
  · rw [if_neg h] at hacc ⊢
    rw [decide_eq_false h]
    simp only [cond_false, f47_w2N]
    have := flat_loop k (G37 k) (G47 k) ret (Val.mk kd b l).kids (by omega) (f47_w2B k (G37 k) (G47 k) ret (.list ((Val.mk kd b l).kids.map Val.pv))) (fun nx n l => rfl) hc k 0 acc (by omega) (by omega) (by simpa using hacc)
    refine Eq.trans this ?_
    simp

theorem spec_Len (v : Val) (hv : v.Sm) : Ult fun k => ∀ ret, G15 k v.pv ret = ret v.len := by
  have h1 : Ult fun k => ∀ ret, G38 k v.pv ret = ret (.list (v.flat.map .int)) :=
    Ult.succ ((spec_flat v hv).mono fun k h ret => by
      have := Val.flat_len_le v
      simp only [Val.Sm] at hv
      simp only [G38, f38_N, f38_e]
      rw [h [] _ (by simp; omega)]
      simp)
  exact Ult.succ (h1.mono fun k h ret => by
    simp only [G15, f15_N, f15_e, h, PV.els, List.length_map]
    rfl)

end Go.Proofs.Ytbmhbnkejgjfdaa
