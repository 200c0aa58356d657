/- The printed functions of package bits that write a value's choices come to them. -/
import Derived.Test.YtbellpoahhhmhaaValK
import Derived.Test.YtbellpoahhhmhaaWr
set_option linter.unusedSimpArgs false
set_option linter.unusedVariables false
namespace Go.Proofs.Ytbellpoahhhmhaa
open Go Go.X

/-- What stands behind some of a value's items. -/
def restB (v : Val) (i : Nat) : List Int := Val.bitsK v.kind (v.kids.drop i) ++ (if v.kind = 6 then [49] else [])
theorem restB_step {v : Val} {i : Nat} (h : i < v.kids.length) : restB v i = ((if v.kind = 6 then [48] else []) ++ v.kids[i].bits) ++ restB v (i + 1) := by
  unfold restB Val.bitsK
  rw [drop_cons h, List.flatMap_cons, List.append_assoc]
theorem restB_end (v : Val) : restB v v.kids.length = if v.kind = 6 then [49] else [] := by
  unfold restB Val.bitsK; rw [List.drop_length]; rfl
theorem bits_rest (v : Val) : v.bits = (if v.kind = 4 then [48] else if v.kind = 5 then [49] else []) ++ restB v 0 := by
  rw [Val.bits_eq]; rfl

/-- A loop that writes the items. -/
theorem put_loop (k : Nat) (cW : List Int → List PV → (Int → PV → List PV → R) → R) (cP : PV → List PV → (List PV → R) → R) (ret : List PV → R) (v : Val) (hk : v.kids.length ≤ 274877906944)
    (body : (Int × List PV → R) → Int × List PV → R)
    (hbody : ∀ nx n l, body nx (n, l) = bif (decide (n < (List.length (v.kids.map Val.pv) : Int))) then
      bif (true && decide ((0 : Int) ≤ n) && decide (n < (List.length (v.kids.map Val.pv) : Int))) then
        bif (decide (v.kind = 6)) then
          cW [48] l fun _ _ l => cP (List.getD (v.kids.map Val.pv) n.toNat PV.nil) l fun l => nx (IntKind.wrap .i64 (n + (1 : Int)), l)
        else cP (List.getD (v.kids.map Val.pv) n.toNat PV.nil) l fun l => nx (IntKind.wrap .i64 (n + (1 : Int)), l)
      else none
    else bif (decide (v.kind = 6)) then cW [49] l fun _ _ l => ret l else ret l)
    (hW : ∀ s l r, l.length + s.length ≤ 35184372088832 → cW s l r = r (s.length : Int) PV.nil (l ++ pvI s))
    (hP : ∀ x ∈ v.kids, ∀ l r, l.length + x.bits.length ≤ 35184372088832 → cP x.pv l r = r (l ++ pvI x.bits)) :
    ∀ (n i : Nat) (l : List PV), l.length + (restB v i).length ≤ 35184372088832 → i ≤ v.kids.length → v.kids.length < n + i → loopR body n ((i : Int), l) = ret (l ++ pvI (restB v i)) := by
  refine vup (fun (i : Nat) (l : List PV) => ((i : Int), l)) (fun i l => l.length + (restB v i).length ≤ 35184372088832) (res := fun i l => ret (l ++ pvI (restB v i))) v.kids.length ?_ ?_
  · intro nx l hl
    rw [hbody, List.length_map, decide_eq_false (by omega), restB_end]
    rw [restB_end] at hl
    by_cases h6 : v.kind = 6
    · rw [if_pos h6] at hl ⊢
      simp only [decide_eq_true h6, cond_true, cond_false]
      rw [hW _ _ _ hl]
    · rw [if_neg h6]
      simp only [decide_eq_false h6, cond_false, pvI, List.map_nil, List.append_nil]
  · intro i hi nx l hl hnx
    rw [hbody, List.length_map, decide_eq_true (show (i : Int) < (v.kids.length : Int) by omega), decide_eq_true (show (0 : Int) ≤ (i : Int) by omega), getD_pv hi, wrap_succ (by omega)]
    rw [restB_step hi] at hl ⊢
    simp only [Bool.and_self, cond_true]
    by_cases h6 : v.kind = 6
    · simp only [h6, decide_true, cond_true, if_true, List.length_append, List.length_cons, List.length_nil] at hl ⊢
      rw [hW _ _ _ (by simp; omega), hP _ (List.getElem_mem hi) _ _ (by simp [pvI]; omega), hnx _ (by simp [pvI]; omega)]
      simp [pvI]
    · simp only [if_neg h6, List.nil_append, List.length_append] at hl ⊢
      simp only [decide_eq_false h6, cond_false]
      rw [hP _ (List.getElem_mem hi) _ _ (by omega), hnx _ (by simp [pvI]; omega)]
      simp [pvI]

theorem spec_putu (v : Val) : v.Sm → Ult fun k => ∀ (l : List PV) ret, l.length + v.bits.length ≤ 35184372088832 → G74v1 k v.pv l ret = ret (l ++ pvI v.bits) := by
  refine Val.ind (p := fun v => v.Sm → Ult fun k => ∀ (l : List PV) ret, l.length + v.bits.length ≤ 35184372088832 → G74v1 k v.pv l ret = ret (l ++ pvI v.bits)) (fun kd b xs ih hsm => ?_) v
  have hall : Ult fun k => ∀ x ∈ (Val.mk kd b xs).kids, ∀ (l : List PV) ret, l.length + x.bits.length ≤ 35184372088832 → G74v1 k x.pv l ret = ret (l ++ pvI x.bits) :=
    Ult.forall_mem fun x hx => ih x (Val.mem_kidl (v := Val.mk kd b xs) hx) (Val.Sm.kid hsm (Val.mem_kidl hx))
  refine Ult.succ ((hall.and (spec_Kids.and (spec_WSu.and (Ult.ge (xs.length + 1))))).mono fun k ⟨h1, h2, h3, h4⟩ l ret hl => ?_)
  have hkl : (Val.mk kd b xs).kids.length ≤ xs.length := Val.kids_length _
  have hlen : xs.length ≤ 274877906944 := hsm.length
  generalize Val.mk kd b xs = v at *
  rw [bits_rest] at hl ⊢
  simp only [G74v1, f74v1_N, f74v1_e, Val.fld0, PV.num, h2]
  by_cases c4 : v.kind = 4
  · rw [if_pos c4, List.length_append] at hl
    rw [if_pos c4]
    simp only [decide_eq_true c4, cond_true, f74v1_w1N]
    rw [h3 _ _ _ (by simp only [List.length_cons, List.length_nil] at hl ⊢; omega)]
    refine (put_loop k (G82v1 k) (G74v1 k) ret v (by omega) (f74v1_w1B k (G59 k) (G74v1 k) (G82v1 k) ret v.pv (.list (v.kids.map Val.pv))) (fun nx n l => by
      simp only [f74v1_w1B, f74v1_w1b0N, f74v1_w1b0, Val.fld0, PV.num, PV.els]; rfl) h3 h1 k 0 _ (by simp only [List.length_append, pvI_len, List.length_cons, List.length_nil] at hl ⊢; omega) (by omega) (by omega)).trans ?_
    simp [pvI]
  · by_cases c5 : v.kind = 5
    · rw [if_neg c4, if_pos c5, List.length_append] at hl
      rw [if_neg c4, if_pos c5]
      simp only [decide_eq_false c4, decide_eq_true c5, cond_true, cond_false, f74v1_w2N]
      rw [h3 _ _ _ (by simp only [List.length_cons, List.length_nil] at hl ⊢; omega)]
      refine (put_loop k (G82v1 k) (G74v1 k) ret v (by omega) (f74v1_w2B k (G59 k) (G74v1 k) (G82v1 k) ret v.pv (.list (v.kids.map Val.pv))) (fun nx n l => by
        simp only [f74v1_w2B, f74v1_w2b0N, f74v1_w2b0, Val.fld0, PV.num, PV.els]; rfl) h3 h1 k 0 _ (by simp only [List.length_append, pvI_len, List.length_cons, List.length_nil] at hl ⊢; omega) (by omega) (by omega)).trans ?_
      simp [pvI]
    · rw [if_neg c4, if_neg c5, List.nil_append] at hl
      rw [if_neg c4, if_neg c5, List.nil_append]
      simp only [decide_eq_false c4, decide_eq_false c5, cond_false, f74v1_w3N]
      exact put_loop k (G82v1 k) (G74v1 k) ret v (by omega) (f74v1_w3B k (G59 k) (G74v1 k) (G82v1 k) ret v.pv (.list (v.kids.map Val.pv))) (fun nx n l => by
        simp only [f74v1_w3B, f74v1_w3b0N, f74v1_w3b0, Val.fld0, PV.num, PV.els]; rfl) h3 h1 k 0 _ hl (by omega) (by omega)

theorem spec_putf (v : Val) : v.Sm → Ult fun k => ∀ (l : List PV) r0 r1, l.length + v.bits.length ≤ 35184372088832 → G74 k v.pv PV.nil l r0 r1 = if v.bits = [] then r1 PV.nil l else r0 (l ++ pvI v.bits) := by
  refine Val.ind (p := fun v => v.Sm → Ult fun k => ∀ (l : List PV) r0 r1, l.length + v.bits.length ≤ 35184372088832 → G74 k v.pv PV.nil l r0 r1 = if v.bits = [] then r1 PV.nil l else r0 (l ++ pvI v.bits)) (fun kd b xs ih hsm => ?_) v
  have hall : Ult fun k => ∀ x ∈ (Val.mk kd b xs).kids, ∀ (l : List PV) r0 r1, l.length + x.bits.length ≤ 35184372088832 → G74 k x.pv PV.nil l r0 r1 = if x.bits = [] then r1 PV.nil l else r0 (l ++ pvI x.bits) :=
    Ult.forall_mem fun x hx => ih x (Val.mem_kidl (v := Val.mk kd b xs) hx) (Val.Sm.kid hsm (Val.mem_kidl hx))
  have hall2 : Ult fun k => ∀ x ∈ (Val.mk kd b xs).kids, ∀ (l : List PV) ret, l.length + x.bits.length ≤ 35184372088832 → G74v1 k x.pv l ret = ret (l ++ pvI x.bits) :=
    Ult.forall_mem fun x hx => spec_putu x (Val.Sm.kid hsm (Val.mem_kidl hx))
  refine Ult.succ ((hall.and (hall2.and (spec_Kids.and (spec_WSu.and (spec_WSf.and (Ult.ge (xs.length + 1))))))).mono fun k ⟨h0, h1, h2, h3, h3f, h4⟩ l r0 r1 hl => ?_)
  have hkl : (Val.mk kd b xs).kids.length ≤ xs.length := Val.kids_length _
  have hlen : xs.length ≤ 274877906944 := hsm.length
  generalize Val.mk kd b xs = v at *
  rw [bits_rest] at hl ⊢
  simp only [G74, f74_N, f74_e, Val.fld0, PV.num, h2]
  by_cases c4 : v.kind = 4
  · rw [if_pos c4, List.length_append] at hl
    rw [if_pos c4, if_neg (by simp)]
    simp only [decide_eq_true c4, cond_true, f74_w1N]
    rw [h3f _ _ _ (by simp only [List.length_cons, List.length_nil] at hl ⊢; omega)]
    refine (put_loop k (G82v1 k) (G74v1 k) r0 v (by omega) (f74_w1B k (G59 k) (G74 k) (G74v1 k) (G82 k) (G82v1 k) r0 r1 v.pv (.list (v.kids.map Val.pv))) (fun nx n l => by
      simp only [f74_w1B, f74_w1b0N, f74_w1b0, Val.fld0, PV.num, PV.els]; rfl) h3 h1 k 0 _ (by simp only [List.length_append, pvI_len, List.length_cons, List.length_nil] at hl ⊢; omega) (by omega) (by omega)).trans ?_
    simp [pvI]
  · by_cases c5 : v.kind = 5
    · rw [if_neg c4, if_pos c5, List.length_append] at hl
      rw [if_neg c4, if_pos c5, if_neg (by simp)]
      simp only [decide_eq_false c4, decide_eq_true c5, cond_true, cond_false, f74_w2N]
      rw [h3f _ _ _ (by simp only [List.length_cons, List.length_nil] at hl ⊢; omega)]
      refine (put_loop k (G82v1 k) (G74v1 k) r0 v (by omega) (f74_w2B k (G59 k) (G74 k) (G74v1 k) (G82 k) (G82v1 k) r0 r1 v.pv (.list (v.kids.map Val.pv))) (fun nx n l => by
        simp only [f74_w2B, f74_w2b0N, f74_w2b0, Val.fld0, PV.num, PV.els]; rfl) h3 h1 k 0 _ (by simp only [List.length_append, pvI_len, List.length_cons, List.length_nil] at hl ⊢; omega) (by omega) (by omega)).trans ?_
      simp [pvI]
    · rw [if_neg c4, if_neg c5, List.nil_append] at hl
      rw [if_neg c4, if_neg c5, List.nil_append]
      simp only [decide_eq_false c4, decide_eq_false c5, cond_false, f74_w3N]
      have := vup (body := f74_w3B k (G59 k) (G74 k) (G74v1 k) (G82 k) (G82v1 k) r0 r1 v.pv (.list (v.kids.map Val.pv)))
        (fun (i : Nat) (a : Bool × List PV) => (match a with | (true, l) => .inl ((i : Int), PV.nil, l) | (false, l) => .inr ((i : Int), l) : Sum (Int × PV × List PV) (Int × List PV)))
        (fun i a => a.2.length + (restB v i).length ≤ 35184372088832) (res := fun i a => if a.1 = true ∧ restB v i = [] then r1 PV.nil a.2 else r0 (a.2 ++ pvI (restB v i))) v.kids.length ?_ ?_ k 0 (true, l) (by simpa using hl) (by omega) (by omega)
      · refine this.trans ?_
        simp
      · intro nx a ha
        obtain ⟨f, l⟩ := a
        rw [restB_end] at ha ⊢
        cases f with
        | true =>
          simp only [f74_w3B, f74_w3b0N, f74_w3b0, Sum.elim_inl, Val.fld0, PV.num, PV.els, List.length_map, decide_eq_false (show ¬ (v.kids.length : Int) < (v.kids.length : Int) by omega), cond_false]
          by_cases h6 : v.kind = 6
          · simp only [h6, if_true] at ha ⊢
            simp only [decide_true, cond_true]
            rw [h3f _ _ _ ha]
            simp
          · simp only [if_neg h6, decide_eq_false h6, cond_false]
            simp
        | false =>
          simp only [f74_w3B, f74_w3b1N, f74_w3b1, Sum.elim_inr, Val.fld0, PV.num, PV.els, List.length_map, decide_eq_false (show ¬ (v.kids.length : Int) < (v.kids.length : Int) by omega), cond_false]
          by_cases h6 : v.kind = 6
          · simp only [h6, if_true] at ha ⊢
            simp only [decide_true, cond_true]
            rw [h3 _ _ _ ha]
            simp
          · simp only [if_neg h6, decide_eq_false h6, cond_false]
            simp [pvI]
      · intro i hi nx a ha hnx
        obtain ⟨f, l⟩ := a
        have hu := fun l h => hnx (false, l) h
        have hf := fun l h => hnx (true, l) h
        simp only [Bool.false_eq_true, false_and, if_false, true_and] at hu hf
        have ha' := ha
        rw [restB_step hi] at ha ⊢
        simp only [List.length_append] at ha
        cases f with
        | true =>
          simp only [f74_w3B, f74_w3b0N, f74_w3b0, Sum.elim_inl, Val.fld0, PV.num, PV.els, List.length_map, decide_eq_true (show (i : Int) < (v.kids.length : Int) by omega), decide_eq_true (show (0 : Int) ≤ (i : Int) by omega), getD_pv hi, wrap_succ (show i < 1099511627777 by omega), Bool.and_self, cond_true]
          by_cases h6 : v.kind = 6
          · simp only [h6, if_true, List.length_cons, List.length_nil] at ha ⊢
            simp only [decide_true, cond_true]
            rw [h3f _ _ _ (by simp; omega), h1 _ (List.getElem_mem hi) _ _ (by simp [pvI]; omega)]
            refine (hu _ (by simp [pvI]; omega)).trans ?_
            simp [pvI]
          · simp only [if_neg h6, List.length_nil, List.nil_append] at ha ⊢
            simp only [decide_eq_false h6, cond_false]
            rw [h0 _ (List.getElem_mem hi) _ _ _ (by omega)]
            by_cases hb : v.kids[i].bits = []
            · rw [if_pos hb, hb]
              rw [hb] at ha
              refine (hf _ (by simpa using ha)).trans ?_
              simp
            · rw [if_neg hb]
              refine (hu _ (by simp [pvI]; omega)).trans ?_
              simp [hb, pvI]
        | false =>
          simp only [f74_w3B, f74_w3b1N, f74_w3b1, Sum.elim_inr, Val.fld0, PV.num, PV.els, List.length_map, decide_eq_true (show (i : Int) < (v.kids.length : Int) by omega), decide_eq_true (show (0 : Int) ≤ (i : Int) by omega), getD_pv hi, wrap_succ (show i < 1099511627777 by omega), Bool.and_self, cond_true]
          by_cases h6 : v.kind = 6
          · simp only [h6, if_true, List.length_cons, List.length_nil] at ha ⊢
            simp only [decide_true, cond_true]
            rw [h3 _ _ _ (by simp; omega), h1 _ (List.getElem_mem hi) _ _ (by simp [pvI]; omega)]
            refine (hu _ (by simp [pvI]; omega)).trans ?_
            simp [pvI]
          · simp only [if_neg h6, List.length_nil, List.nil_append] at ha ⊢
            simp only [decide_eq_false h6, cond_false]
            rw [h1 _ (List.getElem_mem hi) _ _ (by omega)]
            refine (hu _ (by simp [pvI]; omega)).trans ?_
            simp [pvI]

theorem spec_Put (v : Val) (hv : v.Sm) : Ult fun k => ∀ ret, G46 k v.pv ret = ret v.bits :=
  Ult.succ ((spec_putf v hv).mono fun k h ret => by
    have hb := Val.bits_len v
    simp only [Val.Sm] at hv
    simp only [G46, f46_N, f46_e, G61, G61v1]
    rw [h _ _ _ (by simp; omega)]
    split
    · rename_i h0; rw [h0]; rfl
    · rw [List.nil_append, pvI_num])
end Go.Proofs.Ytbellpoahhhmhaa
