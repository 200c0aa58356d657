/- The law EagerSays comes out true. -/
import Derived.Test.YtbmhbnkejgjfdaaEag
set_option linter.unusedSimpArgs false
set_option linter.unusedVariables false
namespace Go.Proofs.Ytbmhbnkejgjfdaa
open Go Go.X

theorem take_all {α : Type} (l : List α) : List.drop ((0 : Int)).toNat (List.take ((l.length : Int)).toNat l) = l := by simp
theorem spec_counts : Ult fun k => ∀ (v : Val) ret, G41 k v.pv ret = ret (.list (v.kids.map Val.pv)) :=
  Ult.succ (Ult.of fun k v ret => by
    simp only [G41, f41_N, f41_e, Val.fld0, Val.fld2, PV.num, PV.els, Val.kids, Val.ar]
    generalize v.kind = kd
    generalize v.kidl = l
    have ck : ∀ m : Nat, m ≤ l.length → (decide ((0 : Int) ≤ (0 : Int)) && decide ((0 : Int) ≤ (m : Int)) && decide ((m : Int) ≤ ((l.map Val.pv).length : Int))) = true := fun m h => by
      simp only [Bool.and_eq_true, decide_eq_true_eq, List.length_map]; omega
    have tk : ∀ m : Nat, List.drop ((0 : Int)).toNat (List.take ((m : Int)).toNat (l.map Val.pv)) = (l.take m).map Val.pv := fun m => by simp
    have full : (decide ((0 : Int) ≤ (0 : Int)) && decide ((0 : Int) ≤ ((l.map Val.pv).length : Int)) && decide (((l.map Val.pv).length : Int) ≤ ((l.map Val.pv).length : Int))) = true := by
      simp only [Bool.and_eq_true, decide_eq_true_eq]; omega
    have one : ∀ m : Nat, (bif decide (((l.map Val.pv).length : Int) < (m : Int)) then
        (bif (decide ((0 : Int) ≤ (0 : Int)) && decide ((0 : Int) ≤ ((l.map Val.pv).length : Int)) && decide (((l.map Val.pv).length : Int) ≤ ((l.map Val.pv).length : Int))) then ret (PV.list (List.drop ((0 : Int)).toNat (List.take (((l.map Val.pv).length : Int)).toNat (l.map Val.pv)))) else none)
        else bif (decide ((0 : Int) ≤ (0 : Int)) && decide ((0 : Int) ≤ (m : Int)) && decide ((m : Int) ≤ ((l.map Val.pv).length : Int))) then ret (PV.list (List.drop ((0 : Int)).toNat (List.take ((m : Int)).toNat (l.map Val.pv)))) else none) = ret (PV.list ((l.take m).map Val.pv)) := fun m => by
      by_cases h : (l.length : Int) < (m : Int)
      · rw [decide_eq_true (by rw [List.length_map]; exact h), full, take_all, List.take_of_length_le (l := l) (show l.length ≤ m by omega)]; rfl
      · rw [decide_eq_false (by rw [List.length_map]; exact h), ck m (by omega), tk m]; rfl
    by_cases h3 : kd = 3
    · simp only [h3, decide_true, cond_true, if_true]; exact one 2
    by_cases h4 : kd = 4
    · simp only [h4, show decide ((4 : Int) = 3) = false from rfl, show ¬ ((4 : Int) = 3) by decide, decide_true, cond_true, cond_false, if_true, if_false]; exact one 1
    by_cases h5 : kd = 5
    · simp only [h5, show decide ((5 : Int) = 3) = false from rfl, show decide ((5 : Int) = 4) = false from rfl, show ¬ ((5 : Int) = 3) by decide, show ¬ ((5 : Int) = 4) by decide, decide_true, cond_true, cond_false, if_true, if_false]; exact one 1
    by_cases h7 : kd = 7
    · simp only [h7, show decide ((7 : Int) = 3) = false from rfl, show decide ((7 : Int) = 4) = false from rfl, show decide ((7 : Int) = 5) = false from rfl, show ¬ ((7 : Int) = 3) by decide, show ¬ ((7 : Int) = 4) by decide, show ¬ ((7 : Int) = 5) by decide, decide_true, cond_true, cond_false, if_true, if_false]; exact one 1
    by_cases h6 : kd = 6
    · simp only [h6, show decide ((6 : Int) = 3) = false from rfl, show decide ((6 : Int) = 4) = false from rfl, show decide ((6 : Int) = 5) = false from rfl, show decide ((6 : Int) = 7) = false from rfl, show ¬ ((6 : Int) = 3) by decide, show ¬ ((6 : Int) = 4) by decide, show ¬ ((6 : Int) = 5) by decide, show ¬ ((6 : Int) = 7) by decide, decide_true, cond_true, cond_false, if_true, if_false, decide_eq_false (show ¬ ((l.map Val.pv).length : Int) < ((l.map Val.pv).length : Int) by omega), full, take_all]
      rw [List.take_length]
      rfl
    · simp only [decide_eq_false h3, decide_eq_false h4, decide_eq_false h5, decide_eq_false h7, decide_eq_false h6, cond_false, if_neg h3, if_neg h4, if_neg h5, if_neg h7, if_neg h6]; exact one 0)

theorem spec_valueOf (v : Val) : v.Sm → Ult fun k => ∀ ret, G33 k v.pv ret = ret v.pv := by
  refine Val.ind (p := fun v => v.Sm → Ult fun k => ∀ ret, G33 k v.pv ret = ret v.pv) (fun kd b l ih hsm => ?_) v
  have hall : Ult fun k => ∀ x ∈ l, ∀ ret, G33 k x.pv ret = ret x.pv := Ult.forall_mem fun x hx => ih x hx (Val.Sm.kid hsm hx)
  refine Ult.succ ((hall.and (Ult.ge (l.length + 2))).mono fun k ⟨h1, h2⟩ ret => ?_)
  have hlen : l.length ≤ 274877906944 := hsm.length
  simp only [G33, f33_N, f33_e, f33_w1N]
  have := vup (body := f33_w1B k (G33 k) ret (Val.mk kd b l).pv)
    (fun (i : Nat) (a : Unit) => (if i = 0 then .inl () else .inr ((i : Int), (l.take i).map Val.pv) : Sum Unit (Int × List PV))) (fun i a => True) (res := fun i a => ret (Val.mk kd b l).pv) l.length ?_ ?_ k 0 () trivial (by omega) (by omega)
  · exact this
  · intro nx a _
    by_cases h0 : l.length = 0
    · have : l = [] := List.length_eq_zero_iff.1 h0
      subst this
      simp only [List.length_nil, if_true, f33_w1B, f33_w1b0N, f33_w1b0, Sum.elim_inl, Val.fld0, Val.fld1, Val.fld2, PV.num, PV.els, Val.kidl, Val.kind, Val.byte, List.map_nil]
      rfl
    · rw [if_neg h0]
      simp only [f33_w1B, f33_w1b1N, f33_w1b1, Sum.elim_inr, Val.fld0, Val.fld1, Val.fld2, PV.num, PV.els, Val.kidl, Val.kind, Val.byte, List.length_map, decide_eq_false (show ¬ (l.length : Int) < (l.length : Int) by omega), cond_false, List.take_length]
      simp only [Val.pv, Val.pvs_eq]
  · intro i hi nx a _ hnx
    have hn := hnx () trivial
    rw [if_neg (show ¬ i + 1 = 0 by omega)] at hn
    by_cases h0 : i = 0
    · subst h0
      simp only [if_true, f33_w1B, f33_w1b0N, f33_w1b0, Sum.elim_inl, Val.fld2, PV.els, Val.kidl, List.length_map, decide_eq_true (show (0 : Int) < (l.length : Int) by omega), decide_eq_true (show (0 : Int) ≤ 0 by omega), Bool.and_self, cond_true]
      have e := getD_pv hi
      simp only [Int.natCast_zero] at e
      rw [e, h1 _ (List.getElem_mem hi)]
      rw [List.take_succ_eq_append_getElem hi] at hn
      simpa using hn
    · rw [if_neg h0]
      simp only [f33_w1B, f33_w1b1N, f33_w1b1, Sum.elim_inr, Val.fld2, PV.els, Val.kidl, List.length_map, decide_eq_true (show (i : Int) < (l.length : Int) by omega), decide_eq_true (show (0 : Int) ≤ (i : Int) by omega), Bool.and_self, cond_true, getD_pv hi, wrap_succ (show i < 1099511627777 by omega)]
      rw [h1 _ (List.getElem_mem hi), roomy_of (by simp; omega) (by simp; omega)]
      rw [List.take_succ_eq_append_getElem hi, List.map_append] at hn
      exact hn

theorem rbits_loop (k : Nat) (cB : PV → (List Int → R) → R) (ret : List Int → R) (v : Val) (hk : v.kids.length ≤ 274877906944)
    (body : (List Int × Int → R) → List Int × Int → R)
    (hbody : ∀ nx s n, body nx (s, n) = bif (decide (n < (List.length (v.kids.map Val.pv) : Int))) then
      bif (decide (v.kind = 6)) then
        bif (decide (List.length s + List.length [(48 : Int)] ≤ 4611686018427387904)) then
          bif (true && decide ((0 : Int) ≤ n) && decide (n < (List.length (v.kids.map Val.pv) : Int))) then
            cB (List.getD (v.kids.map Val.pv) n.toNat PV.nil) fun s7 => bif (decide (List.length (s ++ [48]) + List.length s7 ≤ 4611686018427387904)) then nx ((s ++ [48]) ++ s7, IntKind.wrap .i64 (n + (1 : Int))) else none
          else none
        else none
      else bif (true && decide ((0 : Int) ≤ n) && decide (n < (List.length (v.kids.map Val.pv) : Int))) then
        cB (List.getD (v.kids.map Val.pv) n.toNat PV.nil) fun s8 => bif (decide (List.length s + List.length s8 ≤ 4611686018427387904)) then nx (s ++ s8, IntKind.wrap .i64 (n + (1 : Int))) else none
      else none
    else bif (decide (v.kind = 6)) then bif (decide (List.length s + List.length [(49 : Int)] ≤ 4611686018427387904)) then ret (s ++ [49]) else none else ret s)
    (hP : ∀ x ∈ v.kids, ∀ r, cB x.pv r = r x.bits) :
    ∀ (n i : Nat) (s : List Int), s.length + (restB v i).length ≤ 4611686018427387904 → i ≤ v.kids.length → v.kids.length < n + i → loopR body n (s, (i : Int)) = ret (s ++ restB v i) := by
  refine vup (fun (i : Nat) (s : List Int) => (s, (i : Int))) (fun i s => s.length + (restB v i).length ≤ 4611686018427387904) (res := fun i s => ret (s ++ restB v i)) v.kids.length ?_ ?_
  · intro nx s hl
    rw [hbody, List.length_map, decide_eq_false (by omega), restB_end]
    rw [restB_end] at hl
    by_cases h6 : v.kind = 6
    · rw [if_pos h6] at hl ⊢
      simp only [decide_eq_true h6, cond_true, cond_false, decide_eq_true hl]
    · rw [if_neg h6]
      simp only [decide_eq_false h6, cond_false, List.append_nil]
  · intro i hi nx s hl hnx
    rw [hbody, List.length_map, decide_eq_true (show (i : Int) < (v.kids.length : Int) by omega), decide_eq_true (show (0 : Int) ≤ (i : Int) by omega), getD_pv hi, wrap_succ (by omega)]
    rw [restB_step hi] at hl ⊢
    simp only [Bool.and_self, cond_true]
    rw [hP _ (List.getElem_mem hi), hP _ (List.getElem_mem hi)]
    by_cases h6 : v.kind = 6
    · simp only [h6, decide_true, cond_true, if_true, List.length_append, List.length_cons, List.length_nil] at hl ⊢
      rw [decide_eq_true (by omega), decide_eq_true (by omega)]
      refine (hnx _ (by simp; omega)).trans ?_
      simp
    · simp only [if_neg h6, List.nil_append, List.length_append] at hl ⊢
      rw [decide_eq_false h6, decide_eq_true (show s.length + v.kids[i].bits.length ≤ 4611686018427387904 by omega)]
      refine (hnx _ (by simp; omega)).trans ?_
      simp

theorem spec_rBits (v : Val) : v.Sm → Ult fun k => ∀ ret, G34 k v.pv ret = ret v.bits := by
  refine Val.ind (p := fun v => v.Sm → Ult fun k => ∀ ret, G34 k v.pv ret = ret v.bits) (fun kd b xs ih hsm => ?_) v
  have hall : Ult fun k => ∀ x ∈ (Val.mk kd b xs).kids, ∀ ret, G34 k x.pv ret = ret x.bits :=
    Ult.forall_mem fun x hx => ih x (Val.mem_kidl (v := Val.mk kd b xs) hx) (Val.Sm.kid hsm (Val.mem_kidl hx))
  refine Ult.succ ((hall.and (spec_counts.and (Ult.ge (xs.length + 1)))).mono fun k ⟨h1, h2, h4⟩ ret => ?_)
  have hkl : (Val.mk kd b xs).kids.length ≤ xs.length := Val.kids_length _
  have hlen : xs.length ≤ 274877906944 := hsm.length
  have hb := Val.bits_len (Val.mk kd b xs)
  simp only [Val.Sm] at hsm
  generalize Val.mk kd b xs = v at *
  rw [bits_rest] at hb ⊢
  simp only [G34, f34_N, f34_e, Val.fld0, PV.num, h2]
  by_cases c4 : v.kind = 4
  · rw [if_pos c4] at hb ⊢
    simp only [List.length_append, List.length_cons, List.length_nil] at hb
    simp only [decide_eq_true c4, cond_true, f34_w1N]
    exact rbits_loop k (G34 k) ret v (by omega) (f34_w1B k (G34 k) (G41 k) ret v.pv (.list (v.kids.map Val.pv))) (fun nx s n => by
      simp only [f34_w1B, f34_w1b0N, f34_w1b0, Val.fld0, PV.num, PV.els]; rfl) h1 k 0 [48] (by simp; omega) (by omega) (by omega)
  · by_cases c5 : v.kind = 5
    · rw [if_neg c4, if_pos c5] at hb ⊢
      simp only [List.length_append, List.length_cons, List.length_nil] at hb
      simp only [decide_eq_false c4, decide_eq_true c5, cond_true, cond_false, f34_w2N]
      exact rbits_loop k (G34 k) ret v (by omega) (f34_w2B k (G34 k) (G41 k) ret v.pv (.list (v.kids.map Val.pv))) (fun nx s n => by
        simp only [f34_w2B, f34_w2b0N, f34_w2b0, Val.fld0, PV.num, PV.els]; rfl) h1 k 0 [49] (by simp; omega) (by omega) (by omega)
    · rw [if_neg c4, if_neg c5, List.nil_append] at hb ⊢
      simp only [decide_eq_false c4, decide_eq_false c5, cond_false, f34_w3N]
      exact (rbits_loop k (G34 k) ret v (by omega) (f34_w3B k (G34 k) (G41 k) ret v.pv (.list (v.kids.map Val.pv))) (fun nx s n => by
        simp only [f34_w3B, f34_w3b0N, f34_w3b0, Val.fld0, PV.num, PV.els]; rfl) h1 k 0 [] (by simp; omega) (by omega) (by omega)).trans (by rw [List.nil_append])

theorem spec_rEager (v w : Val) (hv : v.Sm) (hw : w.Sm) : Ult fun k => ∀ ret, G32 k v.pv w.pv ret = ret (cmpV v w) :=
  Ult.succ (((spec_rBits v hv).and (spec_rBits w hw)).mono fun k ⟨h1, h2⟩ ret => by
    simp only [G32, f32_N, f32_e, h1, h2]
    rw [lexLt_C]
    have hz := lexC_zero v.bits w.bits
    unfold cmpV
    rcases lexC_val v.bits w.bits with h | h | h
    · rw [h]; rfl
    · rw [decide_eq_false (by omega), decide_eq_true (hz.1 h), h]; rfl
    · rw [decide_eq_false (by omega), decide_eq_false (fun e => by have := hz.2 e; omega), h]; rfl)

theorem EagerSays.main (a b : Val) (l : List Val) (ha : a.Ok) (hb : b.Ok) (hl : Val.Oks l) (hs : a.size + b.size + (Val.sizes l + 1) ≤ 100000000) : ∃ k, G11 k a.pv b.pv (.list (l.map Val.pv)) (fun y => some ([.bool y], [])) = some ([.bool true], []) := by
  have sa : a.Sm := by simp only [Val.Sm]; omega
  have sb : b.Sm := by simp only [Val.Sm]; omega
  have sl : ∀ x ∈ l, x.Sm := fun x hx => by have := Val.size_le_of_mem hx; simp only [Val.Sm]; omega
  have hlen : l.length ≤ 1099511627776 := by have := Val.length_le_sizes l; omega
  have ba := Val.bits_len a
  have bb := Val.bits_len b
  have hw : Ult fun k => ∀ x ∈ l, ∀ ret, G24 k x.pv 20 ret = ret (x.wide 20) := Ult.forall_mem fun x hx => spec_wide x 20 (by omega)
  have hvo : Ult fun k => ∀ x ∈ l, ∀ ret, G33 k x.pv ret = ret x.pv := Ult.forall_mem fun x hx => spec_valueOf x (sl x hx)
  have hcm : Ult fun k => ∀ x ∈ l, ∀ y ∈ l, ∀ ret, G32 k x.pv y.pv ret = ret (cmpV x y) := Ult.forall_mem fun x hx => Ult.forall_mem fun y hy => spec_rEager x y (sl x hx) (sl y hy)
  refine Ult.get (Ult.succ ((spec_awake.and ((spec_wide a 30 (by omega)).and ((spec_wide b 30 (by omega)).and ((spec_ECmp a b sa sb).and ((spec_Apart a b sa sb).and ((spec_Best l sl hlen).and ((spec_valueOf a sa).and ((spec_valueOf b sb).and ((spec_rEager a b sa sb).and ((spec_rBits a sa).and ((spec_rBits b sb).and (hw.and (hvo.and (hcm.and (Ult.ge (l.length + a.size + b.size + 3)))))))))))))))).mono fun k ⟨h0, h1, h2, h3, h4, h5, h6, h7, h8, h9, h10, h11, h12, h13, h14⟩ => ?_))
  simp only [G11, f11_N, f11_e, h0, h1, h2, PV.els, List.length_map]
  cases a.wide 30
  case true => rfl
  cases b.wide 30
  case true => rfl
  simp only [Bool.not_true, cond_false, cond_true, beq_self_eq_true]
  rcases Bool.eq_false_or_eq_true (decide ((12 : Int) < (l.length : Int))) with hc | hc
  · rw [hc]; rfl
  rw [hc, cond_false, f11_w1N]
  have fin : ∀ q : Int, (l.length = 0 ∧ q = -1 ∨ 0 < l.length ∧ q = ((bst l 0 0 l : Nat) : Int)) → f11_w3N k (G23 k) (G24 k) (G25 k) (G27 k) (G31 k) (G32 k) (G33 k) (G34 k) (fun y => some ([.bool y], [])) a.pv b.pv (.list (l.map Val.pv)) q a.bits b.bits 0 = some ([.bool true], []) := by
    intro q hq
    have e1 : (decide (0 < l.length) == decide ((0 : Int) ≤ q)) = true := by
      rcases hq with ⟨h, rfl⟩ | ⟨h, rfl⟩
      · simp [h]
      · simp [h]
    have e2 : (bif ((!decide (0 < l.length)) == false) then some ([SV.bool (decide (((bst l 0 0 l : Nat) : Int) = q))], []) else some ([SV.bool true], [])) = (some ([SV.bool true], []) : R) := by
      rcases hq with ⟨h, rfl⟩ | ⟨h, rfl⟩
      · simp [h]
      · simp [h]
    have hz : a.bits = b.bits → apart a.bits b.bits = -1 := (apart_eq _ _).2
    simp only [f11_w3N]
    have := vup (body := f11_w3B k (G23 k) (G24 k) (G25 k) (G27 k) (G31 k) (G32 k) (G33 k) (G34 k) (fun y => some ([.bool y], [])) a.pv b.pv (.list (l.map Val.pv)) q a.bits b.bits) (fun (i : Nat) (_ : Unit) => (i : Int)) (fun i _ => apart a.bits b.bits = apartF a.bits b.bits i) (res := fun _ _ => some ([SV.bool true], [])) (min a.bits.length b.bits.length) ?_ ?_ k 0 () (apartF_zero _ _).symm (by omega) (by omega)
    · exact this
    · intro nx _ hI
      rw [apartF_end] at hI
      simp only [f11_w3B, f11_w3b0N, f11_w3b0, h3, h4, h5, h6, h7, h8, e1, beq_self_eq_true, decide_true, cond_true, e2]
      have hfin : (bif decide (a.bits = b.bits) then bif (decide (apart a.bits b.bits = -1) == true) then some ([SV.bool true], []) else some ([SV.bool false], []) else bif (decide (apart a.bits b.bits = ((min a.bits.length b.bits.length : Nat) : Int)) == true) then some ([SV.bool true], []) else some ([SV.bool false], [])) = (some ([SV.bool true], []) : R) := by
        by_cases h : a.bits = b.bits
        · rw [decide_eq_true h, hz h]; rfl
        · rw [decide_eq_false h]
          by_cases hL : a.bits.length = b.bits.length
          · rw [if_pos hL] at hI; exact absurd ((apart_eq _ _).1 hI) h
          · rw [if_neg hL] at hI; rw [hI]; simp
      by_cases hA : a.bits.length ≤ b.bits.length
      · rw [decide_eq_false (show ¬ ((min a.bits.length b.bits.length : Nat) : Int) < (a.bits.length : Int) by omega)]
        exact hfin
      · rw [decide_eq_true (show ((min a.bits.length b.bits.length : Nat) : Int) < (a.bits.length : Int) by omega), decide_eq_false (show ¬ ((min a.bits.length b.bits.length : Nat) : Int) < (b.bits.length : Int) by omega)]
        exact hfin
    · intro i hi nx _ hI hnx
      have i1 : i < a.bits.length := by omega
      have i2 : i < b.bits.length := by omega
      rw [apartF_step i1 i2] at hI
      simp only [f11_w3B, f11_w3b0N, f11_w3b0, h3, h4, h5, h6, h7, h8, e1, beq_self_eq_true, decide_true, cond_true, e2, decide_eq_true (show (i : Int) < (a.bits.length : Int) by omega), decide_eq_true (show (0 : Int) ≤ (i : Int) by omega), decide_eq_true (show (i : Int) < (b.bits.length : Int) by omega), Bool.and_self, getDI i1, getDI i2, wrap_succ (show i < 1099511627777 by omega)]
      by_cases h : a.bits[i] = b.bits[i]
      · rw [if_pos h] at hI
        simp only [decide_eq_true h, cond_true]
        exact hnx () hI
      · rw [if_neg h] at hI
        have hne : ¬ a.bits = b.bits := fun e => by
          have := hz e; omega
        simp only [decide_eq_false h, decide_eq_false hne, cond_false, hI, decide_true, beq_self_eq_true, cond_true]
  have := vup (body := f11_w1B k (G23 k) (G24 k) (G25 k) (G27 k) (G31 k) (G32 k) (G33 k) (G34 k) (fun y => some ([.bool y], [])) a.pv b.pv (.list (l.map Val.pv))) (fun (i : Nat) (b : Nat) => ((if i = 0 then (-1 : Int) else (b : Int)), (i : Int))) (fun i b => (b < l.length ∨ l.length = 0) ∧ bst l 0 0 l = bst l b i (l.drop i) ∧ (i = 0 → b = 0)) (res := fun i b => some ([SV.bool true], [])) l.length ?_ ?_ k 0 0 ⟨by omega, by simp, fun _ => rfl⟩ (by omega) (by omega)
  · exact this
  · intro nx c ⟨hc, he, _⟩
    rw [List.drop_length] at he
    simp only [bst] at he
    simp only [f11_w1B, f11_w1b0N, f11_w1b0, PV.els, List.length_map, decide_eq_false (show ¬ (l.length : Int) < (l.length : Int) by omega), cond_false, h6, h7, h9, h10]
    refine fin _ ?_
    by_cases h0 : l.length = 0
    · exact .inl ⟨h0, by rw [if_pos h0]⟩
    · exact .inr ⟨by omega, by rw [if_neg h0, he]⟩
  · intro i hi nx c ⟨hc, he, hz⟩ hnx
    have hc : c < l.length := by omega
    rw [drop_cons hi] at he
    have e : l.getD c l[i] = l[c] := by simp [List.getD, hc]
    have hn := fun (d : Nat) (h1 : d < l.length) h2 => hnx d ⟨.inl h1, h2, fun h => by omega⟩
    simp only [show ¬ i + 1 = 0 by omega, if_false] at hn
    simp only [f11_w1B, f11_w1b0N, f11_w1b0, PV.els, List.length_map, decide_eq_true (show (i : Int) < (l.length : Int) by omega), decide_eq_true (show (0 : Int) ≤ (i : Int) by omega), Bool.and_self, cond_true, getD_pv hi, wrap_succ (show i < 1099511627777 by omega)]
    rw [h11 _ (List.getElem_mem hi)]
    cases l[i].wide 20
    case true => rfl
    simp only [cond_false]
    by_cases h0 : i = 0
    · subst h0
      simp only [if_true, show (decide ((-1 : Int) < 0) == false) = false from rfl, cond_false]
      have hc0 : c = 0 := hz rfl
      subst hc0
      refine hn 0 hc ?_
      rw [he]
      simp only [bst, e]
      rw [if_neg (by rw [(lexC_zero _ _).2 rfl]; omega)]
    · simp only [if_neg h0, decide_eq_false (show ¬ (c : Int) < 0 by omega), beq_self_eq_true, cond_true, decide_eq_true (show (0 : Int) ≤ (c : Int) by omega), decide_eq_true (show (c : Int) < (l.length : Int) by omega), Bool.and_self, getD_pv hc]
      rw [h12 _ (List.getElem_mem hi), h12 _ (List.getElem_mem hc), h13 _ (List.getElem_mem hi) _ (List.getElem_mem hc)]
      simp only [bst, e] at he
      by_cases hq : cmpV l[i] l[c] < 0
      · rw [decide_eq_true hq]
        rw [if_pos (show lexC l[i].bits l[c].bits < 0 from hq)] at he
        exact hn i hi he
      · rw [decide_eq_false hq]
        rw [if_neg (show ¬ lexC l[i].bits l[c].bits < 0 from hq)] at he
        exact hn c hc he
end Go.Proofs.Ytbmhbnkejgjfdaa
