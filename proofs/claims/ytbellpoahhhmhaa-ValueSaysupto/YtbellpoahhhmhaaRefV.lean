/- The document's own values: the printed functions of package catchpoleref8 that tell their bytes, texts, sizes, and which are of which cores. -/
import Derived.Test.YtbellpoahhhmhaaRefC
import Derived.Test.YtbellpoahhhmhaaCntV
import Derived.Test.YtbellpoahhhmhaaValL
set_option linter.unusedSimpArgs false
set_option linter.unusedVariables false
set_option maxRecDepth 20000
namespace Go.Proofs.Ytbellpoahhhmhaa
open Go Go.X

theorem kids_none {v : Val} (h : Val.ar v.kind v.kidl.length = 0) : v.kids = [] := by unfold Val.kids; rw [h, List.take_zero]
theorem spec_rFlat (v : Val) : v.Sm → Ult fun k => ∀ ret, G36 k v.pv ret = ret (.list (pvI v.flat)) := by
  refine Val.ind (p := fun v => v.Sm → Ult fun k => ∀ ret, G36 k v.pv ret = ret (.list (pvI v.flat))) (fun kd b xs ih hsm => ?_) v
  have hall : Ult fun k => ∀ x ∈ (Val.mk kd b xs).kids, ∀ ret, G36 k x.pv ret = ret (.list (pvI x.flat)) :=
    Ult.forall_mem fun x hx => ih x (Val.mem_kidl (v := Val.mk kd b xs) hx) (Val.Sm.kid hsm (Val.mem_kidl hx))
  refine Ult.succ ((hall.and (spec_counts.and (Ult.ge (xs.length + 1)))).mono fun k ⟨h1, h2, h4⟩ ret => ?_)
  have hkl : (Val.mk kd b xs).kids.length ≤ xs.length := Val.kids_length _
  have hlen : xs.length ≤ 274877906944 := hsm.length
  have hf := Val.flat_len (Val.mk kd b xs)
  simp only [Val.Sm] at hsm
  generalize Val.mk kd b xs = v at *
  rw [Val.flat_eq] at hf ⊢
  simp only [G36, f36_N, f36_e, Val.fld0, Val.fld1, PV.num, h2]
  by_cases c2 : v.kind = 2
  · rw [if_pos c2, kids_none (by rw [c2]; rfl)]
    simp only [decide_eq_true c2, cond_true]
    rfl
  · rw [if_neg c2] at hf ⊢
    simp only [List.nil_append] at hf ⊢
    simp only [decide_eq_false c2, cond_false, f36_w1N]
    have := vup (body := f36_w1B k (G36 k) (G69 k) ret (.list (v.kids.map Val.pv))) (fun (i : Nat) (l : List PV) => ((i : Int), l)) (fun i l => l.length + ((v.kids.drop i).flatMap Val.flat).length ≤ 35184372088832) (res := fun i l => ret (.list (l ++ pvI ((v.kids.drop i).flatMap Val.flat)))) v.kids.length ?_ ?_ k 0 [] (by simp only [List.length_nil, List.drop_zero]; omega) (by omega) (by omega)
    · exact this
    · intro nx l _
      simp only [f36_w1B, f36_w1b0N, f36_w1b0, PV.els, List.length_map, decide_eq_false (show ¬ (v.kids.length : Int) < (v.kids.length : Int) by omega), cond_false, List.drop_length]
      simp [pvI]
    · intro i hi nx l hl hnx
      rw [drop_cons hi, List.flatMap_cons] at hl ⊢
      simp only [List.length_append] at hl
      simp only [f36_w1B, f36_w1b0N, f36_w1b0, PV.els, List.length_map, decide_eq_true (show (i : Int) < (v.kids.length : Int) by omega), decide_eq_true (show (0 : Int) ≤ (i : Int) by omega), Bool.and_self, cond_true, getD_pv hi, wrap_succ (show i < 1099511627777 by omega)]
      rw [h1 _ (List.getElem_mem hi)]
      simp only [PV.els, pvI_len]
      rw [roomy_of (by omega) (by omega)]
      simp only [Bool.and_self, cond_true]
      refine (hnx _ (by simp only [List.length_append, pvI_len]; omega)).trans ?_
      rw [List.append_assoc, pvI_app]

theorem rhex_ok : ∀ b : Fin 256, (decide ((0 : Int) ≤ (IntKind.wrap .u8 (Int.tdiv (b.1 : Int) 16))) && decide ((IntKind.wrap .u8 (Int.tdiv (b.1 : Int) 16)) ≤ (IntKind.wrap .u8 ((IntKind.wrap .u8 (Int.tdiv (b.1 : Int) 16)) + (1 : Int)))) && decide ((IntKind.wrap .u8 ((IntKind.wrap .u8 (Int.tdiv (b.1 : Int) 16)) + (1 : Int))) ≤ (List.length [48, 49, 50, 51, 52, 53, 54, 55, 56, 57, 97, 98, 99, 100, 101, 102] : Int))) = true
    ∧ (List.drop ((IntKind.wrap .u8 (Int.tdiv (b.1 : Int) 16))).toNat (List.take ((IntKind.wrap .u8 ((IntKind.wrap .u8 (Int.tdiv (b.1 : Int) 16)) + (1 : Int)))).toNat [48, 49, 50, 51, 52, 53, 54, 55, 56, 57, 97, 98, 99, 100, 101, 102])) = [dg ((b.1 : Int) / 16)]
    ∧ (decide ((0 : Int) ≤ (Int.tmod (b.1 : Int) 16)) && decide ((Int.tmod (b.1 : Int) 16) ≤ (IntKind.wrap .u8 ((Int.tmod (b.1 : Int) 16) + (1 : Int)))) && decide ((IntKind.wrap .u8 ((Int.tmod (b.1 : Int) 16) + (1 : Int))) ≤ (List.length [48, 49, 50, 51, 52, 53, 54, 55, 56, 57, 97, 98, 99, 100, 101, 102] : Int))) = true
    ∧ (List.drop ((Int.tmod (b.1 : Int) 16)).toNat (List.take ((IntKind.wrap .u8 ((Int.tmod (b.1 : Int) 16) + (1 : Int)))).toNat [48, 49, 50, 51, 52, 53, 54, 55, 56, 57, 97, 98, 99, 100, 101, 102])) = [dg ((b.1 : Int) % 16)] := by decide +kernel
theorem spec_rhex : Ult fun k => ∀ (b : Int) ret, 0 ≤ b ∧ b < 256 → G70 k b ret = ret (hexI b) :=
  Ult.succ (Ult.of fun k b ret hb => by
    obtain ⟨x1, x2, x3, x4⟩ := rhex_ok ⟨b.toNat, by omega⟩
    simp only [Int.toNat_of_nonneg hb.1] at x1 x2 x3 x4
    simp only [G70, f70_N, f70_e, x1, x2, x3, x4, cond_true]
    rfl)

theorem behind3 (v : Val) (h : v.kind = 3) : decide ((v.kids.length : Int) < 2) = decide (v.kidl.length < 2) := by
  have : v.kids.length = min 2 v.kidl.length := by unfold Val.kids; rw [h, List.length_take]; rfl
  rw [decide_eq_decide]; omega
theorem kids_out {v : Val} (h3 : ¬ v.kind = 3) (h4 : ¬ v.kind = 4) (h5 : ¬ v.kind = 5) (h6 : ¬ v.kind = 6) (h7 : ¬ v.kind = 7) : v.kids = [] := by
  refine kids_none ?_
  simp only [Val.ar, if_neg h3, if_neg h4, if_neg h5, if_neg h6, if_neg h7]
theorem spec_rText (v : Val) : v.Ok → v.Sm → Ult fun k => ∀ ret, G37 k v.pv ret = ret v.txt := by
  refine Val.ind (p := fun v => v.Ok → v.Sm → Ult fun k => ∀ ret, G37 k v.pv ret = ret v.txt) (fun kd b xs ih hok hsm => ?_) v
  have hall : Ult fun k => ∀ x ∈ (Val.mk kd b xs).kids, ∀ ret, G37 k x.pv ret = ret x.txt :=
    Ult.forall_mem fun x hx => ih x (Val.mem_kidl (v := Val.mk kd b xs) hx) (Val.Ok.kid hok (Val.mem_kidl hx)) (Val.Sm.kid hsm (Val.mem_kidl hx))
  refine Ult.succ ((hall.and (spec_counts.and (spec_rhex.and (Ult.ge (xs.length + 1))))).mono fun k ⟨h1, h2, h3, h4⟩ ret => ?_)
  have hkl : (Val.mk kd b xs).kids.length ≤ xs.length := Val.kids_length _
  have hlen : xs.length ≤ 274877906944 := hsm.length
  have hb : 0 ≤ (Val.mk kd b xs).byte ∧ (Val.mk kd b xs).byte < 256 := hok.2.1
  have ht := Val.txt_len (Val.mk kd b xs)
  simp only [Val.Sm] at hsm
  generalize Val.mk kd b xs = v at *
  rw [Val.txt_eq] at ht ⊢
  simp only [List.length_append] at ht
  simp only [G37, f37_N, f37_e, h2, f37_w1N]
  have r0 : restT v.kids [] 0 = Val.kidsT true v.kids := by simp [restT]
  have := vup (body := f37_w1B k (G37 k) (G69 k) (G70 k) ret v.pv (.list (v.kids.map Val.pv))) (fun (i : Nat) (s : List Int) => (s, (i : Int))) (fun i s => s ++ restT v.kids [] i = Val.kidsT true v.kids) (res := fun i s => ret (ahead v.kind v.byte ++ (Val.kidsT true v.kids ++ behind v.kind v.kidl.length))) v.kids.length ?_ ?_ k 0 [] (by rw [List.nil_append, r0]) (by omega) (by omega)
  · exact this
  · intro nx s hs
    rw [restT_end, List.append_nil] at hs
    subst hs
    simp only [f37_w1B, f37_w1b0N, f37_w1b0, Val.fld0, Val.fld1, PV.num, PV.els, List.length_map, decide_eq_false (show ¬ (v.kids.length : Int) < (v.kids.length : Int) by omega), cond_false]
    unfold ahead behind
    generalize hT : Val.kidsT true v.kids = T at *
    have hTl : T.length ≤ 1099511627776 := by omega
    by_cases c1 : v.kind = 1
    · have : T = [] := by rw [← hT, kids_none (by rw [c1]; rfl)]; rfl
      simp [c1, this]
    by_cases c2 : v.kind = 2
    · have : T = [] := by rw [← hT, kids_none (by rw [c2]; rfl)]; rfl
      simp only [decide_eq_false c1, decide_eq_true c2, cond_true, cond_false]
      rw [h3 _ _ hb, this, if_neg c1, if_pos c2, c2]
      simp
    by_cases c3 : v.kind = 3
    · simp only [decide_eq_false c1, decide_eq_false c2, decide_eq_true c3, cond_true, cond_false, behind3 v c3]
      rw [if_neg c1, if_neg c2, if_pos c3, if_pos c3]
      by_cases cl : v.kidl.length < 2
      · rw [decide_eq_true cl, if_pos cl]
        simp only [cond_true]
        rw [decide_eq_true (by simp; omega), decide_eq_true (by simp; omega), decide_eq_true (by simp; omega)]
        simp
      · rw [decide_eq_false cl, if_neg cl]
        simp only [cond_false]
        rw [decide_eq_true (by simp; omega), decide_eq_true (by simp; omega)]
        simp
    by_cases c4 : v.kind = 4
    · simp only [decide_eq_false c1, decide_eq_false c2, decide_eq_false c3, decide_eq_true c4, cond_true, cond_false]
      rw [decide_eq_true (by simp; omega)]
      simp [c4]
    by_cases c5 : v.kind = 5
    · simp only [decide_eq_false c1, decide_eq_false c2, decide_eq_false c3, decide_eq_false c4, decide_eq_true c5, cond_true, cond_false]
      rw [decide_eq_true (by simp; omega)]
      simp [c5]
    by_cases c6 : v.kind = 6
    · simp only [decide_eq_false c1, decide_eq_false c2, decide_eq_false c3, decide_eq_false c4, decide_eq_false c5, decide_eq_true c6, cond_true, cond_false]
      rw [decide_eq_true (by simp; omega), decide_eq_true (by simp; omega)]
      simp [c6]
    by_cases c7 : v.kind = 7
    · simp only [decide_eq_false c1, decide_eq_false c2, decide_eq_false c3, decide_eq_false c4, decide_eq_false c5, decide_eq_false c6, decide_eq_true c7, cond_true, cond_false]
      rw [decide_eq_true (by simp; omega), decide_eq_true (by simp; omega)]
      simp [c7]
    · have : T = [] := by rw [← hT, kids_out c3 c4 c5 c6 c7]; rfl
      simp [c1, c2, c3, c4, c5, c6, c7, this]
  · intro i hi nx s hs hnx
    have hsl : s.length + (restT v.kids [] i).length ≤ 1099511627776 := by
      have := congrArg List.length hs
      rw [List.length_append] at this; omega
    rw [restT_step hi] at hs hsl
    simp only [List.length_append] at hsl
    simp only [f37_w1B, f37_w1b0N, f37_w1b0, PV.els, List.length_map, decide_eq_true (show (i : Int) < (v.kids.length : Int) by omega), decide_eq_true (show (0 : Int) ≤ (i : Int) by omega), Bool.and_self, cond_true, getD_pv hi, wrap_succ (show i < 1099511627777 by omega)]
    by_cases h0 : 0 < i
    · simp only [if_pos h0, List.length_cons, List.length_nil] at hsl
      rw [if_pos h0] at hs
      rw [decide_eq_true (show (0 : Int) < (i : Int) by omega), cond_true, decide_eq_true (by simp; omega), cond_true, h1 _ (List.getElem_mem hi), decide_eq_true (by simp; omega)]
      exact hnx _ (by rw [← hs]; simp)
    · simp only [if_neg h0, List.length_nil] at hsl
      rw [if_neg h0] at hs
      rw [decide_eq_false (show ¬ (0 : Int) < (i : Int) by omega), cond_false, h1 _ (List.getElem_mem hi), decide_eq_true (by omega)]
      exact hnx _ (by rw [← hs]; simp)

theorem spec_rVSize (v : Val) : v.Sm → Ult fun k => ∀ ret, G38 k v.pv ret = ret (v.vsz : Int) := by
  refine Val.ind (p := fun v => v.Sm → Ult fun k => ∀ ret, G38 k v.pv ret = ret (v.vsz : Int)) (fun kd b xs ih hsm => ?_) v
  have hall : Ult fun k => ∀ x ∈ (Val.mk kd b xs).kids, ∀ ret, G38 k x.pv ret = ret (x.vsz : Int) :=
    Ult.forall_mem fun x hx => ih x (Val.mem_kidl (v := Val.mk kd b xs) hx) (Val.Sm.kid hsm (Val.mem_kidl hx))
  refine Ult.succ ((hall.and (spec_counts.and (Ult.ge (xs.length + 1)))).mono fun k ⟨h1, h2, h4⟩ ret => ?_)
  have hkl : (Val.mk kd b xs).kids.length ≤ xs.length := Val.kids_length _
  have hlen : xs.length ≤ 274877906944 := hsm.length
  have hz := Val.vsz_le (Val.mk kd b xs)
  simp only [Val.Sm] at hsm
  generalize Val.mk kd b xs = v at *
  rw [Val.vsz_eq] at hz ⊢
  simp only [G38, f38_N, f38_e, h2, f38_w1N]
  have := vup (body := f38_w1B k (G38 k) (G69 k) ret (.list (v.kids.map Val.pv))) (fun (i : Nat) (a : Nat) => ((a : Int), (i : Int))) (fun i a => a + ((v.kids.drop i).map Val.vsz).sum ≤ 274877906944) (res := fun i a => ret ((a + ((v.kids.drop i).map Val.vsz).sum : Nat) : Int)) v.kids.length ?_ ?_ k 0 1 (by simpa using (by omega : 1 + (v.kids.map Val.vsz).sum ≤ 274877906944)) (by omega) (by omega)
  · exact this
  · intro nx a ha
    simp only [f38_w1B, f38_w1b0N, f38_w1b0, PV.els, List.length_map, decide_eq_false (show ¬ (v.kids.length : Int) < (v.kids.length : Int) by omega), cond_false, List.drop_length, List.map_nil, List.sum_nil, Nat.add_zero]
  · intro i hi nx a ha hnx
    rw [drop_cons hi, List.map_cons, List.sum_cons] at ha ⊢
    simp only [f38_w1B, f38_w1b0N, f38_w1b0, PV.els, List.length_map, decide_eq_true (show (i : Int) < (v.kids.length : Int) by omega), decide_eq_true (show (0 : Int) ≤ (i : Int) by omega), Bool.and_self, cond_true, getD_pv hi, wrap_succ (show i < 1099511627777 by omega)]
    rw [h1 _ (List.getElem_mem hi), wrap_i64 (by omega) (by omega)]
    refine (hnx (a + v.kids[i].vsz) (by omega)).trans ?_
    congr 1; omega

theorem spec_rSame (v : Val) : v.Sm → ∀ w : Val, Ult fun k => ∀ ret, G39 k v.pv w.pv ret = ret (v.same w) := by
  refine Val.ind (p := fun v => v.Sm → ∀ w : Val, Ult fun k => ∀ ret, G39 k v.pv w.pv ret = ret (v.same w)) (fun kd b l ih hsm w => ?_) v
  obtain ⟨kd', b', l'⟩ := w
  have hlen : l.length ≤ 274877906944 := hsm.length
  have a0 : Ult fun k => ∀ x ∈ l, ∀ y ∈ l', ∀ ret, G39 k x.pv y.pv ret = ret (x.same y) :=
    Ult.forall_mem fun x hx => Ult.forall_mem fun y hy => ih x hx (Val.Sm.kid hsm hx) y
  refine Ult.succ ((a0.and (Ult.ge (l.length + 1))).mono fun k ⟨h, h2⟩ ret => ?_)
  simp only [G39, f39_N, f39_e, Val.fld0, Val.fld1, Val.fld2, PV.num, PV.els, List.length_map, Val.kind, Val.byte, Val.kidl, Val.same]
  by_cases c1 : kd = kd'
  · by_cases c2 : b = b'
    · simp only [decide_eq_true c1, decide_eq_true c2, Bool.not_true, beq_self_eq_true, cond_true, Bool.true_and]
      by_cases hl : l.length = l'.length
      · simp only [decide_eq_true (show (l.length : Int) = (l'.length : Int) by omega), Bool.not_true, cond_false, f39_w1N]
        have := loopR_up (body := f39_w1B k (G39 k) ret (Val.mk kd b l).pv (Val.mk kd' b' l').pv) (res := fun i => ret (Val.sames (l.drop i) (l'.drop i))) l.length ?_ ?_ k 0 (by omega) (by omega)
        · exact this
        · intro nx
          simp only [f39_w1B, f39_w1b0N, f39_w1b0, Val.fld2, Val.kidl, PV.els, List.length_map, decide_eq_false (show ¬ (l.length : Int) < (l.length : Int) by omega), cond_false]
          rw [List.drop_length, hl, List.drop_length]; rfl
        · intro i hi nx hnx
          have hi' : i < l'.length := by omega
          simp only [f39_w1B, f39_w1b0N, f39_w1b0, Val.fld2, Val.kidl, PV.els, List.length_map, decide_eq_true (show (i : Int) < (l.length : Int) by omega), decide_eq_true (show (i : Int) < (l'.length : Int) by omega), decide_eq_true (show (0 : Int) ≤ (i : Int) by omega), Bool.and_self, cond_true, getD_pv hi, getD_pv hi', wrap_succ (show i < 1099511627777 by omega)]
          rw [h _ (List.getElem_mem hi) _ (List.getElem_mem hi'), drop_cons hi, drop_cons hi', hnx]
          simp only [Val.sames]
          cases l[i].same l'[i] <;> rfl
      · simp only [decide_eq_false (show ¬ (l.length : Int) = (l'.length : Int) by omega), Bool.not_false, cond_true]
        refine congrArg ret ?_
        rw [Bool.eq_iff_iff]
        simp only [Bool.false_eq_true, false_iff]
        exact fun hs => hl (Val.sames_len l l' hs)
    · simp [c1, c2]
  · simp [c1]
end Go.Proofs.Ytbellpoahhhmhaa
