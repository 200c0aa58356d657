/- RankSays: the document's own words of rank come to the same. -/
import Derived.Test.YtbmhbnkejgjfdaaRankBestM
set_option linter.unusedSimpArgs false
set_option linter.unusedVariables false
namespace Go.Proofs.Ytbmhbnkejgjfdaa
open Go Go.X

theorem pv_mk (v : Val) : PV.agg [.int v.kind, .int v.byte, .list (v.kidl.map Val.pv)] = v.pv := by
  cases v; simp [Val.pv, Val.pvs_eq, Val.kind, Val.byte, Val.kidl]

theorem spec_valueOf (v : Val) : v.Sm → Ult fun k => ∀ ret, G22 k v.pv ret = ret v.pv := by
  refine Val.ind (p := fun v => v.Sm → Ult fun k => ∀ ret, G22 k v.pv ret = ret v.pv) (fun kd b l ih hsm => ?_) v
  have hall : Ult fun k => ∀ x ∈ l, ∀ ret, G22 k x.pv ret = ret x.pv := Ult.forall_mem fun x hx => ih x hx (Val.Sm.kid hsm hx)
  have hlen : l.length ≤ 274877906944 := hsm.length
  refine Ult.succ ((hall.and (Ult.ge (l.length + 2))).mono fun k ⟨h1, h2⟩ ret => ?_)
  have hpv : ∀ m : List Val, PV.agg [.int kd, .int b, .list (m.map Val.pv)] = (Val.mk kd b m).pv := fun m => by simp [Val.pv, Val.pvs_eq]
  simp only [G22, f22_N, f22_e, f22_w1N]
  -- the first item apart
  obtain ⟨k', rfl⟩ : ∃ k', k = k' + 1 := ⟨k - 1, by omega⟩
  unfold loopR
  simp only [f22_w1B, Sum.elim_inl, f22_w1b0N, f22_w1b0, Val.fld0, Val.fld1, Val.fld2, PV.num, PV.els, List.length_map, Val.kind, Val.byte, Val.kidl]
  by_cases h0 : 0 < l.length
  · have gd := getD_nth (l := l) (i := 0) h0
    rw [decide_eq_true (show (0 : Int) < (l.length : Int) by omega), show List.getD (l.map Val.pv) ((0 : Int)).toNat PV.nil = (nth l 0).pv from gd]
    simp only [decide_true, Bool.and_self, cond_true]
    rw [h1 _ (nth_mem h0)]
    have := loopR_upE (A := Unit) (S := Sum Unit (Int × List PV)) (body := f22_w1B (k' + 1) (G22 (k' + 1)) ret (Val.mk kd b l).pv) (fun i _ => .inr ((i : Int), (l.take i).map Val.pv))
      (res := fun _ _ => ret (Val.mk kd b l).pv) l.length ?_ ?_ k' 1 () (by omega) (by omega)
    · have e1 : (l.take 1).map Val.pv = [(nth l 0).pv] := by
        cases l with
        | nil => simp at h0
        | cons a l => rfl
      rw [e1] at this
      exact this
    · intro nx _
      simp only [f22_w1B, Sum.elim_inr, f22_w1b1N, f22_w1b1, Val.fld0, Val.fld1, Val.fld2, PV.num, PV.els, List.length_map, Val.kind, Val.byte, Val.kidl]
      rw [decide_eq_false (show ¬ ((l.length : Int) < (l.length : Int)) by omega), List.take_of_length_le (Nat.le_refl _), hpv]
      rfl
    · intro i hi nx _ hnx
      simp only [f22_w1B, Sum.elim_inr, f22_w1b1N, f22_w1b1, Val.fld0, Val.fld1, Val.fld2, PV.num, PV.els, List.length_map, Val.kind, Val.byte, Val.kidl]
      rw [decide_eq_true (show (i : Int) < (l.length : Int) by omega), decide_eq_true (show (0 : Int) ≤ (i : Int) by omega), getD_nth hi]
      simp only [Bool.and_self, cond_true]
      rw [h1 _ (nth_mem hi), roomy_of (by simp only [List.length_map, List.length_take, List.length_cons, List.length_nil]; omega) (by simp only [List.length_map, List.length_take, List.length_cons, List.length_nil]; omega), wrap_succ (by omega)]
      have hn := hnx ()
      rw [List.take_add_one, List.getElem?_eq_getElem hi, List.map_append] at hn
      simp only [Bool.and_self, cond_true]
      rw [nth_eq hi]
      exact hn
  · have : l = [] := List.length_eq_zero_iff.1 (by omega)
    subst this
    have := hpv []
    simp only [List.map_nil] at this
    simp [this]

theorem spec_counts : Ult fun k => ∀ (v : Val) ret, G41 k v.pv ret = ret (.list (v.kids.map Val.pv)) :=
  Ult.succ (Ult.of fun k v ret => by
    simp only [G41, f41_N, f41_e, Val.fld0, Val.fld2, PV.num, PV.els, Val.kids, Val.ar]
    generalize v.kind = kd
    generalize v.kidl = l
    have key : ∀ m : Nat, (bif (decide ((List.length (l.map Val.pv) : Int) < (m : Int))) then
        bif (decide ((0 : Int) ≤ (0 : Int)) && decide ((0 : Int) ≤ (List.length (l.map Val.pv) : Int)) && decide ((List.length (l.map Val.pv) : Int) ≤ (List.length (l.map Val.pv) : Int))) then
          ret (PV.list (List.drop ((0 : Int)).toNat (List.take ((List.length (l.map Val.pv) : Int)).toNat (l.map Val.pv)))) else none
      else bif (decide ((0 : Int) ≤ (0 : Int)) && decide ((0 : Int) ≤ (m : Int)) && decide ((m : Int) ≤ (List.length (l.map Val.pv) : Int))) then
          ret (PV.list (List.drop ((0 : Int)).toNat (List.take ((m : Int)).toNat (l.map Val.pv)))) else none) = ret (.list ((l.take m).map Val.pv)) := by
      intro m
      by_cases h : (l.length : Int) < (m : Int)
      · simp [h, List.take_of_length_le (by omega : l.length ≤ m), List.take_of_length_le]
      · have h' : (m : Int) ≤ (l.length : Int) := by omega
        simp [h, h', List.map_take]
    by_cases h3 : kd = 3
    · simp only [h3, decide_true, cond_true, if_true]; exact key 2
    rw [decide_eq_false h3, if_neg h3]
    by_cases h4 : kd = 4
    · simp only [h4, decide_true, cond_true, cond_false, if_true]; exact key 1
    rw [decide_eq_false h4, if_neg h4]
    by_cases h5 : kd = 5
    · simp only [h5, decide_true, cond_true, cond_false, if_true]; exact key 1
    rw [decide_eq_false h5, if_neg h5]
    by_cases h7 : kd = 7
    · simp only [h7, decide_true, cond_true, cond_false, if_true]; exact key 1
    rw [decide_eq_false h7, if_neg h7]
    by_cases h6 : kd = 6
    · simp only [h6, decide_true, cond_true, cond_false, if_true]
      have := key l.length
      rw [← List.length_map (f := Val.pv)] at this
      simpa using this
    rw [decide_eq_false h6, if_neg h6]
    exact key 0)

theorem flatP (v : Val) : v.flat = if v.kind = 2 then [v.byte] else v.kids.flatMap Val.flat := by
  rw [Val.flat_eq]
  split
  · rename_i h
    have : v.kids = [] := by simp [Val.kids, Val.ar, h]
    simp [this]
  · simp

theorem spec_rFlat (v : Val) : v.Sm → Ult fun k => ∀ ret, G39 k v.pv ret = ret (.list (v.flat.map .int)) := by
  refine Val.ind (p := fun v => v.Sm → Ult fun k => ∀ ret, G39 k v.pv ret = ret (.list (v.flat.map .int))) (fun kd b l ih hsm => ?_) v
  have hall : Ult fun k => ∀ x ∈ l, ∀ ret, G39 k x.pv ret = ret (.list (x.flat.map .int)) := Ult.forall_mem fun x hx => ih x hx (Val.Sm.kid hsm hx)
  refine Ult.succ ((hall.and (spec_counts.and (Ult.ge (l.length + 1)))).mono fun k ⟨h1, h2, h3⟩ ret => ?_)
  have hkl : (Val.mk kd b l).kids.length ≤ l.length := Val.kids_length _
  have hlen : l.length ≤ 274877906944 := hsm.length
  have hfl := Val.flat_len_le (Val.mk kd b l)
  have hsm' : (Val.mk kd b l).size ≤ 274877906944 := hsm
  have hc : ∀ x ∈ (Val.mk kd b l).kids, ∀ ret, G39 k x.pv ret = ret (.list (x.flat.map .int)) := fun x hx => h1 x (Val.mem_kidl hx)
  rw [flatP] at hfl ⊢
  generalize Val.mk kd b l = v at *
  simp only [G39, f39_N, f39_e, Val.fld0, Val.fld1, PV.num, h2]
  by_cases h : v.kind = 2
  · rw [if_pos h, decide_eq_true h]; rfl
  · rw [if_neg h] at hfl ⊢
    rw [decide_eq_false h]
    simp only [cond_false, f39_w1N]
    have := loopR_upE (A := Unit) (body := f39_w1B k (G39 k) (G41 k) ret (.list (v.kids.map Val.pv))) (fun i _ => ((i : Int), ((v.kids.take i).flatMap Val.flat).map .int))
      (res := fun _ _ => ret (.list ((v.kids.flatMap Val.flat).map .int))) v.kids.length ?_ ?_ k 0 () (by omega) (by omega)
    · simpa using this
    · intro nx _
      simp only [f39_w1B, f39_w1b0N, f39_w1b0, PV.els, List.length_map]
      rw [decide_eq_false (by omega), List.take_of_length_le (Nat.le_refl _)]
      rfl
    · intro i hi nx _ hnx
      simp only [f39_w1B, f39_w1b0N, f39_w1b0, PV.els, List.length_map]
      rw [decide_eq_true (show (i : Int) < (v.kids.length : Int) by omega), decide_eq_true (show (0 : Int) ≤ (i : Int) by omega), getD_nth hi]
      simp only [Bool.and_self, cond_true]
      have hle : ((v.kids.take (i + 1)).flatMap Val.flat).length ≤ (v.kids.flatMap Val.flat).length := by
        have := congrArg (fun m => (List.flatMap Val.flat m).length) (List.take_append_drop (i + 1) v.kids)
        simp only [List.flatMap_append, List.length_append] at this
        omega
      have e : (v.kids.take (i + 1)).flatMap Val.flat = (v.kids.take i).flatMap Val.flat ++ (nth v.kids i).flat := by
        rw [List.take_add_one, List.getElem?_eq_getElem hi, nth_eq hi, List.flatMap_append]
        simp only [Option.toList, List.flatMap_cons, List.flatMap_nil, List.append_nil]
      rw [e, List.length_append] at hle
      rw [hc _ (nth_mem hi)]
      simp only [PV.els]
      rw [roomy_of (by simp only [List.length_map]; omega) (by simp only [List.length_map]; omega), wrap_succ (by omega)]
      have hn := hnx ()
      rw [e, List.map_append] at hn
      exact hn

theorem spec_sign : Ult fun k => ∀ b ret, G40 k b ret = ret (if b = true then -1 else 1) :=
  Ult.succ (Ult.of fun k b ret => by cases b <;> simp [G40, f40_N, f40_e])

theorem spec_rRank (v : Val) : v.Sm → ∀ w : Val, w.Sm → Ult fun k => ∀ ret, G21 k v.pv w.pv ret = ret (Val.rcmp v w) := by
  refine Val.ind (p := fun v => v.Sm → ∀ w : Val, w.Sm → Ult fun k => ∀ ret, G21 k v.pv w.pv ret = ret (Val.rcmp v w)) (fun kd b l ih hv w hw => ?_) v
  have hall : Ult fun k => ∀ x ∈ (Val.mk kd b l).kids.zip w.kids, ∀ ret, G21 k x.1.pv x.2.pv ret = ret (Val.rcmp x.1 x.2) :=
    Ult.forall_mem fun x hx => by
      have h1 := List.of_mem_zip hx
      exact ih x.1 (Val.mem_kidl h1.1) (hv.kid (Val.mem_kidl h1.1)) x.2 (hw.kid (Val.mem_kidl h1.2))
  refine Ult.succ ((hall.and (spec_counts.and ((spec_rFlat _ hv).and ((spec_rFlat _ hw).and (spec_sign.and (Ult.ge (l.length + 1))))))).mono fun k ⟨h1, h2, h3, h4, h5, h7⟩ ret => ?_)
  have hkl : (Val.mk kd b l).kids.length ≤ l.length := Val.kids_length _
  have hlen : l.length ≤ 274877906944 := hv.length
  rw [Val.rcmp_eq]
  generalize Val.mk kd b l = v at *
  have sgn : ∀ a c : Int, ¬ a = c → (if decide (a < c) = true then (-1 : Int) else 1) = c3 a c := fun a c h => by
    unfold c3; by_cases h1 : a < c <;> simp [h1] <;> omega
  have loop : ∀ (body : (Int → R) → Int → R), (∀ nx n12, body nx n12 =
      bif ((decide (n12 < (List.length (v.kids.map Val.pv) : Int))) == true) then
        bif (decide (n12 < (List.length (w.kids.map Val.pv) : Int))) then
          bif (true && decide ((0 : Int) ≤ n12) && decide (n12 < (List.length (v.kids.map Val.pv) : Int))) then
            bif (true && decide ((0 : Int) ≤ n12) && decide (n12 < (List.length (w.kids.map Val.pv) : Int))) then
              G21 k (List.getD (v.kids.map Val.pv) (n12).toNat PV.nil) (List.getD (w.kids.map Val.pv) (n12).toNat PV.nil) fun n13 =>
              bif (!(decide (n13 = (0 : Int)))) then ret n13 else nx (IntKind.wrap .i64 (n12 + (1 : Int)))
            else none
          else none
        else bif (!(decide ((List.length (v.kids.map Val.pv) : Int) = (List.length (w.kids.map Val.pv) : Int)))) then
          G40 k (decide ((List.length (w.kids.map Val.pv) : Int) < (List.length (v.kids.map Val.pv) : Int))) fun n14 => ret n14
        else ret 0
      else bif (!(decide ((List.length (v.kids.map Val.pv) : Int) = (List.length (w.kids.map Val.pv) : Int)))) then
        G40 k (decide ((List.length (w.kids.map Val.pv) : Int) < (List.length (v.kids.map Val.pv) : Int))) fun n15 => ret n15
      else ret 0) → loopR body k ((0 : Nat) : Int) = ret (Val.lex v.kids w.kids) := by
    intro body hb
    have tail : ∀ i, i = min v.kids.length w.kids.length → (bif (!(decide ((v.kids.length : Int) = (w.kids.length : Int)))) then ret (if decide ((w.kids.length : Int) < (v.kids.length : Int)) = true then -1 else 1) else ret 0) = ret (Val.lex (v.kids.drop i) (w.kids.drop i)) := by
      intro i hi
      rw [← lex_end hi]
      by_cases he : (v.kids.length : Int) = (w.kids.length : Int)
      · rw [decide_eq_true he, he, c3_self]; rfl
      · rw [decide_eq_false he, sgn _ _ (fun h => he h.symm)]; rfl
    have := loopR_up (body := body) (res := fun i => ret (Val.lex (v.kids.drop i) (w.kids.drop i))) (min v.kids.length w.kids.length) ?_ ?_ k 0 (by omega) (by omega)
    · simpa using this
    · intro nx
      rw [hb]
      simp only [List.length_map, h5]
      by_cases h : v.kids.length ≤ w.kids.length
      · rw [decide_eq_false (show ¬ (((min v.kids.length w.kids.length : Nat) : Int) < (v.kids.length : Int)) by omega)]
        exact tail _ rfl
      · rw [decide_eq_true (show (((min v.kids.length w.kids.length : Nat) : Int) < (v.kids.length : Int)) by omega), decide_eq_false (show ¬ (((min v.kids.length w.kids.length : Nat) : Int) < (w.kids.length : Int)) by omega)]
        exact tail _ rfl
    · intro i hi nx hnx
      rw [hb]
      simp only [List.length_map]
      have i1 : i < v.kids.length := by omega
      have i2 : i < w.kids.length := by omega
      rw [decide_eq_true (show (0 : Int) ≤ (i : Int) by omega), decide_eq_true (show (i : Int) < (v.kids.length : Int) by omega), decide_eq_true (show (i : Int) < (w.kids.length : Int) by omega), getD_pv i1, getD_pv i2]
      simp only [Bool.and_self, cond_true, beq_self_eq_true]
      have hz : (v.kids[i], w.kids[i]) ∈ v.kids.zip w.kids := by
        have hl : i < (v.kids.zip w.kids).length := by simp; omega
        have := List.getElem_mem hl
        simpa using this
      rw [h1 _ hz, drop_cons i1, drop_cons i2, wrap_succ (by omega), hnx]
      simp only [Val.lex, thn]
      by_cases hc : Val.rcmp v.kids[i] w.kids[i] = 0
      · simp [hc]
      · simp [hc]
  simp only [G21, f21_N, f21_e, h2, h3, h4, h5, Val.fld0, Val.fld1, PV.num, PV.els, List.length_map]
  by_cases l1 : (w.flat.length : Int) < (v.flat.length : Int)
  · rw [decide_eq_true l1]
    have : c3 w.len v.len = -1 := by simp [c3, Val.len, l1]
    simp [this, thn]
  rw [decide_eq_false l1]
  by_cases l2 : (v.flat.length : Int) < (w.flat.length : Int)
  · rw [decide_eq_true l2]
    have : c3 w.len v.len = 1 := by simp [c3, Val.len, l1, l2]
    simp [this, thn]
  rw [decide_eq_false l2]
  have hl0 : c3 w.len v.len = 0 := by simp [c3, Val.len, l1, l2]
  rw [hl0]
  simp only [cond_false, thn, if_true]
  by_cases e : v.kind = w.kind
  · rw [decide_eq_true e, show c3 v.kind w.kind = 0 by rw [e]; exact c3_self _]
    simp only [Bool.not_true, cond_false, if_true]
    by_cases e2 : v.kind = 2
    · rw [decide_eq_true e2, if_pos e2]
      simp only [beq_self_eq_true, cond_true]
      by_cases e3 : v.byte = w.byte
      · rw [decide_eq_true e3, e3, c3_self]
        simp only [Bool.not_true, cond_false, f21_w1N]
        have hk1 : v.kids = [] := by simp [Val.kids, Val.ar, e2]
        have hk2 : w.kids = [] := by simp [Val.kids, Val.ar, ← e, e2]
        have := loop _ (fun nx n => rfl : ∀ nx n, f21_w1B k (G21 k) (G39 k) (G40 k) (G41 k) ret (.list (v.kids.map Val.pv)) (.list (w.kids.map Val.pv)) nx n = _)
        rw [hk1, hk2] at this ⊢
        simpa [Val.lex] using this
      · rw [decide_eq_false e3, sgn _ _ e3]; rfl
    · rw [decide_eq_false e2, if_neg e2]
      simp only [f21_w2N]
      exact loop _ (fun nx n => rfl : ∀ nx n, f21_w2B k (G21 k) (G39 k) (G40 k) (G41 k) ret (.list (v.kids.map Val.pv)) (.list (w.kids.map Val.pv)) nx n = _)
  · have hc : c3 v.kind w.kind ≠ 0 := by unfold c3; repeat' split; all_goals omega
    rw [decide_eq_false e, if_neg hc, sgn _ _ e]; rfl
end Go.Proofs.Ytbmhbnkejgjfdaa
