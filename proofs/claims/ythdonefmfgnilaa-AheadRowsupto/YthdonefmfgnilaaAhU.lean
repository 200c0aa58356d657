/- What may come behind a part's kids, of all parts: the printed functions come to it. -/
import Derived.Test.YthdonefmfgnilaaAhT
set_option linter.unusedSimpArgs false
set_option linter.unusedVariables false
set_option maxRecDepth 20000
namespace Go.Proofs.Ythdonefmfgnilaa
open Go Go.X

def SpreadS (c : Cor) (k : Nat) : Prop := ∀ (Q : R → Prop) (h0 h : List HE) (ia ipa : Nat) (T : Tab) (past : List (Option (List Bool))) (n : Nat) (ks : List Nat) (pa : List Bool) (ret : List HE → R), An h0 h ia ipa T past → Tok T → Pk T.P → T.P[n]? = some (c, ks) → past[n]? = some (some pa) →
  (∀ h', An h0 h' ia ipa T (spreadN T.s c ks pa past) → Q (ret h')) → Q (G69 k (.rp ia) (n : Int) h ret)
def pastK (ks : List Nat) (pa : List Bool) (past : List (Option (List Bool))) (i : Nat) : List (Option (List Bool)) := (ks.take i).foldl (fun p k => p.set k (some pa)) past
theorem pastK_succ {ks : List Nat} {pa : List Bool} {past : List (Option (List Bool))} {i : Nat} (h : i < ks.length) : pastK ks pa past (i + 1) = (pastK ks pa past i).set ks[i] (some pa) := by
  unfold pastK
  rw [List.take_succ_eq_append_getElem h, List.foldl_append]
  rfl
theorem pastK_length (ks : List Nat) (pa : List Bool) (past : List (Option (List Bool))) : ∀ i, i ≤ ks.length → (pastK ks pa past i).length = past.length
  | 0, _ => by simp [pastK]
  | i + 1, h => by rw [pastK_succ (by omega), List.length_set, pastK_length ks pa past i (by omega)]
theorem pastK_ne {ks : List Nat} {pa : List Bool} {past : List (Option (List Bool))} {n : Nat} (hn : ∀ k ∈ ks, n ≠ k) : ∀ i, i ≤ ks.length → (pastK ks pa past i)[n]? = past[n]?
  | 0, _ => by simp [pastK]
  | i + 1, h => by
    rw [pastK_succ (by omega), List.getElem?_set_ne (fun e => hn _ (List.getElem_mem (by omega : i < ks.length)) e.symm), pastK_ne hn i (by omega)]
theorem spec_spread (c : Cor) (hfc : c.fmd = true) : Ult (SpreadS c) := by
  obtain ⟨kd, st, nn, l⟩ := c
  obtain ⟨hkd, hfk⟩ := Cor.kids_of hfc
  refine Ult.succ (((Ult.forall_mem (l := l) (p := fun x k => intoS x k) fun x hx => spec_into x (hfk x hx)).and (Ult.ge 300)).mono fun k ⟨hin, hge⟩ Q h0 h ia ipa T past n ks pa ret a tok pk hP hpa hQ => ?_)
  have htn := tok.n
  have hv := a.1.v
  have tv := a.1.tb.v
  have hpl := a.1.n
  have hPk := pk.kid n _ _ hP
  have hat := pk.at' n _ _ hP
  have hksl := pk.len n _ _ hP
  have hksl' : ks.length ≤ 2 := by
    rw [hksl]
    cases hkd <;> simp
  obtain ⟨lp, kp, r1, r2, r3, r4, r5⟩ := a.1.tb.part hP
  have hnP : n < T.P.length := by rw [← r2]; exact r3
  have hkn : PV.rN kp = ks.length := by
    rcases r5 with ⟨rfl, rfl⟩ | ⟨i, rfl, _⟩ <;> rfl
  have e0 : PV.fld (hvarOf h (PV.rI (PV.rp ia))) 0 = .rp T.it := by simp [hvarOf_of hv, PV.rI, PV.fld, PV.flds]
  have et : PV.fld (hvarOf h (PV.rI (PV.rp T.it))) 0 = .rs T.ip T.P.length := by simp [hvarOf_of tv, PV.rI, PV.fld, PV.flds]
  simp (config := { zeta := false }) only [G69, f69_N]
  unfold f69_e
  refine cT rfl (cT (hokV_of hv) (cT (by rw [e0]; rfl) (cT (by rw [e0]; exact hokV_of tv) (cT (by rw [e0, et]; exact rb_of hnP) (cT (by rw [e0, et]; exact hokR_of r1 r3) ?_)))))
  extract_lets +onlyGivenNames p4
  have e4 : p4 = .agg [Cor.pv (.mk kd st nn l), kp] := by
    simp only [p4]
    rw [e0, et]
    simp [hrowOf_of r1, r4, PV.rI]
  clear_value p4
  subst e4
  have ek : PV.fld (.agg [Cor.pv (.mk kd st nn l), kp]) 1 = kp := rfl
  have ekd : PV.num (PV.fld (PV.fld (.agg [Cor.pv (.mk kd st nn l), kp]) 0) 0) = kd := rfl
  refine vupQ (body := f69_w1B k (G70 k) ret (.rp ia) (n : Int) (.agg [Cor.pv (.mk kd st nn l), kp])) Q (fun i (H : List HE) => ((i : Int), H))
    (fun i H => An h0 H ia ipa T (pastK ks pa past i) ∧ KS H kp ks) ks.length ?_ ?_ k 0 h ⟨by simpa [pastK] using a, r5⟩ (by omega) (by omega)
  · rintro nx H ⟨aH, hks⟩
    have hvH := aH.1.v
    have hlen := pastK_length ks pa past ks.length (Nat.le_refl _)
    have h0H := aH.2.1
    simp (config := { zeta := false }) only [f69_w1B, f69_w1b0N, f69_w1b0]
    refine cF (by rw [ek, hkn]; exact decide_eq_false (by omega)) ?_
    rw [ekd]
    have ew : IntKind.wrap .i64 ((PV.num (PV.fld (hvarOf H (PV.rI (PV.rp ia))) 1)) + (1 : Int)) = ((T.s.length + 1 : Nat) : Int) := by
      simp only [rI_rp, hvarOf_of hvH, PV.fld, PV.flds, PV.num, List.getD, List.getElem?_cons_succ, List.getElem?_cons_zero, Option.getD_some]
      exact wrap_succ (by omega)
    cases hkd with
    | k0 e =>
      have hk0 : ks = [] := by simpa using hksl
      subst hk0
      have := hQ H (by simpa [pastK, spreadN] using aH)
      rcases e with rfl | rfl | rfl
      · exact cF rfl (cF rfl this)
      · exact cF rfl (cF rfl this)
      · exact cF rfl (cF rfl this)
    | @k1 x e =>
      obtain ⟨k0, rfl⟩ : ∃ k0, ks = [k0] := by
        match ks, hksl with
        | [k0], _ => exact ⟨k0, rfl⟩
      have hk0P := (hPk k0 (by simp)).2
      have hk0n := (hPk k0 (by simp)).1
      have epk : pastK [k0] pa past [k0].length = past.set k0 (some pa) := rfl
      rw [epk] at aH hlen
      rcases e with rfl | rfl | rfl
      · refine cF rfl (cT rfl (cT rfl (cT (hokV_of hvH) (cT (by rw [ew, Int.toNat_natCast, roomy8 htn 1 (by omega)]; simp; omega) ?_))))
        extract_lets +onlyGivenNames h49
        have e49 : h49 = H ++ [HE.row tBool (List.replicate (T.s.length + 1) (.bool false))] := by simp only [h49]; rw [ew, Int.toNat_natCast]
        clear_value h49
        subst e49
        have a49 := aH.push (HE.row tBool (List.replicate (T.s.length + 1) (.bool false)))
        generalize hh49 : H ++ [HE.row tBool (List.replicate (T.s.length + 1) (.bool false))] = h49 at a49
        have l49 : h49.length = H.length + 1 := by rw [← hh49]; simp
        have v49 := a49.1.v
        have hpa' : (past.set k0 (some pa))[n]? = some (some pa) := by rw [List.getElem?_set_ne (by omega)]; exact hpa
        obtain ⟨lP, q, s1, s2, s3, s4, s5, s6⟩ := a49.1.past hpa'
        have q49 : h49[H.length]? = some (.row tBool (List.replicate (T.s.length + 1) (.bool false))) := by rw [← hh49]; exact push_eq
        have e2 : PV.fld (hvarOf h49 (PV.rI (PV.rp ia))) 2 = .rs ipa past.length := by simp [hvarOf_of v49, PV.rI, PV.fld, PV.flds]
        have e5 : List.getD (hrowOf h49 (PV.rI (PV.fld (hvarOf h49 (PV.rI (PV.rp ia))) 2))) ((n : Int)).toNat PV.nil = .rs q (T.s.length + 1) := by
          rw [e2]; simp [PV.rI, hrowOf_of s1, s4]
        refine cT rfl (cT (hokV_of v49) (cT ?_ (cT ?_ (cT ?_ ?_))))
        · rw [e2]; exact rb_of (m := past.length) (by omega)
        · rw [e2]; exact hokR_of s1 s3
        · rw [ew, e5, Int.toNat_natCast, show hokS h49 4 (.rs q (T.s.length + 1)) = true from hokS_of s6 (by rw [bools_len, s5]), show hokS h49 4 (.rs H.length (T.s.length + 1)) = true from hokS_of q49 (by simp)]
          rfl
        extract_lets +onlyGivenNames h50
        have e50 : h50 = h49.set H.length (.row tBool (bools pa)) := by
          simp only [h50]
          rw [ew, e5, Int.toNat_natCast]
          simp only [hels, hrowOf_of s6, hrowOf_of q49, PV.rN]
          have ht : List.take (T.s.length + 1) (bools pa) = bools pa := List.take_of_length_le (by rw [bools_len, s5]; exact Nat.le_refl _)
          have hd : List.drop (T.s.length + 1) (List.replicate (T.s.length + 1) (PV.bool false)) = [] := by simp
          rw [ht, hd, List.append_nil]
        clear_value h50
        subst e50
        have sH1 : H[ipa]? = some (.row tPast lP) := by
          have hlt : ipa < H.length := by obtain ⟨_, p1, _⟩ := aH.1.p; exact lt_of_some p1
          rw [← push_lt (x := HE.row tBool (List.replicate (T.s.length + 1) (.bool false))) hlt, hh49]; exact s1
        have hipq : ipa ≠ H.length := by have := lt_of_some sH1; omega
        have fresh : ∀ (j m : Nat), lP[j]? ≠ some (PV.rs H.length m) := fun j m e => by have := aH.lt sH1 e; omega
        have a50 := a49.setB (x := bools pa) s1 q49 h0H fresh
        have v50 := a50.1.v
        have s50 : (h49.set H.length (.row tBool (bools pa)))[ipa]? = some (.row tPast lP) := by rw [set_ne hipq.symm]; exact s1
        have q50 : (h49.set H.length (.row tBool (bools pa)))[H.length]? = some (.row tBool (bools pa)) := set_eq (lt_of_some q49)
        obtain ⟨ik, hkp, pk'⟩ := hks.row (by simp)
        subst hkp
        have hiklt := lt_of_some pk'
        have k50 : (h49.set H.length (.row tBool (bools pa)))[ik]? = some (.row tInt (ints [k0])) := by rw [set_ne (by omega), ← hh49]; exact push_some pk'
        generalize hh50 : h49.set H.length (.row tBool (bools pa)) = h50 at *
        have e2' : PV.fld (hvarOf h50 (PV.rI (PV.rp ia))) 2 = .rs ipa past.length := by simp [hvarOf_of v50, PV.rI, PV.fld, PV.flds]
        have e3 : PV.num (List.getD (hrowOf h50 (PV.rI (PV.fld (PV.agg [Cor.pv (.mk 5 st nn [x]), PV.rs ik [k0].length]) 1))) ((0 : Int)).toNat PV.nil) = (k0 : Int) := by
          simp only [PV.fld, PV.flds, List.getD, List.getElem?_cons_succ, List.getElem?_cons_zero, Option.getD_some, PV.rI, hrowOf_of k50]
          rfl
        refine cT rfl (cT (hokV_of v50) (cT rfl (cT (hokR_of (n := 0) k50 (by simp [ints])) (cT ?_ (cT ?_ ?_)))))
        · rw [e3, e2']; exact rb_of (m := past.length) (by omega)
        · rw [e3, e2']; exact hokR_of s50 (by rw [s2]; simp; omega)
        extract_lets +onlyGivenNames h51
        have e51 : h51 = h50.set ipa (.row tPast (lP.set k0 (.rs H.length (T.s.length + 1)))) := by
          simp only [h51]
          rw [e2', e3, ew]
          simp only [PV.rI, Int.toNat_natCast, hrowOf_of s50]
        clear_value h51
        subst e51
        have a51 := a50.setRef (k := k0) s50 q50 s5
        have v51 := a51.1.v
        refine cT rfl (cT (hokV_of v51) ?_)
        have en : PV.num (PV.fld (hvarOf (h50.set ipa (.row tPast (lP.set k0 (.rs H.length (T.s.length + 1))))) (PV.rI (PV.rp ia))) 1) = (T.s.length : Int) := by simp [hvarOf_of v51, PV.rI, PV.fld, PV.flds, PV.num]
        rw [en]
        obtain ⟨i0, hP', hat0⟩ := At.kids1 hat
        rw [hP] at hP'; injection hP' with hP'; injection hP' with _ hP'; injection hP' with hP' _; subst hP'
        refine spec_w5 (hin x (by simp)) hge Q ret h0H tok hvH a51 hat0 (show k0 < (past.set k0 (some pa)).length by simp; omega) s5 (by rw [set_ne hipq]; exact q50) (set_eq (lt_of_some s50)) (by rw [List.getElem?_set_self (by rw [s2]; simp; omega)]) (fun j m e => ?_) (by rw [set_ne (fun e => by subst e; rw [s50] at k50; injection k50 with k50; injection k50 with k50 _; revert k50; decide)]; exact k50) hipq (by omega) (fun h' ah' => ?_)
        · rw [List.getElem?_set] at e
          split at e
          · rename_i e1; exact e1.symm
          · exact absurd e (fresh j m)
        · refine hQ h' ?_
          simp only [spreadN, if_true]
          exact ah'
      · exact cF rfl (cF rfl (hQ H (by simpa [spreadN] using aH)))
      · exact cF rfl (cF rfl (hQ H (by simpa [spreadN] using aH)))
    | @k2 x y e =>
      obtain ⟨k0, k1, rfl⟩ : ∃ k0 k1, ks = [k0, k1] := by
        match ks, hksl with
        | [k0, k1], _ => exact ⟨k0, k1, rfl⟩
      have hk0P := (hPk k0 (by simp)).2
      have hk1P := (hPk k1 (by simp)).2
      have epk : pastK [k0, k1] pa past [k0, k1].length = (past.set k0 (some pa)).set k1 (some pa) := rfl
      rw [epk] at aH hlen
      rcases e with rfl | rfl
      · refine cT rfl (cT rfl (cT (hokV_of hvH) (cT (by rw [ew, Int.toNat_natCast, roomy8 htn 1 (by omega)]; simp; omega) ?_)))
        extract_lets +onlyGivenNames h36
        have e36 : h36 = H ++ [HE.row tBool (List.replicate (T.s.length + 1) (.bool false))] := by simp only [h36]; rw [ew, Int.toNat_natCast]
        clear_value h36
        subst e36
        obtain ⟨ik, hkp, pk'⟩ := hks.row (by simp)
        subst hkp
        obtain ⟨i0, i1, hP', hat0, hat1⟩ := At.kids2 hat
        rw [hP] at hP'; injection hP' with hP'; injection hP' with _ hP'; injection hP' with hP1 hP'; injection hP' with hP2 _; subst hP1; subst hP2
        refine spec_w4 (hin y (by simp)) hge Q ret aH tok hat1 (by rw [List.getElem?_set_self (by simp; omega)]) (by simp; omega) pk' (fun h' ah' => ?_)
        refine hQ h' ?_
        simp only [spreadN, if_true]
        exact ah'
      · exact cF rfl (cF rfl (hQ H (by simpa [spreadN] using aH)))
  · rintro i hi nx H ⟨aH, hks⟩ hnx
    have hvH := aH.1.v
    have hlen := pastK_length ks pa past i (by omega)
    have hkne : ks ≠ [] := fun e => by subst e; simp at hi
    obtain ⟨ik, hkp, pk'⟩ := hks.row hkne
    subst hkp
    have hkiP := (hPk _ (List.getElem_mem hi)).2
    have hpa' : (pastK ks pa past i)[n]? = some (some pa) := by
      rw [pastK_ne (fun k hk => by have := (hPk k hk).1; omega) i (by omega)]; exact hpa
    obtain ⟨lP, q, s1, s2, s3, s4, s5, s6⟩ := aH.1.past hpa'
    have e2 : PV.fld (hvarOf H (PV.rI (PV.rp ia))) 2 = .rs ipa (pastK ks pa past i).length := by simp [hvarOf_of hvH, PV.rI, PV.fld, PV.flds]
    have e3 : PV.num (List.getD (hrowOf H (PV.rI (PV.fld (PV.agg [Cor.pv (.mk kd st nn l), PV.rs ik ks.length]) 1))) ((i : Int)).toNat PV.nil) = ((ks[i] : Nat) : Int) := by
      simp only [PV.fld, PV.flds, List.getD, List.getElem?_cons_succ, List.getElem?_cons_zero, Option.getD_some, PV.rI, hrowOf_of pk', Int.toNat_natCast]
      simp [ints, hi, PV.num]
    simp (config := { zeta := false }) only [f69_w1B, f69_w1b0N, f69_w1b0]
    refine cT (by rw [ek]; exact decide_eq_true (by show (i : Int) < (ks.length : Int); omega)) (cT (by rw [ek]; exact rb_of hi) (cT (hokR_of pk' (by rw [ints_len]; exact hi)) (cT rfl (cT (hokV_of hvH) (cT rfl (cT (hokV_of hvH) (cT ?_ (cT ?_ (cT ?_ (cT ?_ ?_))))))))))
    · rw [e2]; exact rb_of (m := (pastK ks pa past i).length) (by omega)
    · rw [e2]; exact hokR_of s1 s3
    · rw [e2, e3]; exact rb_of (m := (pastK ks pa past i).length) (by omega)
    · rw [e2, e3]; exact hokR_of s1 (by omega)
    extract_lets +onlyGivenNames h35
    have e35 : h35 = H.set ipa (.row tPast (lP.set ks[i] (.rs q (T.s.length + 1)))) := by
      simp only [h35]
      rw [e2, e3]
      simp only [PV.rI, Int.toNat_natCast, hrowOf_of s1, List.getD, s4, Option.getD_some]
    clear_value h35
    subst e35
    rw [wrap_succ (by omega)]
    refine hnx _ ⟨by rw [pastK_succ hi]; exact aH.setRef s1 s6 s5, .inr ⟨ik, rfl, ?_⟩⟩
    rw [set_ne (fun e => by subst e; rw [s1] at pk'; injection pk' with pk'; injection pk' with pk' _; revert pk'; decide)]
    exact pk'
end Go.Proofs.Ythdonefmfgnilaa
