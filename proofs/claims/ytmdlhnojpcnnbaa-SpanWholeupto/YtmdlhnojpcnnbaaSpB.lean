/- From here to there: the value that comes first: the printed function comes to it. -/
import Derived.Test.YtmdlhnojpcnnbaaSpH
set_option linter.unusedSimpArgs false
set_option linter.unusedVariables false
set_option maxRecDepth 20000
namespace Go.Proofs.Ytmdlhnojpcnnbaa
open Go Go.X

theorem Cor.items_len {b : Nat → Nat → Val} {sp : Nat → Option Nat} {t : Nat} : ∀ (n f : Nat), (Cor.itemsN b sp t n f).length ≤ n
  | 0, _ => by simp [Cor.itemsN]
  | n + 1, f => by
    rw [Cor.itemsN]
    split
    · split
      · have := Cor.items_len (b := b) (sp := sp) (t := t) n (by assumption)
        simp only [List.length_cons]; omega
      · simp
    · simp
theorem kidn {H : List HE} {ik m : Nat} {ks : List Nat} {cp : PV} (hk : H[ik]? = some (.row tInt (ints ks))) {j x : Nat} (hx : ks[j]? = some x) : PV.num (List.getD (hrowOf H (PV.rI (PV.fld (PV.agg [cp, .rs ik m]) 1))) ((j : Int)).toNat PV.nil) = (x : Int) := by
  simp only [PV.fld, PV.flds, List.getD, List.getElem?_cons_succ, List.getElem?_cons_zero, Option.getD_some, PV.rI, hrowOf_of hk, Int.toNat_natCast, ints_get hx, PV.num]
theorem kid0 {H : List HE} {ik m : Nat} {ks : List Nat} {cp : PV} (hk : H[ik]? = some (.row tInt (ints ks))) {x : Nat} (hx : ks[0]? = some x) : PV.num (List.getD (hrowOf H (PV.rI (PV.fld (PV.agg [cp, .rs ik m]) 1))) ((0 : Int)).toNat PV.nil) = (x : Int) := kidn (j := 0) hk hx
theorem kid1 {H : List HE} {ik m : Nat} {ks : List Nat} {cp : PV} (hk : H[ik]? = some (.row tInt (ints ks))) {x : Nat} (hx : ks[1]? = some x) : PV.num (List.getD (hrowOf H (PV.rI (PV.fld (PV.agg [cp, .rs ik m]) 1))) ((1 : Int)).toNat PV.nil) = (x : Int) := kidn (j := 1) hk hx
theorem PV.beq_self (p : PV) : PV.beq p p = true := by
  apply PV.rec (motive_1 := fun p => PV.beq p p = true) (motive_2 := fun l => PV.beqs l l = true)
  case cons => intro a l h1 h2; simp [PV.beqs, h1, h2]
  all_goals (intros; simp_all [PV.beq, PV.beqs])
theorem spec_best (c : Cor) : c.fmd = true → Ult (BestS c) := by
  refine Cor.ind (p := fun c => c.fmd = true → Ult (BestS c)) (fun kd st nn l ih hfmd => ?_) c
  obtain ⟨hkd, hfk⟩ := Cor.kids_of hfmd
  have hall : Ult fun k => ∀ x ∈ l, BestS x k := Ult.forall_mem fun x hx => ih x hx (hfk x hx)
  have hof : Ult fun k => ∀ x ∈ l, OfS x k := Ult.forall_mem fun x hx => spec_of (ih x hx (hfk x hx))
  have hsays : Ult fun k => ∀ x ∈ l, SaysS x k := Ult.forall_mem fun x hx => spec_Says x (hfk x hx)
  have hsplit : Ult fun k => ∀ x ∈ l, ∀ y ∈ l, SplitS x y k := Ult.forall_mem fun x hx => Ult.forall_mem fun y hy => spec_split x y (hfk x hx) (hfk y hy)
  have hstar : Ult fun k => ∀ x ∈ l, SplitS x (.mk kd st nn l) k := Ult.forall_mem fun x hx => spec_split x _ (hfk x hx) hfmd
  refine Ult.succ ((hall.and (hof.and (hsays.and (hsplit.and (hstar.and (spec_tByte.and (Ult.ge 300))))))).mono fun k ⟨hall, hof, hsays, hsplit, hstar, hbyte, hge⟩ Q M h ix T n f t ret a tok hat hf hb hQ => ?_)
  obtain ⟨hft, hts⟩ := Cor.ends_le hfmd hf hb
  have htn := tok.n
  have hat' := hat
  have hnP := Cor.At_lt hat
  obtain ⟨ks, hP, -⟩ := hat
  obtain ⟨lp, kp, p1, p2, p3, p4, p5⟩ := a.tb.part hP
  have hv := a.v
  have tv := a.tb.v
  have e0 : ∀ H, Sx (Mx M h H) H ix T → PV.fld (hvarOf H (PV.rI (PV.rp ix))) 0 = .rp T.it := fun H a => by simp [hvarOf_of a.v, PV.rI, PV.fld, PV.flds]
  have e0h := e0 h a.self
  have et : PV.fld (hvarOf h (PV.rI (PV.rp T.it))) 0 = .rs T.ip T.P.length := by simp [hvarOf_of tv, PV.rI, PV.fld, PV.flds]
  simp (config := { zeta := false }) only [G53, f53_N]
  unfold f53_e
  refine cT rfl (cT (hokV_of hv) (cT (by rw [e0h]; rfl) (cT (by rw [e0h]; exact hokV_of tv) (cT (by rw [e0h, et]; exact rb_of hnP) (cT (by rw [e0h, et]; exact hokR_of p1 p3) ?_)))))
  extract_lets +onlyGivenNames p6
  have e6 : p6 = .agg [Cor.pv (.mk kd st nn l), kp] := by
    simp only [p6]
    rw [e0h, et]
    simp [PV.rI, hrowOf_of p1, p4]
  clear_value p6
  subst e6
  cases hkd with
  | k0 e =>
    rcases e with rfl | rfl | rfl
    · rw [Cor.ends0] at hb; simp at hb
    · refine cF rfl (cF rfl (cF rfl (cF rfl (cF rfl (cF rfl ?_)))))
      have := hQ h (Fr.refl _ _) a.self
      rw [Cor.best1] at this
      exact this
    · rw [Cor.ends2] at hb
      split at hb
      · rename_i hh
        refine cT rfl (cT rfl (cT (hokV_of hv) ?_))
        rw [e0h, hbyte _ _ _ _ _ a.tb hh.1]
        have := hQ h (Fr.refl _ _) a.self
        rw [Cor.best2] at this
        exact this
      · simp at hb
  | @k1 x e =>
    obtain ⟨i0, hP', hat0⟩ := At.kids1 hat'
    rw [hP] at hP'; injection hP' with hP'; injection hP' with _ hP'; subst hP'
    obtain ⟨ik, rfl, pk⟩ := p5.row (by simp)
    have hx := hall x (by simp)
    rcases e with rfl | rfl | rfl
    · refine cF rfl (cF rfl (cF rfl (cT rfl ?_)))
      have hsp : ∀ f k, Cor.mid T.s x (.mk 5 st nn [x]) f (f + 1) t = some k → f < k := fun f k h => Cor.mid_gt h
      have hb5 := Cor.best5 T.s st nn x f t
      generalize hL : Cor.itemsN (Cor.best T.s x) (fun f => Cor.mid T.s x (.mk 5 st nn [x]) f (f + 1) t) t (t - f) f = L at hb5
      have hLn : L.length ≤ 256 := by
        have := Cor.items_len (b := Cor.best T.s x) (sp := fun f => Cor.mid T.s x (.mk 5 st nn [x]) f (f + 1) t) (t := t) (t - f) f
        rw [hL] at this; omega
      have step : ∀ (f' : Nat) (H : List HE) (nx2 : Int → PV → List HE → R), Fr M h H → Sx (Mx M h H) H ix T → f' ≤ T.s.length → f' < t → (Cor.ends T.s (.mk 5 st nn [x]) f').testBit t = true →
          (∀ (k : Nat) H2, Cor.mid T.s x (.mk 5 st nn [x]) f' (f' + 1) t = some k → (Cor.ends T.s (.mk 5 st nn [x]) k).testBit t = true → k ≤ t → Fr M h H2 → Sx (Mx M h H2) H2 ix T → Q (nx2 (k : Int) (x.best T.s f' k).pv H2)) →
          Q (bif (true && decide ((0 : Int) ≤ (0 : Int)) && decide ((0 : Int) < ((PV.rN (PV.fld (PV.agg [Cor.pv (.mk 5 st nn [x]), .rs ik 1]) 1)) : Int))) then
            bif (true && true && (hokR H 3 (PV.rI (PV.fld (PV.agg [Cor.pv (.mk 5 st nn [x]), .rs ik 1]) 1)) (0 : Int))) then
              G77 k (.rp ix) (PV.num (List.getD (hrowOf H (PV.rI (PV.fld (PV.agg [Cor.pv (.mk 5 st nn [x]), .rs ik 1]) 1))) ((0 : Int)).toNat PV.nil)) (n : Int) (f' : Int) (IntKind.wrap .i64 ((f' : Int) + (1 : Int))) (t : Int) H fun n25 h26 =>
              bif (true && decide ((0 : Int) ≤ (0 : Int)) && decide ((0 : Int) < ((PV.rN (PV.fld (PV.agg [Cor.pv (.mk 5 st nn [x]), .rs ik 1]) 1)) : Int))) then
                bif (true && true && (hokR h26 3 (PV.rI (PV.fld (PV.agg [Cor.pv (.mk 5 st nn [x]), .rs ik 1]) 1)) (0 : Int))) then
                  G53 k (.rp ix) (PV.num (List.getD (hrowOf h26 (PV.rI (PV.fld (PV.agg [Cor.pv (.mk 5 st nn [x]), .rs ik 1]) 1))) ((0 : Int)).toNat PV.nil)) (f' : Int) n25 h26 fun p27 h28 =>
                  nx2 n25 p27 h28
                else none
              else none
            else none
          else none) := by
        intro f' H nx2 fr aH hf' hlt hb' hk
        have pkH := fr.fix _ _ pk (by rfl)
        obtain ⟨m, hm⟩ := Cor.mid_star hfmd hf' hlt hb'
        obtain ⟨m1, m2, m3, m4⟩ := Cor.mid_some hm
        refine cT rfl (cT (hokR_of (n := 0) pkH (by simp [ints])) ?_)
        rw [kid0 pkH (by rfl), wrap_succ (by omega)]
        refine hstar x (by simp) Q _ H ix T i0 n f' (f' + 1) t _ aH tok hat0 hat' hf' hts (by omega) (fun H1 fr1 a1 => ?_)
        rw [hm]
        have frA := Mx_trans fr fr1
        have aA := Sx.then a.tb.b fr.len fr1.len a1
        have pk1 := fr1.fix _ _ pkH (by rfl)
        refine cT rfl (cT (hokR_of (n := 0) pk1 (by simp [ints])) ?_)
        rw [kid0 pk1 (by rfl)]
        refine hx Q _ H1 ix T i0 f' m _ aA tok hat0 hf' m3 (fun H2 fr2 a2 => ?_)
        exact hk m H2 hm m4 m2 (Mx_trans frA fr2) (Sx.then a.tb.b frA.len fr2.len a2)
      refine vupQ (body := f53_w1B k (G52 k) (G53 k) (G76 k) (G77 k) (G78 k) ret (.rp ix) (n : Int) (f : Int) (t : Int) h (PV.agg [Cor.pv (.mk 5 st nn [x]), .rs ik 1])) Q
        (fun (i : Nat) (a : Nat × List Val × List HE) => (if i = 0 then .inl () else .inr ((a.1 : Int), a.2.1.map Val.pv, a.2.2) : Sum Unit (Int × List PV × List HE)))
        (fun i a => (i = 0 → a = (f, [], h)) ∧ a.2.1.length = i ∧ Fr M h a.2.2 ∧ Sx (Mx M h a.2.2) a.2.2 ix T ∧ a.1 ≤ t ∧ (Cor.ends T.s (.mk 5 st nn [x]) a.1).testBit t = true ∧ L = a.2.1 ++ Cor.itemsN (Cor.best T.s x) (fun f => Cor.mid T.s x (.mk 5 st nn [x]) f (f + 1) t) t (t - a.1) a.1) L.length ?_ ?_ k 0 (f, [], h)
        ⟨fun _ => rfl, rfl, Fr.refl _ _, a.self, hft, hb, hL.symm⟩ (by omega) (by omega)
      · rintro nx ⟨f', vs, H⟩ ⟨i1, i2, fr, aH, hf', hb', hl⟩
        simp only at i1 i2 fr aH hf' hb' hl
        have hnlt : ¬ f' < t := fun hlt => by
          obtain ⟨m, hm⟩ := Cor.mid_star hfmd (by omega) hlt hb'
          rw [Cor.items_cons hsp hlt hm] at hl
          have := congrArg List.length hl
          simp only [List.length_append, List.length_cons] at this
          omega
        rw [Cor.items_nil hnlt, List.append_nil] at hl
        have := hQ H fr aH
        rw [hb5, hl] at this
        by_cases h0 : L.length = 0
        · simp (config := { zeta := false }) only [h0, if_true, f53_w1B, f53_w1b0N, f53_w1b0, Sum.elim_inl]
          have hi1 := i1 h0
          injection hi1 with q1 q2; injection q2 with q2 q3
          subst q1; subst q2; subst q3
          refine cF (decide_eq_false (by omega)) ?_
          exact this
        · simp (config := { zeta := false }) only [if_neg h0, f53_w1B, f53_w1b1N, f53_w1b1, Sum.elim_inr]
          refine cF (decide_eq_false (by omega)) ?_
          simpa [Val.pv, Val.pvs_eq] using this
      · rintro i hi nx ⟨f', vs, H⟩ ⟨i1, i2, fr, aH, hf', hb', hl⟩ hnx
        simp only at i1 i2 fr aH hf' hb' hl
        have hlt : f' < t := by
          rcases Nat.lt_or_ge f' t with h | h
          · exact h
          · rw [Cor.items_nil (by omega), List.append_nil] at hl
            rw [hl, i2] at hi; omega
        have nxt : ∀ (m : Nat) H2, Cor.mid T.s x (.mk 5 st nn [x]) f' (f' + 1) t = some m → (Cor.ends T.s (.mk 5 st nn [x]) m).testBit t = true → m ≤ t → Fr M h H2 → Sx (Mx M h H2) H2 ix T → Q (nx (.inr ((m : Int), (vs ++ [x.best T.s f' m]).map Val.pv, H2))) := fun m H2 hm hb2 hmt f2 a2 => by
          have := hnx (m, vs ++ [x.best T.s f' m], H2) ⟨fun h => by omega, by simp [i2], f2, a2, hmt, hb2, by rw [hl, Cor.items_cons hsp hlt hm]; simp⟩
          rw [if_neg (by omega)] at this
          exact this
        by_cases h0 : i = 0
        · have hi1 := i1 h0
          injection hi1 with q1 q2; injection q2 with q2 q3
          subst q1; subst q2; subst q3
          simp (config := { zeta := false }) only [h0, if_true, f53_w1B, f53_w1b0N, f53_w1b0, Sum.elim_inl]
          refine cT (decide_eq_true (by omega)) ?_
          refine step f' H (fun n25 p27 h28 => nx (.inr (n25, [p27], h28))) fr aH (by omega) hlt hb' (fun m H2 hm hb2 hmt f2 a2 => ?_)
          have := nxt m H2 hm hb2 hmt f2 a2
          simpa using this
        · simp (config := { zeta := false }) only [if_neg h0, f53_w1B, f53_w1b1N, f53_w1b1, Sum.elim_inr]
          refine cT (decide_eq_true (by omega)) ?_
          refine step f' H (fun n32 p34 h35 => bif (true && roomy (List.length (vs.map Val.pv) + List.length [p34]) 40) then nx (.inr (n32, (vs.map Val.pv) ++ [p34], h35)) else none) fr aH (by omega) hlt hb' (fun m H2 hm hb2 hmt f2 a2 => ?_)
          have := nxt m H2 hm hb2 hmt f2 a2
          refine cT (by rw [List.length_map, i2, show List.length [(x.best T.s f' m).pv] = 1 from rfl, roomyP (by omega) (by omega)]; rfl) ?_
          simpa using this
    · refine cF rfl (cF rfl (cF rfl (cF rfl (cT rfl (cT rfl (cT (hokR_of (n := 0) pk (by simp [ints])) ?_))))))
      rw [kid0 pk (by rfl)]
      rw [Cor.ends67 _ _ _ _ _ _ (.inl rfl)] at hb
      refine hof x (by simp) Q M h ix T i0 f t 7 _ a tok hat0 hf hb (fun h' fr a' => ?_)
      have := hQ h' fr a'
      rw [Cor.best6] at this
      exact this
    · refine cF rfl (cF rfl (cF rfl (cF rfl (cF rfl (cT rfl (cT rfl (cT (hokR_of (n := 0) pk (by simp [ints])) ?_)))))))
      rw [kid0 pk (by rfl)]
      rw [Cor.ends67 _ _ _ _ _ _ (.inr rfl)] at hb
      refine hx Q M h ix T i0 f t _ a tok hat0 hf hb (fun h' fr a' => ?_)
      have := hQ h' fr a'
      rw [Cor.best7] at this
      exact this
  | @k2 x y e =>
    obtain ⟨i0, i1, hP', hat0, hat1⟩ := At.kids2 hat'
    rw [hP] at hP'; injection hP' with hP'; injection hP' with _ hP'; subst hP'
    obtain ⟨ik, rfl, pk⟩ := p5.row (by simp)
    have hx := hall x (by simp)
    have hy := hall y (by simp)
    rcases e with rfl | rfl
    · obtain ⟨m, hm⟩ := Cor.mid_both hfmd hf hb
      obtain ⟨m1, m2, m3, m4⟩ := Cor.mid_some hm
      refine cF rfl (cT rfl (cT rfl (cT (hokR_of (n := 0) pk (by simp [ints])) (cT rfl (cT (hokR_of (n := 1) pk (by simp [ints])) ?_)))))
      rw [kid0 pk (by rfl), kid1 pk (by rfl)]
      refine hsplit x (by simp) y (by simp) Q M h ix T i0 i1 f f t _ a tok hat0 hat1 hf hts (by omega) (fun H1 fr1 a1 => ?_)
      rw [hm]
      have pk1 := fr1.fix _ _ pk (by rfl)
      refine cT rfl (cT (hokR_of (n := 0) pk1 (by simp [ints])) (cT rfl (cT (hokR_of (n := 1) pk1 (by simp [ints])) (cT (PV.beq_self _) (cT rfl (cT (by simp) (cT (hokR_of (n := 1) pk1 (by simp [ints])) (cT (decide_eq_true rfl) ?_))))))))
      rw [kid0 pk1 (by rfl), kid1 pk1 (by rfl)]
      refine hx Q _ H1 ix T i0 f m _ a1 tok hat0 hf m3 (fun H2 fr2 a2 => ?_)
      have frA := Mx_trans fr1 fr2
      have aA := Sx.then a.tb.b fr1.len fr2.len a2
      have pk2 := fr2.fix _ _ pk1 (by rfl)
      refine cT (PV.beq_self _) (cT rfl (cT (by simp) (cT (hokR_of (n := 1) pk2 (by simp [ints])) (cT ?_ ?_))))
      · rw [kid1 pk2 (by rfl)]; exact decide_eq_true rfl
      refine hy Q _ H2 ix T i1 m t _ aA tok hat1 (by omega) m4 (fun H3 fr3 a3 => ?_)
      have := hQ H3 (Mx_trans frA fr3) (Sx.then a.tb.b frA.len fr3.len a3)
      rw [Cor.best3, hm] at this
      exact this
    · rw [Cor.ends4, Nat.testBit_or, Bool.or_eq_true] at hb
      refine cF rfl (cF rfl (cT rfl (cT rfl (cT (hokV_of hv) (cT rfl (cT (hokR_of (n := 0) pk (by simp [ints])) ?_))))))
      rw [kid0 pk (by rfl), e0h]
      refine hsays x (by simp) Q M h T i0 f t _ a.tb tok hat0 hf (by omega) (fun H1 fr1 tb1 => ?_)
      have a1 : Sx (Mx M h H1) H1 ix T := a.frame tb1 fr1
      have pk1 := fr1.fix _ _ pk (by rfl)
      by_cases hbx : (x.ends T.s f).testBit t = true
      · refine cT hbx (cT rfl (cT (hokR_of (n := 0) pk1 (by simp [ints])) ?_))
        rw [kid0 pk1 (by rfl)]
        refine hof x (by simp) Q _ H1 ix T i0 f t 4 _ a1 tok hat0 hf hbx (fun h' fr a' => ?_)
        have := hQ h' (Mx_trans fr1 fr) (Sx.then a.tb.b fr1.len fr.len a')
        rw [Cor.best4, hbx, cond_true] at this
        exact this
      · have hbx' : (x.ends T.s f).testBit t = false := by simpa using hbx
        refine cF hbx' (cT rfl (cT (hokR_of (n := 1) pk1 (by simp [ints])) ?_))
        rw [kid1 pk1 (by rfl)]
        refine hof y (by simp) Q _ H1 ix T i1 f t 5 _ a1 tok hat1 hf (hb.resolve_left hbx) (fun h' fr a' => ?_)
        have := hQ h' (Mx_trans fr1 fr) (Sx.then a.tb.b fr1.len fr.len a')
        rw [Cor.best4, hbx', cond_false] at this
        exact this
end Go.Proofs.Ytmdlhnojpcnnbaa
