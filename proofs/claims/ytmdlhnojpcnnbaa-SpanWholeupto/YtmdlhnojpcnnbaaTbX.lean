/- The table's row: the printed function comes to where a part may end. -/
import Derived.Test.YtmdlhnojpcnnbaaTbW
set_option linter.unusedSimpArgs false
set_option linter.unusedVariables false
set_option maxRecDepth 20000
namespace Go.Proofs.Ytmdlhnojpcnnbaa
open Go Go.X

theorem Wk.start {M0 M : Nat → Prop} {h0 h1 : List HE} {T : Tab} {n : Nat} (b0 : ∀ i, M0 i → i < h0.length) (fr : Fr M0 h0 h1) (tb : Tb M h1 T) (hM : ∀ i, M i → M0 i ∨ h0.length ≤ i) (pr : Pr T h0 h1) (rw' : ∃ l j m', h1[T.ie]? = some (.row tRows l) ∧ l[n]? = some (.rs j m')) :
    Wk M0 h0 T n h1.length (h1 ++ [.var tPlaces (ps 0)]) 0 := by
  have hl0 := fr.len
  obtain ⟨l, j, m', h2, h3⟩ := rw'
  refine ⟨b0, fr.push _, (tb.push _).mono (fun i hi => ?_) (fun i hi => ?_), pr.trans (Pr.same (push_lt (lt_of_some h2))), ⟨l, j, m', push_some h2, h3⟩, push_eq, hl0⟩
  · have := tb.b i hi
    rcases hM i hi with h | h
    · exact .inl h
    · exact .inr ⟨h, by simp; omega, by omega⟩
  · rcases hi with hi | hi
    · have := b0 _ hi; simp; omega
    · exact hi.2.1
theorem roomy8 {n : Nat} (h : n ≤ 256) (b : Nat) (hb : b ≤ 100) : roomy (n + 1) b = true := roomy_of (by
  have : (n + 1) * b ≤ 257 * 100 := Nat.mul_le_mul (by omega) hb
  omega) (by omega)

theorem spec_row (c : Cor) : c.fmd = true → Ult (RowS c) := by
  refine Cor.ind (p := fun c => c.fmd = true → Ult (RowS c)) (fun kd st nn l ih hfmd => ?_) c
  obtain ⟨-, hfk⟩ := Cor.kids_of hfmd
  have hall : Ult fun k => ∀ x ∈ l, RowS x k := Ult.forall_mem fun x hx => ih x hx (hfk x hx)
  refine Ult.succ ((hall.and (spec_Has.and (spec_has.and (spec_put.and (spec_por.and (Ult.ge 300)))))).mono fun k ⟨hk, hHas, hhas, hput, hpor, hge⟩ Q M h T n f ret tb tok hat hf hQ => ?_)
  have hn := tok.n
  have hnP := Cor.At_lt hat
  have hat' := hat
  obtain ⟨ks, hP, -⟩ := hat
  have ev := tb.v
  obtain ⟨eM, le, e1, e2, e3, e4⟩ := tb.e
  have hnl : n < le.length := by omega
  have hw : IntKind.wrap .i64 ((T.s.length : Int) + 1) = ((T.s.length + 1 : Nat) : Int) := wrap_succ (by omega)
  have hbody := fun (h1 : List HE) (w : Wk M h T n h1.length (h1 ++ [.var tPlaces (ps 0)]) 0) => spec_body (c := .mk kd st nn l) hfmd (by simpa using hk) hHas hhas hput hpor hge Q ret tok hat' hf w hQ
  simp (config := { zeta := false }) only [G74, f74_N]
  unfold f74_e
  refine cT rfl (cT (hokV_of ev) (cT ?_ (cT ?_ ?_)))
  · simp [hvarOf_of ev, PV.rI, PV.fld, PV.flds, PV.rN]; omega
  · simp [hvarOf_of ev, PV.rI, PV.fld, PV.flds, hokR, e1]; omega
  have hx := List.getElem?_eq_getElem hnl
  rcases e3 n _ _ _ hx hP with hnil | ⟨j, pl, hrs, hMj, hpl, hpn, hent⟩
  · rw [hnil] at hx
    refine cT ?_ (cT rfl (cT (hokV_of ev) (cT rfl (cT (hokV_of ev) (cT ?_ (cT ?_ ?_))))))
    · simp [hvarOf_of ev, hrowOf, PV.rI, PV.fld, PV.flds, e1, hx, PV.isRs]
    · simp only [hvarOf_of ev, PV.rI, PV.fld, PV.flds, PV.els, List.getD, List.getElem?_cons_succ, List.getElem?_cons_zero, Option.getD_some, ints_len, hw]
      simp [roomy8 hn 8 (by omega)]; omega
    · simp [hvarOf_of ev, PV.rI, PV.fld, PV.flds, PV.rN]; omega
    extract_lets +onlyGivenNames h5
    obtain ⟨s1, s2⟩ := tb.newRow e1 hx
    have e5 : h5 = h ++ [HE.row tPtr (List.replicate (T.s.length + 1) .nil)] := by
      simp only [h5, hvarOf_of ev, PV.rI, PV.fld, PV.flds, PV.els, List.getD, List.getElem?_cons_succ, List.getElem?_cons_zero, Option.getD_some, ints_len, hw, Int.toNat_natCast]
    clear_value h5
    have f1 : h5[T.ie]? = some (.row tRows le) := by rw [e5]; exact push_some e1
    refine cT ?_ ?_
    · simp [hvarOf_of ev, PV.rI, PV.fld, PV.flds, hokR, f1]; omega
    extract_lets +onlyGivenNames h6
    have e6 : h6 = (h ++ [HE.row tPtr (List.replicate (T.s.length + 1) .nil)]).set T.ie (.row tRows (le.set n (.rs h.length (T.s.length + 1)))) := by
      simp only [h6, hvarOf_of ev, PV.rI, PV.fld, PV.flds, PV.els, List.getD, List.getElem?_cons_succ, List.getElem?_cons_zero, Option.getD_some, ints_len, hw, Int.toNat_natCast, hrowOf_of f1]
      rw [e5]
    clear_value h6
    rw [← e6] at s1 s2
    have g0 := s1.v
    have hie := tb.b _ eM
    have g1 : h6[T.ie]? = some (.row tRows (le.set n (.rs h.length (T.s.length + 1)))) := by rw [e6]; exact set_eq (by simp; omega)
    have g2 : h6[h.length]? = some (.row tPtr (List.replicate (T.s.length + 1) .nil)) := by rw [e6, set_ne (by omega)]; exact push_eq
    have g3 : (le.set n (.rs h.length (T.s.length + 1)))[n]? = some (.rs h.length (T.s.length + 1)) := by rw [List.getElem?_set_self hnl]
    refine cT rfl (cT (hokV_of g0) (cT ?_ (cT ?_ (cT ?_ (cT ?_ ?_)))))
    · simp [hvarOf_of g0, PV.rI, PV.fld, PV.flds, PV.rN]; omega
    · simp [hvarOf_of g0, PV.rI, PV.fld, PV.flds, hokR, g1]; omega
    · simp only [hvarOf_of g0, hrowOf_of g1, PV.rI, PV.rN, PV.fld, PV.flds, List.getD, List.getElem?_cons_succ, List.getElem?_cons_zero, Option.getD_some, Int.toNat_natCast, g3]
      simp; omega
    · simp only [hvarOf_of g0, hrowOf_of g1, PV.rI, PV.rN, PV.fld, PV.flds, List.getD, List.getElem?_cons_succ, List.getElem?_cons_zero, Option.getD_some, Int.toNat_natCast, g3]
      exact hokR_of g2 (by simp; omega)
    extract_lets +onlyGivenNames p7
    have e7 : p7 = .nil := by
      simp only [p7, hvarOf_of g0, hrowOf_of g1, PV.rI, PV.rN, PV.fld, PV.flds, List.getD, List.getElem?_cons_succ, List.getElem?_cons_zero, Option.getD_some, Int.toNat_natCast, g3, hrowOf_of g2, List.getElem?_replicate]
      split <;> rfl
    clear_value p7
    subst e7
    refine cF rfl ?_
    refine hbody h6 (Wk.start tb.b ?_ s1 ?_ s2 ⟨_, _, _, g1, g3⟩)
    · rw [e6]
      exact ((Fr.refl M h).push _).setM _ _ _ (.inl eM) (push_some e1) (by rfl)
    · intro i hi
      rcases hi with hi | rfl
      · exact .inl hi
      · exact .inr (Nat.le_refl _)
  · rw [hrs] at hx
    have hfp : f < pl.length := by omega
    have hy := List.getElem?_eq_getElem hfp
    refine cF ?_ (cT rfl (cT (hokV_of ev) (cT ?_ (cT ?_ (cT ?_ (cT ?_ ?_))))))
    · simp [hvarOf_of ev, hrowOf, PV.rI, PV.fld, PV.flds, e1, hx, PV.isRs]
    · simp [hvarOf_of ev, PV.rI, PV.fld, PV.flds, PV.rN]; omega
    · simp [hvarOf_of ev, PV.rI, PV.fld, PV.flds, hokR, e1]; omega
    · simp only [hvarOf_of ev, hrowOf_of e1, PV.rI, PV.rN, PV.fld, PV.flds, List.getD, List.getElem?_cons_succ, List.getElem?_cons_zero, Option.getD_some, Int.toNat_natCast, hx]
      simp; omega
    · simp only [hvarOf_of ev, hrowOf_of e1, PV.rI, PV.rN, PV.fld, PV.flds, List.getD, List.getElem?_cons_succ, List.getElem?_cons_zero, Option.getD_some, Int.toNat_natCast, hx]
      exact hokR_of hpl hfp
    extract_lets +onlyGivenNames p7
    have e7 : p7 = pl[f] := by
      simp only [p7, hvarOf_of ev, hrowOf_of e1, PV.rI, PV.rN, PV.fld, PV.flds, List.getD, List.getElem?_cons_succ, List.getElem?_cons_zero, Option.getD_some, Int.toNat_natCast, hx, hrowOf_of hpl, hy]
    clear_value p7
    rcases hent f _ hy with hz | ⟨q, hz, hMq, hq⟩
    · rw [hz] at e7
      subst e7
      refine cF rfl ?_
      exact hbody h (Wk.start tb.b (Fr.refl _ _) tb (fun i hi => .inl hi) (Pr.same rfl) ⟨_, _, _, e1, hx⟩)
    · rw [hz] at e7
      subst e7
      refine cT rfl ?_
      refine hQ h q (Fr.refl _ _) (tb.mono (fun i hi => .inl hi) (fun i hi => ?_)) (Pr.same rfl) (.inl hMq) hq
      rcases hi with hi | hi
      · exact tb.b _ hi
      · exact hi.2
end Go.Proofs.Ytmdlhnojpcnnbaa
