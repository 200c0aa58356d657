/- What may come behind a part's kids: the printed function comes to it. -/
import Derived.Test.YthdonefmfgnilaaAhS
set_option linter.unusedSimpArgs false
set_option linter.unusedVariables false
set_option maxRecDepth 20000
namespace Go.Proofs.Ythdonefmfgnilaa
open Go Go.X

theorem bools_set (b : List Bool) (i : Nat) (v : Bool) : (bools b).set i (.bool v) = bools (b.set i v) := by simp [bools, List.map_set]
theorem bools_len (b : List Bool) : (bools b).length = b.length := by simp [bools]
def bothQ (s : List Nat) (pa : List Bool) (y : Cor) (i : Nat) : List Bool := (List.range (s.length + 1)).map fun j => if j < i then intoN s pa y j j else false
theorem bothQ_len (s : List Nat) (pa : List Bool) (y : Cor) (i : Nat) : (bothQ s pa y i).length = s.length + 1 := by simp [bothQ]
theorem bothQ_zero (s : List Nat) (pa : List Bool) (y : Cor) : bothQ s pa y 0 = List.replicate (s.length + 1) false := by
  simp [bothQ, List.map_const']
theorem bothQ_succ (s : List Nat) (pa : List Bool) (y : Cor) {i : Nat} (hi : i < s.length + 1) : (bothQ s pa y i).set i (intoN s pa y i i) = bothQ s pa y (i + 1) := by
  refine List.ext_getElem (by simp [bothQ]) fun j h1 h2 => ?_
  simp only [bothQ, List.getElem_set, List.getElem_map, List.getElem_range]
  by_cases e : i = j
  · subst e; simp
  · rw [if_neg e]
    by_cases hj : j < i
    · rw [if_pos hj, if_pos (by omega)]
    · rw [if_neg hj, if_neg (by omega)]
theorem bothQ_last (s : List Nat) (pa : List Bool) (y : Cor) : bothQ s pa y (s.length + 1) = bothP s pa y := by
  refine List.ext_getElem (by simp [bothQ, bothP]) fun j h1 h2 => ?_
  simp only [bothQ, bothP, List.getElem_map, List.getElem_range]
  rw [if_pos (by simpa [bothP] using h2)]
theorem rI_rp (i : Nat) : PV.rI (.rp i) = i := rfl

theorem spec_w4 {k : Nat} {y : Cor} (hy : intoS y k) (hge : 300 ≤ k) (Q : R → Prop) {h0 h : List HE} {ia ipa : Nat} {T : Tab} {past : List (Option (List Bool))} {pa : List Bool} {k0 k1 ik : Nat} {cpv : PV} (ret : List HE → R) (a : An h0 h ia ipa T past) (tok : Tok T)
    (hat : Cor.At T.P y k1) (h1 : past[k1]? = some (some pa)) (hk0 : k0 < past.length) (hik : h[ik]? = some (.row tInt (ints [k0, k1]))) (hQ : ∀ h', An h0 h' ia ipa T (past.set k0 (some (bothP T.s pa y))) → Q (ret h')) :
    Q (f69_w4N k (G70 k) ret (.rp ia) (.agg [cpv, .rs ik 2]) h 0 (h ++ [HE.row tBool (List.replicate (T.s.length + 1) (.bool false))])) := by
  have htn := tok.n
  have hv := a.1.v
  obtain ⟨l, p1, p2, p3⟩ := a.1.p
  have ew : IntKind.wrap .i64 ((PV.num (PV.fld (hvarOf h (PV.rI (PV.rp ia))) 1)) + (1 : Int)) = ((T.s.length + 1 : Nat) : Int) := by
    simp only [rI_rp, hvarOf_of hv, PV.fld, PV.flds, PV.num, List.getD, List.getElem?_cons_succ, List.getElem?_cons_zero, Option.getD_some]
    exact wrap_succ (by omega)
  have hne : ∀ (j m : Nat), l[j]? ≠ some (PV.rs h.length m) := fun j m e => by have := a.lt p1 e; omega
  refine vupQ (body := f69_w4B k (G70 k) ret (.rp ia) (.agg [cpv, .rs ik 2]) h) Q (fun i (H : List HE) => ((i : Int), H))
    (fun i H => An h0 H ia ipa T past ∧ H[h.length]? = some (.row tBool (bools (bothQ T.s pa y i))) ∧ H[ipa]? = some (.row tPast l) ∧ H[ik]? = some (.row tInt (ints [k0, k1]))) (T.s.length + 1) ?_ ?_ k 0 _ ⟨a.push _, by rw [push_eq, bothQ_zero]; simp [bools], push_some p1, push_some hik⟩ (by omega) (by omega)
  · rintro nx H ⟨aH, q1, q2, q3⟩
    have hvH := aH.1.v
    simp (config := { zeta := false }) only [f69_w4B, f69_w4b0N, f69_w4b0]
    extract_lets +onlyGivenNames b44
    have e44 : b44 = false := by simp only [b44, ew, Int.toNat_natCast]; exact decide_eq_false (by omega)
    clear_value b44
    subst e44
    have e2 : PV.fld (hvarOf H (PV.rI (PV.rp ia))) 2 = .rs ipa past.length := by simp [hvarOf_of hvH, PV.rI, PV.fld, PV.flds]
    have e3 : PV.num (List.getD (hrowOf H (PV.rI (PV.fld (PV.agg [cpv, .rs ik 2]) 1))) ((0 : Int)).toNat PV.nil) = (k0 : Int) := by
      simp only [PV.fld, PV.flds, List.getD, List.getElem?_cons_succ, List.getElem?_cons_zero, Option.getD_some, PV.rI, hrowOf_of q3]
      rfl
    refine cF rfl (cT rfl (cT (hokV_of hvH) (cT rfl (cT (hokR_of (n := 0) q3 (by simp [ints])) (cT ?_ (cT ?_ ?_))))))
    · rw [e3, e2]; exact rb_of hk0
    · rw [e3, e2]; exact hokR_of q2 (by rw [p2]; exact hk0)
    extract_lets +onlyGivenNames h48
    have e48 : h48 = H.set ipa (.row tPast (l.set k0 (.rs h.length (T.s.length + 1)))) := by
      simp only [h48]
      rw [e2, e3, ew]
      simp only [PV.rI, Int.toNat_natCast, hrowOf_of q2]
    clear_value h48
    subst e48
    refine hQ _ (aH.setRef q2 ?_ (bothP_length _ _ _))
    rw [q1, bothQ_last]
  · rintro i hi nx H ⟨aH, q1, q2, q3⟩ hnx
    have hvH := aH.1.v
    simp (config := { zeta := false }) only [f69_w4B, f69_w4b0N, f69_w4b0]
    extract_lets +onlyGivenNames b44
    have e44 : b44 = true := by simp only [b44, ew, Int.toNat_natCast]; exact decide_eq_true (by omega)
    clear_value b44
    subst e44
    have e3 : PV.num (List.getD (hrowOf H (PV.rI (PV.fld (PV.agg [cpv, .rs ik 2]) 1))) ((1 : Int)).toNat PV.nil) = (k1 : Int) := by
      simp only [PV.fld, PV.flds, List.getD, List.getElem?_cons_succ, List.getElem?_cons_zero, Option.getD_some, PV.rI, hrowOf_of q3]
      rfl
    refine cT rfl (cT rfl (cT (hokR_of (n := 1) q3 (by simp [ints])) ?_))
    rw [e3]
    refine hy Q _ H ia ipa T past k1 i i [] pa _ aH.1 tok hat h1 (by omega) (by omega) (fun h' hfr hah => ?_)
    have a2 := aH.into hfr hah
    have q1' := hfr.fix _ _ q1 (by rfl)
    have q2' := hfr.fix _ _ q2 (by rfl)
    have q3' := hfr.fix _ _ q3 (by rfl)
    refine cT ?_ (cT ?_ ?_)
    · rw [ew]; exact rb_of hi
    · exact hokR_of q1' (by rw [bools_len, bothQ_len]; exact hi)
    extract_lets +onlyGivenNames h47
    have e47 : h47 = h'.set h.length (.row tBool (bools (bothQ T.s pa y (i + 1)))) := by
      simp only [h47, hrowOf_of q1', Int.toNat_natCast, bools_set, bothQ_succ T.s pa y hi]
    clear_value h47
    subst e47
    rw [wrap_succ (by omega)]
    have hlen := a.2.1
    have hneq : ∀ (i : Nat) x, h[i]? = some x → h.length ≠ i := fun i x hx => by have := lt_of_some hx; omega
    exact hnx _ ⟨a2.setB q2' q1' hlen hne, set_eq (lt_of_some q1'), by rw [set_ne (hneq _ _ p1)]; exact q2', by rw [set_ne (hneq _ _ hik)]; exact q3'⟩

theorem spec_w5 {k : Nat} {x : Cor} (hx : intoS x k) (hge : 300 ≤ k) (Q : R → Prop) {h0 h H0 : List HE} {ia ipa : Nat} {T : Tab} {past : List (Option (List Bool))} {pa : List Bool} {k0 ik : Nat} {cpv : PV} {l : List PV} (ret : List HE → R) (hh : h0.length ≤ h.length) (tok : Tok T)
    (hv : h[ia]? = some (.var tAhead (.agg [.rp T.it, .int (T.s.length : Int), .rs ipa past.length])))
    (a : An h0 H0 ia ipa T (past.set k0 (some pa))) (hat : Cor.At T.P x k0) (hk0 : k0 < past.length) (hpa : pa.length = T.s.length + 1) (hq : H0[h.length]? = some (.row tBool (bools pa))) (hl : H0[ipa]? = some (.row tPast l)) (hlk : l[k0]? = some (.rs h.length (T.s.length + 1))) (hne : ∀ (j m : Nat), l[j]? = some (.rs h.length m) → j = k0)
    (hik : H0[ik]? = some (.row tInt (ints [k0]))) (hipq : ipa ≠ h.length) (hikq : ik ≠ h.length)
    (hQ : ∀ h', An h0 h' ia ipa T (past.set k0 (some (starL T.s x (T.s.length + 1) pa))) → Q (ret h')) :
    Q (f69_w5N k (G70 k) ret (.rp ia) (.agg [cpv, .rs ik 1]) h (T.s.length : Int) H0) := by
  have htn := tok.n
  have ew : IntKind.wrap .i64 ((PV.num (PV.fld (hvarOf h (PV.rI (PV.rp ia))) 1)) + (1 : Int)) = ((T.s.length + 1 : Nat) : Int) := by
    simp only [rI_rp, hvarOf_of hv, PV.fld, PV.flds, PV.num, List.getD, List.getElem?_cons_succ, List.getElem?_cons_zero, Option.getD_some]
    exact wrap_succ (by omega)
  have st0 : (((T.s.length : Int)), H0) = (fun i (H : List HE) => ((T.s.length : Int) - (i : Int), H)) 0 H0 := by simp
  unfold f69_w5N
  rw [st0]
  refine vupQ (body := f69_w5B k (G70 k) ret (.rp ia) (.agg [cpv, .rs ik 1]) h) Q (fun i (H : List HE) => ((T.s.length : Int) - (i : Int), H))
    (fun i H => ∃ lc : List Bool, lc.length = T.s.length + 1 ∧ An h0 H ia ipa T (past.set k0 (some lc)) ∧ starL T.s x (T.s.length + 1) pa = starL T.s x (T.s.length + 1 - i) lc ∧ H[h.length]? = some (.row tBool (bools lc)) ∧ H[ipa]? = some (.row tPast l) ∧ H[ik]? = some (.row tInt (ints [k0]))) (T.s.length + 1) ?_ ?_ k 0 H0 ⟨pa, hpa, a, rfl, hq, hl, hik⟩ (by omega) (by omega)
  · rintro nx H ⟨lc, hlc, aH, hst, q1, q2, q3⟩
    simp (config := { zeta := false }) only [f69_w5B, f69_w5b0N, f69_w5b0]
    refine cF (decide_eq_false (by omega)) (hQ H ?_)
    rw [hst, Nat.sub_self]
    exact aH
  · rintro i hi nx H ⟨lc, hlc, aH, hst, q1, q2, q3⟩ hnx
    obtain ⟨m, hm⟩ : ∃ m, m = T.s.length - i := ⟨_, rfl⟩
    have em : (T.s.length : Int) - (i : Int) = (m : Int) := by omega
    have hmn : m < T.s.length + 1 := by omega
    have hnext : (T.s.length : Int) - ((i + 1 : Nat) : Int) = (m : Int) - 1 := by omega
    simp (config := { zeta := false }) only [f69_w5B, f69_w5b0N, f69_w5b0]
    rw [em]
    have hwm : IntKind.wrap .i64 ((m : Int) - 1) = (T.s.length : Int) - ((i + 1 : Nat) : Int) := by rw [hnext]; exact wrap_i64 (by omega) (by omega)
    rw [hwm]
    have hst2 : starL T.s x (T.s.length + 1) pa = starL T.s x (T.s.length + 1 - (i + 1)) (lc.set m (lc.getD m false || intoN T.s lc x m (m + 1))) := by
      rw [hst, show T.s.length + 1 - i = m + 1 by omega, starL, show T.s.length + 1 - (i + 1) = m by omega]
    have hrb : (true && decide ((0 : Int) ≤ (m : Int)) && decide ((m : Int) < (((IntKind.wrap .i64 ((PV.num (PV.fld (hvarOf h (PV.rI (PV.rp ia))) 1)) + (1 : Int))).toNat : Nat) : Int))) = true := by
      rw [ew]; exact rb_of hmn
    refine cT (decide_eq_true (by omega)) (cT hrb (cT (hokR_of q1 (by rw [bools_len, hlc]; exact hmn)) ?_))
    have ett : PV.tt (List.getD (hrowOf H h.length) ((m : Int)).toNat PV.nil) = lc.getD m false := by rw [hrowOf_of q1, bools_get (by omega)]
    have fin : ∀ (H2 : List HE) (v : Bool), An h0 H2 ia ipa T (past.set k0 (some lc)) → H2[h.length]? = some (.row tBool (bools lc)) → H2[ipa]? = some (.row tPast l) → H2[ik]? = some (.row tInt (ints [k0])) → v = (lc.getD m false || intoN T.s lc x m (m + 1)) →
        Q (nx ((T.s.length : Int) - ((i + 1 : Nat) : Int), H2.set h.length (.row tBool (List.set (hrowOf H2 h.length) ((m : Int)).toNat (.bool v))))) := fun H2 v a2 r1 r2 r3 hv => by
      rw [hrowOf_of r1, Int.toNat_natCast, bools_set]
      refine hnx _ ⟨lc.set m v, by simpa using hlc, ?_, by rw [hst2, hv], set_eq (lt_of_some r1), by rw [set_ne hipq.symm]; exact r2, by rw [set_ne hikq.symm]; exact r3⟩
      have := a2.setK r2 r1 hh hlk hne (x := lc.set m v) (b' := lc) (by simpa using hlc)
      rw [List.set_set] at this
      exact this
    by_cases hb : lc.getD m false = true
    · refine cF (by rw [ett, hb]; rfl) (cT hrb (cT (hokR_of q1 (by rw [bools_len, hlc]; exact hmn)) ?_))
      exact fin H true aH q1 q2 q3 (by rw [hb]; rfl)
    · have e3 : PV.num (List.getD (hrowOf H (PV.rI (PV.fld (PV.agg [cpv, .rs ik 1]) 1))) ((0 : Int)).toNat PV.nil) = (k0 : Int) := by
        simp only [PV.fld, PV.flds, List.getD, List.getElem?_cons_succ, List.getElem?_cons_zero, Option.getD_some, PV.rI, hrowOf_of q3]
        rfl
      refine cT (by rw [ett]; simpa using hb) (cT rfl (cT (hokR_of (n := 0) q3 (by simp [ints])) ?_))
      rw [e3, wrap_succ (by omega)]
      refine hx Q _ H ia ipa T _ k0 m (m + 1) [] lc _ aH.1 tok hat (by rw [List.getElem?_set_self hk0]) (by omega) (by omega) (fun h' hfr hah => ?_)
      have a2 := aH.into hfr hah
      have q1' := hfr.fix _ _ q1 (by rfl)
      refine cT hrb (cT (hokR_of q1' (by rw [bools_len, hlc]; exact hmn)) ?_)
      refine fin h' _ a2 q1' (hfr.fix _ _ q2 (by rfl)) (hfr.fix _ _ q3 (by rfl)) ?_
      have : lc.getD m false = false := by simpa using hb
      rw [this]; rfl
end Go.Proofs.Ythdonefmfgnilaa
