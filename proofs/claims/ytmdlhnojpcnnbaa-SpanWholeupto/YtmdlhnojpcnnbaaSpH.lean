/- From here to there: the printed functions of package span. -/
import Derived.Test.YtmdlhnojpcnnbaaTbP
import Derived.Test.YtmdlhnojpcnnbaaSpN
set_option linter.unusedSimpArgs false
set_option linter.unusedVariables false
set_option maxRecDepth 20000
namespace Go.Proofs.Ytmdlhnojpcnnbaa
open Go Go.X

abbrev tSpans : TypeId := 90
structure Sx (M : Nat → Prop) (h : List HE) (ix : Nat) (T : Tab) : Prop where
  tb : Tb M h T
  v : h[ix]? = some (.var tSpans (.agg [.rp T.it, .int (T.s.length : Int)]))
theorem Sx.frame {M M' M2 : Nat → Prop} {h h' : List HE} {ix : Nat} {T : Tab} (a : Sx M h ix T) (t : Tb M' h' T) (f : Fr M2 h h') : Sx M' h' ix T := ⟨t, f.fix _ _ a.v (by rfl)⟩
theorem Sx.self {M : Nat → Prop} {h : List HE} {ix : Nat} {T : Tab} (a : Sx M h ix T) : Sx (Mx M h h) h ix T := ⟨a.tb.mx0, a.v⟩
theorem Sx.then {M : Nat → Prop} {h h1 h2 : List HE} {ix : Nat} {T : Tab} (hb : ∀ i, M i → i < h.length) (l1 : h.length ≤ h1.length) (l2 : h1.length ≤ h2.length) (a : Sx (Mx (Mx M h h1) h1 h2) h2 ix T) : Sx (Mx M h h2) h2 ix T := ⟨Tb.mx hb l1 l2 a.tb, a.v⟩

def SplitS (x y : Cor) (k : Nat) : Prop := ∀ (Q : R → Prop) (M : Nat → Prop) (h : List HE) (ix : Nat) (T : Tab) (n m f least t : Nat) (ret : Int → List HE → R), Sx M h ix T → Tok T → Cor.At T.P x n → Cor.At T.P y m → f ≤ T.s.length → t ≤ T.s.length → least ≤ t + 1 →
  (∀ h', Fr M h h' → Sx (Mx M h h') h' ix T → Q (ret (match Cor.mid T.s x y f least t with | some k => (k : Int) | none => -1) h')) → Q (G77 k (.rp ix) (n : Int) (m : Int) (f : Int) (least : Int) (t : Int) h ret)
theorem lastK_fresh {p : Nat → Bool} {least t : Nat} (h : ∀ j, least ≤ j → j ≤ t → p j = false) : lastK p least t = none := by
  cases e : lastK p least t with
  | none => rfl
  | some k =>
    obtain ⟨h1, h2, h3, _⟩ := lastK_some e
    rw [h k h1 h2] at h3; cases h3
theorem spec_split (x y : Cor) (hx : x.fmd = true) (hy : y.fmd = true) : Ult (SplitS x y) :=
  Ult.succ (((spec_Says x hx).and ((spec_Says y hy).and (Ult.ge 300))).mono fun k ⟨h1, h2, hge⟩ Q M h ix T n m f least t ret a tok hatx haty hf ht hl hQ => by
    have htn := tok.n
    simp (config := { zeta := false }) only [G77, f77_N, f77_e]
    have st0 : (((t : Int)), h) = (fun (i : Nat) (H : List HE) => ((t : Int) - (i : Int), H)) 0 h := by simp
    unfold f77_w1N
    rw [st0]
    refine vupQ (body := f77_w1B k (G52 k) ret (.rp ix) (n : Int) (m : Int) (f : Int) (least : Int) (t : Int)) Q (fun (i : Nat) (H : List HE) => ((t : Int) - (i : Int), H))
      (fun i H => Fr M h H ∧ Sx (Mx M h H) H ix T ∧ ∀ j, t < j + i → j ≤ t → ((x.ends T.s f).testBit j && (y.ends T.s j).testBit t) = false) (t + 1 - least) ?_ ?_ k 0 h ⟨Fr.refl _ _, a.self, fun j h1 h2 => by omega⟩ (by omega) (by omega)
    · rintro nx H ⟨fr, aH, hno⟩
      simp (config := { zeta := false }) only [f77_w1B, f77_w1b0N, f77_w1b0]
      refine cF (decide_eq_false (by omega)) ?_
      have := hQ H fr aH
      rw [Cor.mid, lastK_fresh (fun j h1 h2 => hno j (by omega) h2)] at this
      exact this
    · rintro i hi nx H ⟨fr, aH, hno⟩ hnx
      obtain ⟨j, hj⟩ : ∃ j, j = t - i := ⟨_, rfl⟩
      have ej : (t : Int) - (i : Int) = (j : Int) := by omega
      simp (config := { zeta := false }) only [f77_w1B, f77_w1b0N, f77_w1b0]
      rw [ej]
      have hw : IntKind.wrap .i64 ((j : Int) - 1) = (t : Int) - ((i + 1 : Nat) : Int) := by rw [wrap_i64 (by omega) (by omega)]; omega
      rw [hw]
      have e0 : ∀ H, Sx (Mx M h H) H ix T → PV.fld (hvarOf H (PV.rI (PV.rp ix))) 0 = .rp T.it := fun H a => by simp [hvarOf_of a.v, PV.rI, PV.fld, PV.flds]
      refine cT (decide_eq_true (by omega)) (cT rfl (cT (hokV_of aH.v) ?_))
      rw [e0 H aH]
      refine h1 Q _ H T n f j _ aH.tb tok hatx hf (by omega) (fun H1 fr1 tb1 => ?_)
      have frA := Mx_trans fr fr1
      have aA : Sx (Mx M h H1) H1 ix T := Sx.then a.tb.b fr.len fr1.len (aH.frame tb1 fr1)
      have step : ∀ H2, Fr M h H2 → Sx (Mx M h H2) H2 ix T → ((x.ends T.s f).testBit j && (y.ends T.s j).testBit t) = false → Q (nx ((t : Int) - ((i + 1 : Nat) : Int), H2)) := fun H2 f2 a2 hb => hnx H2 ⟨f2, a2, fun j' g1 g2 => by
        by_cases e : j' = j
        · subst e; exact hb
        · exact hno j' (by omega) g2⟩
      by_cases hb : (x.ends T.s f).testBit j = true
      · refine cT (by rw [hb]; rfl) (cT rfl (cT (hokV_of aA.v) ?_))
        rw [e0 H1 aA]
        refine h2 Q _ H1 T m j t _ aA.tb tok haty (by omega) (by omega) (fun H2 fr2 tb2 => ?_)
        have frB := Mx_trans frA fr2
        have aB : Sx (Mx M h H2) H2 ix T := Sx.then a.tb.b frA.len fr2.len (aA.frame tb2 fr2)
        by_cases hc : (y.ends T.s j).testBit t = true
        · refine cT hc ?_
          have := hQ H2 frB aB
          rw [Cor.mid, lastK_eq (m := j) (by omega) (by omega) (by rw [hb, hc]; rfl) (fun j' g1 g2 => hno j' (by omega) g2)] at this
          exact this
        · refine cF (by simpa using hc) ?_
          exact step H2 frB aB (by rw [hb]; simpa using hc)
      · refine cF (by rw [show (x.ends T.s f).testBit j = false by simpa using hb]; rfl) ?_
        exact step H1 frA aA (by rw [show (x.ends T.s f).testBit j = false by simpa using hb]; rfl))

def BestS (c : Cor) (k : Nat) : Prop := ∀ (Q : R → Prop) (M : Nat → Prop) (h : List HE) (ix : Nat) (T : Tab) (n f t : Nat) (ret : PV → List HE → R), Sx M h ix T → Tok T → Cor.At T.P c n → f ≤ T.s.length → (c.ends T.s f).testBit t = true →
  (∀ h', Fr M h h' → Sx (Mx M h h') h' ix T → Q (ret (Cor.best T.s c f t).pv h')) → Q (G53 k (.rp ix) (n : Int) (f : Int) (t : Int) h ret)
def OfS (c : Cor) (k : Nat) : Prop := ∀ (Q : R → Prop) (M : Nat → Prop) (h : List HE) (ix : Nat) (T : Tab) (n f t : Nat) (kd : Int) (ret : PV → List HE → R), Sx M h ix T → Tok T → Cor.At T.P c n → f ≤ T.s.length → (c.ends T.s f).testBit t = true →
  (∀ h', Fr M h h' → Sx (Mx M h h') h' ix T → Q (ret (Val.mk kd 0 [Cor.best T.s c f t]).pv h')) → Q (G78 k (.rp ix) kd (n : Int) (f : Int) (t : Int) h ret)
theorem spec_of {c : Cor} (h : Ult (BestS c)) : Ult (OfS c) := Ult.succ (h.mono fun k h1 Q M h ix T n f t kd ret a tok hat hf hb hQ => by
  simp (config := { zeta := false }) only [G78, f78_N, f78_e]
  refine h1 Q M h ix T n f t _ a tok hat hf hb (fun h' fr a' => ?_)
  have := hQ h' fr a'
  simpa [Val.pv, Val.pvs] using this)
theorem spec_tByte : Ult fun k => ∀ (M : Nat → Prop) (h : List HE) (T : Tab) (i : Nat) (ret : Int → List HE → R), Tb M h T → i < T.s.length → G76 k (.rp T.it) (i : Int) h ret = ret ((T.s.getD i 0 : Nat) : Int) h :=
  Ult.succ (Ult.of fun k M h T i ret tb hi => by
    have hv := tb.v
    simp (config := { zeta := false }) only [G76, f76_N, f76_e]
    have e1 : PV.fld (hvarOf h (PV.rI (.rp T.it))) 1 = .list (ints T.s) := by simp [hvarOf_of hv, PV.rI, PV.fld, PV.flds]
    rw [e1]
    refine cT (Q := fun r => r = _) rfl (cT (Q := fun r => r = _) (hokV_of hv) (cT (Q := fun r => r = _) ?_ ?_))
    · simp [PV.els, ints_len]; omega
    · simp [PV.els, ints, List.getD, hi, PV.num])
end Go.Proofs.Ytmdlhnojpcnnbaa
