/- The table's row: the printed function comes to where a part may end, and keeps the table. -/
import Derived.Test.YtmdlhnojpcnnbaaTbI
set_option linter.unusedSimpArgs false
set_option linter.unusedVariables false
set_option maxRecDepth 20000
namespace Go.Proofs.Ytmdlhnojpcnnbaa
open Go Go.X

def Mx (M : Nat → Prop) (h h' : List HE) : Nat → Prop := fun i => M i ∨ (h.length ≤ i ∧ i < h'.length)
structure Tok (T : Tab) : Prop where
  n : T.s.length ≤ 256
  b : ∀ x ∈ T.s, x < 256
  P : T.P.length ≤ 4000
def RowS (c : Cor) (k : Nat) : Prop := ∀ (Q : R → Prop) (M : Nat → Prop) (h : List HE) (T : Tab) (n f : Nat) (ret : PV → List HE → R), Tb M h T → Tok T → Cor.At T.P c n → f ≤ T.s.length →
  (∀ h' q, Fr M h h' → Tb (Mx M h h') h' T → Pr T h h' → Mx M h h' q → h'[q]? = some (.var tPlaces (ps (c.ends T.s f))) → Q (ret (.rp q) h')) → Q (G74 k (.rp T.it) (n : Int) (f : Int) h ret)
def Mw (M0 : Nat → Prop) (h0 : List HE) (q : Nat) (h : List HE) : Nat → Prop := fun i => M0 i ∨ (h0.length ≤ i ∧ i < h.length ∧ i ≠ q)
structure Wk (M0 : Nat → Prop) (h0 : List HE) (T : Tab) (n q : Nat) (h : List HE) (m : Nat) : Prop where
  b0 : ∀ i, M0 i → i < h0.length
  fr : Fr M0 h0 h
  tb : Tb (Mw M0 h0 q h) h T
  pr : Pr T h0 h
  rw : ∃ l j m', h[T.ie]? = some (.row tRows l) ∧ l[n]? = some (.rs j m')
  vq : h[q]? = some (.var tPlaces (ps m))
  q0 : h0.length ≤ q
theorem Wk.nM {M0 : Nat → Prop} {h0 : List HE} {T : Tab} {n q m : Nat} {h : List HE} (w : Wk M0 h0 T n q h m) : ¬ Mw M0 h0 q h q := fun a => by
  rcases a with a | ⟨_, _, a⟩
  · have := w.b0 _ a; have := w.q0; omega
  · exact a rfl
theorem Wk.upd {M0 : Nat → Prop} {h0 : List HE} {T : Tab} {n q m : Nat} {h : List HE} (w : Wk M0 h0 T n q h m) (m' : Nat) : Wk M0 h0 T n q (h.set q (.var tPlaces (ps m'))) m' := by
  have hM : Mw M0 h0 q (h.set q (.var tPlaces (ps m'))) = Mw M0 h0 q h := by unfold Mw; rw [List.length_set]
  have ht := w.tb.setO q (.var tPlaces (ps m')) _ w.nM w.vq (by rfl)
  obtain ⟨l, j, m1, h1, h2⟩ := w.rw
  have hne : q ≠ T.ie := fun e => by rw [← e, w.vq] at h1; cases h1
  have he : (h.set q (.var tPlaces (ps m')))[T.ie]? = h[T.ie]? := set_ne hne
  exact ⟨w.b0, w.fr.set q _ w.q0, by rw [hM]; exact ht, w.pr.trans (Pr.same he), ⟨l, j, m1, by rw [he]; exact h1, h2⟩, set_eq (lt_of_some w.vq), w.q0⟩
theorem Wk.call {M0 : Nat → Prop} {h0 : List HE} {T : Tab} {n q m : Nat} {h h' : List HE} (w : Wk M0 h0 T n q h m) (hf : Fr (Mw M0 h0 q h) h h') (ht : Tb (Mx (Mw M0 h0 q h) h h') h' T) (hp : Pr T h h') : Wk M0 h0 T n q h' m := by
  have hq := lt_of_some w.vq
  have hl := hf.len
  have hl0 := w.fr.len
  obtain ⟨l, j, m1, h1, h2⟩ := w.rw
  obtain ⟨l', h3, h4⟩ := hp _ _ _ _ h1 h2
  refine ⟨w.b0, w.fr.trans hf fun i hi hm => ?_, ht.mono (fun i hi => ?_) (fun i hi => ?_), w.pr.trans hp, ⟨l', j, m1, h3, h4⟩, hf.fix _ _ w.vq rfl, w.q0⟩
  · rcases hm with hm | hm
    · exact hm
    · omega
  · rcases hi with (hi | hi) | hi
    · exact .inl hi
    · exact .inr ⟨hi.1, by omega, hi.2.2⟩
    · exact .inr ⟨by omega, by omega, by omega⟩
  · rcases hi with hi | hi
    · have := w.b0 _ hi; omega
    · omega
theorem Wk.ne {M0 : Nat → Prop} {h0 : List HE} {T : Tab} {n q m q' : Nat} {h h' : List HE} (w : Wk M0 h0 T n q h m) (hq : Mx (Mw M0 h0 q h) h h' q') : q ≠ q' := fun e => by
  subst e
  rcases hq with hq | hq
  · exact w.nM hq
  · have := lt_of_some w.vq; omega
theorem Tb.part {M : Nat → Prop} {h : List HE} {T : Tab} (a : Tb M h T) {n : Nat} {c : Cor} {ks : List Nat} (hc : T.P[n]? = some (c, ks)) :
    ∃ l kp, h[T.ip]? = some (.row tPart l) ∧ l.length = T.P.length ∧ n < l.length ∧ l[n]? = some (.agg [c.pv, kp]) ∧ KS h kp ks := by
  obtain ⟨l, h1, h2, h3⟩ := a.p
  obtain ⟨kp, h4, h5⟩ := h3 n c ks hc
  exact ⟨l, kp, h1, h2, (List.getElem?_eq_some_iff.1 h4).1, h4, h5⟩
theorem KS.row {h : List HE} {kp : PV} {ks : List Nat} (a : KS h kp ks) (hne : ks ≠ []) : ∃ i, kp = .rs i ks.length ∧ h[i]? = some (.row tInt (ints ks)) := by
  rcases a with ⟨_, h⟩ | h
  · exact absurd h hne
  · exact h
theorem spec_end {M0 : Nat → Prop} {h0 : List HE} {T : Tab} {n q f : Nat} {h : List HE} {c : Cor} {ks : List Nat} (Q : R → Prop) (ret : PV → List HE → R) (hc : T.P[n]? = some (c, ks)) (hf : f ≤ T.s.length) (w : Wk M0 h0 T n q h (c.ends T.s f))
    (hQ : ∀ h' q, Fr M0 h0 h' → Tb (Mx M0 h0 h') h' T → Pr T h0 h' → Mx M0 h0 h' q → h'[q]? = some (.var tPlaces (ps (c.ends T.s f))) → Q (ret (.rp q) h')) :
    Q (rowEnd ret (.rp T.it) (n : Int) (f : Int) q h) := by
  have hv := w.tb.v
  obtain ⟨l, j, m, h1, h2⟩ := w.rw
  obtain ⟨c', ks', pl, h3, rfl, hMj, h4, h5, h6⟩ := w.tb.row_of h1 h2
  rw [hc] at h3; injection h3 with h3; injection h3 with h3 h3'; subst h3; subst h3'
  have hnP : n < T.P.length := (List.getElem?_eq_some_iff.1 hc).1
  have hnl : n < l.length := (List.getElem?_eq_some_iff.1 h2).1
  obtain ⟨s1, s2⟩ := w.tb.setEnt h1 h2 h4 hc w.vq
  simp only [rowEnd, PV.isRp, PV.rI, cond_true, Bool.true_and, hokV_of hv, hvarOf_of hv]
  simp only [PV.fld, PV.flds, List.getD, List.getElem?_cons_succ, List.getElem?_cons_zero, Option.getD_some, PV.rN, PV.rI, dT (show (0 : Int) ≤ (n : Int) by omega), dT (show (n : Int) < (T.P.length : Int) by omega), Bool.true_and, cond_true,
    hokR_of h1 hnl, hrowOf_of h1, Int.toNat_natCast, h2, dT (show (0 : Int) ≤ (f : Int) by omega), dT (show (f : Int) < ((T.s.length + 1 : Nat) : Int) by omega), hokR_of h4 (show f < pl.length by omega), hrowOf_of h4]
  refine cT (dT (show (n : Int) < (T.P.length : Int) by omega)) ?_
  have hjq : j ≠ q := fun e => by rw [e, w.vq] at h4; cases h4
  have hlq := lt_of_some w.vq
  have hl0 := w.fr.len
  refine hQ _ q (w.fr.setM j _ _ ?_ h4 (by rfl)) (s1.mono ?_ ?_) (w.pr.trans s2) (.inr ⟨w.q0, by rw [List.length_set]; exact hlq⟩) (by rw [set_ne hjq]; exact w.vq)
  · rcases hMj with hMj | hMj
    · exact .inl hMj
    · exact .inr hMj.1
  · intro i hi
    rcases hi with (hi | hi) | rfl
    · exact .inl hi
    · exact .inr ⟨hi.1, by rw [List.length_set]; omega⟩
    · exact .inr ⟨w.q0, by rw [List.length_set]; exact hlq⟩
  · intro i hi
    rw [List.length_set]
    rcases hi with hi | hi
    · have := w.b0 _ hi; omega
    · rw [List.length_set] at hi; exact hi.2
end Go.Proofs.Ytmdlhnojpcnnbaa
