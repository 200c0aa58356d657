/- What may come behind a part's kids: the printed function. -/
import Derived.Test.YthdonefmfgnilaaAhI
set_option linter.unusedSimpArgs false
set_option linter.unusedVariables false
set_option maxRecDepth 20000
namespace Go.Proofs.Ythdonefmfgnilaa
open Go Go.X

def ownT : HE → Bool
  | .var t _ => t == tTable || t == tPlaces
  | .row e _ => e == tPart || e == tInt || e == tRows || e == tPtr
  | _ => false
/-- A change of what is of another type. -/
theorem Tb.setT {M : Nat → Prop} {h : List HE} {T : Tab} (a : Tb M h T) (q : Nat) (x y : HE) (hy : h[q]? = some y) (ht : ownT y = false) : Tb M (h.set q x) T := by
  have hA : ∀ (i : Nat) (z : HE), h[i]? = some z → ownT z = true → (h.set q x)[i]? = some z := fun i z hz ho => by
    rw [set_ne (fun e => by subst e; rw [hy] at hz; injection hz with hz; subst hz; rw [ht] at ho; cases ho)]; exact hz
  obtain ⟨b, v, ⟨l, p1, p2, p3⟩, e0, l', e1, e2, e3, e4⟩ := a
  refine ⟨fun i hi => by simpa using b i hi, hA _ _ v (by simp [ownT]), ⟨l, hA _ _ p1 (by simp [ownT]), p2, fun n c ks hn => ?_⟩, e0, l', hA _ _ e1 (by simp [ownT]), e2, fun n x c ks hx hc => (e3 n x c ks hx hc).mono (fun _ h => h) fun i x hx _ he => hA i x hx ?_, e4⟩
  · obtain ⟨kp, hk, hs⟩ := p3 n c ks hn
    refine ⟨kp, hk, ?_⟩
    rcases hs with h | ⟨i, rfl, hi⟩
    · exact .inl h
    · exact .inr ⟨i, rfl, hA _ _ hi (by simp [ownT])⟩
  · cases x with
    | gone => cases he
    | var t p =>
      simp only [entT, beq_iff_eq] at he
      subst he; rfl
    | row e p =>
      simp only [entT, beq_iff_eq] at he
      subst he; rfl
def An (h0 h : List HE) (ia ipa : Nat) (T : Tab) (past : List (Option (List Bool))) : Prop :=
  Ah (fun i => h0.length ≤ i ∧ i < h.length) h ia ipa T past ∧ h0.length ≤ h.length ∧ (∀ i, i < h0.length → h[i]? = h0[i]?) ∧ h0.length ≤ ipa
theorem An.step {h0 h h' : List HE} {ia ipa : Nat} {T : Tab} {past past' : List (Option (List Bool))} (a : An h0 h ia ipa T past) (hl : h.length ≤ h'.length) (ho : ∀ i, i < h0.length → h'[i]? = h[i]?)
    (ht : Tb (fun i => h0.length ≤ i ∧ i < h.length) h' T) (hv : h'[ia]? = h[ia]?) (hn : past'.length = past.length) (hp : ∃ l, h'[ipa]? = some (.row tPast l) ∧ l.length = past'.length ∧ ∀ (j : Nat) x p, l[j]? = some x → past'[j]? = some p → PastR h' T.s.length x p) : An h0 h' ia ipa T past' := by
  obtain ⟨⟨tb, v, n, p⟩, h1, h2, h3⟩ := a
  exact ⟨⟨ht.mono (fun i hi => ⟨hi.1, by omega⟩) (fun i hi => hi.2), by rw [hv, hn]; exact v, by rw [hn]; exact n, hp⟩, by omega, fun i hi => by rw [ho i hi]; exact h2 i hi, h3⟩
theorem An.into {h0 h h' : List HE} {ia ipa : Nat} {T : Tab} {past : List (Option (List Bool))} (a : An h0 h ia ipa T past) (f : Fr (fun i => h0.length ≤ i ∧ i < h.length) h h') (ah : Ah (Mx (fun i => h0.length ≤ i ∧ i < h.length) h h') h' ia ipa T past) : An h0 h' ia ipa T past := by
  obtain ⟨_, h1, h2, h3⟩ := a
  have hl := f.len
  refine ⟨ah.frame (ah.tb.mono (fun i hi => ?_) (fun i hi => hi.2)) (Fr.refl (fun _ => False) _), by omega, fun i hi => ?_, h3⟩
  · rcases hi with hi | hi
    · exact ⟨hi.1, by omega⟩
    · exact ⟨by omega, hi.2⟩
  · rw [f.out i (by omega) (fun h => by omega)]; exact h2 i hi
theorem An.push {h0 h : List HE} {ia ipa : Nat} {T : Tab} {past : List (Option (List Bool))} (a : An h0 h ia ipa T past) (x : HE) : An h0 (h ++ [x]) ia ipa T past := by
  have ⟨⟨tb, v, n, l, p1, p2, p3⟩, h1, h2, h3⟩ := a
  refine a.step (by simp) (fun i hi => push_lt (by omega)) (tb.push x) (push_lt (lt_of_some v)) rfl ⟨l, push_some p1, p2, fun j y p hy hp => (p3 j y p hy hp).keep fun q b _ hq => push_some hq⟩
theorem An.lt {h0 h : List HE} {ia ipa : Nat} {T : Tab} {past : List (Option (List Bool))} (a : An h0 h ia ipa T past) {l : List PV} (hl : h[ipa]? = some (.row tPast l)) {j q m : Nat} (hj : l[j]? = some (.rs q m)) : q < h.length := by
  obtain ⟨⟨tb, v, n, l', p1, p2, p3⟩, h1, h2, h3⟩ := a
  rw [p1] at hl; injection hl with hl; injection hl with _ hl; subst hl
  have hlt : j < past.length := by rw [← p2]; exact (List.getElem?_eq_some_iff.1 hj).1
  rcases p3 j _ _ hj (List.getElem?_eq_getElem hlt) with ⟨_, h⟩ | ⟨b, q', _, h, _, h5⟩
  · cases h
  · injection h with h _; subst h; exact lt_of_some h5
/-- One part's rest. -/
theorem An.setRef {h0 h : List HE} {ia ipa : Nat} {T : Tab} {past : List (Option (List Bool))} (a : An h0 h ia ipa T past) {l : List PV} (hl : h[ipa]? = some (.row tPast l)) {k q : Nat} {b : List Bool} (hq : h[q]? = some (.row tBool (bools b))) (hb : b.length = T.s.length + 1) :
    An h0 (h.set ipa (.row tPast (l.set k (.rs q (T.s.length + 1))))) ia ipa T (past.set k (some b)) := by
  have ⟨⟨tb, v, n, l', p1, p2, p3⟩, h1, h2, h3⟩ := a
  rw [p1] at hl; injection hl with hl; injection hl with _ hl; subst hl
  have hne : ∀ (i : Nat) x, h[i]? = some x → (∀ l, x ≠ .row tPast l) → ipa ≠ i := fun i x hx hnx e => by subst e; rw [p1] at hx; injection hx with hx; exact hnx _ hx.symm
  have hlt := lt_of_some p1
  have keep : ∀ (i : Nat) b, h[i]? = some (.row tBool b) → (h.set ipa (.row tPast (l'.set k (.rs q (T.s.length + 1)))))[i]? = some (.row tBool b) := fun i b hi => by
    rw [set_ne (hne _ _ hi (fun l e => by injection e with e _; revert e; decide))]; exact hi
  refine a.step (by simp) (fun i hi => set_ne (by omega)) (tb.setT _ _ _ p1 (by rfl)) (set_ne (hne _ _ v (fun l e => by cases e))) (by simp) ⟨_, set_eq hlt, by simp [p2], fun j x p hx hp => ?_⟩
  rw [List.getElem?_set] at hx hp
  split at hx
  · rename_i e
    rw [if_pos e] at hp
    split at hx
    · split at hp
      · injection hx with hx; injection hp with hp; subst hx; subst hp
        exact .inr ⟨b, q, rfl, rfl, hb, keep _ _ hq⟩
      · cases hp
    · cases hx
  · rename_i e
    rw [if_neg e] at hp
    exact (p3 j x p hx hp).keep fun q b _ hq => keep _ _ hq
/-- A row that no part has. -/
theorem An.setB {h0 h : List HE} {ia ipa : Nat} {T : Tab} {past : List (Option (List Bool))} (a : An h0 h ia ipa T past) {l : List PV} (hl : h[ipa]? = some (.row tPast l)) {q : Nat} {b x : List PV} (hq : h[q]? = some (.row tBool b)) (hq0 : h0.length ≤ q) (hne : ∀ (j m : Nat), l[j]? ≠ some (.rs q m)) :
    An h0 (h.set q (.row tBool x)) ia ipa T past := by
  have ⟨⟨tb, v, n, l', p1, p2, p3⟩, h1, h2, h3⟩ := a
  rw [p1] at hl; injection hl with hl; injection hl with _ hl; subst hl
  have hne' : ∀ (i : Nat) x, h[i]? = some x → (∀ l, x ≠ .row tBool l) → q ≠ i := fun i x hx hnx e => by subst e; rw [hq] at hx; injection hx with hx; exact hnx _ hx.symm
  refine a.step (by simp) (fun i hi => set_ne (by omega)) (tb.setT _ _ _ hq (by rfl)) (set_ne (hne' _ _ v (fun l e => by cases e))) rfl ⟨_, by rw [set_ne (hne' _ _ p1 (fun l e => by injection e with e _; revert e; decide))]; exact p1, p2, fun j x p hx hp => (p3 j x p hx hp).keep fun q' b' e hq' => ?_⟩
  rw [set_ne (fun e' => by subst e'; subst e; exact hne _ _ hx)]; exact hq'
/-- A row that just one part has. -/
theorem An.setK {h0 h : List HE} {ia ipa : Nat} {T : Tab} {past : List (Option (List Bool))} (a : An h0 h ia ipa T past) {l : List PV} (hl : h[ipa]? = some (.row tPast l)) {q k : Nat} {x b' : List Bool} {b : List PV} (hq : h[q]? = some (.row tBool b)) (hq0 : h0.length ≤ q) (hk : l[k]? = some (.rs q (T.s.length + 1))) (hne : ∀ (j m : Nat), l[j]? = some (.rs q m) → j = k)
    (hx : x.length = T.s.length + 1) : An h0 (h.set q (.row tBool (bools x))) ia ipa T (past.set k (some x)) := by
  have ⟨⟨tb, v, n, l', p1, p2, p3⟩, h1, h2, h3⟩ := a
  rw [p1] at hl; injection hl with hl; injection hl with _ hl; subst hl
  have hne' : ∀ (i : Nat) x, h[i]? = some x → (∀ l, x ≠ .row tBool l) → q ≠ i := fun i x hx hnx e => by subst e; rw [hq] at hx; injection hx with hx; exact hnx _ hx.symm
  refine a.step (by simp) (fun i hi => set_ne (by omega)) (tb.setT _ _ _ hq (by rfl)) (set_ne (hne' _ _ v (fun l e => by cases e))) (by simp) ⟨_, by rw [set_ne (hne' _ _ p1 (fun l e => by injection e with e _; revert e; decide))]; exact p1, by simpa using p2, fun j y p hy hp => ?_⟩
  rw [List.getElem?_set] at hp
  split at hp
  · rename_i e
    subst e
    split at hp
    · injection hp with hp; subst hp
      rw [hk] at hy; injection hy with hy; subst hy
      exact .inr ⟨x, q, rfl, rfl, hx, set_eq (lt_of_some hq)⟩
    · cases hp
  · rename_i e
    refine (p3 j y p hy hp).keep fun q' b' e' hq' => ?_
    rw [set_ne (fun e2 => by subst e2; subst e'; exact e (hne _ _ hy).symm)]; exact hq'
end Go.Proofs.Ythdonefmfgnilaa
