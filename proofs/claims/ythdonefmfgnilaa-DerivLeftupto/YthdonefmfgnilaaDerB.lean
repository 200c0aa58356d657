/- What is left of a core behind a byte: the printed functions come to it. -/
import Derived.Test.YthdonefmfgnilaaDerS
import Derived.Test.YthdonefmfgnilaaBsHs
set_option linter.unusedSimpArgs false
set_option linter.unusedVariables false
set_option maxRecDepth 20000
namespace Go.Proofs.Ythdonefmfgnilaa
open Go Go.X

theorem spec_dtwo : Ult fun k => ∀ kd (x y : Cor) ret, G88 k kd x.pv y.pv ret = ret (Cor.two kd x y).pv := Ult.succ (Ult.of fun k kd x y ret => rfl)
theorem spec_by (b : Nat) (hb : b < 256) (v : Cor) : v.Ok → v.good = true → Ult fun k => ∀ ret, G59 k v.pv (b : Int) ret = ret (v.by' b).pv := by
  refine Cor.ind (p := fun v => v.Ok → v.good = true → Ult fun k => ∀ ret, G59 k v.pv (b : Int) ret = ret (v.by' b).pv) (fun kd s m l ih hok hg => ?_) v
  obtain ⟨hk, hfk⟩ := Cor.kids_of (Cor.good_iff.1 hg).2
  have hko : ∀ x ∈ l, x.Ok := fun x hx => Cor.Ok.kid hok hx
  have a0 : Ult fun k => ∀ x ∈ l, ∀ ret, G59 k x.pv (b : Int) ret = ret (x.by' b).pv := Ult.forall_mem fun x hx => ih x hx (hko x hx) (Cor.good_kid hg hx)
  have a1 : Ult fun k => ∀ x ∈ l, ∀ ret, G32 k x.pv ret = ret x.null := Ult.forall_mem fun x hx => spec_lNull x (hko x hx) (Cor.good_kid hg hx)
  refine Ult.succ ((a0.and (a1.and (spec_Has.and (spec_dnone.and (spec_dempty.and spec_dtwo))))).mono fun k ⟨h, hn, hh, h1, h2, h3⟩ ret => ?_)
  have hw : ∀ (kd' : Int) (x : Cor) ret, G88 k kd' x.pv (Cor.mk kd s m l).pv ret = ret (Cor.two kd' x (Cor.mk kd s m l)).pv := fun kd' x ret => h3 kd' x _ ret
  simp only [G59, f59_N, f59_e, Cor.fld0, Cor.fld1, Cor.fld3, PV.num, PV.els, Cor.kind, Cor.kidl, Cor.set]
  cases hk with
  | k0 e =>
    rcases e with rfl | rfl | rfl
    · rw [Cor.by0 _ _ _ _ (.inl rfl)]; simp [h1]
    · rw [Cor.by0 _ _ _ _ (.inr rfl)]; simp [h1]
    · rw [Cor.by2]
      simp only [dT (rfl : (2 : Int) = 2), cond_true, hh s b _ hb]
      cases s.testBit b
      · simp [h1]
      · simp [h2]
  | @k1 x e =>
    have hx := h x (by simp)
    rcases e with rfl | rfl | rfl
    · rw [Cor.by5]; simp [hx, hw]
    · rw [Cor.by6 _ _ _ _ _ (.inl rfl)]; simp [hx]
    · rw [Cor.by6 _ _ _ _ _ (.inr rfl)]; simp [hx]
  | @k2 x y e =>
    have hx := h x (by simp)
    have hy := h y (by simp)
    have nx := hn x (by simp)
    rcases e with rfl | rfl
    · rw [Cor.by3]; simp [hx, hy, nx, h3]
      cases x.null <;> simp [hy, h3]
    · rw [Cor.by4]; simp [hx, hy, h3]
end Go.Proofs.Ythdonefmfgnilaa
