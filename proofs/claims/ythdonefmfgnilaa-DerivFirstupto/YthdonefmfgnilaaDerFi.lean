/- The law DerivFirst comes out true. -/
import Derived.Test.YthdonefmfgnilaaDerTy
import Derived.Test.YthdonefmfgnilaaDerB
import Derived.Test.YthdonefmfgnilaaBsOr
set_option linter.unusedSimpArgs false
set_option linter.unusedVariables false
set_option maxRecDepth 20000
namespace Go.Proofs.Ythdonefmfgnilaa
open Go Go.X

namespace Cor
theorem first_lt (c : Cor) : c.Ok → first c < 2 ^ 256 := by
  refine ind (p := fun c => c.Ok → first c < 2 ^ 256) (fun k s n l ih h => ?_) c
  have hs : s < 2 ^ 256 := h.2.1
  have hN : ∀ i, firstN l i < 2 ^ 256 := by
    have hl : ∀ x ∈ l, first x < 2 ^ 256 := fun x hx => ih x hx (Ok.kid h hx)
    clear ih h
    induction l with
    | nil => intro i; simp [firstN]
    | cons x t iht =>
      intro i
      cases i with
      | zero => simpa [firstN] using hl x (by simp)
      | succ i => simpa [firstN] using iht (fun y hy => hl y (by simp [hy])) i
  have h0 := hN 0
  have h01 := Nat.or_lt_two_pow (hN 0) (hN 1)
  have hz : (0 : Nat) < 2 ^ 256 := by decide
  simp only [first]
  repeat' split
  all_goals assumption
end Cor
theorem spec_some (v : Cor) : v.Ok → v.fmd = true → Ult fun k => ∀ ret, G93 k v.pv ret = ret v.says := by
  refine Cor.ind (p := fun v => v.Ok → v.fmd = true → Ult fun k => ∀ ret, G93 k v.pv ret = ret v.says) (fun kd s m l ih hok hf => ?_) v
  obtain ⟨hk, hfk⟩ := Cor.kids_of hf
  have hs : s < 2 ^ 256 := hok.2.1
  have a0 : Ult fun k => ∀ x ∈ l, ∀ ret, G93 k x.pv ret = ret x.says := Ult.forall_mem fun x hx => ih x hx (Cor.Ok.kid hok hx) (hfk x hx)
  refine Ult.succ ((a0.and spec_Len).mono fun k ⟨h, hl⟩ ret => ?_)
  simp only [G93, f93_N, f93_e, Cor.fld0, Cor.fld1, Cor.fld3, PV.num, PV.els, Cor.kind, Cor.kidl, Cor.set]
  cases hk with
  | k0 e =>
    rcases e with rfl | rfl | rfl
    · simp [Cor.says]
    · simp [Cor.says]
    · simp only [dF (show ¬ (2 : Int) = 0 by decide), dT (rfl : (2 : Int) = 2), cond_true, cond_false, hl, Cor.says]
      by_cases h0 : s = 0
      · rw [dF (show ¬ (0 : Int) < ((lst s).length : Int) by have := (lst_zero hs).2 h0; omega)]; simp [h0]
      · rw [dT (show (0 : Int) < ((lst s).length : Int) by have := mt (lst_zero hs).1 h0; omega)]; simp [h0]
  | @k1 x e =>
    have hx := h x (by simp)
    rcases e with rfl | rfl | rfl <;> simp [Cor.says, Cor.saysN, hx]
  | @k2 x y e =>
    have hx := h x (by simp)
    have hy := h y (by simp)
    rcases e with rfl | rfl
    · rw [Cor.says3]; simp [hx, hy]; cases x.says <;> simp
    · rw [Cor.says4]; simp [hx, hy]; cases x.says <;> simp
theorem spec_lfirst (v : Cor) : v.Ok → v.fmd = true → Ult fun k => ∀ ret, G64 k v.pv ret = ret (bs v.first) := by
  refine Cor.ind (p := fun v => v.Ok → v.fmd = true → Ult fun k => ∀ ret, G64 k v.pv ret = ret (bs v.first)) (fun kd s m l ih hok hf => ?_) v
  obtain ⟨hk, hfk⟩ := Cor.kids_of hf
  have a0 : Ult fun k => ∀ x ∈ l, ∀ ret, G64 k x.pv ret = ret (bs x.first) := Ult.forall_mem fun x hx => ih x hx (Cor.Ok.kid hok hx) (hfk x hx)
  have a1 : Ult fun k => ∀ x ∈ l, ∀ ret, G93 k x.pv ret = ret x.says := Ult.forall_mem fun x hx => spec_some x (Cor.Ok.kid hok hx) (hfk x hx)
  have a2 : Ult fun k => ∀ x ∈ l, ∀ ret, G65 k x.pv ret = ret x.null := Ult.forall_mem fun x hx => spec_lnull x (hfk x hx)
  refine Ult.succ ((a0.and (a1.and (a2.and spec_Or))).mono fun k ⟨h, h1, h2, h3⟩ ret => ?_)
  simp only [G64, f64_N, f64_e, Cor.fld0, Cor.fld1, Cor.fld3, PV.num, PV.els, Cor.kind, Cor.kidl, Cor.set, bs_zero]
  cases hk with
  | k0 e =>
    rcases e with rfl | rfl | rfl <;> simp [Cor.first]
  | @k1 x e =>
    have hx := h x (by simp)
    rcases e with rfl | rfl | rfl <;> simp [Cor.first, Cor.firstN, hx]
  | @k2 x y e =>
    have hx := h x (by simp)
    have hy := h y (by simp)
    have sx := h1 x (by simp)
    have sy := h1 y (by simp)
    have nx := h2 x (by simp)
    rcases e with rfl | rfl
    · rw [Cor.first3]
      simp [hx, hy, sx, sy, nx]
      cases x.says
      · simp
      cases y.says
      · simp
      cases x.null
      · simp
      · simp [hy, h3]
    · rw [Cor.first4]; simp [hx, hy, h3]
theorem spec_lFirst (v : Cor) (hok : v.Ok) (hg : v.good = true) : Ult fun k => ∀ ret, G30 k v.pv ret = ret (bs v.first) :=
  Ult.succ (((spec_cGood v hok (Cor.good_sm hg)).and (spec_lfirst v hok (Cor.good_iff.1 hg).2)).mono fun k ⟨h1, h2⟩ ret => by
    simp only [G30, f30_N, f30_e, h1, h2, hg]; rfl)

theorem DerivFirst.main (c : Cor) (n : Int) (hc : c.Ok) (hn : (Lit.int .u8 n).wf = true) (hz : c.size ≤ 100000000) : ∃ k, G6 k c.pv n (fun y => some ([.bool y], [])) = some ([.bool true], []) := by
  have sc : c.Sm := by simp only [Cor.Sm]; omega
  obtain ⟨b, rfl, hb⟩ : ∃ b : Nat, n = (b : Int) ∧ b < 256 := ⟨n.toNat, by have := wf_u8 hn; omega, by have := wf_u8 hn; omega⟩
  by_cases hg : c.good = true
  · obtain ⟨hcnt, hf⟩ := Cor.good_iff.1 hg
    have yf := Cor.by_fmd b c hf
    have yo := Cor.by_ok b c hf hc
    have yc : (c.by' b).cnt ≤ 8000000 := Nat.le_trans (Cor.by_cnt b c hf) (by have := Nat.mul_le_mul (Nat.mul_le_mul_left 2 hcnt) hcnt; simpa using this)
    have ysm : (c.by' b).Sm := by unfold Cor.Sm; rw [Cor.size_cnt]; omega
    have key : (c.first).testBit b = ((c.by' b).tidy.null || decide ((c.by' b).tidy.first ≠ 0)) := by
      rw [← Cor.says_iff _ (Cor.tidy_fmd _ yf), Cor.tidy_says, Cor.by_says b c hf]
    have xo := Cor.tidy_ok _ yo
    have xs : (c.by' b).tidy.Sm := by
      have := Cor.tidy_cnt (c.by' b)
      unfold Cor.Sm; rw [Cor.size_cnt]; omega
    have t := spec_dtidy _ yo yf ysm
    generalize hx : (c.by' b).tidy = x at key xo xs t
    have xl := Cor.first_lt x xo
    have hBy : Ult fun k => ∀ ret, G27 k c.pv (b : Int) ret = if x.good = true then ret x.pv 0 else ret Cor.none'.pv 4 :=
      Ult.succ (((spec_cGood c hc sc).and ((spec_by b hb c hc hg).and (t.and (spec_cGood x xo xs)))).mono fun k ⟨h1, h2, h3, h4⟩ ret => by
        simp only [G27, f27_N, f27_e, h1, h2, h3, h4, hg, Bool.not_true, cond_false]
        cases x.good <;> rfl)
    by_cases xg : x.good = true
    · refine Ult.get (Ult.succ ((spec_awake.and ((spec_big c 60 (by omega)).and ((spec_csize c sc).and ((spec_cGood c hc sc).and (hBy.and ((spec_lFirst c hc hg).and (spec_Has.and ((spec_lNull x xo xg).and ((spec_lFirst x xo xg).and (spec_Of [] (by simp) (by simp))))))))))).mono fun k ⟨h0, h1, h2, h3, h4, h5, h6, h7, h8, h9⟩ => ?_))
      have h9' : ∀ ret, G33 k (.list []) ret = ret (bs 0) := fun ret => h9 ret
      simp only [G6, f6_N, f6_e, h0, h1, h2, h3, h4, h5, h6 _ b _ hb, h7, h8, h9', hg, xg, if_true, Bool.not_true, cond_false, cond_true, beq_self_eq_true, bs_beq xl (show 0 < 2 ^ 256 by decide), key]
      cases c.big 60
      case true => rfl
      by_cases l1 : 100 < c.cnt
      · rw [dT (show (100 : Int) < ((min c.cnt 100000 : Nat) : Int) by omega)]; rfl
      · rw [dF (show ¬ (100 : Int) < ((min c.cnt 100000 : Nat) : Int) by omega)]
        rcases Bool.eq_false_or_eq_true x.null with e | e
        · simp [e]
        · by_cases e0 : x.first = 0
          · simp [e, e0]
          · simp [e, e0]
    · refine Ult.get (Ult.succ ((spec_awake.and ((spec_big c 60 (by omega)).and ((spec_csize c sc).and ((spec_cGood c hc sc).and hBy)))).mono fun k ⟨h0, h1, h2, h3, h4⟩ => ?_))
      simp only [G6, f6_N, f6_e, h0, h1, h2, h3, h4, hg, if_neg xg]
      cases c.big 60
      case true => rfl
      by_cases l1 : 100 < c.cnt
      · rw [dT (show (100 : Int) < ((min c.cnt 100000 : Nat) : Int) by omega)]; rfl
      · rw [dF (show ¬ (100 : Int) < ((min c.cnt 100000 : Nat) : Int) by omega)]; rfl
  · have hg : c.good = false := by simpa using hg
    refine Ult.get (Ult.succ ((spec_awake.and ((spec_big c 60 (by omega)).and ((spec_csize c sc).and (spec_cGood c hc sc)))).mono fun k ⟨h0, h1, h2, h3⟩ => ?_))
    simp only [G6, f6_N, f6_e, h0, h1, h2, h3, hg]
    cases c.big 60
    case true => rfl
    by_cases l1 : 100 < c.cnt
    · rw [dT (show (100 : Int) < ((min c.cnt 100000 : Nat) : Int) by omega)]; rfl
    · rw [dF (show ¬ (100 : Int) < ((min c.cnt 100000 : Nat) : Int) by omega)]; rfl
end Go.Proofs.Ythdonefmfgnilaa
