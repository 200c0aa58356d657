/- Cores: the printed functions null, by, tidy come to what is said of them in plain terms. -/
import Derived.Test.YthdonefmfgnilaaDerF
import Derived.Test.YthdonefmfgnilaaBsLn
set_option linter.unusedSimpArgs false
set_option linter.unusedVariables false
set_option maxRecDepth 20000
namespace Go.Proofs.Ythdonefmfgnilaa
open Go Go.X

theorem lst_zero {n : Nat} (hn : n < 2 ^ 256) : (lst n).length = 0 ↔ n = 0 := by
  have e : lst 0 = [] := List.eq_nil_iff_forall_not_mem.2 fun b hb => by have := mem_lst.1 hb; simp at this
  constructor
  · intro h
    exact lst_inj hn (by decide) (by rw [e]; exact List.length_eq_zero_iff.1 h)
  · rintro rfl; rw [e]; rfl
namespace Cor
theorem good_iff {v : Cor} : v.good = true ↔ v.cnt ≤ 2000 ∧ v.fmd = true := by simp [good]
theorem sm_of {v : Cor} (h : v.cnt ≤ 1000000) : v.Sm := by unfold Sm; rw [size_cnt]; omega
theorem good_sm {v : Cor} (h : v.good = true) : v.Sm := sm_of (by have := (good_iff.1 h).1; omega)
theorem good_kid {k : Int} {s : Nat} {n : Int} {l : List Cor} {x : Cor} (h : (mk k s n l).good = true) (hx : x ∈ l) : x.good = true := by
  obtain ⟨h1, h2⟩ := good_iff.1 h
  refine good_iff.2 ⟨?_, (kids_of h2).2 x hx⟩
  simp only [cnt] at h1
  have := cnt_mem hx; omega
end Cor
theorem spec_dnone : Ult fun k => ∀ ret, G86 k ret = ret Cor.none'.pv := Ult.succ (Ult.of fun k ret => rfl)
theorem spec_dempty : Ult fun k => ∀ ret, G87 k ret = ret Cor.empty'.pv := Ult.succ (Ult.of fun k ret => rfl)
theorem spec_lnull (v : Cor) : v.fmd = true → Ult fun k => ∀ ret, G65 k v.pv ret = ret v.null := by
  refine Cor.ind (p := fun v => v.fmd = true → Ult fun k => ∀ ret, G65 k v.pv ret = ret v.null) (fun kd s m l ih hf => ?_) v
  obtain ⟨hk, hfk⟩ := Cor.kids_of hf
  have a0 : Ult fun k => ∀ x ∈ l, ∀ ret, G65 k x.pv ret = ret x.null := Ult.forall_mem fun x hx => ih x hx (hfk x hx)
  refine Ult.succ (a0.mono fun k h ret => ?_)
  simp only [G65, f65_N, f65_e, Cor.fld0, Cor.fld3, PV.num, PV.els, Cor.kind, Cor.kidl]
  cases hk with
  | k0 e => rcases e with rfl | rfl | rfl <;> simp [Cor.null]
  | @k1 x e =>
    have hx := h x (by simp)
    rcases e with rfl | rfl | rfl <;> simp [Cor.null, Cor.nullN, hx]
  | @k2 x y e =>
    have hx := h x (by simp)
    have hy := h y (by simp)
    rcases e with rfl | rfl <;> simp [Cor.null, Cor.nullN, hx, hy] <;> cases x.null <;> simp
theorem spec_lNull (v : Cor) (hok : v.Ok) (hg : v.good = true) : Ult fun k => ∀ ret, G32 k v.pv ret = ret v.null :=
  Ult.succ (((spec_cGood v hok (Cor.good_sm hg)).and (spec_lnull v (Cor.good_iff.1 hg).2)).mono fun k ⟨h1, h2⟩ ret => by
    simp only [G32, f32_N, f32_e, h1, h2, hg, beq_self_eq_true, cond_true])
theorem spec_dis : Ult fun k => ∀ (i kd : Int) (l : List Cor) (x : Cor) ret, 0 ≤ i → l[i.toNat]? = some x → G84 k i kd (l.map Cor.pv) ret = ret (decide (x.kind = kd)) (l.map Cor.pv) :=
  Ult.succ (Ult.of fun k i kd l x ret h0 h => by
    have hi := (List.getElem?_eq_some_iff.1 h).1
    simp only [G84, f84_N, f84_e, List.length_map, dT h0, dT (show i < (l.length : Int) by omega), Bool.and_self, cond_true]
    rw [show List.getD (l.map Cor.pv) i.toNat PV.nil = x.pv by rw [List.getD_eq_getElem?_getD, List.getElem?_map, h]; rfl, Cor.fld0]
    rfl)
end Go.Proofs.Ythdonefmfgnilaa
