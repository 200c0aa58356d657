/- Cores tidied: the printed function comes to it. -/
import Derived.Test.YthdonefmfgnilaaDerS
set_option linter.unusedSimpArgs false
set_option linter.unusedVariables false
set_option maxRecDepth 20000
namespace Go.Proofs.Ythdonefmfgnilaa
open Go Go.X

namespace Cor
theorem sames_len : ∀ (l l' : List Cor), sames l l' = true → l.length = l'.length
  | [], [], _ => rfl
  | [], _ :: _, h => by simp [sames] at h
  | _ :: _, [], h => by simp [sames] at h
  | x :: t, y :: u, h => by
    simp only [sames, Bool.and_eq_true] at h
    simp only [List.length_cons, sames_len t u h.2]
theorem same_dec (v w : Cor) : same v w = decide (v = w) := by
  rw [Bool.eq_iff_iff, same_iff, decide_eq_true_eq]
end Cor
theorem spec_Same (v : Cor) : v.Ok → v.Sm → ∀ w : Cor, w.Ok → Ult fun k => ∀ ret, G18 k v.pv w.pv ret = ret (Cor.same v w) := by
  refine Cor.ind (p := fun v => v.Ok → v.Sm → ∀ w : Cor, w.Ok → Ult fun k => ∀ ret, G18 k v.pv w.pv ret = ret (Cor.same v w)) (fun kd s m l ih hok hsm w hw => ?_) v
  obtain ⟨kd', s', m', l'⟩ := w
  have hlen : l.length ≤ 274877906944 := hsm.length
  have a0 : Ult fun k => ∀ x ∈ l, ∀ y ∈ l', ∀ ret, G18 k x.pv y.pv ret = ret (Cor.same x y) :=
    Ult.forall_mem fun x hx => Ult.forall_mem fun y hy => ih x hx (Cor.Ok.kid hok hx) (Cor.Sm.kid hsm hx) y (Cor.Ok.kid hw hy)
  have a1 : Ult fun k => ∀ ret, G58 k (.list (l.map Cor.pv)) (.list (l'.map Cor.pv)) ret = ret (Cor.sames l l') := Ult.succ ((a0.and (Ult.ge (l.length + 1))).mono fun k ⟨h, h2⟩ ret => by
    simp only [G58, f58_N, f58_e, f58_w1N, PV.els, List.length_map]
    by_cases hl : l.length = l'.length
    · simp only [decide_eq_true (show (l.length : Int) = (l'.length : Int) by omega), Bool.not_true, cond_false]
      have := loopR_up (body := f58_w1B k (G18 k) ret (.list (l.map Cor.pv)) (.list (l'.map Cor.pv))) (res := fun i => ret (Cor.sames (l.drop i) (l'.drop i))) l.length ?_ ?_ k 0 (by omega) (by omega)
      · exact this
      · intro nx
        simp only [f58_w1B, f58_w1b0N, f58_w1b0, PV.els, List.length_map, decide_eq_false (show ¬ (l.length : Int) < (l.length : Int) by omega), cond_false]
        rw [List.drop_length, hl, List.drop_length]; rfl
      · intro i hi nx hnx
        have hi' : i < l'.length := by omega
        simp only [f58_w1B, f58_w1b0N, f58_w1b0, PV.els, List.length_map, decide_eq_true (show (i : Int) < (l.length : Int) by omega), decide_eq_true (show (i : Int) < (l'.length : Int) by omega), decide_eq_true (show (0 : Int) ≤ (i : Int) by omega), Bool.and_self, cond_true, getD_map Cor.pv hi, getD_map Cor.pv hi', wrap_succ (show i < 1099511627777 by omega)]
        rw [h _ (List.getElem_mem hi) _ (List.getElem_mem hi'), drop_cons hi, drop_cons hi', hnx]
        simp only [Cor.sames]
        cases Cor.same l[i] l'[i] <;> rfl
    · simp only [decide_eq_false (show ¬ (l.length : Int) = (l'.length : Int) by omega), Bool.not_false, cond_true]
      refine congrArg ret ?_
      rw [Bool.eq_iff_iff]
      simp only [Bool.false_eq_true, false_iff]
      exact fun hs => hl (Cor.sames_len l l' hs))
  refine Ult.succ (a1.mono fun k h ret => ?_)
  simp only [G18, f18_N, f18_e, Cor.fld0, Cor.fld1, Cor.fld2, Cor.fld3, PV.num, h, Cor.kind, Cor.set, Cor.num, Cor.kidl, Cor.same, bs_beq (Cor.Ok.set hok) (Cor.Ok.set hw)]
  by_cases h1 : kd = kd'
  · by_cases h2 : s = s'
    · by_cases h3 : m = m'
      · simp [h1, h2, h3]
      · simp [h1, h2, h3]
    · simp [h1, h2]
  · simp [h1]

theorem set_last (a : List PV) (x y : PV) : List.set (a ++ [x]) ((a.length : Int)).toNat y = a ++ [y] := by
  rw [Int.toNat_natCast, List.set_append_right _ _ (Nat.le_refl _), Nat.sub_self]; rfl
theorem spec_dtidy (v : Cor) : v.Ok → v.fmd = true → v.Sm → Ult fun k => ∀ ret, G57 k v.pv ret = ret (v.tidy).pv := by
  refine Cor.ind (p := fun v => v.Ok → v.fmd = true → v.Sm → Ult fun k => ∀ ret, G57 k v.pv ret = ret (v.tidy).pv) (fun kd s m l ih hok hf hsm => ?_) v
  obtain ⟨hk, hfk⟩ := Cor.kids_of hf
  have hs : s < 2 ^ 256 := hok.2.1
  have hko : ∀ x ∈ l, x.Ok := fun x hx => Cor.Ok.kid hok hx
  have hks : ∀ x ∈ l, x.Sm := fun x hx => Cor.Sm.kid hsm hx
  have a0 : Ult fun k => ∀ x ∈ l, ∀ ret, G57 k x.pv ret = ret (x.tidy).pv := Ult.forall_mem fun x hx => ih x hx (hko x hx) (hfk x hx) (hks x hx)
  have a1 : Ult fun k => ∀ x ∈ l, ∀ y ∈ l, ∀ ret, G18 k (x.tidy).pv (y.tidy).pv ret = ret (decide (x.tidy = y.tidy)) :=
    Ult.forall_mem fun x hx => Ult.forall_mem fun y hy => (spec_Same _ (Cor.tidy_ok x (hko x hx)) (by
      have h1 := hks x hx
      have h2 := Cor.tidy_cnt x
      unfold Cor.Sm at h1 ⊢
      rw [Cor.size_cnt] at h1 ⊢
      omega) _ (Cor.tidy_ok y (hko y hy))).mono fun k h ret => by rw [h ret, Cor.same_dec]
  have hl2 : l.length ≤ 2 := by cases hk <;> simp
  refine Ult.succ ((a0.and (a1.and (spec_dnone.and (spec_dempty.and (spec_dis.and (spec_Len.and (Ult.ge (l.length + 2)))))))).mono fun k ⟨h, hsame, h1, h2, his, hlen, hge⟩ ret => ?_)
  rw [Cor.tidy_eq]
  simp only [G57, f57_N, f57_e, f57_w1N]
  have := vup (body := f57_w1B k (G18 k) (G57 k) (G84 k) (G85 k) (G86 k) (G87 k) ret (Cor.mk kd s m l).pv) (fun (i : Nat) (a : List PV) => ((i : Int), a)) (fun i a => a = ((l.take i).map Cor.tidy).map Cor.pv) (res := fun i a => ret (Cor.tidy1 kd s m (l.map Cor.tidy)).pv) l.length ?_ ?_ k 0 [] (by simp) (by omega) (by omega)
  · exact this
  · intro nx a ha
    rw [List.take_length] at ha
    subst ha
    simp only [f57_w1B, f57_w1b0N, f57_w1b0, Cor.fld0, Cor.fld1, Cor.fld2, Cor.fld3, PV.num, PV.els, Cor.kind, Cor.kidl, Cor.set, Cor.num, List.length_map, decide_eq_false (show ¬ (l.length : Int) < (l.length : Int) by omega), cond_false]
    have hpv : ∀ l : List Cor, PV.agg [PV.int kd, bs s, PV.int m, PV.list (l.map Cor.pv)] = (Cor.mk kd s m l).pv := fun l => by simp [Cor.pv, Cor.pvs_eq]
    cases hk with
    | k0 e =>
      have hpv := hpv []
      simp only [List.map_nil] at hpv
      rcases e with rfl | rfl | rfl
      · simp [Cor.tidy1, hpv]
      · simp [Cor.tidy1, hpv]
      · simp only [dT (rfl : (2 : Int) = 2), cond_true, hlen, List.map_nil, hpv, Cor.tidy1, if_pos]
        by_cases h0 : s = 0
        · rw [dT (show ((lst s).length : Int) = 0 by have := (lst_zero hs).2 h0; omega), cond_true, h1, if_pos h0]; simp
        · rw [dF (show ¬ ((lst s).length : Int) = 0 by have := mt (lst_zero hs).1 h0; omega), cond_false, if_neg h0]; simp
    | @k1 x e =>
      have hpv := hpv [x.tidy]
      simp only [List.map_cons, List.map_nil] at hpv
      have i0 := fun (kd : Int) r => his 0 kd [x.tidy] x.tidy r (by omega) rfl
      simp only [List.map_cons, List.map_nil] at i0
      rcases e with rfl | rfl | rfl
      · simp only [List.map_cons, List.map_nil, List.length_cons, List.length_nil, i0, h2, hpv, Cor.tidy1, dF (show ¬ (5 : Int) = 2 by decide), dF (show ¬ (5 : Int) = 3 by decide), dF (show ¬ (5 : Int) = 4 by decide), dT (rfl : (5 : Int) = 5), cond_false, cond_true]
        by_cases e0 : x.tidy.kind = 0
        · simp [e0]
        by_cases e1 : x.tidy.kind = 1
        · simp [e1]
        by_cases e5 : x.tidy.kind = 5
        · simp [e5]
        · simp [e0, e1, e5]
      · simp [Cor.tidy1]
      · simp [Cor.tidy1]
    | @k2 x y e =>
      have hpv := hpv [x.tidy, y.tidy]
      simp only [List.map_cons, List.map_nil] at hpv
      have i0 := fun (kd : Int) r => his 0 kd [x.tidy, y.tidy] x.tidy r (by omega) rfl
      have i1 := fun (kd : Int) r => his 1 kd [x.tidy, y.tidy] y.tidy r (by omega) rfl
      have hxy := hsame x (by simp) y (by simp)
      simp only [List.map_cons, List.map_nil] at i0 i1
      rcases e with rfl | rfl
      · simp only [List.map_cons, List.map_nil, List.length_cons, List.length_nil, i0, i1, h1, hpv, Cor.tidy1, dF (show ¬ (3 : Int) = 2 by decide), dT (rfl : (3 : Int) = 3), cond_false, cond_true]
        by_cases e0 : x.tidy.kind = 0
        · simp [e0]
        by_cases f0 : y.tidy.kind = 0
        · simp [e0, f0]
        by_cases e1 : x.tidy.kind = 1
        · simp [e1, f0]
        by_cases f1 : y.tidy.kind = 1
        · simp [e0, e1, f1]
        · simp [e0, f0, e1, f1]
      · simp only [List.map_cons, List.map_nil, List.length_cons, List.length_nil, i0, i1, hpv, Cor.tidy1, dF (show ¬ (4 : Int) = 2 by decide), dF (show ¬ (4 : Int) = 3 by decide), dT (rfl : (4 : Int) = 4), cond_false, cond_true]
        by_cases e0 : x.tidy.kind = 0
        · simp [e0]
        by_cases f0 : y.tidy.kind = 0
        · simp [e0, f0]
        · simp [e0, f0, hxy]
          by_cases ee : x.tidy = y.tidy
          · simp [ee]
          · simp [ee]
  · intro i hi nx a ha hnx
    subst ha
    have hlt : (((l.take i).map Cor.tidy).map Cor.pv).length = i := by simp; omega
    simp only [f57_w1B, f57_w1b0N, f57_w1b0, Cor.fld3, PV.els, List.length_map, decide_eq_true (show (i : Int) < (l.length : Int) by omega), decide_eq_true (show (0 : Int) ≤ (i : Int) by omega), Bool.and_self, cond_true, getD_map Cor.pv hi, wrap_succ (show i < 1099511627777 by omega)]
    rw [h _ (List.getElem_mem hi)]
    have hset := set_last (((l.take i).map Cor.tidy).map Cor.pv) (PV.agg [PV.int 0, PV.agg [PV.int 0, PV.int 0, PV.int 0, PV.int 0], PV.int 0, PV.list []]) (l[i].tidy).pv
    simp only [List.length_map] at hlt hset
    rw [roomy_of (by simp only [List.length_cons, List.length_nil, hlt]; omega) (by simp only [List.length_cons, List.length_nil, hlt]; omega)]
    simp only [List.length_append, List.length_map, List.length_cons, List.length_nil, hset]
    rw [dT (show (0 : Int) ≤ ((l.take i).length : Int) by omega), dT (show (((l.take i).length : Nat) : Int) < (((l.take i).length + (0 + 1) : Nat) : Int) by omega)]
    simp only [Bool.and_self, cond_true]
    refine hnx _ ?_
    rw [List.take_succ_eq_append_getElem hi, List.map_append, List.map_append]; rfl
end Go.Proofs.Ythdonefmfgnilaa
