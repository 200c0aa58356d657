/- Nodes as the document has them: how many, how deep, alike, their sets: the printed functions come to it. -/
import Derived.Test.YtifnlmfhbepjcaaTrM
import Derived.Test.YtifnlmfhbepjcaaBlEq
set_option linter.unusedSimpArgs false
set_option linter.unusedVariables false
set_option maxRecDepth 20000
namespace Go.Proofs.Ytifnlmfhbepjcaa
open Go Go.X

/-- A set, as the document has it. -/
def rb (s : Nat) : PV := bl s.testBit
namespace Nd
mutual
def rpv : Nd → PV
  | mk k s a b n l => .agg [.int k, rb s, .int a, .int b, .int n, .list (rpvs l)]
def rpvs : List Nd → List PV
  | [] => []
  | v :: l => rpv v :: rpvs l
end
theorem rpvs_eq : ∀ l : List Nd, rpvs l = l.map rpv
  | [] => rfl
  | v :: l => by simp [rpvs, rpvs_eq l]
theorem rpv_mk (k : Int) (s : Nat) (a b n : Int) (l : List Nd) : (mk k s a b n l).rpv = .agg [.int k, rb s, .int a, .int b, .int n, .list (l.map rpv)] := by rw [rpv, rpvs_eq]
@[simp] theorem rfld0 (v : Nd) : PV.fld v.rpv 0 = .int v.kind := by cases v; rfl
@[simp] theorem rfld1 (v : Nd) : PV.fld v.rpv 1 = rb v.set := by cases v; rfl
@[simp] theorem rfld2 (v : Nd) : PV.fld v.rpv 2 = .int v.lo := by cases v; rfl
@[simp] theorem rfld3 (v : Nd) : PV.fld v.rpv 3 = .int v.hi := by cases v; rfl
@[simp] theorem rfld4 (v : Nd) : PV.fld v.rpv 4 = .int v.num := by cases v; rfl
@[simp] theorem rfld5 (v : Nd) : PV.fld v.rpv 5 = .list (v.kidl.map rpv) := by cases v; simp [rpv, PV.fld, PV.flds, kidl, rpvs_eq]
end Nd

theorem spec_own : Ult fun k => ∀ (s : Nat) ret, G58 k (bs s) ret = ret (rb s) :=
  Ult.succ (spec_From.mono fun k h s ret => by simp only [G58, f58_N, f58_e, h, rb])
theorem spec_node (v : Nd) : v.size ≤ 100000000 → Ult fun k => ∀ ret, G62 k v.pv ret = ret v.rpv := by
  refine Nd.ind (p := fun v => v.size ≤ 100000000 → Ult fun k => ∀ ret, G62 k v.pv ret = ret v.rpv) (fun kd s a b m l ih hsz => ?_) v
  simp only [Nd.size] at hsz
  have hlen : l.length ≤ 100000000 := Nat.le_trans (Nd.length_le_sizes l) (by omega)
  have hall : Ult fun k => ∀ x ∈ l, ∀ ret, G62 k x.pv ret = ret x.rpv := Ult.forall_mem fun x hx => ih x hx (by have := Nd.size_le_of_mem hx; omega)
  refine Ult.succ ((hall.and (spec_own.and (Ult.ge (l.length + 2)))).mono fun k ⟨h1, h2, h3⟩ ret => ?_)
  simp only [G62, f62_N, f62_e, f62_w1N, Nd.fld1, h2]
  rw [Nd.rpv_mk]
  cases l with
  | nil =>
    obtain ⟨n, rfl⟩ : ∃ n, k = n + 1 := ⟨k - 1, by omega⟩
    rw [vsucc]
    simp only [f62_w1B, f62_w1b0N, f62_w1b0, Sum.elim_inl, Nd.fld0, Nd.fld2, Nd.fld3, Nd.fld4, Nd.fld5, PV.els, PV.num, Nd.kidl, List.map_nil, List.length_nil, Nd.kind, Nd.set, Nd.lo, Nd.hi, Nd.num, dF (show ¬ (0 : Int) < ((0 : Nat) : Int) by omega), cond_false]
  | cons x t =>
    obtain ⟨n, rfl⟩ : ∃ n, k = n + 1 := ⟨k - 1, by omega⟩
    simp only [List.length_cons] at hlen h3
    have hget : List.getD ((x :: t).map Nd.pv) ((0 : Int)).toNat PV.nil = x.pv := rfl
    rw [vsucc]
    simp only [f62_w1B, f62_w1b0N, f62_w1b0, Sum.elim_inl, Nd.fld5, PV.els, Nd.kidl, List.length_map, List.length_cons, dT (show (0 : Int) < ((t.length + 1 : Nat) : Int) by omega), dT (show (0 : Int) ≤ 0 by omega), Bool.and_self, cond_true, hget, h1 x (by simp)]
    have := vup (body := f62_w1B (n + 1) (G58 (n + 1)) (G62 (n + 1)) ret (Nd.mk kd s a b m (x :: t)).pv (rb s)) (fun (i : Nat) (_ : Unit) => (.inr ((i : Int), ((x :: t).take i).map Nd.rpv) : Sum Unit (Int × List PV))) (fun i _ => True) (res := fun i _ => ret (PV.agg [PV.int kd, rb s, PV.int a, PV.int b, PV.int m, PV.list ((x :: t).map Nd.rpv)])) (x :: t).length ?_ ?_ n 1 () trivial (by simp) (by simp only [List.length_cons]; omega)
    · exact this
    · intro nx _ _
      simp only [f62_w1B, f62_w1b1N, f62_w1b1, Sum.elim_inr, Nd.fld0, Nd.fld2, Nd.fld3, Nd.fld4, Nd.fld5, PV.els, PV.num, Nd.kidl, Nd.kind, Nd.lo, Nd.hi, Nd.num, List.length_map, dF (show ¬ ((x :: t).length : Int) < ((x :: t).length : Int) by omega), cond_false, List.take_length]
    · intro i hi nx _ _ hnx
      have hti : ((x :: t).take i).length = i := by rw [List.length_take]; omega
      have hnx := hnx () trivial
      simp only [f62_w1B, f62_w1b1N, f62_w1b1, Sum.elim_inr, Nd.fld5, PV.els, Nd.kidl, List.length_map, dT (show (i : Int) < ((x :: t).length : Int) by omega), dT (show (0 : Int) ≤ (i : Int) by omega), Bool.and_self, cond_true, getD_map Nd.pv hi, wrap_succ (show i < 1099511627777 by simp only [List.length_cons] at hi; omega)]
      rw [h1 _ (List.getElem_mem hi), hti, roomy_of (by simp only [List.length_cons, List.length_nil] at hi ⊢; omega) (by simp only [List.length_cons, List.length_nil] at hi ⊢; omega)]
      simp only [Bool.and_self, cond_true]
      rw [← hnx]
      rw [show ((x :: t).take (i + 1)) = (x :: t).take i ++ [(x :: t)[i]] from (List.take_append_getElem hi).symm, List.map_append]
      rfl

theorem spec_rSize (v : Nd) : v.Sm → Ult fun k => ∀ (n : Nat) ret, n ≤ 200000 → G59 k v.rpv (n : Int) ret = ret ((min v.cnt n : Nat) : Int) := by
  refine Nd.ind (p := fun v => v.Sm → Ult fun k => ∀ (n : Nat) ret, n ≤ 200000 → G59 k v.rpv (n : Int) ret = ret ((min v.cnt n : Nat) : Int)) (fun kd s a b m l ih hsm => ?_) v
  have hall : Ult fun k => ∀ x ∈ l, ∀ (n : Nat) ret, n ≤ 200000 → G59 k x.rpv (n : Int) ret = ret ((min x.cnt n : Nat) : Int) := Ult.forall_mem fun x hx => ih x hx (Nd.Sm.kid hsm hx)
  refine Ult.succ ((hall.and (Ult.ge (l.length + 2))).mono fun k ⟨h1, h2⟩ n ret hn => ?_)
  have hlen : l.length ≤ 274877906944 := hsm.length
  simp only [G59, f59_N, f59_e, f59_w1N]
  have := vup (body := f59_w1B k (G59 k) ret (Nd.mk kd s a b m l).rpv (n : Int)) (fun (i : Nat) (a : Nat) => ((a : Int), (i : Int))) (fun i a => a ≤ n + 1) (res := fun i a => ret ((min (a + Nd.cnts (l.drop i)) n : Nat) : Int)) l.length ?_ ?_ k 0 1 (by omega) (by omega) (by omega)
  · rw [show (min (Nd.mk kd s a b m l).cnt n) = min (1 + Nd.cnts (l.drop 0)) n by simp only [Nd.cnt, List.drop_zero]; omega]; exact this
  · intro nx a ha
    simp only [f59_w1B, f59_w1b0N, f59_w1b0, Nd.rfld5, PV.els, Nd.kidl, List.length_map, dF (show ¬ (l.length : Int) < (l.length : Int) by omega), List.drop_length, Nd.cnts, Nat.add_zero]
    by_cases c : n < a
    · rw [dT (show (n : Int) < (a : Int) by omega), show min a n = n by omega]; rfl
    · rw [dF (show ¬ (n : Int) < (a : Int) by omega), show min a n = a by omega]; rfl
  · intro i hi nx a ha hnx
    simp only [f59_w1B, f59_w1b0N, f59_w1b0, Nd.rfld5, PV.els, Nd.kidl, List.length_map, dT (show (i : Int) < (l.length : Int) by omega), dT (show (0 : Int) ≤ (i : Int) by omega), Bool.and_self, beq_self_eq_true, cond_true, getD_map Nd.rpv hi, wrap_succ (show i < 1099511627777 by omega)]
    rw [drop_cons hi]
    simp only [Nd.cnts]
    by_cases c : a ≤ n
    · rw [dT (show (a : Int) ≤ (n : Int) by omega), cond_true, wrap_i64 (show -9223372036854775808 ≤ (n : Int) - a by omega) (by omega), show (n : Int) - (a : Int) = ((n - a : Nat) : Int) by omega, h1 _ (List.getElem_mem hi) _ _ (by omega), wrap_i64 (by omega) (by omega)]
      have := hnx (a + min (l[i]).cnt (n - a)) (by omega)
      rw [show (a : Int) + ((min (l[i]).cnt (n - a) : Nat) : Int) = ((a + min (l[i]).cnt (n - a) : Nat) : Int) by omega]
      refine this.trans ?_
      congr 1; omega
    · rw [dF (show ¬ (a : Int) ≤ (n : Int) by omega), cond_false, dT (show (n : Int) < (a : Int) by omega), cond_true]
      congr 1; omega

theorem spec_rDepth (v : Nd) : v.Sm → ∀ n : Nat, n ≤ 1000 → Ult fun k => ∀ ret, G60 k v.rpv (n : Int) ret = ret ((min v.dep (n + 1) : Nat) : Int) := by
  refine Nd.ind (p := fun v => v.Sm → ∀ n : Nat, n ≤ 1000 → Ult fun k => ∀ ret, G60 k v.rpv (n : Int) ret = ret ((min v.dep (n + 1) : Nat) : Int)) (fun kd s a b m l ih hsm n hn => ?_) v
  have hall : Ult fun k => ∀ x ∈ l, 1 ≤ n → ∀ ret, G60 k x.rpv ((n - 1 : Nat) : Int) ret = ret ((min x.dep n : Nat) : Int) := Ult.forall_mem fun x hx => by
    by_cases h2 : 1 ≤ n
    · have := ih x hx (Nd.Sm.kid hsm hx) (n - 1) (by omega)
      rw [show n - 1 + 1 = n by omega] at this
      exact this.mono fun k h _ => h
    · exact Ult.of fun k h => absurd h h2
  refine Ult.succ ((hall.and (Ult.ge (l.length + 2))).mono fun k ⟨h1, h2⟩ ret => ?_)
  have hlen : l.length ≤ 274877906944 := hsm.length
  simp only [G60, f60_N, f60_e, f60_w1N]
  have hpos := Nd.dep_pos (Nd.mk kd s a b m l)
  by_cases c0 : n = 0
  · subst c0
    rw [dT (show ((0 : Nat) : Int) ≤ 0 by omega), cond_true, show min (Nd.mk kd s a b m l).dep (0 + 1) = 1 by omega]; rfl
  rw [dF (show ¬ (n : Int) ≤ 0 by omega), cond_false]
  have := vup (body := f60_w1B k (G60 k) ret (Nd.mk kd s a b m l).rpv (n : Int)) (fun (i : Nat) (a : Nat) => ((a : Int), (i : Int))) (fun i a => a ≤ n) (res := fun i a => ret ((max a (min (Nd.deps (l.drop i)) n) + 1 : Nat) : Int)) l.length ?_ ?_ k 0 0 (by omega) (by omega) (by omega)
  · rw [show min (Nd.mk kd s a b m l).dep (n + 1) = max 0 (min (Nd.deps (l.drop 0)) n) + 1 by simp only [Nd.dep, List.drop_zero]; omega]; exact this
  · intro nx a ha
    simp only [f60_w1B, f60_w1b0N, f60_w1b0, Nd.rfld5, PV.els, Nd.kidl, List.length_map, dF (show ¬ (l.length : Int) < (l.length : Int) by omega), cond_false, List.drop_length, Nd.deps]
    rw [wrap_i64 (by omega) (by omega)]
    congr 1; omega
  · intro i hi nx a ha hnx
    simp only [f60_w1B, f60_w1b0N, f60_w1b0, Nd.rfld5, PV.els, Nd.kidl, List.length_map, dT (show (i : Int) < (l.length : Int) by omega), dT (show (0 : Int) ≤ (i : Int) by omega), Bool.and_self, cond_true, getD_map Nd.rpv hi, wrap_succ (show i < 1099511627777 by omega)]
    rw [drop_cons hi, wrap_i64 (show -9223372036854775808 ≤ (n : Int) - 1 by omega) (by omega), show (n : Int) - 1 = ((n - 1 : Nat) : Int) by omega, h1 _ (List.getElem_mem hi) (by omega)]
    simp only [Nd.deps]
    by_cases c : a < min (l[i]).dep n
    · rw [dT (show (a : Int) < ((min (l[i]).dep n : Nat) : Int) by omega), cond_true]
      refine (hnx (min (l[i]).dep n) (by omega)).trans ?_
      congr 1; omega
    · rw [dF (show ¬ (a : Int) < ((min (l[i]).dep n : Nat) : Int) by omega), cond_false]
      refine (hnx a ha).trans ?_
      congr 1; omega

theorem spec_rSame (v : Nd) : v.Ok → v.Sm → ∀ w : Nd, w.Ok → Ult fun k => ∀ ret, G61 k v.rpv w.rpv ret = ret (Nd.same v w) := by
  refine Nd.ind (p := fun v => v.Ok → v.Sm → ∀ w : Nd, w.Ok → Ult fun k => ∀ ret, G61 k v.rpv w.rpv ret = ret (Nd.same v w)) (fun kd s x1 x2 m l ih hok hsm w hw => ?_) v
  obtain ⟨kd', s', y1, y2, m', l'⟩ := w
  have hlen : l.length ≤ 274877906944 := hsm.length
  have a0 : Ult fun k => ∀ x ∈ l, ∀ y ∈ l', ∀ ret, G61 k x.rpv y.rpv ret = ret (Nd.same x y) :=
    Ult.forall_mem fun x hx => Ult.forall_mem fun y hy => ih x hx (Nd.Ok.kid hok hx) (Nd.Sm.kid hsm hx) y (Nd.Ok.kid hw hy)
  refine Ult.succ ((a0.and (Ult.ge (l.length + 1))).mono fun k ⟨h, h2⟩ ret => ?_)
  simp only [G61, f61_N, f61_e, f61_w1N, Nd.rfld0, Nd.rfld1, Nd.rfld2, Nd.rfld3, Nd.rfld4, Nd.rfld5, PV.num, PV.els, List.length_map, Nd.kind, Nd.set, Nd.lo, Nd.hi, Nd.num, Nd.kidl, Nd.same, rb, bl_beq (Nd.Ok.set hok) (Nd.Ok.set hw)]
  cases decide (kd = kd')
  · rfl
  cases decide (s = s')
  · rfl
  cases decide (x1 = y1)
  · rfl
  cases decide (x2 = y2)
  · rfl
  cases decide (m = m')
  · rfl
  simp only [Bool.not_true, beq_self_eq_true, cond_true, Bool.true_and]
  by_cases hl : l.length = l'.length
  · simp only [dT (show (l.length : Int) = (l'.length : Int) by omega), Bool.not_true, cond_false]
    have := loopR_up (body := f61_w1B k (G61 k) ret (Nd.mk kd s x1 x2 m l).rpv (Nd.mk kd' s' y1 y2 m' l').rpv) (res := fun i => ret (Nd.sames (l.drop i) (l'.drop i))) l.length ?_ ?_ k 0 (by omega) (by omega)
    · exact this
    · intro nx
      simp only [f61_w1B, f61_w1b0N, f61_w1b0, Nd.rfld5, Nd.kidl, PV.els, List.length_map, dF (show ¬ (l.length : Int) < (l.length : Int) by omega), cond_false]
      rw [List.drop_length, hl, List.drop_length]; rfl
    · intro i hi nx hnx
      have hi' : i < l'.length := by omega
      simp only [f61_w1B, f61_w1b0N, f61_w1b0, Nd.rfld5, Nd.kidl, PV.els, List.length_map, dT (show (i : Int) < (l.length : Int) by omega), dT (show (i : Int) < (l'.length : Int) by omega), dT (show (0 : Int) ≤ (i : Int) by omega), Bool.and_self, cond_true, getD_map Nd.rpv hi, getD_map Nd.rpv hi', wrap_succ (show i < 1099511627777 by omega)]
      rw [h _ (List.getElem_mem hi) _ (List.getElem_mem hi'), drop_cons hi, drop_cons hi', hnx]
      simp only [Nd.sames]
      cases Nd.same l[i] l'[i] <;> rfl
  · simp only [dF (show ¬ (l.length : Int) = (l'.length : Int) by omega), Bool.not_false, cond_true]
    refine congrArg ret ?_
    rw [Bool.eq_iff_iff]
    simp only [Bool.false_eq_true, false_iff]
    exact fun hs => hl (Nd.sames_len l l' hs)

namespace Nd
mutual
/-- Have sets no kids? -/
def lf : Nd → Bool
  | mk k _ _ _ _ l => (decide (k ≠ 1) || decide (l.length = 0)) && lfs l
def lfs : List Nd → Bool
  | [] => true
  | v :: l => lf v && lfs l
end
theorem gd_lf (v : Nd) : ∀ g g', gd v g = some g' → lf v = true := by
  refine ind (p := fun v => ∀ g g', gd v g = some g' → lf v = true) (fun k s a b n l ih g g' h => ?_) v
  have hl : ∀ l : List Nd, (∀ v ∈ l, ∀ g g', gd v g = some g' → lf v = true) → ∀ g g', gds l g = some g' → lfs l = true := by
    intro l
    induction l with
    | nil => intro _ _ _ _; rfl
    | cons v l ih =>
      intro h1 g g' h
      simp only [gds] at h
      cases hv : gd v g with
      | none => rw [hv] at h; cases h
      | some g1 =>
        rw [hv] at h
        simp only [lfs, h1 v (by simp) _ _ hv, ih (fun x hx => h1 x (by simp [hx])) _ _ h, Bool.and_self]
  simp only [gd] at h
  obtain ⟨hc, h⟩ := cond_some h
  rw [Bool.and_eq_true] at hc
  have h1 : lfs l = true := by
    split at h
    · split at h
      · exact hl l ih _ _ h
      · cases h
    · exact hl l ih _ _ h
  simp only [lf, h1, Bool.and_true, Bool.or_eq_true, decide_eq_true_eq]
  by_cases hk : k = 1
  · right
    have := hc.2
    simp only [shp, if_pos hk, Bool.and_eq_true, decide_eq_true_eq] at this
    omega
  · exact .inl hk
end Nd
theorem spec_rsets (v : Nd) : v.Ok → v.Sm → v.lf = true → Ult fun k => ∀ (acc : List Nat) ret, (∀ s ∈ acc, s < 2 ^ 256) → acc.length + v.cnt ≤ 1000000 → G78 k v.rpv (acc.map rb) ret = ret ((v.sts acc).map rb) := by
  refine Nd.ind (p := fun v => v.Ok → v.Sm → v.lf = true → Ult fun k => ∀ (acc : List Nat) ret, (∀ s ∈ acc, s < 2 ^ 256) → acc.length + v.cnt ≤ 1000000 → G78 k v.rpv (acc.map rb) ret = ret ((v.sts acc).map rb)) (fun kd s a b m l ih hok hsm hlf => ?_) v
  have hkid : ∀ x ∈ l, x.Ok := fun x hx => Nd.Ok.kid hok hx
  have hs : s < 2 ^ 256 := hok.set
  simp only [Nd.lf, Bool.and_eq_true, Bool.or_eq_true, decide_eq_true_eq] at hlf
  obtain ⟨hlf0, hlfs⟩ := hlf
  have hlfk : ∀ x ∈ l, x.lf = true := by
    clear ih hok hsm hkid hlf0
    induction l with
    | nil => intro x hx; cases hx
    | cons y l ih =>
      simp only [Nd.lfs, Bool.and_eq_true] at hlfs
      intro x hx
      rcases List.mem_cons.1 hx with rfl | hx
      · exact hlfs.1
      · exact ih hlfs.2 x hx
  have hall : Ult fun k => ∀ x ∈ l, ∀ (acc : List Nat) ret, (∀ s ∈ acc, s < 2 ^ 256) → acc.length + x.cnt ≤ 1000000 → G78 k x.rpv (acc.map rb) ret = ret ((x.sts acc).map rb) :=
    Ult.forall_mem fun x hx => ih x hx (hkid x hx) (Nd.Sm.kid hsm hx) (hlfk x hx)
  have hlen : l.length ≤ 274877906944 := hsm.length
  refine Ult.succ ((hall.and (Ult.ge (l.length + 1000002))).mono fun k ⟨h1, h4⟩ acc ret hacc hb => ?_)
  simp only [Nd.cnt] at hb
  simp only [G78, f78_N, f78_e, f78_w1N, f78_w2N, Nd.rfld0, PV.num, Nd.kind, Nd.sts]
  by_cases hk : kd = 1
  · have hl0 : l = [] := by
      rcases hlf0 with h | h
      · exact absurd hk h
      · exact List.eq_nil_of_length_eq_zero h
    subst hl0
    rw [dT hk, cond_true]
    have e0 : Nd.stsL [] (if kd = 1 ∧ s ∉ acc then acc ++ [s] else acc) = if s ∈ acc.drop 0 then acc else acc ++ [s] := by
      simp only [Nd.stsL, List.drop_zero]
      by_cases hm : s ∈ acc <;> simp [hk, hm]
    rw [e0]
    have := loopR_up (body := f78_w1B k (G78 k) ret (Nd.mk kd s a b m []).rpv (acc.map rb)) (res := fun i => ret ((if s ∈ acc.drop i then acc else acc ++ [s]).map rb)) acc.length ?_ ?_ k 0 (by omega) (by omega)
    · exact this
    · intro nx
      simp only [f78_w1B, f78_w1b0N, f78_w1b0, Nd.rfld1, Nd.set, List.length_map, dF (show ¬ (acc.length : Int) < (acc.length : Int) by omega), cond_false, List.drop_length, List.not_mem_nil, if_false]
      rw [roomy_of (by simp only [List.length_cons, List.length_nil]; omega) (by simp only [List.length_cons, List.length_nil]; omega), List.map_append]
      rfl
    · intro i hi nx hnx
      simp only [f78_w1B, f78_w1b0N, f78_w1b0, Nd.rfld1, Nd.set, List.length_map, dT (show (i : Int) < (acc.length : Int) by omega), dT (show (0 : Int) ≤ (i : Int) by omega), Bool.and_self, cond_true, getD_map rb hi, wrap_succ (show i < 1099511627777 by omega)]
      rw [drop_cons hi, hnx, rb, rb, bl_beq (hacc _ (List.getElem_mem hi)) hs]
      by_cases hm : acc[i] = s
      · rw [dT hm, cond_true, if_pos (List.mem_cons.2 (.inl hm.symm))]
      · rw [dF hm, cond_false]
        by_cases hd : s ∈ acc.drop (i + 1)
        · rw [if_pos hd, if_pos (List.mem_cons.2 (.inr hd))]
        · rw [if_neg hd, if_neg fun h => (List.mem_cons.1 h).elim (fun h => hm h.symm) hd]
  · rw [dF hk, cond_false, if_neg fun h => hk h.1]
    have := vup (body := f78_w2B k (G78 k) ret (Nd.mk kd s a b m l).rpv) (fun (i : Nat) (a : List Nat) => ((i : Int), a.map rb)) (fun i a => (∀ s ∈ a, s < 2 ^ 256) ∧ a.length + Nd.cnts (l.drop i) ≤ 1000000) (res := fun i a => ret ((Nd.stsL (l.drop i) a).map rb)) l.length ?_ ?_ k 0 acc ⟨hacc, by simpa using (by omega : acc.length + Nd.cnts l ≤ 1000000)⟩ (by omega) (by omega)
    · exact this
    · intro nx a ha
      simp only [f78_w2B, f78_w2b0N, f78_w2b0, Nd.rfld5, PV.els, Nd.kidl, List.length_map, dF (show ¬ (l.length : Int) < (l.length : Int) by omega), cond_false, List.drop_length, Nd.stsL]
    · intro i hi nx a ⟨ha, hac⟩ hnx
      simp only [f78_w2B, f78_w2b0N, f78_w2b0, Nd.rfld5, PV.els, Nd.kidl, List.length_map, dT (show (i : Int) < (l.length : Int) by omega), dT (show (0 : Int) ≤ (i : Int) by omega), Bool.and_self, cond_true, getD_map Nd.rpv hi, wrap_succ (show i < 1099511627777 by omega)]
      rw [drop_cons hi] at hac
      rw [drop_cons hi]
      simp only [Nd.cnts] at hac
      rw [h1 _ (List.getElem_mem hi) a _ ha (by omega)]
      simp only [Nd.stsL]
      have := Nd.sts_all _ (hkid _ (List.getElem_mem hi)) a ha
      exact hnx _ ⟨this.1, by omega⟩
theorem spec_rSets (v : Nd) (hok : v.Ok) (hsm : v.Sm) (hlf : v.lf = true) (hc : v.cnt ≤ 100000) : Ult fun k => ∀ ret, G57 k v.rpv ret = ret (.list ((v.sts []).map rb)) :=
  Ult.succ ((spec_rsets v hok hsm hlf).mono fun k h ret => by
    simp only [G57, f57_N, f57_e]
    exact h [] _ (by simp) (by simp; omega))
end Go.Proofs.Ytifnlmfhbepjcaa
