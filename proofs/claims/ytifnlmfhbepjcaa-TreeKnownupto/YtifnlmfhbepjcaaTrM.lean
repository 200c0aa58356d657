/- All sets, each once; alike in all: the printed functions come to it. -/
import Derived.Test.YtifnlmfhbepjcaaTrH
set_option linter.unusedSimpArgs false
set_option linter.unusedVariables false
set_option maxRecDepth 20000
namespace Go.Proofs.Ytifnlmfhbepjcaa
open Go Go.X

namespace Nd
mutual
/-- All sets, each once, behind those that were had. -/
def sts : Nd → List Nat → List Nat
  | mk k s _ _ _ l, acc => stsL l (if k = 1 ∧ s ∉ acc then acc ++ [s] else acc)
def stsL : List Nd → List Nat → List Nat
  | [], acc => acc
  | v :: l, acc => stsL l (sts v acc)
end
theorem sts_all (v : Nd) : v.Ok → ∀ acc : List Nat, (∀ s ∈ acc, s < 2 ^ 256) → (∀ s ∈ sts v acc, s < 2 ^ 256) ∧ (sts v acc).length ≤ acc.length + v.cnt := by
  refine ind (p := fun v => v.Ok → ∀ acc : List Nat, (∀ s ∈ acc, s < 2 ^ 256) → (∀ s ∈ sts v acc, s < 2 ^ 256) ∧ (sts v acc).length ≤ acc.length + v.cnt) (fun k s a b n l ih hok acc ha => ?_) v
  have hl : ∀ (l : List Nd), (∀ v ∈ l, v.Ok) → (∀ v ∈ l, v.Ok → ∀ acc : List Nat, (∀ s ∈ acc, s < 2 ^ 256) → (∀ s ∈ sts v acc, s < 2 ^ 256) ∧ (sts v acc).length ≤ acc.length + v.cnt) → ∀ acc : List Nat, (∀ s ∈ acc, s < 2 ^ 256) → (∀ s ∈ stsL l acc, s < 2 ^ 256) ∧ (stsL l acc).length ≤ acc.length + cnts l := by
    intro l
    induction l with
    | nil => intro _ _ acc ha; exact ⟨ha, by simp [stsL, cnts]⟩
    | cons v l ih =>
      intro ho h acc ha
      have h1 := h v (by simp) (ho v (by simp)) acc ha
      have h2 := ih (fun x hx => ho x (by simp [hx])) (fun x hx => h x (by simp [hx])) _ h1.1
      simp only [stsL, cnts]
      exact ⟨h2.1, by omega⟩
  simp only [sts, cnt]
  by_cases c : k = 1 ∧ s ∉ acc
  · rw [if_pos c]
    have := hl l (ok_mk.1 hok).2.2.2.2.2 ih (acc ++ [s]) (fun x hx => by
      rcases List.mem_append.1 hx with h | h
      · exact ha x h
      · have : x = s := by simpa using h
        subst this; exact hok.set)
    rw [List.length_append, List.length_singleton] at this
    exact ⟨this.1, by omega⟩
  · rw [if_neg c]
    have := hl l (ok_mk.1 hok).2.2.2.2.2 ih acc ha
    exact ⟨this.1, by omega⟩
mutual
def same : Nd → Nd → Bool
  | mk k s a b n l, mk k' s' a' b' n' l' => decide (k = k') && (decide (s = s') && (decide (a = a') && (decide (b = b') && (decide (n = n') && sames l l'))))
def sames : List Nd → List Nd → Bool
  | [], [] => true
  | x :: t, y :: u => same x y && sames t u
  | _, _ => false
end
theorem sames_len : ∀ (l l' : List Nd), sames l l' = true → l.length = l'.length
  | [], [], _ => rfl
  | [], _ :: _, h => by simp [sames] at h
  | _ :: _, [], h => by simp [sames] at h
  | x :: t, y :: u, h => by
    simp only [sames, Bool.and_eq_true] at h
    simp only [List.length_cons, sames_len t u h.2]
theorem same_refl (v : Nd) : same v v = true := by
  refine Nd.rec (motive_1 := fun v => same v v = true) (motive_2 := fun l => sames l l = true) (fun k s a b n l ih => ?_) rfl (fun a l h1 h2 => ?_) v
  · simp [same, ih]
  · simp [sames, h1, h2]
end Nd

/-- The sets that were had, as a map. -/
def mpOf (acc : List Nat) : List PV := acc.map fun s => PV.agg [bs s, .bool true]
theorem mlook_mp {s : Nat} (hs : s < 2 ^ 256) : ∀ acc : List Nat, (∀ x ∈ acc, x < 2 ^ 256) → mlook (bs s) (PV.bool false) (mpOf acc) = .bool (decide (s ∈ acc))
  | [], _ => by simp [mpOf, mlook]
  | x :: acc, h => by
    have ih := mlook_mp hs acc fun y hy => h y (by simp [hy])
    have e : PV.fld (PV.agg [bs x, PV.bool true]) 0 = bs x := rfl
    have e1 : PV.fld (PV.agg [bs x, PV.bool true]) 1 = .bool true := rfl
    show (bif PV.beq (bs s) (PV.fld (PV.agg [bs x, PV.bool true]) 0) then PV.fld (PV.agg [bs x, PV.bool true]) 1 else mlook (bs s) (PV.bool false) (mpOf acc)) = _
    rw [e, e1, ih, bs_beq hs (h x (by simp))]
    by_cases hx : s = x
    · simp [hx]
    · simp [hx]
theorem mput_mp {s : Nat} (hs : s < 2 ^ 256) : ∀ acc : List Nat, (∀ x ∈ acc, x < 2 ^ 256) → s ∉ acc → mput (bs s) (PV.bool true) (mpOf acc) = mpOf (acc ++ [s])
  | [], _, _ => rfl
  | x :: acc, h, hn => by
    have ih := mput_mp hs acc (fun y hy => h y (by simp [hy])) (fun hy => hn (by simp [hy]))
    have e : PV.fld (PV.agg [bs x, PV.bool true]) 0 = bs x := rfl
    show (bif PV.beq (bs s) (PV.fld (PV.agg [bs x, PV.bool true]) 0) then PV.agg [bs s, PV.bool true] :: mpOf acc else PV.agg [bs x, PV.bool true] :: mput (bs s) (PV.bool true) (mpOf acc)) = _
    rw [e, ih, bs_beq hs (h x (by simp)), dF (fun hx => hn (by simp [hx]))]
    rfl
theorem spec_walk (v : Nd) : v.Ok → v.Sm → Ult fun k => ∀ (acc : List Nat) ret, (∀ s ∈ acc, s < 2 ^ 256) → acc.length + v.cnt ≤ 1000000000 → G76 k v.pv (mpOf acc) (acc.map bs) ret = ret (mpOf (v.sts acc)) ((v.sts acc).map bs) := by
  refine Nd.ind (p := fun v => v.Ok → v.Sm → Ult fun k => ∀ (acc : List Nat) ret, (∀ s ∈ acc, s < 2 ^ 256) → acc.length + v.cnt ≤ 1000000000 → G76 k v.pv (mpOf acc) (acc.map bs) ret = ret (mpOf (v.sts acc)) ((v.sts acc).map bs)) (fun kd s a b m l ih hok hsm => ?_) v
  have hkid : ∀ x ∈ l, x.Ok := fun x hx => Nd.Ok.kid hok hx
  have hs : s < 2 ^ 256 := hok.set
  have hall : Ult fun k => ∀ x ∈ l, ∀ (acc : List Nat) ret, (∀ s ∈ acc, s < 2 ^ 256) → acc.length + x.cnt ≤ 1000000000 → G76 k x.pv (mpOf acc) (acc.map bs) ret = ret (mpOf (x.sts acc)) ((x.sts acc).map bs) :=
    Ult.forall_mem fun x hx => ih x hx (hkid x hx) (Nd.Sm.kid hsm hx)
  have hlen : l.length ≤ 274877906944 := hsm.length
  refine Ult.succ ((hall.and (Ult.ge (l.length + 2))).mono fun k ⟨h1, h4⟩ acc ret hacc hb => ?_)
  simp only [Nd.cnt] at hb
  have loop : ∀ acc : List Nat, (∀ s ∈ acc, s < 2 ^ 256) → acc.length + Nd.cnts l ≤ 1000000000 → f76_w1N k (G76 k) ret (Nd.mk kd s a b m l).pv 0 (mpOf acc) (acc.map bs) = ret (mpOf (Nd.stsL l acc)) ((Nd.stsL l acc).map bs) := by
    intro acc hacc hb
    have := vup (body := f76_w1B k (G76 k) ret (Nd.mk kd s a b m l).pv) (fun (i : Nat) (a : List Nat) => ((i : Int), mpOf a, a.map bs)) (fun i a => (∀ s ∈ a, s < 2 ^ 256) ∧ a.length + Nd.cnts (l.drop i) ≤ 1000000000) (res := fun i a => ret (mpOf (Nd.stsL (l.drop i) a)) ((Nd.stsL (l.drop i) a).map bs)) l.length ?_ ?_ k 0 acc ⟨hacc, by simpa using hb⟩ (by omega) (by omega)
    · exact this
    · intro nx a ha
      simp only [f76_w1B, f76_w1b0N, f76_w1b0, Nd.fld5, PV.els, Nd.kidl, List.length_map, dF (show ¬ (l.length : Int) < (l.length : Int) by omega), cond_false, List.drop_length, Nd.stsL]
    · intro i hi nx a ⟨ha, hac⟩ hnx
      simp only [f76_w1B, f76_w1b0N, f76_w1b0, Nd.fld5, PV.els, Nd.kidl, List.length_map, dT (show (i : Int) < (l.length : Int) by omega), dT (show (0 : Int) ≤ (i : Int) by omega), Bool.and_self, cond_true, getD_map Nd.pv hi, wrap_succ (show i < 1099511627777 by omega)]
      rw [drop_cons hi] at hac
      rw [drop_cons hi]
      simp only [Nd.cnts] at hac
      rw [h1 _ (List.getElem_mem hi) a _ ha (by omega)]
      simp only [Nd.stsL]
      have := Nd.sts_all _ (hkid _ (List.getElem_mem hi)) a ha
      exact hnx _ ⟨this.1, by omega⟩
  simp only [G76, f76_N, f76_e, Nd.fld0, Nd.fld1, PV.num, Nd.kind, Nd.set, Nd.sts, mlook_mp hs acc hacc, PV.tt]
  by_cases h1 : kd = 1
  · by_cases hm : s ∈ acc
    · rw [dT h1, dT hm, if_neg (fun h => h.2 hm)]
      exact loop acc hacc (by omega)
    · rw [dT h1, dF hm, if_pos ⟨h1, hm⟩, mput_mp hs acc hacc hm, List.length_map, roomy_of (by simp only [List.length_cons, List.length_nil]; omega) (by simp only [List.length_cons, List.length_nil]; omega)]
      have := loop (acc ++ [s]) (fun x hx => by
        rcases List.mem_append.1 hx with h | h
        · exact hacc x h
        · have : x = s := by simpa using h
          subst this; exact hs) (by rw [List.length_append, List.length_singleton]; omega)
      rw [List.map_append] at this
      exact this
  · rw [dF h1, if_neg (fun h => h1 h.1)]
    exact loop acc hacc (by omega)
theorem spec_Sets (v : Nd) (hok : v.Ok) (hsm : v.Sm) (hc : v.cnt ≤ 1000000) : Ult fun k => ∀ ret, G53 k v.pv ret = ret (.list ((v.sts []).map bs)) :=
  Ult.succ ((spec_walk v hok hsm).mono fun k h ret => by
    simp only [G53, f53_N, f53_e]
    exact h [] _ (by simp) (by simp; omega))

theorem spec_Same (v : Nd) : v.Ok → v.Sm → ∀ w : Nd, w.Ok → Ult fun k => ∀ ret, G52 k v.pv w.pv ret = ret (Nd.same v w) := by
  refine Nd.ind (p := fun v => v.Ok → v.Sm → ∀ w : Nd, w.Ok → Ult fun k => ∀ ret, G52 k v.pv w.pv ret = ret (Nd.same v w)) (fun kd s x1 x2 m l ih hok hsm w hw => ?_) v
  obtain ⟨kd', s', y1, y2, m', l'⟩ := w
  have hlen : l.length ≤ 274877906944 := hsm.length
  have a0 : Ult fun k => ∀ x ∈ l, ∀ y ∈ l', ∀ ret, G52 k x.pv y.pv ret = ret (Nd.same x y) :=
    Ult.forall_mem fun x hx => Ult.forall_mem fun y hy => ih x hx (Nd.Ok.kid hok hx) (Nd.Sm.kid hsm hx) y (Nd.Ok.kid hw hy)
  have a1 : Ult fun k => ∀ ret, G75 k (.list (l.map Nd.pv)) (.list (l'.map Nd.pv)) ret = ret (Nd.sames l l') := Ult.succ ((a0.and (Ult.ge (l.length + 1))).mono fun k ⟨h, h2⟩ ret => by
    simp only [G75, f75_N, f75_e, f75_w1N, PV.els, List.length_map]
    by_cases hl : l.length = l'.length
    · simp only [decide_eq_true (show (l.length : Int) = (l'.length : Int) by omega), Bool.not_true, cond_false]
      have := loopR_up (body := f75_w1B k (G52 k) ret (.list (l.map Nd.pv)) (.list (l'.map Nd.pv))) (res := fun i => ret (Nd.sames (l.drop i) (l'.drop i))) l.length ?_ ?_ k 0 (by omega) (by omega)
      · exact this
      · intro nx
        simp only [f75_w1B, f75_w1b0N, f75_w1b0, PV.els, List.length_map, decide_eq_false (show ¬ (l.length : Int) < (l.length : Int) by omega), cond_false]
        rw [List.drop_length, hl, List.drop_length]; rfl
      · intro i hi nx hnx
        have hi' : i < l'.length := by omega
        simp only [f75_w1B, f75_w1b0N, f75_w1b0, PV.els, List.length_map, decide_eq_true (show (i : Int) < (l.length : Int) by omega), decide_eq_true (show (i : Int) < (l'.length : Int) by omega), decide_eq_true (show (0 : Int) ≤ (i : Int) by omega), Bool.and_self, cond_true, getD_map Nd.pv hi, getD_map Nd.pv hi', wrap_succ (show i < 1099511627777 by omega)]
        rw [h _ (List.getElem_mem hi) _ (List.getElem_mem hi'), drop_cons hi, drop_cons hi', hnx]
        simp only [Nd.sames]
        cases Nd.same l[i] l'[i] <;> rfl
    · simp only [decide_eq_false (show ¬ (l.length : Int) = (l'.length : Int) by omega), Bool.not_false, cond_true]
      refine congrArg ret ?_
      rw [Bool.eq_iff_iff]
      simp only [Bool.false_eq_true, false_iff]
      exact fun hs => hl (Nd.sames_len l l' hs))
  refine Ult.succ (a1.mono fun k h ret => ?_)
  simp only [G52, f52_N, f52_e, Nd.fld0, Nd.fld1, Nd.fld2, Nd.fld3, Nd.fld4, Nd.fld5, PV.num, h, Nd.kind, Nd.set, Nd.lo, Nd.hi, Nd.num, Nd.kidl, Nd.same, bs_beq (Nd.Ok.set hok) (Nd.Ok.set hw)]
  cases decide (kd = kd') <;> cases decide (s = s') <;> cases decide (x1 = y1) <;> cases decide (x2 = y2) <;> cases decide (m = m') <;> rfl
theorem spec_awake : Ult fun k => ∀ ret, G46 k ret = ret true := by
  refine (Ult.ge 300).mono fun k hk ret => ?_
  obtain ⟨m, rfl⟩ := Nat.exists_eq_add_of_le' hk
  kernel_rfl
end Go.Proofs.Ytifnlmfhbepjcaa
