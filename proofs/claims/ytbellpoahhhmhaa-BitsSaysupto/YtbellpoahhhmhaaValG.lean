/- Which values are of which cores: the printed functions of package value that tell. -/
import Derived.Test.YtbellpoahhhmhaaCorK
set_option linter.unusedSimpArgs false
set_option linter.unusedVariables false
namespace Go.Proofs.Ytbellpoahhhmhaa
open Go Go.X

theorem dT {p : Prop} {i : Decidable p} (h : p) : @decide p i = true := decide_eq_true h
theorem dF {p : Prop} {i : Decidable p} (h : ¬ p) : @decide p i = false := decide_eq_false h
def vkc (k : Int) : Int := if k = 1 then 1 else if k = 2 then 2 else if k = 3 then 3 else if k = 4 then 4 else if k = 5 then 4 else if k = 6 then 5 else if k = 7 then 6 else 0
def vkm (k : Int) (n : Nat) : Int := if k = 1 then 0 else if k = 2 then 0 else if k = 3 then 2 else if k = 4 then 1 else if k = 5 then 1 else if k = 6 then (n : Int) else if k = 7 then 1 else 0

mutual
/-- Is the value one of the core? -/
def vg : Cor → Val → Bool
  | .mk k s n l, v =>
    if k = 7 then vgN l 0 v
    else if vkc v.kind = k ∧ vkc v.kind ≠ 0 ∧ (v.kidl.length : Int) = vkm v.kind v.kidl.length ∧ (k = 2 ∨ v.byte = 0) then
      (if v.kind = 2 then s.testBit v.byte.toNat
      else if v.kind = 5 then (match v.kidl with | x :: _ => vgN l 1 x | [] => false)
      else if v.kind = 3 then (match v.kidl with | x :: y :: _ => vgN l 0 x && vgN l 1 y | _ => false)
      else v.kidl.all fun x => vgN l 0 x)
    else false
def vgN : List Cor → Nat → Val → Bool
  | [], _, _ => false
  | c :: _, 0, v => vg c v
  | _ :: t, i + 1, v => vgN t i v
end

theorem spec_vkind : Ult fun k => ∀ (v : Val) ret, G78 k v.pv ret = ret (vkc v.kind) (vkm v.kind v.kidl.length) :=
  Ult.succ (Ult.of fun k v ret => by
    simp only [G78, f78_N, f78_e, Val.fld0, Val.fld2, PV.num, PV.els, List.length_map, vkc, vkm]
    generalize v.kind = n
    by_cases h1 : n = 1
    · subst h1; rfl
    by_cases h2 : n = 2
    · subst h2; rfl
    by_cases h3 : n = 3
    · subst h3; rfl
    by_cases h4 : n = 4
    · subst h4; rfl
    by_cases h5 : n = 5
    · subst h5; rfl
    by_cases h6 : n = 6
    · subst h6; rfl
    by_cases h7 : n = 7
    · subst h7; rfl
    simp only [decide_eq_false h1, decide_eq_false h2, decide_eq_false h3, decide_eq_false h4, decide_eq_false h5, decide_eq_false h6, decide_eq_false h7, cond_false, if_neg h1, if_neg h2, if_neg h3, if_neg h4, if_neg h5, if_neg h6, if_neg h7])

theorem Val.Ok.kid {v x : Val} (h : v.Ok) (hx : x ∈ v.kidl) : x.Ok := by
  cases v with
  | mk k b l => exact (Val.oks_iff l).1 h.2.2 x hx

theorem spec_vgood (c : Cor) : c.fmd = true → ∀ v : Val, v.Ok → v.Sm → Ult fun k => ∀ ret, G58 k c.pv v.pv ret = ret (vg c v) := by
  refine Cor.ind (p := fun c => c.fmd = true → ∀ v : Val, v.Ok → v.Sm → Ult fun k => ∀ ret, G58 k c.pv v.pv ret = ret (vg c v)) (fun kd s m l ih hf v hv hsm => ?_) c
  obtain ⟨vk, vb, vl⟩ := v
  simp only [Cor.fmd, Cor.nodeOk, Bool.and_eq_true, Cor.fmds_all, List.all_eq_true] at hf
  obtain ⟨⟨hlen, -⟩, hfm⟩ := hf
  have hlen : (l.length : Int) = Cor.partsI kd := by simpa using hlen
  have hvl : vl.length ≤ 274877906944 := hsm.length
  have hvb : 0 ≤ vb ∧ vb < 256 := hv.2.1
  have a0 : Ult fun k => ∀ c' ∈ l, ∀ x ∈ vl, ∀ ret, G58 k c'.pv x.pv ret = ret (vg c' x) :=
    Ult.forall_mem fun c' hc => Ult.forall_mem fun x hx => ih c' hc (hfm c' hc) x (Val.Ok.kid hv hx) (Val.Sm.kid hsm hx)
  have b0 : Ult fun k => ∀ c' ∈ l, ∀ ret, G58 k c'.pv (Val.mk vk vb vl).pv ret = ret (vg c' (.mk vk vb vl)) :=
    Ult.forall_mem fun c' hc => ih c' hc (hfm c' hc) _ hv hsm
  have a1 : Ult fun k => 0 < l.length → ∀ x ∈ vl, ∀ ret, G81 k x.pv (Cor.mk kd s m l).pv ret = ret (!vgN l 0 x) (Cor.mk kd s m l).pv := Ult.succ (a0.mono fun k h hl x hx ret => by
    match l, hl with
    | c0 :: t, _ =>
      simp only [G81, f81_N, f81_e, Cor.fld3, PV.els, Cor.kidl, List.length_map, List.length_cons, decide_eq_true (show (0 : Int) < ((t.length + 1 : Nat) : Int) by omega), decide_eq_true (show (0 : Int) ≤ 0 by omega), Bool.and_self, cond_true, vgN]
      exact h c0 (by simp) x hx _)
  have a2 : Ult fun k => (vl = [] ∨ 0 < l.length) → ∀ ret, G91 k (.list (vl.map Val.pv)) (Cor.mk kd s m l).pv ret = ret (fi (fun x => !vgN l 0 x) 0 vl) (Cor.mk kd s m l).pv := Ult.succ ((a1.and (Ult.ge (vl.length + 1))).mono fun k ⟨h, h2⟩ hl ret => by
    simp only [G91, f91_N, f91_e, f91_w1N]
    exact idx_loop Val.pv vl (fun x => !vgN l 0 x) (Cor.mk kd s m l).pv (G81 k) ret _ (fun nx n g => by
      simp only [f91_w1B, f91_w1b0N, f91_w1b0, PV.els]; rfl) (by
        rcases hl with rfl | hl
        · intro x hx; cases hx
        · exact h hl) (by omega) k (by omega))
  have a3 : Ult fun k => (vl = [] ∨ 0 < l.length) → ∀ ret, G80 k (.list (vl.map Val.pv)) (Cor.mk kd s m l).pv ret = ret (vl.any fun x => !vgN l 0 x) (Cor.mk kd s m l).pv := Ult.succ (a2.mono fun k h hl ret => by
    simp only [G80, f80_N, f80_e, h hl, fi_any])
  refine Ult.succ ((a0.and (b0.and (a3.and (spec_vkind.and spec_Has)))).mono fun k ⟨h0, h1, h2, h3, h4⟩ ret => ?_)
  have hb := h4 s vb.toNat (fun b => ret b) (by omega)
  rw [Int.toNat_of_nonneg hvb.1] at hb
  simp only [G58, f58_N, f58_e, Cor.fld0, Cor.fld1, Cor.fld3, Val.fld0, Val.fld1, Val.fld2, PV.num, PV.els, h3, hb, List.length_map, Cor.kind, Cor.set, Cor.kidl, Val.kind, Val.byte, Val.kidl, vg, decide_eq_true (show (0 : Int) ≤ 0 by omega), decide_eq_true (show (0 : Int) ≤ 1 by omega), Bool.true_and]
  by_cases h7 : kd = 7
  · subst h7
    match l, hlen, h1 with
    | [c0], _, h1 =>
      simp only [decide_true, cond_true, List.length_cons, List.length_nil, if_true, vgN]
      exact h1 c0 (by simp) _
  rw [if_neg h7]
  simp only [dF h7, cond_false]
  by_cases hc : vkc vk = kd
  · by_cases hc0 : vkc vk = 0
    · simp [hc0]
    simp only [dT hc, dF hc0, Bool.not_true, beq_self_eq_true, cond_true]
    by_cases hm : (vl.length : Int) = vkm vk vl.length
    · simp only [dT hm, Bool.not_true, beq_self_eq_true, cond_true]
      by_cases k2 : vk = 2
      · subst k2
        have hkd : kd = 2 := by rw [← hc]; rfl
        subst hkd
        rw [if_pos (show vkc 2 = 2 ∧ vkc 2 ≠ 0 ∧ (vl.length : Int) = vkm 2 vl.length ∧ ((2 : Int) = 2 ∨ vb = 0) from ⟨rfl, by decide, hm, .inl rfl⟩), if_pos rfl]
        simp only [show vkc 2 = 2 from rfl, decide_true, Bool.not_true, Bool.false_beq, cond_false, Bool.not_false, cond_true]
      · have hkd2 : vkc vk ≠ 2 := by
          unfold vkc
          repeat' split
          all_goals first | omega | (intro h; omega)
        simp only [dF hkd2, Bool.not_false, beq_self_eq_true, cond_true]
        by_cases hb0 : vb = 0
        · rw [if_pos ⟨hc, hc0, hm, .inr hb0⟩, if_neg k2]
          simp only [dT hb0, dF k2, Bool.not_true, cond_false]
          by_cases k5 : vk = 5
          · subst k5
            have hkd : kd = 4 := by rw [← hc]; rfl
            subst hkd
            match l, hlen, vl, hm, h0 with
            | [c0, c1], _, [x], _, h0 =>
              simp only [decide_true, cond_true, if_true, List.length_cons, List.length_nil, vgN]
              exact h0 c1 (by simp) x (by simp) _
          rw [if_neg k5]
          simp only [dF k5, cond_false]
          by_cases k3 : vk = 3
          · subst k3
            have hkd : kd = 3 := by rw [← hc]; rfl
            subst hkd
            match l, hlen, vl, hm, h0 with
            | [c0, c1], _, [x, y], _, h0 =>
              simp only [decide_true, cond_true, if_true, List.length_cons, List.length_nil, vgN]
              refine (h0 c0 (by simp) x (by simp) _).trans ?_
              cases vg c0 x
              · rfl
              · simp only [beq_self_eq_true, cond_true, Bool.true_and]
                exact h0 c1 (by simp) y (by simp) _
          rw [if_neg k3]
          simp only [dF k3, cond_false]
          have hl0 : vl = [] ∨ 0 < l.length := by
            by_cases hl : 0 < l.length
            · exact .inr hl
            · refine .inl ?_
              have hl0 : (l.length : Int) = 0 := by omega
              rw [hl0, ← hc] at hlen
              unfold vkm at hm
              unfold vkc Cor.partsI at hlen
              by_cases e1 : vk = 1
              · simp [e1] at hm; exact hm
              by_cases e4 : vk = 4
              · simp [e4] at hlen
              by_cases e6 : vk = 6
              · simp [e6] at hlen
              by_cases e7 : vk = 7
              · simp [e7] at hlen
              simp [e1, k2, k3, e4, k5, e6, e7] at hm; exact hm
          rw [h2 hl0, not_any]
        · rw [if_neg (show ¬ (vkc vk = kd ∧ vkc vk ≠ 0 ∧ (vl.length : Int) = vkm vk vl.length ∧ (kd = 2 ∨ vb = 0)) from fun h => by
            rcases h.2.2.2 with h | h
            · exact hkd2 (hc.trans h)
            · exact hb0 h)]
          simp only [dF hb0]
          rfl
    · rw [if_neg (show ¬ (vkc vk = kd ∧ vkc vk ≠ 0 ∧ (vl.length : Int) = vkm vk vl.length ∧ (kd = 2 ∨ vb = 0)) from fun h => hm h.2.2.1)]
      simp only [dF hm]; rfl
  · rw [if_neg (show ¬ (vkc vk = kd ∧ vkc vk ≠ 0 ∧ (vl.length : Int) = vkm vk vl.length ∧ (kd = 2 ∨ vb = 0)) from fun h => hc h.1)]
    simp only [dF hc]; rfl

def vGood (c : Cor) (v : Val) : Bool := c.good && vg c v
theorem spec_vGood (c : Cor) (hc : c.Ok) (hcs : c.Sm) (v : Val) (hv : v.Ok) (hs : v.Sm) : Ult fun k => ∀ ret, G18 k c.pv v.pv ret = ret (vGood c v) := by
  by_cases hg : c.good = true
  · have hf : c.fmd = true := by simp only [Cor.good, Bool.and_eq_true] at hg; exact hg.2
    exact Ult.succ (((spec_cGood c hc hcs).and (spec_vgood c hf v hv hs)).mono fun k ⟨h1, h2⟩ ret => by
      simp only [G18, f18_N, f18_e, h1, h2, vGood, hg, beq_self_eq_true, cond_true, Bool.true_and])
  · exact Ult.succ ((spec_cGood c hc hcs).mono fun k h1 ret => by
      have hg' : c.good = false := by simpa using hg
      simp only [G18, f18_N, f18_e, h1, vGood, hg', Bool.false_and]
      rfl)
end Go.Proofs.Ytbellpoahhhmhaa
