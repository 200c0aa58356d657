/- Which values are of which cores, as the document tells; full ones. -/
import Derived.Test.YtbellpoahhhmhaaRefV
set_option linter.unusedSimpArgs false
set_option linter.unusedVariables false
set_option maxRecDepth 20000
namespace Go.Proofs.Ytbellpoahhhmhaa
open Go Go.X

namespace Val
mutual
/-- Each item says something. -/
def full : Val → Bool
  | mk k _ l => fulls k l
def fulls : Int → List Val → Bool
  | _, [] => true
  | k, x :: t => (!(decide (k = 6) && decide (x.flat.length = 0)) && full x) && fulls k t
end
end Val
theorem spec_full (v : Val) : v.Sm → Ult fun k => ∀ ret, G65 k v.pv ret = ret v.full := by
  refine Val.ind (p := fun v => v.Sm → Ult fun k => ∀ ret, G65 k v.pv ret = ret v.full) (fun kd b l ih hsm => ?_) v
  have hlen : l.length ≤ 274877906944 := hsm.length
  have hall : Ult fun k => ∀ x ∈ l, ∀ ret, G65 k x.pv ret = ret x.full := Ult.forall_mem fun x hx => ih x hx (Val.Sm.kid hsm hx)
  have hle : Ult fun k => ∀ x ∈ l, ∀ ret, G23 k x.pv ret = ret (x.flat.length : Int) := Ult.forall_mem fun x hx => spec_Len x (Val.Sm.kid hsm hx)
  refine Ult.succ ((hall.and (hle.and (Ult.ge (l.length + 1)))).mono fun k ⟨h1, h2, h3⟩ ret => ?_)
  simp only [G65, f65_N, f65_e, f65_w1N, Val.full]
  have := loopR_up (body := f65_w1B k (G23 k) (G65 k) ret (Val.mk kd b l).pv) (res := fun i => ret (Val.fulls kd (l.drop i))) l.length ?_ ?_ k 0 (by omega) (by omega)
  · exact this
  · intro nx
    simp only [f65_w1B, f65_w1b0N, f65_w1b0, Val.fld2, Val.kidl, PV.els, List.length_map, decide_eq_false (show ¬ (l.length : Int) < (l.length : Int) by omega), cond_false, List.drop_length, Val.fulls]
  · intro i hi nx hnx
    simp only [f65_w1B, f65_w1b0N, f65_w1b0, Val.fld0, Val.fld2, Val.kidl, Val.kind, PV.num, PV.els, List.length_map, decide_eq_true (show (i : Int) < (l.length : Int) by omega), decide_eq_true (show (0 : Int) ≤ (i : Int) by omega), Bool.and_self, cond_true, getD_pv hi, wrap_succ (show i < 1099511627777 by omega)]
    rw [h1 _ (List.getElem_mem hi), h2 _ (List.getElem_mem hi), drop_cons hi, hnx]
    simp only [Val.fulls]
    by_cases c6 : kd = 6
    · by_cases c0 : l[i].flat.length = 0
      · simp [c6, c0]
      · simp only [dT c6, decide_eq_false (show ¬ (l[i].flat.length : Int) = 0 by omega), dF c0, beq_self_eq_true, cond_true, Bool.and_false, Bool.not_false, Bool.true_and]
        cases l[i].full <;> rfl
    · simp only [dF c6, Bool.false_beq, Bool.not_true, cond_false, Bool.false_and, Bool.not_false, Bool.true_and]
      cases l[i].full <;> rfl
theorem spec_Full (c : Cor) (hc : c.Ok) (hcs : c.Sm) (v : Val) (hv : v.Ok) (hs : v.Sm) : Ult fun k => ∀ ret, G31 k c.pv v.pv ret = ret (vGood c v && v.full) :=
  Ult.succ (((spec_vGood c hc hcs v hv hs).and (spec_full v hs)).mono fun k ⟨h1, h2⟩ ret => by
    simp only [G31, f31_N, f31_e, h1, h2]
    cases vGood c v <;> rfl)

def gf (c : Cor) (v : Val) (b : Bool) : Bool := vg c v && (!b || v.full)
theorem vg_ne {kd : Int} {s : Nat} {n : Int} {l : List Cor} {vk vb : Int} {vl : List Val} (h7 : ¬ kd = 7) (h : ¬ vkc vk = kd) : vg (.mk kd s n l) (.mk vk vb vl) = false := by
  unfold vg
  rw [if_neg h7, if_neg (fun hh => h hh.1)]
theorem vg_z {kd : Int} {s : Nat} {n : Int} {l : List Cor} {vk vb : Int} {vl : List Val} (h7 : ¬ kd = 7) (h2 : ¬ kd = 2) (h : ¬ vb = 0) : vg (.mk kd s n l) (.mk vk vb vl) = false := by
  unfold vg
  rw [if_neg h7, if_neg (fun hh => by
    rcases hh.2.2.2 with e | e
    · exact h2 e
    · exact h e)]
theorem vg_len {kd : Int} {s : Nat} {n : Int} {l : List Cor} {vk vb : Int} {vl : List Val} (h7 : ¬ kd = 7) (h : ¬ (vl.length : Int) = vkm vk vl.length) : vg (.mk kd s n l) (.mk vk vb vl) = false := by
  unfold vg
  rw [if_neg h7, if_neg (fun hh => h hh.2.2.1)]
theorem gf_false {c : Cor} {v : Val} {b : Bool} (h : vg c v = false) : gf c v b = false := by rw [gf, h]; rfl
theorem vg_p1 (s : Nat) (n : Int) (l : List Cor) : vg (.mk 1 s n l) (.mk 1 0 []) = true := by simp [vg, vkc, vkm, Val.kind, Val.byte, Val.kidl]
theorem vg_p2 (s : Nat) (n : Int) (l : List Cor) (b : Int) : vg (.mk 2 s n l) (.mk 2 b []) = s.testBit b.toNat := by simp [vg, vkc, vkm, Val.kind, Val.byte, Val.kidl]
theorem vg_p3 (s : Nat) (n : Int) (l : List Cor) (x y : Val) : vg (.mk 3 s n l) (.mk 3 0 [x, y]) = (vgN l 0 x && vgN l 1 y) := by simp [vg, vkc, vkm, Val.kind, Val.byte, Val.kidl]
theorem vg_p4 (s : Nat) (n : Int) (l : List Cor) (x : Val) : vg (.mk 4 s n l) (.mk 4 0 [x]) = vgN l 0 x := by simp [vg, vkc, vkm, Val.kind, Val.byte, Val.kidl]
theorem vg_p5 (s : Nat) (n : Int) (l : List Cor) (x : Val) : vg (.mk 4 s n l) (.mk 5 0 [x]) = vgN l 1 x := by simp [vg, vkc, vkm, Val.kind, Val.byte, Val.kidl]
theorem vg_p6 (s : Nat) (n : Int) (l : List Cor) (xs : List Val) : vg (.mk 5 s n l) (.mk 6 0 xs) = xs.all fun x => vgN l 0 x := by simp [vg, vkc, vkm, Val.kind, Val.byte, Val.kidl]
theorem vg_p7 (s : Nat) (n : Int) (l : List Cor) (x : Val) : vg (.mk 6 s n l) (.mk 7 0 [x]) = vgN l 0 x := by simp [vg, vkc, vkm, Val.kind, Val.byte, Val.kidl]
theorem full_1 (k b : Int) (x : Val) (h : ¬ k = 6) : (Val.mk k b [x]).full = x.full := by simp [Val.full, Val.fulls, h]
theorem full_2 (k b : Int) (x y : Val) (h : ¬ k = 6) : (Val.mk k b [x, y]).full = (x.full && y.full) := by simp [Val.full, Val.fulls, h]
theorem full_0 (k b : Int) : (Val.mk k b []).full = true := by simp [Val.full, Val.fulls]
theorem vkc_iff {a b : Int} (h : 0 < b) (h7 : b < 7) : vkc a = b ↔ (b = 1 ∧ a = 1 ∨ b = 2 ∧ a = 2 ∨ b = 3 ∧ a = 3 ∨ b = 4 ∧ (a = 4 ∨ a = 5) ∨ b = 5 ∧ a = 6 ∨ b = 6 ∧ a = 7) := by
  unfold vkc
  repeat' split
  all_goals omega

theorem spec_goodValue (c : Cor) : c.fmd = true → ∀ v : Val, v.Ok → v.Sm → ∀ b : Bool, Ult fun k => ∀ ret, G68 k c.rpv v.pv b ret = ret (gf c v b) := by
  refine Cor.ind (p := fun c => c.fmd = true → ∀ v : Val, v.Ok → v.Sm → ∀ b : Bool, Ult fun k => ∀ ret, G68 k c.rpv v.pv b ret = ret (gf c v b)) (fun kd s m l ih hf v hv hsm b => ?_) c
  obtain ⟨vk, vb, vl⟩ := v
  simp only [Cor.fmd, Cor.nodeOk, Bool.and_eq_true, Cor.fmds_all, List.all_eq_true] at hf
  obtain ⟨⟨hlen, -⟩, hfm⟩ := hf
  have hlen : (l.length : Int) = Cor.partsI kd := by simpa using hlen
  have hkd : 0 ≤ kd ∧ kd ≤ 7 := Decidable.byContradiction fun h => by rw [partsI_out h] at hlen; omega
  have hvl : vl.length ≤ 274877906944 := hsm.length
  have hvb : 0 ≤ vb ∧ vb < 256 := hv.2.1
  have a0 : Ult fun k => ∀ c' ∈ l, ∀ x ∈ vl, ∀ ret, G68 k c'.rpv x.pv b ret = ret (gf c' x b) :=
    Ult.forall_mem fun c' hc => Ult.forall_mem fun x hx => ih c' hc (hfm c' hc) x (Val.Ok.kid hv hx) (Val.Sm.kid hsm hx) b
  have b0 : Ult fun k => ∀ c' ∈ l, ∀ ret, G68 k c'.rpv (Val.mk vk vb vl).pv b ret = ret (gf c' (.mk vk vb vl) b) :=
    Ult.forall_mem fun c' hc => ih c' hc (hfm c' hc) _ hv hsm b
  have f0 : Ult fun k => ∀ x ∈ vl, ∀ ret, G36 k x.pv ret = ret (.list (pvI x.flat)) := Ult.forall_mem fun x hx => spec_rFlat x (Val.Sm.kid hsm hx)
  refine Ult.succ ((a0.and (b0.and (f0.and (Ult.ge (vl.length + 1))))).mono fun k ⟨h0, h1, h2, h3⟩ ret => ?_)
  simp only [G68, f68_N, f68_e, Cor.rfld0, Cor.rfld1, Cor.rfld3, Val.fld0, Val.fld1, Val.fld2, PV.num, PV.els, List.length_map, Cor.kind, Cor.set, Cor.kidl, Val.kind, Val.byte, Val.kidl, decide_eq_true (show (0 : Int) ≤ 0 by omega), decide_eq_true (show (0 : Int) ≤ 1 by omega), Bool.true_and]
  by_cases e7 : kd = 7
  · subst e7
    match l, hlen, h1 with
    | [c0], _, h1 =>
      simp only [decide_true, cond_true, List.length_cons, List.length_nil]
      refine (h1 c0 (by simp) _).trans ?_
      simp only [gf, vg, if_true, vgN]
  have q : ∀ n : Int, ¬ kd = n → decide (kd = n) = false := fun n h => dF h
  by_cases k2 : vk = 2
  · subst k2
    simp only [dF e7, decide_true, Bool.not_true, Bool.false_beq, cond_false, show decide ((2 : Int) = 1) = false from rfl, show decide ((2 : Int) = 3) = false from rfl, show decide ((2 : Int) = 4) = false from rfl, show decide ((2 : Int) = 5) = false from rfl, show decide ((2 : Int) = 6) = false from rfl, show decide ((2 : Int) = 7) = false from rfl, Bool.not_false, beq_self_eq_true, cond_true]
    by_cases e2 : kd = 2
    · subst e2
      simp only [show decide ((2 : Int) = 1) = false from rfl, decide_true, cond_true, cond_false]
      by_cases hl : vl = []
      · subst hl
        simp only [List.length_nil, Int.natCast_zero, decide_true, beq_self_eq_true, cond_true, decide_eq_true hvb.1, decide_eq_true hvb.2, Bool.and_self]
        rw [bl_tt _ (by omega), gf, vg_p2, full_0]; simp
      · have : ¬ (vl.length : Int) = 0 := fun h => hl (List.length_eq_zero_iff.1 (by omega))
        rw [gf_false (vg_len (by omega) this)]
        simp only [dF this]; rfl
    · rw [gf_false (vg_ne (vk := 2) e7 (fun h => e2 (h.symm.trans rfl)))]
      by_cases e1 : kd = 1
      · simp [e1]
      by_cases e3 : kd = 3
      · simp [e3]
      by_cases e4 : kd = 4
      · simp [e4]
      by_cases e5 : kd = 5
      · simp [e5]
      by_cases e6 : kd = 6
      · simp [e6]
      simp [e1, e2, e3, e4, e5, e6]
  simp only [dF e7, dF k2, Bool.not_false, beq_self_eq_true, cond_true, cond_false, Bool.false_beq, Bool.not_true]
  by_cases b00 : vb = 0
  case neg =>
    have : vg (.mk kd s m l) (.mk vk vb vl) = false := by
      by_cases e2 : kd = 2
      · subst e2; exact vg_ne e7 (fun h => by rw [vkc_iff (by omega) (by omega)] at h; omega)
      · exact vg_z e7 e2 b00
    rw [gf_false this]
    simp only [dF b00]; rfl
  subst b00
  simp only [decide_true, Bool.not_true, cond_false]
  by_cases e1 : kd = 1
  · subst e1
    simp only [decide_true, cond_true]
    by_cases k1 : vk = 1
    · subst k1
      simp only [decide_true, beq_self_eq_true, cond_true]
      by_cases hl : vl = []
      · subst hl
        rw [gf, vg_p1, full_0]; simp
      · have : ¬ (vl.length : Int) = 0 := fun h => hl (List.length_eq_zero_iff.1 (by omega))
        rw [gf_false (vg_len (by omega) this)]
        simp only [dF this]
    · rw [gf_false (vg_ne (by omega) (fun h => by rw [vkc_iff (by omega) (by omega)] at h; omega))]
      simp only [dF k1]; rfl
  by_cases e2 : kd = 2
  · subst e2
    rw [gf_false (vg_ne (by omega) (fun h => by rw [vkc_iff (by omega) (by omega)] at h; omega))]
    rfl
  by_cases e3 : kd = 3
  · subst e3
    simp only [show decide ((3 : Int) = 1) = false from rfl, show decide ((3 : Int) = 2) = false from rfl, decide_true, cond_true, cond_false]
    by_cases k3 : vk = 3
    · subst k3
      simp only [decide_true, beq_self_eq_true, cond_true]
      by_cases hl : (vl.length : Int) = 2
      · match l, hlen, vl, hl, h0 with
        | [c0, c1], _, [x, y], _, h0 =>
          simp only [decide_true, beq_self_eq_true, cond_true, List.length_cons, List.length_nil]
          refine (h0 c0 (by simp) x (by simp) _).trans ?_
          rw [gf, gf, vg_p3, full_2 _ _ _ _ (by omega)]
          have e := fun r => h0 c1 (by simp) y (by simp) r
          rw [gf] at e
          simp only [vgN]
          cases vg c0 x
          · simp
          · by_cases hb : (!b || x.full) = true
            · rw [hb]
              simp only [Bool.and_self, beq_self_eq_true, cond_true, Bool.true_and]
              refine (e _).trans (congrArg ret ?_)
              cases b
              · simp
              · have : x.full = true := by simpa using hb
                rw [this]; simp
            · have hb' : b = true ∧ x.full = false := by
                cases b <;> cases hx : x.full <;> simp [hx] at hb ⊢
              rw [hb'.1, hb'.2]; simp
      · rw [gf_false (vg_len (by omega) hl)]
        simp only [dF hl]; rfl
    · rw [gf_false (vg_ne (by omega) (fun h => by rw [vkc_iff (by omega) (by omega)] at h; omega))]
      simp only [dF k3]; rfl
  by_cases e4 : kd = 4
  · subst e4
    simp only [show decide ((4 : Int) = 1) = false from rfl, show decide ((4 : Int) = 2) = false from rfl, show decide ((4 : Int) = 3) = false from rfl, decide_true, cond_true, cond_false]
    by_cases k4 : vk = 4
    · subst k4
      simp only [decide_true, Bool.true_beq, cond_false]
      by_cases hl : (vl.length : Int) = 1
      · match l, hlen, vl, hl, h0 with
        | [c0, c1], _, [x], _, h0 =>
          simp only [decide_true, beq_self_eq_true, cond_true, List.length_cons, List.length_nil, show IntKind.wrap .i64 ((4 : Int) - 4) = 0 by decide]
          refine (h0 c0 (by simp) x (by simp) _).trans ?_
          rw [gf, gf, vg_p4, full_1 _ _ _ (by omega)]; rfl
      · rw [gf_false (vg_len (by omega) hl)]
        simp only [dF hl]; rfl
    by_cases k5 : vk = 5
    · subst k5
      simp only [show decide ((5 : Int) = 4) = false from rfl, decide_true, beq_self_eq_true, cond_true]
      by_cases hl : (vl.length : Int) = 1
      · match l, hlen, vl, hl, h0 with
        | [c0, c1], _, [x], _, h0 =>
          simp only [decide_true, beq_self_eq_true, cond_true, List.length_cons, List.length_nil, show IntKind.wrap .i64 ((5 : Int) - 4) = 1 by decide]
          refine (h0 c1 (by simp) x (by simp) _).trans ?_
          rw [gf, gf, vg_p5, full_1 _ _ _ (by omega)]; rfl
      · rw [gf_false (vg_len (by omega) hl)]
        simp only [dF hl]; rfl
    · rw [gf_false (vg_ne (by omega) (fun h => by rw [vkc_iff (by omega) (by omega)] at h; omega))]
      simp only [dF k4, dF k5]; rfl
  by_cases e5 : kd = 5
  · subst e5
    simp only [show decide ((5 : Int) = 1) = false from rfl, show decide ((5 : Int) = 2) = false from rfl, show decide ((5 : Int) = 3) = false from rfl, show decide ((5 : Int) = 4) = false from rfl, decide_true, cond_true, cond_false]
    by_cases k6 : vk = 6
    · subst k6
      simp only [decide_true, Bool.not_true, cond_false, f68_w1N]
      match l, hlen, h0 with
      | [c0], _, h0 =>
        have := loopR_up (body := f68_w1B k (G36 k) (G68 k) ret (Cor.mk 5 s m [c0]).rpv (Val.mk 6 0 vl).pv b) (res := fun i => ret ((vl.drop i).all (fun x => vg c0 x) && (!b || Val.fulls 6 (vl.drop i)))) vl.length ?_ ?_ k 0 (by omega) (by omega)
        · refine this.trans ?_
          rw [gf, vg_p6]; rfl
        · intro nx
          simp only [f68_w1B, f68_w1b0N, f68_w1b0, Val.fld2, Val.kidl, PV.els, List.length_map, decide_eq_false (show ¬ (vl.length : Int) < (vl.length : Int) by omega), cond_false, List.drop_length, Val.fulls]
          simp
        · intro i hi nx hnx
          simp only [f68_w1B, f68_w1b0N, f68_w1b0, Cor.rfld3, Cor.kidl, Val.fld2, Val.kidl, PV.els, List.length_map, List.length_cons, List.length_nil, decide_eq_true (show (i : Int) < (vl.length : Int) by omega), decide_eq_true (show (0 : Int) ≤ (i : Int) by omega), decide_eq_true (show (0 : Int) ≤ 0 by omega), decide_eq_true (show (0 : Int) < ((0 + 1 : Nat) : Int) by omega), Bool.and_self, cond_true, getD_pv hi, wrap_succ (show i < 1099511627777 by omega)]
          have e : List.getD (List.map Cor.rpv [c0]) ((0 : Int)).toNat PV.nil = c0.rpv := rfl
          rw [e, h0 c0 (by simp) _ (List.getElem_mem hi), h2 _ (List.getElem_mem hi), drop_cons hi, hnx]
          simp only [gf, List.all_cons, Val.fulls, PV.els, pvI_len, decide_true, Bool.true_and]
          cases vg c0 vl[i]
          · simp
          · cases b
            · simp
            · by_cases hz : vl[i].flat.length = 0
              · cases vl[i].full <;> simp [hz]
              · simp only [decide_eq_false (show ¬ (vl[i].flat.length : Int) = 0 by omega), decide_eq_false hz]
                cases vl[i].full <;> simp
    · rw [gf_false (vg_ne (by omega) (fun h => by rw [vkc_iff (by omega) (by omega)] at h; omega))]
      simp only [dF k6]; rfl
  by_cases e6 : kd = 6
  · subst e6
    simp only [show decide ((6 : Int) = 1) = false from rfl, show decide ((6 : Int) = 2) = false from rfl, show decide ((6 : Int) = 3) = false from rfl, show decide ((6 : Int) = 4) = false from rfl, show decide ((6 : Int) = 5) = false from rfl, decide_true, cond_true, cond_false]
    by_cases k7 : vk = 7
    · subst k7
      simp only [decide_true, beq_self_eq_true, cond_true]
      by_cases hl : (vl.length : Int) = 1
      · match l, hlen, vl, hl, h0 with
        | [c0], _, [x], _, h0 =>
          simp only [decide_true, beq_self_eq_true, cond_true, List.length_cons, List.length_nil]
          refine (h0 c0 (by simp) x (by simp) _).trans ?_
          rw [gf, gf, vg_p7, full_1 _ _ _ (by omega)]; rfl
      · rw [gf_false (vg_len (by omega) hl)]
        simp only [dF hl]; rfl
    · rw [gf_false (vg_ne (by omega) (fun h => by rw [vkc_iff (by omega) (by omega)] at h; omega))]
      simp only [dF k7]; rfl
  have hk0 : kd = 0 := by omega
  subst hk0
  have : vg (.mk 0 s m l) (.mk vk 0 vl) = false := by
    unfold vg
    rw [if_neg (by omega), if_neg (fun h => h.2.1 h.1)]
  rw [gf_false this]
  rfl

theorem spec_GoodValue (c : Cor) (hc : c.Ok) (hcs : c.Sm) (v : Val) (hv : v.Ok) (hs : v.Sm) : Ult fun k => ∀ ret, G34 k c.rpv v.pv ret = ret (vGood c v) := by
  by_cases hg : c.good = true
  · have hf : c.fmd = true := by simp only [Cor.good, Bool.and_eq_true] at hg; exact hg.2
    exact Ult.succ (((spec_rGood c hc hcs).and (spec_goodValue c hf v hv hs false)).mono fun k ⟨h1, h2⟩ ret => by
      simp only [G34, f34_N, f34_e, h1, h2, vGood, gf, hg, beq_self_eq_true, cond_true, Bool.true_and, Bool.not_false, Bool.true_or, Bool.and_true])
  · exact Ult.succ ((spec_rGood c hc hcs).mono fun k h1 ret => by
      have hg' : c.good = false := by simpa using hg
      simp only [G34, f34_N, f34_e, h1, vGood, hg', Bool.false_and]
      rfl)
theorem spec_rFull (c : Cor) (hc : c.Ok) (hcs : c.Sm) (v : Val) (hv : v.Ok) (hs : v.Sm) : Ult fun k => ∀ ret, G35 k c.rpv v.pv ret = ret (vGood c v && v.full) := by
  by_cases hg : c.good = true
  · have hf : c.fmd = true := by simp only [Cor.good, Bool.and_eq_true] at hg; exact hg.2
    exact Ult.succ (((spec_rGood c hc hcs).and (spec_goodValue c hf v hv hs true)).mono fun k ⟨h1, h2⟩ ret => by
      simp only [G35, f35_N, f35_e, h1, h2, vGood, gf, hg, beq_self_eq_true, cond_true, Bool.true_and, Bool.not_true, Bool.false_or])
  · exact Ult.succ ((spec_rGood c hc hcs).mono fun k h1 ret => by
      have hg' : c.good = false := by simpa using hg
      simp only [G35, f35_N, f35_e, h1, vGood, hg', Bool.false_and]
      rfl)
end Go.Proofs.Ytbellpoahhhmhaa
