/- The laws ValueSizes, ValueMade, ValueTexts come out true. -/
import Derived.Test.YtbellpoahhhmhaaValL
set_option linter.unusedSimpArgs false
set_option linter.unusedVariables false
set_option maxRecDepth 20000
namespace Go.Proofs.Ytbellpoahhhmhaa
open Go Go.X

def vB (b : Int) : Val := .mk 2 b []
def vTwo : Val := .mk 3 0 [vB 97, vB 98]
def cCh (b : Nat) : Cor := .mk 2 (ofL [b]) 0 []
theorem spec_two : Ult fun k => ∀ ret, G30 k 97 98 ret = ret vTwo.pv :=
  Ult.succ (Ult.of fun k ret => by simp [G30, f30_N, f30_e, vTwo, vB, Val.pv, Val.pvs])
theorem spec_ch (b : Nat) (hb : b < 256) : Ult fun k => ∀ ret, G28 k (.list [.int (b : Int)]) ret = ret (cCh b).pv :=
  Ult.succ ((spec_Of [b] (by simpa using hb) (by simp)).mono fun k h ret => by
    have e : PV.list [PV.int (b : Int)] = .list (pvL [b]) := rfl
    simp only [G28, f28_N, f28_e, e, h, cCh, Cor.pv, Cor.pvs])
theorem spec_seq : Ult fun k => ∀ (a b : Cor) ret, G17 k a.pv b.pv ret = ret (Cor.mk 3 0 0 [a, b]).pv :=
  Ult.succ (Ult.of fun k a b ret => by simp only [G17, f17_N, f17_e, Cor.pv, Cor.pvs, bs_zero])
theorem spec_awake : Ult fun k => ∀ ret, G13 k ret = ret true := by
  have vok : vTwo.Ok := by simp [vTwo, vB, Val.Ok, Val.Oks]
  have vsm : vTwo.Sm := by simp [vTwo, vB, Val.Sm, Val.size, Val.sizes]
  have o1 : ∀ b, b < 256 → ofL [b] < 2 ^ 256 := fun b hb => ofL_lt [b] (by simpa using hb)
  have cok : (Cor.mk 3 0 0 [cCh 97, cCh 98]).Ok := ⟨by omega, by decide, by omega, ⟨by omega, o1 97 (by omega), by omega, trivial⟩, ⟨by omega, o1 98 (by omega), by omega, trivial⟩, trivial⟩
  have csm : (Cor.mk 3 0 0 [cCh 97, cCh 98]).Sm := by simp [cCh, Cor.Sm, Cor.size, Cor.sizes]
  refine Ult.succ ((spec_two.and ((spec_Text _ vok vsm).and ((spec_Flat _ vsm).and ((spec_ch 97 (by omega)).and ((spec_ch 98 (by omega)).and (spec_seq.and ((spec_vGood _ cok csm _ vok vsm).and (spec_VSize _ vsm)))))))).mono fun k ⟨h1, h2, h3, h4, h5, h6, h7, h8⟩ ret => ?_)
  have e2 : vTwo.txt = [40, 54, 49, 44, 54, 50, 41] := by decide
  have e3 : vTwo.flat = [97, 98] := by decide
  have e7 : vGood (Cor.mk 3 0 0 [cCh 97, cCh 98]) vTwo = true := by
    simp [vGood, Cor.good, Cor.cnt, Cor.cnts, Cor.fmd, Cor.fmds, Cor.nodeOk, Cor.partsI, cCh, vg, vgN, vkc, vkm, vTwo, vB, ofL_bit, Val.kind, Val.byte, Val.kidl]
  have e8 : vTwo.vsz = 3 := by decide
  have n4 : G28 k (.list [.int 97]) = G28 k (.list [.int ((97 : Nat) : Int)]) := rfl
  have n5 : G28 k (.list [.int 98]) = G28 k (.list [.int ((98 : Nat) : Int)]) := rfl
  simp only [G13, f13_N, f13_e, h1, h2, h3, n4, n5, h4, h5, h6, h7, h8, e2, e3, e7, e8, PV.els, pvI_num]
  rfl

theorem ValueSizes.main (c : Cor) (v : Val) (hc : c.Ok) (hv : v.Ok) (hs : c.size + v.size ≤ 100000000) : ∃ k, G4 k c.pv v.pv (fun y => some ([.bool y], [])) = some ([.bool true], []) := by
  have sc : c.Sm := by simp only [Cor.Sm]; omega
  have sv : v.Sm := by simp only [Val.Sm]; omega
  have sl : ∀ x ∈ v.kidl, x.Sm := fun x hx => Val.Sm.kid sv hx
  have hlen : v.kidl.length ≤ 274877906944 := sv.length
  have hsz : Ult fun k => ∀ x ∈ v.kidl, ∀ ret, G24 k x.pv ret = ret (x.vsz : Int) := Ult.forall_mem fun x hx => spec_VSize x (sl x hx)
  have hle : Ult fun k => ∀ x ∈ v.kidl, ∀ ret, G23 k x.pv ret = ret (x.flat.length : Int) := Ult.forall_mem fun x hx => spec_Len x (sl x hx)
  have z1 := Val.vsz_le v
  have z2 := Val.flat_len v
  refine Ult.get (Ult.succ ((spec_awake.and ((spec_big c 60 (by omega)).and ((spec_wide v 30 (by omega)).and ((spec_vGood c hc sc v hv sv).and ((spec_VSize v sv).and ((spec_Len v sv).and ((spec_Text v hv sv).and (hsz.and (hle.and (Ult.ge (v.kidl.length + 2))))))))))).mono fun k ⟨h0, h1, h2, h3, h4, h5, h6, h7, h8, h9⟩ => ?_))
  simp only [G4, f4_N, f4_e, h0, h1, h2, h3]
  cases c.big 60
  case true => rfl
  cases v.wide 30
  case true => rfl
  simp only [Bool.not_true, cond_false, cond_true, beq_self_eq_true]
  rcases Bool.eq_false_or_eq_true (vGood c v) with hg | hg
  case inr => rw [hg]; rfl
  rw [hg]
  simp only [Bool.not_true, cond_false, f4_w1N]
  have hg : vg c v = true := by simp only [vGood, Bool.and_eq_true] at hg; exact hg.2
  have hk := vg_all hg
  have hv0 := (vg_kids c v hg).1
  have e1 := Val.vsz_eq v
  have e2 := Val.flat_eq v
  rw [hk] at e1 e2
  have hq : (!decide (v.txt = [63])) = true := by
    obtain ⟨h, r, e, _, _, hne⟩ := txt_head v hv
    have := hne hv0
    rw [e]; simp [this]
  have k2 : v.kind = 2 → v.kidl = [] := fun h => by
    have := (vg_kids c v hg).2
    rw [h] at this; simpa [vkm] using this
  have := vup (body := f4_w1B k (G13 k) (G14 k) (G15 k) (G18 k) (G23 k) (G24 k) (G25 k) (fun y => some ([.bool y], [])) v.pv)
    (fun (i : Nat) (a : Nat × Nat) => ((a.1 : Int), (a.2 : Int), (i : Int))) (fun i a => a.1 + ((v.kidl.drop i).map Val.vsz).sum = v.vsz ∧ a.2 + ((v.kidl.drop i).flatMap Val.flat).length = (v.kidl.flatMap Val.flat).length) (res := fun i b => (some ([SV.bool true], []) : R)) v.kidl.length ?_ ?_ k 0 (1, 0) ⟨by simpa using e1.symm, by simp⟩ (by omega) (by omega)
  · exact this
  · intro nx a ⟨i1, i2⟩
    rw [List.drop_length] at i1 i2
    simp only [List.map_nil, List.sum_nil, Nat.add_zero, List.flatMap_nil, List.length_nil] at i1 i2
    simp only [f4_w1B, f4_w1b0N, f4_w1b0, Val.fld0, Val.fld2, PV.num, PV.els, List.length_map, decide_eq_false (show ¬ (v.kidl.length : Int) < (v.kidl.length : Int) by omega), cond_false, h4, h5, h6, i1, i2, decide_true, beq_self_eq_true, cond_true, hq]
    by_cases c2 : v.kind = 2
    · have hf : v.flat.length = 1 := by rw [e2, if_pos c2, k2 c2]; rfl
      simp [c2, hf]
    · have hf : v.flat.length = (v.kidl.flatMap Val.flat).length := by rw [e2, if_neg c2, List.nil_append]
      rw [hf]
      simp only [decide_eq_false c2, decide_true, beq_self_eq_true, cond_true, Bool.not_false, Bool.true_beq, cond_false]
  · intro i hi nx a ⟨i1, i2⟩ hnx
    rw [drop_cons hi] at i1 i2
    simp only [List.map_cons, List.sum_cons, List.flatMap_cons, List.length_append] at i1 i2
    have hfl : (v.kidl.flatMap Val.flat).length ≤ v.flat.length := by rw [e2, List.length_append]; omega
    simp only [f4_w1B, f4_w1b0N, f4_w1b0, Val.fld2, PV.els, List.length_map, decide_eq_true (show (i : Int) < (v.kidl.length : Int) by omega), decide_eq_true (show (0 : Int) ≤ (i : Int) by omega), Bool.and_self, cond_true, getD_pv hi, wrap_succ (show i < 1099511627777 by omega)]
    rw [h7 _ (List.getElem_mem hi), h8 _ (List.getElem_mem hi), wrap_i64 (by omega) (by omega), wrap_i64 (by omega) (by omega)]
    exact hnx (a.1 + v.kidl[i].vsz, a.2 + v.kidl[i].flat.length) ⟨by simp only; omega, by simp only; omega⟩

theorem ValueTexts.main (c : Cor) (v u : Val) (hc : c.Ok) (hv : v.Ok) (hu : u.Ok) (hs : c.size + (v.size + u.size) ≤ 100000000) : ∃ k, G5 k c.pv v.pv u.pv (fun y => some ([.bool y], [])) = some ([.bool true], []) := by
  have sc : c.Sm := by simp only [Cor.Sm]; omega
  have sv : v.Sm := by simp only [Val.Sm]; omega
  have su : u.Sm := by simp only [Val.Sm]; omega
  refine Ult.get (Ult.succ ((spec_awake.and ((spec_big c 100 (by omega)).and ((spec_wide v 40 (by omega)).and ((spec_wide u 40 (by omega)).and ((spec_vGood c hc sc v hv sv).and ((spec_vGood c hc sc u hu su).and ((spec_Text v hv sv).and ((spec_Text u hu su).and ((spec_Same v sv u).and ((spec_Len v sv).and (spec_Flat v sv))))))))))).mono fun k ⟨h0, h1, h2, h3, h4, h5, h6, h7, h8, h9, h10⟩ => ?_))
  simp only [G5, f5_N, f5_e, h0, h1, h2, h3, h4, h5, h6, h7, h8, h9, h10, PV.els, pvI_len, decide_true]
  cases c.big 100
  case true => rfl
  cases v.wide 40
  case true => rfl
  cases u.wide 40
  case true => rfl
  simp only [Bool.not_true, cond_false, cond_true, beq_self_eq_true]
  rcases Bool.eq_false_or_eq_true (vGood c v) with hg | hg
  case inr => rw [hg]; rfl
  rcases Bool.eq_false_or_eq_true (vGood c u) with hg2 | hg2
  case inr => rw [hg, hg2]; rfl
  have e : decide (v.txt = u.txt) = v.same u := by
    simp only [vGood, Bool.and_eq_true] at hg hg2
    rw [Bool.eq_iff_iff, decide_eq_true_eq, Val.same_iff]
    exact ⟨fun h => (txt_pre c v u hv hu hg.2 hg2.2 [] [] (by rw [h])).1, fun h => by rw [h]⟩
  rw [hg, hg2, e]
  cases v.same u <;> rfl

theorem good_seq {c d : Cor} (h : (Cor.mk 3 0 0 [c, d]).good = true) : c.cnt + d.cnt ≤ 1999 ∧ c.fmd = true ∧ d.fmd = true := by
  simp only [Cor.good, Cor.cnt, Cor.cnts, Cor.fmd, Cor.fmds, Bool.and_eq_true, decide_eq_true_eq] at h
  have h1 : 1 + (c.cnt + (d.cnt + 0)) ≤ 2000 := of_decide_eq_true h.1
  exact ⟨by omega, h.2.2.1, h.2.2.2.1⟩
theorem ValueMade.main (c d : Cor) (v u : Val) (hc : c.Ok) (hd : d.Ok) (hv : v.Ok) (hu : u.Ok) (hs : c.size + (d.size + (v.size + u.size)) ≤ 100000000) : ∃ k, G3 k c.pv d.pv v.pv u.pv (fun y => some ([.bool y], [])) = some ([.bool true], []) := by
  have sc : c.Sm := by simp only [Cor.Sm]; omega
  have sd : d.Sm := by simp only [Cor.Sm]; omega
  have sv : v.Sm := by simp only [Val.Sm]; omega
  have su : u.Sm := by simp only [Val.Sm]; omega
  have o2 : ∀ k n : Int, 0 ≤ k → k < 10 → 0 ≤ n → n < 10 → (Cor.mk k 0 n [c, d]).Ok := fun k n _ _ _ _ => ⟨by omega, by decide, by omega, hc, hd, trivial⟩
  have o1 : ∀ k n : Int, 0 ≤ k → k < 10 → 0 ≤ n → n < 10 → (Cor.mk k 0 n [c]).Ok := fun k n _ _ _ _ => ⟨by omega, by decide, by omega, hc, trivial⟩
  have s2 : ∀ k n : Int, (Cor.mk k 0 n [c, d]).Sm := fun k n => by simp only [Cor.Sm, Cor.size, Cor.sizes]; omega
  have s1 : ∀ k n : Int, (Cor.mk k 0 n [c]).Sm := fun k n => by simp only [Cor.Sm, Cor.size, Cor.sizes]; omega
  have w2 : ∀ k : Int, 0 ≤ k → k < 10 → (Val.mk k 0 [v, u]).Ok := fun k _ _ => ⟨by omega, by omega, hv, hu, trivial⟩
  have w3 : ∀ k : Int, 0 ≤ k → k < 10 → (Val.mk k 0 [v, v]).Ok := fun k _ _ => ⟨by omega, by omega, hv, hv, trivial⟩
  have w1 : ∀ k : Int, 0 ≤ k → k < 10 → (Val.mk k 0 [v]).Ok := fun k _ _ => ⟨by omega, by omega, hv, trivial⟩
  have w4 : ∀ k : Int, 0 ≤ k → k < 10 → (Val.mk k 0 [u]).Ok := fun k _ _ => ⟨by omega, by omega, hu, trivial⟩
  have z2 : ∀ k : Int, (Val.mk k 0 [v, u]).Sm := fun k => by simp only [Val.Sm, Val.size, Val.sizes]; omega
  have z3 : ∀ k : Int, (Val.mk k 0 [v, v]).Sm := fun k => by simp only [Val.Sm, Val.size, Val.sizes]; omega
  have z1 : ∀ k : Int, (Val.mk k 0 [v]).Sm := fun k => by simp only [Val.Sm, Val.size, Val.sizes]; omega
  have z4 : ∀ k : Int, (Val.mk k 0 [u]).Sm := fun k => by simp only [Val.Sm, Val.size, Val.sizes]; omega
  have pn : (bs 0) = PV.agg [PV.int 0, PV.int 0, PV.int 0, PV.int 0] := rfl
  have b1 : Ult fun k => ∀ ret, G19 k c.pv d.pv ret = ret (Cor.mk 4 0 0 [c, d]).pv :=
    Ult.succ (Ult.of fun k ret => by simp only [G19, f19_N, f19_e, Cor.pv, Cor.pvs, bs_zero])
  have b2 : Ult fun k => ∀ ret, G20 k c.pv ret = ret (Cor.mk 5 0 0 [c]).pv :=
    Ult.succ (Ult.of fun k ret => by simp only [G20, f20_N, f20_e, Cor.pv, Cor.pvs, bs_zero])
  have b3 : Ult fun k => ∀ ret, G21 k 1 c.pv ret = ret (Cor.mk 6 0 1 [c]).pv :=
    Ult.succ (Ult.of fun k ret => by simp only [G21, f21_N, f21_e, Cor.pv, Cor.pvs, bs_zero])
  have b4 : Ult fun k => ∀ ret, G22 k c.pv ret = ret (Cor.mk 7 0 0 [c]).pv :=
    Ult.succ (Ult.of fun k ret => by simp only [G22, f22_N, f22_e, Cor.pv, Cor.pvs, bs_zero])
  have q1 : PV.agg [PV.int 3, PV.int 0, PV.list [v.pv, u.pv]] = (Val.mk 3 0 [v, u]).pv := by simp only [Val.pv, Val.pvs]
  have q2 : PV.agg [PV.int 4, PV.int 0, PV.list [v.pv]] = (Val.mk 4 0 [v]).pv := by simp only [Val.pv, Val.pvs]
  have q3 : PV.agg [PV.int 5, PV.int 0, PV.list [u.pv]] = (Val.mk 5 0 [u]).pv := by simp only [Val.pv, Val.pvs]
  have q4 : PV.agg [PV.int 6, PV.int 0, PV.list [v.pv, v.pv]] = (Val.mk 6 0 [v, v]).pv := by simp only [Val.pv, Val.pvs]
  have q5 : PV.agg [PV.int 7, PV.int 0, PV.list [v.pv]] = (Val.mk 7 0 [v]).pv := by simp only [Val.pv, Val.pvs]
  refine Ult.get (Ult.succ ((spec_awake.and ((spec_big c 60 (by omega)).and ((spec_big d 60 (by omega)).and ((spec_wide v 30 (by omega)).and ((spec_wide u 30 (by omega)).and (spec_seq.and ((spec_cGood _ (o2 3 0 (by omega) (by omega) (by omega) (by omega)) (s2 3 0)).and ((spec_vGood c hc sc v hv sv).and ((spec_vGood d hd sd u hu su).and ((spec_vGood _ (o2 3 0 (by omega) (by omega) (by omega) (by omega)) (s2 3 0) _ (w2 3 (by omega) (by omega)) (z2 3)).and ((spec_vGood _ (o2 4 0 (by omega) (by omega) (by omega) (by omega)) (s2 4 0) _ (w1 4 (by omega) (by omega)) (z1 4)).and ((spec_vGood _ (o2 4 0 (by omega) (by omega) (by omega) (by omega)) (s2 4 0) _ (w4 5 (by omega) (by omega)) (z4 5)).and ((spec_vGood _ (o1 5 0 (by omega) (by omega) (by omega) (by omega)) (s1 5 0) _ (w3 6 (by omega) (by omega)) (z3 6)).and ((spec_vGood _ (o1 6 1 (by omega) (by omega) (by omega) (by omega)) (s1 6 1) _ (w1 7 (by omega) (by omega)) (z1 7)).and ((spec_vGood _ (o1 7 0 (by omega) (by omega) (by omega) (by omega)) (s1 7 0) _ hv sv).and ((spec_Len _ (z2 3)).and ((spec_Len v sv).and ((spec_Len u su).and (b1.and (b2.and (b3.and b4))))))))))))))))))))).mono fun k ⟨h0, h1, h2, h3, h4, h5, h6, h7, h8, h9, h10, h11, h12, h13, h14, h15, h16, h17, a1, a2, a3, a4⟩ => ?_))
  simp only [G3, f3_N, f3_e, h0, h1, h2, h3, h4, h5, h6, h7, h8, q1, q2, q3, q4, q5, h9, a1, a2, a3, a4, h10, h11, h12, h13, h14, h15, h16, h17]
  cases c.big 60
  case true => rfl
  cases d.big 60
  case true => rfl
  cases v.wide 30
  case true => rfl
  cases u.wide 30
  case true => rfl
  simp only [Bool.not_true, cond_false, cond_true, beq_self_eq_true]
  rcases Bool.eq_false_or_eq_true (Cor.mk 3 0 0 [c, d]).good with hg | hg
  case inr => rw [hg]; rfl
  obtain ⟨g1, g2, g3⟩ := good_seq hg
  have pc := d.cnt_pos
  have pd := c.cnt_pos
  have k1 : vGood c v = vg c v := by simp [vGood, Cor.good, g2, show c.cnt ≤ 2000 by omega]
  have k2 : vGood d u = vg d u := by simp [vGood, Cor.good, g3, show d.cnt ≤ 2000 by omega]
  have k3 : vGood (.mk 3 0 0 [c, d]) (.mk 3 0 [v, u]) = (vg c v && vg d u) := by
    simp only [vGood, hg, Bool.true_and]
    simp [vg, vgN, vkc, vkm, Val.kind, Val.byte, Val.kidl]
  have k4 : vGood (.mk 4 0 0 [c, d]) (.mk 4 0 [v]) = vg c v := by
    simp [vGood, Cor.good, Cor.cnt, Cor.cnts, Cor.fmd, Cor.fmds, Cor.nodeOk, Cor.partsI, vg, vgN, vkc, vkm, Val.kind, Val.byte, Val.kidl, g2, g3, show 1 + (c.cnt + d.cnt) ≤ 2000 by omega]
  have k5 : vGood (.mk 4 0 0 [c, d]) (.mk 5 0 [u]) = vg d u := by
    simp [vGood, Cor.good, Cor.cnt, Cor.cnts, Cor.fmd, Cor.fmds, Cor.nodeOk, Cor.partsI, vg, vgN, vkc, vkm, Val.kind, Val.byte, Val.kidl, g2, g3, show 1 + (c.cnt + d.cnt) ≤ 2000 by omega]
  have k6 : vGood (.mk 5 0 0 [c]) (.mk 6 0 [v, v]) = vg c v := by
    simp [vGood, Cor.good, Cor.cnt, Cor.cnts, Cor.fmd, Cor.fmds, Cor.nodeOk, Cor.partsI, vg, vgN, vkc, vkm, Val.kind, Val.byte, Val.kidl, g2, show 1 + c.cnt ≤ 2000 by omega]
  have k7 : vGood (.mk 6 0 1 [c]) (.mk 7 0 [v]) = vg c v := by
    simp [vGood, Cor.good, Cor.cnt, Cor.cnts, Cor.fmd, Cor.fmds, Cor.nodeOk, Cor.partsI, vg, vgN, vkc, vkm, Val.kind, Val.byte, Val.kidl, g2, show 1 + c.cnt ≤ 2000 by omega]
  have k8 : vGood (.mk 7 0 0 [c]) v = vg c v := by
    simp [vGood, Cor.good, Cor.cnt, Cor.cnts, Cor.fmd, Cor.fmds, Cor.nodeOk, Cor.partsI, vg, vgN, g2, show 1 + c.cnt ≤ 2000 by omega]
  have f1 := Val.flat_len v
  have f2 := Val.flat_len u
  have k9 : (Val.mk 3 0 [v, u]).flat.length = v.flat.length + u.flat.length := by
    rw [Val.flat_eq]; simp [Val.kids, Val.ar, Val.kind, Val.byte, Val.kidl]
  have k10 : decide (((v.flat.length + u.flat.length : Nat) : Int) = IntKind.wrap .i64 ((v.flat.length : Int) + (u.flat.length : Int))) = true := by
    rw [wrap_i64 (by omega) (by omega)]; simp
  rw [hg, k1, k2, k3, k4, k5, k6, k7, k8, k9, k10]
  cases vg c v <;> cases vg d u <;> rfl
end Go.Proofs.Ytbellpoahhhmhaa
