/- The law BitsApart comes out true. -/
import Derived.Test.YtbellpoahhhmhaaFull
import Derived.Test.YtbellpoahhhmhaaValE
import Derived.Test.YtbellpoahhhmhaaVgC
import Derived.Test.YtbellpoahhhmhaaPut
set_option linter.unusedSimpArgs false
set_option linter.unusedVariables false
set_option maxRecDepth 20000
namespace Go.Proofs.Ytbellpoahhhmhaa
open Go Go.X

theorem bits_k1 (b : Int) : (Val.mk 1 b []).bits = [] := by simp [Val.bits_eq (Val.mk 1 b []), Val.kind, Val.kids, Val.kidl, Val.ar, Val.bitsK]
theorem bits_k2 (b : Int) : (Val.mk 2 b []).bits = [] := by simp [Val.bits_eq (Val.mk 2 b []), Val.kind, Val.kids, Val.kidl, Val.ar, Val.bitsK]
theorem bits_k3 (b : Int) (x y : Val) : (Val.mk 3 b [x, y]).bits = x.bits ++ y.bits := by simp [Val.bits_eq (Val.mk 3 b [x, y]), Val.kind, Val.kids, Val.kidl, Val.ar, Val.bitsK]
theorem bits_k4 (b : Int) (x : Val) : (Val.mk 4 b [x]).bits = 48 :: x.bits := by simp [Val.bits_eq (Val.mk 4 b [x]), Val.kind, Val.kids, Val.kidl, Val.ar, Val.bitsK]
theorem bits_k5 (b : Int) (x : Val) : (Val.mk 5 b [x]).bits = 49 :: x.bits := by simp [Val.bits_eq (Val.mk 5 b [x]), Val.kind, Val.kids, Val.kidl, Val.ar, Val.bitsK]
theorem bits_k6 (b : Int) (l : List Val) : (Val.mk 6 b l).bits = (l.flatMap fun x => 48 :: x.bits) ++ [49] := by simp [Val.bits_eq (Val.mk 6 b l), Val.kind, Val.kids, Val.kidl, Val.ar, Val.bitsK]
theorem bits_k7 (b : Int) (x : Val) : (Val.mk 7 b [x]).bits = x.bits := by simp [Val.bits_eq (Val.mk 7 b [x]), Val.kind, Val.kids, Val.kidl, Val.ar, Val.bitsK]
theorem flat_k1 (b : Int) : (Val.mk 1 b []).flat = [] := by simp [Val.flat_eq, Val.kind, Val.kids, Val.kidl, Val.ar]
theorem flat_k2 (b : Int) : (Val.mk 2 b []).flat = [b] := by simp [Val.flat_eq, Val.kind, Val.kids, Val.kidl, Val.byte, Val.ar]
theorem flat_k3 (b : Int) (x y : Val) : (Val.mk 3 b [x, y]).flat = x.flat ++ y.flat := by simp [Val.flat_eq (Val.mk 3 b [x, y]), Val.kind, Val.kids, Val.kidl, Val.ar]
theorem flat_k4 (b : Int) (x : Val) : (Val.mk 4 b [x]).flat = x.flat := by simp [Val.flat_eq (Val.mk 4 b [x]), Val.kind, Val.kids, Val.kidl, Val.ar]
theorem flat_k5 (b : Int) (x : Val) : (Val.mk 5 b [x]).flat = x.flat := by simp [Val.flat_eq (Val.mk 5 b [x]), Val.kind, Val.kids, Val.kidl, Val.ar]
theorem flat_k6 (b : Int) (l : List Val) : (Val.mk 6 b l).flat = l.flatMap Val.flat := by simp [Val.flat_eq (Val.mk 6 b l), Val.kind, Val.kids, Val.kidl, Val.ar]
theorem flat_k7 (b : Int) (x : Val) : (Val.mk 7 b [x]).flat = x.flat := by simp [Val.flat_eq (Val.mk 7 b [x]), Val.kind, Val.kids, Val.kidl, Val.ar]

def Dec (x y : Val) : Prop := ∀ s t p q : List Int, x.bits ++ s = y.bits ++ t → x.flat ++ p = y.flat ++ q → x = y ∧ s = t ∧ p = q
theorem items_pre : ∀ (xs ys : List Val), (∀ x ∈ xs, ∀ y ∈ ys, Dec x y) → ∀ s t p q : List Int, (xs.flatMap fun x => 48 :: x.bits) ++ 49 :: s = (ys.flatMap fun x => 48 :: x.bits) ++ 49 :: t → xs.flatMap Val.flat ++ p = ys.flatMap Val.flat ++ q → xs = ys ∧ s = t ∧ p = q
  | [], [], _, s, t, p, q, h, g => by simp at h g; exact ⟨rfl, h, g⟩
  | [], y :: ys, _, s, t, p, q, h, g => by simp at h
  | x :: xs, [], _, s, t, p, q, h, g => by simp at h
  | x :: xs, y :: ys, hd, s, t, p, q, h, g => by
    simp only [List.flatMap_cons, List.cons_append, List.append_assoc, List.cons.injEq, true_and] at h g
    obtain ⟨e1, h2, g2⟩ := hd x (by simp) y (by simp) _ _ _ _ h g
    obtain ⟨e2, h3, g3⟩ := items_pre xs ys (fun a ha b hb => hd a (by simp [ha]) b (by simp [hb])) s t p q h2 g2
    exact ⟨by rw [e1, e2], h3, g3⟩
/-- Choices and bytes tell a value of a core, and where they end. -/
theorem bits_pre (c : Cor) : ∀ v u : Val, vg c v = true → vg c u = true → Dec v u := by
  refine Cor.ind (p := fun c => ∀ v u : Val, vg c v = true → vg c u = true → Dec v u) (fun k z n l ih v u gv gu s t p q h g => ?_) c
  have two : ∀ (i : Nat) (x y : Val), vgN l i x = true → vgN l i y = true → Dec x y := by
    intro i x y g1 g2
    obtain ⟨c1, m1, e1, g1⟩ := vgN_mem g1
    obtain ⟨c2, m2, e2, g2⟩ := vgN_mem g2
    rw [e1] at e2; injection e2 with e2; subst e2
    exact ih c1 m1 x y g1 g2
  by_cases h7 : k = 7
  · unfold vg at gv gu
    rw [if_pos h7] at gv gu
    exact two 0 v u gv gu s t p q h g
  have cv := vg_cases h7 gv
  have cu := vg_cases h7 gu
  clear gv gu
  cases cv with
  | k1 e => cases cu with
    | k1 _ => rw [bits_k1] at h; rw [flat_k1] at g; exact ⟨rfl, by simpa using h, by simpa using g⟩
    | k2 b e' | k3 _ _ e' | k4 _ e' | k5 _ e' | k6 _ e' | k7 _ e' => omega
  | k2 b e => cases cu with
    | k2 b' _ =>
      rw [bits_k2, bits_k2] at h; rw [flat_k2, flat_k2] at g
      simp at h g
      exact ⟨by rw [g.1], h, g.2⟩
    | k1 e' | k3 _ _ e' | k4 _ e' | k5 _ e' | k6 _ e' | k7 _ e' => omega
  | k3 x y e gx gy => cases cu with
    | k3 x' y' _ gx' gy' =>
      rw [bits_k3, bits_k3, List.append_assoc, List.append_assoc] at h; rw [flat_k3, flat_k3, List.append_assoc, List.append_assoc] at g
      obtain ⟨e1, h, g⟩ := two 0 x x' gx gx' _ _ _ _ h g
      obtain ⟨e2, h, g⟩ := two 1 y y' gy gy' _ _ _ _ h g
      exact ⟨by rw [e1, e2], h, g⟩
    | k1 e' | k2 _ e' | k4 _ e' | k5 _ e' | k6 _ e' | k7 _ e' => omega
  | k4 x e gx => cases cu with
    | k4 x' _ gx' =>
      rw [bits_k4, bits_k4] at h; rw [flat_k4, flat_k4] at g
      simp only [List.cons_append, List.cons.injEq, true_and] at h
      obtain ⟨e1, h, g⟩ := two 0 x x' gx gx' _ _ _ _ h g
      exact ⟨by rw [e1], h, g⟩
    | k5 x' _ gx' => rw [bits_k4, bits_k5] at h; simp at h
    | k1 e' | k2 _ e' | k3 _ _ e' | k6 _ e' | k7 _ e' => omega
  | k5 x e gx => cases cu with
    | k5 x' _ gx' =>
      rw [bits_k5, bits_k5] at h; rw [flat_k5, flat_k5] at g
      simp only [List.cons_append, List.cons.injEq, true_and] at h
      obtain ⟨e1, h, g⟩ := two 1 x x' gx gx' _ _ _ _ h g
      exact ⟨by rw [e1], h, g⟩
    | k4 x' _ gx' => rw [bits_k4, bits_k5] at h; simp at h
    | k1 e' | k2 _ e' | k3 _ _ e' | k6 _ e' | k7 _ e' => omega
  | k6 xs e gx => cases cu with
    | k6 ys _ gy =>
      rw [bits_k6, bits_k6, List.append_assoc, List.append_assoc] at h; rw [flat_k6, flat_k6] at g
      obtain ⟨e1, h, g⟩ := items_pre xs ys (fun x hx y hy => two 0 x y (gx x hx) (gy y hy)) s t p q h g
      exact ⟨by rw [e1], h, g⟩
    | k1 e' | k2 _ e' | k3 _ _ e' | k4 _ e' | k5 _ e' | k7 _ e' => omega
  | k7 x e gx => cases cu with
    | k7 x' _ gx' =>
      rw [bits_k7, bits_k7] at h; rw [flat_k7, flat_k7] at g
      obtain ⟨e1, h, g⟩ := two 0 x x' gx gx' _ _ _ _ h g
      exact ⟨by rw [e1], h, g⟩
    | k1 e' | k2 _ e' | k3 _ _ e' | k4 _ e' | k5 _ e' | k6 _ e' => omega

theorem spec_awake : Ult fun k => ∀ ret, G40 k ret = ret true := by
  refine (Ult.ge 300).mono fun k hk ret => ?_
  obtain ⟨m, rfl⟩ := Nat.exists_eq_add_of_le' hk
  kernel_rfl

theorem drop0 (l : List Int) : List.drop ((0 : Int)).toNat l = l := rfl
theorem pre_take {a b : List Int} (h : b.length ≤ a.length) : (a.take b.length = b) ↔ ∃ r, a = b ++ r := by
  constructor
  · intro e; exact ⟨a.drop b.length, by conv => lhs; rw [← List.take_append_drop b.length a, e]⟩
  · rintro ⟨r, rfl⟩; simp
theorem BitsApart.main (c : Cor) (v u : Val) (hc : c.Ok) (hv : v.Ok) (hu : u.Ok) (hs : c.size + (v.size + u.size) ≤ 100000000) : ∃ k, G12 k c.pv v.pv u.pv (fun y => some ([.bool y], [])) = some ([.bool true], []) := by
  have sc : c.Sm := by simp only [Cor.Sm]; omega
  have sv : v.Sm := by simp only [Val.Sm]; omega
  have su : u.Sm := by simp only [Val.Sm]; omega
  refine Ult.get (Ult.succ ((spec_awake.and ((spec_big c 100 (by omega)).and ((spec_wide v 40 (by omega)).and ((spec_wide u 40 (by omega)).and ((spec_Full c hc sc v hv sv).and ((spec_Full c hc sc u hu su).and ((spec_Flat v sv).and ((spec_Flat u su).and ((spec_Put v sv).and ((spec_Put u su).and (spec_Same v sv u))))))))))).mono fun k ⟨h0, h1, h2, h3, h4, h5, h6, h7, h8, h9, h10⟩ => ?_))
  simp only [G12, f12_N, f12_e, h0, h1, h2, h3, h4, h5, h6, h7, h8, h9, h10, PV.els, pvI_len]
  cases c.big 100
  case true => rfl
  cases v.wide 40
  case true => rfl
  cases u.wide 40
  case true => rfl
  simp only [Bool.not_true, cond_false, cond_true, beq_self_eq_true]
  rcases Bool.eq_false_or_eq_true (vGood c v && v.full) with hg | hg
  case inr => rw [hg]; rfl
  rcases Bool.eq_false_or_eq_true (vGood c u && u.full) with hg2 | hg2
  case inr => rw [hg, hg2]; rfl
  rw [hg, hg2]
  simp only [vGood, Bool.and_eq_true] at hg hg2
  have hd := bits_pre c v u hg.1.2 hg2.1.2
  simp only [Bool.not_true, beq_self_eq_true, cond_true, cond_false]
  by_cases hl : u.flat.length < v.flat.length
  · rw [decide_eq_true (show (u.flat.length : Int) < (v.flat.length : Int) by omega)]; rfl
  rw [decide_eq_false (show ¬ (u.flat.length : Int) < (v.flat.length : Int) by omega), decide_eq_true (show (0 : Int) ≤ 0 by omega), decide_eq_true (show (0 : Int) ≤ (v.flat.length : Int) by omega), decide_eq_true (show (v.flat.length : Int) ≤ (u.flat.length : Int) by omega)]
  simp only [Bool.and_self, beq_self_eq_true, cond_true]
  have e1 : List.map PV.num (List.drop ((0 : Int)).toNat (List.take ((v.flat.length : Int)).toNat (pvI u.flat))) = u.flat.take v.flat.length := by
    have : List.take ((v.flat.length : Int)).toNat (pvI u.flat) = pvI (u.flat.take v.flat.length) := by simp [pvI, List.map_take]
    rw [this]; exact pvI_num _
  rw [e1, pvI_num]
  by_cases hp : u.flat.take v.flat.length = v.flat
  case neg => rw [decide_eq_false hp]; rfl
  obtain ⟨q, hq⟩ := (pre_take (by omega)).1 hp
  rw [decide_eq_true hp]
  simp only [Bool.not_true, cond_false]
  have key : ∀ r, v.bits ++ r = u.bits ∨ v.bits = u.bits ++ r → v = u := by
    rintro r (h | h)
    · exact (hd r [] q [] (by rw [h, List.append_nil]) (by rw [hq, List.append_nil])).1
    · exact (hd [] r q [] (by rw [h, List.append_nil]) (by rw [hq, List.append_nil])).1
  by_cases he : v = u
  · have hs1 : v.same u = true := (Val.same_iff v u).2 he
    rw [hs1]
    subst he
    simp
  · have hs1 : v.same u = false := by
      rw [← Bool.not_eq_true]; exact fun h => he ((Val.same_iff v u).1 h)
    rw [hs1]
    have n1 : v.bits.length ≤ u.bits.length → ¬ List.drop ((0 : Int)).toNat (List.take ((v.bits.length : Int)).toNat u.bits) = v.bits := fun hl h => by
      have h : u.bits.take v.bits.length = v.bits := h
      obtain ⟨r, hr⟩ := (pre_take hl).1 h
      exact he (key r (.inl hr.symm))
    have n2 : u.bits.length ≤ v.bits.length → ¬ List.drop ((0 : Int)).toNat (List.take ((u.bits.length : Int)).toNat v.bits) = u.bits := fun hl h => by
      have h : v.bits.take u.bits.length = u.bits := h
      obtain ⟨r, hr⟩ := (pre_take hl).1 h
      exact he (key r (.inr hr))
    by_cases l1 : v.bits.length ≤ u.bits.length
    · rw [decide_eq_true (show (v.bits.length : Int) ≤ (u.bits.length : Int) by omega), decide_eq_false (n1 l1), decide_eq_true (show (0 : Int) ≤ (v.bits.length : Int) by omega)]
      simp only [Bool.and_self, beq_self_eq_true, cond_true]
      by_cases l2 : u.bits.length ≤ v.bits.length
      · rw [decide_eq_true (show (u.bits.length : Int) ≤ (v.bits.length : Int) by omega), decide_eq_false (n2 l2), decide_eq_true (show (0 : Int) ≤ (u.bits.length : Int) by omega)]
        rfl
      · rw [decide_eq_false (show ¬ (u.bits.length : Int) ≤ (v.bits.length : Int) by omega)]
        rfl
    · rw [decide_eq_false (show ¬ (v.bits.length : Int) ≤ (u.bits.length : Int) by omega), decide_eq_true (show (u.bits.length : Int) ≤ (v.bits.length : Int) by omega), decide_eq_false (n2 (by omega)), decide_eq_true (show (0 : Int) ≤ (u.bits.length : Int) by omega)]
      rfl
end Go.Proofs.Ytbellpoahhhmhaa
