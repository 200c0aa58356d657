/- Values of cores, their choices and their bytes: which are which. -/
import Derived.Test.YtbellpoahhhmhaaFull
import Derived.Test.YtbellpoahhhmhaaValE
import Derived.Test.YtbellpoahhhmhaaVgC
import Derived.Test.YtbellpoahhhmhaaPut
set_option linter.unusedSimpArgs false
set_option linter.unusedVariables false
set_option maxRecDepth 20000
namespace Go.Proofs.Ytbellpoahhhmhaa
open Go Go.X

theorem bits_k1 (b : Int) : (Val.mk 1 b []).bits = [] := by simp [Val.bits_eq (Val.mk 1 b []), Val.kind, Val.kids, Val.kidl, Val.ar, Val.bitsK]
theorem bits_k2 (b : Int) : (Val.mk 2 b []).bits = [] := by simp [Val.bits_eq (Val.mk 2 b []), Val.kind, Val.kids, Val.kidl, Val.ar, Val.bitsK]
theorem bits_k3 (b : Int) (x y : Val) : (Val.mk 3 b [x, y]).bits = x.bits ++ y.bits := by simp [Val.bits_eq (Val.mk 3 b [x, y]), Val.kind, Val.kids, Val.kidl, Val.ar, Val.bitsK]
theorem bits_k4 (b : Int) (x : Val) : (Val.mk 4 b [x]).bits = 48 :: x.bits := by simp [Val.bits_eq (Val.mk 4 b [x]), Val.kind, Val.kids, Val.kidl, Val.ar, Val.bitsK]
theorem bits_k5 (b : Int) (x : Val) : (Val.mk 5 b [x]).bits = 49 :: x.bits := by simp [Val.bits_eq (Val.mk 5 b [x]), Val.kind, Val.kids, Val.kidl, Val.ar, Val.bitsK]
theorem bits_k6 (b : Int) (l : List Val) : (Val.mk 6 b l).bits = (l.flatMap fun x => 48 :: x.bits) ++ [49] := by simp [Val.bits_eq (Val.mk 6 b l), Val.kind, Val.kids, Val.kidl, Val.ar, Val.bitsK]
theorem bits_k7 (b : Int) (x : Val) : (Val.mk 7 b [x]).bits = x.bits := by simp [Val.bits_eq (Val.mk 7 b [x]), Val.kind, Val.kids, Val.kidl, Val.ar, Val.bitsK]
theorem flat_k1 (b : Int) : (Val.mk 1 b []).flat = [] := by simp [Val.flat_eq, Val.kind, Val.kids, Val.kidl, Val.ar]
theorem flat_k2 (b : Int) : (Val.mk 2 b []).flat = [b] := by simp [Val.flat_eq, Val.kind, Val.kids, Val.kidl, Val.byte, Val.ar]
theorem flat_k3 (b : Int) (x y : Val) : (Val.mk 3 b [x, y]).flat = x.flat ++ y.flat := by simp [Val.flat_eq (Val.mk 3 b [x, y]), Val.kind, Val.kids, Val.kidl, Val.ar]
theorem flat_k4 (b : Int) (x : Val) : (Val.mk 4 b [x]).flat = x.flat := by simp [Val.flat_eq (Val.mk 4 b [x]), Val.kind, Val.kids, Val.kidl, Val.ar]
theorem flat_k5 (b : Int) (x : Val) : (Val.mk 5 b [x]).flat = x.flat := by simp [Val.flat_eq (Val.mk 5 b [x]), Val.kind, Val.kids, Val.kidl, Val.ar]
theorem flat_k6 (b : Int) (l : List Val) : (Val.mk 6 b l).flat = l.flatMap Val.flat := by simp [Val.flat_eq (Val.mk 6 b l), Val.kind, Val.kids, Val.kidl, Val.ar]
theorem flat_k7 (b : Int) (x : Val) : (Val.mk 7 b [x]).flat = x.flat := by simp [Val.flat_eq (Val.mk 7 b [x]), Val.kind, Val.kids, Val.kidl, Val.ar]

def Dec (x y : Val) : Prop := ∀ s t p q : List Int, x.bits ++ s = y.bits ++ t → x.flat ++ p = y.flat ++ q → x = y ∧ s = t ∧ p = q
theorem items_pre : ∀ (xs ys : List Val), (∀ x ∈ xs, ∀ y ∈ ys, Dec x y) → ∀ s t p q : List Int, (xs.flatMap fun x => 48 :: x.bits) ++ 49 :: s = (ys.flatMap fun x => 48 :: x.bits) ++ 49 :: t → xs.flatMap Val.flat ++ p = ys.flatMap Val.flat ++ q → xs = ys ∧ s = t ∧ p = q
  | [], [], _, s, t, p, q, h, g => by simp at h g; exact ⟨rfl, h, g⟩
  | [], y :: ys, _, s, t, p, q, h, g => by simp at h
  | x :: xs, [], _, s, t, p, q, h, g => by simp at h
  | x :: xs, y :: ys, hd, s, t, p, q, h, g => by
    simp only [List.flatMap_cons, List.cons_append, List.append_assoc, List.cons.injEq, true_and] at h g
    obtain ⟨e1, h2, g2⟩ := hd x (by simp) y (by simp) _ _ _ _ h g
    obtain ⟨e2, h3, g3⟩ := items_pre xs ys (fun a ha b hb => hd a (by simp [ha]) b (by simp [hb])) s t p q h2 g2
    exact ⟨by rw [e1, e2], h3, g3⟩
/-- Choices and bytes tell a value of a core, and where they end. -/
theorem bits_pre (c : Cor) : ∀ v u : Val, vg c v = true → vg c u = true → Dec v u := by
  refine Cor.ind (p := fun c => ∀ v u : Val, vg c v = true → vg c u = true → Dec v u) (fun k z n l ih v u gv gu s t p q h g => ?_) c
  have two : ∀ (i : Nat) (x y : Val), vgN l i x = true → vgN l i y = true → Dec x y := by
    intro i x y g1 g2
    obtain ⟨c1, m1, e1, g1⟩ := vgN_mem g1
    obtain ⟨c2, m2, e2, g2⟩ := vgN_mem g2
    rw [e1] at e2; injection e2 with e2; subst e2
    exact ih c1 m1 x y g1 g2
  by_cases h7 : k = 7
  · unfold vg at gv gu
    rw [if_pos h7] at gv gu
    exact two 0 v u gv gu s t p q h g
  have cv := vg_cases h7 gv
  have cu := vg_cases h7 gu
  clear gv gu
  cases cv with
  | k1 e => cases cu with
    | k1 _ => rw [bits_k1] at h; rw [flat_k1] at g; exact ⟨rfl, by simpa using h, by simpa using g⟩
    | k2 b e' | k3 _ _ e' | k4 _ e' | k5 _ e' | k6 _ e' | k7 _ e' => omega
  | k2 b e => cases cu with
    | k2 b' _ =>
      rw [bits_k2, bits_k2] at h; rw [flat_k2, flat_k2] at g
      simp at h g
      exact ⟨by rw [g.1], h, g.2⟩
    | k1 e' | k3 _ _ e' | k4 _ e' | k5 _ e' | k6 _ e' | k7 _ e' => omega
  | k3 x y e gx gy => cases cu with
    | k3 x' y' _ gx' gy' =>
      rw [bits_k3, bits_k3, List.append_assoc, List.append_assoc] at h; rw [flat_k3, flat_k3, List.append_assoc, List.append_assoc] at g
      obtain ⟨e1, h, g⟩ := two 0 x x' gx gx' _ _ _ _ h g
      obtain ⟨e2, h, g⟩ := two 1 y y' gy gy' _ _ _ _ h g
      exact ⟨by rw [e1, e2], h, g⟩
    | k1 e' | k2 _ e' | k4 _ e' | k5 _ e' | k6 _ e' | k7 _ e' => omega
  | k4 x e gx => cases cu with
    | k4 x' _ gx' =>
      rw [bits_k4, bits_k4] at h; rw [flat_k4, flat_k4] at g
      simp only [List.cons_append, List.cons.injEq, true_and] at h
      obtain ⟨e1, h, g⟩ := two 0 x x' gx gx' _ _ _ _ h g
      exact ⟨by rw [e1], h, g⟩
    | k5 x' _ gx' => rw [bits_k4, bits_k5] at h; simp at h
    | k1 e' | k2 _ e' | k3 _ _ e' | k6 _ e' | k7 _ e' => omega
  | k5 x e gx => cases cu with
    | k5 x' _ gx' =>
      rw [bits_k5, bits_k5] at h; rw [flat_k5, flat_k5] at g
      simp only [List.cons_append, List.cons.injEq, true_and] at h
      obtain ⟨e1, h, g⟩ := two 1 x x' gx gx' _ _ _ _ h g
      exact ⟨by rw [e1], h, g⟩
    | k4 x' _ gx' => rw [bits_k4, bits_k5] at h; simp at h
    | k1 e' | k2 _ e' | k3 _ _ e' | k6 _ e' | k7 _ e' => omega
  | k6 xs e gx => cases cu with
    | k6 ys _ gy =>
      rw [bits_k6, bits_k6, List.append_assoc, List.append_assoc] at h; rw [flat_k6, flat_k6] at g
      obtain ⟨e1, h, g⟩ := items_pre xs ys (fun x hx y hy => two 0 x y (gx x hx) (gy y hy)) s t p q h g
      exact ⟨by rw [e1], h, g⟩
    | k1 e' | k2 _ e' | k3 _ _ e' | k4 _ e' | k5 _ e' | k7 _ e' => omega
  | k7 x e gx => cases cu with
    | k7 x' _ gx' =>
      rw [bits_k7, bits_k7] at h; rw [flat_k7, flat_k7] at g
      obtain ⟨e1, h, g⟩ := two 0 x x' gx gx' _ _ _ _ h g
      exact ⟨by rw [e1], h, g⟩
    | k1 e' | k2 _ e' | k3 _ _ e' | k4 _ e' | k5 _ e' | k6 _ e' => omega

theorem vgp1 (s : Nat) (n : Int) (l : List Cor) : vg (.mk 1 s n l) (.mk 1 0 []) = true := by simp [vg, vkc, vkm, Val.kind, Val.byte, Val.kidl]
theorem vgp2 (s : Nat) (n : Int) (l : List Cor) (b : Int) : vg (.mk 2 s n l) (.mk 2 b []) = s.testBit b.toNat := by simp [vg, vkc, vkm, Val.kind, Val.byte, Val.kidl]
theorem vgp3 (s : Nat) (n : Int) (l : List Cor) (x y : Val) : vg (.mk 3 s n l) (.mk 3 0 [x, y]) = (vgN l 0 x && vgN l 1 y) := by simp [vg, vkc, vkm, Val.kind, Val.byte, Val.kidl]
theorem vgp4 (s : Nat) (n : Int) (l : List Cor) (x : Val) : vg (.mk 4 s n l) (.mk 4 0 [x]) = vgN l 0 x := by simp [vg, vkc, vkm, Val.kind, Val.byte, Val.kidl]
theorem vgp5 (s : Nat) (n : Int) (l : List Cor) (x : Val) : vg (.mk 4 s n l) (.mk 5 0 [x]) = vgN l 1 x := by simp [vg, vkc, vkm, Val.kind, Val.byte, Val.kidl]
theorem vgp6 (s : Nat) (n : Int) (l : List Cor) (xs : List Val) : vg (.mk 5 s n l) (.mk 6 0 xs) = xs.all fun x => vgN l 0 x := by simp [vg, vkc, vkm, Val.kind, Val.byte, Val.kidl]
theorem vgp7 (s : Nat) (n : Int) (l : List Cor) (x : Val) : vg (.mk 6 s n l) (.mk 7 0 [x]) = vgN l 0 x := by simp [vg, vkc, vkm, Val.kind, Val.byte, Val.kidl]
end Go.Proofs.Ytbellpoahhhmhaa
