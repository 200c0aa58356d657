/- Laws of package value: made, sizes, texts. -/
import Derived.Test.YtbellpoahhhmhaaValT
set_option linter.unusedSimpArgs false
set_option linter.unusedVariables false
set_option maxRecDepth 20000
namespace Go.Proofs.Ytbellpoahhhmhaa
open Go Go.X

theorem ar_vkm {k : Int} {n : Nat} (h0 : vkc k ≠ 0) (h : (n : Int) = vkm k n) : Val.ar k n = n := by
  unfold vkm at h
  unfold vkc at h0
  by_cases h1 : k = 1
  · simp [h1] at h; subst h; simp [h1, Val.ar]
  by_cases h2 : k = 2
  · simp [h2] at h; subst h; simp [h2, Val.ar]
  by_cases h3 : k = 3
  · simp [h3] at h; simp [h3, Val.ar]; omega
  by_cases h4 : k = 4
  · simp [h4] at h; simp [h4, Val.ar]; omega
  by_cases h5 : k = 5
  · simp [h5] at h; simp [h5, Val.ar]; omega
  by_cases h6 : k = 6
  · simp [h6, Val.ar]
  by_cases h7 : k = 7
  · simp [h7] at h; simp [h7, Val.ar]; omega
  simp [h1, h2, h3, h4, h5, h6, h7] at h0

theorem vg_kids (c : Cor) : ∀ v : Val, vg c v = true → vkc v.kind ≠ 0 ∧ (v.kidl.length : Int) = vkm v.kind v.kidl.length := by
  refine Cor.ind (p := fun c => ∀ v : Val, vg c v = true → vkc v.kind ≠ 0 ∧ (v.kidl.length : Int) = vkm v.kind v.kidl.length) (fun k s n l ih v h => ?_) c
  unfold vg at h
  by_cases h7 : k = 7
  · rw [if_pos h7] at h
    cases l with
    | nil => simp [vgN] at h
    | cons c0 t => exact ih c0 (by simp) v (by simpa [vgN] using h)
  · rw [if_neg h7] at h
    by_cases hc : vkc v.kind = k ∧ vkc v.kind ≠ 0 ∧ (v.kidl.length : Int) = vkm v.kind v.kidl.length ∧ (k = 2 ∨ v.byte = 0)
    · exact ⟨hc.2.1, hc.2.2.1⟩
    · rw [if_neg hc] at h; cases h
theorem vg_all {c : Cor} {v : Val} (h : vg c v = true) : v.kids = v.kidl := by
  obtain ⟨h0, h1⟩ := vg_kids c v h
  unfold Val.kids
  rw [show Val.ar v.kind v.kidl.length = v.kidl.length from ar_vkm h0 h1, List.take_length]

theorem dg_fin : ∀ n : Fin 16, dg (n.1 : Int) ≠ 63 ∧ dg (n.1 : Int) ≠ 44 ∧ dg (n.1 : Int) ≠ 93 := by decide
theorem dg_ne {n : Int} (h0 : 0 ≤ n) (h1 : n < 16) : dg n ≠ 63 ∧ dg n ≠ 44 ∧ dg n ≠ 93 := by
  have := dg_fin ⟨n.toNat, by omega⟩
  simpa only [Int.toNat_of_nonneg h0] using this
theorem dg_injF : ∀ n m : Fin 16, dg (n.1 : Int) = dg (m.1 : Int) → n = m := by decide
theorem dg_inj {n m : Int} (h0 : 0 ≤ n) (h1 : n < 16) (g0 : 0 ≤ m) (g1 : m < 16) (h : dg n = dg m) : n = m := by
  have := dg_injF ⟨n.toNat, by omega⟩ ⟨m.toNat, by omega⟩ (by simpa only [Int.toNat_of_nonneg h0, Int.toNat_of_nonneg g0] using h)
  injection this with this; omega
theorem hex_inj {a b : Int} (ha : 0 ≤ a ∧ a < 256) (hb : 0 ≤ b ∧ b < 256) (h1 : dg (a / 16) = dg (b / 16)) (h2 : dg (a % 16) = dg (b % 16)) : a = b := by
  have := dg_inj (by omega) (by omega) (by omega) (by omega) h1
  have := dg_inj (by omega) (by omega) (by omega) (by omega) h2
  omega
theorem txt_head (v : Val) (hv : v.Ok) : ∃ h r, v.txt = h :: r ∧ h ≠ 93 ∧ h ≠ 44 ∧ (vkc v.kind ≠ 0 → h ≠ 63) := by
  obtain ⟨k, b, l⟩ := v
  have hb : 0 ≤ b ∧ b < 256 := hv.2.1
  rw [Val.txt]
  by_cases h1 : k = 1
  · subst h1; exact ⟨_, _, rfl, by decide, by decide, fun _ => by decide⟩
  by_cases h2 : k = 2
  · subst h2
    have := dg_ne (n := b / 16) (by omega) (by omega)
    exact ⟨_, _, rfl, this.2.2, this.2.1, fun _ => this.1⟩
  by_cases h3 : k = 3
  · subst h3; exact ⟨_, _, rfl, by decide, by decide, fun _ => by decide⟩
  by_cases h4 : k = 4
  · subst h4; exact ⟨_, _, rfl, by decide, by decide, fun _ => by decide⟩
  by_cases h5 : k = 5
  · subst h5; exact ⟨_, _, rfl, by decide, by decide, fun _ => by decide⟩
  by_cases h6 : k = 6
  · subst h6; exact ⟨_, _, rfl, by decide, by decide, fun _ => by decide⟩
  by_cases h7 : k = 7
  · subst h7; exact ⟨_, _, rfl, by decide, by decide, fun _ => by decide⟩
  refine ⟨63, _, by simp only [ahead, if_neg h1, if_neg h2, if_neg h3, if_neg h4, if_neg h5, if_neg h6, if_neg h7]; rfl, by decide, by decide, fun h => ?_⟩
  simp [vkc, h1, h2, h3, h4, h5, h6, h7] at h

/-- Items' texts tell where they end. -/
theorem kidsT_pre (p : Val → Prop) : ∀ (xs ys : List Val) (f : Bool), (∀ x ∈ xs, x.Ok) → (∀ y ∈ ys, y.Ok) → (∀ x ∈ xs, ∀ y ∈ ys, ∀ s t, x.txt ++ s = y.txt ++ t → x = y ∧ s = t) → ∀ s t, Val.kidsT f xs ++ 93 :: s = Val.kidsT f ys ++ 93 :: t → xs = ys ∧ s = t
  | [], [], f, _, _, _, s, t, h => by simpa [Val.kidsT] using h
  | [], y :: ys, f, _, hy, _, s, t, h => by
    obtain ⟨c, r, e, h1, h2, _⟩ := txt_head y (hy y (by simp))
    cases f <;> simp [Val.kidsT, e] at h
    exact absurd h.1.symm h1
  | x :: xs, [], f, hx, _, _, s, t, h => by
    obtain ⟨c, r, e, h1, h2, _⟩ := txt_head x (hx x (by simp))
    cases f <;> simp [Val.kidsT, e] at h
    exact absurd h.1 h1
  | x :: xs, y :: ys, f, hx, hy, hp, s, t, h => by
    have h' : x.txt ++ (Val.kidsT false xs ++ 93 :: s) = y.txt ++ (Val.kidsT false ys ++ 93 :: t) := by
      simp only [Val.kidsT, List.append_assoc] at h
      cases f
      · simpa using h
      · simpa using h
    obtain ⟨e1, e2⟩ := hp x (by simp) y (by simp) _ _ h'
    obtain ⟨e3, e4⟩ := kidsT_pre p xs ys false (fun z hz => hx z (by simp [hz])) (fun z hz => hy z (by simp [hz])) (fun a ha b hb => hp a (by simp [ha]) b (by simp [hb])) s t e2
    exact ⟨by rw [e1, e3], e4⟩

theorem txt_k3 (b : Int) (x y : Val) : (Val.mk 3 b [x, y]).txt = 40 :: (x.txt ++ 44 :: (y.txt ++ [41])) := by
  simp [Val.txt, ahead, behind, Val.txtL, Val.ar]
theorem txt_k4 (b : Int) (x : Val) : (Val.mk 4 b [x]).txt = 76 :: x.txt := by
  simp [Val.txt, ahead, behind, Val.txtL, Val.ar]
theorem txt_k5 (b : Int) (x : Val) : (Val.mk 5 b [x]).txt = 82 :: x.txt := by
  simp [Val.txt, ahead, behind, Val.txtL, Val.ar]
theorem txt_k6 (b : Int) (l : List Val) : (Val.mk 6 b l).txt = 91 :: (Val.kidsT true l ++ [93]) := by
  simp [Val.txt, ahead, behind, Val.txtL_eq, Val.ar]
theorem txt_k7 (b : Int) (x : Val) : (Val.mk 7 b [x]).txt = 60 :: (x.txt ++ [62]) := by
  simp [Val.txt, ahead, behind, Val.txtL, Val.ar]
theorem txt_k2 (b : Int) : (Val.mk 2 b []).txt = [dg (b / 16), dg (b % 16)] := by
  simp [Val.txt, ahead, behind, Val.txtL, Val.ar, hexI]
theorem txt_k1 (b : Int) : (Val.mk 1 b []).txt = [69] := by
  simp [Val.txt, ahead, behind, Val.txtL, Val.ar]

/-- What is known of a value that is one of a core other than of kind 7. -/
inductive VgCase (l : List Cor) (k : Int) (s : Nat) : Val → Prop where
  | k1 : k = 1 → VgCase l k s (.mk 1 0 [])
  | k2 (b : Int) : k = 2 → s.testBit b.toNat = true → VgCase l k s (.mk 2 b [])
  | k3 (x y : Val) : k = 3 → vgN l 0 x = true → vgN l 1 y = true → VgCase l k s (.mk 3 0 [x, y])
  | k4 (x : Val) : k = 4 → vgN l 0 x = true → VgCase l k s (.mk 4 0 [x])
  | k5 (x : Val) : k = 4 → vgN l 1 x = true → VgCase l k s (.mk 5 0 [x])
  | k6 (xs : List Val) : k = 5 → (∀ x ∈ xs, vgN l 0 x = true) → VgCase l k s (.mk 6 0 xs)
  | k7 (x : Val) : k = 6 → vgN l 0 x = true → VgCase l k s (.mk 7 0 [x])

theorem vg_cases {k : Int} {s : Nat} {n : Int} {l : List Cor} (h7 : ¬ k = 7) {v : Val} (h : vg (.mk k s n l) v = true) : VgCase l k s v := by
  obtain ⟨vk, vb, vl⟩ := v
  unfold vg at h
  rw [if_neg h7] at h
  by_cases hc : vkc (Val.mk vk vb vl).kind = k ∧ vkc (Val.mk vk vb vl).kind ≠ 0 ∧ ((Val.mk vk vb vl).kidl.length : Int) = vkm (Val.mk vk vb vl).kind (Val.mk vk vb vl).kidl.length ∧ (k = 2 ∨ (Val.mk vk vb vl).byte = 0)
  · rw [if_pos hc] at h
    obtain ⟨h1, h2, h3, h4⟩ := hc
    simp only [Val.kind, Val.kidl, Val.byte] at h h1 h2 h3 h4
    unfold vkc at h1 h2
    unfold vkm at h3
    by_cases e1 : vk = 1
    · subst e1
      simp at h1 h3
      subst h3
      have hb : vb = 0 := by omega
      subst hb; exact .k1 h1.symm
    by_cases e2 : vk = 2
    · subst e2
      simp at h1 h3 h
      subst h3
      exact .k2 _ h1.symm h
    by_cases e3 : vk = 3
    · subst e3
      simp at h1 h3
      have hb : vb = 0 := by omega
      subst hb
      match vl, h3, h with
      | [x, y], _, h =>
        simp at h
        exact .k3 x y h1.symm h.1 h.2
    by_cases e4 : vk = 4
    · subst e4
      simp at h1 h3
      have hb : vb = 0 := by omega
      subst hb
      match vl, h3, h with
      | [x], _, h =>
        simp at h
        exact .k4 x h1.symm h
    by_cases e5 : vk = 5
    · subst e5
      simp at h1 h3
      have hb : vb = 0 := by omega
      subst hb
      match vl, h3, h with
      | [x], _, h =>
        simp at h
        exact .k5 x h1.symm h
    by_cases e6 : vk = 6
    · subst e6
      simp at h1
      have hb : vb = 0 := by omega
      subst hb
      simp at h
      exact .k6 vl h1.symm h
    by_cases e7 : vk = 7
    · subst e7
      simp at h1 h3
      have hb : vb = 0 := by omega
      subst hb
      match vl, h3, h with
      | [x], _, h =>
        simp at h
        exact .k7 x h1.symm h
    simp [e1, e2, e3, e4, e5, e6, e7] at h2
  · rw [if_neg hc] at h; cases h

theorem vgN_mem {l : List Cor} {i : Nat} {v : Val} (h : vgN l i v = true) : ∃ c ∈ l, l[i]? = some c ∧ vg c v = true := by
  induction l generalizing i with
  | nil => simp [vgN] at h
  | cons c t ih =>
    cases i with
    | zero => exact ⟨c, by simp, rfl, by simpa [vgN] using h⟩
    | succ i =>
      obtain ⟨c', h1, h2, h3⟩ := ih (i := i) (by simpa [vgN] using h)
      exact ⟨c', by simp [h1], by simpa using h2, h3⟩

/-- Texts of values of one core: none goes on where another ends. -/
theorem txt_pre (c : Cor) : ∀ v u : Val, v.Ok → u.Ok → vg c v = true → vg c u = true → ∀ s t, v.txt ++ s = u.txt ++ t → v = u ∧ s = t := by
  refine Cor.ind (p := fun c => ∀ v u : Val, v.Ok → u.Ok → vg c v = true → vg c u = true → ∀ s t, v.txt ++ s = u.txt ++ t → v = u ∧ s = t) (fun k z n l ih v u hv hu gv gu s t h => ?_) c
  have two : ∀ (i : Nat) (x y : Val), x.Ok → y.Ok → vgN l i x = true → vgN l i y = true → ∀ s t, x.txt ++ s = y.txt ++ t → x = y ∧ s = t := by
    intro i x y hx hy g1 g2
    obtain ⟨c1, m1, e1, g1⟩ := vgN_mem g1
    obtain ⟨c2, m2, e2, g2⟩ := vgN_mem g2
    rw [e1] at e2; injection e2 with e2; subst e2
    exact ih c1 m1 x y hx hy g1 g2
  by_cases h7 : k = 7
  · unfold vg at gv gu
    rw [if_pos h7] at gv gu
    exact two 0 v u hv hu gv gu s t h
  have cv := vg_cases h7 gv
  have cu := vg_cases h7 gu
  clear gv gu
  cases cv with
  | k1 e => cases cu with
    | k1 _ => rw [txt_k1] at h; simp at h; exact ⟨rfl, h⟩
    | k2 b e' | k3 _ _ e' | k4 _ e' | k5 _ e' | k6 _ e' | k7 _ e' => omega
  | k2 b e => cases cu with
    | k2 b' _ =>
      rw [txt_k2, txt_k2] at h
      simp at h
      have := hex_inj hv.2.1 hu.2.1 h.1 h.2.1
      subst this; exact ⟨rfl, h.2.2⟩
    | k1 e' | k3 _ _ e' | k4 _ e' | k5 _ e' | k6 _ e' | k7 _ e' => omega
  | k3 x y e gx gy => cases cu with
    | k3 x' y' _ gx' gy' =>
      rw [txt_k3, txt_k3] at h
      simp only [List.cons_append, List.append_assoc, List.cons.injEq, true_and] at h
      obtain ⟨e1, h⟩ := two 0 x x' (Val.Ok.kid hv (by simp)) (Val.Ok.kid hu (by simp)) gx gx' _ _ h
      simp only [List.cons.injEq, true_and] at h
      obtain ⟨e2, h⟩ := two 1 y y' (Val.Ok.kid hv (by simp)) (Val.Ok.kid hu (by simp)) gy gy' _ _ h
      simp at h
      exact ⟨by rw [e1, e2], h⟩
    | k1 e' | k2 _ e' | k4 _ e' | k5 _ e' | k6 _ e' | k7 _ e' => omega
  | k4 x e gx => cases cu with
    | k4 x' _ gx' =>
      rw [txt_k4, txt_k4] at h
      simp only [List.cons_append, List.cons.injEq, true_and] at h
      obtain ⟨e1, h⟩ := two 0 x x' (Val.Ok.kid hv (by simp)) (Val.Ok.kid hu (by simp)) gx gx' _ _ h
      exact ⟨by rw [e1], h⟩
    | k5 x' _ gx' => rw [txt_k4, txt_k5] at h; simp at h
    | k1 e' | k2 _ e' | k3 _ _ e' | k6 _ e' | k7 _ e' => omega
  | k5 x e gx => cases cu with
    | k5 x' _ gx' =>
      rw [txt_k5, txt_k5] at h
      simp only [List.cons_append, List.cons.injEq, true_and] at h
      obtain ⟨e1, h⟩ := two 1 x x' (Val.Ok.kid hv (by simp)) (Val.Ok.kid hu (by simp)) gx gx' _ _ h
      exact ⟨by rw [e1], h⟩
    | k4 x' _ gx' => rw [txt_k4, txt_k5] at h; simp at h
    | k1 e' | k2 _ e' | k3 _ _ e' | k6 _ e' | k7 _ e' => omega
  | k6 xs e gx => cases cu with
    | k6 ys _ gy =>
      rw [txt_k6, txt_k6] at h
      simp only [List.cons_append, List.append_assoc, List.cons.injEq, true_and, List.nil_append] at h
      obtain ⟨e1, h⟩ := kidsT_pre (fun _ => True) xs ys true (fun x hx => Val.Ok.kid hv hx) (fun y hy => Val.Ok.kid hu hy) (fun x hx y hy => two 0 x y (Val.Ok.kid hv hx) (Val.Ok.kid hu hy) (gx x hx) (gy y hy)) s t h
      exact ⟨by rw [e1], h⟩
    | k1 e' | k2 _ e' | k3 _ _ e' | k4 _ e' | k5 _ e' | k7 _ e' => omega
  | k7 x e gx => cases cu with
    | k7 x' _ gx' =>
      rw [txt_k7, txt_k7] at h
      simp only [List.cons_append, List.append_assoc, List.cons.injEq, true_and] at h
      obtain ⟨e1, h⟩ := two 0 x x' (Val.Ok.kid hv (by simp)) (Val.Ok.kid hu (by simp)) gx gx' _ _ h
      simp at h
      exact ⟨by rw [e1], h⟩
    | k1 e' | k2 _ e' | k3 _ _ e' | k4 _ e' | k5 _ e' | k6 _ e' => omega
end Go.Proofs.Ytbellpoahhhmhaa
