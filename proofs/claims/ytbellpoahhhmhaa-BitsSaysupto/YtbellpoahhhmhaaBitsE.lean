/- What is got of choices and bytes: it is in its types' ranges, of no more than may be, and no other choices give it. -/
import Derived.Test.YtbellpoahhhmhaaBitsG
set_option linter.unusedSimpArgs false
set_option linter.unusedVariables false
set_option maxRecDepth 20000
namespace Go.Proofs.Ytbellpoahhhmhaa
open Go Go.X

theorem vg_ok (c : Cor) : ∀ v : Val, vg c v = true → Byt v.flat → v.Ok := by
  refine Cor.ind (p := fun c => ∀ v : Val, vg c v = true → Byt v.flat → v.Ok) (fun k s n l ih v g hb => ?_) c
  have hN : ∀ (i : Nat) (v : Val), vgN l i v = true → Byt v.flat → v.Ok := by
    intro i v g hb
    obtain ⟨c, h1, h2, h3⟩ := vgN_mem g
    exact ih c h1 v h3 hb
  by_cases h7 : k = 7
  · unfold vg at g
    rw [if_pos h7] at g
    exact hN 0 v g hb
  have cv := vg_cases h7 g
  clear g
  cases cv with
  | k1 e => exact ⟨by omega, by omega, trivial⟩
  | k2 x e hx => exact ⟨by omega, hb x (by rw [flat_k2]; simp), trivial⟩
  | k3 x y e gx gy =>
    rw [flat_k3] at hb
    exact ⟨by omega, by omega, hN 0 x gx (fun z hz => hb z (by simp [hz])), hN 1 y gy (fun z hz => hb z (by simp [hz])), trivial⟩
  | k4 x e gx => rw [flat_k4] at hb; exact ⟨by omega, by omega, hN 0 x gx hb, trivial⟩
  | k5 x e gx => rw [flat_k5] at hb; exact ⟨by omega, by omega, hN 1 x gx hb, trivial⟩
  | k6 xs e gx =>
    rw [flat_k6] at hb
    exact ⟨by omega, by omega, (Val.oks_iff xs).2 fun x hx => hN 0 x (gx x hx) fun z hz => hb z (List.mem_flatMap.2 ⟨x, hx, hz⟩)⟩
  | k7 x e gx => rw [flat_k7] at hb; exact ⟨by omega, by omega, hN 0 x gx hb, trivial⟩

def wA (c : Cor) : Nat := 4 * c.cnt * c.cnt
theorem wA_le {a b : Nat} (h : a ≤ b) : 4 * a * a ≤ 4 * b * b := Nat.mul_le_mul (Nat.mul_le_mul_left 4 h) h
theorem wA_succ {a b : Nat} (h : a + 1 ≤ b) : 4 * a * a + 4 * a ≤ 4 * b * b := by
  have h1 : 4 * a * (a + 1) ≤ 4 * b * b := Nat.mul_le_mul (Nat.mul_le_mul_left 4 (by omega)) h
  rw [Nat.mul_add, Nat.mul_one] at h1; exact h1
theorem vg_size (c : Cor) : ∀ v : Val, vg c v = true → v.full = true → v.size ≤ wA c * v.flat.length + 4 * c.cnt := by
  refine Cor.ind (p := fun c => ∀ v : Val, vg c v = true → v.full = true → v.size ≤ wA c * v.flat.length + 4 * c.cnt) (fun k s n l ih v g f => ?_) c
  have hcnt : (Cor.mk k s n l).cnt = Cor.cnts l + 1 := by simp only [Cor.cnt]; omega
  have hN : ∀ (i : Nat) (v : Val), vgN l i v = true → v.full = true → ∃ c0, l[i]? = some c0 ∧ c0 ∈ l ∧ v.size ≤ wA c0 * v.flat.length + 4 * c0.cnt := by
    intro i v g f
    obtain ⟨c, h1, h2, h3⟩ := vgN_mem g
    exact ⟨c, h2, h1, ih c h1 v h3 f⟩
  have hW : ∀ c0 ∈ l, wA c0 + 4 * c0.cnt ≤ wA (.mk k s n l) := fun c0 h => wA_succ (by rw [hcnt]; have := Cor.cnt_mem h; omega)
  have up : ∀ (c0 : Cor) (m : Nat), c0 ∈ l → wA c0 * m ≤ wA (.mk k s n l) * m := fun c0 m h => Nat.mul_le_mul_right m (by have := hW c0 h; omega)
  have one : ∀ (kk b : Int) (x : Val) (i : Nat), vgN l i x = true → x.full = true → (Val.mk kk b [x]).size ≤ wA (.mk k s n l) * x.flat.length + 4 * (Cor.mk k s n l).cnt := by
    intro kk b x i gx fx
    obtain ⟨c0, _, hm, hx⟩ := hN i x gx fx
    have := up c0 x.flat.length hm
    have := Cor.cnt_mem hm
    simp only [Val.size, Val.sizes]
    rw [hcnt]; omega
  by_cases h7 : k = 7
  · unfold vg at g
    rw [if_pos h7] at g
    obtain ⟨c0, _, hm, hx⟩ := hN 0 v g f
    have := up c0 v.flat.length hm
    have := Cor.cnt_mem hm
    rw [hcnt]; omega
  have cv := vg_cases h7 g
  clear g
  cases cv with
  | k1 e => simp only [Val.size, Val.sizes]; rw [hcnt]; omega
  | k2 x e hx => simp only [Val.size, Val.sizes]; rw [hcnt]; omega
  | k3 x y e gx gy =>
    have fx := ((full_iff _ _ _).1 f x (by simp)).1
    have fy := ((full_iff _ _ _).1 f y (by simp)).1
    obtain ⟨c0, e0, hm0, hx⟩ := hN 0 x gx fx
    obtain ⟨c1, e1, hm1, hy⟩ := hN 1 y gy fy
    have h0 := up c0 x.flat.length hm0
    have h1 := up c1 y.flat.length hm1
    rw [flat_k3, List.length_append, Nat.mul_add]
    have hc2 : c0.cnt + c1.cnt ≤ Cor.cnts l := by
      match l, e0, e1 with
      | a :: b :: t, e0, e1 =>
        have e0 : a = c0 := by simpa using e0
        have e1 : b = c1 := by simpa using e1
        subst e0; subst e1
        simp only [Cor.cnts]; omega
    simp only [Val.size, Val.sizes]
    rw [hcnt]; omega
  | k4 x e gx => rw [flat_k4]; exact one 4 0 x 0 gx ((full_iff _ _ _).1 f x (by simp)).1
  | k5 x e gx => rw [flat_k5]; exact one 5 0 x 1 gx ((full_iff _ _ _).1 f x (by simp)).1
  | k7 x e gx => rw [flat_k7]; exact one 7 0 x 0 gx ((full_iff _ _ _).1 f x (by simp)).1
  | k6 xs e gx =>
    have fx := (full_iff _ _ _).1 f
    rw [flat_k6]
    have key : ∀ ys : List Val, (∀ x ∈ ys, x ∈ xs) → Val.sizes ys ≤ wA (.mk k s n l) * (ys.flatMap Val.flat).length := by
      intro ys
      induction ys with
      | nil => intro _; simp [Val.sizes]
      | cons y ys ihy =>
        intro hy
        have hr := ihy fun x hx => hy x (by simp [hx])
        obtain ⟨fy, hne⟩ := fx y (hy y (by simp))
        obtain ⟨c0, _, hm, hs⟩ := hN 0 y (gx y (hy y (by simp))) fy
        have hl : 1 ≤ y.flat.length := List.length_pos_iff.2 (hne rfl)
        have h1 : (wA c0 + 4 * c0.cnt) * y.flat.length ≤ wA (.mk k s n l) * y.flat.length := Nat.mul_le_mul_right _ (hW c0 hm)
        rw [Nat.add_mul] at h1
        have h2 : 4 * c0.cnt * 1 ≤ 4 * c0.cnt * y.flat.length := Nat.mul_le_mul_left _ hl
        simp only [Val.sizes, List.flatMap_cons, List.length_append, Nat.mul_add]
        omega
    have := key xs fun _ h => h
    simp only [Val.size]
    rw [hcnt]; omega

theorem got_ok {c : Cor} {b t : List Int} (h : (got c b t).2 = 0) : c.good = true ∧ t.length ≤ 256 ∧ Found c b t (got c b t).1 [] [] := by
  unfold got at h ⊢
  by_cases hg : c.good = true
  · rw [if_pos hg] at h ⊢
    by_cases hl : 256 < t.length
    · rw [if_pos hl] at h; simp at h
    rw [if_neg hl] at h ⊢
    cases hd : dec c b t with
    | none => rw [hd] at h; simp at h
    | some r =>
      obtain ⟨v, b', t'⟩ := r
      rw [hd] at h
      simp only at h ⊢
      by_cases he : b' = [] ∧ t' = []
      · obtain ⟨rfl, rfl⟩ := he
        rw [if_pos ⟨rfl, rfl⟩]
        exact ⟨hg, by omega, dec_found c _ _ _ _ _ hd⟩
      · rw [if_neg he] at h; simp at h
  · rw [if_neg hg] at h; simp at h
theorem got_7 {c : Cor} {b t : List Int} (hg : c.good = true) (hl : t.length ≤ 256) (h : (got c b t).2 ≠ 0) : (got c b t).2 = 7 := by
  unfold got at h ⊢
  rw [if_pos hg, if_neg (by omega)] at h ⊢
  cases hd : dec c b t with
  | none => rfl
  | some r =>
    obtain ⟨v, b', t'⟩ := r
    rw [hd] at h
    simp only at h ⊢
    by_cases he : b' = [] ∧ t' = []
    · rw [if_pos he] at h; exact absurd rfl h
    · rw [if_neg he]
theorem got_back {c : Cor} {v : Val} (hg : c.good = true) (hl : v.flat.length ≤ 256) (h : vg c v = true) (hf : v.full = true) : got c v.bits v.flat = (v, 0) := by
  unfold got
  rw [if_pos hg, if_neg (by omega)]
  have := dec_back c v h hf [] []
  rw [List.append_nil, List.append_nil] at this
  rw [this]
  simp
/-- No other choices of which one begins the other. -/
theorem got_uniq {c : Cor} {s t b' : List Int} (h : (got c s t).2 = 0) (r : List Int) (hr : r ≠ []) (hp : s = b' ++ r ∨ b' = s ++ r) : (got c b' t).2 = 7 := by
  obtain ⟨hg, hl, f⟩ := got_ok h
  refine got_7 hg hl fun h0 => ?_
  obtain ⟨_, _, f'⟩ := got_ok h0
  obtain ⟨g1, _, b1, t1⟩ := f
  obtain ⟨g2, _, b2, t2⟩ := f'
  rw [List.append_nil] at b1 t1 b2 t2
  rcases hp with hp | hp
  · have := (bits_pre c _ _ g2 g1 r [] [] [] (by rw [← b2, ← b1, List.append_nil]; exact hp.symm) (by rw [← t1, ← t2])).2.1
    exact hr this
  · have := (bits_pre c _ _ g1 g2 r [] [] [] (by rw [← b2, ← b1, List.append_nil]; exact hp.symm) (by rw [← t1, ← t2])).2.1
    exact hr this
theorem got_sm {c : Cor} {b t : List Int} (h : (got c b t).2 = 0) (hb : Byt t) : (got c b t).1.Ok ∧ (got c b t).1.Sm := by
  obtain ⟨hg, hl, f⟩ := got_ok h
  obtain ⟨g1, f1, b1, t1⟩ := f
  rw [List.append_nil] at b1 t1
  refine ⟨vg_ok c _ g1 (by rw [← t1]; exact hb), ?_⟩
  have hs := vg_size c _ g1 f1
  have hc : c.cnt ≤ 2000 := by
    simp only [Cor.good, Bool.and_eq_true, decide_eq_true_eq] at hg; exact hg.1
  rw [← t1] at hs
  have h1 : wA c ≤ 16000000 := wA_le hc
  have h2 : wA c * t.length ≤ 16000000 * 256 := Nat.mul_le_mul h1 hl
  simp only [Val.Sm]
  omega
theorem got_v0 {c : Cor} {b t : List Int} (h : (got c b t).2 ≠ 0) : (got c b t).1 = .mk 0 0 [] := by
  unfold got at h ⊢
  by_cases hg : c.good = true
  · rw [if_pos hg] at h ⊢
    by_cases hl : 256 < t.length
    · rw [if_pos hl]
    rw [if_neg hl] at h ⊢
    cases hd : dec c b t with
    | none => rfl
    | some r =>
      obtain ⟨v, b', t'⟩ := r
      rw [hd] at h
      simp only at h ⊢
      by_cases he : b' = [] ∧ t' = []
      · rw [if_pos he] at h; exact absurd rfl h
      · rw [if_neg he]
  · rw [if_neg hg]
end Go.Proofs.Ytbellpoahhhmhaa
