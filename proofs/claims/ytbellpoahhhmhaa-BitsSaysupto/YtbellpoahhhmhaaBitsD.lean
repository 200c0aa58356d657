/- Values out of choices and bytes: what a reader of them finds, in plain terms. -/
import Derived.Test.YtbellpoahhhmhaaBitsV
set_option linter.unusedSimpArgs false
set_option linter.unusedVariables false
set_option maxRecDepth 20000
namespace Go.Proofs.Ytbellpoahhhmhaa
open Go Go.X

abbrev Dres := Option (Val × List Int × List Int)
/-- The items of a row: f: no more than so many choices. -/
def decS (g : List Int → List Int → Dres) : Nat → List Int → List Int → List Val → Dres
  | 0, _, _, _ => none
  | _ + 1, [], _, _ => none
  | f + 1, x :: b, t, acc =>
    if x = 49 then some (.mk 6 0 acc, b, t)
    else if x = 48 then
      match g b t with
      | some (v, b2, t2) => if t2.length = t.length then none else decS g f b2 t2 (acc ++ [v])
      | none => none
    else none
mutual
/-- A value of a core out of choices and bytes, and what is left of them. -/
def dec : Cor → List Int → List Int → Dres
  | .mk k s n l, b, t =>
    if k = 1 then some (.mk 1 0 [], b, t)
    else if k = 2 then
      match t with
      | [] => none
      | x :: t' => if s.testBit x.toNat then some (.mk 2 x [], b, t') else none
    else if k = 3 then
      match decN l 0 b t with
      | some (x, b1, t1) =>
        match decN l 1 b1 t1 with
        | some (y, b2, t2) => some (.mk 3 0 [x, y], b2, t2)
        | none => none
      | none => none
    else if k = 4 then
      match b with
      | [] => none
      | x :: b' =>
        if x = 48 then
          match decN l 0 b' t with
          | some (v, b1, t1) => some (.mk 4 0 [v], b1, t1)
          | none => none
        else if x = 49 then
          match decN l 1 b' t with
          | some (v, b1, t1) => some (.mk 5 0 [v], b1, t1)
          | none => none
        else none
    else if k = 5 then decS (decN l 0) (b.length + 1) b t []
    else if k = 6 then
      match decN l 0 b t with
      | some (v, b1, t1) => some (.mk 7 0 [v], b1, t1)
      | none => none
    else if k = 7 then decN l 0 b t
    else none
def decN : List Cor → Nat → List Int → List Int → Dres
  | [], _, _, _ => none
  | c :: _, 0, b, t => dec c b t
  | _ :: l, i + 1, b, t => decN l i b t
end

theorem dec_mk (k : Int) (s : Nat) (n : Int) (l : List Cor) (b t : List Int) : dec (.mk k s n l) b t =
    (if k = 1 then some (.mk 1 0 [], b, t)
    else if k = 2 then
      match t with
      | [] => none
      | x :: t' => if s.testBit x.toNat then some (.mk 2 x [], b, t') else none
    else if k = 3 then
      match decN l 0 b t with
      | some (x, b1, t1) =>
        match decN l 1 b1 t1 with
        | some (y, b2, t2) => some (.mk 3 0 [x, y], b2, t2)
        | none => none
      | none => none
    else if k = 4 then
      match b with
      | [] => none
      | x :: b' =>
        if x = 48 then
          match decN l 0 b' t with
          | some (v, b1, t1) => some (.mk 4 0 [v], b1, t1)
          | none => none
        else if x = 49 then
          match decN l 1 b' t with
          | some (v, b1, t1) => some (.mk 5 0 [v], b1, t1)
          | none => none
        else none
    else if k = 5 then decS (decN l 0) (b.length + 1) b t []
    else if k = 6 then
      match decN l 0 b t with
      | some (v, b1, t1) => some (.mk 7 0 [v], b1, t1)
      | none => none
    else if k = 7 then decN l 0 b t
    else none) := by
  rw [dec.eq_def]
theorem decN_get : ∀ {l : List Cor} {i : Nat} {c : Cor}, l[i]? = some c → ∀ b t, decN l i b t = dec c b t
  | [], i, c, h, _, _ => by simp at h
  | c :: _, 0, c', h, b, t => by
    have h : c = c' := by simpa using h
    subst h; simp [decN]
  | _ :: l, i + 1, c, h, b, t => by
    rw [decN]; exact decN_get (by simpa using h) b t
theorem decN_mem {l : List Cor} {i : Nat} {b t : List Int} {r : Val × List Int × List Int} (h : decN l i b t = some r) : ∃ c ∈ l, l[i]? = some c ∧ dec c b t = some r := by
  induction l generalizing i with
  | nil => simp [decN] at h
  | cons c l ih =>
    cases i with
    | zero => exact ⟨c, by simp, rfl, by simpa [decN] using h⟩
    | succ i =>
      obtain ⟨c', h1, h2, h3⟩ := ih (i := i) (by simpa [decN] using h)
      exact ⟨c', by simp [h1], by simpa using h2, h3⟩
theorem vgN_get : ∀ {l : List Cor} {i : Nat} {c : Cor} {v : Val}, l[i]? = some c → vg c v = true → vgN l i v = true
  | [], i, c, v, h, _ => by simp at h
  | c :: _, 0, c', v, h, g => by
    have h : c = c' := by simpa using h
    subst h; simpa [vgN] using g
  | _ :: l, i + 1, c, v, h, g => by
    rw [vgN]; exact vgN_get (by simpa using h) g

/-- What a find says. -/
structure Found (c : Cor) (b t : List Int) (v : Val) (b' t' : List Int) : Prop where
  g : vg c v = true
  f : v.full = true
  b : b = v.bits ++ b'
  t : t = v.flat ++ t'
theorem full_iff (k b : Int) (l : List Val) : (Val.mk k b l).full = true ↔ ∀ x ∈ l, x.full = true ∧ (k = 6 → x.flat ≠ []) := by
  rw [Val.full]
  induction l with
  | nil => simp [Val.fulls]
  | cons x l ih =>
    rw [Val.fulls, Bool.and_eq_true, ih]
    simp only [List.mem_cons, forall_eq_or_imp]
    refine and_congr_left fun _ => ?_
    simp only [Bool.and_eq_true, Bool.not_eq_true', Bool.and_eq_false_iff, decide_eq_false_iff_not, List.length_eq_zero_iff]
    constructor
    · rintro ⟨h | h, h2⟩
      · exact ⟨h2, fun e => absurd e h⟩
      · exact ⟨h2, fun _ => h⟩
    · rintro ⟨h1, h2⟩
      by_cases e : k = 6
      · exact ⟨.inr (h2 e), h1⟩
      · exact ⟨.inl e, h1⟩

theorem decS_found {l : List Cor} {c0 : Cor} {g : List Int → List Int → Dres} (hg : ∀ b t v b' t', g b t = some (v, b', t') → vgN l 0 v = true ∧ v.full = true ∧ b = v.bits ++ b' ∧ t = v.flat ++ t') :
    ∀ (f : Nat) (b t : List Int) (acc : List Val) (v : Val) (b' t' : List Int), decS g f b t acc = some (v, b', t') →
      ∃ vs : List Val, v = .mk 6 0 (acc ++ vs) ∧ (∀ x ∈ vs, vgN l 0 x = true ∧ x.full = true ∧ x.flat ≠ []) ∧ b = (vs.flatMap fun x => 48 :: x.bits) ++ 49 :: b' ∧ t = vs.flatMap Val.flat ++ t'
  | 0, b, t, acc, v, b', t', h => by simp [decS] at h
  | f + 1, [], t, acc, v, b', t', h => by simp [decS] at h
  | f + 1, x :: b, t, acc, v, b', t', h => by
    rw [decS] at h
    by_cases h9 : x = 49
    · rw [if_pos h9] at h
      simp only [Option.some.injEq, Prod.mk.injEq] at h
      obtain ⟨rfl, rfl, rfl⟩ := h
      exact ⟨[], by simp, by simp, by simp [h9], by simp⟩
    rw [if_neg h9] at h
    by_cases h8 : x = 48
    · rw [if_pos h8] at h
      cases hgx : g b t with
      | none => rw [hgx] at h; cases h
      | some r =>
        obtain ⟨y, b2, t2⟩ := r
        rw [hgx] at h
        simp only at h
        obtain ⟨g1, g2, g3, g4⟩ := hg _ _ _ _ _ hgx
        by_cases hl : t2.length = t.length
        · rw [if_pos hl] at h; cases h
        rw [if_neg hl] at h
        obtain ⟨vs, e1, e2, e3, e4⟩ := decS_found (c0 := c0) hg f b2 t2 _ _ _ _ h
        refine ⟨y :: vs, by rw [e1]; simp, fun z hz => ?_, ?_, ?_⟩
        · rcases List.mem_cons.1 hz with rfl | hz
          · refine ⟨g1, g2, fun e => hl ?_⟩
            rw [g4, e, List.nil_append]
          · exact e2 z hz
        · rw [h8, g3, e3]; simp
        · rw [g4, e4]; simp
    · rw [if_neg h8] at h; cases h

theorem dec_found (c : Cor) : ∀ (b t : List Int) (v : Val) (b' t' : List Int), dec c b t = some (v, b', t') → Found c b t v b' t' := by
  refine Cor.ind (p := fun c => ∀ (b t : List Int) (v : Val) (b' t' : List Int), dec c b t = some (v, b', t') → Found c b t v b' t') (fun k s n l ih b t v b' t' h => ?_) c
  have hN : ∀ (i : Nat) (b t : List Int) (v : Val) (b' t' : List Int), decN l i b t = some (v, b', t') → vgN l i v = true ∧ v.full = true ∧ b = v.bits ++ b' ∧ t = v.flat ++ t' := by
    intro i b t v b' t' h
    obtain ⟨c, h1, h2, h3⟩ := decN_mem h
    obtain ⟨g1, g2, g3, g4⟩ := ih c h1 _ _ _ _ _ h3
    exact ⟨vgN_get h2 g1, g2, g3, g4⟩
  rw [dec_mk] at h
  by_cases k1 : k = 1
  · subst k1
    rw [if_pos rfl] at h
    simp only [Option.some.injEq, Prod.mk.injEq] at h
    obtain ⟨rfl, rfl, rfl⟩ := h
    exact ⟨vgp1 _ _ _, by simp [full_iff], by rw [bits_k1]; rfl, by rw [flat_k1]; rfl⟩
  rw [if_neg k1] at h
  by_cases k2 : k = 2
  · subst k2
    rw [if_pos rfl] at h
    cases t with
    | nil => cases h
    | cons x t =>
      simp only at h
      by_cases hx : s.testBit x.toNat = true
      · rw [if_pos hx] at h
        simp only [Option.some.injEq, Prod.mk.injEq] at h
        obtain ⟨rfl, rfl, rfl⟩ := h
        exact ⟨by rw [vgp2]; exact hx, by simp [full_iff], by rw [bits_k2]; rfl, by rw [flat_k2]; rfl⟩
      · rw [if_neg hx] at h; cases h
  rw [if_neg k2] at h
  by_cases k3 : k = 3
  · subst k3
    rw [if_pos rfl] at h
    cases h1 : decN l 0 b t with
    | none => rw [h1] at h; cases h
    | some r =>
      obtain ⟨x, b1, t1⟩ := r
      rw [h1] at h
      simp only at h
      cases h2 : decN l 1 b1 t1 with
      | none => rw [h2] at h; cases h
      | some r =>
        obtain ⟨y, b2, t2⟩ := r
        rw [h2] at h
        simp only [Option.some.injEq, Prod.mk.injEq] at h
        obtain ⟨rfl, rfl, rfl⟩ := h
        obtain ⟨g1, g2, g3, g4⟩ := hN _ _ _ _ _ _ h1
        obtain ⟨f1, f2, f3, f4⟩ := hN _ _ _ _ _ _ h2
        exact ⟨by rw [vgp3, g1, f1]; rfl, by simp [full_iff, g2, f2], by rw [bits_k3, g3, f3, List.append_assoc], by rw [flat_k3, g4, f4, List.append_assoc]⟩
  rw [if_neg k3] at h
  by_cases k4 : k = 4
  · subst k4
    rw [if_pos rfl] at h
    cases b with
    | nil => cases h
    | cons x b =>
      simp only at h
      by_cases h8 : x = 48
      · rw [if_pos h8] at h
        cases h1 : decN l 0 b t with
        | none => rw [h1] at h; cases h
        | some r =>
          obtain ⟨y, b1, t1⟩ := r
          rw [h1] at h
          simp only [Option.some.injEq, Prod.mk.injEq] at h
          obtain ⟨rfl, rfl, rfl⟩ := h
          obtain ⟨g1, g2, g3, g4⟩ := hN _ _ _ _ _ _ h1
          exact ⟨by rw [vgp4]; exact g1, by simp [full_iff, g2], by rw [bits_k4, h8, g3]; rfl, by rw [flat_k4]; exact g4⟩
      rw [if_neg h8] at h
      by_cases h9 : x = 49
      · rw [if_pos h9] at h
        cases h1 : decN l 1 b t with
        | none => rw [h1] at h; cases h
        | some r =>
          obtain ⟨y, b1, t1⟩ := r
          rw [h1] at h
          simp only [Option.some.injEq, Prod.mk.injEq] at h
          obtain ⟨rfl, rfl, rfl⟩ := h
          obtain ⟨g1, g2, g3, g4⟩ := hN _ _ _ _ _ _ h1
          exact ⟨by rw [vgp5]; exact g1, by simp [full_iff, g2], by rw [bits_k5, h9, g3]; rfl, by rw [flat_k5]; exact g4⟩
      · rw [if_neg h9] at h; cases h
  rw [if_neg k4] at h
  by_cases k5 : k = 5
  · subst k5
    rw [if_pos rfl] at h
    obtain ⟨vs, e1, e2, e3, e4⟩ := decS_found (c0 := c) (l := l) (hN 0) _ _ _ _ _ _ _ h
    subst e1
    rw [List.nil_append]
    exact ⟨by rw [vgp6, List.all_eq_true]; exact fun x hx => (e2 x hx).1, (full_iff _ _ _).2 fun x hx => ⟨(e2 x hx).2.1, fun _ => (e2 x hx).2.2⟩, by rw [bits_k6, e3]; simp, by rw [flat_k6, e4]⟩
  rw [if_neg k5] at h
  by_cases k6 : k = 6
  · subst k6
    rw [if_pos rfl] at h
    cases h1 : decN l 0 b t with
    | none => rw [h1] at h; cases h
    | some r =>
      obtain ⟨y, b1, t1⟩ := r
      rw [h1] at h
      simp only [Option.some.injEq, Prod.mk.injEq] at h
      obtain ⟨rfl, rfl, rfl⟩ := h
      obtain ⟨g1, g2, g3, g4⟩ := hN _ _ _ _ _ _ h1
      exact ⟨by rw [vgp7]; exact g1, by simp [full_iff, g2], by rw [bits_k7]; exact g3, by rw [flat_k7]; exact g4⟩
  rw [if_neg k6] at h
  by_cases k7 : k = 7
  · subst k7
    rw [if_pos rfl] at h
    obtain ⟨g1, g2, g3, g4⟩ := hN _ _ _ _ _ _ h
    exact ⟨by unfold vg; rw [if_pos rfl]; exact g1, g2, g3, g4⟩
  · rw [if_neg k7] at h; cases h

theorem decS_back {g : List Int → List Int → Dres} (b' t' : List Int) : ∀ (vs : List Val) (f : Nat) (acc : List Val), (∀ x ∈ vs, x.flat ≠ [] ∧ ∀ b t, g (x.bits ++ b) (x.flat ++ t) = some (x, b, t)) → vs.length < f →
    decS g f ((vs.flatMap fun x => 48 :: x.bits) ++ 49 :: b') (vs.flatMap Val.flat ++ t') acc = some (.mk 6 0 (acc ++ vs), b', t')
  | [], 0, acc, _, hf => by simp at hf
  | [], f + 1, acc, _, _ => by simp [decS]
  | v :: vs, 0, acc, _, hf => by simp at hf
  | v :: vs, f + 1, acc, hv, hf => by
    simp only [List.flatMap_cons, List.cons_append, List.append_assoc]
    rw [decS, if_neg (by decide), if_pos rfl, (hv v (by simp)).2]
    simp only
    rw [if_neg, decS_back b' t' vs f (acc ++ [v]) (fun x hx => hv x (by simp [hx])) (by simpa using hf)]
    · simp
    · have := List.length_pos_iff.2 (hv v (by simp)).1
      simp only [List.length_append] at this ⊢
      omega

theorem dec_back (c : Cor) : ∀ (v : Val), vg c v = true → v.full = true → ∀ b t, dec c (v.bits ++ b) (v.flat ++ t) = some (v, b, t) := by
  refine Cor.ind (p := fun c => ∀ (v : Val), vg c v = true → v.full = true → ∀ b t, dec c (v.bits ++ b) (v.flat ++ t) = some (v, b, t)) (fun k s n l ih v g f b t => ?_) c
  have hN : ∀ (i : Nat) (v : Val), vgN l i v = true → v.full = true → ∀ b t, decN l i (v.bits ++ b) (v.flat ++ t) = some (v, b, t) := by
    intro i v g f b t
    obtain ⟨c, h1, h2, h3⟩ := vgN_mem g
    rw [decN_get h2]; exact ih c h1 v h3 f b t
  by_cases h7 : k = 7
  · unfold vg at g
    rw [if_pos h7] at g
    rw [dec_mk]
    simp only [h7, if_pos, if_neg (show ¬ (7 : Int) = 1 by decide), if_neg (show ¬ (7 : Int) = 2 by decide), if_neg (show ¬ (7 : Int) = 3 by decide), if_neg (show ¬ (7 : Int) = 4 by decide), if_neg (show ¬ (7 : Int) = 5 by decide), if_neg (show ¬ (7 : Int) = 6 by decide)]
    exact hN 0 v g f b t
  have cv := vg_cases h7 g
  clear g
  cases cv with
  | k1 e => subst e; rw [dec_mk, if_pos rfl, bits_k1, flat_k1]; rfl
  | k2 x e hx => subst e; rw [dec_mk, if_neg (by decide), if_pos rfl, bits_k2, flat_k2]; simp [hx]
  | k3 x y e gx gy =>
    subst e
    have fx := ((full_iff _ _ _).1 f x (by simp)).1
    have fy := ((full_iff _ _ _).1 f y (by simp)).1
    rw [dec_mk, if_neg (by decide), if_neg (by decide), if_pos rfl, bits_k3, flat_k3, List.append_assoc, List.append_assoc, hN 0 x gx fx]
    simp only
    rw [hN 1 y gy fy]
  | k4 x e gx =>
    subst e
    have fx := ((full_iff _ _ _).1 f x (by simp)).1
    rw [dec_mk, if_neg (by decide), if_neg (by decide), if_neg (by decide), if_pos rfl, bits_k4, flat_k4, List.cons_append]
    simp only [if_pos]
    rw [hN 0 x gx fx]
  | k5 x e gx =>
    subst e
    have fx := ((full_iff _ _ _).1 f x (by simp)).1
    rw [dec_mk, if_neg (by decide), if_neg (by decide), if_neg (by decide), if_pos rfl, bits_k5, flat_k5, List.cons_append]
    simp only [if_pos, if_neg (show ¬ (49 : Int) = 48 by decide)]
    rw [hN 1 x gx fx]
  | k6 xs e gx =>
    subst e
    have fx := (full_iff _ _ _).1 f
    rw [dec_mk, if_neg (by decide), if_neg (by decide), if_neg (by decide), if_neg (by decide), if_pos rfl, bits_k6, flat_k6, List.append_assoc]
    refine (decS_back b t xs _ [] (fun x hx => ⟨(fx x hx).2 rfl, hN 0 x (gx x hx) (fx x hx).1⟩) ?_).trans (by simp)
    have : xs.length ≤ (xs.flatMap fun x => 48 :: x.bits).length := by
      clear fx f gx
      induction xs with
      | nil => simp
      | cons x xs ih => simp only [List.flatMap_cons, List.length_append, List.length_cons]; omega
    simp only [List.length_append, List.length_cons]
    omega
  | k7 x e gx =>
    subst e
    have fx := ((full_iff _ _ _).1 f x (by simp)).1
    rw [dec_mk, if_neg (by decide), if_neg (by decide), if_neg (by decide), if_neg (by decide), if_neg (by decide), if_pos rfl, bits_k7, flat_k7, hN 0 x gx fx]
end Go.Proofs.Ytbellpoahhhmhaa
