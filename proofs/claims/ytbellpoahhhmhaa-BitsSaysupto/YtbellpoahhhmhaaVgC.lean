/- What is known of a value that is one of a core. -/
import Derived.Test.YtbellpoahhhmhaaValG
set_option linter.unusedSimpArgs false
set_option linter.unusedVariables false
set_option maxRecDepth 20000
namespace Go.Proofs.Ytbellpoahhhmhaa
open Go Go.X

theorem ar_vkm {k : Int} {n : Nat} (h0 : vkc k ≠ 0) (h : (n : Int) = vkm k n) : Val.ar k n = n := by
  unfold vkm at h
  unfold vkc at h0
  by_cases h1 : k = 1
  · simp [h1] at h; subst h; simp [h1, Val.ar]
  by_cases h2 : k = 2
  · simp [h2] at h; subst h; simp [h2, Val.ar]
  by_cases h3 : k = 3
  · simp [h3] at h; simp [h3, Val.ar]; omega
  by_cases h4 : k = 4
  · simp [h4] at h; simp [h4, Val.ar]; omega
  by_cases h5 : k = 5
  · simp [h5] at h; simp [h5, Val.ar]; omega
  by_cases h6 : k = 6
  · simp [h6, Val.ar]
  by_cases h7 : k = 7
  · simp [h7] at h; simp [h7, Val.ar]; omega
  simp [h1, h2, h3, h4, h5, h6, h7] at h0

theorem vg_kids (c : Cor) : ∀ v : Val, vg c v = true → vkc v.kind ≠ 0 ∧ (v.kidl.length : Int) = vkm v.kind v.kidl.length := by
  refine Cor.ind (p := fun c => ∀ v : Val, vg c v = true → vkc v.kind ≠ 0 ∧ (v.kidl.length : Int) = vkm v.kind v.kidl.length) (fun k s n l ih v h => ?_) c
  unfold vg at h
  by_cases h7 : k = 7
  · rw [if_pos h7] at h
    cases l with
    | nil => simp [vgN] at h
    | cons c0 t => exact ih c0 (by simp) v (by simpa [vgN] using h)
  · rw [if_neg h7] at h
    by_cases hc : vkc v.kind = k ∧ vkc v.kind ≠ 0 ∧ (v.kidl.length : Int) = vkm v.kind v.kidl.length ∧ (k = 2 ∨ v.byte = 0)
    · exact ⟨hc.2.1, hc.2.2.1⟩
    · rw [if_neg hc] at h; cases h
theorem vg_all {c : Cor} {v : Val} (h : vg c v = true) : v.kids = v.kidl := by
  obtain ⟨h0, h1⟩ := vg_kids c v h
  unfold Val.kids
  rw [show Val.ar v.kind v.kidl.length = v.kidl.length from ar_vkm h0 h1, List.take_length]

/-- What is known of a value that is one of a core other than of kind 7. -/
inductive VgCase (l : List Cor) (k : Int) (s : Nat) : Val → Prop where
  | k1 : k = 1 → VgCase l k s (.mk 1 0 [])
  | k2 (b : Int) : k = 2 → s.testBit b.toNat = true → VgCase l k s (.mk 2 b [])
  | k3 (x y : Val) : k = 3 → vgN l 0 x = true → vgN l 1 y = true → VgCase l k s (.mk 3 0 [x, y])
  | k4 (x : Val) : k = 4 → vgN l 0 x = true → VgCase l k s (.mk 4 0 [x])
  | k5 (x : Val) : k = 4 → vgN l 1 x = true → VgCase l k s (.mk 5 0 [x])
  | k6 (xs : List Val) : k = 5 → (∀ x ∈ xs, vgN l 0 x = true) → VgCase l k s (.mk 6 0 xs)
  | k7 (x : Val) : k = 6 → vgN l 0 x = true → VgCase l k s (.mk 7 0 [x])

theorem vg_cases {k : Int} {s : Nat} {n : Int} {l : List Cor} (h7 : ¬ k = 7) {v : Val} (h : vg (.mk k s n l) v = true) : VgCase l k s v := by
  obtain ⟨vk, vb, vl⟩ := v
  unfold vg at h
  rw [if_neg h7] at h
  by_cases hc : vkc (Val.mk vk vb vl).kind = k ∧ vkc (Val.mk vk vb vl).kind ≠ 0 ∧ ((Val.mk vk vb vl).kidl.length : Int) = vkm (Val.mk vk vb vl).kind (Val.mk vk vb vl).kidl.length ∧ (k = 2 ∨ (Val.mk vk vb vl).byte = 0)
  · rw [if_pos hc] at h
    obtain ⟨h1, h2, h3, h4⟩ := hc
    simp only [Val.kind, Val.kidl, Val.byte] at h h1 h2 h3 h4
    unfold vkc at h1 h2
    unfold vkm at h3
    by_cases e1 : vk = 1
    · subst e1
      simp at h1 h3
      subst h3
      have hb : vb = 0 := by omega
      subst hb; exact .k1 h1.symm
    by_cases e2 : vk = 2
    · subst e2
      simp at h1 h3 h
      subst h3
      exact .k2 _ h1.symm h
    by_cases e3 : vk = 3
    · subst e3
      simp at h1 h3
      have hb : vb = 0 := by omega
      subst hb
      match vl, h3, h with
      | [x, y], _, h =>
        simp at h
        exact .k3 x y h1.symm h.1 h.2
    by_cases e4 : vk = 4
    · subst e4
      simp at h1 h3
      have hb : vb = 0 := by omega
      subst hb
      match vl, h3, h with
      | [x], _, h =>
        simp at h
        exact .k4 x h1.symm h
    by_cases e5 : vk = 5
    · subst e5
      simp at h1 h3
      have hb : vb = 0 := by omega
      subst hb
      match vl, h3, h with
      | [x], _, h =>
        simp at h
        exact .k5 x h1.symm h
    by_cases e6 : vk = 6
    · subst e6
      simp at h1
      have hb : vb = 0 := by omega
      subst hb
      simp at h
      exact .k6 vl h1.symm h
    by_cases e7 : vk = 7
    · subst e7
      simp at h1 h3
      have hb : vb = 0 := by omega
      subst hb
      match vl, h3, h with
      | [x], _, h =>
        simp at h
        exact .k7 x h1.symm h
    simp [e1, e2, e3, e4, e5, e6, e7] at h2
  · rw [if_neg hc] at h; cases h

theorem vgN_mem {l : List Cor} {i : Nat} {v : Val} (h : vgN l i v = true) : ∃ c ∈ l, l[i]? = some c ∧ vg c v = true := by
  induction l generalizing i with
  | nil => simp [vgN] at h
  | cons c t ih =>
    cases i with
    | zero => exact ⟨c, by simp, rfl, by simpa [vgN] using h⟩
    | succ i =>
      obtain ⟨c', h1, h2, h3⟩ := ih (i := i) (by simpa [vgN] using h)
      exact ⟨c', by simp [h1], by simpa using h2, h3⟩

end Go.Proofs.Ytbellpoahhhmhaa
