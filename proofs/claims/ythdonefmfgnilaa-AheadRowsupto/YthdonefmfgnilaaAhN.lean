/- What may still come: in plain terms. -/
import Derived.Test.YthdonefmfgnilaaTbN
set_option linter.unusedSimpArgs false
set_option linter.unusedVariables false
namespace Go.Proofs.Ythdonefmfgnilaa
open Go Go.X

namespace Cor
theorem At_sub (c : Cor) : ∀ (A B : List (Cor × List Nat)) (i : Nat) (d : Cor) (ks : List Nat), (flat c A.length)[i]? = some (d, ks) → At (A ++ flat c A.length ++ B) d (A.length + i) := by
  refine Cor.rec (motive_1 := fun c => ∀ (A B : List (Cor × List Nat)) (i : Nat) (d : Cor) (ks : List Nat), (flat c A.length)[i]? = some (d, ks) → At (A ++ flat c A.length ++ B) d (A.length + i))
    (motive_2 := fun l => ∀ (A B : List (Cor × List Nat)) (i : Nat) (d : Cor) (ks : List Nat), (flats l A.length)[i]? = some (d, ks) → At (A ++ flats l A.length ++ B) d (A.length + i)) (fun k s n l ih A B i d ks h => ?_) (fun A B i d ks h => by simp [flats] at h) (fun c l h1 h2 A B i d ks h => ?_) c
  · cases i with
    | zero =>
      have := At_flat (.mk k s n l) A B
      simp only [flat, List.getElem?_cons_zero, Option.some.injEq, Prod.mk.injEq] at h
      obtain ⟨rfl, -⟩ := h
      exact this
    | succ i =>
      simp only [flat, List.getElem?_cons_succ] at h
      have := ih (A ++ [(.mk k s n l, nums (A.length + 1) l)]) B i d ks (by simpa using h)
      simp only [flat]
      have e : A.length + (i + 1) = A.length + 1 + i := by omega
      rw [e]
      simpa [List.append_assoc] using this
  · simp only [flats, List.getElem?_append, flat_length] at h
    simp only [flats]
    split at h
    · have := h1 A (flats l (A.length + c.cnt) ++ B) i d ks h
      simpa [List.append_assoc] using this
    · have := h2 (A ++ flat c A.length) B (i - c.cnt) d ks (by simpa [flat_length] using h)
      have e : (A ++ flat c A.length).length + (i - c.cnt) = A.length + i := by simp [flat_length]; omega
      rw [e] at this
      simpa [List.append_assoc, flat_length] using this
theorem At_all {c d : Cor} {i : Nat} {ks : List Nat} (h : (flat c 0)[i]? = some (d, ks)) : At (flat c 0) d i := by
  have := At_sub c [] [] i d ks (by simpa using h)
  simpa using this
end Cor

/-- Says a part something from a place on, up to a least place or behind it, behind which the rest can be said? -/
def intoN (s : List Nat) (pa : List Bool) (c : Cor) (f least : Nat) : Bool := (List.range' least (s.length + 1 - least)).any fun to => pa.getD to false && (c.ends s f).testBit to
def bothP (s : List Nat) (pa : List Bool) (y : Cor) : List Bool := (List.range (s.length + 1)).map fun i => intoN s pa y i i
/-- From the last place back to the first but n. -/
def starL (s : List Nat) (x : Cor) : Nat → List Bool → List Bool
  | 0, l => l
  | n + 1, l => starL s x n (l.set n (l.getD n false || intoN s l x n (n + 1)))
def spreadN (s : List Nat) (c : Cor) (ks : List Nat) (pa : List Bool) (past : List (Option (List Bool))) : List (Option (List Bool)) :=
  match c, ks with
  | .mk k _ _ [_, y], [k0, k1] => if k = 3 then ((past.set k0 (some pa)).set k1 (some pa)).set k0 (some (bothP s pa y)) else (past.set k0 (some pa)).set k1 (some pa)
  | .mk k _ _ [x], [k0] => if k = 5 then (past.set k0 (some pa)).set k0 (some (starL s x (s.length + 1) pa)) else past.set k0 (some pa)
  | _, _ => past
def runN (P : List (Cor × List Nat)) (s : List Nat) (pa : List Bool) : Nat → List (Option (List Bool))
  | 0 => (List.replicate P.length none).set 0 (some pa)
  | i + 1 => match P[i]?, (runN P s pa i)[i]? with
    | some (c, ks), some (some b) => spreadN s c ks b (runN P s pa i)
    | _, _ => runN P s pa i
theorem bothP_length (s : List Nat) (pa : List Bool) (y : Cor) : (bothP s pa y).length = s.length + 1 := by simp [bothP]
theorem starL_length (s : List Nat) (x : Cor) : ∀ (n : Nat) (l : List Bool), (starL s x n l).length = l.length
  | 0, l => rfl
  | n + 1, l => by rw [starL, starL_length s x n]; simp
theorem spreadN_length (s : List Nat) (c : Cor) (ks : List Nat) (pa : List Bool) (past : List (Option (List Bool))) : (spreadN s c ks pa past).length = past.length := by
  unfold spreadN
  repeat' split
  all_goals simp
theorem runN_length (P : List (Cor × List Nat)) (s : List Nat) (pa : List Bool) : ∀ i, (runN P s pa i).length = P.length
  | 0 => by simp [runN]
  | i + 1 => by
    rw [runN]
    repeat' split
    · rw [spreadN_length, runN_length P s pa i]
    · exact runN_length P s pa i
/-- One that is set. -/
def Is (s : List Nat) (past : List (Option (List Bool))) (j : Nat) : Prop := ∃ b, past[j]? = some (some b) ∧ b.length = s.length + 1
theorem Is.set {s : List Nat} {past : List (Option (List Bool))} {j k : Nat} {b : List Bool} (hb : b.length = s.length + 1) (hk : k < past.length) (h : j = k ∨ Is s past j) : Is s (past.set k (some b)) j := by
  by_cases e : k = j
  · subst e; exact ⟨b, by rw [List.getElem?_set_self hk], hb⟩
  · rcases h with h | ⟨b', h, hl⟩
    · exact absurd h.symm e
    · exact ⟨b', by rw [List.getElem?_set_ne e]; exact h, hl⟩
theorem spreadN_is {s : List Nat} {c : Cor} {ks : List Nat} {pa : List Bool} {past : List (Option (List Bool))} (hc : c.fmd = true) (hks : ks.length = c.kidl.length) (hb : pa.length = s.length + 1) (hk : ∀ k ∈ ks, k < past.length) {j : Nat} (h : j ∈ ks ∨ Is s past j) : Is s (spreadN s c ks pa past) j := by
  obtain ⟨k, t, n, l⟩ := c
  obtain ⟨hkd, -⟩ := Cor.kids_of hc
  cases hkd with
  | k0 e =>
    have : ks = [] := by simpa using hks
    subst this
    simp [spreadN] at h ⊢
    exact h
  | @k1 x e =>
    obtain ⟨k0, rfl⟩ : ∃ k0, ks = [k0] := by
      match ks, hks with
      | [k0], _ => exact ⟨k0, rfl⟩
    have h0 := hk k0 (by simp)
    simp only [List.mem_singleton] at h
    simp only [spreadN]
    split
    · exact Is.set (by rw [starL_length]; exact hb) (by simpa using h0) (h.imp id fun h => Is.set hb h0 (.inr h))
    · exact Is.set hb h0 h
  | @k2 x y e =>
    obtain ⟨k0, k1, rfl⟩ : ∃ k0 k1, ks = [k0, k1] := by
      match ks, hks with
      | [k0, k1], _ => exact ⟨k0, k1, rfl⟩
    have h0 := hk k0 (by simp)
    have h1 := hk k1 (by simp)
    simp only [List.mem_cons, List.not_mem_nil, or_false] at h
    have key : Is s ((past.set k0 (some pa)).set k1 (some pa)) j := by
      refine Is.set hb (by simpa using h1) ?_
      rcases h with (h | h) | h
      · exact .inr (Is.set hb h0 (.inl h))
      · exact .inl h
      · exact .inr (Is.set hb h0 (.inr h))
    simp only [spreadN]
    split
    · exact Is.set (bothP_length _ _ _) (by simpa using h0) (.inr key)
    · exact key
/-- All that is asked of the parts. -/
structure Pk (P : List (Cor × List Nat)) : Prop where
  pos : 0 < P.length
  fmd : ∀ (i : Nat) d ks, P[i]? = some (d, ks) → d.fmd = true
  len : ∀ (i : Nat) d ks, P[i]? = some (d, ks) → ks.length = d.kidl.length
  kid : ∀ (i : Nat) d ks, P[i]? = some (d, ks) → ∀ x ∈ ks, i < x ∧ x < P.length
  cover : ∀ j, 0 < j → j < P.length → ∃ i d ks, P[i]? = some (d, ks) ∧ j ∈ ks ∧ i < j
  at' : ∀ (i : Nat) d ks, P[i]? = some (d, ks) → Cor.At P d i
theorem Pk.flat {c : Cor} (h : c.fmd = true) : Pk (Cor.flat c 0) :=
  ⟨by rw [Cor.flat_length]; exact Cor.cnt_pos c, fun i d ks hd => Cor.flat_all (p := fun c => c.fmd = true) (fun c hc x hx => by
      obtain ⟨k, s, n, l⟩ := c
      exact (Cor.kids_of hc).2 x hx) c 0 i d ks h hd, fun i d ks hd => Cor.flat_mem c 0 i d ks hd, fun i d ks hd x hx => by
      have := Cor.flat_kids c 0 i d ks hd x hx
      rw [Cor.flat_length]; omega, fun j h0 h1 => by
      rw [Cor.flat_length] at h1
      obtain ⟨i, d, ks, h, hm, hi⟩ := Cor.flat_cover c 0 j h0 (by omega)
      exact ⟨i, d, ks, h, hm, by omega⟩, fun i d ks hd => Cor.At_all hd⟩
theorem run_is {P : List (Cor × List Nat)} (hP : Pk P) (s : List Nat) {pa : List Bool} (hb : pa.length = s.length + 1) : ∀ (i j : Nat), i ≤ P.length → (j = 0 ∨ ∃ i' d ks, i' < i ∧ P[i']? = some (d, ks) ∧ j ∈ ks) → Is s (runN P s pa i) j
  | 0, j, _, h => by
    rcases h with rfl | ⟨i', _, _, h, _⟩
    · exact ⟨pa, by rw [runN, List.getElem?_set_self (by simpa using hP.pos)], hb⟩
    · omega
  | i + 1, j, hi, h => by
    have hget := List.getElem?_eq_getElem (show i < P.length by omega)
    have hself : Is s (runN P s pa i) i := by
      refine run_is hP s hb i i (by omega) ?_
      by_cases e : i = 0
      · exact .inl e
      · obtain ⟨i', d, ks, h1, h2, h3⟩ := hP.cover i (by omega) (by omega)
        exact .inr ⟨i', d, ks, h3, h1, h2⟩
    obtain ⟨b, hb1, hb2⟩ := hself
    rw [runN, hget, hb1]
    refine spreadN_is (hP.fmd i _ _ hget) (hP.len i _ _ hget) hb2 (fun k hk => by rw [runN_length]; exact (hP.kid i _ _ hget k hk).2) ?_
    rcases h with h | ⟨i', d, ks, h1, h2, h3⟩
    · exact .inr (run_is hP s hb i j (by omega) (.inl h))
    · by_cases e : i' = i
      · subst e
        rw [hget] at h2
        injection h2 with h2
        left
        show j ∈ P[i'].2
        rw [h2]; exact h3
      · exact .inr (run_is hP s hb i j (by omega) (.inr ⟨i', d, ks, by omega, h2, h3⟩))
/-- All are set at the end. -/
theorem run_all {P : List (Cor × List Nat)} (hP : Pk P) (s : List Nat) {pa : List Bool} (hb : pa.length = s.length + 1) {i j : Nat} (hi : i ≤ P.length) (hj : j ≤ i) (hj' : j < P.length) : Is s (runN P s pa i) j := by
  refine run_is hP s hb i j hi ?_
  by_cases e : j = 0
  · exact .inl e
  · obtain ⟨i', d, ks, h1, h2, h3⟩ := hP.cover j (by omega) hj'
    exact .inr ⟨i', d, ks, by omega, h1, h2⟩

/-- The part to which a path leads. -/
def pathN (P : List (Cor × List Nat)) : List Int → Nat → Option Nat
  | [], i => some i
  | x :: t, i => match P[i]? with
    | some (_, ks) => if 0 ≤ x ∧ x < (ks.length : Int) then (match ks[x.toNat]? with | some j => pathN P t j | none => none) else none
    | none => none
def IntoN (P : List (Cor × List Nat)) (s : List Nat) (past : List (Option (List Bool))) (path : List Int) (at' : Int) : Bool :=
  match pathN P path 0 with
  | none => false
  | some p => match P[p]?, past[p]? with
    | some (c, _), some (some b) => decide (0 ≤ at' ∧ at' ≤ (s.length : Int)) && intoN s b c at'.toNat at'.toNat
    | _, _ => false
def PastN (P : List (Cor × List Nat)) (s : List Nat) (past : List (Option (List Bool))) (path : List Int) (at' : Int) : Bool :=
  match pathN P path 0 with
  | none => false
  | some p => match past[p]? with
    | some (some b) => decide (0 ≤ at' ∧ at' ≤ (s.length : Int)) && b.getD at'.toNat false
    | _ => false

/-- Pointwise no more. -/
def Le (a b : List Bool) : Prop := a.length = b.length ∧ ∀ i, a.getD i false = true → b.getD i false = true
def Les (a b : List (Option (List Bool))) : Prop := ∀ (j : Nat) x, a[j]? = some (some x) → ∃ y, b[j]? = some (some y) ∧ Le x y
theorem into_mono {s : List Nat} {a b : List Bool} (h : Le a b) (c : Cor) (f least : Nat) : intoN s a c f least = true → intoN s b c f least = true := by
  simp only [intoN, List.any_eq_true, Bool.and_eq_true]
  rintro ⟨x, h1, h2, h3⟩
  exact ⟨x, h1, h.2 x h2, h3⟩
theorem getD_set {l : List Bool} {n i : Nat} {v : Bool} (h : n < l.length) : (l.set n v).getD i false = if n = i then v else l.getD i false := by
  simp only [List.getD, List.getElem?_set]
  split
  · simp [h]
  · rfl
theorem Le.set {a b : List Bool} (h : Le a b) {n : Nat} (hn : n < a.length) {v w : Bool} (hv : v = true → w = true) : Le (a.set n v) (b.set n w) := by
  refine ⟨by simpa using h.1, fun i => ?_⟩
  rw [getD_set hn, getD_set (by rw [← h.1]; exact hn)]
  split
  · exact hv
  · exact h.2 i
theorem starL_mono {s : List Nat} (x : Cor) : ∀ (n : Nat) {a b : List Bool}, n ≤ a.length → Le a b → Le (starL s x n a) (starL s x n b)
  | 0, a, b, _, h => h
  | n + 1, a, b, hn, h => by
    rw [starL, starL]
    refine starL_mono x n (by simp; omega) (h.set (by omega) ?_)
    intro hv
    rw [Bool.or_eq_true] at hv ⊢
    exact hv.imp (h.2 n) (into_mono h x n (n + 1))
theorem bothP_mono {s : List Nat} {a b : List Bool} (h : Le a b) (y : Cor) : Le (bothP s a y) (bothP s b y) := by
  refine ⟨by simp [bothP], fun i => ?_⟩
  simp only [bothP, List.getD, List.getElem?_map]
  by_cases hi : i < s.length + 1
  · rw [List.getElem?_range hi]
    exact into_mono h y i i
  · rw [List.getElem?_eq_none (by simp; omega)]
    exact id
theorem Les.set {a b : List (Option (List Bool))} (h : Les a b) (hl : a.length = b.length) {k : Nat} {x y : List Bool} (hxy : Le x y) : Les (a.set k (some x)) (b.set k (some y)) := by
  intro j z hz
  rw [List.getElem?_set] at hz
  split at hz
  · split at hz
    · injection hz with hz; injection hz with hz; subst hz
      rename_i e hk
      subst e
      exact ⟨y, by rw [List.getElem?_set_self (by rw [← hl]; exact hk)], hxy⟩
    · cases hz
  · rename_i e
    obtain ⟨w, h1, h2⟩ := h j z hz
    exact ⟨w, by rw [List.getElem?_set_ne e]; exact h1, h2⟩
theorem spreadN_mono {s : List Nat} (c : Cor) (ks : List Nat) {x y : List Bool} {a b : List (Option (List Bool))} (h : Les a b) (hl : a.length = b.length) (hxy : Le x y) (hx : x.length = s.length + 1) : Les (spreadN s c ks x a) (spreadN s c ks y b) := by
  unfold spreadN
  split
  · split
    · exact ((h.set hl hxy).set (by simpa using hl) hxy).set (by simpa using hl) (bothP_mono hxy _)
    · exact (h.set hl hxy).set (by simpa using hl) hxy
  · split
    · exact (h.set hl hxy).set (by simpa using hl) (starL_mono _ _ (by omega) hxy)
    · exact h.set hl hxy
  · exact h
theorem run_mono {P : List (Cor × List Nat)} (hP : Pk P) (s : List Nat) {x y : List Bool} (hxy : Le x y) (hx : x.length = s.length + 1) : ∀ i, i ≤ P.length → Les (runN P s x i) (runN P s y i)
  | 0, _ => by
    intro j z hz
    rw [runN, List.getElem?_set] at hz
    split at hz
    · split at hz
      · injection hz with hz; injection hz with hz; subst hz
        rename_i e hk
        subst e
        exact ⟨y, by rw [runN, List.getElem?_set_self hk], hxy⟩
      · cases hz
    · rw [List.getElem?_replicate] at hz
      split at hz
      · injection hz with hz; cases hz
      · cases hz
  | i + 1, hi => by
    have ih := run_mono hP s hxy hx i (by omega)
    have hget := List.getElem?_eq_getElem (show i < P.length by omega)
    obtain ⟨b, hb1, hb2⟩ := run_all hP s hx (j := i) (by omega) (Nat.le_refl i) (by omega)
    obtain ⟨b', hb1', hle⟩ := ih i b hb1
    rw [runN, runN, hget, hb1, hb1']
    exact spreadN_mono _ _ ih (by rw [runN_length, runN_length]) hle hb2
theorem IntoN_mono {P : List (Cor × List Nat)} {s : List Nat} {a b : List (Option (List Bool))} (h : Les a b) (path : List Int) (at' : Int) : IntoN P s a path at' = true → IntoN P s b path at' = true := by
  unfold IntoN
  split
  · exact id
  · rename_i p _
    intro hh
    split at hh
    · rename_i c _ x hc hx
      obtain ⟨y, hy, hle⟩ := h p x hx
      rw [hc, hy]
      simp only [Bool.and_eq_true] at hh ⊢
      exact ⟨hh.1, into_mono hle _ _ _ hh.2⟩
    · cases hh
theorem PastN_mono {P : List (Cor × List Nat)} {s : List Nat} {a b : List (Option (List Bool))} (h : Les a b) (path : List Int) (at' : Int) : PastN P s a path at' = true → PastN P s b path at' = true := by
  unfold PastN
  split
  · exact id
  · rename_i p _
    intro hh
    split at hh
    · rename_i x hx
      obtain ⟨y, hy, hle⟩ := h p x hx
      rw [hy]
      simp only [Bool.and_eq_true] at hh ⊢
      exact ⟨hh.1, hle.2 _ hh.2⟩
    · cases hh
theorem IntoN_at {P : List (Cor × List Nat)} {s : List Nat} {a : List (Option (List Bool))} {path : List Int} {at' : Int} (h : IntoN P s a path at' = true) : 0 ≤ at' ∧ at' ≤ (s.length : Int) := by
  unfold IntoN at h
  split at h
  · cases h
  · split at h
    · simp only [Bool.and_eq_true, decide_eq_true_eq] at h
      exact h.1
    · cases h
end Go.Proofs.Ythdonefmfgnilaa
