/- The interpreter X, part 6: how the relation goes on while objects go, die, come and change. -/
import Derived.Test.YtbmhbnkejgjfdaaX5
namespace Go.X
open Go
section
variable {P : Program}

theorem Obs.get_ins (d : Nat) (o : Ob) : ∀ (B : Obs) (e : Nat), Obs.get (Obs.ins d o B) e = if d = e then some o else Obs.get B e
  | [], e => by simp only [Obs.ins, Obs.get, Bool.cond_eq_ite, beq_iff_eq]
  | (k, x) :: l, e => by
    have ih := Obs.get_ins d o l e
    unfold Obs.ins
    simp only [Bool.cond_eq_ite, beq_iff_eq]
    by_cases h1 : d = k
    · subst h1
      simp only [if_true, Obs.get, Bool.cond_eq_ite, beq_iff_eq]
      split <;> rfl
    · rw [if_neg h1]
      by_cases h2 : d.blt k = true
      · rw [if_pos h2]; simp only [Obs.get, Bool.cond_eq_ite, beq_iff_eq]
      · rw [if_neg h2]
        simp only [Obs.get, Bool.cond_eq_ite, beq_iff_eq, ih]
        by_cases h4 : k = e
        · rw [if_pos h4, if_neg (fun h5 => h1 (h5.trans h4.symm)), if_pos h4]
        · rw [if_neg h4, if_neg h4]
theorem Obs.get_del (d : Nat) : ∀ (B : Obs) (e : Nat), Obs.get (Obs.del d B) e = if d = e then none else Obs.get B e
  | [], e => by simp [Obs.del, Obs.get]
  | (k, x) :: l, e => by
    have ih := Obs.get_del d l e
    unfold Obs.del
    simp only [Bool.cond_eq_ite, beq_iff_eq]
    by_cases h1 : d = k
    · subst h1
      simp only [if_true, Obs.get, Bool.cond_eq_ite, beq_iff_eq, ih]
      by_cases h2 : d = e <;> simp [h2]
    · rw [if_neg h1]
      simp only [Obs.get, Bool.cond_eq_ite, beq_iff_eq, ih]
      by_cases h4 : k = e
      · rw [if_pos h4, if_neg (fun h5 => h1 (h5.trans h4.symm)), if_pos h4]
      · rw [if_neg h4, if_neg h4]
theorem Obs.get_drop (d : Nat) (p : PV) : ∀ (B : Obs) (e : Nat), Obs.get (Obs.drop d p B) e = (Obs.get B e).map (Ob.drop d p)
  | [], e => rfl
  | (k, x) :: l, e => by
    simp only [Obs.drop, Obs.get, Obs.get_drop d p l e, Bool.cond_eq_ite]
    split <;> rfl
theorem Obs.get_kill (d : Nat) : ∀ (B : Obs) (e : Nat), Obs.get (Obs.kill d B) e = (Obs.get B e).map (Ob.kill d)
  | [], e => rfl
  | (k, x) :: l, e => by
    simp only [Obs.kill, Obs.get, Obs.get_kill d l e, Bool.cond_eq_ite]
    split <;> rfl

theorem SV.drops_get (d : Nat) (p : PV) : ∀ (l : List SV) (i : Nat), (SV.drops d p l)[i]? = (l[i]?).map (SV.drop d p)
  | [], i => by simp [SV.drops]
  | s :: l, 0 => by simp [SV.drops]
  | s :: l, i + 1 => by simp [SV.drops, SV.drops_get d p l i]
theorem SV.drops_len (d : Nat) (p : PV) : ∀ (l : List SV), (SV.drops d p l).length = l.length
  | [] => rfl
  | s :: l => by simp [SV.drops, SV.drops_len d p l]
theorem SV.kills_get (d : Nat) : ∀ (l : List SV) (i : Nat), (SV.kills d l)[i]? = (l[i]?).map (SV.kill d)
  | [], i => by simp [SV.kills]
  | s :: l, 0 => by simp [SV.kills]
  | s :: l, i + 1 => by simp [SV.kills, SV.kills_get d l i]
theorem SV.kills_len (d : Nat) : ∀ (l : List SV), (SV.kills d l).length = l.length
  | [] => rfl
  | s :: l => by simp [SV.kills, SV.kills_len d l]

theorem SV.isT_kill {t : TypeId} {s : SV} (d : Nat) (h : s.isT P t) : (s.kill d).isT P t := by
  cases s with
  | own u e =>
    simp only [SV.kill, Bool.cond_eq_ite, beq_iff_eq]
    by_cases he : e = d
    · rw [if_pos he]; exact .inr (.inr (.inl rfl))
    · rw [if_neg he]; exact h
  | ptr e q =>
    simp only [SV.kill, Bool.cond_eq_ite, beq_iff_eq]
    by_cases he : e = d
    · rw [if_pos he]; exact .inr (.inr (.inl rfl))
    · rw [if_neg he]; exact h
  | agg u l =>
    rcases h with h | h | h | ⟨l', h⟩
    · simp [SV.pvT] at h
    · simp [SV.isHandle] at h
    · cases h
    · injection h with h1 _; subst h1; exact .inr (.inr (.inr ⟨_, rfl⟩))
  | fn f l =>
    rcases h with h | h | h | ⟨l', h⟩
    · simp [SV.pvT] at h
    · exact .inr (.inl h)
    · cases h
    · cases h
  | tup l =>
    rcases h with h | h | h | ⟨l', h⟩
    · simp [SV.pvT] at h
    · simp [SV.isHandle] at h
    · cases h
    · cases h
  | _ => exact h

theorem SV.isT_drop {t : TypeId} {s : SV} (d : Nat) (p : PV) (h : s.isT P t) : (s.drop d p).isT P t := by
  cases s with
  | own u e =>
    simp only [SV.drop, Bool.cond_eq_ite, beq_iff_eq]
    by_cases he : e = d
    · rw [if_pos he]
      rcases h with h | h | h | ⟨l', h⟩
      · simp [SV.pvT] at h
      · refine .inl ?_
        have : u = t := by simpa [SV.isHandle] using h
        simp [SV.pvT, this]
      · cases h
      · cases h
    · rw [if_neg he]; exact h
  | ptr e q =>
    simp only [SV.drop, Bool.cond_eq_ite, beq_iff_eq]
    by_cases he : e = d
    · rw [if_pos he]; exact .inr (.inr (.inl rfl))
    · rw [if_neg he]; exact h
  | agg u l =>
    rcases h with h | h | h | ⟨l', h⟩
    · simp [SV.pvT] at h
    · simp [SV.isHandle] at h
    · cases h
    · injection h with h1 _; subst h1; exact .inr (.inr (.inr ⟨_, rfl⟩))
  | fn f l =>
    rcases h with h | h | h | ⟨l', h⟩
    · simp [SV.pvT] at h
    · exact .inr (.inl h)
    · cases h
    · cases h
  | tup l =>
    rcases h with h | h | h | ⟨l', h⟩
    · simp [SV.pvT] at h
    · simp [SV.isHandle] at h
    · cases h
    · cases h
  | _ => exact h

/-- Objects but d stay what they are. -/
structure SameBut (P : Program) (d : Nat) (w : World) (M : Nat → Prop) (β : Beta) (B : Obs) (w' : World) (M' : Nat → Prop) (β' : Beta) (B' : Obs) : Prop where
  st : Stable w M w' M'
  ptr : ∀ e ob, e ≠ d → Obs.get B e = some ob → ∃ ob', Obs.get B' e = some ob' ∧ β' e = β e ∧ (∀ q off, offO P ob q = some off → offO P ob' q = some off) ∧
    (∀ u l, ob = .row u l → ∃ l', ob' = .row u l' ∧ l'.length = l.length)

theorem RS.kill {w w' : World} {M M' : Nat → Prop} {β β' : Beta} {B B' : Obs} {d : Nat} (h : SameBut P d w M β B w' M' β' B') {s : SV} {v : Value} (hr : RS P w M β B s v) :
    RS P w' M' β' B' (s.kill d) v := by
  induction hr with
  | int a => exact .int a
  | bool => exact .bool
  | str a => exact .str a
  | flt a => exact .flt a
  | val a b => exact .val a (b.mono h.st)
  | @agg t fs l cs vs a b c e f g _ ih =>
    refine .agg a b (by rw [SV.kills_len]; exact c) e f (vs := vs) (fun i fd s hf hs => ?_) (fun i s hs => ?_)
    · rw [SV.kills_get] at hs
      cases hl : l[i]? with
      | none => rw [hl] at hs; cases hs
      | some s' => rw [hl] at hs; injection hs with hs; subst hs; exact ⟨SV.isT_kill d (g i fd s' hf hl).1, (g i fd s' hf hl).2⟩
    · rw [SV.kills_get] at hs
      cases hl : l[i]? with
      | none => rw [hl] at hs; cases hs
      | some s' => rw [hl] at hs; injection hs with hs; subst hs; exact ih i s' hl
  | fro a b c => exact .fro a (b.mono h.st) (c.mono h.st)
  | @ptr e q b c off ob a b' c' =>
    simp only [SV.kill, Bool.cond_eq_ite, beq_iff_eq]
    by_cases he : e = d
    · rw [if_pos he]; exact .dead
    · rw [if_neg he]
      obtain ⟨ob', h1, h2, h3, _⟩ := h.ptr _ _ he a
      exact .ptr h1 (h2.trans b') (h3 _ _ c')
  | @own t e u l b c a b' c' d' =>
    simp only [SV.kill, Bool.cond_eq_ite, beq_iff_eq]
    by_cases he : e = d
    · rw [if_pos he]; exact .dead
    · rw [if_neg he]
      obtain ⟨ob', h1, h2, _, h4⟩ := h.ptr _ _ he b'
      obtain ⟨l', rfl, hl⟩ := h4 _ _ rfl
      rw [← hl] at d' ⊢
      exact .own a h1 (h2.trans c') d'
  | @ownNil t e u a b' c' =>
    simp only [SV.kill, Bool.cond_eq_ite, beq_iff_eq]
    by_cases he : e = d
    · rw [if_pos he]; exact .dead
    · rw [if_neg he]
      obtain ⟨ob', h1, h2, _, h4⟩ := h.ptr _ _ he b'
      obtain ⟨l', rfl, hl⟩ := h4 _ _ rfl
      have : l' = [] := by simpa using hl
      subst this
      exact .ownNil a h1 (h2.trans c')
  | nils => exact .nils
  | nilp => exact .nilp
  | nili => exact .nili
  | @fn f l cv vs a b _ ih =>
    refine .fn (vs := vs) (by rw [SV.kills_len]; exact a) (fun i hi => b i (by rw [SV.kills_len] at hi; exact hi)) (fun i s hs => ?_)
    rw [SV.kills_get] at hs
    cases hl : l[i]? with
    | none => rw [hl] at hs; cases hs
    | some s' => rw [hl] at hs; injection hs with hs; subst hs; exact ih i s' hl
  | @tup l cv vs a b _ ih =>
    refine .tup (vs := vs) (by rw [SV.kills_len]; exact a) (fun i hi => b i (by rw [SV.kills_len] at hi; exact hi)) (fun i s hs => ?_)
    rw [SV.kills_get] at hs
    cases hl : l[i]? with
    | none => rw [hl] at hs; cases hs
    | some s' => rw [hl] at hs; injection hs with hs; subst hs; exact ih i s' hl
  | undef => exact .undef
  | dead => exact .dead

theorem RS.drop {w w' : World} {M M' : Nat → Prop} {β β' : Beta} {B B' : Obs} {d : Nat} {p : PV} (h : SameBut P d w M β B w' M' β' B')
    (hown : ∀ t v, RS P w M β B (.own t d) v → RS P w' M' β' B' (.val t p) v) {s : SV} {v : Value} (hr : RS P w M β B s v) :
    RS P w' M' β' B' (s.drop d p) v := by
  induction hr with
  | int a => exact .int a
  | bool => exact .bool
  | str a => exact .str a
  | flt a => exact .flt a
  | val a b => exact .val a (b.mono h.st)
  | @agg t fs l cs vs a b c e f g _ ih =>
    refine .agg a b (by rw [SV.drops_len]; exact c) e f (vs := vs) (fun i fd s hf hs => ?_) (fun i s hs => ?_)
    · rw [SV.drops_get] at hs
      cases hl : l[i]? with
      | none => rw [hl] at hs; cases hs
      | some s' => rw [hl] at hs; injection hs with hs; subst hs; exact ⟨SV.isT_drop d p (g i fd s' hf hl).1, (g i fd s' hf hl).2⟩
    · rw [SV.drops_get] at hs
      cases hl : l[i]? with
      | none => rw [hl] at hs; cases hs
      | some s' => rw [hl] at hs; injection hs with hs; subst hs; exact ih i s' hl
  | fro a b c => exact .fro a (b.mono h.st) (c.mono h.st)
  | @ptr e q b c off ob a b' c' =>
    simp only [SV.drop, Bool.cond_eq_ite, beq_iff_eq]
    by_cases he : e = d
    · rw [if_pos he]; exact .dead
    · rw [if_neg he]
      obtain ⟨ob', h1, h2, h3, _⟩ := h.ptr _ _ he a
      exact .ptr h1 (h2.trans b') (h3 _ _ c')
  | @own t e u l b c a b' c' d' =>
    simp only [SV.drop, Bool.cond_eq_ite, beq_iff_eq]
    by_cases he : e = d
    · subst he
      rw [if_pos rfl]; exact hown _ _ (.own a b' c' d')
    · rw [if_neg he]
      obtain ⟨ob', h1, h2, _, h4⟩ := h.ptr _ _ he b'
      obtain ⟨l', rfl, hl⟩ := h4 _ _ rfl
      rw [← hl] at d' ⊢
      exact .own a h1 (h2.trans c') d'
  | @ownNil t e u a b' c' =>
    simp only [SV.drop, Bool.cond_eq_ite, beq_iff_eq]
    by_cases he : e = d
    · subst he
      rw [if_pos rfl]; exact hown _ _ (.ownNil a b' c')
    · rw [if_neg he]
      obtain ⟨ob', h1, h2, _, h4⟩ := h.ptr _ _ he b'
      obtain ⟨l', rfl, hl⟩ := h4 _ _ rfl
      have : l' = [] := by simpa using hl
      subst this
      exact .ownNil a h1 (h2.trans c')
  | nils => exact .nils
  | nilp => exact .nilp
  | nili => exact .nili
  | @fn f l cv vs a b _ ih =>
    refine .fn (vs := vs) (by rw [SV.drops_len]; exact a) (fun i hi => b i (by rw [SV.drops_len] at hi; exact hi)) (fun i s hs => ?_)
    rw [SV.drops_get] at hs
    cases hl : l[i]? with
    | none => rw [hl] at hs; cases hs
    | some s' => rw [hl] at hs; injection hs with hs; subst hs; exact ih i s' hl
  | @tup l cv vs a b _ ih =>
    refine .tup (vs := vs) (by rw [SV.drops_len]; exact a) (fun i hi => b i (by rw [SV.drops_len] at hi; exact hi)) (fun i s hs => ?_)
    rw [SV.drops_get] at hs
    cases hl : l[i]? with
    | none => rw [hl] at hs; cases hs
    | some s' => rw [hl] at hs; injection hs with hs; subst hs; exact ih i s' hl
  | undef => exact .undef
  | dead => exact .dead

end
end Go.X
