/- The interpreter X, part 7: the relation of a whole state. -/
import Derived.Test.YtbmhbnkejgjfdaaX6
namespace Go.X
open Go
/-- What of a call's world may change: blocks; the boxes that it was handed, by number, with their types and blocks. -/
structure Foot where
  blk : Nat → Prop
  box : Nat → Option (TypeId × (Nat × Nat))

section
variable {P : Program}

theorem offO_drop (d : Nat) (p : PV) (o : Ob) (q : List Stp) : offO P (o.drop d p) q = offO P o q := by cases o <;> rfl
theorem offO_kill (d : Nat) (o : Ob) (q : List Stp) : offO P (o.kill d) q = offO P o q := by cases o <;> rfl
theorem row_drop {d : Nat} {p : PV} {o : Ob} {e : TypeId} {l : List PV} (h : o = .row e l) : o.drop d p = .row e l := by subst h; rfl
theorem row_kill {d : Nat} {o : Ob} {e : TypeId} {l : List PV} (h : o = .row e l) : o.kill d = .row e l := by subst h; rfl

theorem RO.mono {w w' : World} {M M' : Nat → Prop} {β β' : Beta} {B B' : Obs} (h : Same P w M β B w' M' β' B') {d : Nat} {o : Ob} (hd : Obs.get B d = some o)
    (hb : ∀ b c, β d = some (b, c) → w'.heap[b]? = w.heap[b]?) (hr : RO P w M β B d o) : RO P w' M' β' B' d o := by
  obtain ⟨_, _, hβ, _⟩ := h.ptr d o hd
  cases o with
  | box t s =>
    obtain ⟨b, c, cs, v, fr, h1, h2, h3, h4, h5, h6, h7, h8, h9⟩ := hr
    exact ⟨b, c, cs, v, fr, hβ.trans h1, (hb b c h1).trans h2, h3, h4, h5, h6, h7.mono h, h8, h9⟩
  | row e l =>
    obtain ⟨hz, hr⟩ := hr
    refine ⟨hz, ?_⟩
    rcases hr with ⟨h1, h2⟩ | ⟨b, c, cs, fr, h1, h2, h3, h4, h5, h6, h7, h8⟩
    · exact .inl ⟨hβ.trans h1, h2⟩
    · exact .inr ⟨b, c, cs, fr, hβ.trans h1, (hb b c h1).trans h2, h3, h4, h5, h6, h7, fun i p hp => (h8 i p hp).mono h.st⟩

theorem RO.kill {w w' : World} {M M' : Nat → Prop} {β β' : Beta} {B B' : Obs} {e : Nat} (h : SameBut P e w M β B w' M' β' B') {d : Nat} (hne : d ≠ e) {o : Ob} (hd : Obs.get B d = some o)
    (hb : ∀ b c, β d = some (b, c) → w'.heap[b]? = w.heap[b]?) (hr : RO P w M β B d o) : RO P w' M' β' B' d (o.kill e) := by
  obtain ⟨_, _, hβ, _⟩ := h.ptr d o hne hd
  cases o with
  | box t s =>
    obtain ⟨b, c, cs, v, fr, h1, h2, h3, h4, h5, h6, h7, h8, h9⟩ := hr
    exact ⟨b, c, cs, v, fr, hβ.trans h1, (hb b c h1).trans h2, h3, h4, h5, h6, h7.kill h, SV.isT_kill e h8, h9⟩
  | row u l =>
    obtain ⟨hz, hr⟩ := hr
    refine ⟨hz, ?_⟩
    rcases hr with ⟨h1, h2⟩ | ⟨b, c, cs, fr, h1, h2, h3, h4, h5, h6, h7, h8⟩
    · exact .inl ⟨hβ.trans h1, h2⟩
    · exact .inr ⟨b, c, cs, fr, hβ.trans h1, (hb b c h1).trans h2, h3, h4, h5, h6, h7, fun i p hp => (h8 i p hp).mono h.st⟩

theorem RO.drop {w w' : World} {M M' : Nat → Prop} {β β' : Beta} {B B' : Obs} {e : Nat} {p : PV} (h : SameBut P e w M β B w' M' β' B')
    (hown : ∀ t v, RS P w M β B (.own t e) v → RS P w' M' β' B' (.val t p) v) {d : Nat} (hne : d ≠ e) {o : Ob} (hd : Obs.get B d = some o)
    (hb : ∀ b c, β d = some (b, c) → w'.heap[b]? = w.heap[b]?) (hr : RO P w M β B d o) : RO P w' M' β' B' d (o.drop e p) := by
  obtain ⟨_, _, hβ, _⟩ := h.ptr d o hne hd
  cases o with
  | box t s =>
    obtain ⟨b, c, cs, v, fr, h1, h2, h3, h4, h5, h6, h7, h8, h9⟩ := hr
    exact ⟨b, c, cs, v, fr, hβ.trans h1, (hb b c h1).trans h2, h3, h4, h5, h6, h7.drop h hown, SV.isT_drop e p h8, h9⟩
  | row u l =>
    obtain ⟨hz, hr⟩ := hr
    refine ⟨hz, ?_⟩
    rcases hr with ⟨h1, h2⟩ | ⟨b, c, cs, fr, h1, h2, h3, h4, h5, h6, h7, h8⟩
    · exact .inl ⟨hβ.trans h1, h2⟩
    · exact .inr ⟨b, c, cs, fr, hβ.trans h1, (hb b c h1).trans h2, h3, h4, h5, h6, h7, fun i p hp => (h8 i p hp).mono h.st⟩

theorem get_lt {α : Type} {l : List α} {i : Nat} {x : α} (h : l[i]? = some x) : i < l.length := by
  rcases Nat.lt_or_ge i l.length with h' | h'
  · exact h'
  · rw [List.getElem?_eq_none h'] at h; cases h

/-- A slice of a row is data once the row is nobody's to change. -/
theorem own_data {w : World} {Mo : Nat → Prop} {β : Beta} {T : List SV} {B : Obs} {vs : List Value} (h : Rel P Mo β T B vs w) {d : Nat} {e : TypeId} {l : List PV} (hd : Obs.get B d = some (.row e l))
    {M' : Nat → Prop} {B' : Obs} {β' : Beta} (hst : Stable w (Mut Mo β B) w M') (hout : ∀ b c, β d = some (b, c) → ¬ M' b) {t : TypeId} {v : Value} (hv : RS P w (Mut Mo β B) β B (.own t d) v) :
    RS P w M' β' B' (.val t (.list l)) v := by
  cases hv with
  | @own _ _ e' l' b c hu hg hβ hl =>
    rw [hd] at hg
    injection hg with hg
    injection hg with h1 h2
    subst h1; subst h2
    have ho := h.ob d _ hd
    rcases ho.2 with ⟨h1, _⟩ | ⟨b', c', cs, fr, h1, h2, h3, h4, h5, h6, h7, h8⟩
    · rw [h1] at hβ; cases hβ
    · rw [h1] at hβ
      injection hβ with hβ
      injection hβ with hb hc
      subst hb; subst hc
      have hp : Pack P t (.slice (some ⟨b', 0, none⟩) l.length c') [.slice (some ⟨b', 0, none⟩) l.length c'] := by simp [Pack, isAggT, hu]
      refine .val hp (.slice (cs := fun i => (cs.drop (i * P.cellsOf e)).take (P.cellsOf e)) hu rfl hl h5 (fun i hi => ⟨?_, ?_⟩) (fun i p hp => (h8 i p hp).mono hst))
      · rw [List.length_take, List.length_drop, h6]
        have : (i + 1) * P.cellsOf e ≤ c' * P.cellsOf e := Nat.mul_le_mul_right _ (by omega)
        rw [Nat.succ_mul] at this
        omega
      · intro j x hj
        refine ⟨by rw [add_block]; exact hout b' c' h1, ?_⟩
        have hj2 := hj
        have hjl := get_lt hj
        rw [List.length_take] at hjl
        rw [List.getElem?_take_of_lt (by omega), List.getElem?_drop] at hj2
        unfold Addr.add World.cell?
        by_cases h0 : i * P.cellsOf e = 0
        · by_cases hj0 : j = 0
          · subst hj0; rw [h0] at hj2
            simp only [if_pos h0, if_true, h2]
            simpa using hj2
          · rw [h0] at hj2
            simp only [if_pos h0, if_neg hj0, h2]
            simpa using hj2
        · by_cases hj0 : j = 0
          · subst hj0
            simp only [if_neg h0, if_true, h2]
            simpa using hj2
          · simp only [if_neg h0, if_neg hj0, h2]
            simpa using hj2
  | ownNil hu hg hβ =>
    rw [hd] at hg
    injection hg with hg
    injection hg with h1 h2
    subst h2
    exact .val (cs := [.slice none 0 0]) (by simp [Pack, isAggT, hu]) (.nilSlice hu)

theorem Mine.sub {β : Beta} {B B' : Obs} (h : ∀ e o, Obs.get B' e = some o → ∃ o', Obs.get B e = some o') {b : Nat} (hb : Mine β B' b) : Mine β B b := by
  obtain ⟨d, o, c, h1, h2⟩ := hb
  obtain ⟨o', h3⟩ := h d o h1
  exact ⟨d, o', c, h3, h2⟩

theorem Rel.retire {w : World} {Mo : Nat → Prop} {β : Beta} {st : St} {vs : List Value} (h : Rel P Mo β st.T st.B vs w) (d : Nat) :
    Rel P Mo β (st.retire d).T (st.retire d).B vs w := by
  unfold St.retire
  cases hd : Obs.get st.B d with
  | none => simpa [hd] using h
  | some o =>
    simp only
    have hget : ∀ e, Obs.get (Obs.drop d o.frozen (Obs.del d st.B)) e = if d = e then none else (Obs.get st.B e).map (Ob.drop d o.frozen) := by
      intro e
      rw [Obs.get_drop, Obs.get_del]
      by_cases he : d = e <;> simp [he]
    have hsub : ∀ e o', Obs.get (Obs.drop d o.frozen (Obs.del d st.B)) e = some o' → d ≠ e ∧ ∃ o1, Obs.get st.B e = some o1 ∧ o1.drop d o.frozen = o' := by
      intro e o' he
      rw [hget] at he
      by_cases hde : d = e
      · rw [if_pos hde] at he; cases he
      · rw [if_neg hde] at he
        cases hg : Obs.get st.B e with
        | none => rw [hg] at he; cases he
        | some o1 => rw [hg] at he; injection he with he; exact ⟨hde, o1, rfl, he⟩
    have hM : ∀ b, Mut Mo β (Obs.drop d o.frozen (Obs.del d st.B)) b → Mut Mo β st.B b := by
      rintro b (hb | hb)
      · exact .inl hb
      · exact .inr (hb.sub fun e o' he => let ⟨_, o1, h1, _⟩ := hsub e o' he; ⟨o1, h1⟩)
    have hst : Stable w (Mut Mo β st.B) w (Mut Mo β (Obs.drop d o.frozen (Obs.del d st.B))) := fun b hb _ => ⟨fun hb' => hb (hM b hb'), rfl⟩
    have hout : ∀ b c, β d = some (b, c) → ¬ Mut Mo β (Obs.drop d o.frozen (Obs.del d st.B)) b := by
      rintro b c hβ (hb | ⟨e, o', c', he, hβ'⟩)
      · exact h.out d o b c hd hβ hb
      · obtain ⟨hne, o1, h1, _⟩ := hsub e o' he
        exact hne (h.inj d o e o1 b c c' hd h1 hβ hβ')
    have hsb : SameBut P d w (Mut Mo β st.B) β st.B w (Mut Mo β (Obs.drop d o.frozen (Obs.del d st.B))) β (Obs.drop d o.frozen (Obs.del d st.B)) := by
      refine ⟨hst, fun e ob hne he => ⟨ob.drop d o.frozen, ?_, rfl, fun q off hq => by rw [offO_drop]; exact hq, fun u l hl => ⟨l, row_drop hl, rfl⟩⟩⟩
      rw [hget, if_neg (Ne.symm hne), he]; rfl
    have hown : ∀ t v, RS P w (Mut Mo β st.B) β st.B (.own t d) v → RS P w (Mut Mo β (Obs.drop d o.frozen (Obs.del d st.B))) β (Obs.drop d o.frozen (Obs.del d st.B)) (.val t o.frozen) v := by
      intro t v hv
      cases o with
      | row e l => exact own_data h hd hst hout hv
      | box u s =>
        exfalso
        cases hv with
        | own _ hg => rw [hd] at hg; cases hg
        | ownNil _ hg => rw [hd] at hg; cases hg
    refine ⟨by rw [SV.drops_len]; exact h.len, fun i s v hs hv => ?_, fun e o' he => ?_, fun e o1 e' o2 b c c' h1 h2 => ?_, fun e o1 b c h1 => ?_, fun e o1 b c h1 => ?_, h.mo⟩
    · rw [SV.drops_get] at hs
      cases hT : st.T[i]? with
      | none => rw [hT] at hs; cases hs
      | some s' => rw [hT] at hs; injection hs with hs; subst hs; exact (h.slot i s' v hT hv).drop hsb hown
    · obtain ⟨hne, o1, h1, h2⟩ := hsub e o' he
      subst h2
      exact (h.ob e o1 h1).drop hsb hown (Ne.symm hne) h1 (fun _ _ _ => rfl)
    · obtain ⟨_, p1, g1, _⟩ := hsub e o1 h1
      obtain ⟨_, p2, g2, _⟩ := hsub e' o2 h2
      exact h.inj e p1 e' p2 b c c' g1 g2
    · obtain ⟨_, p1, g1, _⟩ := hsub e o1 h1
      exact h.lt e p1 b c g1
    · obtain ⟨_, p1, g1, _⟩ := hsub e o1 h1
      exact h.out e p1 b c g1

/-- What has become of the world since a call began. -/
structure Kp (w0 : World) (F : Foot) (β : Beta) (B : Obs) (w : World) : Prop where
  size : w0.heap.size ≤ w.heap.size
  old : ∀ b, b < w0.heap.size → ¬ F.blk b → w.heap[b]? = w0.heap[b]?
  mine : ∀ b, Mine β B b → F.blk b ∨ w0.heap.size ≤ b
  os : w.os = w0.os
  output : w.output = w0.output
  stay : ∀ n t b o, F.box n = some (t, b) → Obs.get B n = some o → (∃ s, o = .box t s) ∧ β n = some b
  low : ∀ n, n < lowB → F.box n = none

theorem retire_get (st : St) (d e : Nat) : ∀ o, Obs.get (st.retire d).B e = some o → d ≠ e ∧ ∃ o', Obs.get st.B e = some o' := by
  intro o
  unfold St.retire
  cases hd : Obs.get st.B d with
  | none => intro h; simp only at h; exact ⟨(fun he => by subst he; rw [hd] at h; cases h), o, h⟩
  | some o1 =>
    simp only [Obs.get_drop, Obs.get_del]
    by_cases he : d = e
    · simp [he]
    · simp only [if_neg he]
      cases hg : Obs.get st.B e with
      | none => intro h; cases h
      | some o2 => exact fun _ => ⟨he, o2, rfl⟩

theorem retire_kin (st : St) (d e : Nat) : ∀ o, Obs.get (st.retire d).B e = some o → ∃ o', Obs.get st.B e = some o' ∧ ∀ t s, o' = .box t s → ∃ s', o = .box t s' := by
  intro o
  unfold St.retire
  cases hd : Obs.get st.B d with
  | none => intro h; exact ⟨o, h, fun t s hs => ⟨s, hs⟩⟩
  | some o1 =>
    simp only [Obs.get_drop, Obs.get_del]
    by_cases he : d = e
    · simp [he]
    · simp only [if_neg he]
      cases hg : Obs.get st.B e with
      | none => intro h; cases h
      | some o2 =>
        intro h
        injection h with h
        subst h
        refine ⟨o2, rfl, fun t s hs => ?_⟩
        subst hs
        exact ⟨_, rfl⟩

theorem Kp.retire {w0 w : World} {F : Foot} {β : Beta} {st : St} (h : Kp w0 F β st.B w) (d : Nat) : Kp w0 F β (st.retire d).B w :=
  ⟨h.size, h.old, fun b hb => h.mine b (hb.sub fun e o he => (retire_get st d e o he).2), h.os, h.output, fun n t b o hn ho => by
    obtain ⟨o', h1, h2⟩ := retire_kin st d n o ho
    obtain ⟨⟨s, rfl⟩, h3⟩ := h.stay n t b o' hn h1
    exact ⟨h2 t s rfl, h3⟩, h.low⟩

end
end Go.X
