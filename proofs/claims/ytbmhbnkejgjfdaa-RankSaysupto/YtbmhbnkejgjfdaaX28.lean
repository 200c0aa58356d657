/- The interpreter X, part 28: labels take other numbers. -/
import Derived.Test.YtbmhbnkejgjfdaaX27
namespace Go.X
open Go
section
variable {P : Program}

structure Ren (P : Program) (φ : Nat → Option Nat) (w : World) (M : Nat → Prop) (β : Beta) (B : Obs) (w' : World) (M' : Nat → Prop) (β' : Beta) (B' : Obs) : Prop where
  st : Stable w M w' M'
  ptr : ∀ d e ob, φ d = some e → Obs.get B d = some ob → ∃ ob', Obs.get B' e = some ob' ∧ β' e = β d ∧ (∀ q off, offO P ob q = some off → offO P ob' q = some off) ∧
    (∀ u l, ob = .row u l → ∃ l', ob' = .row u l' ∧ l'.length = l.length)

theorem SV.rens_get (φ : Nat → Option Nat) : ∀ (l : List SV) (i : Nat), (SV.rens φ l)[i]? = (l[i]?).map (SV.ren φ)
  | [], i => by simp [SV.rens]
  | s :: l, 0 => by simp [SV.rens]
  | s :: l, i + 1 => by simpa [SV.rens] using SV.rens_get φ l i
theorem SV.rens_len (φ : Nat → Option Nat) : ∀ (l : List SV), (SV.rens φ l).length = l.length
  | [] => rfl
  | s :: l => by simp [SV.rens, SV.rens_len φ l]
theorem Obs.get_ren (φ : Nat → Option Nat) : ∀ (B : Obs) (e : Nat), Obs.get (Obs.ren φ B) e = (Obs.get B e).map (Ob.ren φ)
  | [], e => rfl
  | (k, o) :: B, e => by
    simp only [Obs.ren, Obs.get]
    cases k == e
    · exact Obs.get_ren φ B e
    · rfl

theorem ren_map {l : List SV} {φ : Nat → Option Nat} {i : Nat} {s : SV} (h : (SV.rens φ l)[i]? = some s) : ∃ s0, l[i]? = some s0 ∧ s = s0.ren φ := by
  rw [SV.rens_get] at h
  cases hl : l[i]? with
  | none => rw [hl] at h; cases h
  | some s0 => rw [hl] at h; injection h with h; exact ⟨s0, rfl, h.symm⟩

theorem SV.isT_ren {t : TypeId} {s : SV} (φ : Nat → Option Nat) (h : s.isT P t) : (s.ren φ).isT P t := by
  cases s with
  | own u d =>
    unfold SV.ren
    cases hφ : φ d with
    | none => exact .inr (.inr (.inl rfl))
    | some e =>
      rcases h with h | h | h | ⟨l, h⟩
      · simp [SV.pvT] at h
      · exact .inr (.inl h)
      · cases h
      · cases h
  | ptr d q =>
    unfold SV.ren
    cases hφ : φ d with
    | none => exact .inr (.inr (.inl rfl))
    | some e =>
      rcases h with h | h | h | ⟨l, h⟩
      · simp [SV.pvT] at h
      · exact .inr (.inl h)
      · cases h
      · cases h
  | agg u l =>
    have := SV.isT_agg h
    subst this
    exact .inr (.inr (.inr ⟨_, rfl⟩))
  | fn f l =>
    rcases h with h | h | h | ⟨l, h⟩
    · simp [SV.pvT] at h
    · exact .inr (.inl h)
    · cases h
    · cases h
  | tup l =>
    rcases h with h | h | h | ⟨l, h⟩
    · simp [SV.pvT] at h
    · simp [SV.isHandle] at h
    · cases h
    · cases h
  | _ => exact h

theorem RS.ren {φ : Nat → Option Nat} {w w' : World} {M M' : Nat → Prop} {β β' : Beta} {B B' : Obs} (h : Ren P φ w M β B w' M' β' B') {s : SV} {v : Value} (hr : RS P w M β B s v) : RS P w' M' β' B' (s.ren φ) v := by
  induction hr with
  | int a => exact .int a
  | bool => exact .bool
  | str a => exact .str a
  | flt a => exact .flt a
  | val a b => exact .val a (b.mono h.st)
  | @agg t fs l cs vs a b c d e f _ ih =>
    refine .agg (vs := vs) a b (by rw [SV.rens_len]; exact c) d e (fun i g s hg hs => ?_) (fun i s hs => ?_)
    · obtain ⟨s0, h1, rfl⟩ := ren_map hs
      obtain ⟨k1, k2⟩ := f i g s0 hg h1
      exact ⟨SV.isT_ren φ k1, k2⟩
    · obtain ⟨s0, h1, rfl⟩ := ren_map hs
      exact ih i s0 h1
  | fro a b c => exact .fro a (b.mono h.st) (c.mono h.st)
  | @ptr d q b c off ob h1 h2 h3 =>
    unfold SV.ren
    cases hφ : φ d with
    | none => exact .dead
    | some e =>
      obtain ⟨ob', k1, k2, k3, _⟩ := h.ptr d e ob hφ h1
      exact .ptr k1 (k2.trans h2) (k3 _ _ h3)
  | @own t d e l b c h1 h2 h3 h4 =>
    unfold SV.ren
    cases hφ : φ d with
    | none => exact .dead
    | some e' =>
      obtain ⟨ob', k1, k2, _, k4⟩ := h.ptr d e' _ hφ h2
      obtain ⟨l', rfl, hl⟩ := k4 _ _ rfl
      rw [← hl] at h4 ⊢
      exact .own h1 k1 (k2.trans h3) h4
  | @ownNil t d e h1 h2 h3 =>
    unfold SV.ren
    cases hφ : φ d with
    | none => exact .dead
    | some e' =>
      obtain ⟨ob', k1, k2, _, k4⟩ := h.ptr d e' _ hφ h2
      obtain ⟨l', rfl, hl⟩ := k4 _ _ rfl
      have : l' = [] := by simpa using hl
      subst this
      exact .ownNil h1 k1 (k2.trans h3)
  | nils => exact .nils
  | nilp => exact .nilp
  | nili => exact .nili
  | @fn f l cv vs a b _ ih =>
    refine .fn (vs := vs) (by rw [SV.rens_len]; exact a) (fun i hi => b i (by rwa [SV.rens_len] at hi)) (fun i s hs => ?_)
    obtain ⟨s0, h1, rfl⟩ := ren_map hs
    exact ih i s0 h1
  | @tup l cv vs a b _ ih =>
    refine .tup (vs := vs) (by rw [SV.rens_len]; exact a) (fun i hi => b i (by rwa [SV.rens_len] at hi)) (fun i s hs => ?_)
    obtain ⟨s0, h1, rfl⟩ := ren_map hs
    exact ih i s0 h1
  | undef => exact .undef
  | dead => exact .dead

theorem offO_ren (φ : Nat → Option Nat) (o : Ob) (q : List Stp) : offO P (o.ren φ) q = offO P o q := by cases o <;> rfl
theorem row_ren (φ : Nat → Option Nat) {o : Ob} {e : TypeId} {l : List PV} (h : o = .row e l) : o.ren φ = .row e l := by subst h; rfl

theorem RO.ren {φ : Nat → Option Nat} {w w' : World} {M M' : Nat → Prop} {β β' : Beta} {B B' : Obs} (h : Ren P φ w M β B w' M' β' B') {d e : Nat} {o : Ob} (hβ : β' e = β d)
    (hb : ∀ b c, β d = some (b, c) → w'.heap[b]? = w.heap[b]?) (hr : RO P w M β B d o) : RO P w' M' β' B' e (o.ren φ) := by
  cases o with
  | box t s =>
    obtain ⟨b, c, cs, v, fr, h1, h2, h3, h4, h5, h6, h7, h8, h9⟩ := hr
    exact ⟨b, c, cs, v, fr, hβ.trans h1, (hb b c h1).trans h2, h3, h4, h5, h6, h7.ren h, SV.isT_ren φ h8, h9⟩
  | row u l =>
    obtain ⟨h0, hr⟩ := hr
    refine ⟨h0, ?_⟩
    rcases hr with ⟨h1, h2⟩ | ⟨b, c, cs, fr, h1, h2, h3, h4, h5, h6, h7, h8⟩
    · exact .inl ⟨hβ.trans h1, h2⟩
    · exact .inr ⟨b, c, cs, fr, hβ.trans h1, (hb b c h1).trans h2, h3, h4, h5, h6, h7, fun i p hi => (h8 i p hi).mono h.st⟩

/-! ### Lists of pairs -/

theorem look_mem : ∀ {l : List (Nat × Nat)} {n d : Nat}, look n l = some d → (n, d) ∈ l
  | [], _, _, h => by cases h
  | (a, b) :: l, n, d, h => by
    unfold look at h
    by_cases ha : a = n
    · subst ha
      simp only [beq_self_eq_true, cond_true, Option.some.injEq] at h
      subst h; simp
    · rw [show (a == n) = false by simpa using ha, cond_false] at h
      exact List.mem_cons_of_mem _ (look_mem h)
theorem nodupB_iff : ∀ {l : List Nat}, nodupB l = true → l.Nodup
  | [], _ => List.nodup_nil
  | a :: l, h => by
    unfold nodupB at h
    simp only [Bool.and_eq_true, Bool.not_eq_true', List.contains_eq_mem, decide_eq_false_iff_not] at h
    exact List.nodup_cons.2 ⟨h.1, nodupB_iff h.2⟩
theorem mem_look : ∀ {l : List (Nat × Nat)} {n d : Nat}, (l.map (·.1)).Nodup → (n, d) ∈ l → look n l = some d
  | [], _, _, _, h => by simp at h
  | (a, b) :: l, n, d, hn, h => by
    rw [List.map_cons, List.nodup_cons] at hn
    unfold look
    by_cases ha : a = n
    · subst ha
      simp only [beq_self_eq_true, cond_true, Option.some.injEq]
      rcases List.mem_cons.1 h with h | h
      · injection h with _ h; exact h.symm
      · exact absurd (List.mem_map.2 ⟨_, h, rfl⟩) hn.1
    · rw [show (a == n) = false by simpa using ha, cond_false]
      rcases List.mem_cons.1 h with h | h
      · injection h with h _; exact absurd h.symm ha
      · exact mem_look hn.2 h
theorem look_none {l : List (Nat × Nat)} {n : Nat} (h : look n l = none) : n ∉ l.map (·.1) := by
  induction l with
  | nil => simp
  | cons x l ih =>
    obtain ⟨a, b⟩ := x
    unfold look at h
    by_cases ha : a = n
    · subst ha; simp at h
    · rw [show (a == n) = false by simpa using ha, cond_false] at h
      rw [List.map_cons, List.mem_cons, not_or]
      exact ⟨fun h => ha h.symm, ih h⟩
theorem nodup_pair {l : List (Nat × Nat)} (h : (l.map (·.2)).Nodup) {a b c : Nat} (h1 : (a, c) ∈ l) (h2 : (b, c) ∈ l) : a = b := by
  induction l with
  | nil => simp at h1
  | cons x l ih =>
    rw [List.map_cons, List.nodup_cons] at h
    rcases List.mem_cons.1 h1 with e1 | e1 <;> rcases List.mem_cons.1 h2 with e2 | e2
    · rw [← e2] at e1; injection e1
    · exfalso; subst e1; exact h.1 (List.mem_map.2 ⟨_, e2, rfl⟩)
    · exfalso; subst e2; exact h.1 (List.mem_map.2 ⟨_, e1, rfl⟩)
    · exact ih h.2 e1 e2

theorem handObs_get {st : St} {m : List (Nat × Nat)} : ∀ {l : List (Nat × Nat)} {os : Obs}, handObs st m l = some os → os.map (·.1) = l.map (·.2) ∧
    (∀ d n, (d, n) ∈ l → ∃ o, Obs.get st.B d = some o ∧ (n, o.ren (look · m)) ∈ os) ∧ (∀ n o', (n, o') ∈ os → ∃ d o, (d, n) ∈ l ∧ Obs.get st.B d = some o ∧ o' = o.ren (look · m))
  | [], os, h => by
    simp only [handObs, Option.some.injEq] at h; subst h
    exact ⟨rfl, fun d n h => by simp at h, fun n o h => by simp at h⟩
  | (d, n) :: l, os, h => by
    unfold handObs at h
    cases h1 : Obs.get st.B d with
    | none => rw [h1] at h; cases h
    | some o =>
      cases h2 : handObs st m l with
      | none => rw [h1, h2] at h; cases h
      | some os' =>
        rw [h1, h2] at h
        replace h : (n, o.ren (look · m)) :: os' = os := by injection h
        subst h
        obtain ⟨g1, g2, g3⟩ := handObs_get h2
        refine ⟨by simp [g1], fun d' n' hm => ?_, fun n' o' hm => ?_⟩
        · rcases List.mem_cons.1 hm with e | e
          · injection e with e1 e2; subst e1; subst e2; exact ⟨o, h1, by simp⟩
          · obtain ⟨o2, k1, k2⟩ := g2 d' n' e
            exact ⟨o2, k1, List.mem_cons_of_mem _ k2⟩
        · rcases List.mem_cons.1 hm with e | e
          · injection e with e1 e2; subst e1; subst e2; exact ⟨d, o, by simp, h1, rfl⟩
          · obtain ⟨d2, o2, k1, k2⟩ := g3 n' o' e
            exact ⟨d2, o2, List.mem_cons_of_mem _ k1, k2⟩

/-- An association list with no number twice. -/
theorem Obs.get_mem : ∀ {B : Obs} {n : Nat} {o : Ob}, Obs.get B n = some o → (n, o) ∈ B
  | [], _, _, h => by cases h
  | (k, x) :: B, n, o, h => by
    unfold Obs.get at h
    by_cases hk : k = n
    · subst hk
      simp only [beq_self_eq_true, cond_true, Option.some.injEq] at h
      subst h; simp
    · rw [show (k == n) = false by simpa using hk, cond_false] at h
      exact List.mem_cons_of_mem _ (Obs.get_mem h)
theorem Obs.mem_get : ∀ {B : Obs} {n : Nat} {o : Ob}, (B.map (·.1)).Nodup → (n, o) ∈ B → Obs.get B n = some o
  | [], _, _, _, h => by simp at h
  | (k, x) :: B, n, o, hn, h => by
    rw [List.map_cons, List.nodup_cons] at hn
    unfold Obs.get
    by_cases hk : k = n
    · subst hk
      simp only [beq_self_eq_true, cond_true, Option.some.injEq]
      rcases List.mem_cons.1 h with h | h
      · injection h with _ h; exact h.symm
      · exact absurd (List.mem_map.2 ⟨_, h, rfl⟩) hn.1
    · rw [show (k == n) = false by simpa using hk, cond_false]
      rcases List.mem_cons.1 h with h | h
      · injection h with h _; exact absurd h.symm hk
      · exact Obs.mem_get hn.2 h

theorem backAll_get {φ : Nat → Option Nat} {B' : Obs} : ∀ (l : List (Nat × Nat)) (B : Obs), (l.map (·.2)).Nodup → 
    (∀ d, d ∉ l.map (·.2) → Obs.get (backAll φ B' l B) d = Obs.get B d) ∧ (∀ n d, (n, d) ∈ l → Obs.get (backAll φ B' l B) d = (Obs.get B' n).map (Ob.ren φ))
  | [], B, _ => ⟨fun d _ => rfl, fun n d h => by simp at h⟩
  | (n, d) :: l, B, hn => by
    rw [List.map_cons, List.nodup_cons] at hn
    have step : ∀ B1, (∀ e, e ≠ d → Obs.get B1 e = Obs.get B e) → Obs.get B1 d = (Obs.get B' n).map (Ob.ren φ) →
        (∀ e, e ∉ ((n, d) :: l).map (·.2) → Obs.get (backAll φ B' l B1) e = Obs.get B e) ∧ (∀ n' e, (n', e) ∈ (n, d) :: l → Obs.get (backAll φ B' l B1) e = (Obs.get B' n').map (Ob.ren φ)) := by
      intro B1 h1 h2
      obtain ⟨g1, g2⟩ := backAll_get l B1 hn.2
      refine ⟨fun e he => ?_, fun n' e he => ?_⟩
      · rw [List.map_cons, List.mem_cons, not_or] at he
        rw [g1 e he.2, h1 e he.1]
      · rcases List.mem_cons.1 he with he | he
        · injection he with e1 e2; subst e1; subst e2
          rw [g1 _ hn.1, h2]
        · exact g2 n' e he
    unfold backAll
    cases ho : Obs.get B' n with
    | none =>
      simp only
      exact step (Obs.del d B) (fun e he => by rw [Obs.get_del, if_neg (Ne.symm he)]) (by rw [Obs.get_del, if_pos rfl, ho]; rfl)
    | some o =>
      simp only
      exact step (Obs.ins d (o.ren φ) (Obs.del d B)) (fun e he => by rw [Obs.get_ins, if_neg (Ne.symm he), Obs.get_del, if_neg (Ne.symm he)]) (by rw [Obs.get_ins, if_pos rfl, ho]; rfl)

theorem boxKept_spec {st : St} {B' : Obs} : ∀ {l : List (Nat × Nat)}, boxKept st B' l = true → ∀ d n t s, (d, n) ∈ l → Obs.get st.B d = some (.box t s) → ∃ o, Obs.get B' n = some o
  | [], _, d, n, t, s, h, _ => by simp at h
  | (d', n') :: l, h, d, n, t, s, hm, hb => by
    simp only [boxKept, Bool.and_eq_true] at h
    rcases List.mem_cons.1 hm with e | e
    · injection e with e1 e2; subst e1; subst e2
      cases hg : Obs.get B' n with
      | none => rw [hb, hg] at h; cases h.1
      | some o => exact ⟨o, rfl⟩
    · exact boxKept_spec h.2 d n t s e hb

end
end Go.X
