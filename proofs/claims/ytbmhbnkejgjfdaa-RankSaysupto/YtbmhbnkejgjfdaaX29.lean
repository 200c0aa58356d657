/- The interpreter X, part 29: a call that may change objects: what is handed on. -/
import Derived.Test.YtbmhbnkejgjfdaaX28
namespace Go.X
open Go
section
variable {E : Env} {w0 : World} {F : Foot} {Mo : Nat → Prop} {st : St} {a : Act} {w : World}

theorem retSV_rs {P : Program} {M : Nat → Prop} {β : Beta} {B : Obs} {l : List SV} {rvs : List Value} (hlen : rvs.length = l.length)
    (each : ∀ (i : Nat) (s : SV) (v : Value), l[i]? = some s → rvs[i]? = some v → RS P w M β B s v) : RS P w M β B (retSV l) (retV rvs) := by
  by_cases h1s : ∃ s, l = [s]
  · obtain ⟨s, rfl⟩ := h1s
    obtain ⟨v, rfl⟩ : ∃ v, rvs = [v] := by
      match rvs, hlen with
      | [v], _ => exact ⟨v, rfl⟩
    exact each 0 s v rfl rfl
  · have e1 : retSV l = .tup l := by
      unfold retSV
      split
      · rename_i s; exact absurd ⟨s, rfl⟩ h1s
      · rfl
    have e2 : retV rvs = .tuple rvs.toArray := by
      unfold retV
      split
      · rename_i v
        exfalso; apply h1s
        match l, hlen with
        | [s], _ => exact ⟨s, rfl⟩
      · rfl
    rw [e1, e2]
    refine .tup (vs := fun i => rvs.getD i undef) (by simp [hlen]) (fun i hi => ?_) (fun i s hs => ?_)
    · rw [List.getElem?_toArray, List.getElem?_eq_getElem (by omega), List.getD_eq_getElem?_getD, List.getElem?_eq_getElem (by omega)]; rfl
    · have hi := get_lt hs
      refine each i s _ hs ?_
      rw [List.getD_eq_getElem?_getD, List.getElem?_eq_getElem (by omega)]; rfl

def swap (m : List (Nat × Nat)) : List (Nat × Nat) := m.map fun x => (x.2, x.1)
theorem mem_swap {m : List (Nat × Nat)} {a b : Nat} : (a, b) ∈ swap m ↔ (b, a) ∈ m := by
  unfold swap
  constructor
  · intro h
    obtain ⟨⟨x, y⟩, h1, h2⟩ := List.mem_map.1 h
    injection h2 with h2 h3; subst h2; subst h3; exact h1
  · intro h; exact List.mem_map.2 ⟨(b, a), h, rfl⟩
theorem swap_fst (m : List (Nat × Nat)) : (swap m).map (·.1) = m.map (·.2) := by simp [swap, Function.comp_def]
theorem swap_snd (m : List (Nat × Nat)) : (swap m).map (·.2) = m.map (·.1) := by simp [swap, Function.comp_def]

theorem handBox_low {st : St} {d L : Nat} (hL : lowB ≤ L) : ∀ x ∈ handBox st d L, lowB ≤ x.2 := by
  intro x hx
  unfold handBox at hx
  rcases List.mem_cons.1 hx with h | h
  · subst h; exact hL
  · cases hg : Obs.get st.B d with
    | none => rw [hg] at h; simp at h
    | some o =>
      rw [hg] at h
      cases o with
      | box t s =>
        simp only at h
        obtain ⟨y, _, rfl⟩ := List.mem_map.1 h
        simp only; omega
      | row _ _ => simp at h
theorem handMap_low {f : FuncId} : ∀ (l : List SV) (i : Nat), ∀ x ∈ handMap E st f i l, lowB ≤ x.2
  | [], i, x, hx => by simp [handMap] at hx
  | s :: l, i, x, hx => by
    unfold handMap at hx
    have hi : lowB ≤ lowB * (i + 1) := Nat.le_mul_of_pos_right _ (by omega)
    rcases List.mem_append.1 hx with h | h
    · cases s with
      | ptr d q => exact handBox_low hi x h
      | own u d =>
        simp only at h
        cases ho : E.ownPar f i
        · rw [ho] at h; simp at h
        · rw [ho] at h
          simp only [cond_true, List.mem_singleton] at h
          subst h; exact hi
      | fn g caps =>
        simp only at h
        obtain ⟨y, _, hy⟩ := List.mem_flatMap.1 h
        cases hc : y.1 with
        | ptr d q => rw [hc] at hy; exact handBox_low (by omega) x hy
        | _ => rw [hc] at hy; simp at hy
      | _ => simp at h
    · exact handMap_low l (i + 1) x h

/-- What the callee starts with. -/
structure Handed (P : Program) (w : World) (Mo : Nat → Prop) (β : Beta) (st : St) (m : List (Nat × Nat)) (extra os0 : Obs) (Mo' : Nat → Prop) (β' : Beta) : Prop where
  sub : ∀ b, Mut Mo' β' os0 b → Mut Mo β st.B b
  ren : Ren P (look · m) w (Mut Mo β st.B) β st.B w (Mut Mo' β' os0) β' os0
  mine : ∀ b, Mine β' os0 b → ∃ d n c, (d, n) ∈ m ∧ (∃ o, Obs.get st.B d = some o) ∧ β d = some (b, c)
  notMo : ∀ b, Mo' b ↔ (Mut Mo β st.B b ∧ ¬ ∃ d n c, (d, n) ∈ m ∧ β d = some (b, c))
  at_ : ∀ d n, (d, n) ∈ m → β' n = β d ∧ ∃ o, Obs.get st.B d = some o ∧ Obs.get os0 n = some (o.ren (look · m))
  ext : ∀ x ∈ extra, Obs.get os0 x.1 = some x.2 ∧ β' x.1 = none

theorem handed_rel {P : Program} {m : List (Nat × Nat)} {os extra : Obs} {β : Beta} (h1 : handObs st m m = some os) (hn2 : (m.map (·.2) ++ extra.map (·.1)).Nodup) :
    Handed P w Mo β st m extra (os ++ extra) (fun b => Mut Mo β st.B b ∧ ¬ ∃ d n c, (d, n) ∈ m ∧ β d = some (b, c)) (fun n => (look n (swap m)).bind β) := by
  obtain ⟨g1, g2, g3⟩ := handObs_get h1
  have hnd : ((os ++ extra).map (·.1)).Nodup := by rw [List.map_append, g1]; exact hn2
  have hns : ((swap m).map (·.1)).Nodup := by rw [swap_fst]; exact (List.nodup_append.1 hn2).1
  have hat : ∀ d n, (d, n) ∈ m → (look n (swap m)).bind β = β d ∧ ∃ o, Obs.get st.B d = some o ∧ Obs.get (os ++ extra) n = some (o.ren (look · m)) := by
    intro d n hm
    refine ⟨by rw [mem_look hns (mem_swap.2 hm)]; rfl, ?_⟩
    obtain ⟨o, k1, k2⟩ := g2 d n hm
    exact ⟨o, k1, Obs.mem_get hnd (List.mem_append_left _ k2)⟩
  have hmine : ∀ b, Mine (fun n => (look n (swap m)).bind β) (os ++ extra) b → ∃ d n c, (d, n) ∈ m ∧ (∃ o, Obs.get st.B d = some o) ∧ β d = some (b, c) := by
    rintro b ⟨n, ob, c, k1, k2⟩
    cases hl : look n (swap m) with
    | none => simp only [hl] at k2; cases k2
    | some d =>
      simp only [hl] at k2
      have hm := mem_swap.1 (look_mem hl)
      obtain ⟨_, o, k3, _⟩ := hat d n hm
      exact ⟨d, n, c, hm, ⟨o, k3⟩, k2⟩
  refine ⟨?_, ⟨?_, ?_⟩, hmine, fun b => Iff.rfl, hat, fun x hx => ⟨Obs.mem_get hnd (List.mem_append_right _ hx), ?_⟩⟩
  · rintro b (hb | hb)
    · exact hb.1
    · obtain ⟨d, n, c, _, ⟨o, ho⟩, hβ⟩ := hmine b hb
      exact .inr ⟨d, o, c, ho, hβ⟩
  · intro b hb hlt
    refine ⟨?_, rfl⟩
    rintro (h | h)
    · exact hb h.1
    · obtain ⟨d, n, c, _, ⟨o, ho⟩, hβ⟩ := hmine b h
      exact hb (.inr ⟨d, o, c, ho, hβ⟩)
  · intro d e ob hφ ho
    obtain ⟨k1, o, k2, k3⟩ := hat d e (look_mem hφ)
    rw [ho] at k2; injection k2 with k2; subst k2
    exact ⟨_, k3, k1, fun q off hq => by rw [offO_ren]; exact hq, fun u l hl => ⟨l, row_ren _ hl, rfl⟩⟩
  · have : look x.1 (swap m) = none := by
      cases hl : look x.1 (swap m) with
      | none => rfl
      | some d =>
        exfalso
        have hm := mem_swap.1 (look_mem hl)
        exact (List.nodup_append.1 hn2).2.2 _ (List.mem_map.2 ⟨_, hm, rfl⟩) _ (List.mem_map.2 ⟨_, hx, rfl⟩) rfl
    simp only [this]; rfl

theorem handAll_sound {m : List (Nat × Nat)} {f : FuncId} {β : Beta} (hR : Rel E.P Mo β st.T st.B a.tmps.toList w) {all os0 : Obs} {Mo' : Nat → Prop} {β' : Beta} (H : Handed E.P w Mo β st m all os0 Mo' β') :
    ∀ {i : Nat} {ts : List TypeId} {l l' : List SV} {ex : Obs}, handAll E st m f i ts l = some (l', ex) → (∀ x ∈ ex, x ∈ all) → l'.length = l.length ∧ (∀ x ∈ ex, ∃ e, x.2 = .row e [] ∧ e < E.P.types.size) ∧
      ∀ (k : Nat) (s s' : SV) (v : Value), l[k]? = some s → l'[k]? = some s' → RS E.P w (Mut Mo β st.B) β st.B s v → RS E.P w (Mut Mo' β' os0) β' os0 s' v
  | i, [], [], l', ex, h, _ => by
    simp only [handAll, Option.some.injEq, Prod.mk.injEq] at h
    obtain ⟨h1, h2⟩ := h
    subst h1; subst h2
    exact ⟨rfl, fun x hx => by simp at hx, fun k s s' v hs => by simp at hs⟩
  | _, [], _ :: _, _, _, h, _ => by simp [handAll] at h
  | _, _ :: _, [], _, _, h, _ => by simp [handAll] at h
  | i, t :: ts, s :: l, l', ex, h, hall => by
    unfold handAll at h
    cases h1 : handS E st m f t i s with
    | none => rw [h1] at h; cases h
    | some x =>
      cases h2 : handAll E st m f (i + 1) ts l with
      | none => rw [h1, h2] at h; cases h
      | some y =>
        rw [h1, h2] at h
        obtain ⟨s', ex1⟩ := x
        obtain ⟨l2, ex2⟩ := y
        replace h : (s' :: l2, ex1 ++ ex2) = (l', ex) := by injection h
        injection h with e1 e2
        subst e1; subst e2
        obtain ⟨g1, g2, g3⟩ := handAll_sound hR H h2 (fun x hx => hall x (List.mem_append_right _ hx))
        have hpass : ∀ {s : SV}, (s.pass E.P st false t).map (fun x => (x, ([] : Obs))) = some (s', ex1) → ex1 = [] ∧ ∀ v, RS E.P w (Mut Mo β st.B) β st.B s v → RS E.P w (Mut Mo' β' os0) β' os0 s' v := by
          intro s hp
          cases hq : s.pass E.P st false t with
          | none => rw [hq] at hp; cases hp
          | some s2 =>
            rw [hq] at hp
            simp only [Option.map_some, Option.some.injEq, Prod.mk.injEq] at hp
            obtain ⟨e1, e2⟩ := hp
            subst e1
            refine ⟨e2.symm, fun v hv => ?_⟩
            exact RS.noObs (fun b hb _ => hb) (pass_sound hR (M' := Mut Mo' β' os0) H.sub (fun h => by cases h) hv hq (β' := β'))
        have here : (∀ x ∈ ex1, ∃ e, x.2 = .row e [] ∧ e < E.P.types.size) ∧ ∀ v, RS E.P w (Mut Mo β st.B) β st.B s v → RS E.P w (Mut Mo' β' os0) β' os0 s' v := by
          cases s with
          | ptr d q =>
            simp only [handS, Option.some.injEq, Prod.mk.injEq] at h1
            obtain ⟨e1, e2⟩ := h1
            subst e1; subst e2
            exact ⟨fun x hx => by simp at hx, fun v hv => hv.ren H.ren⟩
          | fn g caps =>
            simp only [handS, Option.some.injEq, Prod.mk.injEq] at h1
            obtain ⟨e1, e2⟩ := h1
            subst e1; subst e2
            exact ⟨fun x hx => by simp at hx, fun v hv => hv.ren H.ren⟩
          | own u d =>
            simp only [handS] at h1
            obtain ⟨_, h1⟩ := cond_some h1
            simp only [Option.some.injEq, Prod.mk.injEq] at h1
            obtain ⟨e1, e2⟩ := h1
            subst e1; subst e2
            exact ⟨fun x hx => by simp at hx, fun v hv => hv.ren H.ren⟩
          | nils =>
            simp only [handS] at h1
            cases ho : E.ownPar f i with
            | false =>
              rw [ho, cond_false] at h1
              obtain ⟨e1, e2⟩ := hpass h1
              exact ⟨fun x hx => by rw [e1] at hx; simp at hx, e2⟩
            | true =>
              rw [ho, cond_true] at h1
              cases hu : E.P.underlying t with
              | none => rw [hu] at h1; cases h1
              | some dd =>
                rw [hu] at h1
                cases dd with
                | slice e =>
                  simp only at h1
                  obtain ⟨he, h1⟩ := cond_some h1
                  simp only [Option.some.injEq, Prod.mk.injEq] at h1
                  obtain ⟨e1, e2⟩ := h1
                  subst e1; subst e2
                  refine ⟨fun x hx => ?_, fun v hv => ?_⟩
                  · simp only [List.mem_singleton] at hx
                    subst hx; exact ⟨e, rfl, by simpa using he⟩
                  · cases hv with
                    | nils =>
                      obtain ⟨k1, k2⟩ := H.ext (lowB * (i + 1), .row e []) (hall _ (by simp))
                      exact .ownNil hu k1 k2
                | _ => cases h1
          | _ => first
            | (cases h1; done)
            | (obtain ⟨e1, e2⟩ := hpass h1
               exact ⟨fun x hx => by rw [e1] at hx; simp at hx, e2⟩)
        refine ⟨by simp [g1], fun x hx => ?_, fun k y y' v hy hy' hv => ?_⟩
        · rcases List.mem_append.1 hx with h | h
          · exact here.1 x h
          · exact g2 x h
        · cases k with
          | zero =>
            replace hy : s = y := by simpa using hy
            replace hy' : s' = y' := by simpa using hy'
            subst hy hy'; exact here.2 v hv
          | succ k => exact g3 k y y' v (by simpa using hy) (by simpa using hy') hv

/-- The state that the callee starts in. -/
theorem handed_start {f : FuncId} {m : List (Nat × Nat)} {ts : List TypeId} {args l : List SV} {os extra : Obs} {β : Beta} {vs : List Value} (hR : Rel E.P Mo β st.T st.B a.tmps.toList w) (h1 : handObs st m m = some os) (h2 : handAll E st m f 0 ts args = some (l, extra)) (hn1 : (m.map (·.1)).Nodup) (hn2 : (m.map (·.2) ++ extra.map (·.1)).Nodup)
    (hlen : vs.length = args.length) (hargs : ∀ (i : Nat) (s : SV) (v : Value), args[i]? = some s → vs[i]? = some v → RS E.P w (Mut Mo β st.B) β st.B s v) :
    ∃ Mo' β', Handed E.P w Mo β st m extra (os ++ extra) Mo' β' ∧ Rel E.P Mo' β' l (os ++ extra) vs w := by
  have H := handed_rel (P := E.P) (w := w) (Mo := Mo) (β := β) h1 hn2
  obtain ⟨s1, s2, s3⟩ := handAll_sound hR H h2 (fun x hx => hx)
  refine ⟨_, _, H, ?_⟩
  generalize hMo' : (fun b => Mut Mo β st.B b ∧ ¬ ∃ d n c, (d, n) ∈ m ∧ β d = some (b, c)) = Mo' at H s3
  generalize hβ' : (fun n => (look n (swap m)).bind β) = β' at H s3
  obtain ⟨g1, g2, g3⟩ := handObs_get h1
  have hfrom : ∀ n o', Obs.get (os ++ extra) n = some o' → (∃ d o, (d, n) ∈ m ∧ Obs.get st.B d = some o ∧ o' = o.ren (look · m) ∧ β' n = β d) ∨ (β' n = none ∧ ∃ e, o' = .row e [] ∧ e < E.P.types.size) := by
    intro n o' hg
    rcases List.mem_append.1 (Obs.get_mem hg) with h | h
    · obtain ⟨d, o, k1, k2, k3⟩ := g3 n o' h
      exact .inl ⟨d, o, k1, k2, k3, (H.at_ d n k1).1⟩
    · obtain ⟨e, he, hlt⟩ := s2 _ h
      exact .inr ⟨(H.ext _ h).2, e, he, hlt⟩
  refine ⟨hlen.trans s1.symm, fun i s v hs hv => ?_, fun n o' hg => ?_, fun n o n' o' b c c' k1 k2 k3 k4 => ?_, fun n o b c k1 k2 => ?_, fun n o b c k1 k2 hb => ?_, fun b hb => ?_⟩
  · have hil := get_lt hs
    rw [s1] at hil
    have hx := List.getElem?_eq_getElem hil
    exact s3 i _ s v hx hs (hargs i _ v hx hv)
  · rcases hfrom n o' hg with ⟨d, o, k1, k2, rfl, k4⟩ | ⟨k1, e, rfl, k3⟩
    · exact (hR.ob d o k2).ren H.ren k4 (fun _ _ _ => rfl)
    · exact ⟨k3, .inl ⟨k1, rfl⟩⟩
  · rcases hfrom n o k1 with ⟨d, x, m1, m2, _, m4⟩ | ⟨m1, _⟩
    · rcases hfrom n' o' k2 with ⟨d', x', m1', m2', _, m4'⟩ | ⟨m1', _⟩
      · rw [m4] at k3
        rw [m4'] at k4
        have := hR.inj d x d' x' b c c' m2 m2' k3 k4
        subst this
        have e1 := mem_look hn1 m1
        have e2 := mem_look hn1 m1'
        rw [e1] at e2; injection e2
      · rw [m1'] at k4; cases k4
    · rw [m1] at k3; cases k3
  · rcases hfrom n o k1 with ⟨d, x, m1, m2, _, m4⟩ | ⟨m1, _⟩
    · rw [m4] at k2; exact hR.lt d x b c m2 k2
    · rw [m1] at k2; cases k2
  · rcases hfrom n o k1 with ⟨d, x, m1, m2, _, m4⟩ | ⟨m1, _⟩
    · rw [m4] at k2
      exact ((H.notMo b).1 hb).2 ⟨d, n, c, m1, k2⟩
    · rw [m1] at k2; cases k2
  · rcases ((H.notMo b).1 hb).1 with h | ⟨d, o, c, k1, k2⟩
    · exact hR.mo b h
    · exact hR.lt d o b c k1 k2

end
end Go.X
