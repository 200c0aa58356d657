/- The interpreter X, part 33: the end of a function; a function. -/
import Derived.Test.YtbmhbnkejgjfdaaX32
namespace Go.X
open Go
section
variable {E : Env} {w0 : World} {F : Foot} {Mo : Nat → Prop} {st : St} {a : Act} {w : World}

theorem cellS_sound (hL : laidOutB E.P = true) {β : Beta} {vs : List Value} (hR : Rel E.P Mo β st.T st.B vs w) {s : SV} {v : Value} {t : TypeId} (hx : RS E.P w (Mut Mo β st.B) β st.B s v) (hd : (cellS E st t s).isDead = false) :
    ∃ u, (do loadVar t (← asAddr v) : Sem Value).run E.P w = .ok u w ∧ RS E.P w (Mut Mo β st.B) β st.B (cellS E st t s) u := by
  cases hx with
  | @ptr d q b c off ob hob hβ hoff =>
    unfold cellS at hd ⊢
    simp only at hd ⊢
    rw [hob] at hd ⊢
    simp only at hd ⊢
    cases hc : (ob.typAt E.P q == some t) && (E.P.underlying t).isSome with
    | false => rw [hc] at hd; cases hd
    | true =>
      rw [hc, cond_true] at hd
      rw [cond_true]
      simp only [Bool.and_eq_true, beq_iff_eq] at hc
      obtain ⟨dd, hu⟩ := Option.isSome_iff_exists.1 hc.2
      obtain ⟨cs, e, fr, h1, h2, h3, h4⟩ := ob_read hL (hR.ob d ob hob) hoff hc.1 hβ
      rcases h4 with h4 | ⟨v, h4, h5⟩
      · rw [h4] at hd; cases hd
      · refine ⟨v, ?_, h4⟩
        simp only [asAddr]
        rw [Sem.run_bind, Sem.run_pure, Result.andThen_ok]
        exact run_loadVar hu h5 (sub_len h2) (fun j x hj => by
          have := cell_block h1 j _ hj
          exact this)
  | _ => cases hd

theorem readRes_sound (hL : laidOutB E.P = true) {β : Beta} (hR : Rel E.P Mo β st.T st.B a.tmps.toList w) (rv : ResultVar) (hd : (readRes E st rv).isDead = false) :
    ∃ v, (match rv with | .tmp t => pure (a.tmps.getD t Go.undef) | .cell p t => do loadVar t (← asAddr (a.tmps.getD p Go.undef)) : Sem Value).run E.P w = .ok v w ∧ RS E.P w (Mut Mo β st.B) β st.B (readRes E st rv) v := by
  cases rv with
  | tmp t => exact ⟨_, rfl, get_sound hR 0 (.tmp t)⟩
  | cell p t => exact cellS_sound hL hR (get_sound hR 0 (.tmp p)) hd

theorem mapM_run {α : Type} {g : α → Sem Value} {P : Program} {w : World} : ∀ {l : List α} {vs : List Value}, l.length = vs.length → (∀ (i : Nat) (x : α) (v : Value), l[i]? = some x → vs[i]? = some v → (g x).run P w = .ok v w) → (l.mapM g).run P w = .ok vs w
  | [], [], _, _ => by simp
  | [], _ :: _, h, _ => by simp at h
  | _ :: _, [], h, _ => by simp at h
  | x :: l, v :: vs, h, hh => by
    have h1 := hh 0 x v rfl rfl
    have h2 := mapM_run (g := g) (l := l) (vs := vs) (by simpa using h) (fun i y u hy hu => hh (i + 1) y u (by simpa using hy) (by simpa using hu))
    simp [List.mapM_cons, h1, h2]

theorem run_results {fn : Func} {tmps : Array Value} {P : Program} {w : World} {rvs : List Value} (hlen : fn.results.toList.length = rvs.length)
    (h : ∀ (i : Nat) (r : ResultVar) (v : Value), fn.results.toList[i]? = some r → rvs[i]? = some v → (match r with | .tmp t => pure (tmps.getD t Go.undef) | .cell p t => do loadVar t (← asAddr (tmps.getD p Go.undef)) : Sem Value).run P w = .ok v w) :
    (results fn tmps).run P w = .ok (retV rvs) w := by
  unfold results
  have hm : (fn.results.mapM fun | .tmp t => pure (tmps.getD t Go.undef) | .cell p t => do loadVar t (← asAddr (tmps.getD p Go.undef)) : Sem (Array Value)).run P w = .ok rvs.toArray w := by
    rw [Array.mapM_eq_mapM_toList, Sem.run_map, mapM_run hlen h]; rfl
  rw [Sem.run_bind]
  refine (congrArg (fun r => Result.andThen r _) hm).trans ?_
  rw [Result.andThen_ok]
  simp only [Sem.run_pure]
  congr 1
  match rvs with
  | [] => rfl
  | [v] => rfl
  | v :: u :: l => simp [retV]

theorem boxPV_sound {P : Program} {M : Nat → Prop} {β : Beta} {B : Obs} {u : TypeId} {s : SV} {v : Value} {p : PV} (hs : RS P w M β B s v) (h : boxPV P u s = some p) : ∃ cs, Pack P u v cs ∧ Rd P w M u p cs := by
  by_cases hag : ∃ u' l, s = .agg u' l
  · obtain ⟨u', l, rfl⟩ := hag
    unfold boxPV at h
    simp only at h
    obtain ⟨hu, h⟩ := cond_some h
    have hu : u' = u := by simpa using hu
    subst hu
    cases hp : plainsF P (fieldsOf P u') l with
    | none => rw [hp] at h; cases h
    | some ps =>
      rw [hp] at h; injection h with h; subst h
      have := RS.plains hs hp
      exact this.pvT (by simp [SV.pvT])
  · have h2 : s.pvT P u = some p := by
      revert h
      cases s <;> first
        | exact id
        | exact absurd ⟨_, _, rfl⟩ hag
    exact hs.pvT h2

/-- Are the labels of its handles all kept? -/
def SV.kept (keep : List Nat) : SV → Bool
  | .ptr d _ => keep.contains d
  | .own _ d => keep.contains d
  | .agg _ _ | .fn _ _ | .tup _ => false
  | _ => true

theorem drop_kept {keep : List Nat} {s : SV} (h : s.kept keep = true) {d : Nat} (hd : keep.contains d = false) (p : PV) : s.drop d p = s := by
  cases s with
  | own t e =>
    unfold SV.drop
    have : (e == d) = false := by
      rw [Bool.eq_false_iff]
      intro h2
      have : e = d := by simpa using h2
      subst this
      simp only [SV.kept] at h; rw [hd] at h; cases h
    rw [this]; rfl
  | ptr e q =>
    unfold SV.drop
    have : (e == d) = false := by
      rw [Bool.eq_false_iff]
      intro h2
      have : e = d := by simpa using h2
      subst this
      simp only [SV.kept] at h; rw [hd] at h; cases h
    rw [this]; rfl
  | agg _ _ => cases h
  | fn _ _ => cases h
  | tup _ => cases h
  | _ => rfl

theorem retireAll_kept_T {keep : List Nat} : ∀ (L : List Nat) (T : List SV) (B : Obs), (∀ d ∈ L, keep.contains d = false) → (∀ s ∈ T, s.kept keep = true) → (retireAll L { T := T, B := B }).T = T
  | [], T, B, _, _ => rfl
  | d :: L, T, B, hL, hT => by
    have h1 : (({ T := T, B := B } : St).retire d).T = T := by
      unfold St.retire
      cases Obs.get B d with
      | none => rfl
      | some o =>
        apply List.ext_getElem?
        intro i
        show (SV.drops d o.frozen T)[i]? = _
        rw [SV.drops_get]
        cases hg : T[i]? with
        | none => rfl
        | some s => exact congrArg some (drop_kept (hT s (List.mem_of_getElem? hg)) (hL d (by simp)) _)
    have h2 : ({ T := T, B := B } : St).retire d = { T := T, B := (({ T := T, B := B } : St).retire d).B } := by
      cases hh : ({ T := T, B := B } : St).retire d with
      | mk T' B' => rw [hh] at h1; simp only at h1; rw [h1]
    show (retireAll L (({ T := T, B := B } : St).retire d)).T = T
    rw [h2]
    exact retireAll_kept_T L T _ (fun e he => hL e (by simp [he])) hT

theorem retireAll_B : ∀ (L : List Nat) (T T' : List SV) (B : Obs), (retireAll L { T := T, B := B }).B = (retireAll L { T := T', B := B }).B
  | [], _, _, _ => rfl
  | d :: L, T, T', B => by
    show (retireAll L (({ T := T, B := B } : St).retire d)).B = (retireAll L (({ T := T', B := B } : St).retire d)).B
    unfold St.retire
    cases Obs.get B d with
    | none => exact retireAll_B L _ _ _
    | some o => exact retireAll_B L _ _ _

theorem Rel.slots {P : Program} {β : Beta} {T : List SV} {B : Obs} {vs : List Value} (h : Rel P Mo β T B vs w) {T' : List SV} {vs' : List Value} (hlen : vs'.length = T'.length)
    (hs : ∀ (i : Nat) (s : SV) (v : Value), T'[i]? = some s → vs'[i]? = some v → RS P w (Mut Mo β B) β B s v) : Rel P Mo β T' B vs' w :=
  ⟨hlen, hs, h.ob, h.inj, h.lt, h.out, h.mo⟩

theorem plain_kept {P : Program} {t : TypeId} {p : PV} {keep : List Nat} : (ofPV P t p).kept keep = true := by
  unfold ofPV
  split <;> rfl

theorem outAll_spec {P : Program} {B : Obs} {keep : List Nat} : ∀ {ts : List TypeId} {l r : List SV}, outAll P B keep ts l = some r → r.length = l.length ∧ ∀ (i : Nat) (s s' : SV), l[i]? = some s → r[i]? = some s' → ∃ t, outS P B keep t s = some s'
  | [], [], r, h => by
    simp only [outAll, Option.some.injEq] at h; subst h
    exact ⟨rfl, fun i s s' h => by simp at h⟩
  | [], _ :: _, _, h => by simp [outAll] at h
  | _ :: _, [], _, h => by simp [outAll] at h
  | t :: ts, s :: l, r, h => by
    unfold outAll at h
    cases h1 : outS P B keep t s with
    | none => rw [h1] at h; cases h
    | some x =>
      cases h2 : outAll P B keep ts l with
      | none => rw [h1, h2] at h; cases h
      | some y =>
        rw [h1, h2] at h
        replace h : x :: y = r := by injection h
        subst h
        obtain ⟨g1, g2⟩ := outAll_spec h2
        refine ⟨by simp [g1], fun i y' z' hy hz => ?_⟩
        cases i with
        | zero =>
          replace hy : s = y' := by simpa using hy
          replace hz : x = z' := by simpa using hz
          subst hy hz; exact ⟨t, h1⟩
        | succ i => exact g2 i y' z' (by simpa using hy) (by simpa using hz)

/-- The end of a function. -/
theorem finish_sound (hL : laidOutB E.P = true) {fn : Func} {B0 : Obs} {r : Out} (hI : Inv E.P w0 F Mo st a w) (h : finish E fn B0 st = some r) :
    a.defers = [] ∧ ∃ rvs β', (results fn a.tmps).run E.P w = .ok (retV rvs) w ∧ Rel E.P Mo β' r.1 r.2 rvs w ∧ Kp w0 F β' r.2 w := by
  obtain ⟨hdef, β, hR, hk⟩ := hI
  refine ⟨hdef, ?_⟩
  unfold finish at h
  simp only at h
  obtain ⟨hnd, h⟩ := cond_none h
  have hnd' : ∀ (i : Nat) (rv : ResultVar), fn.results.toList[i]? = some rv → (readRes E st rv).isDead = false := by
    intro i rv hi
    have := List.any_eq_false.1 hnd (readRes E st rv) (List.mem_map.2 ⟨rv, List.mem_of_getElem? hi, rfl⟩)
    simpa using this
  -- the values of the results
  have hall : ∀ rv : ResultVar, ∃ v, (readRes E st rv).isDead = false → (match rv with | .tmp t => pure (a.tmps.getD t Go.undef) | .cell p t => do loadVar t (← asAddr (a.tmps.getD p Go.undef)) : Sem Value).run E.P w = .ok v w ∧ RS E.P w (Mut Mo β st.B) β st.B (readRes E st rv) v := by
    intro rv
    cases hd : (readRes E st rv).isDead with
    | true => exact ⟨Go.undef, fun h => by cases h⟩
    | false =>
      obtain ⟨v, hv⟩ := readRes_sound hL hR rv hd
      exact ⟨v, fun _ => hv⟩
  let val : ResultVar → Value := fun rv => (hall rv).choose
  have hval : ∀ rv, (readRes E st rv).isDead = false → (match rv with | .tmp t => pure (a.tmps.getD t Go.undef) | .cell p t => do loadVar t (← asAddr (a.tmps.getD p Go.undef)) : Sem Value).run E.P w = .ok (val rv) w ∧ RS E.P w (Mut Mo β st.B) β st.B (readRes E st rv) (val rv) := fun rv => (hall rv).choose_spec
  have hrun : (results fn a.tmps).run E.P w = .ok (retV (fn.results.toList.map val)) w := by
    refine run_results (by simp) (fun i rv v hi hv => ?_)
    rw [List.getElem?_map, hi] at hv
    injection hv with hv; subst hv
    exact (hval rv (hnd' i rv hi)).1
  have hrel : Rel E.P Mo β (fn.results.toList.map (readRes E st)) st.B (fn.results.toList.map val) w := by
    refine hR.slots (by simp) (fun i s v hs hv => ?_)
    rw [List.getElem?_map] at hs hv
    cases hi : fn.results.toList[i]? with
    | none => rw [hi] at hs; cases hs
    | some rv =>
      rw [hi] at hs hv
      injection hs with hs; injection hv with hv
      subst hs; subst hv
      exact (hval rv (hnd' i rv hi)).2
  generalize fn.results.toList.map val = rvs at hrun hrel
  generalize fn.results.toList.map (readRes E st) = rs at h hrel
  generalize (bif E.ownRet then (match rs with | [.own _ d] => [d] | _ => []) else []) ++ B0.map (·.1) = keep at h
  obtain ⟨hR1, hk1⟩ := retireAll_rel (st := { T := rs, B := st.B }) ((st.B.filter fun x => x.2.isRow && !keep.contains x.1).map (·.1)) hrel hk
  generalize retireAll ((st.B.filter fun x => x.2.isRow && !keep.contains x.1).map (·.1)) { T := rs, B := st.B } = st1 at h hR1 hk1
  cases ho : outAll E.P st1.B keep fn.resultTypes.toList st1.T with
  | none => rw [ho] at h; cases h
  | some l =>
    rw [ho] at h
    injection h with h
    subst h
    obtain ⟨o1, o2⟩ := outAll_spec ho
    have hlabs : ∀ d ∈ (st1.B.map (·.1)).filter (fun n => !keep.contains n), keep.contains d = false := by
      intro d hd
      have := (List.mem_filter.1 hd).2
      simpa using this
    generalize hLs : (st1.B.map (·.1)).filter (fun n => !keep.contains n) = Ls at hlabs
    refine ⟨rvs, β, hrun, ?_, ?_⟩
    · have hR2 := (retireAll_rel (w0 := w0) (F := F) (st := { T := [], B := st1.B }) Ls (hR1.slots (T' := []) (vs' := []) rfl (fun i s v hs => by simp at hs)) hk1).1
      refine hR2.slots (by rw [hR1.len, o1]) (fun i s' v hs hv => ?_)
      simp only at hs
      have hil : i < st1.T.length := by rw [← o1]; exact get_lt hs
      have hg := List.getElem?_eq_getElem hil
      obtain ⟨t, ht⟩ := o2 i _ s' hg hs
      have hrs := hR1.slot i _ v hg hv
      generalize st1.T[i] = s at ht hrs
      -- handles that are kept, and data
      have keepS : ∀ {s'' : SV}, s''.kept keep = true → RS E.P w (Mut Mo β st1.B) β st1.B s'' v → RS E.P w (Mut Mo β (retireAll Ls { T := [], B := st1.B }).B) β (retireAll Ls { T := [], B := st1.B }).B s'' v := by
        intro s'' hkp hr
        have hR3 := (retireAll_rel (w0 := w0) (F := F) (st := { T := [s''], B := st1.B }) Ls (hR1.slots (T' := [s'']) (vs' := [v]) rfl (fun i s0 v0 hs0 hv0 => by
          cases i with
          | zero =>
            replace hs0 : s'' = s0 := by simpa using hs0
            replace hv0 : v = v0 := by simpa using hv0
            subst hs0 hv0; exact hr
          | succ i => simp at hs0)) hk1).1
        rw [retireAll_kept_T (keep := keep) Ls [s''] st1.B hlabs (fun s hs => by simp at hs; subst hs; exact hkp)] at hR3
        rw [retireAll_B Ls [s''] [] st1.B] at hR3
        exact hR3.slot 0 s'' v rfl rfl
      have data : ∀ {p : PV} {cs : List Value}, Pack E.P t v cs → Rd E.P w (Mut Mo β st1.B) t p cs → RS E.P w (Mut Mo β (retireAll Ls { T := [], B := st1.B }).B) β (retireAll Ls { T := [], B := st1.B }).B (ofPV E.P t p) v :=
        fun h1 h2 => keepS plain_kept (RS.ofPV h1 h2)
      have plain : ∀ {s : SV}, RS E.P w (Mut Mo β st1.B) β st1.B s v → (s.pvT E.P t).map (ofPV E.P t) = some s' → RS E.P w (Mut Mo β (retireAll Ls { T := [], B := st1.B }).B) β (retireAll Ls { T := [], B := st1.B }).B s' v := by
        intro s hr hp
        cases hq : s.pvT E.P t with
        | none => rw [hq] at hp; cases hp
        | some p =>
          rw [hq] at hp; injection hp with hp; subst hp
          obtain ⟨cs, k1, k2⟩ := hr.pvT hq
          exact data k1 k2
      cases s with
      | own u d =>
        simp only [outS] at ht
        obtain ⟨hc, ht⟩ := cond_some ht
        injection ht with ht; subst ht
        exact keepS hc hrs
      | agg u l' =>
        simp only [outS] at ht
        cases hb : boxPV E.P t (.agg u l') with
        | none => rw [hb] at ht; cases ht
        | some p =>
          rw [hb] at ht; injection ht with ht; subst ht
          obtain ⟨cs, k1, k2⟩ := boxPV_sound hrs hb
          exact data k1 k2
      | ptr d q =>
        simp only [outS] at ht
        cases hc : keep.contains d with
        | true =>
          rw [hc, cond_true] at ht
          injection ht with ht; subst ht
          exact keepS hc hrs
        | false =>
          rw [hc, cond_false] at ht
          cases q with
          | cons _ _ => cases ht
          | nil =>
            cases hob : Obs.get st1.B d with
            | none => rw [hob] at ht; cases ht
            | some ob =>
              rw [hob] at ht
              cases ob with
              | row _ _ => cases ht
              | box u s0 =>
                cases hu : E.P.underlying t with
                | none => rw [hu] at ht; cases ht
                | some dd =>
                  rw [hu] at ht
                  cases dd with
                  | pointer e =>
                    simp only at ht
                    obtain ⟨hue, ht9⟩ := cond_some ht
                    clear ht
                    have hue : u = e := by simpa using hue
                    subst hue
                    cases hb : boxPV E.P u s0 with
                    | none => rw [hb] at ht9; cases ht9
                    | some p =>
                      rw [hb] at ht9
                      injection ht9 with ht9; subst ht9
                      obtain ⟨b, c, cs, v0, fr, h1, h2, h3, h4, h5, h6, h7, h8, h9⟩ := hR1.ob d _ hob
                      cases hrs with
                      | @ptr _ _ b' c' off ob' k1 k2 k3 =>
                        rw [hob] at k1; injection k1 with k1; subst k1
                        rw [h1] at k2; injection k2 with k2; injection k2 with e1 e2; subst e1; subst e2
                        have k3' : (0 : Nat) = off := by injection k3
                        subst k3'
                        obtain ⟨cs', q1, q2⟩ := boxPV_sound h7 hb
                        have hcs : cs = cs' := by
                          have a1 := h6.cells h5
                          have a2 := q1.cells (q2.one hL)
                          rw [← a1, ← a2]
                        subst hcs
                        have hnot : ¬ Mut Mo β (retireAll Ls { T := [], B := st1.B }).B b := by
                          rintro (h | ⟨d', o', c', m1, m2⟩)
                          · exact hR1.out d _ b c hob h1 h
                          · obtain ⟨n1, o'', n2⟩ := retireAll_kept Ls m1
                            have := hR1.inj d _ d' o'' b c c' hob n2 h1 m2
                            subst this
                            apply n1
                            rw [← hLs, List.mem_filter]
                            exact ⟨List.mem_map.2 ⟨_, Obs.get_mem n2, rfl⟩, by rw [hc]; rfl⟩
                        have hst : Stable w (Mut Mo β st1.B) w (Mut Mo β (retireAll Ls { T := [], B := st1.B }).B) := by
                          intro b2 hb2 _
                          refine ⟨fun h => hb2 ?_, rfl⟩
                          rcases h with h | h
                          · exact .inl h
                          · exact .inr (h.sub fun e o he => (retireAll_kept Ls he).2)
                        have ha : isAggT E.P t = false := by simp [isAggT, hu]
                        refine .val (pack1 ha) (.ref hu h4 (fun j x hj => ⟨hnot, ?_⟩) (q2.mono hst))
                        have hj' : (sub cs 0 cs.length)[j]? = some x := by rw [sub_all rfl]; exact hj
                        exact cell_block h2 j _ hj'
                  | _ => cases ht
      | _ => exact plain hrs ht
    · exact (retireAll_rel (st := { T := [], B := st1.B }) Ls (hR1.slots (T' := []) (vs' := []) rfl (fun i s v hs => by simp at hs)) hk1).2

end
end Go.X
