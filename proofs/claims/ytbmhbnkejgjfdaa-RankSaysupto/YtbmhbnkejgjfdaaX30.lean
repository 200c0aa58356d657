/- The interpreter X, part 30: a call that may change objects: what comes back. -/
import Derived.Test.YtbmhbnkejgjfdaaX29
namespace Go.X
open Go
section
variable {E : Env} {w0 : World} {F : Foot} {Mo : Nat → Prop} {st : St} {a : Act} {w : World}

theorem retireAll_rel {P : Program} {β : Beta} {vs : List Value} : ∀ (l : List Nat) {st : St}, Rel P Mo β st.T st.B vs w → Kp w0 F β st.B w → Rel P Mo β (retireAll l st).T (retireAll l st).B vs w ∧ Kp w0 F β (retireAll l st).B w
  | [], _, h, k => ⟨h, k⟩
  | d :: l, _, h, k => retireAll_rel l (h.retire d) (k.retire d)
theorem retireAll_kept : ∀ (l : List Nat) {st : St} {n : Nat} {o : Ob}, Obs.get (retireAll l st).B n = some o → n ∉ l ∧ ∃ o', Obs.get st.B n = some o'
  | [], st, n, o, h => ⟨by simp, o, h⟩
  | d :: l, st, n, o, h => by
    obtain ⟨h1, o', h2⟩ := retireAll_kept l h
    obtain ⟨h3, h4⟩ := retire_get st d n o' h2
    exact ⟨by rw [List.mem_cons, not_or]; exact ⟨fun h => h3 h.symm, h1⟩, h4⟩
theorem retireAll_len : ∀ (l : List Nat) (st : St), (retireAll l st).T.length = st.T.length
  | [], _ => rfl
  | d :: l, st => by
    show (retireAll l (st.retire d)).T.length = _
    rw [retireAll_len l]
    unfold St.retire
    cases Obs.get st.B d with
    | none => rfl
    | some o => exact SV.drops_len _ _ _

/-- What the caller has after a call. -/
theorem back_rel {β : Beta} (hR : Rel E.P Mo β st.T st.B a.tmps.toList w) (hk : Kp w0 F β st.B w) {m nw : List (Nat × Nat)} {extra os0 : Obs} {Mo' : Nat → Prop} {β' β'' : Beta} (H : Handed E.P w Mo β st m extra os0 Mo' β') (hlow : ∀ x ∈ m, lowB ≤ x.2)
    (hn1 : (m.map (·.1)).Nodup) (hn2 : (m.map (·.2)).Nodup) {T' : List SV} {B' : Obs} {rvs : List Value} {w' : World} (hR' : Rel E.P Mo' β'' T' B' rvs w') (hk' : Kp w (footOf β' os0) β'' B' w')
    (hbox : boxKept st B' m = true) (hnw : nw = [] ∨ ∃ n dl, nw = [(n, dl)] ∧ n ∉ m.map (·.2) ∧ dl ∉ m.map (·.1) ∧ Obs.get st.B dl = none ∧ dl < lowB) (hlab : ∀ n o, Obs.get B' n = some o → n ∈ (nw ++ swap m).map (·.1)) :
    ∃ βn, Rel E.P Mo βn (SV.rens (keepφ st m) st.T) (backAll (look · (nw ++ swap m)) B' (nw ++ swap m) (Obs.ren (keepφ st m) st.B)) a.tmps.toList w' ∧
      Kp w0 F βn (backAll (look · (nw ++ swap m)) B' (nw ++ swap m) (Obs.ren (keepφ st m) st.B)) w' ∧
      ∀ s v, RS E.P w' (Mut Mo' β'' B') β'' B' s v → RS E.P w' (Mut Mo βn (backAll (look · (nw ++ swap m)) B' (nw ++ swap m) (Obs.ren (keepφ st m) st.B))) βn (backAll (look · (nw ++ swap m)) B' (nw ++ swap m) (Obs.ren (keepφ st m) st.B)) (s.ren (look · (nw ++ swap m))) v := by
  have hi1 : ((nw ++ swap m).map (·.1)).Nodup := by
    rw [List.map_append, swap_fst]
    rcases hnw with rfl | ⟨n, dl, rfl, h1, _⟩
    · simpa using hn2
    · exact List.nodup_append.2 ⟨by simp, hn2, fun x hx y hy hxy => by simp at hx; subst hx; subst hxy; exact h1 hy⟩
  have hi2 : ((nw ++ swap m).map (·.2)).Nodup := by
    rw [List.map_append, swap_snd]
    rcases hnw with rfl | ⟨n, dl, rfl, _, h1, _⟩
    · simpa using hn1
    · exact List.nodup_append.2 ⟨by simp, hn1, fun x hx y hy hxy => by simp at hx; subst hx; subst hxy; exact h1 hy⟩
  have hnewfree : ∀ d, d ∈ (nw ++ swap m).map (·.2) → d ∉ m.map (·.1) → Obs.get st.B d = none ∧ d < lowB := by
    intro d hd hdm
    rw [List.map_append, swap_snd] at hd
    rcases List.mem_append.1 hd with h | h
    · rcases hnw with rfl | ⟨n, dl, rfl, _, _, h1, h2⟩
      · simp at h
      · simp at h; subst h; exact ⟨h1, h2⟩
    · exact absurd h hdm
  generalize hinv : nw ++ swap m = inv at *
  have hminv : ∀ d n, (d, n) ∈ m → (n, d) ∈ inv := fun d n h => by rw [← hinv]; exact List.mem_append_right _ (mem_swap.2 h)
  obtain ⟨gb1, gb2⟩ := backAll_get (φ := (look · inv)) (B' := B') inv (Obs.ren (keepφ st m) st.B) hi2
  generalize hBn : backAll (look · inv) B' inv (Obs.ren (keepφ st m) st.B) = Bn at *
  -- where the objects are
  let βn : Beta := fun d => match look d (swap inv) with | some n => β'' n | none => β d
  have hsw : ((swap inv).map (·.1)).Nodup := by rw [swap_fst]; exact hi2
  have hβin : ∀ n d, (n, d) ∈ inv → βn d = β'' n := by
    intro n d h
    show (match look d (swap inv) with | some n => β'' n | none => β d) = _
    rw [mem_look hsw (mem_swap.2 h)]
  have hβout : ∀ d, d ∉ inv.map (·.2) → βn d = β d := by
    intro d h
    show (match look d (swap inv) with | some n => β'' n | none => β d) = _
    cases hl : look d (swap inv) with
    | none => rfl
    | some n => exact absurd (List.mem_map.2 ⟨_, mem_swap.1 (look_mem hl), rfl⟩) h
  have hmout : ∀ d, d ∉ inv.map (·.2) → d ∉ m.map (·.1) := fun d h hd => by
    obtain ⟨⟨d', n⟩, h1, h2⟩ := List.mem_map.1 hd
    simp only at h2; subst h2
    exact h (List.mem_map.2 ⟨_, hminv _ _ h1, rfl⟩)
  have getn : ∀ d o', Obs.get Bn d = some o' → (d ∉ inv.map (·.2) ∧ ∃ o, Obs.get st.B d = some o ∧ o' = o.ren (keepφ st m) ∧ βn d = β d) ∨ (∃ n o, (n, d) ∈ inv ∧ Obs.get B' n = some o ∧ o' = o.ren (look · inv) ∧ βn d = β'' n) := by
    intro d o' h
    by_cases hd : d ∈ inv.map (·.2)
    · obtain ⟨⟨n, d'⟩, h1, h2⟩ := List.mem_map.1 hd
      simp only at h2; subst h2
      rw [gb2 n d' h1] at h
      cases hg : Obs.get B' n with
      | none => rw [hg] at h; cases h
      | some o => rw [hg] at h; injection h with h; exact .inr ⟨n, o, h1, hg, h.symm, hβin n d' h1⟩
    · rw [gb1 d hd, Obs.get_ren] at h
      cases hg : Obs.get st.B d with
      | none => rw [hg] at h; cases h
      | some o => rw [hg] at h; injection h with h; exact .inl ⟨hd, o, rfl, h.symm, hβout d hd⟩
  -- blocks
  have hothers : ∀ d o b c, d ∉ inv.map (·.2) → Obs.get st.B d = some o → β d = some (b, c) → Mo' b := by
    intro d o b c hd ho hβ
    refine (H.notMo b).2 ⟨.inr ⟨d, o, c, ho, hβ⟩, ?_⟩
    rintro ⟨d', n, c', h1, h2⟩
    obtain ⟨_, o', h3, _⟩ := H.at_ d' n h1
    have := hR.inj d o d' o' b c c' ho h3 hβ h2
    subst this
    exact hmout d hd (List.mem_map.2 ⟨_, h1, rfl⟩)
  have hMoMo : ∀ b, Mo b → Mo' b := by
    intro b hb
    refine (H.notMo b).2 ⟨.inl hb, ?_⟩
    rintro ⟨d', n, c', h1, h2⟩
    obtain ⟨_, o', h3, _⟩ := H.at_ d' n h1
    exact hR.out d' o' b c' h3 h2 hb
  have hF1 : ∀ b, Mut Mo βn Bn b → Mut Mo' β'' B' b := by
    rintro b (h | ⟨d, o', c, h1, h2⟩)
    · exact .inl (hMoMo b h)
    · rcases getn d o' h1 with ⟨k1, o, k2, _, k4⟩ | ⟨n, o, k1, k2, _, k4⟩
      · rw [k4] at h2; exact .inl (hothers d o b c k1 k2 h2)
      · rw [k4] at h2; exact .inr ⟨n, o, c, k2, h2⟩
  have hmine : ∀ b, Mine β' os0 b → Mine β st.B b := by
    intro b hb
    obtain ⟨d, n, c, _, ⟨o, ho⟩, h2⟩ := H.mine b hb
    exact ⟨d, o, c, ho, h2⟩
  have hF2 : Stable w (Mut Mo β st.B) w' (Mut Mo βn Bn) := by
    intro b hb hlt
    refine ⟨fun h => ?_, hk'.old b hlt (fun h => hb (.inr (hmine b h)))⟩
    rcases hF1 b h with h | h
    · exact hb ((H.notMo b).1 h).1
    · rcases hk'.mine b h with h | h
      · exact hb (.inr (hmine b h))
      · omega
  have ren1 : Ren E.P (look · inv) w' (Mut Mo' β'' B') β'' B' w' (Mut Mo βn Bn) βn Bn := by
    refine ⟨fun b hb _ => ⟨fun h => hb (hF1 b h), rfl⟩, fun n d ob hφ ho => ?_⟩
    have hm := look_mem hφ
    refine ⟨ob.ren (look · inv), by rw [gb2 n d hm, ho]; rfl, hβin n d hm, fun q off hq => by rw [offO_ren]; exact hq, fun u l hl => ⟨l, row_ren _ hl, rfl⟩⟩
  have hstay : ∀ d n t s, (d, n) ∈ m → Obs.get st.B d = some (.box t s) → ∃ s', Obs.get B' n = some (.box t s') ∧ β'' n = β d := by
    intro d n t s hm ho
    obtain ⟨o', ho'⟩ := boxKept_spec hbox d n t s hm ho
    obtain ⟨k1, o, k2, k3⟩ := H.at_ d n hm
    rw [ho] at k2; injection k2 with k2; subst k2
    obtain ⟨b, c, _, _, _, hb, _⟩ := hR.ob d _ ho
    have hnl : ¬ n < lowB := by have := hlow _ hm; simp only at this; omega
    have hfoot : (footOf β' os0).box n = some (t, (b, c)) := by
      unfold footOf
      simp only
      rw [if_neg hnl, k3, k1, hb]; rfl
    obtain ⟨⟨s', rfl⟩, h2⟩ := hk'.stay n t _ o' hfoot ho'
    exact ⟨s', ho', by rw [h2, hb]⟩
  have ren2 : Ren E.P (keepφ st m) w (Mut Mo β st.B) β st.B w' (Mut Mo βn Bn) βn Bn := by
    refine ⟨hF2, fun d e ob hφ ho => ?_⟩
    unfold keepφ at hφ
    by_cases hd : d ∈ m.map (·.1)
    · obtain ⟨⟨d', n⟩, h1, h2⟩ := List.mem_map.1 hd
      simp only at h2; subst h2
      rw [mem_look hn1 h1, ho] at hφ
      cases ob with
      | row _ _ => cases hφ
      | box t s =>
        replace hφ : d' = e := by injection hφ
        subst hφ
        obtain ⟨s', k1, k2⟩ := hstay d' n t s h1 ho
        refine ⟨(Ob.box t s').ren (look · inv), by rw [gb2 n d' (hminv _ _ h1), k1]; rfl, (hβin n d' (hminv _ _ h1)).trans k2, fun q off hq => hq, fun u l hl => by cases hl⟩
    · have hdo : d ∉ inv.map (·.2) := fun h => by
        have := (hnewfree d h hd).1
        rw [ho] at this; cases this
      have he : d = e := by
        split at hφ
        · cases hφ
        · injection hφ
      subst he
      exact ⟨ob.ren (keepφ st m), by rw [gb1 d hdo, Obs.get_ren, ho]; rfl, hβout d hdo, fun q off hq => by rw [offO_ren]; exact hq, fun u l hl => ⟨l, row_ren _ hl, rfl⟩⟩
  refine ⟨βn, ⟨?_, ?_, ?_, ?_, ?_, ?_, ?_⟩, ⟨?_, ?_, ?_, ?_, ?_, ?_, ?_⟩, fun s v hs => hs.ren ren1⟩
  · rw [SV.rens_len]; exact hR.len
  · intro i s v hs hv
    obtain ⟨s0, h1, rfl⟩ := ren_map hs
    exact (hR.slot i s0 v h1 hv).ren ren2
  · intro d o' h
    rcases getn d o' h with ⟨k1, o, k2, rfl, k4⟩ | ⟨n, o, k1, k2, rfl, k4⟩
    · refine (hR.ob d o k2).ren ren2 k4 (fun b c hb => ?_)
      have hlt := hR.lt d o b c k2 hb
      refine hk'.old b hlt (fun h => ?_)
      obtain ⟨d', n, c', h1, _, h2⟩ := H.mine b h
      exact ((H.notMo b).1 (hothers d o b c k1 k2 hb)).2 ⟨d', n, c', h1, h2⟩
    · exact (hR'.ob n o k2).ren ren1 k4 (fun _ _ _ => rfl)
  · intro d o d' o' b c c' h h' hb hb'
    rcases getn d o h with ⟨k1, x, k2, _, k4⟩ | ⟨n, x, k1, k2, _, k4⟩ <;> rcases getn d' o' h' with ⟨k1', x', k2', _, k4'⟩ | ⟨n', x', k1', k2', _, k4'⟩ <;> rw [k4] at hb <;> rw [k4'] at hb'
    · exact hR.inj d x d' x' b c c' k2 k2' hb hb'
    · exact absurd (hothers d x b c k1 k2 hb) (hR'.out n' x' b c' k2' hb')
    · exact absurd (hothers d' x' b c' k1' k2' hb') (hR'.out n x b c k2 hb)
    · have := hR'.inj n x n' x' b c c' k2 k2' hb hb'
      subst this
      have e1 := mem_look hi1 k1
      have e2 := mem_look hi1 k1'
      rw [e1] at e2; injection e2
  · intro d o b c h hb
    rcases getn d o h with ⟨k1, x, k2, _, k4⟩ | ⟨n, x, k1, k2, _, k4⟩ <;> rw [k4] at hb
    · exact Nat.lt_of_lt_of_le (hR.lt d x b c k2 hb) hk'.size
    · exact hR'.lt n x b c k2 hb
  · intro d o b c h hb
    rcases getn d o h with ⟨k1, x, k2, _, k4⟩ | ⟨n, x, k1, k2, _, k4⟩ <;> rw [k4] at hb
    · exact hR.out d x b c k2 hb
    · exact fun hmo => hR'.out n x b c k2 hb (hMoMo b hmo)
  · intro b hb
    exact Nat.lt_of_lt_of_le (hR.mo b hb) hk'.size
  · exact Nat.le_trans hk.size hk'.size
  · intro b hb hf
    rw [hk'.old b (Nat.lt_of_lt_of_le hb hk.size) (fun h => ?_)]
    · exact hk.old b hb hf
    · rcases hk.mine b (hmine b h) with h | h
      · exact hf h
      · omega
  · rintro b ⟨d, o, c, h1, h2⟩
    rcases getn d o h1 with ⟨k1, x, k2, _, k4⟩ | ⟨n, x, k1, k2, _, k4⟩ <;> rw [k4] at h2
    · exact hk.mine b ⟨d, x, c, k2, h2⟩
    · rcases hk'.mine b ⟨n, x, c, k2, h2⟩ with h | h
      · exact hk.mine b (hmine b h)
      · exact .inr (Nat.le_trans hk.size h)
  · exact hk'.os.trans hk.os
  · exact hk'.output.trans hk.output
  · intro d t b o hd ho
    rcases getn d o ho with ⟨k1, x, k2, rfl, k4⟩ | ⟨n, x, k1, k2, rfl, k4⟩
    · obtain ⟨⟨s, rfl⟩, h2⟩ := hk.stay d t b x hd k2
      exact ⟨⟨_, rfl⟩, k4.trans h2⟩
    · by_cases hdm : d ∈ m.map (·.1)
      · obtain ⟨⟨d', n'⟩, h1, h2⟩ := List.mem_map.1 hdm
        simp only at h2; subst h2
        have hnn : n = n' := nodup_pair hi2 k1 (hminv _ _ h1)
        subst hnn
        obtain ⟨_, o2, k5, _⟩ := H.at_ d' n h1
        obtain ⟨⟨s, rfl⟩, h3⟩ := hk.stay d' t b o2 hd k5
        obtain ⟨s', k6, k7⟩ := hstay d' n t s h1 k5
        rw [k2] at k6; injection k6 with k6; subst k6
        exact ⟨⟨_, rfl⟩, k4.trans (k7.trans h3)⟩
      · have := (hnewfree d (List.mem_map.2 ⟨_, k1, rfl⟩) hdm).2
        rw [hk.low d this] at hd; cases hd
  · exact hk.low

/-- A call that may change objects. -/
theorem e_call {K : St → Option Out} {r : Out} (hC : OracleOk E.P E.C) (hdef : a.defers = []) {β : Beta} (hR : Rel E.P Mo β st.T st.B a.tmps.toList w) (hk : Kp w0 F β st.B w) {o : Oper} (hlo : o.dst.getD 0 < lowB) {f : FuncId} {args : List SV} {vs : List Value}
    (hlen : vs.length = args.length) (hargs : ∀ (i : Nat) (s : SV) (v : Value), args[i]? = some s → vs[i]? = some v → RS E.P w (Mut Mo β st.B) β st.B s v)
    (hrun : (execOp a.eval o).run E.P w = (callFunc f vs.toArray).run E.P w) (h : callE E o st f args K = some r) : EOk E w0 F Mo o K r a w := by
  unfold callE at h
  cases hf : E.P.funcs[f]? with
  | none => rw [hf] at h; cases h
  | some fn =>
    rw [hf] at h
    simp only at h
    have hlow := handMap_low (E := E) (st := st) (f := f) args 0
    generalize handMap E st f 0 args = m at h hlow
    cases h2 : handAll E st m f 0 fn.params.toList args with
    | none => rw [h2] at h; cases h
    | some x =>
      obtain ⟨l, extra⟩ := x
      cases h1 : handObs st m m with
      | none => rw [h2, h1] at h; cases h
      | some os =>
        rw [h2, h1] at h
        simp only at h
        obtain ⟨hnd, h⟩ := cond_some h
        simp only [Bool.and_eq_true] at hnd
        have hn1 := nodupB_iff hnd.1
        have hn2 := nodupB_iff hnd.2
        rw [hC.par] at h
        cases hc : E.C f l (os ++ extra) some with
        | none => rw [hc] at h; cases h
        | some r' =>
          rw [hc] at h
          simp only [Option.bind_some] at h
          obtain ⟨hb, h⟩ := cond_some h
          rw [Bool.and_eq_true] at hb
          obtain ⟨hbox, hnw⟩ := hb
          simp only [Bool.and_eq_true, Bool.or_eq_true, Bool.not_eq_true', List.isEmpty_iff, Option.isNone_iff_eq_none, List.contains_eq_mem, decide_eq_false_iff_not] at hnw
          obtain ⟨Mo', β', H, hS⟩ := handed_start hR h1 h2 hn1 hn2 hlen hargs
          refine ⟨_, h, fun next Q hn => ?_⟩
          unfold Oper.wp
          rw [hrun]
          refine hC.ok f l (os ++ extra) r' hc Mo' β' vs w hS o a next Q fun rvs w' β'' hR' hk' => hn _ _ ?_
          obtain ⟨hR2, hk2⟩ := retireAll_rel (st := { T := r'.1, B := r'.2 }) ((r'.2.map (·.1)).filter fun n => !((newRes m (o.dst.getD 0) r'.1 ++ m.map fun x => (x.2, x.1)).map (·.1)).contains n) hR' hk'
          have hnew : newRes m (o.dst.getD 0) r'.1 = [] ∨ ∃ n dl, newRes m (o.dst.getD 0) r'.1 = [(n, dl)] ∧ n ∉ m.map (·.2) ∧ dl ∉ m.map (·.1) ∧ Obs.get st.B dl = none ∧ dl < lowB := by
            rcases hnw with h | ⟨k1, k2⟩
            · exact .inl h
            · by_cases hone : ∃ u n, r'.1 = [.own u n]
              · obtain ⟨u, n, hone⟩ := hone
                rw [hone]
                simp only [newRes]
                by_cases hc : n ∈ m.map (·.2)
                · left
                  rw [show (m.map (·.2)).contains n = true by simpa using hc]; rfl
                · right
                  rw [show (m.map (·.2)).contains n = false by simpa using hc]
                  exact ⟨n, _, rfl, hc, k1, k2, hlo⟩
              · left
                unfold newRes
                split
                · rename_i u n hh; exact absurd ⟨u, n, hh⟩ hone
                · rfl
          have hsm : (m.map fun x => (x.2, x.1)) = swap m := rfl
          rw [hsm] at hR2 hk2 hbox h ⊢
          generalize newRes m (o.dst.getD 0) r'.1 = nw at *
          have hlab : ∀ n o1, Obs.get (retireAll ((r'.2.map (·.1)).filter fun n => !((nw ++ swap m).map (·.1)).contains n) { T := r'.1, B := r'.2 }).B n = some o1 → n ∈ (nw ++ swap m).map (·.1) := by
            intro n o1 hg
            obtain ⟨g1, o2, g2⟩ := retireAll_kept _ hg
            by_cases hh : n ∈ (nw ++ swap m).map (·.1)
            · exact hh
            · exfalso
              apply g1
              rw [List.mem_filter]
              exact ⟨List.mem_map.2 ⟨_, Obs.get_mem g2, rfl⟩, by simpa using hh⟩
          have hTl := retireAll_len ((r'.2.map (·.1)).filter fun n => !((nw ++ swap m).map (·.1)).contains n) { T := r'.1, B := r'.2 }
          generalize retireAll ((r'.2.map (·.1)).filter fun n => !((nw ++ swap m).map (·.1)).contains n) { T := r'.1, B := r'.2 } = e at *
          obtain ⟨βn, b1, b2, b3⟩ := back_rel hR hk H hlow hn1 (List.nodup_append.1 hn2).1 hR2 hk2 hbox hnew hlab
          refine Inv.put (st := { T := SV.rens (keepφ st m) st.T, B := _ }) hdef ⟨βn, b1, b2, ?_⟩ o.dst
          refine retSV_rs (by rw [SV.rens_len]; exact hR2.len) (fun i s v hs hv => ?_)
          obtain ⟨s0, k1, rfl⟩ := ren_map hs
          exact b3 s0 v (hR2.slot i s0 v k1 hv)

end
end Go.X
