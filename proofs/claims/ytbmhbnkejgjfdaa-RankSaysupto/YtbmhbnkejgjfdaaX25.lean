/- The interpreter X, part 25: operations that change objects: stores. -/
import Derived.Test.YtbmhbnkejgjfdaaX24
import Derived.Deep.Upon
namespace Go.X
open Go

/-- What is to be shown of an operation that changes objects. -/
def EOk (E : Env) (w0 : World) (F : Foot) (Mo : Nat → Prop) (o : Oper) (K : St → Option Out) (r : Out) (a : Act) (w : World) : Prop :=
  ∃ st', K st' = some r ∧ ∀ next Q, (∀ a' w', Inv E.P w0 F Mo st' a' w' → next a' w') → o.wp E.P a w next Q

section
variable {E : Env} {w0 : World} {F : Foot} {Mo : Nat → Prop} {st : St} {K : St → Option Out} {r : Out} {a : Act} {w : World}

theorem Inv.retire (h : Inv E.P w0 F Mo st a w) (d : Nat) : Inv E.P w0 F Mo (st.retire d) a w := by
  obtain ⟨h1, β, h2, h3⟩ := h
  exact ⟨h1, β, h2.retire d, h3.retire d⟩
theorem Inv.retireAll : ∀ (l : List Nat) {st : St}, Inv E.P w0 F Mo st a w → Inv E.P w0 F Mo (X.retireAll l st) a w
  | [], _, h => h
  | d :: l, _, h => Inv.retireAll l (h.retire d)
theorem Inv.freeze (o : Oper) (h : Inv E.P w0 F Mo st a w) : Inv E.P w0 F Mo (freezeOp E o st) a w := by
  unfold freezeOp
  split
  · rename_i f args ts _
    cases (((E.P.funcs[f]?).any fun fn => fn.resultTypes.toList.all (isScalar E.P)) && !isOwnArg E f 0 (args.toList.map (st.get E.P 0)))
    · exact h.retireAll _
    · exact h
  · exact h.retireAll _
  · exact h.retireAll _
  · exact h.retireAll _
  · split
    · split
      · split
        · exact h.retireAll _
        · exact h
      · exact h
    · exact h
  · exact h
theorem Inv.retireOp (o : Oper) (h : Inv E.P w0 F Mo st a w) : Inv E.P w0 F Mo (X.retireOp E o st) a w := by
  unfold X.retireOp
  simp only
  split
  · exact h.retire _
  · exact h.retire _
  · exact h.retire _
  · exact h.retire _
  · exact (h.retire _).retireAll _
  · rename_i f args ts _
    cases isOwnArg E f 0 (args.toList.map (st.get E.P 0))
    · exact h
    · cases ((handMap E st f 0 (args.toList.map (st.get E.P 0))).map (·.1)).contains (o.dst.getD 0)
      · exact h.retire _
      · exact h
  · exact h

theorem retire_get_none {st : St} {d e : Nat} (h : Obs.get st.B e = none) : Obs.get (st.retire d).B e = none := by
  cases hg : Obs.get (st.retire d).B e with
  | none => rfl
  | some o =>
    obtain ⟨_, o', ho⟩ := retire_get st d e o hg
    rw [h] at ho; cases ho
theorem retireAll_get_none : ∀ (l : List Nat) {st : St} {e : Nat}, Obs.get st.B e = none ∨ e ∈ l → Obs.get (X.retireAll l st).B e = none
  | [], st, e, h => by
    rcases h with h | h
    · exact h
    · simp at h
  | d :: l, st, e, h => by
    refine retireAll_get_none l ?_
    rcases h with h | h
    · exact .inl (retire_get_none h)
    · rcases List.mem_cons.1 h with h | h
      · subst h; exact .inl (retire_none st e)
      · exact .inr h

theorem SV.isT_data {P : Program} {t : TypeId} {v : SV} {x : PV} (h : v.pvT P t = some x) : v.isT P t := .inl (by rw [h]; rfl)

theorem putAt_kin {P : Program} {t : TypeId} {v : SV} {ob ob' : Ob} {q : List Stp} (h : ob.putAt P t v q = some ob') (u : TypeId) (s : SV) (hb : ob = .box u s) : ∃ s', ob' = .box u s' := by
  subst hb
  unfold Ob.putAt at h
  simp only at h
  cases hpv : v.pvT P t with
  | some x => rw [hpv] at h; injection h with h; exact ⟨_, h.symm⟩
  | none =>
    rw [hpv] at h
    simp only at h
    obtain ⟨_, h⟩ := cond_some h
    injection h with h; exact ⟨_, h.symm⟩

/-- A store. -/
theorem e_store (hL : laidOutB E.P = true) (hI : Inv E.P w0 F Mo st a w) {o : Oper} {t : TypeId} {x y : Operand} (ho : o.op = .store t x y) (h : opE E o st K = some r) : EOk E w0 F Mo o K r a w := by
  obtain ⟨hdef, β, hR, hk⟩ := hI
  have hx := get_sound hR 0 x
  have hy := get_sound hR t y
  unfold opE at h
  rw [ho] at h
  simp only at h
  generalize st.get E.P 0 x = sx at h hx
  generalize st.get E.P t y = sy at h hy
  generalize hvx : a.eval x = vx at hx
  generalize hvy : a.eval y = vy at hy
  cases hx with
  | @ptr d q b c off ob hob hβ hoff =>
    simp only at h
    rw [hob] at h
    simp only at h
    obtain ⟨htt, h⟩ := cond_some h
    have htt : ob.typAt E.P q = some t := by simpa using htt
    cases hp : ob.putAt E.P t sy q with
    | none => rw [hp] at h; cases h
    | some ob' =>
      rw [hp] at h
      simp only at h
      have hRO := hR.ob d ob hob
      -- the cells of what is stored
      have fin : ∀ {cs xs : List Value} {e : TypeId} {fr : Nat × Nat}, E.P.underlying t ≠ none → w.heap[b]? = some (.cells cs.toArray e fr) → (∀ o, o < cs.length → ¬ (fr.1 ≤ o ∧ o < fr.2)) → Pack E.P t vy xs → (∀ c ∈ xs, c.oneCell' = true) → xs.length = E.P.cellsOf t → off + xs.length ≤ cs.length →
          (∀ q off, offO E.P ob q = some off → offO E.P ob' q = some off) → (∀ e l, ob = .row e l → ∃ l', ob' = .row e l' ∧ l'.length = l.length) →
          (∀ w', w'.heap[b]? = some (.cells (splice cs off xs).toArray e fr) → Same E.P w (Mut Mo β st.B) β st.B w' (Mut Mo β (Obs.ins d ob' (Obs.del d st.B))) β (Obs.ins d ob' (Obs.del d st.B)) → RO E.P w' (Mut Mo β (Obs.ins d ob' (Obs.del d st.B))) β (Obs.ins d ob' (Obs.del d st.B)) d ob') → EOk E w0 F Mo o K r a w := by
        intro cs xs e fr hu hb hfr hpk h1 hl hin hq hrow hro
        obtain ⟨dd, hu⟩ := Option.ne_none_iff_exists'.1 hu
        have hrun : (execOp a.eval o).run E.P w = .ok .skip (w.setCells b off xs) := by
          unfold execOp; rw [ho]
          simp only [Instr.storeAt, hvx, hvy, Instr.sureAddr]
          rw [Sem.run_bind, Sem.run_bind, Sem.run_pure, Result.andThen_ok, run_storeVar hu hpk h1 hl hb hin hfr]; rfl
        have hblk := setCells_block b xs off w cs e fr hb (by omega)
        have hsame := same_store (w' := w.setCells b off xs) hR hob hβ (fun x hx => setCells_other b x hx xs off w) hq hrow
        have hR' := hR.store (w' := w.setCells b off xs) hob hβ (setCells_size b xs off w) (fun x hx => setCells_other b x hx xs off w) hq hrow (hro _ hblk hsame)
        have hk' : Kp w0 F β (Obs.ins d ob' (Obs.del d st.B)) (w.setCells b off xs) := by
          refine hk.store hob hβ (by rw [setCells_size]; exact Nat.le_refl _) (fun x hx _ => setCells_other b x hx xs off w) (fun y hy => .inl ?_) (fun n o' hn => ⟨rfl, ?_⟩) (setCells_os b xs off w).1 (setCells_os b xs off w).2
          · obtain ⟨e', o', c', h1, h2⟩ := hy
            rw [Obs.get_ins] at h1
            by_cases hde : d = e'
            · subst hde; exact ⟨d, ob, c', hob, h2⟩
            · rw [if_neg hde, Obs.get_del, if_neg hde] at h1
              exact ⟨e', o', c', h1, h2⟩
          · rw [Obs.get_ins] at hn
            by_cases hde : d = n
            · subst hde
              rw [if_pos rfl] at hn; injection hn with hn; subst hn
              exact ⟨ob, hob, putAt_kin hp⟩
            · rw [if_neg hde, Obs.get_del, if_neg hde] at hn
              exact ⟨o', hn, fun t s h => ⟨s, h⟩⟩
        refine ⟨_, h, fun next Q hn => ?_⟩
        unfold Oper.wp
        rw [hrun, Oper.upon_skip]
        exact hn _ _ (Inv.put hdef ⟨β, hR', hk', .undef⟩ o.dst)
      have hself : Obs.get (Obs.ins d ob' (Obs.del d st.B)) d = some ob' := by rw [Obs.get_ins, if_pos rfl]
      cases ob with
      | box u s =>
        obtain ⟨b', c', cs, v, fr, h1, h2, h3, h4, h5, h6, h7, h8, h9⟩ := hRO
        rw [h1] at hβ; injection hβ with hβ; injection hβ with hb hc; subst hb; subst hc
        have hin := off_in hL q h9 htt hoff
        unfold Ob.putAt at hp
        simp only at hp
        cases hpv : sy.pvT E.P t with
        | some px =>
          rw [hpv] at hp
          simp only [Option.some.injEq] at hp
          subst hp
          obtain ⟨xs, x1, x2⟩ := hy.pvT hpv
          have hxl := x2.size hL hin.1
          have hx1 := x2.one hL
          obtain ⟨dd, hdd⟩ := x2.desc
          refine fin (by rw [hdd]; simp) h2 h3 x1 hx1 hxl (by omega) (fun q off h => h) (fun e l h => by cases h) (fun w' hw' hsame => ?_)
          have x2' := x2.mono hsame.st
          obtain ⟨v2, m1, m2, m3⟩ := RS.putL hL (lf := ofPV E.P t px) (px := some px) (RS.ofPV x1 x2') (isT_ofPV x2') x1 hxl hx1 (fun x hx => by injection hx with hx; subst hx; exact x2') q h9 (h7.mono hsame) h6 h4 h5 h8 htt hoff
          exact ⟨_, _, _, v2, fr, h1, hw', fun o ho => h3 o (by rwa [splice_len (by omega)] at ho), by rw [splice_len (by omega)]; exact h4, fun c hc => by
            rcases mem_splice hc with hc | hc
            · exact h5 c hc
            · exact hx1 c hc, m2, m1, m3, h9⟩
        | none =>
          rw [hpv] at hp
          simp only at hp
          obtain ⟨hh0, hp⟩ := cond_some hp
          simp only [Option.some.injEq] at hp
          subst hp
          rcases (Bool.or_eq_true _ _).mp hh0 with hh | hw0
          · have hag : isAggT E.P t = false ∧ kindOk (E.P.underlying t) = true ∧ E.P.underlying t ≠ none := by
              cases sy with
              | own u' d' =>
                have hut : u' = t := by simpa [SV.isHandle] using hh
                subst hut
                cases hy with
                | own hu => simp [isAggT, hu, kindOk]
                | ownNil hu => simp [isAggT, hu, kindOk]
              | ptr e q' =>
                simp only [SV.isHandle] at hh
                cases hu : E.P.underlying t with
                | none => rw [hu] at hh; cases hh
                | some dd =>
                  rw [hu] at hh
                  cases dd with
                  | pointer _ => simp [isAggT, hu, kindOk]
                  | _ => cases hh
              | fn f l =>
                simp only [SV.isHandle] at hh
                cases hu : E.P.underlying t with
                | none => rw [hu] at hh; cases hh
                | some dd =>
                  rw [hu] at hh
                  cases dd with
                  | func _ _ _ => simp [isAggT, hu, kindOk]
                  | _ => cases hh
              | _ => cases hh
            have hxl : [vy].length = E.P.cellsOf t := by rw [cells1 hL hin.1 hag.2.1 hag.1]; rfl
            have hx1 : ∀ c ∈ [vy], c.oneCell' = true := by
              intro c hc
              simp only [List.mem_singleton] at hc
              subst hc
              cases sy with
              | own u' d' => cases hy <;> rfl
              | ptr e q' => cases hy; rfl
              | fn f l => cases hy; rfl
              | _ => cases hh
            refine fin hag.2.2 h2 h3 (pack1 hag.1) hx1 hxl (by omega) (fun q off h => h) (fun e l h => by cases h) (fun w' hw' hsame => ?_)
            obtain ⟨v2, m1, m2, m3⟩ := RS.putL hL (lf := sy) (px := none) (hy.mono hsame) (.inr (.inl hh)) (pack1 hag.1) hxl hx1 (fun x hx => by cases hx) q h9 (h7.mono hsame) h6 h4 h5 h8 htt hoff
            exact ⟨_, _, _, v2, fr, h1, hw', fun o ho => h3 o (by rwa [splice_len (by omega)] at ho), by rw [splice_len (by omega)]; exact h4, fun c hc => by
              rcases mem_splice hc with hc | hc
              · exact h5 c hc
              · exact hx1 c hc, m2, m1, m3, h9⟩
          · cases sy with
            | agg u' l' =>
              have hut : u' = t := by simpa [SV.isWhole] using hw0
              subst hut
              cases hy with
              | @agg _ fs _ xs vs hu ht' hl hc h1' hf hs =>
                have hy' : RS E.P w (Mut Mo β st.B) β st.B (.agg u' l') (.agg xs.toArray) := .agg hu ht' hl hc h1' hf hs
                have hpk : Pack E.P u' (.agg xs.toArray) xs := by unfold Pack; rw [if_pos (isAggT_struct hu)]
                refine fin (by rw [hu]; simp) h2 h3 hpk h1' hc (by omega) (fun q off h => h) (fun e l h => by cases h) (fun w' hw' hsame => ?_)
                obtain ⟨v2, m1, m2, m3⟩ := RS.putL hL (lf := .agg u' l') (px := none) (hy'.mono hsame) (.inr (.inr (.inr ⟨_, rfl⟩))) hpk hc h1' (fun x hx => by cases hx) q h9 (h7.mono hsame) h6 h4 h5 h8 htt hoff
                exact ⟨_, _, _, v2, fr, h1, hw', fun o ho => h3 o (by rwa [splice_len (by omega)] at ho), by rw [splice_len (by omega)]; exact h4, fun c hc2 => by
                  rcases mem_splice hc2 with hc2 | hc2
                  · exact h5 c hc2
                  · exact h1' c hc2, m2, m1, m3, h9⟩
            | _ => cases hw0
      | row e l =>
        obtain ⟨hz, hRO⟩ := hRO
        cases q with
        | nil => cases hoff
        | cons s q =>
          cases s with
          | el i =>
            simp only [offO] at hoff
            by_cases hi : 0 ≤ i ∧ i < l.length
            · rw [if_pos hi] at hoff
              cases hoq : offT E.P e q with
              | none => rw [hoq] at hoff; cases hoff
              | some o' =>
                rw [hoq] at hoff
                replace hoff : i.toNat * E.P.cellsOf e + o' = off := by injection hoff
                subst hoff
                have htq : typT E.P e q = some t := htt
                have hin := off_in hL q hz htq hoq
                have hil : i.toNat < l.length := by omega
                unfold Ob.putAt at hp
                simp only at hp
                cases hpv : sy.pvT E.P t with
                | none => rw [hpv] at hp; cases hp
                | some px =>
                  rw [hpv] at hp
                  simp only [Option.map_some, Option.some.injEq] at hp
                  subst hp
                  obtain ⟨xs, x1, x2⟩ := hy.pvT hpv
                  have hxl := x2.size hL hin.1
                  have hx1 := x2.one hL
                  obtain ⟨dd, hdd⟩ := x2.desc
                  rcases hRO with ⟨h1, _⟩ | ⟨b', c', cs, fr, h1, h2, h3, h4, h5, h6, h7, h8⟩
                  · rw [h1] at hβ; cases hβ
                  · rw [h1] at hβ; injection hβ with hβ; injection hβ with hb hc; subst hb; subst hc
                    have hg := List.getElem?_eq_getElem hil
                    have hw : i.toNat * E.P.cellsOf e + E.P.cellsOf e ≤ cs.length := by
                      rw [h6]; exact mul_within (by omega)
                    refine fin (by rw [hdd]; simp) h2 h3 x1 hx1 hxl (by omega) (fun q2 off2 hq2 => ?_) (fun e' l' he => ?_) (fun w' hw' hsame => ?_)
                    · cases q2 with
                      | nil => cases hq2
                      | cons s2 q2 =>
                        cases s2 with
                        | el i2 => simpa only [offO, List.length_set] using hq2
                        | _ => cases hq2
                    · injection he with he1 he2; subst he1; subst he2
                      exact ⟨_, rfl, by simp⟩
                    · have x2' := x2.mono hsame.st
                      have hold := (h8 i.toNat _ hg).mono hsame.st
                      change Rd E.P w' _ e l[i.toNat] (sub cs (i.toNat * E.P.cellsOf e) (E.P.cellsOf e)) at hold
                      have hput := hold.put hL q hz htq hoq x2'
                      refine ⟨hz, .inr ⟨_, _, _, fr, h1, hw', fun o ho => h3 o (by rwa [splice_len (by omega)] at ho), by simpa using h4, h5, by rw [splice_len (by omega)]; exact h6, fun c hc => ?_, fun j p hj => ?_⟩⟩
                      · rcases mem_splice hc with hc | hc
                        · exact h7 c hc
                        · exact hx1 c hc
                      · rw [List.getElem?_set] at hj
                        change Rd E.P w' _ e p (sub (splice cs (i.toNat * E.P.cellsOf e + o') xs) (j * E.P.cellsOf e) (E.P.cellsOf e))
                        by_cases hij : i.toNat = j
                        · subst hij
                          rw [if_pos rfl, if_pos hil, getD_of hg] at hj
                          injection hj with hj; subst hj
                          rw [sub_splice_in (by omega) (by omega)]
                          exact hput
                        · rw [if_neg hij] at hj
                          rw [sub_splice_out (by omega) (by have := mul_apart (n := E.P.cellsOf e) hij; omega)]
                          exact (h8 j p hj).mono hsame.st
            · rw [if_neg hi] at hoff; cases hoff
          | _ => cases hoff
  | _ => cases h

end
end Go.X
