/- The interpreter X, part 15: indexes, parts, lengths, conversions, binary operators. -/
import Derived.Test.YtbmhbnkejgjfdaaX14
set_option linter.unusedVariables false
set_option linter.unusedSimpArgs false
namespace Go.X
open Go
section
variable {E : Env} {w0 : World} {F : Foot} {Mo : Nat → Prop} {st : St} {K : SV → Obs → Option Out} {r : Out} {a : Act} {w : World} {β : Beta}

/-- The elements of a slice are there, now. -/
theorem elems_sound {P : Program} (hR : Rel P Mo β st.T st.B a.tmps.toList w) {e : TypeId} {s : SV} {v : Value} {l : List PV} (hs : RS P w (Mut Mo β st.B) β st.B s v) (h : st.elems P e s = some l) :
    (v = .slice none 0 0 ∧ l = []) ∨ ∃ (ad : Addr) (c : Nat) (cs : Nat → List Value), v = .slice (some ad) l.length c ∧ l.length ≤ c ∧ c ≤ maxLen ∧
      (∀ i, i < l.length → (cs i).length = P.cellsOf e ∧ ∀ j x, (cs i)[j]? = some x → w.cell? ((ad.add (i * P.cellsOf e)).add j) = some x) ∧
      (∀ i p, l[i]? = some p → Rd P w (Mut Mo β st.B) e p (cs i)) := by
  cases hs with
  | nils =>
    simp only [St.elems] at h; injection h with h
    exact .inl ⟨rfl, h.symm⟩
  | @val t p v cs hp hr =>
    simp only [St.elems] at h
    cases hr with
    | nilSlice hu =>
      rw [hu] at h
      obtain ⟨_, h⟩ := cond_some h
      have hpk : v = .slice none 0 0 := by
        unfold Pack at hp; rw [if_neg (by simp [isAggT, hu])] at hp; injection hp with hp; exact hp.symm
      injection h with h
      exact .inl ⟨hpk, h.symm⟩
    | @slice _ e' ad n c l' cs hu h1 h2 h3 h4 h5 =>
      rw [hu] at h
      obtain ⟨he, h9⟩ := cond_some h
      clear h
      have he : e' = e := by simpa using he
      subst he
      have hpk : v = .slice (some ad) n c := by
        unfold Pack at hp; rw [if_neg (by simp [isAggT, hu])] at hp; injection hp with hp; exact hp.symm
      have h : l' = l := by injection h9
      subst h; subst h1
      exact .inr ⟨ad, c, cs, hpk, h2, h3, fun i hi => ⟨(h4 i hi).1, fun j x hj => ((h4 i hi).2 j x hj).2⟩, h5⟩
    | int hu => rw [hu] at h; cases h
    | bool hu => rw [hu] at h; cases h
    | str hu => rw [hu] at h; cases h
    | flt hu => rw [hu] at h; cases h
    | nilPtr hu => rw [hu] at h; cases h
    | ref hu => rw [hu] at h; cases h
    | nilIface hu => rw [hu] at h; cases h
    | struct hu => rw [hu] at h; cases h
    | arr hu => rw [hu] at h; cases h
  | @own t d e' l' b c hu hg hβ hl =>
    simp only [St.elems] at h
    rw [hg] at h
    simp only at h
    obtain ⟨he, h9⟩ := cond_some h
    clear h
    have he : e' = e := by simpa using he
    subst he
    have h : l' = l := by injection h9
    subst h
    rcases (hR.ob d _ hg).2 with ⟨h1, _⟩ | ⟨b', c', cs, fr, h1, h2, h3, h4, h5, h6, h7, h8⟩
    · rw [h1] at hβ; cases hβ
    · rw [h1] at hβ; injection hβ with hβ; injection hβ with hb hc; subst hb; subst hc
      refine .inr ⟨⟨b', 0, none⟩, c', fun i => sub cs (i * P.cellsOf e') (P.cellsOf e'), rfl, h4, h5, fun i hi => ⟨sub_len ?_, fun j x hj => ?_⟩, h8⟩
      · rw [h6, ← Nat.succ_mul]; exact Nat.mul_le_mul_right _ (by omega)
      · rw [add_off, Nat.zero_add]
        exact cell_block h2 j _ hj
  | ownNil hu hg hβ =>
    simp only [St.elems] at h
    rw [hg] at h
    simp only at h
    obtain ⟨_, h⟩ := cond_some h
    injection h with h
    exact .inl ⟨rfl, h.symm⟩
  | _ => simp [St.elems] at h

theorem toNat_index {n : Int} {m : Nat} (h : 0 ≤ n ∧ n < m) : n.toNat < m := by omega

theorem q_indexAddr (hL : laidOutB E.P = true) (hR : Rel E.P Mo β st.T st.B a.tmps.toList w) (hk : Kp w0 F β st.B w) {o : Oper} {t : TypeId} {x i : Operand} (ho : o.op = .indexAddr t x i) (h : opQ E o st K = some r) : QOk E w0 F Mo β o st K r a w := by
  have hx := get_sound hR o.type x
  have hi := get_sound hR o.type i
  unfold opQ at h
  rw [ho] at h
  simp only at h
  generalize st.get E.P o.type x = sx at h hx
  generalize st.get E.P o.type i = si at h hi
  generalize hv : a.eval x = v at hx
  generalize hvi : a.eval i = vi at hi
  cases hu : E.P.underlying t with
  | none => rw [hu] at h; cases h
  | some d =>
    rw [hu] at h
    cases d with
    | array m u =>
      cases hi with
      | @int k n hw =>
        simp only at h
        obtain ⟨hc, h⟩ := cond_some h
        simp only [Bool.and_eq_true, decide_eq_true_eq] at hc
        obtain ⟨⟨hdesc, c1⟩, c2⟩ := hc
        obtain ⟨du, hdu⟩ := Option.isSome_iff_exists.1 hdesc
        have hplace : ∀ ad, (Instr.indexAt t (.pointer (some ad)) (.int k n)).run E.P w = .ok (.pointer (some (ad.add (n.toNat * E.P.cellsOf u)))) w := by
          intro ad
          unfold Instr.indexAt
          simp only [asIntOf, pure_bind]
          rw [Sem.run_bind, run_underlying hu, Result.andThen_ok]
          simp only [Instr.sureAddr, pure_bind]
          rw [Sem.run_bind, run_underlying hu, Result.andThen_ok]
          simp only [if_pos (show 0 ≤ n ∧ n < (m : Int) from ⟨c1, c2⟩)]
          rw [Sem.run_bind, run_sizeT hdu, Result.andThen_ok]; rfl
        cases hx with
        | @ptr d q b c off ob hd hβ hq =>
          simp only at h
          rw [hd] at h
          simp only at h
          obtain ⟨h1, h2⟩ := cond_some h
          have h1 : ob.typAt E.P q = some t := by simpa using h1
          refine QOk.val hR hk h2 (v := .pointer (some ⟨b, off + n.toNat * E.P.cellsOf u, none⟩)) ?_ (.ptr hd hβ (offO_idx hu ⟨c1, c2⟩ h1 hq))
          unfold execOp; rw [ho]
          simp only [hv, hvi]
          rw [Sem.run_bind, hplace, Result.andThen_ok, add_off]; rfl
        | @fro u' p ad cs hcl hat hrd =>
          simp only at h
          obtain ⟨h1, h2⟩ := cond_some h
          have h1 : u' = t := by simpa using h1
          subst h1
          refine QOk.val hR hk h2 (v := .pointer (some (ad.add (n.toNat * E.P.cellsOf u)))) ?_ ?_
          · unfold execOp; rw [ho]
            simp only [hv, hvi]
            rw [Sem.run_bind, hplace, Result.andThen_ok]; rfl
          · cases hrd with
            | @arr _ m' e l _ hu' ht hl hc hel =>
              rw [hu] at hu'
              injection hu' with hu'; injection hu' with g1 g2
              subst g1; subst g2
              have hlt : n.toNat < l.length := by omega
              have hg := List.getElem?_eq_getElem hlt
              have hp : PV.fld (.agg l) n.toNat = l[n.toNat] := by simp only [PV.fld, PV.flds]; exact getD_of hg
              rw [hp]
              obtain ⟨_, hce⟩ := layA hL ht hu
              refine .fro (sub_len ?_) (hat.sub (n.toNat * E.P.cellsOf u) (E.P.cellsOf u)) (hel n.toNat _ hg)
              rw [hc, hce, ← Nat.succ_mul]; exact Nat.mul_le_mul_right _ (by omega)
            | int hu' => rw [hu] at hu'; cases hu'
            | bool hu' => rw [hu] at hu'; cases hu'
            | str hu' => rw [hu] at hu'; cases hu'
            | flt hu' => rw [hu] at hu'; cases hu'
            | nilSlice hu' => rw [hu] at hu'; cases hu'
            | slice hu' => rw [hu] at hu'; cases hu'
            | nilPtr hu' => rw [hu] at hu'; cases hu'
            | ref hu' => rw [hu] at hu'; cases hu'
            | nilIface hu' => rw [hu] at hu'; cases hu'
            | struct hu' => rw [hu] at hu'; cases hu'
        | _ => cases h
      | _ => cases h
    | slice u =>
      cases hi with
      | @int k n hw =>
        simp only at h
        have hplace : ∀ ad (len c : Nat) (du : TypeDesc), E.P.underlying u = some du → 0 ≤ n ∧ n < (len : Int) → (Instr.indexAt t (.slice (some ad) len c) (.int k n)).run E.P w = .ok (.pointer (some (ad.add (n.toNat * E.P.cellsOf u)))) w := by
          intro ad len c du hdu hc
          unfold Instr.indexAt
          simp only [asIntOf, pure_bind]
          rw [Sem.run_bind, run_underlying hu, Result.andThen_ok]
          simp only
          rw [Sem.run_bind, run_underlying hu, Result.andThen_ok]
          simp only [if_pos hc]
          rw [Sem.run_bind, run_sizeT hdu, Result.andThen_ok]; rfl
        by_cases hown : ∃ t' d, sx = .own t' d
        · obtain ⟨t', d, rfl⟩ := hown
          simp only at h
          cases hx with
          | @own _ _ e' l' b c hu' hg hβ hl =>
            rw [hg] at h
            simp only at h
            obtain ⟨hc, h9⟩ := cond_some h
            clear h
            simp only [Bool.and_eq_true, decide_eq_true_eq, beq_iff_eq] at hc
            obtain ⟨⟨⟨c0, hdesc⟩, c1⟩, c2⟩ := hc
            subst c0
            obtain ⟨du, hdu⟩ := Option.isSome_iff_exists.1 hdesc
            refine QOk.val hR hk h9 (v := .pointer (some ⟨b, n.toNat * E.P.cellsOf e', none⟩)) ?_ (.ptr hg hβ ?_)
            · unfold execOp; rw [ho]
              simp only [hv, hvi]
              rw [Sem.run_bind, hplace _ _ _ du hdu ⟨c1, c2⟩, Result.andThen_ok, add_off, Nat.zero_add]; rfl
            · simp only [offO, if_pos (show 0 ≤ n ∧ n < (l'.length : Int) from ⟨c1, c2⟩), offT, Option.map_some, Nat.add_zero]
          | ownNil hu' hg hβ =>
            rw [hg] at h
            simp only at h
            obtain ⟨hc, h⟩ := cond_some h
            simp at hc
            omega
        · have h' : (match st.elems E.P u sx with
            | some l => bif (E.P.underlying u).isSome && decide (0 ≤ n) && decide (n < l.length) then K (.fro u (l.getD n.toNat .nil)) [] else none
            | none => none) = some r := by
            revert h
            cases sx <;> first
              | exact id
              | exact absurd ⟨_, _, rfl⟩ hown
          cases hel : st.elems E.P u sx with
          | none => rw [hel] at h'; cases h'
          | some l =>
            rw [hel] at h'
            simp only at h'
            obtain ⟨hc, h2⟩ := cond_some h'
            simp only [Bool.and_eq_true, decide_eq_true_eq] at hc
            obtain ⟨⟨hdesc, c1⟩, c2⟩ := hc
            obtain ⟨du, hdu⟩ := Option.isSome_iff_exists.1 hdesc
            have hlt : n.toNat < l.length := by omega
            have hg := List.getElem?_eq_getElem hlt
            rw [getD_of hg] at h2
            -- frozen: the elements' addresses are out of what may change
            cases hx with
            | nils => simp only [St.elems] at hel; injection hel with hel; subst hel; simp at c2; omega
            | @val t' p v cs hp hr =>
              simp only [St.elems] at hel
              cases hr with
              | nilSlice hu' =>
                rw [hu'] at hel
                obtain ⟨_, hel⟩ := cond_some hel
                injection hel with hel; subst hel; simp [PV.els] at c2; omega
              | @slice _ e' ad n' c l' cs hu' h1 h2' h3 h4 h5 =>
                rw [hu'] at hel
                obtain ⟨he, hel9⟩ := cond_some hel
                clear hel
                have he : e' = u := by simpa using he
                subst he
                have hel : l' = l := by injection hel9
                subst hel; subst h1
                have hpk : v = .slice (some ad) l'.length c := by
                  unfold Pack at hp; rw [if_neg (by simp [isAggT, hu'])] at hp; injection hp with hp; exact hp.symm
                subst hpk
                refine QOk.val hR hk h2 (v := .pointer (some (ad.add (n.toNat * E.P.cellsOf e')))) ?_ (.fro (h4 _ hlt).1 (h4 _ hlt).2 (h5 _ _ hg))
                unfold execOp; rw [ho]
                simp only [hv, hvi]
                rw [Sem.run_bind, hplace _ _ _ du hdu ⟨c1, c2⟩, Result.andThen_ok]; rfl
              | int hu' => rw [hu'] at hel; cases hel
              | bool hu' => rw [hu'] at hel; cases hel
              | str hu' => rw [hu'] at hel; cases hel
              | flt hu' => rw [hu'] at hel; cases hel
              | nilPtr hu' => rw [hu'] at hel; cases hel
              | ref hu' => rw [hu'] at hel; cases hel
              | nilIface hu' => rw [hu'] at hel; cases hel
              | struct hu' => rw [hu'] at hel; cases hel
              | arr hu' => rw [hu'] at hel; cases hel
            | own => exact absurd ⟨_, _, rfl⟩ hown
            | ownNil => exact absurd ⟨_, _, rfl⟩ hown
            | _ => simp [St.elems] at hel
      | _ => cases h
    | _ => cases hi <;> cases h

theorem run_part {P : Program} {t : TypeId} {d : TypeDesc} {v : Value} {cs : List Value} {off : Nat} (hu : P.underlying t = some d) (hp : Pack P t v (sub cs off (P.cellsOf t))) :
    (part t cs.toArray off).run P w = .ok v w := by
  unfold part
  rw [Sem.run_bind, run_isAggT hu, Result.andThen_ok]
  unfold Pack at hp
  by_cases ha : isAggT P t = true
  · rw [if_pos ha] at hp ⊢
    rw [Sem.run_bind, run_sizeT hu, Result.andThen_ok, hp]
    have : cs.toArray.extract off (off + P.cellsOf t) = (sub cs off (P.cellsOf t)).toArray := by
      simp [sub, List.take_drop]
    rw [this]; rfl
  · rw [if_neg ha] at hp ⊢
    have h0 : (sub cs off (P.cellsOf t))[0]? = some v := by rw [hp]; rfl
    rw [sub_get] at h0
    have h1 : cs[off]? = some v := by
      split at h0
      · simpa using h0
      · cases h0
    have : cs.toArray[off]? = some v := by simpa using h1
    rw [this]; rfl

theorem q_index (hL : laidOutB E.P = true) (hR : Rel E.P Mo β st.T st.B a.tmps.toList w) (hk : Kp w0 F β st.B w) {o : Oper} {t : TypeId} {x i : Operand} (ho : o.op = .index t x i) (h : opQ E o st K = some r) : QOk E w0 F Mo β o st K r a w := by
  have hx := get_sound hR o.type x
  have hi := get_sound hR o.type i
  unfold opQ at h
  rw [ho] at h
  simp only at h
  generalize st.get E.P o.type x = sx at h hx
  generalize st.get E.P o.type i = si at h hi
  generalize hv : a.eval x = v at hx
  generalize hvi : a.eval i = vi at hi
  split at h
  · rename_i s k n hu
    obtain ⟨hc, h⟩ := cond_some h
    simp only [Bool.and_eq_true, decide_eq_true_eq] at hc
    cases hi with
    | int hw =>
      cases hx with
      | @str bs hsz =>
        have hlt : n.toNat < (chars bs).length := by omega
        have hlt' : n.toNat < bs.size := by rw [← chars_len]; exact hlt
        have hg : (chars bs).getD n.toNat 0 = (bs[n.toNat].toNat : Int) := by
          rw [getD_of (List.getElem?_eq_getElem hlt)]
          simp [chars]; rfl
        rw [hg] at h
        refine QOk.val hR hk h (v := .int .u8 bs[n.toNat].toNat) ?_ (.int ?_)
        · unfold execOp; rw [ho]
          simp only [hv, hvi, Instr.index, asIntOf, pure_bind]
          rw [Sem.run_bind, Sem.run_bind, run_underlying hu, Result.andThen_ok]
          have hbs : bs[n.toNat]? = some bs[n.toNat] := getElem?_pos bs n.toNat hlt'
          simp only [if_pos hc.1, hbs]
          rfl
        · have := bs[n.toNat].toNat_lt
          simp only [Lit.wf, Bool.and_eq_true, decide_eq_true_eq]
          exact ⟨by simp [IntKind.min, IntKind.signed], by simp [IntKind.max, IntKind.signed, IntKind.bits]; omega⟩
  · rename_i s _ _ _ k n m u hu
    cases hi with
    | int hw =>
      cases hp : s.pvT E.P t with
      | none => rw [hp] at h; cases h
      | some p =>
        rw [hp] at h
        simp only at h
        obtain ⟨hc, h⟩ := cond_some h
        simp only [Bool.and_eq_true, decide_eq_true_eq] at hc
        obtain ⟨⟨hdesc, c1⟩, c2⟩ := hc
        obtain ⟨du, hdu⟩ := Option.isSome_iff_exists.1 hdesc
        obtain ⟨cs, hpk, hrd⟩ := hx.pvT hp
        unfold Pack at hpk; rw [if_pos (isAggT_arr hu)] at hpk
        cases hrd with
        | @arr _ m' e l _ hu' ht hl hc hel =>
          rw [hu] at hu'
          injection hu' with hu'; injection hu' with g1 g2
          subst g1; subst g2
          have hlt : n.toNat < l.length := by omega
          have hg := List.getElem?_eq_getElem hlt
          have hp : PV.fld (.agg l) n.toNat = l[n.toNat] := by simp only [PV.fld, PV.flds]; exact getD_of hg
          rw [hp] at h
          have hre := hel n.toNat _ hg
          obtain ⟨v', hv'⟩ := hre.pack
          refine QOk.val hR hk h (v := v') ?_ (RS.ofPV hv' hre)
          unfold execOp; rw [ho]
          simp only [hv, hvi, Instr.index, asIntOf, pure_bind, hpk]
          rw [Sem.run_bind, Sem.run_bind, run_underlying hu, Result.andThen_ok]
          simp only [if_pos (show 0 ≤ n ∧ n < (m : Int) from ⟨c1, c2⟩)]
          rw [Sem.run_bind, run_sizeT hdu, Result.andThen_ok, run_part hdu hv']; rfl
        | int hu' => rw [hu] at hu'; cases hu'
        | bool hu' => rw [hu] at hu'; cases hu'
        | str hu' => rw [hu] at hu'; cases hu'
        | flt hu' => rw [hu] at hu'; cases hu'
        | nilSlice hu' => rw [hu] at hu'; cases hu'
        | slice hu' => rw [hu] at hu'; cases hu'
        | nilPtr hu' => rw [hu] at hu'; cases hu'
        | ref hu' => rw [hu] at hu'; cases hu'
        | nilIface hu' => rw [hu] at hu'; cases hu'
        | struct hu' => rw [hu] at hu'; cases hu'
  · cases h

theorem q_field (hR : Rel E.P Mo β st.T st.B a.tmps.toList w) (hk : Kp w0 F β st.B w) {o : Oper} {t : TypeId} {x : Operand} {f : Nat} (ho : o.op = .field t x f) (h : opQ E o st K = some r) : QOk E w0 F Mo β o st K r a w := by
  have hx := get_sound hR o.type x
  unfold opQ at h
  rw [ho] at h
  simp only at h
  generalize st.get E.P o.type x = sx at h hx
  generalize hv : a.eval x = v at hx
  cases hu : E.P.underlying t with
  | none => rw [hu] at h; cases h
  | some d =>
    rw [hu] at h
    cases d with
    | struct fs =>
      cases hp : sx.pvT E.P t with
      | none => rw [hp] at h; cases h
      | some p =>
        rw [hp] at h
        simp only at h
        cases hf : fs[f]? with
        | none => rw [hf] at h; cases h
        | some fd =>
          rw [hf] at h
          simp only at h
          obtain ⟨hdesc, h⟩ := cond_some h
          obtain ⟨du, hdu⟩ := Option.isSome_iff_exists.1 hdesc
          obtain ⟨cs, hpk, hrd⟩ := hx.pvT hp
          unfold Pack at hpk; rw [if_pos (isAggT_struct hu)] at hpk
          cases hrd with
          | @struct _ gs l _ hu' ht hl hc hfl =>
            rw [hu] at hu'
            injection hu' with hu'; injection hu' with hu'
            subst hu'
            have hlt : f < l.length := by
              rw [hl]
              rcases Nat.lt_or_ge f fs.size with h | h
              · exact h
              · rw [Array.getElem?_eq_none h] at hf; cases hf
            have hg := List.getElem?_eq_getElem hlt
            have hp : PV.fld (.agg l) f = l[f] := by simp only [PV.fld, PV.flds]; exact getD_of hg
            rw [hp] at h
            have hre := hfl f fd _ hf hg
            obtain ⟨v', hv'⟩ := hre.pack
            refine QOk.val hR hk h (v := v') ?_ (RS.ofPV hv' hre)
            unfold execOp; rw [ho]
            simp only [hv, Instr.field, hpk]
            rw [Sem.run_bind, Sem.run_bind, run_underlying hu, Result.andThen_ok]
            simp only [hf, asAgg, pure_bind]
            rw [run_part hdu hv']; rfl
          | int hu' => rw [hu] at hu'; cases hu'
          | bool hu' => rw [hu] at hu'; cases hu'
          | str hu' => rw [hu] at hu'; cases hu'
          | flt hu' => rw [hu] at hu'; cases hu'
          | nilSlice hu' => rw [hu] at hu'; cases hu'
          | slice hu' => rw [hu] at hu'; cases hu'
          | nilPtr hu' => rw [hu] at hu'; cases hu'
          | ref hu' => rw [hu] at hu'; cases hu'
          | nilIface hu' => rw [hu] at hu'; cases hu'
          | arr hu' => rw [hu] at hu'; cases hu'
    | _ => cases h

end
end Go.X
