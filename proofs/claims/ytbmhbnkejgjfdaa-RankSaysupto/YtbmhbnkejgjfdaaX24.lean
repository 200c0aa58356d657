/- The interpreter X, part 24: stores. -/
import Derived.Test.YtbmhbnkejgjfdaaX23
namespace Go.X
open Go
section
variable {P : Program}

theorem fieldsOf_struct {t : TypeId} {fs : Array Field} (h : P.underlying t = some (.struct fs)) : fieldsOf P t = fs.toList := by simp [fieldsOf, h]
theorem fieldT_of {t : TypeId} {fs : Array Field} {i : Nat} {f : Field} (h : P.underlying t = some (.struct fs)) (hf : fs[i]? = some f) : fieldT P t i = f.type := by
  unfold fieldT
  rw [fieldsOf_struct h, show fs.toList[i]? = some f by simpa using hf]; rfl

theorem zipIdx_map_get {α γ : Type} (g : α → Nat → γ) (l : List α) (i : Nat) (x : α) (h : l[i]? = some x) : (l.zipIdx.map fun (f, i) => g f i)[i]? = some (g x i) := by
  rw [List.getElem?_map, List.getElem?_zipIdx, h]; simp

theorem expand_eq {t : TypeId} {fs : Array Field} {l : List PV} (hu : P.underlying t = some (.struct fs)) : ∃ ss : List SV, expand P t (.agg l) = .agg t ss ∧ ss.length = fs.size ∧
    ∀ (i : Nat) (f : Field), fs[i]? = some f → ss[i]? = some (ofPV P f.type ((PV.agg l).fld i)) := by
  refine ⟨_, rfl, ?_, fun i f hf => ?_⟩
  · rw [List.length_map, List.length_zipIdx, fieldsOf_struct hu, Array.length_toList]
  · rw [fieldsOf_struct hu]
    exact zipIdx_map_get (fun (f : Field) i => ofPV P f.type ((PV.agg l).fld i)) fs.toList i f (by simpa using hf)

theorem field_val {w : World} {M : Nat → Prop} {fs : Array Field} {l : List PV} {cs : List Value} (hl : l.length = fs.size)
    (hf : ∀ (i : Nat) (f : Field) (p : PV), fs[i]? = some f → l[i]? = some p → Rd P w M f.type p (sub cs f.offset (P.cellsOf f.type))) :
    ∃ vs : Nat → Value, ∀ (i : Nat) (f : Field), fs[i]? = some f → Pack P f.type (vs i) (sub cs f.offset (P.cellsOf f.type)) := by
  have hall : ∀ i : Nat, ∃ v, ∀ f : Field, fs[i]? = some f → Pack P f.type v (sub cs f.offset (P.cellsOf f.type)) := fun i => ?_
  · exact ⟨fun i => (hall i).choose, fun i => (hall i).choose_spec⟩
  cases hfi : fs[i]? with
  | none => exact ⟨undef, fun f hf => by cases hf⟩
  | some f =>
    have hli : i < l.length := by
      rw [hl]
      rcases Nat.lt_or_ge i fs.size with h | h
      · exact h
      · rw [Array.getElem?_eq_none h] at hfi; cases hfi
    obtain ⟨v, hv⟩ := (hf i f _ hfi (List.getElem?_eq_getElem hli)).pack
    exact ⟨v, fun g hg => by injection hg with hg; subst hg; exact hv⟩

/-- A struct of data, field by field. -/
theorem RS.expand {w : World} {M : Nat → Prop} {β : Beta} {B : Obs} {t : TypeId} {fs : Array Field} (hu : P.underlying t = some (.struct fs)) {p : PV} {cs : List Value} (hr : Rd P w M t p cs) (h1 : ∀ c ∈ cs, c.oneCell' = true) :
    ∃ ss, X.expand P t p = .agg t ss ∧ RS P w M β B (.agg t ss) (.agg cs.toArray) := by
  cases hr with
  | @struct _ gs l _ hu' ht hl hc hf =>
    rw [hu] at hu'; injection hu' with hu'; injection hu' with hu'; subst hu'
    obtain ⟨ss, e1, e2, e3⟩ := expand_eq (l := l) hu
    obtain ⟨vs, hvs⟩ := field_val hl hf
    refine ⟨ss, e1, .agg (vs := vs) hu ht e2 hc h1 (fun i f s hfi hs => ?_) (fun i s hs => ?_)⟩
    · have := e3 i f hfi
      rw [hs] at this; injection this with this; subst this
      have hli : i < l.length := by rw [hl, ← e2]; exact get_lt hs
      have hg := List.getElem?_eq_getElem hli
      have hp : PV.fld (.agg l) i = l[i] := by simp only [PV.fld, PV.flds]; exact getD_of hg
      rw [hp]
      exact ⟨isT_ofPV (hf i f _ hfi hg), hvs i f hfi⟩
    · have hil : i < fs.size := by rw [← e2]; exact get_lt hs
      have hfi : fs[i]? = some fs[i] := Array.getElem?_eq_getElem hil
      have := e3 i _ hfi
      rw [hs] at this; injection this with this; subst this
      have hg := List.getElem?_eq_getElem (show i < l.length by omega)
      have hp : PV.fld (.agg l) i = l[i] := by simp only [PV.fld, PV.flds]; exact getD_of hg
      rw [hp]
      exact RS.ofPV (hvs i _ hfi) (hf i _ _ hfi hg)
  | int hu' => rw [hu] at hu'; cases hu'
  | bool hu' => rw [hu] at hu'; cases hu'
  | str hu' => rw [hu] at hu'; cases hu'
  | flt hu' => rw [hu] at hu'; cases hu'
  | nilSlice hu' => rw [hu] at hu'; cases hu'
  | slice hu' => rw [hu] at hu'; cases hu'
  | nilPtr hu' => rw [hu] at hu'; cases hu'
  | ref hu' => rw [hu] at hu'; cases hu'
  | nilIface hu' => rw [hu] at hu'; cases hu'
  | arr hu' => rw [hu] at hu'; cases hu'

/-- One field of a struct is given a new content. -/
theorem RS.set (hL : laidOutB P = true) {w : World} {M : Nat → Prop} {β : Beta} {B : Obs} {t : TypeId} {fs : Array Field} {l : List SV} {cs : List Value} (hu : P.underlying t = some (.struct fs)) (hr : RS P w M β B (.agg t l) (.agg cs.toArray)) {i : Nat} {f : Field} (hf : fs[i]? = some f) {off : Nat} {xs : List Value}
    (hoff : off + xs.length ≤ P.cellsOf f.type) (hx1 : ∀ c ∈ xs, c.oneCell' = true) {s' : SV} {v' : Value} (h1 : RS P w M β B s' v') (h2 : s'.isT P f.type) (h3 : Pack P f.type v' (splice (sub cs f.offset (P.cellsOf f.type)) off xs)) :
    RS P w M β B (.agg t (l.set i s')) (.agg (splice cs (f.offset + off) xs).toArray) := by
  generalize hv : Value.agg cs.toArray = v0 at hr
  cases hr with
  | @agg _ gs _ cs' vs hu' ht hl hc hone hfl hrs =>
    injection hv with hv
    have hcs : cs = cs' := by simpa using congrArg Array.toList hv
    subst hcs
    rw [hu] at hu'; injection hu' with hu'; injection hu' with hu'; subst hu'
    have lay := layS hL ht hu
    have hin := lay.within hf
    have hil : i < l.length := by
      rw [hl]
      rcases Nat.lt_or_ge i fs.size with h | h
      · exact h
      · rw [Array.getElem?_eq_none h] at hf; cases hf
    refine .agg (vs := fun j => if j = i then v' else vs j) hu ht (by simpa using hl) (by rw [splice_len (by omega), hc]) (fun c hc => ?_) (fun j g s hg hs => ?_) (fun j s hs => ?_)
    · rcases mem_splice hc with hc | hc
      · exact hone c hc
      · exact hx1 c hc
    · rw [List.getElem?_set] at hs
      by_cases hij : i = j
      · subst hij
        rw [if_pos rfl, if_pos hil] at hs
        injection hs with hs; subst hs
        rw [hf] at hg; injection hg with hg; subst hg
        simp only [if_true]
        refine ⟨h2, ?_⟩
        have := sub_splice_in (cs := cs) (xs := xs) (o := off) (a := f.offset) (n := P.cellsOf f.type) (by omega) hoff
        change Pack P f.type v' (sub (splice cs (f.offset + off) xs) f.offset (P.cellsOf f.type))
        rw [this]; exact h3
      · rw [if_neg hij] at hs
        obtain ⟨k1, k2⟩ := hfl j g s hg hs
        rw [if_neg (Ne.symm hij)]
        refine ⟨k1, ?_⟩
        change Pack P g.type (vs j) (sub (splice cs (f.offset + off) xs) g.offset (P.cellsOf g.type))
        have hg2 := lay.within hg
        rw [sub_splice_out (by omega) ?_]
        · exact k2
        · rcases Nat.lt_or_gt_of_ne hij with h | h
          · have := lay.apart hf hg h; omega
          · have := lay.apart hg hf h; omega
    · rw [List.getElem?_set] at hs
      by_cases hij : i = j
      · subst hij
        rw [if_pos rfl, if_pos hil] at hs
        injection hs with hs; subst hs
        simp only [if_true]; exact h1
      · rw [if_neg hij] at hs
        rw [if_neg (Ne.symm hij)]; exact hrs j s hs

theorem SV.isT_agg {t u : TypeId} {l : List SV} (h : (SV.agg u l).isT P t) : u = t := by
  rcases h with h | h | h | ⟨l', h⟩
  · simp [SV.pvT] at h
  · simp [SV.isHandle] at h
  · cases h
  · injection h

theorem off_in (hL : laidOutB P = true) : ∀ (q : List Stp) {t t' : TypeId} {off : Nat}, t < P.types.size → typT P t q = some t' → offT P t q = some off → t' < P.types.size ∧ off + P.cellsOf t' ≤ P.cellsOf t
  | [], t, t', off, ht, htt, hoff => by
    simp only [typT, Option.some.injEq] at htt
    simp only [offT, Option.some.injEq] at hoff
    subst htt; subst hoff
    exact ⟨ht, by omega⟩
  | .fld i :: q, t, t', off, ht, htt, hoff => by
    simp only [typT] at htt
    simp only [offT] at hoff
    cases hu : P.underlying t with
    | none => rw [hu] at htt; cases htt
    | some dd =>
      rw [hu] at htt hoff
      cases dd with
      | struct fs =>
        simp only at htt hoff
        cases hf : fs[i]? with
        | none => rw [hf] at htt; cases htt
        | some f =>
          rw [hf] at htt hoff
          simp only [Option.bind_some] at htt hoff
          have lay := layS hL ht hu
          have hft := lay.1 f (by simpa using Array.mem_of_getElem? hf)
          have hin := lay.within hf
          by_cases h0 : P.cellsOf f.type = 0
          · rw [if_pos h0] at hoff; cases hoff
          · rw [if_neg h0] at hoff
            cases ho' : offT P f.type q with
            | none => rw [ho'] at hoff; cases hoff
            | some off' =>
              rw [ho'] at hoff
              replace hoff : f.offset + off' = off := by injection hoff
              obtain ⟨g1, g2⟩ := off_in hL q hft htt ho'
              exact ⟨g1, by omega⟩
      | _ => cases htt
  | .idx i :: q, t, t', off, ht, htt, hoff => by
    simp only [typT] at htt
    simp only [offT] at hoff
    cases hu : P.underlying t with
    | none => rw [hu] at htt; cases htt
    | some dd =>
      rw [hu] at htt hoff
      cases dd with
      | array n e =>
        simp only at htt hoff
        by_cases hi : 0 ≤ i ∧ i < n
        · rw [if_pos hi] at hoff
          cases ho' : offT P e q with
          | none => rw [ho'] at hoff; cases hoff
          | some off' =>
            rw [ho'] at hoff
            replace hoff : i.toNat * P.cellsOf e + off' = off := by injection hoff
            have lay := layA hL ht hu
            obtain ⟨g1, g2⟩ := off_in hL q lay.1 htt ho'
            have := mul_within (n := P.cellsOf e) (show i.toNat < n by omega)
            exact ⟨g1, by rw [lay.2]; omega⟩
        · rw [if_neg hi] at hoff; cases hoff
      | _ => cases htt
  | .el i :: q, t, t', off, ht, htt, hoff => by cases htt

theorem RS.putL (hL : laidOutB P = true) {w : World} {M : Nat → Prop} {β : Beta} {B : Obs} {lf : SV} {px : Option PV} {t' : TypeId} {v' : Value} {xs : List Value} (hlf : RS P w M β B lf v') (hlt : lf.isT P t') (hpk : Pack P t' v' xs) (hxl : xs.length = P.cellsOf t') (hx1 : ∀ c ∈ xs, c.oneCell' = true) (hpx : ∀ x, px = some x → Rd P w M t' x xs) :
    ∀ (q : List Stp) {t : TypeId} {s : SV} {v : Value} {cs : List Value} {off : Nat}, t < P.types.size → RS P w M β B s v → Pack P t v cs → cs.length = P.cellsOf t → (∀ c ∈ cs, c.oneCell' = true) → s.isT P t →
      typT P t q = some t' → offT P t q = some off → ∃ v2, RS P w M β B (SV.putL P lf px t s q) v2 ∧ Pack P t v2 (splice cs off xs) ∧ (SV.putL P lf px t s q).isT P t
  | [], t, s, v, cs, off, ht, hs, hp, hl, h1, hT, htt, hoff => by
    simp only [typT, Option.some.injEq] at htt
    simp only [offT, Option.some.injEq] at hoff
    subst htt; subst hoff
    have e : SV.putL P lf px t s [] = lf := by cases s <;> rfl
    rw [e]
    exact ⟨v', hlf, by rw [splice_all (by omega)]; exact hpk, hlt⟩
  | .fld i :: q, t, s, v, cs, off, ht, hs, hp, hl, h1, hT, htt, hoff => by
    have hall := off_in hL (.fld i :: q) ht htt hoff
    have htt0 := htt
    have hoff0 := hoff
    simp only [typT] at htt
    simp only [offT] at hoff
    cases hu : P.underlying t with
    | none => rw [hu] at htt; cases htt
    | some dd =>
      rw [hu] at htt hoff
      cases dd with
      | struct fs =>
        simp only at htt hoff
        cases hf : fs[i]? with
        | none => rw [hf] at htt; cases htt
        | some f =>
          rw [hf] at htt hoff
          simp only [Option.bind_some] at htt hoff
          have lay := layS hL ht hu
          have hft := lay.1 f (by simpa using Array.mem_of_getElem? hf)
          have hin := lay.within hf
          by_cases h0 : P.cellsOf f.type = 0
          · rw [if_pos h0] at hoff; cases hoff
          · rw [if_neg h0] at hoff
            cases ho' : offT P f.type q with
            | none => rw [ho'] at hoff; cases hoff
            | some off' =>
              rw [ho'] at hoff
              replace hoff : f.offset + off' = off := by injection hoff
              subst hoff
              have hagg := isAggT_struct hu
              have hv : v = .agg cs.toArray := by unfold Pack at hp; rw [if_pos hagg] at hp; exact hp
              have hb := (off_in hL q hft htt ho').2
              have dead : ∃ v2, RS P w M β B .dead v2 ∧ Pack P t v2 (splice cs (f.offset + off') xs) ∧ SV.dead.isT P t :=
                ⟨.agg (splice cs (f.offset + off') xs).toArray, .dead, by simp [Pack, hagg], .inr (.inr (.inl rfl))⟩
              subst hv
              have setf : ∀ {l : List SV}, RS P w M β B (.agg t l) (.agg cs.toArray) → ∀ {s' : SV}, (∀ s vi, l[i]? = some s → RS P w M β B s vi → s.isT P f.type → Pack P f.type vi (sub cs f.offset (P.cellsOf f.type)) → ∃ v2, RS P w M β B s' v2 ∧ Pack P f.type v2 (splice (sub cs f.offset (P.cellsOf f.type)) off' xs) ∧ s'.isT P f.type) →
                  ∃ v2, RS P w M β B (.agg t (l.set i s')) v2 ∧ Pack P t v2 (splice cs (f.offset + off') xs) ∧ (SV.agg t (l.set i s')).isT P t := by
                intro l hrs s' hn
                have hrs' := hrs
                generalize hvv : Value.agg cs.toArray = v0 at hrs'
                cases hrs' with
                | @agg _ gs _ cs' vs hu' ht2 hl2 hc2 hone2 hfl hrs2 =>
                  injection hvv with hvv
                  have hcs : cs = cs' := by simpa using congrArg Array.toList hvv
                  subst hcs
                  rw [hu] at hu'; injection hu' with hu'; injection hu' with hu'; subst hu'
                  have hil : i < l.length := by
                    rw [hl2]
                    rcases Nat.lt_or_ge i fs.size with h | h
                    · exact h
                    · rw [Array.getElem?_eq_none h] at hf; cases hf
                  have hg := List.getElem?_eq_getElem hil
                  obtain ⟨k1, k2⟩ := hfl i f _ hf hg
                  obtain ⟨v2, m1, m2, m3⟩ := hn _ (vs i) hg (hrs2 i _ hg) k1 k2
                  exact ⟨_, RS.set hL hu hrs hf (by omega) hx1 m1 m3 m2, by simp [Pack, hagg], .inr (.inr (.inr ⟨_, rfl⟩))⟩
              have hsl : (sub cs f.offset (P.cellsOf f.type)).length = P.cellsOf f.type := sub_len (by omega)
              have hs1 : ∀ c ∈ sub cs f.offset (P.cellsOf f.type), c.oneCell' = true := by
                intro c hc
                refine h1 c ?_
                unfold sub at hc
                exact List.mem_of_mem_drop (List.mem_of_mem_take hc)
              cases s with
              | agg u l =>
                have hut := SV.isT_agg hT
                subst hut
                simp only [SV.putL]
                rw [fieldT_of hu hf]
                refine setf hs fun s vi hsi hri hti hpi => ?_
                have hgd : l.getD i .dead = s := getD_of hsi
                rw [hgd]
                exact RS.putL hL hlf hlt hpk hxl hx1 hpx q hft hri hpi hsl hs1 hti htt ho'
              | val u p =>
                have hrd : Rd P w M t p cs := SV.isT_pv hT hs hp
                simp only [SV.putL]
                cases px with
                | some x =>
                  simp only
                  have := hrd.put hL _ ht htt0 hoff0 (hpx x rfl)
                  exact ⟨.agg (splice cs (f.offset + off') xs).toArray, .val (cs := splice cs (f.offset + off') xs) (by simp [Pack, hagg]) this, by simp [Pack, hagg], .inl (by simp [SV.pvT])⟩
                | none =>
                  cases q with
                  | nil =>
                    simp only
                    obtain ⟨ss, e1, e2⟩ := RS.expand (β := β) (B := B) hu hrd h1
                    rw [e1]
                    simp only
                    simp only [typT, Option.some.injEq] at htt
                    simp only [offT, Option.some.injEq] at ho'
                    subst htt; subst ho'
                    exact setf e2 fun s vi hsi hri hti hpi => ⟨v', hlf, by rw [splice_all (by omega)]; exact hpk, hlt⟩
                  | cons _ _ => exact dead
              | _ => exact dead
      | _ => cases htt
  | .idx i :: q, t, s, v, cs, off, ht, hs, hp, hl, h1, hT, htt, hoff => by
    have htt0 := htt
    simp only [typT] at htt
    cases hu : P.underlying t with
    | none => rw [hu] at htt; cases htt
    | some dd =>
      rw [hu] at htt
      cases dd with
      | array n e =>
        have hagg := isAggT_arr hu
        have dead : ∃ v2, RS P w M β B .dead v2 ∧ Pack P t v2 (splice cs off xs) ∧ SV.dead.isT P t :=
          ⟨.agg (splice cs off xs).toArray, .dead, by simp [Pack, hagg], .inr (.inr (.inl rfl))⟩
        cases s with
        | val u p =>
          have hrd : Rd P w M t p cs := SV.isT_pv hT hs hp
          simp only [SV.putL]
          cases px with
          | some x =>
            simp only
            have := hrd.put hL _ ht htt0 hoff (hpx x rfl)
            exact ⟨.agg (splice cs off xs).toArray, .val (cs := splice cs off xs) (by simp [Pack, hagg]) this, by simp [Pack, hagg], .inl (by simp [SV.pvT])⟩
          | none => exact dead
        | _ => exact dead
      | _ => cases htt
  | .el i :: q, t, s, v, cs, off, ht, hs, hp, hl, h1, hT, htt, hoff => by cases htt

end
end Go.X
