/- The interpreter X, part 19: composite values and slice literals. -/
import Derived.Test.YtbmhbnkejgjfdaaX18
import Derived.Laws.Tables
import Derived.Laws.MakeOwn
import Derived.Laws.IdiomStrings
import Derived.Laws.BytesString
import Derived.Laws.AppendOwn
namespace Go.X
open Go

theorem fold_get (off : Nat) : ∀ (xs : List Value) (k : Nat) (C : Array Value) (j : Nat),
    ((xs.zipIdx k).foldl (fun (cs : Array Value) (x : Value × Nat) => cs.setIfInBounds (off + x.2) x.1) C)[j]? = if off + k ≤ j ∧ j < off + k + xs.length ∧ j < C.size then xs[j - off - k]? else C[j]?
  | [], k, C, j => by
    rw [if_neg (by simp; omega)]; rfl
  | x :: xs, k, C, j => by
    rw [List.zipIdx_cons, List.foldl_cons, fold_get off xs (k + 1)]
    simp only [Array.size_setIfInBounds, Array.getElem?_setIfInBounds, List.length_cons]
    by_cases h1 : off + k = j
    · rw [if_neg (by omega), if_pos h1]
      subst h1
      by_cases h2 : off + k < C.size
      · rw [if_pos h2, if_pos (by omega)]
        rw [show off + k - off - k = 0 by omega]; rfl
      · rw [if_neg h2, if_neg (by omega), Array.getElem?_eq_none (by omega)]
    · rw [if_neg h1]
      by_cases h2 : off + k + 1 ≤ j ∧ j < off + k + 1 + xs.length ∧ j < C.size
      · rw [if_pos (by omega), if_pos (by omega)]
        rw [show j - off - k = (j - off - (k + 1)) + 1 by omega, List.getElem?_cons_succ]
      · rw [if_neg (by omega), if_neg (by omega)]

theorem fill_step {v : Value} {xs : List Value} {C : Array Value} {off : Nat} (hc : v.cells.toList = xs) (ho : off + xs.length ≤ C.size) :
    v.cells.zipIdx.foldl (fun (cs : Array Value) (c, j) => cs.setIfInBounds (off + j) c) C = (splice C.toList off xs).toArray := by
  apply Array.ext_getElem?
  intro j
  rw [← Array.foldl_toList, Array.toList_zipIdx, hc]
  refine (fold_get off xs 0 C j).trans ?_
  rw [show (splice C.toList off xs).toArray[j]? = (splice C.toList off xs)[j]? by simp, splice_get (by simpa using ho), Nat.add_zero, Nat.sub_zero]
  by_cases h1 : j < off
  · rw [if_neg (by omega), if_pos h1, Array.getElem?_toList]
  · rw [if_neg h1]
    by_cases h2 : j < off + xs.length
    · rw [if_pos (by omega), if_pos h2]
    · rw [if_neg (by omega), if_neg h2, Array.getElem?_toList]

/-- Cells that no part is put into stay as they are. -/
theorem fill_same (place : Nat → Option (Nat × Nat)) : ∀ (parts : List (Nat × Value)) (C C' : Array Value), Instr.fill place C parts = some C' → ∀ j : Nat, (∀ (k i : Nat) (v : Value) (off n : Nat), parts[k]? = some (i, v) → place i = some (off, n) → ¬ (off ≤ j ∧ j < off + n)) → C'[j]? = C[j]?
  | [], C, C', h, j, _ => by
    rw [Instr.fill] at h
    injection h with h; subst h; rfl
  | (i, v) :: parts, C, C', h, j, hj => by
    rw [Instr.fill] at h
    cases hp : place i with
    | none => rw [hp] at h; cases h
    | some y =>
      obtain ⟨off, n⟩ := y
      rw [hp] at h
      simp only at h
      split at h
      · cases h
      · rename_i hc
        simp only [ne_eq, Bool.or_eq_true, decide_eq_true_eq, not_or, Decidable.not_not, gt_iff_lt] at hc
        have ih := fill_same place parts _ C' h j (fun k i' v' off' n' hk hp' => hj (k + 1) i' v' off' n' (by simpa using hk) hp')
        rw [ih]
        have h0 := hj 0 i v off n rfl hp
        rw [← Array.foldl_toList, Array.toList_zipIdx]
        refine (fold_get off v.cells.toList 0 C j).trans ?_
        rw [if_neg]
        have : v.cells.toList.length = n := by simpa using hc.1
        rw [this]; omega

theorem nilFs_len {E : Env} (d : Nat) (p : PV) : ∀ (i : Nat) (fs : List Field), (nilFs E d p i fs).length = fs.length
  | _, [] => rfl
  | i, f :: fs => by simp [nilFs, nilFs_len d p (i + 1) fs]
theorem nilFs_get {E : Env} (d : Nat) (p : PV) : ∀ (i : Nat) (fs : List Field) (k : Nat) (f : Field), fs[k]? = some f →
    (nilFs E d p i fs)[k]? = some (bif E.fldOwn d (i + k) then .nils else ofPV E.P f.type (p.fld (i + k)))
  | i, [], k, f, h => by simp at h
  | i, g :: fs, 0, f, h => by
    have : g = f := by simpa using h
    subst this; rfl
  | i, g :: fs, k + 1, f, h => by
    have := nilFs_get (E := E) d p (i + 1) fs k f (by simpa using h)
    rw [show i + 1 + k = i + (k + 1) by omega] at this
    simpa [nilFs] using this
theorem rowsOk_get {E : Env} (d : Nat) : ∀ (i : Nat) (fs : List Field) (k : Nat) (f : Field), rowsOk E d i fs = true → fs[k]? = some f → E.fldOwn d (i + k) = true → ∃ e, E.P.underlying f.type = some (.slice e)
  | i, [], k, f, _, h, _ => by simp at h
  | i, g :: fs, 0, f, hr, h, ho => by
    have : g = f := by simpa using h
    subst this
    simp only [rowsOk, Bool.and_eq_true, Bool.or_eq_true] at hr
    rcases hr.1 with h1 | h1
    · rw [Nat.add_zero] at ho; rw [ho] at h1; cases h1
    · split at h1
      · rename_i e he; exact ⟨e, he⟩
      · cases h1
  | i, g :: fs, k + 1, f, hr, h, ho => by
    simp only [rowsOk, Bool.and_eq_true] at hr
    exact rowsOk_get d (i + 1) fs k f hr.2 (by simpa using h) (by rw [show i + 1 + k = i + (k + 1) by omega]; exact ho)

section
variable {P : Program}

/-- Parts that are put into a whole, one by one. -/
theorem fill_parts (hL : laidOutB P = true) {w : World} {M : Nat → Prop} {t : TypeId} (ht : t < P.types.size) (place : Nat → Option (Nat × Nat)) (stp : Nat → Stp) :
    ∀ (parts : List (Nat × Value)) (ps : List PV) (p : PV) (C : Array Value), Rd P w M t p C.toList → parts.length = ps.length →
      (∀ (k i : Nat) (v : Value) (x : PV), parts[k]? = some (i, v) → ps[k]? = some x → ∃ u xs off, typT P t [stp i] = some u ∧ offT P t [stp i] = some off ∧ place i = some (off, P.cellsOf u) ∧
        v.cells.toList = xs ∧ Rd P w M u x xs) →
      ∃ C', Instr.fill place C parts = some C' ∧ Rd P w M t (((parts.map (·.1)).zip ps).foldl (fun p x => p.put [stp x.1] x.2) p) C'.toList
  | [], ps, p, C, hr, _, _ => by
    refine ⟨C, rfl, ?_⟩
    simpa using hr
  | (i, v) :: parts, [], p, C, hr, hl, _ => by simp at hl
  | (i, v) :: parts, x :: ps, p, C, hr, hl, h => by
    obtain ⟨u, xs, off, h1, h2, h3, h4, h5⟩ := h 0 i v x rfl rfl
    obtain ⟨g1, g2, _⟩ := hr.get hL _ ht h1 h2
    have hxl := h5.size hL g1
    have hCl := hr.size hL ht
    have hCs : C.size = P.cellsOf t := by simpa using hCl
    have hvs : v.cells.size = P.cellsOf u := by rw [← hxl, ← h4]; simp
    have hput := hr.put hL _ ht h1 h2 h5
    have hstep : (v.cells.zipIdx.foldl (fun (cs : Array Value) (c, j) => cs.setIfInBounds (off + j) c) C) = (splice C.toList off xs).toArray := fill_step h4 (by omega)
    obtain ⟨C', k1, k2⟩ := fill_parts hL ht place stp parts ps (p.put [stp i] x) (splice C.toList off xs).toArray (by simpa using hput) (by simpa using hl)
      (fun k i' v' x' hk hx => h (k + 1) i' v' x' (by simpa using hk) (by simpa using hx))
    refine ⟨C', ?_, k2⟩
    rw [Instr.fill]
    simp only [h3]
    rw [if_neg (by simp only [hvs, ne_eq, not_true_eq_false, decide_false, Bool.false_or, decide_eq_true_eq, gt_iff_lt]; omega), hstep]
    exact k1

theorem filterMap_get {α γ : Type} {g : α → Option γ} : ∀ {l : List α}, (∀ x ∈ l, (g x).isSome = true) → ∀ (k : Nat) (x : α), l[k]? = some x → (l.filterMap g)[k]? = g x
  | [], _, k, x, h => by simp at h
  | a :: l, ha, k, x, h => by
    obtain ⟨y, hy⟩ := Option.isSome_iff_exists.1 (ha a (by simp))
    rw [List.filterMap_cons_some hy]
    cases k with
    | zero =>
      replace h : a = x := by simpa using h
      subst h; exact hy.symm
    | succ k => exact filterMap_get (fun x hx => ha x (by simp [hx])) k x (by simpa using h)

theorem filterMap_len {α γ : Type} {g : α → Option γ} : ∀ {l : List α}, (∀ x ∈ l, (g x).isSome = true) → (l.filterMap g).length = l.length
  | [], _ => rfl
  | a :: l, ha => by
    obtain ⟨y, hy⟩ := Option.isSome_iff_exists.1 (ha a (by simp))
    rw [List.filterMap_cons_some hy, List.length_cons, List.length_cons, filterMap_len (fun x hx => ha x (by simp [hx]))]

theorem run_zero_und {t : TypeId} {z : Value} (h : ∀ w, (zeroValue t).run P w = .ok z w) : ∃ i, P.info? t = some i ∧ i.zero = some z := by
  have h0 := h default
  unfold zeroValue typeInfo at h0
  simp only [Sem.run_bind, run_program, Result.andThen_ok] at h0
  cases hi : P.info? t with
  | none => rw [hi] at h0; cases h0
  | some i =>
    rw [hi] at h0
    simp only [Sem.run_pure, Result.andThen_ok] at h0
    cases hz : i.zero with
    | none => rw [hz] at h0; cases h0
    | some z' =>
      rw [hz] at h0
      simp only [Sem.run_pure] at h0
      injection h0 with h0
      exact ⟨i, rfl, by rw [← h0]; exact hz⟩

theorem info_lt {t : TypeId} (h : t < P.types.size) : ∃ i, P.info? t = some i ∧ P.cellsOf t = i.size := by
  have h1 : P.info? t = P.types[t]? := by unfold Tables.info?; rw [if_pos h]
  rw [Array.getElem?_eq_getElem h] at h1
  exact ⟨_, h1, by unfold Program.cellsOf; rw [h1]; rfl⟩

theorem Rd.lt_of_agg {w : World} {M : Nat → Prop} {t : TypeId} {p : PV} {cs : List Value} (h : Rd P w M t p cs) (ha : isAggT P t = true) : t < P.types.size := by
  cases h with
  | struct _ h => exact h
  | arr _ h => exact h
  | int hu => simp [isAggT, hu] at ha
  | bool hu => simp [isAggT, hu] at ha
  | str hu => simp [isAggT, hu] at ha
  | flt hu => simp [isAggT, hu] at ha
  | nilSlice hu => simp [isAggT, hu] at ha
  | slice hu => simp [isAggT, hu] at ha
  | nilPtr hu => simp [isAggT, hu] at ha
  | ref hu => simp [isAggT, hu] at ha
  | nilIface hu => simp [isAggT, hu] at ha

theorem mapM_places : ∀ (fs : List Field), (∀ f ∈ fs, f.type < P.types.size) → ∃ pl : List (Nat × Nat), fs.mapM (fun f => (P.info? f.type).map fun i => (f.offset, i.size)) = some pl ∧
    ∀ (k : Nat) (f : Field), fs[k]? = some f → pl[k]? = some (f.offset, P.cellsOf f.type)
  | [], _ => ⟨[], rfl, fun k f h => by simp at h⟩
  | f :: fs, h => by
    obtain ⟨pl, h1, h2⟩ := mapM_places fs (fun g hg => h g (by simp [hg]))
    have hf := h f (by simp)
    obtain ⟨ie, hi, hc⟩ := info_lt hf
    refine ⟨(f.offset, P.cellsOf f.type) :: pl, ?_, fun k g hg => ?_⟩
    · simp only [List.mapM_cons, hi, Option.map_some, h1, hc]; rfl
    · cases k with
      | zero => 
        replace hg : f = g := by simpa using hg
        subst hg; rfl
      | succ k => exact h2 k g (by simpa using hg)

end

section
variable {E : Env} {w0 : World} {F : Foot} {Mo : Nat → Prop} {st : St} {K : SV → Obs → Option Out} {r : Out} {a : Act} {w : World} {β : Beta}

theorem parts_get {α : Type} {parts : Array (Nat × Operand)} {f : Operand → α} {k i : Nat} {v : α} (h : (parts.map fun (i, x) => (i, f x)).toList[k]? = some (i, v)) :
    ∃ x, parts.toList[k]? = some (i, x) ∧ v = f x := by
  rw [Array.toList_map, List.getElem?_map] at h
  cases hp : parts.toList[k]? with
  | none => rw [hp] at h; cases h
  | some y =>
    rw [hp] at h
    obtain ⟨j, x⟩ := y
    simp only [Option.map_some, Option.some.injEq, Prod.mk.injEq] at h
    obtain ⟨rfl, rfl⟩ := h
    exact ⟨x, rfl, rfl⟩

theorem q_build (hL : laidOutB E.P = true) (hR : Rel E.P Mo β st.T st.B a.tmps.toList w) (hk : Kp w0 F β st.B w) {o : Oper} {t : TypeId} {parts : Array (Nat × Operand)} (ho : o.op = .build t parts) (h : opQ E o st K = some r) :
    QOk E w0 F Mo β o st K r a w := by
  unfold opQ at h
  rw [ho] at h
  simp only at h
  cases hz : zeroPV E.P t with
  | none => rw [hz] at h; cases hu : E.P.underlying t with
    | none => rw [hu] at h; cases h
    | some d => rw [hu] at h; cases d <;> cases h
  | some z =>
    obtain ⟨zv, zcs, z1, z2, z3, z4⟩ := zeroPV_spec hz
    obtain ⟨it, i1, i2⟩ := run_zero_und z1
    have hzr : Rd E.P w (Mut Mo β st.B) t z zv.cells.toList := by rw [z4]; exact pvC_sound 10 z3
    rw [hz] at h
    cases hu : E.P.underlying t with
    | none => rw [hu] at h; cases h
    | some dd =>
      rw [hu] at h
      have hfst : (parts.map fun (i, x) => (i, a.eval x)).toList.map (·.1) = parts.toList.map (·.1) := by rw [Array.toList_map, List.map_map]; rfl
      -- the operation, where the parts have been laid into the zero value
      have fin : ∀ {C : Array Value} {p : PV}, E.P.built t (parts.map fun (i, x) => (i, a.eval x)).toList = some C → Rd E.P w (Mut Mo β st.B) t p C.toList → isAggT E.P t = true → K (.val t p) [] = some r → QOk E w0 F Mo β o st K r a w := by
        intro C p hb hr ha hK
        have hs : RS E.P w (Mut Mo β st.B) β st.B (.val t p) (.agg C) := .val (cs := C.toList) (by simp [Pack, ha]) hr
        refine QOk.val hR hk hK ?_ hs
        unfold execOp; rw [ho]
        simp only
        rw [Sem.run_bind, run_build w t _ C hb]; rfl
      cases dd with
      | struct fs =>
        simp only at h
        cases hp : plainsF E.P (parts.toList.filterMap fun x => fs[x.1]?) (parts.toList.map fun x => st.get E.P 0 x.2) with
        | none => rw [hp] at h; cases h
        | some l =>
          rw [hp] at h
          simp only at h
          obtain ⟨hall, h⟩ := cond_some h
          have hall' : ∀ x ∈ parts.toList, ∃ f, fs[x.1]? = some f ∧ E.P.cellsOf f.type ≠ 0 := by
            intro x hx
            have := List.all_eq_true.1 hall x hx
            cases hf : fs[x.1]? with
            | none => rw [hf] at this; cases this
            | some f => rw [hf] at this; exact ⟨f, rfl, by simpa [emptyT] using this⟩
          obtain ⟨q1, q2, q3⟩ := plainsF_spec hp
          have ht : t < E.P.types.size := hzr.lt_of_agg (isAggT_struct hu)
          have lay := layS hL ht hu
          obtain ⟨pl, p1, p2⟩ := mapM_places fs.toList lay.1
          obtain ⟨C, c1, c2⟩ := fill_parts hL ht (pl.toArray[·]?) (fun i => .fld i) (parts.map fun (i, x) => (i, a.eval x)).toList l z zv.cells hzr (by simp [q1])
            (fun k i v x hk hx => by
              obtain ⟨y, hy, rfl⟩ := parts_get hk
              obtain ⟨f, hf, h0⟩ := hall' (i, y) (List.mem_of_getElem? hy)
              have hg : (parts.toList.filterMap fun x => fs[x.1]?)[k]? = some f := by
                rw [filterMap_get (fun x hx => by obtain ⟨f, hf, _⟩ := hall' x hx; rw [hf]; rfl) k (i, y) hy]; exact hf
              have hs : (parts.toList.map fun x => st.get E.P 0 x.2)[k]? = some (st.get E.P 0 y) := by rw [List.getElem?_map, hy]; rfl
              have hpv := q3 k f _ x hg hs hx
              obtain ⟨xs, x1, x2⟩ := (get_sound hR 0 y).pvT hpv
              refine ⟨f.type, xs, f.offset, ?_, ?_, ?_, x1.cells (x2.one hL), x2⟩
              · simp [typT, hu, hf]
              · simp [offT, hu, hf, h0]
              · have := p2 i f (by simpa using hf)
                simpa using this)
          have hb : E.P.built t (parts.map fun (i, x) => (i, a.eval x)).toList = some C := by
            unfold Program.built
            rw [i1, hu]
            simp only [i2, p1]
            exact c1
          by_cases hown : hasOwn E (o.dst.getD 0) 0 fs.toList = true
          · rw [hown, cond_true] at h
            obtain ⟨hok, h⟩ := cond_some h
            simp only [Bool.and_eq_true] at hok
            have hs : RS E.P w (Mut Mo β st.B) β st.B (.agg t (nilFs E (o.dst.getD 0) (((parts.toList.map (·.1)).zip l).foldl (fun p x => p.put [.fld x.1] x.2) z) 0 fs.toList)) (.agg C) := by
              rw [hfst] at c2
              generalize ((parts.toList.map (·.1)).zip l).foldl (fun p x => p.put [.fld x.1] x.2) z = p at c2
              have hone := c2.one hL
              have hsz := c2.size hL ht
              have key : ∀ (fs' : Array Field) (l' : List PV), E.P.underlying t = some (.struct fs') → p = .agg l' → l'.length = fs'.size →
                  (∀ (i : Nat) (f : Field) (x : PV), fs'[i]? = some f → l'[i]? = some x → Rd E.P w (Mut Mo β st.B) f.type x ((C.toList.drop f.offset).take (E.P.cellsOf f.type))) → RS E.P w (Mut Mo β st.B) β st.B (.agg t (nilFs E (o.dst.getD 0) p 0 fs.toList)) (.agg C) := by
                intro fs' l' hu' hp' hl' hf
                rw [hu] at hu'; injection hu' with hu'; injection hu' with hu'; subst hu'
                subst hp'
                have hpick : ∃ vs : Nat → Value, ∀ (i : Nat) (f : Field), fs[i]? = some f → Pack E.P f.type (vs i) ((C.toList.drop f.offset).take (E.P.cellsOf f.type)) := by
                  have hall : ∀ i : Nat, ∃ v, ∀ f : Field, fs[i]? = some f → Pack E.P f.type v ((C.toList.drop f.offset).take (E.P.cellsOf f.type)) := fun i => ?_
                  · exact ⟨fun i => (hall i).choose, fun i => (hall i).choose_spec⟩
                  cases hfi : fs[i]? with
                  | none => exact ⟨undef, fun f hf => by cases hf⟩
                  | some f =>
                    have hli : i < l'.length := by
                      rw [hl']
                      rcases Nat.lt_or_ge i fs.size with h | h
                      · exact h
                      · rw [Array.getElem?_eq_none h] at hfi; cases hfi
                    obtain ⟨v, hv⟩ := (hf i f _ hfi (List.getElem?_eq_getElem hli)).pack
                    exact ⟨v, fun g hg => by injection hg with hg; subst hg; exact hv⟩
                obtain ⟨vs, hvs⟩ := hpick
                have hCC : (Value.agg C) = .agg C.toList.toArray := by simp
                rw [hCC]
                refine .agg (vs := vs) hu ht (by rw [nilFs_len]; simp) hsz hone (fun i f s hfi hs => ?_) (fun i s hs => ?_)
                · have hgi := nilFs_get (E := E) (o.dst.getD 0) (.agg l') 0 fs.toList i f (by simpa using hfi)
                  rw [hs] at hgi; injection hgi with hgi
                  refine ⟨?_, hvs i f hfi⟩
                  subst hgi
                  by_cases hoi : E.fldOwn (o.dst.getD 0) (0 + i) = true
                  · rw [hoi, cond_true]
                    obtain ⟨e, he⟩ := rowsOk_get _ 0 fs.toList i f hok.1 (by simpa using hfi) hoi
                    exact .inl (by simp [SV.pvT, he])
                  · rw [show E.fldOwn (o.dst.getD 0) (0 + i) = false by simpa using hoi, cond_false]
                    have hli : i < l'.length := by
                      rw [hl']
                      rcases Nat.lt_or_ge i fs.size with h | h
                      · exact h
                      · rw [Array.getElem?_eq_none h] at hfi; cases hfi
                    have hg := List.getElem?_eq_getElem hli
                    have hp : PV.fld (.agg l') (0 + i) = l'[i] := by rw [Nat.zero_add]; simp only [PV.fld, PV.flds]; exact getD_of hg
                    rw [hp]
                    exact isT_ofPV (hf i f _ hfi hg)
                · have hil : i < fs.toList.length := by have := get_lt hs; rwa [nilFs_len] at this
                  have hfi' := List.getElem?_eq_getElem hil
                  generalize fs.toList[i] = f at hfi'
                  have hfi : fs[i]? = some f := by simpa using hfi'
                  have hgi := nilFs_get (E := E) (o.dst.getD 0) (.agg l') 0 fs.toList i f hfi'
                  rw [hs] at hgi; injection hgi with hgi
                  subst hgi
                  have hli : i < l'.length := by rw [hl']; simpa using hil
                  have hg := List.getElem?_eq_getElem hli
                  by_cases hoi : E.fldOwn (o.dst.getD 0) (0 + i) = true
                  · rw [hoi, cond_true]
                    obtain ⟨e, he1⟩ := rowsOk_get _ 0 fs.toList i f hok.1 (by simpa using hfi) hoi
                    have hagg : isAggT E.P f.type = false := by simp [isAggT, he1]
                    have hc1 : E.P.cellsOf f.type = 1 := cells1 hL (lay.1 f (by simpa using Array.mem_of_getElem? hfi)) (by rw [he1]; rfl) hagg
                    have hpk := hvs i f hfi
                    unfold Pack at hpk
                    rw [if_neg (by simp [hagg]), hc1] at hpk
                    have hCf : C[f.offset]? = some (vs i) := by
                      have : ((C.toList.drop f.offset).take 1)[0]? = some (vs i) := by rw [hpk]; rfl
                      rw [List.getElem?_take_of_lt (by omega), List.getElem?_drop, Nat.add_zero, Array.getElem?_toList] at this
                      exact this
                    -- no part comes there
                    have hsame := fill_same _ _ _ _ c1 f.offset (fun k i2 v2 off2 n2 hk hp2 => by
                      obtain ⟨y, hy, rfl⟩ := parts_get hk
                      obtain ⟨g, hg2, h0⟩ := hall' (i2, y) (List.mem_of_getElem? hy)
                      have hpl := p2 i2 g (by simpa using hg2)
                      have hpl' : (some (g.offset, E.P.cellsOf g.type) : Option (Nat × Nat)) = some (off2, n2) := by
                        rw [← hpl]; simpa using hp2
                      injection hpl' with hpl'; injection hpl' with e1 e2
                      subst e1; subst e2
                      have hne : i2 ≠ i := by
                        intro hh; subst hh
                        have := List.all_eq_true.1 hok.2 (i2, y) (List.mem_of_getElem? hy)
                        rw [Nat.zero_add] at hoi
                        simp [hoi] at this
                      rcases Nat.lt_or_gt_of_ne hne with hlt | hlt
                      · have := lay.apart hg2 hfi hlt; omega
                      · have := lay.apart hfi hg2 hlt; rw [hc1] at this; omega)
                    have hzc : zv.cells[f.offset]? = some (vs i) := by rw [← hsame]; exact hCf
                    have hnil : vs i = .slice none 0 0 := by
                      have h10 : ∃ l0, pvC E.P 10 t zcs = some l0 := ⟨_, z3⟩
                      obtain ⟨l0, h10⟩ := h10
                      unfold pvC at h10
                      rw [hu] at h10
                      simp only [Bool.cond_eq_ite, Bool.and_eq_true, decide_eq_true_eq] at h10
                      split at h10
                      · cases hm : fs.toList.mapM fun f => pvC E.P 9 f.type ((zcs.drop f.offset).take (E.P.cellsOf f.type)) with
                        | none => rw [hm] at h10; cases h10
                        | some l1 =>
                          obtain ⟨hl1, hmm⟩ := mapM_some hm
                          have hil1 : i < l1.length := by rw [hl1]; exact hil
                          have h9 := hmm i f l1[i] hfi' (List.getElem?_eq_getElem hil1)
                          rw [hc1] at h9
                          rw [z4] at hzc
                          have hz1 : (zcs.drop f.offset).take 1 = [vs i] := by
                            have hz0 : zcs[f.offset]? = some (vs i) := by simpa using hzc
                            have hlt : f.offset < zcs.length := get_lt hz0
                            rw [List.drop_eq_getElem_cons hlt]
                            rw [List.getElem?_eq_getElem hlt] at hz0
                            injection hz0 with hz0
                            rw [hz0]; rfl
                          rw [hz1] at h9
                          exact pvC_slice he1 h9
                      · cases h10
                    rw [hnil]
                    exact .nils
                  · rw [show E.fldOwn (o.dst.getD 0) (0 + i) = false by simpa using hoi, cond_false]
                    have hp : PV.fld (.agg l') (0 + i) = l'[i] := by rw [Nat.zero_add]; simp only [PV.fld, PV.flds]; exact getD_of hg
                    rw [hp]
                    exact RS.ofPV (hvs i f hfi) (hf i f _ hfi hg)
              generalize hcl : C.toList = cl at c2
              cases c2 with
              | @struct _ gs l' _ hu' ht' hl' hc' hf => exact key gs l' hu' rfl hl' (by rw [hcl]; exact hf)
              | int hu' => rw [hu] at hu'; cases hu'
              | bool hu' => rw [hu] at hu'; cases hu'
              | str hu' => rw [hu] at hu'; cases hu'
              | flt hu' => rw [hu] at hu'; cases hu'
              | nilSlice hu' => rw [hu] at hu'; cases hu'
              | slice hu' => rw [hu] at hu'; cases hu'
              | nilPtr hu' => rw [hu] at hu'; cases hu'
              | ref hu' => rw [hu] at hu'; cases hu'
              | nilIface hu' => rw [hu] at hu'; cases hu'
              | arr hu' => rw [hu] at hu'; cases hu'
            refine QOk.val hR hk h ?_ hs
            unfold execOp; rw [ho]
            simp only
            rw [Sem.run_bind, run_build w t _ C hb]; rfl
          · rw [show hasOwn E (o.dst.getD 0) 0 fs.toList = false by simpa using hown, cond_false] at h
            refine fin hb c2 (isAggT_struct hu) ?_
            rw [hfst]
            exact h
      | array n e =>
        simp only at h
        cases hp : plainsE E.P e (parts.toList.map fun x => st.get E.P e x.2) with
        | none => rw [hp] at h; cases h
        | some l =>
          rw [hp] at h
          simp only at h
          obtain ⟨hall, h⟩ := cond_some h
          have hall' : ∀ x ∈ parts.toList, x.1 < n := by
            intro x hx
            have := List.all_eq_true.1 hall x hx
            simpa using this
          obtain ⟨q1, q3⟩ := plainsE_spec hp
          have ht : t < E.P.types.size := hzr.lt_of_agg (isAggT_arr hu)
          have lay := layA hL ht hu
          obtain ⟨ie, hi, hc⟩ := info_lt lay.1
          obtain ⟨C, c1, c2⟩ := fill_parts hL ht (fun i => some (i * ie.size, ie.size)) (fun i => .idx i) (parts.map fun (i, x) => (i, a.eval x)).toList l z zv.cells hzr (by simp [q1])
            (fun k i v x hk hx => by
              obtain ⟨y, hy, rfl⟩ := parts_get hk
              have hf := hall' (i, y) (List.mem_of_getElem? hy)
              have hs : (parts.toList.map fun x => st.get E.P e x.2)[k]? = some (st.get E.P e y) := by rw [List.getElem?_map, hy]; rfl
              have hpv := q3 k _ x hs hx
              obtain ⟨xs, x1, x2⟩ := (get_sound hR e y).pvT hpv
              refine ⟨e, xs, i * E.P.cellsOf e, ?_, ?_, ?_, x1.cells (x2.one hL), x2⟩
              · simp [typT, hu]
              · simp only [offT, hu]
                rw [if_pos ⟨by omega, by exact_mod_cast hf⟩]; simp
              · rw [hc])
          have hb : E.P.built t (parts.map fun (i, x) => (i, a.eval x)).toList = some C := by
            unfold Program.built
            rw [i1, hu]
            simp only [i2, hi]
            exact c1
          refine fin hb c2 (isAggT_arr hu) ?_
          rw [hfst]
          exact h
      | _ => cases h

end
end Go.X
