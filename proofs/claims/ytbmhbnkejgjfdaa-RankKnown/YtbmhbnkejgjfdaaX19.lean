/- The interpreter X, part 19: composite values and slice literals. -/
import Derived.Test.YtbmhbnkejgjfdaaX18
import Derived.Laws.Tables
import Derived.Laws.MakeOwn
import Derived.Laws.IdiomStrings
import Derived.Laws.BytesString
import Derived.Laws.AppendOwn
namespace Go.X
open Go

theorem fold_get (off : Nat) : ∀ (xs : List Value) (k : Nat) (C : Array Value) (j : Nat),
    ((xs.zipIdx k).foldl (fun (cs : Array Value) (x : Value × Nat) => cs.setIfInBounds (off + x.2) x.1) C)[j]? = if off + k ≤ j ∧ j < off + k + xs.length ∧ j < C.size then xs[j - off - k]? else C[j]?
  | [], k, C, j => by
    rw [if_neg (by simp; omega)]; rfl
  | x :: xs, k, C, j => by
    rw [List.zipIdx_cons, List.foldl_cons, fold_get off xs (k + 1)]
    simp only [Array.size_setIfInBounds, Array.getElem?_setIfInBounds, List.length_cons]
    by_cases h1 : off + k = j
    · rw [if_neg (by omega), if_pos h1]
      subst h1
      by_cases h2 : off + k < C.size
      · rw [if_pos h2, if_pos (by omega)]
        rw [show off + k - off - k = 0 by omega]; rfl
      · rw [if_neg h2, if_neg (by omega), Array.getElem?_eq_none (by omega)]
    · rw [if_neg h1]
      by_cases h2 : off + k + 1 ≤ j ∧ j < off + k + 1 + xs.length ∧ j < C.size
      · rw [if_pos (by omega), if_pos (by omega)]
        rw [show j - off - k = (j - off - (k + 1)) + 1 by omega, List.getElem?_cons_succ]
      · rw [if_neg (by omega), if_neg (by omega)]

theorem fill_step {v : Value} {xs : List Value} {C : Array Value} {off : Nat} (hc : v.cells.toList = xs) (ho : off + xs.length ≤ C.size) :
    v.cells.zipIdx.foldl (fun (cs : Array Value) (c, j) => cs.setIfInBounds (off + j) c) C = (splice C.toList off xs).toArray := by
  apply Array.ext_getElem?
  intro j
  rw [← Array.foldl_toList, Array.toList_zipIdx, hc]
  refine (fold_get off xs 0 C j).trans ?_
  rw [show (splice C.toList off xs).toArray[j]? = (splice C.toList off xs)[j]? by simp, splice_get (by simpa using ho), Nat.add_zero, Nat.sub_zero]
  by_cases h1 : j < off
  · rw [if_neg (by omega), if_pos h1, Array.getElem?_toList]
  · rw [if_neg h1]
    by_cases h2 : j < off + xs.length
    · rw [if_pos (by omega), if_pos h2]
    · rw [if_neg (by omega), if_neg h2, Array.getElem?_toList]

section
variable {P : Program}

/-- Parts that are put into a whole, one by one. -/
theorem fill_parts (hL : laidOutB P = true) {w : World} {M : Nat → Prop} {t : TypeId} (ht : t < P.types.size) (place : Nat → Option (Nat × Nat)) (stp : Nat → Stp) :
    ∀ (parts : List (Nat × Value)) (ps : List PV) (p : PV) (C : Array Value), Rd P w M t p C.toList → parts.length = ps.length →
      (∀ (k i : Nat) (v : Value) (x : PV), parts[k]? = some (i, v) → ps[k]? = some x → ∃ u xs off, typT P t [stp i] = some u ∧ offT P t [stp i] = some off ∧ place i = some (off, P.cellsOf u) ∧
        v.cells.toList = xs ∧ Rd P w M u x xs) →
      ∃ C', Instr.fill place C parts = some C' ∧ Rd P w M t (((parts.map (·.1)).zip ps).foldl (fun p x => p.put [stp x.1] x.2) p) C'.toList
  | [], ps, p, C, hr, _, _ => by
    refine ⟨C, rfl, ?_⟩
    simpa using hr
  | (i, v) :: parts, [], p, C, hr, hl, _ => by simp at hl
  | (i, v) :: parts, x :: ps, p, C, hr, hl, h => by
    obtain ⟨u, xs, off, h1, h2, h3, h4, h5⟩ := h 0 i v x rfl rfl
    obtain ⟨g1, g2, _⟩ := hr.get hL _ ht h1 h2
    have hxl := h5.size hL g1
    have hCl := hr.size hL ht
    have hCs : C.size = P.cellsOf t := by simpa using hCl
    have hvs : v.cells.size = P.cellsOf u := by rw [← hxl, ← h4]; simp
    have hput := hr.put hL _ ht h1 h2 h5
    have hstep : (v.cells.zipIdx.foldl (fun (cs : Array Value) (c, j) => cs.setIfInBounds (off + j) c) C) = (splice C.toList off xs).toArray := fill_step h4 (by omega)
    obtain ⟨C', k1, k2⟩ := fill_parts hL ht place stp parts ps (p.put [stp i] x) (splice C.toList off xs).toArray (by simpa using hput) (by simpa using hl)
      (fun k i' v' x' hk hx => h (k + 1) i' v' x' (by simpa using hk) (by simpa using hx))
    refine ⟨C', ?_, k2⟩
    rw [Instr.fill]
    simp only [h3]
    rw [if_neg (by simp only [hvs, ne_eq, not_true_eq_false, decide_false, Bool.false_or, decide_eq_true_eq, gt_iff_lt]; omega), hstep]
    exact k1

theorem filterMap_get {α γ : Type} {g : α → Option γ} : ∀ {l : List α}, (∀ x ∈ l, (g x).isSome = true) → ∀ (k : Nat) (x : α), l[k]? = some x → (l.filterMap g)[k]? = g x
  | [], _, k, x, h => by simp at h
  | a :: l, ha, k, x, h => by
    obtain ⟨y, hy⟩ := Option.isSome_iff_exists.1 (ha a (by simp))
    rw [List.filterMap_cons_some hy]
    cases k with
    | zero =>
      replace h : a = x := by simpa using h
      subst h; exact hy.symm
    | succ k => exact filterMap_get (fun x hx => ha x (by simp [hx])) k x (by simpa using h)

theorem filterMap_len {α γ : Type} {g : α → Option γ} : ∀ {l : List α}, (∀ x ∈ l, (g x).isSome = true) → (l.filterMap g).length = l.length
  | [], _ => rfl
  | a :: l, ha => by
    obtain ⟨y, hy⟩ := Option.isSome_iff_exists.1 (ha a (by simp))
    rw [List.filterMap_cons_some hy, List.length_cons, List.length_cons, filterMap_len (fun x hx => ha x (by simp [hx]))]

theorem run_zero_und {t : TypeId} {z : Value} (h : ∀ w, (zeroValue t).run P w = .ok z w) : ∃ i, P.info? t = some i ∧ i.zero = some z := by
  have h0 := h default
  unfold zeroValue typeInfo at h0
  simp only [Sem.run_bind, run_program, Result.andThen_ok] at h0
  cases hi : P.info? t with
  | none => rw [hi] at h0; cases h0
  | some i =>
    rw [hi] at h0
    simp only [Sem.run_pure, Result.andThen_ok] at h0
    cases hz : i.zero with
    | none => rw [hz] at h0; cases h0
    | some z' =>
      rw [hz] at h0
      simp only [Sem.run_pure] at h0
      injection h0 with h0
      exact ⟨i, rfl, by rw [← h0]; exact hz⟩

theorem info_lt {t : TypeId} (h : t < P.types.size) : ∃ i, P.info? t = some i ∧ P.cellsOf t = i.size := by
  have h1 : P.info? t = P.types[t]? := by unfold Tables.info?; rw [if_pos h]
  rw [Array.getElem?_eq_getElem h] at h1
  exact ⟨_, h1, by unfold Program.cellsOf; rw [h1]; rfl⟩

theorem Rd.lt_of_agg {w : World} {M : Nat → Prop} {t : TypeId} {p : PV} {cs : List Value} (h : Rd P w M t p cs) (ha : isAggT P t = true) : t < P.types.size := by
  cases h with
  | struct _ h => exact h
  | arr _ h => exact h
  | int hu => simp [isAggT, hu] at ha
  | bool hu => simp [isAggT, hu] at ha
  | str hu => simp [isAggT, hu] at ha
  | flt hu => simp [isAggT, hu] at ha
  | nilSlice hu => simp [isAggT, hu] at ha
  | slice hu => simp [isAggT, hu] at ha
  | nilPtr hu => simp [isAggT, hu] at ha
  | ref hu => simp [isAggT, hu] at ha
  | nilIface hu => simp [isAggT, hu] at ha

theorem mapM_places : ∀ (fs : List Field), (∀ f ∈ fs, f.type < P.types.size) → ∃ pl : List (Nat × Nat), fs.mapM (fun f => (P.info? f.type).map fun i => (f.offset, i.size)) = some pl ∧
    ∀ (k : Nat) (f : Field), fs[k]? = some f → pl[k]? = some (f.offset, P.cellsOf f.type)
  | [], _ => ⟨[], rfl, fun k f h => by simp at h⟩
  | f :: fs, h => by
    obtain ⟨pl, h1, h2⟩ := mapM_places fs (fun g hg => h g (by simp [hg]))
    have hf := h f (by simp)
    obtain ⟨ie, hi, hc⟩ := info_lt hf
    refine ⟨(f.offset, P.cellsOf f.type) :: pl, ?_, fun k g hg => ?_⟩
    · simp only [List.mapM_cons, hi, Option.map_some, h1, hc]; rfl
    · cases k with
      | zero => 
        replace hg : f = g := by simpa using hg
        subst hg; rfl
      | succ k => exact h2 k g (by simpa using hg)

end

section
variable {E : Env} {w0 : World} {F : Foot} {Mo : Nat → Prop} {st : St} {K : SV → Obs → Option Out} {r : Out} {a : Act} {w : World} {β : Beta}

theorem parts_get {α : Type} {parts : Array (Nat × Operand)} {f : Operand → α} {k i : Nat} {v : α} (h : (parts.map fun (i, x) => (i, f x)).toList[k]? = some (i, v)) :
    ∃ x, parts.toList[k]? = some (i, x) ∧ v = f x := by
  rw [Array.toList_map, List.getElem?_map] at h
  cases hp : parts.toList[k]? with
  | none => rw [hp] at h; cases h
  | some y =>
    rw [hp] at h
    obtain ⟨j, x⟩ := y
    simp only [Option.map_some, Option.some.injEq, Prod.mk.injEq] at h
    obtain ⟨rfl, rfl⟩ := h
    exact ⟨x, rfl, rfl⟩

theorem q_build (hL : laidOutB E.P = true) (hR : Rel E.P Mo β st.T st.B a.tmps.toList w) (hk : Kp w0 F β st.B w) {o : Oper} {t : TypeId} {parts : Array (Nat × Operand)} (ho : o.op = .build t parts) (h : opQ E o st K = some r) :
    QOk E w0 F Mo β o st K r a w := by
  unfold opQ at h
  rw [ho] at h
  simp only at h
  cases hz : zeroPV E.P t with
  | none => rw [hz] at h; cases hu : E.P.underlying t with
    | none => rw [hu] at h; cases h
    | some d => rw [hu] at h; cases d <;> cases h
  | some z =>
    obtain ⟨zv, zcs, z1, z2, z3, z4⟩ := zeroPV_spec hz
    obtain ⟨it, i1, i2⟩ := run_zero_und z1
    have hzr : Rd E.P w (Mut Mo β st.B) t z zv.cells.toList := by rw [z4]; exact pvC_sound 10 z3
    rw [hz] at h
    cases hu : E.P.underlying t with
    | none => rw [hu] at h; cases h
    | some dd =>
      rw [hu] at h
      have hfst : (parts.map fun (i, x) => (i, a.eval x)).toList.map (·.1) = parts.toList.map (·.1) := by rw [Array.toList_map, List.map_map]; rfl
      -- the operation, where the parts have been laid into the zero value
      have fin : ∀ {C : Array Value} {p : PV}, E.P.built t (parts.map fun (i, x) => (i, a.eval x)).toList = some C → Rd E.P w (Mut Mo β st.B) t p C.toList → isAggT E.P t = true → K (.val t p) [] = some r → QOk E w0 F Mo β o st K r a w := by
        intro C p hb hr ha hK
        have hs : RS E.P w (Mut Mo β st.B) β st.B (.val t p) (.agg C) := .val (cs := C.toList) (by simp [Pack, ha]) hr
        refine QOk.val hR hk hK ?_ hs
        unfold execOp; rw [ho]
        simp only
        rw [Sem.run_bind, run_build w t _ C hb]; rfl
      cases dd with
      | struct fs =>
        simp only at h
        cases hp : plainsF E.P (parts.toList.filterMap fun x => fs[x.1]?) (parts.toList.map fun x => st.get E.P 0 x.2) with
        | none => rw [hp] at h; cases h
        | some l =>
          rw [hp] at h
          simp only at h
          obtain ⟨hall, h⟩ := cond_some h
          have hall' : ∀ x ∈ parts.toList, ∃ f, fs[x.1]? = some f ∧ E.P.cellsOf f.type ≠ 0 := by
            intro x hx
            have := List.all_eq_true.1 hall x hx
            cases hf : fs[x.1]? with
            | none => rw [hf] at this; cases this
            | some f => rw [hf] at this; exact ⟨f, rfl, by simpa [emptyT] using this⟩
          obtain ⟨q1, q2, q3⟩ := plainsF_spec hp
          have ht : t < E.P.types.size := hzr.lt_of_agg (isAggT_struct hu)
          have lay := layS hL ht hu
          obtain ⟨pl, p1, p2⟩ := mapM_places fs.toList lay.1
          obtain ⟨C, c1, c2⟩ := fill_parts hL ht (pl.toArray[·]?) (fun i => .fld i) (parts.map fun (i, x) => (i, a.eval x)).toList l z zv.cells hzr (by simp [q1])
            (fun k i v x hk hx => by
              obtain ⟨y, hy, rfl⟩ := parts_get hk
              obtain ⟨f, hf, h0⟩ := hall' (i, y) (List.mem_of_getElem? hy)
              have hg : (parts.toList.filterMap fun x => fs[x.1]?)[k]? = some f := by
                rw [filterMap_get (fun x hx => by obtain ⟨f, hf, _⟩ := hall' x hx; rw [hf]; rfl) k (i, y) hy]; exact hf
              have hs : (parts.toList.map fun x => st.get E.P 0 x.2)[k]? = some (st.get E.P 0 y) := by rw [List.getElem?_map, hy]; rfl
              have hpv := q3 k f _ x hg hs hx
              obtain ⟨xs, x1, x2⟩ := (get_sound hR 0 y).pvT hpv
              refine ⟨f.type, xs, f.offset, ?_, ?_, ?_, x1.cells (x2.one hL), x2⟩
              · simp [typT, hu, hf]
              · simp [offT, hu, hf, h0]
              · have := p2 i f (by simpa using hf)
                simpa using this)
          have hb : E.P.built t (parts.map fun (i, x) => (i, a.eval x)).toList = some C := by
            unfold Program.built
            rw [i1, hu]
            simp only [i2, p1]
            exact c1
          refine fin hb c2 (isAggT_struct hu) ?_
          rw [hfst]
          exact h
      | array n e =>
        simp only at h
        cases hp : plainsE E.P e (parts.toList.map fun x => st.get E.P e x.2) with
        | none => rw [hp] at h; cases h
        | some l =>
          rw [hp] at h
          simp only at h
          obtain ⟨hall, h⟩ := cond_some h
          have hall' : ∀ x ∈ parts.toList, x.1 < n := by
            intro x hx
            have := List.all_eq_true.1 hall x hx
            simpa using this
          obtain ⟨q1, q3⟩ := plainsE_spec hp
          have ht : t < E.P.types.size := hzr.lt_of_agg (isAggT_arr hu)
          have lay := layA hL ht hu
          obtain ⟨ie, hi, hc⟩ := info_lt lay.1
          obtain ⟨C, c1, c2⟩ := fill_parts hL ht (fun i => some (i * ie.size, ie.size)) (fun i => .idx i) (parts.map fun (i, x) => (i, a.eval x)).toList l z zv.cells hzr (by simp [q1])
            (fun k i v x hk hx => by
              obtain ⟨y, hy, rfl⟩ := parts_get hk
              have hf := hall' (i, y) (List.mem_of_getElem? hy)
              have hs : (parts.toList.map fun x => st.get E.P e x.2)[k]? = some (st.get E.P e y) := by rw [List.getElem?_map, hy]; rfl
              have hpv := q3 k _ x hs hx
              obtain ⟨xs, x1, x2⟩ := (get_sound hR e y).pvT hpv
              refine ⟨e, xs, i * E.P.cellsOf e, ?_, ?_, ?_, x1.cells (x2.one hL), x2⟩
              · simp [typT, hu]
              · simp only [offT, hu]
                rw [if_pos ⟨by omega, by exact_mod_cast hf⟩]; simp
              · rw [hc])
          have hb : E.P.built t (parts.map fun (i, x) => (i, a.eval x)).toList = some C := by
            unfold Program.built
            rw [i1, hu]
            simp only [i2, hi]
            exact c1
          refine fin hb c2 (isAggT_arr hu) ?_
          rw [hfst]
          exact h
      | _ => cases h

end
end Go.X
