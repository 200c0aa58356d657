/- The interpreter X, part 26: append. -/
import Derived.Test.YtbmhbnkejgjfdaaX25
namespace Go.X
open Go
section
variable {E : Env} {w0 : World} {F : Foot} {Mo : Nat → Prop} {st : St} {K : St → Option Out} {r : Out} {a : Act} {w : World}

/-- What is appended, as cells. -/
theorem appended_src (hL : laidOutB E.P = true) {β : Beta} (hR : Rel E.P Mo β st.T st.B a.tmps.toList w) {e xt : TypeId} (he : e < E.P.types.size) {x : SV} {v : Value} {m : List PV} (hs : RS E.P w (Mut Mo β st.B) β st.B x v) (h : appended E.P st e xt x = some m) :
    ∃ news, Src E.P (E.P.cellsOf e) xt v m.length news w ∧ Rows E.P w (Mut Mo β st.B) e m news := by
  unfold appended at h
  cases hu : E.P.underlying xt with
  | none => rw [hu] at h; cases h
  | some dd =>
    rw [hu] at h
    cases dd with
    | string =>
      cases x with
      | str l =>
        simp only at h
        cases hue : E.P.underlying e with
        | none => rw [hue] at h; cases h
        | some de =>
          rw [hue] at h
          split at h
          · rename_i hde
            injection hde with hde; subst hde
            injection h with h; subst h
            generalize hsx : SV.str l = sx at hs
            cases hs with
            | @str s hw =>
              injection hsx with hsx
              subst hsx
              have hce : E.P.cellsOf e = 1 := cells1 hL he (by rw [hue]; rfl) (by simp [isAggT, hue])
              have hrow : byteCells s = (bytesRow s s.size).toList := by
                unfold byteCells bytesRow
                simp
              refine ⟨byteCells s, ?_, ?_⟩
              · rw [hce, List.length_map, chars_len]
                exact Src.ofString w hu s
              · rw [hrow]
                exact (bytesRow_rows hL hue he s s.size (Nat.le_refl _)).1
            | _ => cases hsx
          · cases h
      | _ => cases h
    | slice e' =>
      simp only at h
      obtain ⟨hee, h⟩ := cond_some h
      have hee : e' = e := by simpa using hee
      subst hee
      rcases elems_sound hR hs h with ⟨rfl, rfl⟩ | ⟨ad, c, cs, rfl, hlc, hcm, hcell, hrd⟩
      · exact ⟨[], Src.ofNil w hu 0, fun i p hi => by simp at hi⟩
      · -- the cells, one behind the other
        let news : List Value := (List.range (m.length * E.P.cellsOf e')).map fun k => ((cs (k / E.P.cellsOf e')).getD (k % E.P.cellsOf e') undef)
        have hnl : news.length = m.length * E.P.cellsOf e' := by simp [news]
        have hng : ∀ i j, i < m.length → j < E.P.cellsOf e' → news[i * E.P.cellsOf e' + j]? = (cs i)[j]? := by
          intro i j hi hj
          have hb := mul_within (n := E.P.cellsOf e') hi
          have hcl := (hcell i hi).1
          show ((List.range (m.length * E.P.cellsOf e')).map fun k => ((cs (k / E.P.cellsOf e')).getD (k % E.P.cellsOf e') undef))[i * E.P.cellsOf e' + j]? = _
          rw [List.getElem?_map, List.getElem?_range (by omega)]
          have h1 : (i * E.P.cellsOf e' + j) / E.P.cellsOf e' = i := by
            rw [Nat.mul_comm, Nat.mul_add_div (by omega), Nat.div_eq_of_lt hj, Nat.add_zero]
          have h2 : (i * E.P.cellsOf e' + j) % E.P.cellsOf e' = j := by
            rw [Nat.mul_comm, Nat.mul_add_mod, Nat.mod_eq_of_lt hj]
          simp only [Option.map_some, h1, h2]
          rw [List.getElem?_eq_getElem (by omega), List.getD_eq_getElem?_getD, List.getElem?_eq_getElem (by omega)]; rfl
        have hsub : ∀ i, i < m.length → sub news (i * E.P.cellsOf e') (E.P.cellsOf e') = cs i := by
          intro i hi
          apply List.ext_getElem?
          intro j
          rw [sub_get]
          by_cases hj : j < E.P.cellsOf e'
          · rw [if_pos hj, hng i j hi hj]
          · rw [if_neg hj, List.getElem?_eq_none (by rw [(hcell i hi).1]; omega)]
        have split : ∀ k x, news[k]? = some x → ∃ i j, i < m.length ∧ j < E.P.cellsOf e' ∧ k = i * E.P.cellsOf e' + j ∧ (cs i)[j]? = some x := by
          intro k x hk
          have hkl := get_lt hk
          rw [hnl] at hkl
          have h0 : 0 < E.P.cellsOf e' := by
            rcases Nat.eq_zero_or_pos (E.P.cellsOf e') with h | h
            · rw [h] at hkl; simp at hkl
            · exact h
          have hi : k / E.P.cellsOf e' < m.length := (Nat.div_lt_iff_lt_mul h0).2 hkl
          have hj := Nat.mod_lt k h0
          have hd : k = k / E.P.cellsOf e' * E.P.cellsOf e' + k % E.P.cellsOf e' := by
            have := Nat.div_add_mod k (E.P.cellsOf e'); rw [Nat.mul_comm] at this; omega
          refine ⟨_, _, hi, hj, hd, ?_⟩
          rw [← hng _ _ hi hj, ← hd]; exact hk
        refine ⟨news, Src.ofSlice w hu ad m.length c news hnl (fun k x hk => ?_) (fun x hx => ?_), fun i p hi => ?_⟩
        · obtain ⟨i, j, hi, hj, rfl, hx⟩ := split k x hk
          have := (hcell i hi).2 j x hx
          rwa [add_add] at this
        · obtain ⟨k, hk⟩ := List.getElem?_of_mem hx
          obtain ⟨i, j, hi, hj, rfl, hx⟩ := split k x hk
          have hg := List.getElem?_eq_getElem hi
          exact (hrd i _ hg).one hL x (List.mem_of_getElem? hx)
        · rw [hsub i (get_lt hi)]
          exact hrd i p hi
    | _ => cases h

theorem Rows.app {P : Program} {w : World} {M : Nat → Prop} {e : TypeId} {l m : List PV} {cs news rest : List Value} (hl : Rows P w M e l cs) (hm : Rows P w M e m news) (hcl : l.length * P.cellsOf e ≤ cs.length) (hnl : news.length = m.length * P.cellsOf e) :
    Rows P w M e (l ++ m) (cs.take (l.length * P.cellsOf e) ++ (news ++ rest)) := by
  intro i p hi
  by_cases h : i < l.length
  · rw [List.getElem?_append_left h] at hi
    have hb := mul_within (n := P.cellsOf e) h
    have : sub (cs.take (l.length * P.cellsOf e) ++ (news ++ rest)) (i * P.cellsOf e) (P.cellsOf e) = sub cs (i * P.cellsOf e) (P.cellsOf e) := by
      apply List.ext_getElem?
      intro j
      rw [sub_get, sub_get]
      by_cases hj : j < P.cellsOf e
      · rw [if_pos hj, if_pos hj, List.getElem?_append_left (by simp; omega), List.getElem?_take_of_lt (by omega)]
      · rw [if_neg hj, if_neg hj]
    rw [this]; exact hl i p hi
  · rw [List.getElem?_append_right (by omega)] at hi
    have hil := get_lt hi
    have hb := mul_within (n := P.cellsOf e) hil
    have hi2 : i * P.cellsOf e = l.length * P.cellsOf e + (i - l.length) * P.cellsOf e := by
      rw [← Nat.add_mul]; congr 1; omega
    have : sub (cs.take (l.length * P.cellsOf e) ++ (news ++ rest)) (i * P.cellsOf e) (P.cellsOf e) = sub news ((i - l.length) * P.cellsOf e) (P.cellsOf e) := by
      apply List.ext_getElem?
      intro j
      rw [sub_get, sub_get]
      by_cases hj : j < P.cellsOf e
      · rw [if_pos hj, if_pos hj, List.getElem?_append_right (by simp; omega), List.getElem?_append_left (by simp; omega)]
        congr 1; simp; omega
      · rw [if_neg hj, if_neg hj]
    rw [this]; exact hm _ p hi

theorem zero_one {P : Program} (hL : laidOutB P = true) {e : TypeId} (he : e < P.types.size) {z : PV} {zcs : List Value} {zv : Value} (hz : pvC P 10 e zcs = some z) (h4 : zv.cells = zcs.toArray) (n : Nat) :
    (∀ c ∈ (Builtin.zeroCells zv.cells n).toList, c.oneCell' = true) ∧ (Builtin.zeroCells zv.cells n).size = n * P.cellsOf e := by
  have hr : Rd P default (fun _ => True) e z zcs := pvC_sound 10 hz
  have hl := hr.size hL he
  have hs : (Builtin.zeroCells zv.cells n).size = n * P.cellsOf e := by rw [size_zeroCells, h4]; simp [hl]
  refine ⟨fun c hc => ?_, hs⟩
  obtain ⟨k, hk⟩ := List.getElem?_of_mem hc
  have hkl := get_lt hk
  rw [Array.length_toList, hs] at hkl
  have h0 : 0 < P.cellsOf e := by
    rcases Nat.eq_zero_or_pos (P.cellsOf e) with h | h
    · rw [h] at hkl; simp at hkl
    · exact h
  have hm := Nat.mod_lt k h0
  rw [Array.getElem?_toList] at hk
  unfold Builtin.zeroCells at hk
  rw [Array.getElem?_map, Array.getElem?_range, h4] at hk
  simp only [List.size_toArray, hl] at hk
  rw [if_pos hkl] at hk
  simp only [Option.map_some, Option.some.injEq] at hk
  rw [getElem!_pos _ _ (by simp; omega)] at hk
  subst hk
  refine hr.one hL _ ?_
  simp

end
end Go.X
