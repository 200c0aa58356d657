/- The interpreter X, part 31: one operation. -/
import Derived.Test.YtbmhbnkejgjfdaaX30
namespace Go.X
open Go
section
variable {E : Env} {w0 : World} {F : Foot} {Mo : Nat → Prop} {st : St} {a : Act} {w : World}

/-- The numbers under which an operation makes objects are free. -/
structure Free (E : Env) (o : Oper) (st : St) : Prop where
  dst : (match o.op with | .box _ _ | .buildSlice _ _ _ | .makeSlice _ _ _ | .convert _ _ _ | .alloc _ => true | _ => false) = true → Obs.get st.B (o.dst.getD 0) = none
  rows : ∀ t, o.op = .alloc t → ∀ x ∈ zeroRows E (o.dst.getD 0) 0 (fieldsOf E.P t), Obs.get st.B x.1 = none

theorem opQ_sound (hL : laidOutB E.P = true) (hC : OracleOk E.P E.C) {β : Beta} (hR : Rel E.P Mo β st.T st.B a.tmps.toList w) (hk : Kp w0 F β st.B w) {o : Oper} (hlo : o.dst.getD 0 < lowB) (hfree : Free E o st) {K : SV → Obs → Option Out} {r : Out}
    (h : opQ E o st K = some r) : QOk E w0 F Mo β o st K r a w := by
  cases hop : o.op with
  | move x => exact q_move hR hk hlo (.inl hop) h
  | assign x => exact q_move hR hk hlo (.inr hop) h
  | pick c x y => exact q_pick hR hk hop h
  | alloc t => exact q_alloc hL hR hk hop (hfree.dst (by rw [hop])) hlo (hfree.rows t hop) h
  | box t x => exact q_box hL hR hk hop (hfree.dst (by rw [hop])) hlo h
  | build t ps => exact q_build hL hR hk hop h
  | buildSlice t n ps => exact q_buildSlice hL hR hk hop (hfree.dst (by rw [hop])) hlo h
  | load t x => exact q_load hL hR hk hop h
  | nilCheck x => exact q_nilCheck hR hk hop h
  | fieldAddr t x f => exact q_fieldAddr hL hR hk hop h
  | indexAddr t x i => exact q_indexAddr hL hR hk hop h
  | index t x i => exact q_index hL hR hk hop h
  | field t x f => exact q_field hR hk hop h
  | extract x i => exact q_extract hR hk hop h
  | slice t x lo hi mx =>
    cases mx with
    | none => exact q_slice hR hk hop h
    | some m => unfold opQ at h; rw [hop] at h; cases h
  | binOp op t x y u => exact q_binOp hR hk hop h
  | unOp u t x => exact q_unop hR hk hop h
  | convert s t x => exact q_convert hL hR hk hop (hfree.dst (by rw [hop])) hlo h
  | makeFunc f first caps =>
    cases f with
    | func f => exact q_makeFunc hR hk hop h
    | _ => unfold opQ at h; rw [hop] at h; cases h
  | makeSlice t l c => exact q_makeSlice hL hR hk hop (hfree.dst (by rw [hop])) hlo h
  | call c =>
    obtain ⟨callee, args, ts⟩ := c
    cases callee with
    | builtin b =>
      cases b with
      | len => exact q_len hR hk hop h
      | min => exact q_minmax hR hk (.inl rfl) hop h
      | max => exact q_minmax hR hk (.inr rfl) hop h
      | _ => unfold opQ at h; rw [hop] at h; cases h
    | value x =>
      cases x with
      | func f => exact q_call hC hR hop h
      | _ => unfold opQ at h; rw [hop] at h; cases h
    | _ => unfold opQ at h; rw [hop] at h; cases h
  | _ => unfold opQ at h; rw [hop] at h; cases h

theorem args_rs {β : Beta} (hR : Rel E.P Mo β st.T st.B a.tmps.toList w) (args : List Operand) (t : TypeId) : ∀ (i : Nat) (s : SV) (v : Value), (args.map (st.get E.P t))[i]? = some s → (args.map a.eval)[i]? = some v → RS E.P w (Mut Mo β st.B) β st.B s v := by
  intro i s v hs hv
  rw [List.getElem?_map] at hs hv
  cases hx : args[i]? with
  | none => rw [hx] at hs; cases hs
  | some x =>
    rw [hx] at hs hv
    injection hs with hs; injection hv with hv
    subst hs; subst hv
    exact get_sound hR t x

theorem opE_sound (hL : laidOutB E.P = true) (hC : OracleOk E.P E.C) (hI : Inv E.P w0 F Mo st a w) {o : Oper} (hlo : o.dst.getD 0 < lowB) {K : St → Option Out} {r : Out} (h : opE E o st K = some r) : EOk E w0 F Mo o K r a w := by
  cases hop : o.op with
  | store t x y => exact e_store hL hI hop h
  | call c =>
    obtain ⟨callee, args, ts⟩ := c
    cases callee with
    | builtin b =>
      cases b with
      | append => exact e_append hL hI hlo hop h
      | _ => unfold opE at h; rw [hop] at h; cases h
    | value x =>
      cases x with
      | func f =>
        obtain ⟨hdef, β, hR, hk⟩ := hI
        unfold opE at h; rw [hop] at h
        simp only at h
        refine e_call hC hdef hR hk hlo (vs := args.toList.map a.eval) (by simp) (args_rs hR args.toList 0) ?_ h
        rw [run_callOp hop]
        congr 2
        apply Array.ext'; simp
      | tmp i =>
        obtain ⟨hdef, β, hR, hk⟩ := hI
        unfold opE at h; rw [hop] at h
        simp only at h
        have hx := get_sound hR 0 (.tmp i)
        have hg : st.get E.P 0 (.tmp i) = st.T.getD i .dead := rfl
        rw [hg] at hx
        generalize st.T.getD i .dead = s at h hx
        generalize hv : a.eval (.tmp i) = v at hx
        cases hx with
        | @fn f caps cv vs hc1 hc2 hc3 =>
          simp only at h
          have hcv : cv.toList = (List.range caps.length).map vs := by
            apply List.ext_getElem?
            intro k
            rw [Array.getElem?_toList, List.getElem?_map]
            by_cases hk : k < caps.length
            · rw [hc2 k hk, List.getElem?_range hk]; rfl
            · rw [Array.getElem?_eq_none (by omega), List.getElem?_eq_none (by simpa using hk)]; rfl
          refine e_call hC hdef hR hk hlo (vs := args.toList.map a.eval ++ cv.toList) (by simp [hc1]) (fun k s v hs hv => ?_) ?_ h
          · by_cases hk : k < (args.toList.map (st.get E.P 0)).length
            · rw [List.getElem?_append_left hk] at hs
              rw [List.getElem?_append_left (by simpa using hk)] at hv
              exact args_rs hR args.toList 0 k s v hs hv
            · rw [List.getElem?_append_right (by omega)] at hs
              rw [List.getElem?_append_right (by simpa using hk)] at hv
              have hlen : (args.toList.map (st.get E.P 0)).length = (args.toList.map a.eval).length := by simp
              rw [← hlen] at hv
              have hkl := get_lt hs
              rw [Array.getElem?_toList, hc2 _ hkl] at hv
              injection hv with hv; subst hv
              exact hc3 _ s hs
          · unfold execOp
            rw [hop]
            simp only [resolve]
            rw [hv]
            simp only [Deferred.ofValue, Sem.run_bind, Sem.run_pure, Result.andThen_ok, invoke, Array.empty_append]
            congr 2
            apply Array.ext'; simp
        | _ => cases h
      | _ => unfold opE at h; rw [hop] at h; cases h
    | _ => unfold opE at h; rw [hop] at h; cases h
  | _ => unfold opE at h; rw [hop] at h; cases h

theorem free_retire (o : Oper) (st : St) : Free E o (retireOp E o st) := by
  refine ⟨fun h => ?_, fun t ht x hx => ?_⟩
  · unfold retireOp
    simp only
    split
    · exact retire_none _ _
    · exact retire_none _ _
    · exact retire_none _ _
    · exact retire_none _ _
    · exact retireAll_get_none _ (.inl (retire_none _ _))
    · rename_i hop; rw [hop] at h; cases h
    · rename_i h1 h2 h3 h4 h5 _
      exfalso
      split at h
      · exact h1 _ _ (by assumption)
      · exact h2 _ _ _ (by assumption)
      · exact h3 _ _ _ (by assumption)
      · exact h4 _ _ _ (by assumption)
      · exact h5 _ (by assumption)
      · cases h
  · unfold retireOp
    simp only
    rw [ht]
    simp only
    exact retireAll_get_none _ (.inr (List.mem_map.2 ⟨_, hx, rfl⟩))

/-- One operation. -/
theorem opX_sound (hL : laidOutB E.P = true) (hC : OracleOk E.P E.C) (hI : Inv E.P w0 F Mo st a w) {o : Oper} {K : St → Option Out} {r : Out} (h : opX E o st K = some r) : EOk E w0 F Mo o K r a w := by
  unfold opX at h
  simp only at h
  have hI2 := (hI.freeze o).retireOp o
  have hfree := free_retire (E := E) o (freezeOp E o st)
  generalize retireOp E o (freezeOp E o st) = st' at h hI2 hfree
  obtain ⟨hb, h⟩ := cond_none h
  have hlo : o.dst.getD 0 < lowB := by simpa using hb
  cases hE : isE E o st' with
  | true => rw [hE, cond_true] at h; exact opE_sound hL hC hI2 hlo h
  | false =>
    rw [hE, cond_false] at h
    obtain ⟨hdef, β, hR, hk⟩ := hI2
    obtain ⟨s, os, h1, h2⟩ := (opQ_sound hL hC hR hk hlo hfree h).post hR hk
    exact ⟨_, h1, fun next Q hn => h2 next Q fun v w' hp => hn _ _ (Inv.put hdef hp o.dst)⟩

end
end Go.X
