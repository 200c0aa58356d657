/- The interpreter X, part 23: calls that change nothing that was there. -/
import Derived.Test.YtbmhbnkejgjfdaaX22
namespace Go.X
open Go

def retV : List Value → Value
  | [v] => v
  | l => .tuple l.toArray

/-- What a call may change. -/
def footOf (β : Beta) (B0 : Obs) : Foot where
  blk := Mine β B0
  box n := if n < lowB then none else match Obs.get B0 n, β n with
    | some (.box t _), some b => some (t, b)
    | _, _ => none

/-- What a call must come to. -/
def CallOk (P : Program) (f : FuncId) (args : List SV) (B0 : Obs) (r : Out) : Prop :=
  ∀ (Mo : Nat → Prop) (β : Beta) (vs : List Value) (w : World), Rel P Mo β args B0 vs w → ∀ (o : Oper) (a : Act) (next : Act → World → Prop) (Q : Exit → Act → World → Prop),
    (∀ rvs w' β', Rel P Mo β' r.1 r.2 rvs w' → Kp w (footOf β B0) β' r.2 w' → next (a.put o.dst (retV rvs)) w') → o.upon P a next Q ((callFunc f vs.toArray).run P w)
def Par (C : FuncId → List SV → Obs → (Out → Option Out) → Option Out) : Prop := ∀ f args B0 K, C f args B0 K = (C f args B0 some).bind K
structure OracleOk (P : Program) (C : FuncId → List SV → Obs → (Out → Option Out) → Option Out) : Prop where
  ok : ∀ f args B0 r, C f args B0 some = some r → CallOk P f args B0 r
  par : Par C

section
variable {E : Env} {w0 : World} {F : Foot} {Mo : Nat → Prop} {st : St} {K : SV → Obs → Option Out} {r : Out} {a : Act} {w : World} {β : Beta}

/-- What there is without objects is there whatever the objects are. -/
theorem RS.noObs {P : Program} {M M' : Nat → Prop} {β β' : Beta} {B : Obs} (hM : ∀ b, ¬ M b → b < w.heap.size → ¬ M' b) {s : SV} {v : Value} (h : RS P w M β [] s v) : RS P w M' β' B s v := by
  have hst : Stable w M w M' := fun b hb hlt => ⟨hM b hb hlt, rfl⟩
  induction h with
  | int a => exact .int a
  | bool => exact .bool
  | str a => exact .str a
  | flt a => exact .flt a
  | val a b => exact .val a (b.mono hst)
  | agg a b c d e f _ ih => exact .agg a b c d e f ih
  | fro a b c => exact .fro a (b.mono hst) (c.mono hst)
  | ptr a b c => cases a
  | own a b c d => cases b
  | ownNil a b c => cases b
  | nils => exact .nils
  | nilp => exact .nilp
  | nili => exact .nili
  | fn a b _ ih => exact .fn a b ih
  | tup a b _ ih => exact .tup a b ih
  | undef => exact .undef
  | dead => exact .dead

theorem RS.plainAny {P : Program} {M M' : Nat → Prop} {β β' : Beta} {B B' : Obs} {w' : World} {s : SV} {v : Value} (hp : s.plain = true) (h : RS P w M β B s v) : RS P w' M' β' B' s v := by
  cases h with
  | int a => exact .int a
  | bool => exact .bool
  | str a => exact .str a
  | flt a => exact .flt a
  | _ => cases hp

theorem pass_sound {P : Program} (hR : Rel P Mo β st.T st.B a.tmps.toList w) {M' : Nat → Prop} (hM : ∀ b, M' b → Mut Mo β st.B b) {scalar : Bool} (hsc : scalar = true → ∀ b, ¬ M' b) {t : TypeId} {s s' : SV} {v : Value}
    (hs : RS P w (Mut Mo β st.B) β st.B s v) (h : s.pass P st scalar t = some s') {β' : Beta} : RS P w M' β' [] s' v := by
  have hst : Stable w (Mut Mo β st.B) w M' := fun b hb _ => ⟨fun hm => hb (hM b hm), rfl⟩
  have plain : ∀ {p : PV}, s.pvT P t = some p → RS P w M' β' [] (ofPV P t p) v := by
    intro p hp
    obtain ⟨cs, h1, h2⟩ := hs.pvT hp
    exact RS.ofPV h1 (h2.mono hst)
  by_cases hown : ∃ u d, s = .own u d
  · obtain ⟨u, d, rfl⟩ := hown
    unfold SV.pass at h
    simp only at h
    obtain ⟨hsc1, h⟩ := cond_some h
    have hno := hsc hsc1
    cases hu : P.underlying t with
    | none => rw [hu] at h; cases h
    | some dd =>
      rw [hu] at h
      cases dd with
      | slice e =>
        simp only at h
        cases hl : st.elems P e (.own u d) with
        | none => rw [hl] at h; cases h
        | some l =>
          rw [hl] at h
          injection h with h; subst h
          have ha : isAggT P t = false := by simp [isAggT, hu]
          rcases elems_sound hR hs hl with ⟨rfl, rfl⟩ | ⟨ad, c, cs, rfl, hlc, hcm, hcell, hrd⟩
          · exact .val (pack1 ha) (.nilSlice hu)
          · exact .val (pack1 ha) (.slice hu rfl hlc hcm (fun i hi => ⟨(hcell i hi).1, fun j x hj => ⟨hno _, (hcell i hi).2 j x hj⟩⟩) (fun i p hi => (hrd i p hi).mono hst))
      | _ => cases h
  · have h2 : (s.pvT P t).map (ofPV P t) = some s' := by
      revert h
      cases s <;> first
        | exact id
        | exact absurd ⟨_, _, rfl⟩ hown
    cases hp : s.pvT P t with
    | none => rw [hp] at h2; cases h2
    | some p => rw [hp] at h2; injection h2 with h2; subst h2; exact plain hp

theorem passAll_sound {P : Program} {scalar : Bool} : ∀ {ts : List TypeId} {l l' : List SV}, passAll P st scalar ts l = some l' → l'.length = l.length ∧
    ∀ (i : Nat) (s s' : SV), l[i]? = some s → l'[i]? = some s' → ∃ t, s.pass P st scalar t = some s'
  | [], [], l', h => by
    simp only [passAll, Option.some.injEq] at h; subst h
    exact ⟨rfl, fun i s s' h => by simp at h⟩
  | [], _ :: _, _, h => by simp [passAll] at h
  | _ :: _, [], _, h => by simp [passAll] at h
  | t :: ts, s :: l, l', h => by
    unfold passAll at h
    cases h1 : s.pass P st scalar t with
    | none => rw [h1] at h; cases h
    | some x =>
      cases h2 : passAll P st scalar ts l with
      | none => rw [h1, h2] at h; cases h
      | some r =>
        rw [h1, h2] at h
        replace h : x :: r = l' := by injection h
        subst h
        obtain ⟨g1, g2⟩ := passAll_sound h2
        refine ⟨by simp [g1], fun i y y' hy hy' => ?_⟩
        cases i with
        | zero =>
          replace hy : s = y := by simpa using hy
          replace hy' : x = y' := by simpa using hy'
          subst hy hy'; exact ⟨t, h1⟩
        | succ i => exact g2 i y y' (by simpa using hy) (by simpa using hy')

theorem run_callOp {o : Oper} {f : FuncId} {args : Array Operand} {ts : Array TypeId} (ho : o.op = .call { callee := .value (.func f), args, argTypes := ts }) (P : Program) (w : World) :
    (execOp a.eval o).run P w = (callFunc f (args.map a.eval)).run P w := by
  unfold execOp
  rw [ho]
  simp only [resolve]
  have : a.eval (.func f) = .func (.func f) #[] #[] := rfl
  rw [this]
  simp only [Deferred.ofValue, Sem.run_bind, Sem.run_pure, Result.andThen_ok, invoke, Array.append_empty, Array.empty_append]

theorem q_call (hC : OracleOk E.P E.C) (hR : Rel E.P Mo β st.T st.B a.tmps.toList w) {o : Oper} {f : FuncId} {args : Array Operand} {ts : Array TypeId} (ho : o.op = .call { callee := .value (.func f), args, argTypes := ts })
    (h : opQ E o st K = some r) : QOk E w0 F Mo β o st K r a w := by
  unfold opQ at h
  rw [ho] at h
  simp only [callQ] at h
  cases hf : E.P.funcs[f]? with
  | none => rw [hf] at h; cases h
  | some fn =>
    rw [hf] at h
    simp only at h
    generalize hsc : fn.resultTypes.toList.all (isScalar E.P) = scalar at h
    cases hl : passAll E.P st scalar fn.params.toList (args.toList.map (st.get E.P o.type)) with
    | none => rw [hl] at h; cases h
    | some l =>
      rw [hl] at h
      simp only at h
      rw [hC.par] at h
      cases hc : E.C f l [] some with
      | none => rw [hc] at h; cases h
      | some r' =>
        rw [hc] at h
        simp only [Option.bind_some] at h
        obtain ⟨hb, h⟩ := cond_some h
        simp only [Bool.and_eq_true, Bool.or_eq_true, Bool.not_eq_true', List.isEmpty_iff] at hb
        obtain ⟨hb1, hb2⟩ := hb
        obtain ⟨p1, p2⟩ := passAll_sound hl
        let M' : Nat → Prop := fun b => scalar = false ∧ Mut Mo β st.B b
        have hrel : Rel E.P M' (fun _ => none) l [] (args.map a.eval).toList w := by
          refine ⟨by simp [p1], fun i s v hs hv => ?_, (fun d o h => by cases h), (fun d o d' o' b c c' h => by cases h), (fun d o b c h => by cases h), (fun d o b c h => by cases h), fun b hb => ?_⟩
          · have hil := get_lt hs
            rw [p1] at hil
            rw [List.length_map] at hil
            have hx := List.getElem?_eq_getElem hil
            generalize args.toList[i] = x at hx
            have hv' : v = a.eval x := by
              rw [Array.toList_map, List.getElem?_map, hx] at hv
              injection hv with hv; exact hv.symm
            have hsl : (args.toList.map (st.get E.P o.type))[i]? = some (st.get E.P o.type x) := by rw [List.getElem?_map, hx]; rfl
            obtain ⟨t, ht⟩ := p2 i _ s hsl hs
            have hg := get_sound hR o.type x
            rw [hv']
            have := pass_sound hR (M' := M') (fun b h => h.2) (fun h b hb => by have := hb.1; rw [h] at this; cases this) hg ht (β' := fun _ => none)
            exact RS.noObs (fun b hb _ => by
              rintro (h | ⟨_, _, _, h, _⟩)
              · exact hb h
              · cases h) this
          · rcases hb.2 with h | ⟨d, o, c, h1, h2⟩
            · exact hR.mo b h
            · exact hR.lt _ _ _ _ h1 h2
        refine ⟨_, _, h, .inl ⟨rfl, fun next Q hn => ?_⟩⟩
        unfold Oper.wp
        rw [run_callOp ho]
        have hvs : args.map a.eval = (args.map a.eval).toList.toArray := (Array.toArray_toList).symm
        rw [hvs]
        refine hC.ok f l [] r' hc M' _ _ w hrel o a next Q fun rvs w' β' h1 h2 => hn _ _ ?_
        have hnil : r'.2 = [] := hb1
        rw [hnil] at h1 h2
        have hmine : ∀ b, ¬ Mine (fun _ => none) [] b := by rintro b ⟨d, o, c, h, _⟩; cases h
        refine ⟨h2.size, fun b hb => h2.old b hb (hmine b), h2.os, h2.output, ?_⟩
        have each : ∀ (i : Nat) (s : SV) (v : Value), r'.1[i]? = some s → rvs[i]? = some v → RS E.P w' (Mut Mo β st.B) β st.B s v := by
          intro i s v hs hv
          have hrs := h1.slot i s v hs hv
          rcases hb2 with hb2 | hb2
          · refine RS.noObs (fun b hb hlt hm => hb (.inl ⟨hb2, hm⟩)) hrs
          · exact RS.plainAny (List.all_eq_true.1 hb2 s (List.mem_of_getElem? hs)) hrs
        have hlen := h1.len
        by_cases h1s : ∃ s, r'.1 = [s]
        · obtain ⟨s, hs⟩ := h1s
          rw [hs] at hlen each ⊢
          obtain ⟨v, rfl⟩ : ∃ v, rvs = [v] := by
            match rvs, hlen with
            | [v], _ => exact ⟨v, rfl⟩
          exact each 0 s v rfl rfl
        · have e1 : retSV r'.1 = .tup r'.1 := by
            unfold retSV
            split
            · rename_i s hs; exact absurd ⟨s, hs⟩ h1s
            · rfl
          have e2 : retV rvs = .tuple rvs.toArray := by
            unfold retV
            split
            · rename_i v
              exfalso; apply h1s
              match hr : r'.1, hlen with
              | [s], _ => exact ⟨s, rfl⟩
            · rfl
          rw [e1, e2]
          refine .tup (vs := fun i => rvs.getD i undef) (by simp [hlen]) (fun i hi => ?_) (fun i s hs => ?_)
          · rw [List.getElem?_toArray, List.getElem?_eq_getElem (by omega), List.getD_eq_getElem?_getD, List.getElem?_eq_getElem (by omega)]; rfl
          · have hi := get_lt hs
            refine each i s _ hs ?_
            rw [List.getD_eq_getElem?_getD, List.getElem?_eq_getElem (by omega)]; rfl

end
end Go.X
