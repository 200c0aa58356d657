/- The interpreter X, part 11: operands; the shape of what is to be shown of an operation. -/
import Derived.Test.YtbmhbnkejgjfdaaX10
set_option linter.unusedVariables false
set_option linter.unusedSimpArgs false
namespace Go.X
open Go
section
variable {P : Program}

theorem le_maxLen {n : Nat} (h : n ≤ 1073741824) : n ≤ maxLen := by unfold maxLen; omega

theorem mapM_some {α β : Type} {f : α → Option β} : ∀ {l : List α} {r : List β}, l.mapM f = some r → r.length = l.length ∧ ∀ (i : Nat) (x : α) (y : β), l[i]? = some x → r[i]? = some y → f x = some y
  | [], r, h => by
    simp at h; subst h
    exact ⟨rfl, fun i x y hx => by simp at hx⟩
  | a :: l, r, h => by
    rw [List.mapM_cons] at h
    cases hf : f a with
    | none => rw [hf] at h; cases h
    | some b =>
      cases hl : l.mapM f with
      | none => rw [hf, hl] at h; cases h
      | some s =>
        rw [hf, hl] at h
        replace h : b :: s = r := by injection h
        subst h
        obtain ⟨h1, h2⟩ := mapM_some hl
        refine ⟨by simp [h1], fun i x y hx hy => ?_⟩
        cases i with
        | zero =>
          replace hx : a = x := by simpa using hx
          replace hy : b = y := by simpa using hy
          rw [← hx, ← hy]; exact hf
        | succ i => exact h2 i x y (by simpa using hx) (by simpa using hy)

theorem pvC_sound {w : World} {M : Nat → Prop} : ∀ (n : Nat) {t : TypeId} {cs : List Value} {p : PV}, pvC P n t cs = some p → Rd P w M t p cs
  | 0, _, _, _, h => by cases h
  | n + 1, t, cs, p, h => by
    unfold pvC at h
    split at h
    · rename_i k k' m hu
      simp only [Bool.cond_eq_ite, Bool.and_eq_true, decide_eq_true_eq] at h
      split at h
      · rename_i hk; obtain ⟨rfl, hk⟩ := hk; injection h with h; subst h; exact .int hu hk
      · cases h
    · rename_i b hu; injection h with h; subst h; exact .bool hu
    · rename_i s hu
      simp only [Bool.cond_eq_ite, decide_eq_true_eq] at h
      split at h
      · rename_i hs; injection h with h; subst h; exact .str hu (le_maxLen hs)
      · cases h
    · rename_i k k' m hu
      simp only [Bool.cond_eq_ite, Bool.and_eq_true, decide_eq_true_eq] at h
      split at h
      · rename_i hk; obtain ⟨rfl, hk⟩ := hk; injection h with h; subst h; exact .flt hu hk
      · cases h
    · rename_i e hu; injection h with h; subst h; exact .nilSlice hu
    · rename_i e hu; injection h with h; subst h; exact .nilPtr hu
    · rename_i e hu; injection h with h; subst h; exact .nilIface hu
    · rename_i cs _ _ fs hu
      simp only [Bool.cond_eq_ite, Bool.and_eq_true, decide_eq_true_eq] at h
      split at h
      · rename_i hk
        cases hm : fs.toList.mapM fun f => pvC P n f.type ((cs.drop f.offset).take (P.cellsOf f.type)) with
        | none => rw [hm] at h; cases h
        | some l =>
          rw [hm] at h; injection h with h; subst h
          obtain ⟨h1, h2⟩ := mapM_some hm
          exact .struct hu hk.1 (by simpa using h1) hk.2 (fun i f p hf hp => pvC_sound n (h2 i f p (by simpa using hf) hp))
      · cases h
    · rename_i cs _ _ m e hu
      simp only [Bool.cond_eq_ite, Bool.and_eq_true, decide_eq_true_eq] at h
      split at h
      · rename_i hk
        cases hm : (List.range m).mapM fun i => pvC P n e ((cs.drop (i * P.cellsOf e)).take (P.cellsOf e)) with
        | none => rw [hm] at h; cases h
        | some l =>
          rw [hm] at h; injection h with h; subst h
          obtain ⟨h1, h2⟩ := mapM_some hm
          have hll : l.length = m := by simpa using h1
          exact .arr hu hk.1 hll hk.2 (fun i p hp => pvC_sound n (h2 i i p (by
            have := get_lt hp
            rw [List.getElem?_range]; omega) hp))
      · cases h
    · cases h

theorem ofConst_sound {w : World} {M : Nat → Prop} {β : Beta} {B : Obs} (t : TypeId) (v : Value) : RS P w M β B (ofConst P t v) v := by
  unfold ofConst
  split
  · rename_i k n
    by_cases h : (Lit.int k n).wf = true
    · rw [h]; exact .int h
    · rw [show (Lit.int k n).wf = false by simpa using h]; exact .dead
  · exact .bool
  · rename_i s
    by_cases h : s.size ≤ 1073741824
    · rw [decide_eq_true h]; exact .str (le_maxLen h)
    · rw [decide_eq_false h]; exact .dead
  · rename_i k n
    by_cases h : (Lit.float k n).wf = true
    · rw [h]; exact .flt h
    · rw [show (Lit.float k n).wf = false by simpa using h]; exact .dead
  · exact .nils
  · exact .nilp
  · exact .nili
  · rename_i cs
    by_cases h : isAggT P t = true
    · rw [h]
      simp only [cond_true]
      cases hp : pvC P 10 t cs.toList with
      | none => exact .dead
      | some p => exact .val (by simp [Pack, h]) (pvC_sound 10 hp)
    · rw [show isAggT P t = false by simpa using h]; exact .dead
  · exact .dead

theorem get_sound {w : World} {Mo : Nat → Prop} {β : Beta} {st : St} {a : Act} (h : Rel P Mo β st.T st.B a.tmps.toList w) (t : TypeId) (x : Operand) :
    RS P w (Mut Mo β st.B) β st.B (st.get P t x) (a.eval x) := by
  cases x with
  | tmp i =>
    simp only [St.get, Act.eval]
    cases hs : st.T[i]? with
    | none => rw [List.getD_eq_getElem?_getD, hs]; exact .dead
    | some s =>
      rw [getD_of hs]
      have hlt : i < a.tmps.toList.length := by rw [h.len]; exact get_lt hs
      have hv := List.getElem?_eq_getElem hlt
      have : a.tmps.getD i undef = a.tmps.toList[i] := by
        rw [Array.getD_eq_getD_getElem?, ← Array.getElem?_toList, hv]; rfl
      rw [this]
      exact h.slot i s _ hs hv
  | const v => exact ofConst_sound t v
  | func f => exact .fn (vs := fun _ => undef) rfl (fun i hi => by simp at hi) (fun i s hs => by simp at hs)
  | global g => exact .dead

def Post (P : Program) (w0 : World) (F : Foot) (Mo : Nat → Prop) (st : St) (s : SV) (vs : List Value) (v : Value) (w : World) : Prop :=
  ∃ β, Rel P Mo β st.T st.B vs w ∧ Kp w0 F β st.B w ∧ RS P w (Mut Mo β st.B) β st.B s v
def Inv (P : Program) (w0 : World) (F : Foot) (Mo : Nat → Prop) (st : St) (a : Act) (w : World) : Prop :=
  a.defers = [] ∧ ∃ β, Rel P Mo β st.T st.B a.tmps.toList w ∧ Kp w0 F β st.B w

theorem Inv.put {w0 w : World} {F : Foot} {Mo : Nat → Prop} {st : St} {a : Act} {s : SV} {v : Value} (hd : a.defers = []) (h : Post P w0 F Mo st s a.tmps.toList v w) (dst : Option Tmp) :
    Inv P w0 F Mo (st.put dst s) (a.put dst v) w := by
  obtain ⟨β, h1, h2, h3⟩ := h
  cases dst with
  | none => exact ⟨hd, β, h1, h2⟩
  | some d =>
    refine ⟨hd, β, ?_, h2⟩
    have := h1.put d h3
    simpa [Act.put, St.put, St.setT] using this

/-- What was is as it was; a value has come. -/
structure VPost (P : Program) (M : Nat → Prop) (β : Beta) (B : Obs) (s : SV) (w : World) (v : Value) (w' : World) : Prop where
  size : w.heap.size ≤ w'.heap.size
  old : ∀ b, b < w.heap.size → w'.heap[b]? = w.heap[b]?
  os : w'.os = w.os
  output : w'.output = w.output
  rs : RS P w' M β B s v

/-- What is to be shown of an operation that changes nothing. -/
def QOk (E : Env) (w0 : World) (F : Foot) (Mo : Nat → Prop) (β : Beta) (o : Oper) (st : St) (K : SV → Obs → Option Out) (r : Out) (a : Act) (w : World) : Prop :=
  ∃ s os, K s os = some r ∧
    ((os = [] ∧ ∀ next Q, (∀ v w', VPost E.P (Mut Mo β st.B) β st.B s w v w' → next (a.put o.dst v) w') → o.wp E.P a w next Q) ∨
     (os ≠ [] ∧ ∀ next Q, (∀ v w', Post E.P w0 F Mo (st.lay os) s a.tmps.toList v w' → next (a.put o.dst v) w') → o.wp E.P a w next Q))

theorem QOk.post {E : Env} {w0 : World} {F : Foot} {Mo : Nat → Prop} {o : Oper} {st : St} {K : SV → Obs → Option Out} {r : Out} {a : Act} {w : World} {β : Beta}
    (hR : Rel E.P Mo β st.T st.B a.tmps.toList w) (hk : Kp w0 F β st.B w) (h : QOk E w0 F Mo β o st K r a w) :
    ∃ s os, K s os = some r ∧ ∀ next Q, (∀ v w', Post E.P w0 F Mo (st.lay os) s a.tmps.toList v w' → next (a.put o.dst v) w') → o.wp E.P a w next Q := by
  obtain ⟨s, os, h1, h2⟩ := h
  refine ⟨s, os, h1, fun next Q hn => ?_⟩
  rcases h2 with ⟨rfl, h2⟩ | ⟨_, h2⟩
  · exact h2 next Q fun v w' hv => hn v w' ⟨β, hR.world hv.size hv.old, hk.world hv.size hv.old hv.os hv.output, hv.rs⟩
  · exact h2 next Q hn

theorem QOk.val {E : Env} {w0 : World} {F : Foot} {Mo : Nat → Prop} {o : Oper} {st : St} {K : SV → Obs → Option Out} {r : Out} {a : Act} {w : World} {s : SV} {v : Value} {β : Beta}
    (hR : Rel E.P Mo β st.T st.B a.tmps.toList w) (hk : Kp w0 F β st.B w) (hK : K s [] = some r) (hrun : (execOp a.eval o).run E.P w = .ok (.value v) w)
    (hs : RS E.P w (Mut Mo β st.B) β st.B s v) : QOk E w0 F Mo β o st K r a w := by
  refine ⟨s, [], hK, .inl ⟨rfl, fun next Q hn => ?_⟩⟩
  unfold Oper.wp
  rw [hrun, Oper.upon_value]
  exact hn v w ⟨Nat.le_refl _, fun _ _ => rfl, rfl, rfl, hs⟩

end
end Go.X
