/- The interpreter X, part 13: operations that change nothing: those on slots alone. -/
import Derived.Test.YtbmhbnkejgjfdaaX12
import Derived.Laws.BytesString
namespace Go.X
open Go
section
variable {E : Env} {w0 : World} {F : Foot} {Mo : Nat → Prop} {st : St} {K : SV → Obs → Option Out} {r : Out} {a : Act} {w : World} {β : Beta}

theorem retire_none (st : St) (d : Nat) : Obs.get (st.retire d).B d = none := by
  cases h : Obs.get (st.retire d).B d with
  | none => rfl
  | some o => exact absurd rfl (retire_get st d d o h).1

/-- An object is laid at a number: the elder one there goes. -/
theorem Post.lay1 {P : Program} {vs : List Value} (hR : Rel P Mo β st.T st.B vs w) (hk : Kp w0 F β st.B w) (d : Nat) (hlo : d < lowB) (o : Ob) {x : Option (Nat × Nat)} {w' : World}
    (hsz : w.heap.size ≤ w'.heap.size) (hold : ∀ b, b < w.heap.size → w'.heap[b]? = w.heap[b]?) (hx : ∀ b c, x = some (b, c) → w.heap.size ≤ b ∧ b < w'.heap.size)
    (hos : w'.os = w.os) (hout : w'.output = w.output)
    (hro : Same P w (Mut Mo β (st.retire d).B) β (st.retire d).B w' (Mut Mo (β.at d x) (st.lay [(d, o)]).B) (β.at d x) (st.lay [(d, o)]).B → RO P w' (Mut Mo (β.at d x) (st.lay [(d, o)]).B) (β.at d x) (st.lay [(d, o)]).B d o) :
    Rel P Mo (β.at d x) (st.lay [(d, o)]).T (st.lay [(d, o)]).B vs w' ∧ Kp w0 F (β.at d x) (st.lay [(d, o)]).B w' := by
  have h1 := hR.retire d
  have h2 := hk.retire d
  have hs := same_lay h1 (retire_none st d) hold (fun b c hb => (hx b c hb).1) o
  exact ⟨h1.lay (retire_none st d) hsz hold hx o (hro hs), h2.lay hsz hold (fun b c hb => (hx b c hb).1) o hos hout hlo⟩

theorem lay_get (st : St) (d : Nat) (o : Ob) : Obs.get (st.lay [(d, o)]).B d = some o := by
  show Obs.get (Obs.ins d o (st.retire d).B) d = some o
  rw [Obs.get_ins, if_pos rfl]

theorem q_move (hR : Rel E.P Mo β st.T st.B a.tmps.toList w) (hk : Kp w0 F β st.B w) {o : Oper} (hlo : o.dst.getD 0 < lowB) {x : Operand} (ho : o.op = .move x ∨ o.op = .assign x) (h : opQ E o st K = some r) : QOk E w0 F Mo β o st K r a w := by
  have hs := get_sound hR o.type x
  have hrun : (execOp a.eval o).run E.P w = .ok (.value (a.eval x)) w := by unfold execOp; rcases ho with ho | ho <;> rw [ho] <;> rfl
  have h' : (match st.get E.P o.type x with
     | .nils => bif E.nilOwn (o.dst.getD 0) then (match E.P.underlying o.type with | some (.slice e) => bif decide (e < E.P.types.size) then K (.own o.type (o.dst.getD 0)) [(o.dst.getD 0, .row e [])] else none | _ => none) else K .nils []
     | s => K s []) = some r := by
    unfold opQ at h; rcases ho with ho | ho <;> rw [ho] at h <;> exact h
  clear h
  generalize hg : st.get E.P o.type x = s at h' hs
  by_cases hn : s = .nils
  · subst hn
    simp only at h'
    by_cases hown : E.nilOwn (o.dst.getD 0) = true
    · rw [hown, cond_true] at h'
      cases hu : E.P.underlying o.type with
      | none => rw [hu] at h'; cases h'
      | some d =>
        rw [hu] at h'
        cases d with
        | slice e =>
          simp only at h'
          obtain ⟨hz, h'⟩ := cond_some h'
          generalize o.dst.getD 0 = d at h' hlo
          refine ⟨_, _, h', .inr ⟨by simp, fun next Q hn => ?_⟩⟩
          unfold Oper.wp
          rw [hrun, Oper.upon_value]
          obtain ⟨g1, g2⟩ := Post.lay1 hR hk d hlo (.row e []) (x := none) (w' := w) (Nat.le_refl _) (fun _ _ => rfl) (fun b c hb => by cases hb) rfl rfl
            (fun _ => ⟨of_decide_eq_true hz, .inl ⟨by unfold Beta.at; rw [if_pos rfl], rfl⟩⟩)
          refine hn _ _ ⟨_, g1, g2, ?_⟩
          generalize a.eval x = v at hs
          cases hs with
          | nils => exact .ownNil hu (lay_get st d _) (by unfold Beta.at; rw [if_pos rfl])
        | _ => cases h'
    · rw [show E.nilOwn (o.dst.getD 0) = false by simpa using hown, cond_false] at h'
      exact QOk.val hR hk h' hrun hs
  · have h2 : K s [] = some r := by
      cases s <;> first | exact absurd rfl hn | exact h'
    exact QOk.val hR hk h2 hrun hs

theorem q_pick (hR : Rel E.P Mo β st.T st.B a.tmps.toList w) (hk : Kp w0 F β st.B w) {o : Oper} {c x y : Operand} (ho : o.op = .pick c x y) (h : opQ E o st K = some r) : QOk E w0 F Mo β o st K r a w := by
  have hc := get_sound hR o.type c
  have hx := get_sound hR o.type x
  have hy := get_sound hR o.type y
  have h' : (match st.get E.P o.type c, st.get E.P o.type x, st.get E.P o.type y with
     | .bool t, .bool x, .bool y => K (.bool (bif t then x else y)) []
     | .bool t, x, y => bif t then K x [] else K y []
     | _, _, _ => none) = some r := by unfold opQ at h; rw [ho] at h; exact h
  clear h
  generalize st.get E.P o.type c = sc at h' hc
  generalize st.get E.P o.type x = sx at h' hx
  generalize st.get E.P o.type y = sy at h' hy
  cases sc with
  | bool t =>
    have hb : a.eval c = .bool t := by generalize a.eval c = v at hc; cases hc; rfl
    have hrun : (execOp a.eval o).run E.P w = .ok (.value (if t then a.eval x else a.eval y)) w := by
      unfold execOp; rw [ho]; simp only [hb, asBool]; cases t <;> rfl
    have key : ∀ s v, (bif t then sx else sy) = s → v = (if t then a.eval x else a.eval y) → RS E.P w (Mut Mo β st.B) β st.B s v := by
      intro s v h1 h2
      subst h1; subst h2
      cases t
      · exact hy
      · exact hx
    by_cases hbb : ∃ p q, sx = .bool p ∧ sy = .bool q
    · obtain ⟨p, q, rfl, rfl⟩ := hbb
      refine QOk.val hR hk h' hrun ?_
      have := key _ _ rfl rfl
      cases t
      · exact this
      · exact this
    · have h2 : (bif t then K sx [] else K sy []) = some r := by
        revert h'
        cases sx <;> cases sy <;> first
          | exact id
          | exact absurd ⟨_, _, rfl, rfl⟩ hbb
      cases t
      · exact QOk.val hR hk h2 hrun (key _ _ rfl rfl)
      · exact QOk.val hR hk h2 hrun (key _ _ rfl rfl)
  | _ => cases h'

theorem q_extract (hR : Rel E.P Mo β st.T st.B a.tmps.toList w) (hk : Kp w0 F β st.B w) {o : Oper} {x : Operand} {i : Nat} (ho : o.op = .extract x i) (h : opQ E o st K = some r) : QOk E w0 F Mo β o st K r a w := by
  have hx := get_sound hR o.type x
  have h' : (match st.get E.P o.type x with | .tup l => (match l[i]? with | some s => K s [] | none => none) | _ => none) = some r := by unfold opQ at h; rw [ho] at h; exact h
  clear h
  generalize st.get E.P o.type x = sx at h' hx
  cases sx with
  | tup l =>
    simp only at h'
    cases hl : l[i]? with
    | none => rw [hl] at h'; cases h'
    | some s =>
      rw [hl] at h'
      generalize hv : a.eval x = v at hx
      cases hx with
      | tup h1 h2 h3 =>
        refine QOk.val hR hk h' ?_ (h3 i s hl)
        unfold execOp; rw [ho]
        simp only [hv, Instr.extract, h2 i (get_lt hl)]
        rfl
  | _ => cases h'

theorem q_unop (hR : Rel E.P Mo β st.T st.B a.tmps.toList w) (hk : Kp w0 F β st.B w) {o : Oper} {x : Operand} {u : UnOp} {t : TypeId} (ho : o.op = .unOp u t x) (h : opQ E o st K = some r) : QOk E w0 F Mo β o st K r a w := by
  have hx := get_sound hR o.type x
  unfold opQ at h
  rw [ho] at h
  simp only at h
  generalize st.get E.P o.type x = sx at h hx
  generalize hv : a.eval x = v at hx
  cases hx with
  | @int k n hw =>
    cases u
    · exact QOk.val hR hk h (by unfold execOp; rw [ho]; simp only [hv, Op.unary]; rfl) (.int (wf_wrap _ _))
    · exact QOk.val hR hk h (by unfold execOp; rw [ho]; simp only [hv, Op.unary, Sem.run_bind, intBit_run .xor k _ n (by simp) w]; rfl) (.int (intBit_wf _ _ _ _))
    · cases h
    · cases h
  | bool =>
    cases u
    · cases h
    · cases h
    · exact QOk.val hR hk h (by unfold execOp; rw [ho]; simp only [hv, Op.unary]; rfl) .bool
    · cases h
  | _ => cases u <;> cases h

theorem q_makeFunc (hR : Rel E.P Mo β st.T st.B a.tmps.toList w) (hk : Kp w0 F β st.B w) {o : Oper} {f : FuncId} {first caps : Array Operand} (ho : o.op = .makeFunc (.func f) first caps) (h : opQ E o st K = some r) :
    QOk E w0 F Mo β o st K r a w := by
  have h' : (bif first.isEmpty then K (.fn f (caps.toList.map (st.get E.P o.type))) [] else none) = some r := by unfold opQ at h; rw [ho] at h; exact h
  obtain ⟨h1, h2⟩ := cond_some h'
  have hf : first = #[] := by simpa using h1
  subst hf
  refine QOk.val hR hk h2 (v := .func (.func f) #[] (caps.map a.eval)) ?_ ?_
  · unfold execOp; rw [ho]; simp only [Instr.makeFunc, Array.map_empty]; rfl
  · refine .fn (vs := fun i => a.eval (caps.toList.getD i (.const undef))) (by simp) (fun i hi => ?_) (fun i s hs => ?_)
    · rw [List.length_map] at hi
      have hg := List.getElem?_eq_getElem hi
      rw [getD_of hg, Array.getElem?_map, ← Array.getElem?_toList, hg]; rfl
    · have hi := get_lt hs
      rw [List.length_map] at hi
      have hg := List.getElem?_eq_getElem hi
      rw [List.getElem?_map, hg] at hs
      replace hs : st.get E.P o.type caps.toList[i] = s := by simpa using hs
      subst hs
      rw [getD_of hg]
      exact get_sound hR _ _

end
end Go.X
