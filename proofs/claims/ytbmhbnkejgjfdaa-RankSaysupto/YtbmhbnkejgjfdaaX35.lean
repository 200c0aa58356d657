/- The interpreter X, part 35: what an operation hangs on. -/
import Derived.Test.YtbmhbnkejgjfdaaX34
namespace Go.X
open Go

def pairK (s : SV) (os : Obs) : Option Out := some ([s], os)
def unpair (K : SV → Obs → Option Out) : Out → Option Out
  | ([s], os) => K s os
  | _ => none

theorem bind_unpair {K : SV → Obs → Option Out} (s : SV) (os : Obs) : (pairK s os).bind (unpair K) = K s os := rfl

theorem binI_param (op : BinOp) (k : IntKind) (a b : Int) (K : SV → Obs → Option Out) : binI op k a b (fun s => K s []) = (binI op k a b (fun s => pairK s [])).bind (unpair K) := by
  cases op <;> simp only [binI, Bool.cond_eq_ite] <;> (try split) <;> rfl
theorem binSt_param (op : BinOp) (a b : List Int) (K : SV → Obs → Option Out) : binSt op a b (fun s => K s []) = (binSt op a b (fun s => pairK s [])).bind (unpair K) := by
  cases op <;> simp only [binSt, Bool.cond_eq_ite] <;> (try split) <;> rfl
theorem nilX_param (P : Program) (op : BinOp) (x : SV) (K : SV → Obs → Option Out) : nilX P op x (fun s => K s []) = (nilX P op x (fun s => pairK s [])).bind (unpair K) := by
  unfold nilX
  repeat' split
  all_goals rfl
theorem binX_param (P : Program) (op : BinOp) (t : TypeId) (x y : SV) (K : SV → Obs → Option Out) : binX P op t x y (fun s => K s []) = (binX P op t x y (fun s => pairK s [])).bind (unpair K) := by
  unfold binX
  simp only [Bool.cond_eq_ite]
  repeat' split
  all_goals first
    | rfl
    | exact binI_param _ _ _ _ _
    | exact binSt_param _ _ _ _
    | exact nilX_param _ _ _ _
theorem bounds_param (lo hi : Option Int) (len : Nat) (g : Nat → Nat → SV) (K : SV → Obs → Option Out) : bounds lo hi len (fun a b => K (g a b) []) = (bounds lo hi len (fun a b => pairK (g a b) [])).bind (unpair K) := by
  unfold bounds
  simp only [Bool.cond_eq_ite]
  split <;> rfl
theorem Par.bind {C : FuncId → List SV → Obs → (Out → Option Out) → Option Out} (hp : Par C) {f : FuncId} {l : List SV} {B : Obs} {K1 K2 g : Out → Option Out} (h : ∀ r, K1 r = (K2 r).bind g) : C f l B K1 = (C f l B K2).bind g := by
  rw [hp f l B K1, hp f l B K2]
  cases C f l B some with
  | none => rfl
  | some r => exact h r
theorem callQ_param (E : Env) (hp : Par E.C) (st : St) (f : FuncId) (args : List SV) (K : SV → Obs → Option Out) : callQ E st f args K = (callQ E st f args pairK).bind (unpair K) := by
  unfold callQ
  simp only [Bool.cond_eq_ite]
  split
  · rfl
  · split
    · rfl
    · refine Par.bind hp fun r => ?_
      split <;> rfl

theorem opQ_param (E : Env) (hp : Par E.C) (o : Oper) (st : St) (K : SV → Obs → Option Out) : opQ E o st K = (opQ E o st pairK).bind (unpair K) := by
  unfold opQ
  simp only [Bool.cond_eq_ite]
  split
  all_goals first
    | exact binX_param _ _ _ _ _ _
    | exact callQ_param _ hp _ _ _ _
    | (repeat' split
       all_goals first
         | rfl
         | exact bounds_param _ _ _ _ _)

section
variable {E : Env} {st st' : St}

theorem elems_mono (hB : ∀ d x, Obs.get st.B d = some x → Obs.get st'.B d = some x) {P : Program} {e : TypeId} {s : SV} {l : List PV} (h : st.elems P e s = some l) : st'.elems P e s = some l := by
  unfold St.elems at h ⊢
  cases s with
  | own u d =>
    simp only at h ⊢
    cases hg : Obs.get st.B d with
    | none => rw [hg] at h; cases h
    | some x => rw [hB d x hg]; rw [hg] at h; exact h
  | _ => exact h

theorem pass_mono (hB : ∀ d x, Obs.get st.B d = some x → Obs.get st'.B d = some x) {P : Program} {b : Bool} {t : TypeId} {s s' : SV} (h : s.pass P st b t = some s') : s.pass P st' b t = some s' := by
  unfold SV.pass at h ⊢
  cases s with
  | own u d =>
    simp only at h ⊢
    obtain ⟨h1, h⟩ := cond_some h
    rw [h1, cond_true]
    cases hu : P.underlying t with
    | none => rw [hu] at h; cases h
    | some dd =>
      rw [hu] at h
      cases dd with
      | slice e =>
        simp only at h ⊢
        cases hl : st.elems P e (.own u d) with
        | none => rw [hl] at h; cases h
        | some l => rw [elems_mono hB hl]; rw [hl] at h; exact h
      | _ => cases h
  | _ => exact h
theorem passAll_mono (hB : ∀ d x, Obs.get st.B d = some x → Obs.get st'.B d = some x) {P : Program} {b : Bool} : ∀ {ts : List TypeId} {l r : List SV}, passAll P st b ts l = some r → passAll P st' b ts l = some r
  | [], [], r, h => h
  | [], _ :: _, _, h => by simp [passAll] at h
  | _ :: _, [], _, h => by simp [passAll] at h
  | t :: ts, s :: l, r, h => by
    unfold passAll at h ⊢
    cases h1 : s.pass P st b t with
    | none => rw [h1] at h; cases h
    | some x =>
      cases h2 : passAll P st b ts l with
      | none => rw [h1, h2] at h; cases h
      | some y => rw [pass_mono hB h1, passAll_mono hB h2]; rw [h1, h2] at h; exact h

theorem opQ_congr (hB : ∀ d x, Obs.get st.B d = some x → Obs.get st'.B d = some x) {o : Oper} (hg : ∀ x ∈ o.op.operands, ∀ P t, st.get P t x = st'.get P t x) {r : Out} (h : opQ E o st pairK = some r) : opQ E o st' pairK = some r := by
  cases hop : o.op with
  | load t x =>
    have e := hg x (by rw [hop]; simp [Op.operands])
    unfold opQ at h ⊢
    rw [hop] at h ⊢
    simp only at h ⊢
    rw [e] at h
    generalize st'.get E.P o.type x = s at h ⊢
    cases s with
    | ptr d q =>
      simp only at h ⊢
      cases hh : Obs.get st.B d with
      | none => rw [hh] at h; cases h
      | some x => rw [hB d x hh]; rw [hh] at h; exact h
    | _ => exact h
  | fieldAddr t x f =>
    have e := hg x (by rw [hop]; simp [Op.operands])
    unfold opQ at h ⊢
    rw [hop] at h ⊢
    simp only at h ⊢
    rw [e] at h
    generalize st'.get E.P o.type x = s at h ⊢
    cases s with
    | ptr d q =>
      revert h
      split
      · split
        · intro h
          obtain ⟨h1, h⟩ := cond_none h
          rw [h1, cond_false]
          simp only at h ⊢
          cases hh : Obs.get st.B d with
          | none => rw [hh] at h; cases h
          | some x => rw [hB d x hh]; rw [hh] at h; exact h
        · exact id
      · exact id
    | _ => exact h
  | indexAddr t x i =>
    have e := hg x (by rw [hop]; simp [Op.operands])
    have e2 := hg i (by rw [hop]; simp [Op.operands])
    unfold opQ at h ⊢
    rw [hop] at h ⊢
    simp only at h ⊢
    rw [e, e2] at h
    generalize st'.get E.P o.type x = s at h ⊢
    revert h
    split
    · intro h
      obtain ⟨h1, h⟩ := cond_some h
      rw [h1, cond_true]
      cases s with
      | ptr d q =>
        simp only at h ⊢
        cases hh : Obs.get st.B d with
        | none => rw [hh] at h; cases h
        | some x => rw [hB d x hh]; rw [hh] at h; exact h
      | _ => exact h
    · intro h
      rename_i u _ _ _ _ _
      cases s with
      | own u' d =>
        simp only at h ⊢
        cases hh : Obs.get st.B d with
        | none => rw [hh] at h; cases h
        | some x => rw [hB d x hh]; rw [hh] at h; exact h
      | _ => exact h
    · exact id
  | convert s t x =>
    have e := hg x (by rw [hop]; simp [Op.operands])
    unfold opQ at h ⊢
    rw [hop] at h ⊢
    simp only at h ⊢
    rw [e] at h
    generalize st'.get E.P o.type x = sv at h ⊢
    split at h
    · exact h
    · exact h
    · exact h
    · rename_i sv2 _ _ _ e' hs ht
      cases hl : st.elems E.P e' sv2 with
      | none =>
        rw [hl] at h
        split at h <;> first
          | (cases h; done)
          | (rename_i h9; cases h9)
          | (rename_i h9 _; cases h9)
      | some l =>
        rw [elems_mono hB hl]
        rw [hl] at h; exact h
    · cases h
  | call c =>
    obtain ⟨callee, args, ts⟩ := c
    have hargs : ∀ t, args.toList.map (st.get E.P t) = args.toList.map (st'.get E.P t) := by
      intro t
      apply List.map_congr_left
      intro x hx
      exact hg x (by rw [hop]; simp only [Op.operands, Call.operands]; exact Array.mem_append_right _ (by simpa using hx)) _ _
    cases callee with
    | builtin b =>
      cases b with
      | len =>
        unfold opQ at h ⊢
        rw [hop] at h ⊢
        simp only at h ⊢
        rw [hargs] at h
        split at h
        · split at h
          · exact h
          · rename_i _ _ sv _ _ ee _ _
            cases hl : st.elems E.P ee sv with
            | none => rw [hl] at h; cases h
            | some l =>
              rw [elems_mono hB hl]
              rw [hl] at h; exact h
          · cases h
        · cases h
      | min =>
        unfold opQ at h ⊢
        rw [hop] at h ⊢
        simp only at h ⊢
        rw [hargs] at h
        exact h
      | max =>
        unfold opQ at h ⊢
        rw [hop] at h ⊢
        simp only at h ⊢
        rw [hargs] at h
        exact h
      | _ => unfold opQ at h; rw [hop] at h; cases h
    | value x =>
      cases x with
      | func f =>
        unfold opQ at h ⊢
        rw [hop] at h ⊢
        simp only at h ⊢
        rw [hargs] at h
        unfold callQ at h ⊢
        cases hf : E.P.funcs[f]? with
        | none => rw [hf] at h; cases h
        | some fn =>
          rw [hf] at h
          simp only at h ⊢
          cases hp : passAll E.P st (fn.resultTypes.toList.all (isScalar E.P)) fn.params.toList (args.toList.map (st'.get E.P o.type)) with
          | none => rw [hp] at h; cases h
          | some l => rw [passAll_mono hB hp]; rw [hp] at h; exact h
      | _ => unfold opQ at h; rw [hop] at h; cases h
    | _ => unfold opQ at h; rw [hop] at h; cases h
  | slice t x lo hi mx =>
    cases mx with
    | some m => unfold opQ at h; rw [hop] at h; cases h
    | none =>
      have e := hg x (by rw [hop]; simp [Op.operands])
      have el : ∀ y, lo = some y → ∀ P t, st.get P t y = st'.get P t y := fun y hy => hg y (by rw [hop]; simp [Op.operands, hy])
      have eh : ∀ y, hi = some y → ∀ P t, st.get P t y = st'.get P t y := fun y hy => hg y (by rw [hop]; simp [Op.operands, hy])
      have e1 : optInt st E.P lo = optInt st' E.P lo := by
        cases lo with
        | none => rfl
        | some y => simp only [optInt]; rw [el y rfl]
      have e2 : optInt st E.P hi = optInt st' E.P hi := by
        cases hi with
        | none => rfl
        | some y => simp only [optInt]; rw [eh y rfl]
      unfold opQ at h ⊢
      rw [hop] at h ⊢
      simp only at h ⊢
      rw [e, e1, e2] at h
      exact h
  | build t ps =>
    have e : ∀ t, ps.toList.map (fun x => st.get E.P t x.2) = ps.toList.map (fun x => st'.get E.P t x.2) := fun t => List.map_congr_left fun x hx => hg x.2 (by rw [hop]; simp [Op.operands]; exact ⟨x.1, by simpa using hx⟩) _ _
    unfold opQ at h ⊢
    rw [hop] at h ⊢
    simp only [e] at h ⊢
    exact h
  | buildSlice t n ps =>
    have e : ∀ t, ps.toList.map (fun x => st.get E.P t x.2) = ps.toList.map (fun x => st'.get E.P t x.2) := fun t => List.map_congr_left fun x hx => hg x.2 (by rw [hop]; simp [Op.operands]; exact ⟨x.1, by simpa using hx⟩) _ _
    unfold opQ at h ⊢
    rw [hop] at h ⊢
    simp only [e] at h ⊢
    exact h
  | makeFunc f first caps =>
    have e : ∀ t, caps.toList.map (st.get E.P t) = caps.toList.map (st'.get E.P t) := fun t => List.map_congr_left fun x hx => hg x (by rw [hop]; simp only [Op.operands]; exact Array.mem_append_right _ (by simpa using hx)) _ _
    cases f with
    | func f =>
      unfold opQ at h ⊢
      rw [hop] at h ⊢
      simp only [e] at h ⊢
      exact h
    | _ => unfold opQ at h; rw [hop] at h; cases h
  | alloc t =>
    unfold opQ at h ⊢
    rw [hop] at h ⊢
    exact h
  | pick c x y =>
    have e1 := hg c (by rw [hop]; simp [Op.operands])
    have e2 := hg x (by rw [hop]; simp [Op.operands])
    have e3 := hg y (by rw [hop]; simp [Op.operands])
    unfold opQ at h ⊢
    rw [hop] at h ⊢
    simp only [e1, e2, e3] at h ⊢
    exact h
  | binOp op t x y u =>
    have e1 := hg x (by rw [hop]; simp [Op.operands])
    have e2 := hg y (by rw [hop]; simp [Op.operands])
    unfold opQ at h ⊢
    rw [hop] at h ⊢
    simp only [e1, e2] at h ⊢
    exact h
  | index t x y =>
    have e1 := hg x (by rw [hop]; simp [Op.operands])
    have e2 := hg y (by rw [hop]; simp [Op.operands])
    unfold opQ at h ⊢
    rw [hop] at h ⊢
    simp only [e1, e2] at h ⊢
    exact h
  | makeSlice t x y =>
    have e1 := hg x (by rw [hop]; simp [Op.operands])
    have e2 := hg y (by rw [hop]; simp [Op.operands])
    unfold opQ at h ⊢
    rw [hop] at h ⊢
    simp only [e1, e2] at h ⊢
    exact h
  | move x | assign x | box _ x | nilCheck x | field _ x _ | extract x _ | unOp _ _ x =>
    have e1 := hg x (by rw [hop]; simp [Op.operands])
    unfold opQ at h ⊢
    rw [hop] at h ⊢
    simp only [e1] at h ⊢
    exact h
  | _ => unfold opQ at h; rw [hop] at h; cases h

end
end Go.X
