/- The interpreter X, part 34: a function; calls down to any depth. -/
import Derived.Test.YtbmhbnkejgjfdaaX33
namespace Go.X
open Go

/-- A call's end. -/
def EndsIn (P : Program) (w : World) (Mo : Nat → Prop) (β : Beta) (B0 : Obs) (r : Out) (e : Ending) (w' : World) : Prop :=
  ∃ rvs β', e = .returned (retV rvs) ∧ Rel P Mo β' r.1 r.2 rvs w' ∧ Kp w (footOf β B0) β' r.2 w'

section
variable {E : Env}

theorem start_inv {P : Program} {Mo : Nat → Prop} {β : Beta} {args : List SV} {B0 : Obs} {vs : List Value} {w : World} (h : Rel P Mo β args B0 vs w) (n : Nat) :
    Inv P w (footOf β B0) Mo { T := args ++ List.replicate n .undef, B := B0 } { tmps := vs.toArray ++ Array.replicate n Go.undef, defers := [] } w := by
  refine ⟨rfl, β, ?_, ?_⟩
  · refine ⟨?_, ?_, h.ob, h.inj, h.lt, h.out, h.mo⟩
    · simp [h.len]
    · intro i s v hs hv
      have e : (vs.toArray ++ Array.replicate n Go.undef).toList = vs ++ List.replicate n Go.undef := by simp
      simp only [e] at hv
      simp only at hs
      by_cases hi : i < args.length
      · rw [List.getElem?_append_left hi] at hs
        rw [List.getElem?_append_left (by rw [h.len]; exact hi)] at hv
        exact h.slot i s v hs hv
      · rw [List.getElem?_append_right (by omega)] at hs
        rw [List.getElem?_append_right (by rw [h.len]; omega)] at hv
        have e1 := (List.mem_replicate.1 (List.mem_of_getElem? hs)).2
        have e2 := (List.mem_replicate.1 (List.mem_of_getElem? hv)).2
        subst e1; subst e2
        exact .undef
  · refine ⟨Nat.le_refl _, fun _ _ _ => rfl, fun b hb => .inl hb, rfl, rfl, fun k t b o hk ho => ?_, fun k hk => ?_⟩
    · unfold footOf at hk
      simp only at hk
      split at hk
      · cases hk
      · simp only at ho
        rw [ho] at hk
        cases o with
        | row _ _ => cases hk
        | box t' s =>
          cases hb : β k with
          | none => rw [hb] at hk; cases hk
          | some b' =>
            rw [hb] at hk
            simp only [Option.some.injEq, Prod.mk.injEq] at hk
            obtain ⟨rfl, rfl⟩ := hk
            exact ⟨⟨s, rfl⟩, rfl⟩
    · unfold footOf
      simp only
      rw [if_pos hk]

/-- A function that has a body. -/
theorem run1_sound (hL : laidOutB E.P = true) (hC : OracleOk E.P E.C) {f : FuncId} {args : List SV} {B0 : Obs} {r : Out} (hD : ∀ fn c, E.P.funcs[f]? = some fn → fn.body = some c → DrawsOk E c) (h : run1 E f args B0 = some r) :
    ∃ fn c, E.P.funcs[f]? = some fn ∧ fn.body = some c ∧ ∀ (Mo : Nat → Prop) (β : Beta) (vs : List Value) (w : World), Rel E.P Mo β args B0 vs w → Calls E.P f vs.toArray w (EndsIn E.P w Mo β B0 r) := by
  unfold run1 at h
  cases hf : E.P.funcs[f]? with
  | none => rw [hf] at h; cases h
  | some fn =>
    rw [hf] at h
    simp only at h
    cases hb : fn.body with
    | none => rw [hb] at h; cases h
    | some c =>
      rw [hb] at h
      simp only at h
      refine ⟨fn, c, rfl, hb, fun Mo β vs w hR => ?_⟩
      apply calls_of_wp hf hb
      have hlen : vs.toArray.size = args.length := by simp [hR.len]
      rw [hlen]
      have hI := start_inv hR (fn.ntmps - args.length)
      refine wp_mono (exec_sound hL hC c _ (hD fn c hf hb) hI h) fun e a w' hq => ?_
      cases e with
      | normal =>
        obtain ⟨st, h1, h2⟩ := hq
        obtain ⟨g1, rvs, β', g2, g3, g4⟩ := finish_sound hL h1 h2
        exact ⟨g1, _, g2, rvs, β', rfl, g3, g4⟩
      | ret =>
        obtain ⟨st, h1, h2⟩ := hq
        obtain ⟨g1, rvs, β', g2, g3, g4⟩ := finish_sound hL h1 h2
        exact ⟨g1, _, g2, rvs, β', rfl, g3, g4⟩
      | exit id =>
        obtain ⟨st, h1, h2⟩ := hq
        cases h2
      | goto l => exact hq.elim
      | panic ch => exact hq.elim
      | outgrown => exact hq.elim

/-- No function is the one that the model treats apart. -/
def noNum (P : Program) : Bool := P.funcs.all fun fn => !(fn.name == "runtime.NumGoroutine")

theorem run_enter {P : Program} {f : FuncId} {fn : Func} {c : Code} (hf : P.funcs[f]? = some fn) (hname : (fn.name == "runtime.NumGoroutine") = false) (hb : fn.body = some c) (args : Array Value) (w : World) :
    (callFunc f args).run P w = .ok (.enter f args) w := by
  have h1 : fn.name ≠ "runtime.NumGoroutine" := by simpa using hname
  simp [callFunc, hf, h1, hb]

theorem callOk_of {P : Program} (hN : noNum P = true) {f : FuncId} {fn : Func} {c : Code} (hf : P.funcs[f]? = some fn) (hb : fn.body = some c) {args : List SV} {B0 : Obs} {r : Out}
    (h : ∀ (Mo : Nat → Prop) (β : Beta) (vs : List Value) (w : World), Rel P Mo β args B0 vs w → Calls P f vs.toArray w (EndsIn P w Mo β B0 r)) : CallOk P f args B0 r := by
  intro Mo β vs w hR o a next Q hn
  have hname : (fn.name == "runtime.NumGoroutine") = false := by
    unfold noNum at hN
    have := Array.all_eq_true_iff_forall_mem.1 hN fn (Array.mem_of_getElem? hf)
    simpa using this
  rw [run_enter hf hname hb, Oper.upon_enter]
  refine Calls.mono (h Mo β vs w hR) fun e w' he => ?_
  obtain ⟨rvs, β', rfl, h1, h2⟩ := he
  exact hn rvs w' β' h1 h2

/-- All regions whose order is drawn are as they should be, in whatever surroundings. -/
def CodeOk (P : Program) (c : Code) : Prop := ∀ E : Env, E.P = P → OracleOk E.P E.C → DrawsOk E c

structure Fine (P : Program) (cfg : Cfg) : Prop where
  lay : laidOutB P = true
  num : noNum P = true
  draws : ∀ f fn c, cfg.okF f = true → P.funcs[f]? = some fn → fn.body = some c → CodeOk P c
  ext : ∀ f s args B r, cfg.ext f = some s → s args B = some r → CallOk P f args B r

/-- One function, over what calls come to. -/
theorem callOk_run {P : Program} {E : Env} (hE : E.P = P) (hL : laidOutB P = true) (hN : noNum P = true) (hC : OracleOk P E.C) {f : FuncId} {args : List SV} {B0 : Obs} {r : Out}
    (hD : ∀ fn c, P.funcs[f]? = some fn → fn.body = some c → DrawsOk E c) (h : run1 E f args B0 = some r) : CallOk P f args B0 r := by
  subst hE
  obtain ⟨fn, c, hf, hb, hc⟩ := run1_sound hL hC hD h
  exact callOk_of hN hf hb hc

def evC (P : Program) (cfg : Cfg) (k : Nat) : FuncId → List SV → Obs → (Out → Option Out) → Option Out := fun f l B K => (ev P cfg k f l B).bind K

theorem evC_par (P : Program) (cfg : Cfg) (k : Nat) : Par (evC P cfg k) := fun f l B K => by
  unfold evC
  cases ev P cfg k f l B <;> rfl

theorem ev_sound {P : Program} {cfg : Cfg} (H : Fine P cfg) : ∀ k, OracleOk P (evC P cfg k)
  | 0 => ⟨fun f args B0 r h => (by cases h), evC_par _ _ _⟩
  | k + 1 => ⟨fun f args B0 r h => by
    have h : ev P cfg (k + 1) f args B0 = some r := by
      unfold evC at h
      cases hh : ev P cfg (k + 1) f args B0 with
      | none => rw [hh] at h; cases h
      | some y => rw [hh] at h; exact h
    unfold ev at h
    cases hx : cfg.ext f with
    | some s => rw [hx] at h; exact H.ext f s args B0 r hx h
    | none =>
      rw [hx] at h
      simp only at h
      obtain ⟨hok, h⟩ := cond_some h
      have hC := ev_sound H k
      exact callOk_run (E := { P, nilOwn := cfg.nilOwn f, fldOwn := cfg.fldOwn f, ownPar := cfg.ownPar, ownRet := cfg.ownRet f, mask := cfg.mask f, fuel := k, C := evC P cfg k }) rfl H.lay H.num hC (fun fn c hf hb => H.draws f fn c hok hf hb _ rfl hC) h, evC_par _ _ _⟩

/-- A function's call, from the outside. -/
theorem ev_calls {P : Program} {cfg : Cfg} (H : Fine P cfg) {k : Nat} {f : FuncId} (hx : cfg.ext f = none) {args : List SV} {B0 : Obs} {r : Out} (h : ev P cfg k f args B0 = some r) {Mo : Nat → Prop} {β : Beta} {vs : List Value} {w : World} (hR : Rel P Mo β args B0 vs w) :
    Calls P f vs.toArray w (EndsIn P w Mo β B0 r) := by
  cases k with
  | zero => cases h
  | succ k =>
    unfold ev at h
    rw [hx] at h
    simp only at h
    obtain ⟨hok, h⟩ := cond_some h
    have hC := ev_sound H k
    obtain ⟨fn, c, hf, hb, hc⟩ := run1_sound (E := { P, nilOwn := cfg.nilOwn f, fldOwn := cfg.fldOwn f, ownPar := cfg.ownPar, ownRet := cfg.ownRet f, mask := cfg.mask f, fuel := k, C := evC P cfg k }) H.lay hC (fun fn c hf hb => H.draws f fn c hok hf hb _ rfl hC) h
    exact hc Mo β vs w hR

end
end Go.X
