/- The interpreter X, part 32: regions, code. -/
import Derived.Test.YtbmhbnkejgjfdaaX31
import Derived.Scope
namespace Go.X
open Go

/-- What is to be shown of code: the state that comes is one that the rest takes. -/
def QP (P : Program) (w0 : World) (F : Foot) (Mo : Nat → Prop) (K : Kont) (r : Out) : Exit → Act → World → Prop
  | .normal, a, w => ∃ st, Inv P w0 F Mo st a w ∧ K .normal st = some r
  | .ret, a, w => ∃ st, Inv P w0 F Mo st a w ∧ K .ret st = some r
  | .exit id, a, w => ∃ st, Inv P w0 F Mo st a w ∧ K (.exit id) st = some r
  | _, _, _ => False

section
variable {E : Env} {w0 : World} {F : Foot} {Mo : Nat → Prop} {st : St} {a : Act} {w : World}

theorem set_same {T : List SV} {i : Nat} {s : SV} (h : T.getD i .dead = s) (hs : s ≠ .dead) : T.set i s = T := by
  apply List.ext_getElem?
  intro j
  by_cases hij : i = j
  · subst hij
    cases hg : T[i]? with
    | none => rw [List.getD_eq_getElem?_getD, hg] at h; exact absurd h.symm hs
    | some x =>
      have : x = s := by rw [List.getD_eq_getElem?_getD, hg] at h; exact h
      subst this
      rw [List.getElem?_set_self (get_lt hg)]
  · rw [List.getElem?_set_ne hij]

theorem slot_at {P : Program} {M : Nat → Prop} {β : Beta} {vs : List Value} {T : List SV} (hlen : vs.length = T.length) (hslot : ∀ (i : Nat) (s : SV) (v : Value), T[i]? = some s → vs[i]? = some v → RS P w M β st.B s v) {i : Nat} {s : SV} (h : T.getD i .dead = s) (hs : s ≠ .dead) :
    ∃ v, vs[i]? = some v ∧ RS P w M β st.B s v := by
  cases hg : T[i]? with
  | none => rw [List.getD_eq_getElem?_getD, hg] at h; exact absurd h.symm hs
  | some x =>
    have : x = s := by rw [List.getD_eq_getElem?_getD, hg] at h; exact h
    subst this
    have hv := List.getElem?_eq_getElem (show i < vs.length by rw [hlen]; exact get_lt hg)
    exact ⟨_, hv, hslot i _ _ hg hv⟩

theorem Inv.undef (hI : Inv E.P w0 F Mo st a w) (d : Option Tmp) : Inv E.P w0 F Mo (st.put d .undef) (a.put d Go.undef) w := by
  obtain ⟨hd, β, h1, h2⟩ := hI
  exact Inv.put hd ⟨β, h1, h2, .undef⟩ d

/-- Is a guarded operation wanted? -/
theorem guard_sound (hI : Inv E.P w0 F Mo st a w) {ops : Array Oper} {o : Oper} {j : Nat} {want : Bool} (hg : o.guard = some (j, want)) {dj : Tmp} (hd : (ops[j]?).bind (·.dst) = some dj) :
    (∀ b, st.T.getD dj .dead = .bool b → Region.wanted o (yielded ops a.tmps) = (b == want)) ∧ (st.T.getD dj .dead = .undef → Region.wanted o (yielded ops a.tmps) = false) := by
  obtain ⟨_, β, hR, _⟩ := hI
  constructor
  · intro b hb
    obtain ⟨v, hv, hr⟩ := slot_at hR.len hR.slot hb (by simp)
    cases hr with
    | bool =>
      have : a.tmps[dj]? = some (.bool b) := by rw [← Array.getElem?_toList]; exact hv
      unfold Region.wanted yielded
      rw [hg]
      simp only [hd, Option.bind_some, this]
      cases b <;> cases want <;> rfl
  · intro hb
    obtain ⟨v, hv, hr⟩ := slot_at hR.len hR.slot hb (by simp)
    generalize hs : SV.undef = s at hr
    cases hr with
    | undef =>
      have : a.tmps[dj]? = some Go.undef := by rw [← Array.getElem?_toList]; exact hv
      unfold Region.wanted yielded
      rw [hg]
      simp only [hd, Option.bind_some, this]
      cases want <;> rfl
    | _ => cases hs

/-- The operations of a region, in the order of the text. -/
theorem RS.mask {P : Program} {M : Nat → Prop} {β : Beta} {B : Obs} (l : List Nat) : ∀ (T : List SV) (n i : Nat) (s : SV), (maskT l n T)[i]? = some s → s = .dead ∨ T[i]? = some s
  | [], _, _, _, h => by simp [maskT] at h
  | x :: T, n, i, s, h => by
    cases i with
    | zero =>
      simp only [maskT, List.getElem?_cons_zero, Option.some.injEq] at h
      cases hb : l.contains n with
      | true => rw [hb, cond_true] at h; right; simp [h]
      | false => rw [hb, cond_false] at h; left; exact h.symm
    | succ i =>
      have := RS.mask (P := P) (M := M) (β := β) (B := B) l T (n + 1) i s (by simpa [maskT] using h)
      simpa using this
theorem maskT_len (l : List Nat) : ∀ (n : Nat) (T : List SV), (maskT l n T).length = T.length
  | _, [] => rfl
  | n, _ :: T => by simp [maskT, maskT_len l (n + 1) T]
theorem Inv.maskT {st : St} (h : Inv E.P w0 F Mo st a w) (l : List Nat) : Inv E.P w0 F Mo { st with T := X.maskT l 0 st.T } a w := by
  obtain ⟨h1, β, hR, hk⟩ := h
  refine ⟨h1, β, ⟨by rw [hR.len]; exact (maskT_len l 0 st.T).symm, fun i s v hs hv => ?_, hR.ob, hR.inj, hR.lt, hR.out, hR.mo⟩, hk⟩
  rcases RS.mask (P := E.P) (M := Mut Mo β st.B) (β := β) (B := st.B) l st.T 0 i s hs with h | h
  · subst h; exact .dead
  · exact hR.slot i s v h hv
theorem Inv.msk {st : St} (h : Inv E.P w0 F Mo st a w) (key : Nat) : Inv E.P w0 F Mo (st.msk E key) a w := by
  unfold St.msk
  split
  · exact h
  · exact h.maskT _
theorem Inv.purge {st : St} (h : Inv E.P w0 F Mo st a w) (c : Code) : Inv E.P w0 F Mo (st.purge E c) a w := by
  unfold St.purge
  split
  · exact h
  · exact Inv.retireAll _ (h.maskT _)

theorem execOps_sound (hL : laidOutB E.P = true) (hC : OracleOk E.P E.C) {ops : Array Oper} {K : St → Option Out} {r : Out} {Q : Exit → Act → World → Prop} (hQ : ∀ st a w, Inv E.P w0 F Mo st a w → K st = some r → Q .normal a w) :
    ∀ (l : List Oper) (k : Nat) {st : St} {a : Act} {w : World}, (∀ j, l[j]? = ops[k + j]?) → Inv E.P w0 F Mo st a w → execOps E ops l K st = some r → wpOps E.P ops Q (List.range' k l.length) a w
  | [], k, st, a, w, _, hI, h => hQ st a w hI h
  | o :: l, k, st, a, w, hl, hI, h => by
    have hk : ops[k]? = some o := by have := hl 0; simpa using this.symm
    have hl' : ∀ j, l[j]? = ops[k + 1 + j]? := fun j => by
      have := hl (j + 1)
      rw [List.getElem?_cons_succ] at this
      rw [this]; congr 1; omega
    rw [List.length_cons, List.range'_succ]
    unfold wpOps
    rw [hk]
    simp only
    have doit : ∀ {st : St}, Inv E.P w0 F Mo st a w → opX E o st (execOps E ops l K) = some r → o.wp E.P a w (wpOps E.P ops Q (List.range' (k + 1) l.length)) Q := by
      intro st hI h
      obtain ⟨st', h1, h2⟩ := opX_sound hL hC hI h
      exact h2 _ _ fun a' w' hI' => execOps_sound hL hC hQ l (k + 1) hl' hI' h1
    unfold execOps at h
    cases hg : o.guard with
    | none =>
      rw [hg] at h
      simp only at h
      have hw : Region.wanted o (yielded ops a.tmps) = true := by unfold Region.wanted; rw [hg]
      rw [if_pos hw]
      exact .inl (doit (hI.msk _) h)
    | some gw =>
      obtain ⟨j, want⟩ := gw
      rw [hg] at h
      simp only at h
      cases hd : (ops[j]?).bind (·.dst) with
      | none => rw [hd] at h; cases h
      | some dj =>
        rw [hd] at h
        simp only at h
        obtain ⟨g1, g2⟩ := guard_sound hI hg hd
        cases hs : st.T.getD dj .dead with
        | bool b =>
          rw [hs] at h
          simp only at h
          have hw := g1 b hs
          cases hb : b == want with
          | true =>
            rw [hb, cond_true] at h
            rw [if_pos (hw.trans hb)]
            have hbw : b = want := by simpa using hb
            subst hbw
            have : st.setT dj (.bool b) = st := by unfold St.setT; rw [set_same hs (by simp)]
            rw [this] at h
            exact .inl (doit hI h)
          | false =>
            rw [hb, cond_false] at h
            rw [if_neg (by rw [hw, hb]; simp)]
            have hbw : (!want) = b := by cases b <;> cases want <;> simp_all
            rw [hbw] at h
            have : st.setT dj (.bool b) = st := by unfold St.setT; rw [set_same hs (by simp)]
            rw [this] at h
            exact execOps_sound hL hC hQ l (k + 1) hl' (hI.undef o.dst) h
        | undef =>
          rw [hs] at h
          simp only at h
          rw [if_neg (by rw [g2 hs]; simp)]
          exact execOps_sound hL hC hQ l (k + 1) hl' (hI.undef o.dst) h
        | _ => rw [hs] at h; cases h

/-- A region whose order is drawn, as it is to be shown. -/
def DrawOk (E : Env) (ops : Array Oper) : Prop :=
  ∀ (w0 : World) (F : Foot) (Mo : Nat → Prop) (st : St) (a : Act) (w : World) (K : St → Option Out) (r : Out) (Q : Exit → Act → World → Prop), (∀ st a w, Inv E.P w0 F Mo st a w → K st = some r → Q .normal a w) →
    Inv E.P w0 F Mo st a w → execD E ops K st = some r → ∀ id, (Code.region id ops true).wp E.P Q a w
/-- All regions whose order is drawn are as they should be. -/
def DrawsOk (E : Env) : Code → Prop
  | .region _ ops true => DrawOk E ops
  | .seq x y => DrawsOk E x ∧ DrawsOk E y
  | .cond _ x y => DrawsOk E x ∧ DrawsOk E y
  | .block _ c => DrawsOk E c
  | .loop c => DrawsOk E c
  | .scope c => DrawsOk E c
  | _ => True

theorem loop_sound {P : Program} {c : Code} {body : Kont → St → Option Out} {K : Kont} {r : Out}
    (hbody : ∀ (K : Kont) {st : St} {a : Act} {w : World}, Inv P w0 F Mo st a w → body K st = some r → c.wp P (QP P w0 F Mo K r) a w) (n : Nat) :
    ∀ {st : St} {a : Act} {w : World}, Inv P w0 F Mo st a w → loopN body K n st = some r → ∀ (b : Frame) (k : List Item) (cs : List Frame), ∃ e a' w', QP P w0 F Mo K r e a' w' ∧ Arrives P (lone (b.at a (.code c :: .inLoop c :: k)) cs w) b k cs e a' w' := by
  induction n with
  | zero => intro st a w _ h; cases h
  | succ n ih =>
    intro st a w hI h b k cs
    unfold loopN at h
    obtain ⟨e, a₁, w₁, hq, harr⟩ := hbody _ hI h b (.inLoop c :: k) cs
    cases e with
    | normal =>
      obtain ⟨st', h1, h2⟩ := hq
      obtain ⟨e₂, a₂, w₂, hq₂, harr₂⟩ := ih h1 h2 b k cs
      exact ⟨e₂, a₂, w₂, hq₂, .of_steps (Steps.trans harr (.one step_inLoop)) harr₂⟩
    | exit id =>
      have hq' : QP P w0 F Mo K r (.exit id) a₁ w₁ := hq
      exact ⟨_, a₁, w₁, hq', .pass (x := .inLoop c) rfl (fun _ _ => .inl (by simp)) harr⟩
    | goto l => exact hq.elim
    | ret =>
      have hq' : QP P w0 F Mo K r .ret a₁ w₁ := hq
      exact ⟨_, a₁, w₁, hq', .pass (x := .inLoop c) rfl (fun _ _ => .inl (by simp)) harr⟩
    | panic ch => exact hq.elim
    | outgrown => exact hq.elim

theorem learn_same {P : Program} {c : Operand} {t : Bool} (h : st.get P 0 c = .bool t) : st.learn c t = st := by
  cases c with
  | tmp i =>
    have : st.T.getD i .dead = .bool t := h
    show st.setT i (.bool t) = st
    unfold St.setT
    rw [set_same this (by simp)]
  | _ => rfl

theorem exec_sound (hL : laidOutB E.P = true) (hC : OracleOk E.P E.C) {r : Out} : ∀ (c : Code) (K : Kont) {st : St} {a : Act} {w : World}, DrawsOk E c → Inv E.P w0 F Mo st a w → exec E c K st = some r → c.wp E.P (QP E.P w0 F Mo K r) a w
  | .skip, K, st, a, w, _, hI, h => wp_skip ⟨st, hI, h⟩
  | .region id ops true, K, st, a, w, hD, hI, h => hD w0 F Mo st a w (K .normal) r _ (fun st a w hI h => ⟨st, hI, h⟩) hI h id
  | .region id ops false, K, st, a, w, hD, hI, h => by
    apply wp_region
    have h' : execOps E ops ops.toList (K .normal) st = some r := h
    have := execOps_sound (Q := QP E.P w0 F Mo K r) hL hC (fun st a w hI h => ⟨st, hI, h⟩) ops.toList 0 (fun j => by simp) hI h'
    rwa [List.range_eq_range', show ops.size = ops.toList.length by simp]
  | .seq x y, K, st, a, w, hD, hI, h => by
    apply wp_seq
    refine wp_mono (exec_sound hL hC x (thenK (fun st => exec E y K (st.msk E (3 * headOf y + 1))) K) hD.1 hI h) fun e a w hq => ?_
    cases e with
    | normal =>
      obtain ⟨st', h1, h2⟩ := hq
      exact exec_sound hL hC y K hD.2 (h1.msk _) h2
    | exit id => exact hq
    | ret => exact hq
    | goto l => exact hq.elim
    | panic ch => exact hq.elim
    | outgrown => exact hq.elim
  | .cond c x y, K, st, a, w, hD, hI, h => by
    unfold exec at h
    have hc : RS E.P w (Mut Mo hI.2.choose st.B) hI.2.choose st.B (st.get E.P 0 c) (a.eval c) := get_sound hI.2.choose_spec.1 0 c
    cases hg : st.get E.P 0 c with
    | bool t =>
      rw [hg] at h hc
      simp only at h
      have hv : a.eval c = .bool t := by
        generalize a.eval c = v at hc
        cases hc; rfl
      cases t with
      | true =>
        rw [cond_true, learn_same hg] at h
        exact wp_cond_true hv (exec_sound hL hC x K hD.1 hI h)
      | false =>
        rw [cond_false, learn_same hg] at h
        exact wp_cond_false hv (exec_sound hL hC y K hD.2 hI h)
    | _ => rw [hg] at h; cases h
  | .block id c, K, st, a, w, hD, hI, h => by
    apply wp_block
    refine wp_mono (exec_sound hL hC c (blockK id K) hD hI h) fun e a w hq => ?_
    cases e with
    | normal => exact hq
    | exit i =>
      obtain ⟨st', h1, h2⟩ := hq
      show if i = id then _ else _
      unfold blockK at h2
      by_cases hi : i = id
      · subst hi
        rw [if_pos rfl]
        simp only [beq_self_eq_true, cond_true] at h2
        exact ⟨st', h1, h2⟩
      · rw [if_neg hi]
        simp only [show (i == id) = false by simpa using hi, cond_false] at h2
        exact ⟨st', h1, h2⟩
    | ret => exact hq
    | goto l => exact hq.elim
    | panic ch => exact hq.elim
    | outgrown => exact hq.elim
  | .loop c, K, st, a, w, hD, hI, h => by
    intro b k cs
    obtain ⟨e, a', w', hq, harr⟩ := loop_sound (body := fun K st => exec E c (purgeK E c K) st) (fun K st a w hI h => by
      refine wp_mono (exec_sound hL hC c (purgeK E c K) hD hI h) fun e a w hq => ?_
      cases e with
      | normal =>
        obtain ⟨st', h1, h2⟩ := hq
        exact ⟨_, h1.purge c, h2⟩
      | exit id => exact hq
      | ret => exact hq
      | goto l => exact hq.elim
      | panic ch => exact hq.elim
      | outgrown => exact hq.elim) E.fuel (hI.purge c) h b k cs
    exact ⟨e, a', w', hq, .of_steps (.one step_loop) harr⟩
  | .exit id, K, st, a, w, _, hI, h => wp_exit ⟨st, hI, h⟩
  | .scope c, K, st, a, w, hD, hI, h => by
    apply wp_scope_straight
    refine wp_mono (exec_sound hL hC c K hD hI h) fun e a w hq => ?_
    cases e with
    | goto l => exact hq.elim
    | _ => exact hq
  | .ret, K, st, a, w, _, hI, h => wp_ret ⟨st, hI, h⟩
  | .rangeFunc _ _ _ _, _, _, _, _, _, _, h => by cases h
  | .label _, _, _, _, _, _, _, h => by cases h
  | .goto _, _, _, _, _, _, _, h => by cases h
  | .refuse _, _, _, _, _, _, _, h => by cases h

end
end Go.X
