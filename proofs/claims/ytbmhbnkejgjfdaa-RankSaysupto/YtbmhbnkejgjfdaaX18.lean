/- The interpreter X, part 18: new variables, composite values, new slices. -/
import Derived.Test.YtbmhbnkejgjfdaaX17
namespace Go.X
open Go
section
variable {E : Env} {w0 : World} {F : Foot} {Mo : Nat → Prop} {st : St} {K : SV → Obs → Option Out} {r : Out} {a : Act} {w : World} {β : Beta}

theorem retire_id {st : St} {d : Nat} (h : Obs.get st.B d = none) : st.retire d = st := by unfold St.retire; rw [h]

/-- An operation that makes one object. -/
theorem QOk.lay {o : Oper} {s : SV} {d : Nat} {ob : Ob} {x : Option (Nat × Nat)} {v : Value} {w' : World} (hR : Rel E.P Mo β st.T st.B a.tmps.toList w) (hk : Kp w0 F β st.B w) (hd : Obs.get st.B d = none) (hlo : d < lowB)
    (hK : K s [(d, ob)] = some r) (hrun : (execOp a.eval o).run E.P w = .ok (.value v) w')
    (hsz : w.heap.size ≤ w'.heap.size) (hold : ∀ b, b < w.heap.size → w'.heap[b]? = w.heap[b]?) (hx : ∀ b c, x = some (b, c) → w.heap.size ≤ b ∧ b < w'.heap.size)
    (hos : w'.os = w.os) (hout : w'.output = w.output)
    (hro : Same E.P w (Mut Mo β st.B) β st.B w' (Mut Mo (β.at d x) (Obs.ins d ob st.B)) (β.at d x) (Obs.ins d ob st.B) → RO E.P w' (Mut Mo (β.at d x) (Obs.ins d ob st.B)) (β.at d x) (Obs.ins d ob st.B) d ob)
    (hs : RS E.P w' (Mut Mo (β.at d x) (Obs.ins d ob st.B)) (β.at d x) (Obs.ins d ob st.B) s v) : QOk E w0 F Mo β o st K r a w := by
  refine ⟨s, _, hK, .inr ⟨by simp, fun next Q hn => ?_⟩⟩
  unfold Oper.wp
  rw [hrun, Oper.upon_value]
  have hB : (st.lay [(d, ob)]).B = Obs.ins d ob st.B := by show Obs.ins d ob (st.retire d).B = _; rw [retire_id hd]
  obtain ⟨g1, g2⟩ := Post.lay1 hR hk d hlo ob hsz hold hx hos hout (fun hsame => by
    rw [hB] at hsame ⊢
    rw [retire_id hd] at hsame
    exact hro hsame)
  exact hn _ _ ⟨_, g1, g2, by rw [hB]; exact hs⟩

theorem at_self (β : Beta) (d : Nat) (x : Option (Nat × Nat)) : β.at d x d = x := by unfold Beta.at; rw [if_pos rfl]
theorem ins_self (d : Nat) (ob : Ob) (B : Obs) : Obs.get (Obs.ins d ob B) d = some ob := by rw [Obs.get_ins, if_pos rfl]

theorem push_old {w : World} {o : Obj} {b : Nat} (hb : b < w.heap.size) : (w.heap.push o)[b]? = w.heap[b]? := by
  rw [Array.getElem?_push_lt hb, Array.getElem?_eq_getElem hb]
theorem push_new {w : World} {o : Obj} : (w.heap.push o)[w.heap.size]? = some o := by simp

/-- A new variable. -/
theorem q_newBox (hR : Rel E.P Mo β st.T st.B a.tmps.toList w) (hk : Kp w0 F β st.B w) {o : Oper} {t : TypeId} {d : Nat} {s : SV} {v : Value} {cs : List Value} (hd : Obs.get st.B d = none) (hlo : d < lowB) (ht : t < E.P.types.size)
    (hp : Pack E.P t v cs) (hl : cs.length = E.P.cellsOf t) (h1 : ∀ c ∈ cs, c.oneCell' = true) (hs : RS E.P w (Mut Mo β st.B) β st.B s v) (hT : s.isT E.P t)
    (hK : K (.ptr d []) [(d, .box t s)] = some r) (hrun : (execOp a.eval o).run E.P w = .ok (.value (.pointer (some ⟨w.heap.size, 0, none⟩))) { w with heap := w.heap.push (.cells v.cells t (0, 0)) }) :
    QOk E w0 F Mo β o st K r a w := by
  have hc : v.cells = cs.toArray := by apply Array.ext'; rw [hp.cells h1]
  rw [hc] at hrun
  refine QOk.lay (x := some (w.heap.size, 0)) hR hk hd hlo hK hrun (by simp) (fun b hb => push_old hb) (fun b c hx => ?_) rfl rfl (fun hsame => ?_) ?_
  · injection hx with hx; injection hx with h2 h3; subst h2; exact ⟨Nat.le_refl _, by simp⟩
  · exact ⟨w.heap.size, 0, cs, v, (0, 0), at_self _ _ _, push_new, fun o _ => by omega, hl, h1, hp, hs.mono hsame, hT, ht⟩
  · exact .ptr (ob := .box t s) (ins_self _ _ _) (at_self _ _ _) rfl

theorem run_newVar (P : Program) (t : TypeId) (v : Value) (w : World) : (newVar t v).run P w = .ok ⟨w.heap.size, 0, none⟩ { w with heap := w.heap.push (.cells v.cells t (0, 0)) } := by
  unfold newVar newRow
  rw [Sem.run_bind, run_newObj, Result.andThen_ok]; rfl

/-- A slot's value of a type, in a new variable. -/
theorem RS.cellsOf (hL : laidOutB E.P = true) {M : Nat → Prop} {B : Obs} {s : SV} {v : Value} {t : TypeId} (ht : t < E.P.types.size) {p : PV} (hs : RS E.P w M β B s v) (hp : s.pvT E.P t = some p) :
    ∃ cs, Pack E.P t v cs ∧ cs.length = E.P.cellsOf t ∧ (∀ c ∈ cs, c.oneCell' = true) ∧ Rd E.P w M t p cs := by
  obtain ⟨cs, h1, h2⟩ := hs.pvT hp
  exact ⟨cs, h1, h2.size hL ht, h2.one hL, h2⟩

theorem isT_ofPV {P : Program} {w : World} {M : Nat → Prop} {t : TypeId} {p : PV} {cs : List Value} (h : Rd P w M t p cs) : (ofPV P t p).isT P t := by
  refine .inl ?_
  unfold ofPV
  cases h with
  | int hu => simp [hu, SV.pvT, PV.num]
  | bool hu => simp [hu, SV.pvT, PV.tt]
  | str hu => simp [hu, SV.pvT, PV.chars]
  | flt hu => simp [hu, SV.pvT, PV.fbits]
  | nilSlice hu => simp [hu, SV.pvT]
  | slice hu => simp [hu, SV.pvT]
  | nilPtr hu => simp [hu, SV.pvT]
  | ref hu => simp [hu, SV.pvT]
  | nilIface hu => simp [hu, SV.pvT]
  | struct hu => simp [hu, SV.pvT]
  | arr hu => simp [hu, SV.pvT]

theorem one_pack {P : Program} {t : TypeId} {v : Value} (ha : isAggT P t = false) : Pack P t v [v] := pack1 ha

theorem q_box (hL : laidOutB E.P = true) (hR : Rel E.P Mo β st.T st.B a.tmps.toList w) (hk : Kp w0 F β st.B w) {o : Oper} {t : TypeId} {x : Operand} (ho : o.op = .box t x) (hd : Obs.get st.B (o.dst.getD 0) = none) (hlo : o.dst.getD 0 < lowB) (h : opQ E o st K = some r) :
    QOk E w0 F Mo β o st K r a w := by
  have hx := get_sound hR t x
  unfold opQ at h
  rw [ho] at h
  simp only at h
  obtain ⟨ht, h⟩ := cond_none h
  have ht : t < E.P.types.size := by simpa using ht
  generalize o.dst.getD 0 = d at h hd hlo
  generalize st.get E.P t x = sx at h hx
  generalize hv : a.eval x = v at hx
  have hrun : (execOp a.eval o).run E.P w = .ok (.value (.pointer (some ⟨w.heap.size, 0, none⟩))) { w with heap := w.heap.push (.cells v.cells t (0, 0)) } := by
    unfold execOp; rw [ho]
    simp only [hv, Instr.box]
    rw [Sem.run_bind, Sem.run_bind, run_newVar]; rfl
  have data : ∀ p, sx.pvT E.P t = some p → K (.ptr d []) [(d, .box t (ofPV E.P t p))] = some r → QOk E w0 F Mo β o st K r a w := by
    intro p hp hK
    obtain ⟨cs, c1, c2, c3, c4⟩ := RS.cellsOf hL ht hx hp
    exact q_newBox hR hk hd hlo ht c1 c2 c3 (RS.ofPV c1 c4) (isT_ofPV c4) hK hrun
  by_cases hh : (∃ u e, sx = .own u e) ∨ (∃ e q, sx = .ptr e q) ∨ ∃ f l, sx = .fn f l
  · rcases hh with ⟨u, e, rfl⟩ | ⟨e, q, rfl⟩ | ⟨f, l, rfl⟩
    · simp only at h
      obtain ⟨h1, h⟩ := cond_some h
      have h1 : u = t := by simpa using h1
      subst h1
      have hx' := hx
      cases hx with
      | own hu =>
        have ha : isAggT E.P u = false := by simp [isAggT, hu]
        exact q_newBox hR hk hd hlo ht (pack1 ha) (by rw [cells1 hL ht (by rw [hu]; rfl) ha]; rfl) (fun c hc => by simp at hc; subst hc; rfl) hx' (.inr (.inl (by simp [SV.isHandle]))) h hrun
      | ownNil hu =>
        have ha : isAggT E.P u = false := by simp [isAggT, hu]
        exact q_newBox hR hk hd hlo ht (pack1 ha) (by rw [cells1 hL ht (by rw [hu]; rfl) ha]; rfl) (fun c hc => by simp at hc; subst hc; rfl) hx' (.inr (.inl (by simp [SV.isHandle]))) h hrun
    · simp only at h
      cases hu : E.P.underlying t with
      | none => rw [hu] at h; cases h
      | some dd =>
        rw [hu] at h
        cases dd with
        | pointer el =>
          have ha : isAggT E.P t = false := by simp [isAggT, hu]
          have hx' := hx
          cases hx with
          | ptr => exact q_newBox hR hk hd hlo ht (pack1 ha) (by rw [cells1 hL ht (by rw [hu]; rfl) ha]; rfl) (fun c hc => by simp at hc; subst hc; rfl) hx' (.inr (.inl (by simp [SV.isHandle, hu]))) h hrun
        | _ => cases h
    · simp only at h
      cases hu : E.P.underlying t with
      | none => rw [hu] at h; cases h
      | some dd =>
        rw [hu] at h
        cases dd with
        | func p1 p2 p3 =>
          have ha : isAggT E.P t = false := by simp [isAggT, hu]
          have hx' := hx
          cases hx with
          | fn => exact q_newBox hR hk hd hlo ht (pack1 ha) (by rw [cells1 hL ht (by rw [hu]; rfl) ha]; rfl) (fun c hc => by simp at hc; subst hc; rfl) hx' (.inr (.inl (by simp [SV.isHandle, hu]))) h hrun
        | _ => cases h
  · have h2 : (match sx.pvT E.P t with | some p => K (.ptr d []) [(d, .box t (ofPV E.P t p))] | none => none) = some r := by
      revert h
      cases sx <;> first
        | exact id
        | exact absurd (.inl ⟨_, _, rfl⟩) hh
        | exact absurd (.inr (.inl ⟨_, _, rfl⟩)) hh
        | exact absurd (.inr (.inr ⟨_, _, rfl⟩)) hh
    cases hp : sx.pvT E.P t with
    | none => rw [hp] at h2; cases h2
    | some p => rw [hp] at h2; exact data p hp h2

theorem zeroPV_spec {P : Program} {t : TypeId} {p : PV} (h : zeroPV P t = some p) : ∃ z cs, (∀ w, (zeroValue t).run P w = .ok z w) ∧ Pack P t z cs ∧ pvC P 10 t cs = some p ∧ z.cells = cs.toArray := by
  unfold zeroPV at h
  cases hi : P.info? t with
  | none => rw [hi] at h; cases h
  | some i =>
    rw [hi] at h
    simp only [Option.bind_some] at h
    have hrun : ∀ z, i.zero = some z → ∀ w, (zeroValue t).run P w = .ok z w := by
      intro z hz w
      unfold zeroValue typeInfo
      simp only [Sem.run_bind, run_program, Result.andThen_ok, hi, Sem.run_pure, hz]
    cases hz : i.zero with
    | none => rw [hz] at h; cases h
    | some z =>
      rw [hz] at h
      by_cases hag : ∃ cs, z = .agg cs
      · obtain ⟨cs, rfl⟩ := hag
        simp only at h
        obtain ⟨ha, h⟩ := cond_some h
        exact ⟨_, cs.toList, hrun _ hz, by simp [Pack, ha], h, rfl⟩
      · have h2 : (bif isAggT P t then none else pvC P 10 t [z]) = some p := by
          revert h
          cases z <;> first
            | exact id
            | exact absurd ⟨_, rfl⟩ hag
        obtain ⟨ha, h2⟩ := cond_none h2
        refine ⟨_, [z], hrun _ hz, by simp [Pack, ha], h2, ?_⟩
        have hr : Rd P default (fun _ => True) t p [z] := pvC_sound 10 h2
        obtain ⟨v, hv, _, h3⟩ := hr.len ha
        injection hv with hv
        subst hv; exact h3

/-- Rows that hold nothing yet. -/
theorem lay_rows (hL : laidOutB E.P = true) {vs : List Value} : ∀ (os : Obs) (st : St) (β : Beta), Rel E.P Mo β st.T st.B vs w → Kp w0 F β st.B w → (os.map (·.1)).Nodup → (∀ x ∈ os, x.1 < lowB ∧ Obs.get st.B x.1 = none ∧ ∃ e, x.2 = .row e [] ∧ e < E.P.types.size) →
    ∃ β', Rel E.P Mo β' (st.lay os).T (st.lay os).B vs w ∧ Kp w0 F β' (st.lay os).B w ∧ (∀ x ∈ os, Obs.get (st.lay os).B x.1 = some x.2 ∧ β' x.1 = none) ∧
      (∀ e, e ∉ os.map (·.1) → Obs.get (st.lay os).B e = Obs.get st.B e ∧ β' e = β e)
  | [], st, β, hR, hk, _, _ => ⟨β, hR, hk, fun x hx => by simp at hx, fun e _ => ⟨rfl, rfl⟩⟩
  | (d, o) :: os, st, β, hR, hk, hn, ho => by
    obtain ⟨hlo, hd, e, he, hz⟩ := ho (d, o) (by simp)
    simp only at hd he hlo
    subst he
    rw [List.map_cons] at hn
    have hn' := List.nodup_cons.1 hn
    obtain ⟨g1, g2⟩ := Post.lay1 hR hk d hlo (.row e []) (x := none) (w' := w) (Nat.le_refl _) (fun _ _ => rfl) (fun b c hb => by cases hb) rfl rfl (fun _ => ⟨hz, .inl ⟨at_self _ _ _, rfl⟩⟩)
    have hget : ∀ y, Obs.get (st.lay [(d, .row e [])]).B y = if d = y then some (.row e []) else Obs.get st.B y := by
      intro y
      show Obs.get (Obs.ins d (.row e []) (st.retire d).B) y = _
      rw [Obs.get_ins, retire_id hd]
    obtain ⟨β', k1, k2, k3, k4⟩ := lay_rows hL os (st.lay [(d, .row e [])]) (β.at d none) g1 g2 hn'.2 (fun x hx => by
      obtain ⟨h0, h1, h2⟩ := ho x (by simp [hx])
      refine ⟨h0, ?_, h2⟩
      rw [hget, if_neg, h1]
      intro hdx
      exact hn'.1 (by rw [hdx]; exact List.mem_map.2 ⟨x, hx, rfl⟩))
    refine ⟨β', k1, k2, fun x hx => ?_, fun y hy => ?_⟩
    · rcases List.mem_cons.1 hx with h | h
      · subst h
        obtain ⟨h1, h2⟩ := k4 d hn'.1
        exact ⟨by show Obs.get ((st.lay [(d, .row e [])]).lay os).B d = _; rw [h1, hget, if_pos rfl], by rw [h2, at_self]⟩
      · exact k3 x h
    · have hy' : d ≠ y ∧ y ∉ os.map (·.1) := by
        simp only [List.map_cons, List.mem_cons, not_or] at hy
        exact ⟨fun h => hy.1 h.symm, hy.2⟩
      obtain ⟨h1, h2⟩ := k4 y hy'.2
      refine ⟨by show Obs.get ((st.lay [(d, .row e [])]).lay os).B y = _; rw [h1, hget, if_neg hy'.1], ?_⟩
      rw [h2]; unfold Beta.at; rw [if_neg hy'.1]

theorem zeroRows_spec (d : Nat) : ∀ (i : Nat) (fs : List Field), rowsOk E d i fs = true → ((zeroRows E d i fs).map (·.1)).Nodup ∧
    (∀ x ∈ zeroRows E d i fs, ((d + 1) * 1000 + i ≤ x.1 ∧ x.1 < (d + 1) * 1000 + i + fs.length) ∧ ∃ e, x.2 = .row e [] ∧ e < E.P.types.size) ∧
    (∀ k f, fs[k]? = some f → E.fldOwn d (i + k) = true → ∃ e, E.P.underlying f.type = some (.slice e) ∧ ((d + 1) * 1000 + (i + k), .row e []) ∈ zeroRows E d i fs)
  | i, [], _ => ⟨by simp [zeroRows], fun x hx => by simp [zeroRows] at hx, fun k f hk => by simp at hk⟩
  | i, f :: fs, h => by
    simp only [rowsOk, Bool.and_eq_true] at h
    obtain ⟨g1, g2, g3⟩ := zeroRows_spec d (i + 1) fs h.2
    by_cases ho : E.fldOwn d i = true
    · have hz : zeroRows E d i (f :: fs) = ((d + 1) * 1000 + i, .row (elemOf E.P f.type) []) :: zeroRows E d (i + 1) fs := by simp [zeroRows, ho]
      have h1 := h.1
      rw [ho] at h1
      cases hu : E.P.underlying f.type with
      | none => rw [hu] at h1; cases h1
      | some dd =>
        rw [hu] at h1
        cases dd with
        | slice e =>
          have he : e < E.P.types.size := by simpa using h1
          have hel : elemOf E.P f.type = e := by simp [elemOf, hu]
          rw [hz, hel]
          refine ⟨?_, fun x hx => ?_, fun k g hk hown => ?_⟩
          · rw [List.map_cons, List.nodup_cons]
            refine ⟨fun hm => ?_, g1⟩
            obtain ⟨x, hx, hx2⟩ := List.mem_map.1 hm
            have := (g2 x hx).1.1
            simp only at hx2
            omega
          · rcases List.mem_cons.1 hx with hx | hx
            · subst hx; exact ⟨⟨Nat.le_refl _, by simp⟩, e, rfl, he⟩
            · obtain ⟨a1, a2⟩ := g2 x hx
              exact ⟨by simp only [List.length_cons]; omega, a2⟩
          · cases k with
            | zero =>
              replace hk : f = g := by simpa using hk
              subst hk
              exact ⟨e, hu, by simp⟩
            | succ k =>
              obtain ⟨e', k1, k2⟩ := g3 k g (by simpa using hk) (by rw [show i + 1 + k = i + (k + 1) by omega]; exact hown)
              exact ⟨e', k1, by rw [show i + (k + 1) = i + 1 + k by omega]; exact List.mem_cons_of_mem _ k2⟩
        | _ => cases h1
    · have ho' : E.fldOwn d i = false := by simpa using ho
      have hz : zeroRows E d i (f :: fs) = zeroRows E d (i + 1) fs := by simp [zeroRows, ho']
      rw [hz]
      refine ⟨g1, fun x hx => ?_, fun k g hk hown => ?_⟩
      · obtain ⟨a1, a2⟩ := g2 x hx
        exact ⟨by simp only [List.length_cons]; omega, a2⟩
      · cases k with
        | zero => rw [Nat.add_zero, ho'] at hown; cases hown
        | succ k =>
          obtain ⟨e', k1, k2⟩ := g3 k g (by simpa using hk) (by rw [show i + 1 + k = i + (k + 1) by omega]; exact hown)
          exact ⟨e', k1, by rw [show i + (k + 1) = i + 1 + k by omega]; exact k2⟩

theorem zeroFs_len (d : Nat) (p : PV) : ∀ (i : Nat) (fs : List Field), (zeroFs E d p i fs).length = fs.length
  | _, [] => rfl
  | i, f :: fs => by simp [zeroFs, zeroFs_len d p (i + 1) fs]
theorem zeroFs_get (d : Nat) (p : PV) : ∀ (i : Nat) (fs : List Field) (k : Nat) (f : Field), fs[k]? = some f →
    (zeroFs E d p i fs)[k]? = some (bif E.fldOwn d (i + k) then .own f.type ((d + 1) * 1000 + (i + k)) else ofPV E.P f.type (p.fld (i + k)))
  | i, [], k, f, h => by simp at h
  | i, g :: fs, 0, f, h => by
    replace h : g = f := by simpa using h
    subst h; rfl
  | i, g :: fs, k + 1, f, h => by
    have := zeroFs_get d p (i + 1) fs k f (by simpa using h)
    rw [show i + 1 + k = i + (k + 1) by omega] at this
    simpa [zeroFs] using this

theorem pvC_slice {P : Program} {n : Nat} {t e : TypeId} {v : Value} {p : PV} (he : P.underlying t = some (.slice e)) (h : pvC P n t [v] = some p) : v = .slice none 0 0 := by
  cases n with
  | zero => cases h
  | succ n =>
    unfold pvC at h
    rw [he] at h
    cases v with
    | slice p l c =>
      cases p with
      | none =>
        cases l with
        | zero => cases c with
          | zero => rfl
          | succ c => cases h
        | succ l => cases h
      | some p => cases h
    | _ => cases h

theorem q_alloc (hL : laidOutB E.P = true) (hR : Rel E.P Mo β st.T st.B a.tmps.toList w) (hk : Kp w0 F β st.B w) {o : Oper} {t : TypeId} (ho : o.op = .alloc t) (hd : Obs.get st.B (o.dst.getD 0) = none) (hlo : o.dst.getD 0 < lowB)
    (hrows : ∀ x ∈ zeroRows E (o.dst.getD 0) 0 (fieldsOf E.P t), Obs.get st.B x.1 = none) (h : opQ E o st K = some r) : QOk E w0 F Mo β o st K r a w := by
  unfold opQ at h
  rw [ho] at h
  simp only at h
  obtain ⟨ht, h⟩ := cond_some h
  have ht : t < E.P.types.size := by simpa using ht
  generalize o.dst.getD 0 = d at h hd hlo hrows
  unfold zeroSV at h
  cases hz : zeroPV E.P t with
  | none => rw [hz] at h; cases h
  | some p =>
    rw [hz] at h
    simp only at h
    obtain ⟨z, cs, z1, z2, z3, z4⟩ := zeroPV_spec hz
    have hrd : ∀ w M, Rd E.P w M t p cs := fun w M => pvC_sound 10 z3
    have hcl := (hrd w (Mut Mo β st.B)).size hL ht
    have hone := (hrd w (Mut Mo β st.B)).one hL
    have hrun : (execOp a.eval o).run E.P w = .ok (.value (.pointer (some ⟨w.heap.size, 0, none⟩))) { w with heap := w.heap.push (.cells z.cells t (0, 0)) } := by
      unfold execOp; rw [ho]
      simp only [Instr.alloc]
      rw [Sem.run_bind, Sem.run_bind, z1, Result.andThen_ok]
      rw [Sem.run_bind, run_newVar]; rfl
    by_cases hown : hasOwn E d 0 (fieldsOf E.P t) = true
    · rw [hown, cond_true] at h
      by_cases hok : (rowsOk E d 0 (fieldsOf E.P t) && decide (d < 1000 ∧ (fieldsOf E.P t).length < 1000)) = true
      · rw [hok, cond_true] at h
        simp only [Bool.and_eq_true, decide_eq_true_eq] at hok
        obtain ⟨n1, n2, n3⟩ := zeroRows_spec (E := E) d 0 (fieldsOf E.P t) hok.1
        obtain ⟨β', k1, k2, k3, k4⟩ := lay_rows (w0 := w0) (F := F) hL (zeroRows E d 0 (fieldsOf E.P t)) st β hR hk n1 (fun x hx => ⟨by have h4 := (n2 x hx).1.2; have h3 : @LT.lt Nat _ d 1000 := hok.2.1; have h5 := hok.2.2; unfold lowB; omega, hrows x hx, (n2 x hx).2⟩)
        have hdn : d ∉ (zeroRows E d 0 (fieldsOf E.P t)).map (·.1) := by
          intro hm
          obtain ⟨x, hx, hx2⟩ := List.mem_map.1 hm
          have hx3 := (n2 x hx).1.1
          have hx2 : x.1 = d := hx2
          omega
        have hd' : Obs.get (st.lay (zeroRows E d 0 (fieldsOf E.P t))).B d = none := (k4 d hdn).1.trans hd
        refine ⟨_, _, h, .inr ⟨by simp, fun next Q hn => ?_⟩⟩
        unfold Oper.wp
        rw [hrun, Oper.upon_value]
        have hlay : ∀ (l : Obs) (st : St) (x : Nat × Ob), st.lay (l ++ [x]) = (st.lay l).lay [x] := by
          intro l
          induction l with
          | nil => intro st x; rfl
          | cons y l ih => intro st x; exact ih _ x
        rw [hlay] at hn
        generalize hst1 : st.lay (zeroRows E d 0 (fieldsOf E.P t)) = st1 at *
        cases hu : E.P.underlying t with
        | none => rw [show fieldsOf E.P t = [] by simp [fieldsOf, hu]] at hown; cases hown
        | some dd =>
          cases dd with
          | struct fs =>
            have hfs : fieldsOf E.P t = fs.toList := by simp [fieldsOf, hu]
            rw [hfs] at n3 hn k3
            have hzagg : z = .agg cs.toArray := by unfold Pack at z2; rw [if_pos (isAggT_struct hu)] at z2; exact z2
            have hcont : RS E.P w (Mut Mo β' st1.B) β' st1.B (.agg t (zeroFs E d p 0 fs.toList)) z := by
              rw [hzagg]
              have hr := hrd w (Mut Mo β' st1.B)
              cases hr with
              | @struct _ gs l _ hu' ht' hl hc hf =>
                rw [hu] at hu'; injection hu' with hu'; injection hu' with hu'; subst hu'
                -- the value of each field, by its cells
                have hval : ∀ (i : Nat) (f : Field), fs[i]? = some f → ∃ v, Pack E.P f.type v (sub cs f.offset (E.P.cellsOf f.type)) := by
                  intro i f hfi
                  have hli : i < l.length := by
                    rw [hl]
                    rcases Nat.lt_or_ge i fs.size with h | h
                    · exact h
                    · rw [Array.getElem?_eq_none h] at hfi; cases hfi
                  exact (hf i f _ hfi (List.getElem?_eq_getElem hli)).pack
                have hpick : ∃ vs : Nat → Value, ∀ (i : Nat) (f : Field), fs[i]? = some f → Pack E.P f.type (vs i) (sub cs f.offset (E.P.cellsOf f.type)) := by
                  have hall : ∀ i : Nat, ∃ v, ∀ f : Field, fs[i]? = some f → Pack E.P f.type v (sub cs f.offset (E.P.cellsOf f.type)) := fun i => ?_
                  · exact ⟨fun i => (hall i).choose, fun i => (hall i).choose_spec⟩
                  cases hfi : fs[i]? with
                  | none => exact ⟨undef, fun f hf => by cases hf⟩
                  | some f =>
                    obtain ⟨v, hv⟩ := hval i f hfi
                    exact ⟨v, fun g hg => by injection hg with hg; subst hg; exact hv⟩
                obtain ⟨vs, hvs⟩ := hpick
                refine .agg (vs := vs) hu ht' (by rw [zeroFs_len]; simp) hc hone (fun i f s hfi hs => ?_) (fun i s hs => ?_)
                · have hgi := zeroFs_get (E := E) d (.agg l) 0 fs.toList i f (by simpa using hfi)
                  rw [hs] at hgi; injection hgi with hgi
                  refine ⟨?_, hvs i f hfi⟩
                  subst hgi
                  by_cases hoi : E.fldOwn d (0 + i) = true
                  · rw [hoi, cond_true]; exact .inr (.inl (by simp [SV.isHandle]))
                  · rw [show E.fldOwn d (0 + i) = false by simpa using hoi, cond_false]
                    have hli : i < l.length := by
                      rw [hl]
                      rcases Nat.lt_or_ge i fs.size with h | h
                      · exact h
                      · rw [Array.getElem?_eq_none h] at hfi; cases hfi
                    have hg := List.getElem?_eq_getElem hli
                    have hp : PV.fld (.agg l) (0 + i) = l[i] := by rw [Nat.zero_add]; simp only [PV.fld, PV.flds]; exact getD_of hg
                    rw [hp]
                    exact isT_ofPV (hf i f _ hfi hg)
                · have hil : i < fs.toList.length := by have := get_lt hs; rwa [zeroFs_len] at this
                  have hfi' := List.getElem?_eq_getElem hil
                  generalize fs.toList[i] = f at hfi'
                  have hfi : fs[i]? = some f := by simpa using hfi'
                  have hgi := zeroFs_get (E := E) d (.agg l) 0 fs.toList i f hfi'
                  rw [hs] at hgi; injection hgi with hgi
                  subst hgi
                  have hli : i < l.length := by
                    rw [hl]
                    rcases Nat.lt_or_ge i fs.size with h | h
                    · exact h
                    · rw [Array.getElem?_eq_none h] at hfi; cases hfi
                  have hg := List.getElem?_eq_getElem hli
                  by_cases hoi : E.fldOwn d (0 + i) = true
                  · rw [hoi, cond_true]
                    obtain ⟨e, he1, he2⟩ := n3 i f hfi' hoi
                    obtain ⟨r1, r2⟩ := k3 _ he2
                    -- a slice's zero is nil
                    have hnil : vs i = .slice none 0 0 := by
                      have h10 : pvC E.P 10 t cs = some (.agg l) := z3
                      unfold pvC at h10
                      rw [hu] at h10
                      simp only [Bool.cond_eq_ite, Bool.and_eq_true, decide_eq_true_eq] at h10
                      split at h10
                      · cases hm : fs.toList.mapM fun f => pvC E.P 9 f.type ((cs.drop f.offset).take (E.P.cellsOf f.type)) with
                        | none => rw [hm] at h10; cases h10
                        | some l' =>
                          rw [hm] at h10
                          replace h10 : l' = l := by injection h10 with h10; injection h10
                          subst h10
                          obtain ⟨_, hmm⟩ := mapM_some hm
                          have h9 := hmm i f l'[i] hfi' hg
                          have hpk := hvs i f hfi
                          change pvC E.P 9 f.type (sub cs f.offset (E.P.cellsOf f.type)) = _ at h9
                          generalize sub cs f.offset (E.P.cellsOf f.type) = sb at h9 hpk
                          have hagg : isAggT E.P f.type = false := by simp [isAggT, he1]
                          unfold Pack at hpk
                          rw [if_neg (by simp [hagg])] at hpk
                          subst hpk
                          exact pvC_slice he1 h9
                      · cases h10
                    rw [hnil]
                    exact .ownNil he1 r1 r2
                  · rw [show E.fldOwn d (0 + i) = false by simpa using hoi, cond_false]
                    have hp : PV.fld (.agg l) (0 + i) = l[i] := by rw [Nat.zero_add]; simp only [PV.fld, PV.flds]; exact getD_of hg
                    rw [hp]
                    exact RS.ofPV (hvs i f hfi) (hf i f _ hfi hg)
              | int hu' => rw [hu] at hu'; cases hu'
              | bool hu' => rw [hu] at hu'; cases hu'
              | str hu' => rw [hu] at hu'; cases hu'
              | flt hu' => rw [hu] at hu'; cases hu'
              | nilSlice hu' => rw [hu] at hu'; cases hu'
              | slice hu' => rw [hu] at hu'; cases hu'
              | nilPtr hu' => rw [hu] at hu'; cases hu'
              | ref hu' => rw [hu] at hu'; cases hu'
              | nilIface hu' => rw [hu] at hu'; cases hu'
              | arr hu' => rw [hu] at hu'; cases hu'
            rw [z4]
            have hx : ∀ b c, some (w.heap.size, 0) = some (b, c) → w.heap.size ≤ b ∧ b < (w.heap.push (.cells cs.toArray t (0, 0))).size := by
              intro b c hx; injection hx with hx; injection hx with h2 h3; subst h2; exact ⟨Nat.le_refl _, by simp⟩
            obtain ⟨m1, m2⟩ := Post.lay1 (w' := { w with heap := w.heap.push (.cells cs.toArray t (0, 0)) }) k1 k2 d hlo (.box t (.agg t (zeroFs E d p 0 fs.toList))) (by simp) (fun b hb => push_old hb) hx rfl rfl (fun hsame => by
              rw [retire_id hd'] at hsame
              exact ⟨w.heap.size, 0, cs, z, (0, 0), at_self _ _ _, push_new, fun o _ => by omega, hcl, hone, z2, hcont.mono hsame, .inr (.inr (.inr ⟨_, rfl⟩)), ht⟩)
            exact hn _ _ ⟨_, m1, m2, .ptr (ob := .box t (.agg t (zeroFs E d p 0 fs.toList))) (lay_get _ _ _) (at_self _ _ _) rfl⟩
          | _ => rw [show fieldsOf E.P t = [] by simp [fieldsOf, hu]] at hown; cases hown
      · rw [show (rowsOk E d 0 (fieldsOf E.P t) && decide (d < 1000 ∧ (fieldsOf E.P t).length < 1000)) = false by simpa using hok] at h
        cases h
    · rw [show hasOwn E d 0 (fieldsOf E.P t) = false by simpa using hown, cond_false] at h
      exact q_newBox hR hk hd hlo ht z2 hcl hone (RS.ofPV z2 (hrd _ _)) (isT_ofPV (hrd w (Mut Mo β st.B))) h hrun

end
end Go.X
