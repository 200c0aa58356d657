/- The interpreter X, part 14: operations that read memory, and addresses. -/
import Derived.Test.YtbmhbnkejgjfdaaX13
namespace Go.X
open Go
section
variable {E : Env} {w0 : World} {F : Foot} {Mo : Nat → Prop} {st : St} {K : SV → Obs → Option Out} {r : Out} {a : Act} {w : World} {β : Beta}

theorem add_add (a : Addr) (i j : Nat) : (a.add i).add j = a.add (i + j) := by
  unfold Addr.add
  by_cases hi : i = 0
  · subst hi; simp
  · by_cases hj : j = 0
    · subst hj; simp
    · rw [if_neg hi, if_neg hj, if_neg (by omega)]; simp [Nat.add_assoc]

theorem At.sub {w : World} {M : Nat → Prop} {a : Addr} {cs : List Value} (h : At w M a cs) (o n : Nat) : At w M (a.add o) (X.sub cs o n) := by
  intro j v hj
  rw [sub_get] at hj
  by_cases hjn : j < n
  · rw [if_pos hjn] at hj
    obtain ⟨h1, h2⟩ := h _ _ hj
    exact ⟨by rw [add_block]; exact h1, by rw [add_add]; exact h2⟩
  · rw [if_neg hjn] at hj; cases hj

theorem plainsF_spec {P : Program} : ∀ {fs : List Field} {l : List SV} {ps : List PV}, plainsF P fs l = some ps → ps.length = l.length ∧ fs.length = l.length ∧
    ∀ (i : Nat) (f : Field) (s : SV) (p : PV), fs[i]? = some f → l[i]? = some s → ps[i]? = some p → s.pvT P f.type = some p
  | [], [], ps, h => by injection h with h; subst h; exact ⟨rfl, rfl, fun i f s p hf => by simp at hf⟩
  | [], _ :: _, ps, h => by cases h
  | _ :: _, [], ps, h => by cases h
  | f :: fs, s :: l, ps, h => by
    simp only [plainsF] at h
    cases h1 : s.pvT P f.type with
    | none => rw [h1] at h; cases h
    | some p =>
      cases h2 : plainsF P fs l with
      | none => rw [h1, h2] at h; cases h
      | some rs =>
        rw [h1, h2] at h
        replace h : p :: rs = ps := by injection h
        subst h
        obtain ⟨g1, g2, g3⟩ := plainsF_spec h2
        refine ⟨by simp [g1], by simp [g2], fun i f' s' p' hf hs hp => ?_⟩
        cases i with
        | zero =>
          replace hf : f = f' := by simpa using hf
          replace hs : s = s' := by simpa using hs
          replace hp : p = p' := by simpa using hp
          subst hf; subst hs; subst hp; exact h1
        | succ i => exact g3 i f' s' p' (by simpa using hf) (by simpa using hs) (by simpa using hp)

theorem plainsE_spec {P : Program} {e : TypeId} : ∀ {l : List SV} {ps : List PV}, plainsE P e l = some ps → ps.length = l.length ∧
    ∀ (i : Nat) (s : SV) (p : PV), l[i]? = some s → ps[i]? = some p → s.pvT P e = some p
  | [], ps, h => by injection h with h; subst h; exact ⟨rfl, fun i s p hf => by simp at hf⟩
  | s :: l, ps, h => by
    simp only [plainsE] at h
    cases h1 : s.pvT P e with
    | none => rw [h1] at h; cases h
    | some p =>
      cases h2 : plainsE P e l with
      | none => rw [h1, h2] at h; cases h
      | some rs =>
        rw [h1, h2] at h
        replace h : p :: rs = ps := by injection h
        subst h
        obtain ⟨g1, g3⟩ := plainsE_spec h2
        refine ⟨by simp [g1], fun i s' p' hs hp => ?_⟩
        cases i with
        | zero =>
          replace hs : s = s' := by simpa using hs
          replace hp : p = p' := by simpa using hp
          subst hs; subst hp; exact h1
        | succ i => exact g3 i s' p' (by simpa using hs) (by simpa using hp)

/-- A struct whose fields are data is data. -/
theorem RS.plains {P : Program} {M : Nat → Prop} {B : Obs} {u : TypeId} {l : List SV} {ps : List PV} {v : Value} (hr : RS P w M β B (.agg u l) v) (h : plainsF P (fieldsOf P u) l = some ps) :
    RS P w M β B (.val u (.agg ps)) v := by
  cases hr with
  | @agg _ fs _ cs vs hu ht hl hc h1 hf hs =>
    have hfs : fieldsOf P u = fs.toList := by simp [fieldsOf, hu]
    rw [hfs] at h
    obtain ⟨g1, g2, g3⟩ := plainsF_spec h
    refine .val (by simp [Pack, isAggT, hu]) (.struct hu ht (g1.trans hl) hc (fun i f p hfi hp => ?_))
    have hlt : i < l.length := by rw [← g1]; exact get_lt hp
    have hli := List.getElem?_eq_getElem hlt
    obtain ⟨k1, k2⟩ := hf i f l[i] hfi hli
    obtain ⟨cs', k3, k4⟩ := (hs i l[i] hli).pvT (g3 i f l[i] p (by simpa using hfi) hli hp)
    have : cs' = (cs.drop f.offset).take (P.cellsOf f.type) := by
      unfold Pack at k2 k3
      by_cases ha : isAggT P f.type = true
      · rw [if_pos ha] at k2 k3; rw [k2] at k3; injection k3 with k3; simpa using (congrArg Array.toList k3).symm
      · rw [if_neg ha] at k2 k3; rw [k2, k3]
    rw [← this]; exact k4

/-- What is to be read at an address into an object. -/
theorem ob_read {P : Program} (hL : laidOutB P = true) {M : Nat → Prop} {B : Obs} {d : Nat} {ob : Ob} (ho : RO P w M β B d ob) {q : List Stp} {t : TypeId} {off b c : Nat}
    (hq : offO P ob q = some off) (ht : ob.typAt P q = some t) (hb : β d = some (b, c)) :
    ∃ cs e fr, w.heap[b]? = some (.cells (List.toArray cs) e fr) ∧ off + P.cellsOf t ≤ cs.length ∧ t < P.types.size ∧
      (ob.getAt P t q = .dead ∨ ∃ v, RS P w M β B (ob.getAt P t q) v ∧ Pack P t v (sub cs off (P.cellsOf t))) := by
  cases ob with
  | box u s =>
    obtain ⟨b', c', cs, v, fr, h1, h2, h3, h4, h5, h6, h7, h8, h9⟩ := ho
    rw [h1] at hb; injection hb with hb; injection hb with hb hc; subst hb; subst hc
    obtain ⟨g1, g2, g3⟩ := RS.getAt hL q h9 h7 h6 h4 h8 ht hq
    refine ⟨cs, u, fr, h2, by omega, g1, ?_⟩
    rcases g3 with g3 | ⟨v', k1, k2, _⟩
    · exact .inl g3
    · exact .inr ⟨v', k1, k2⟩
  | row e l =>
    obtain ⟨hz, ho⟩ := ho
    cases q with
    | nil => cases hq
    | cons s q =>
      cases s with
      | el i =>
        simp only [offO] at hq
        by_cases hi : 0 ≤ i ∧ i < l.length
        · rw [if_pos hi] at hq
          cases hoq : offT P e q with
          | none => rw [hoq] at hq; cases hq
          | some o =>
            rw [hoq] at hq
            replace hq : i.toNat * P.cellsOf e + o = off := by injection hq
            subst hq
            rcases ho with ⟨h1, _⟩ | ⟨b', c', cs, fr, h1, h2, h3, h4, h5, h6, h7, h8⟩
            · rw [h1] at hb; cases hb
            · rw [h1] at hb; injection hb with hb; injection hb with hb hc; subst hb; subst hc
              have hil : i.toNat < l.length := by omega
              have hg := List.getElem?_eq_getElem hil
              obtain ⟨g1, g2, g3⟩ := Rd.get hL q hz (h8 i.toNat _ hg) ht hoq
              have hw : i.toNat * P.cellsOf e + P.cellsOf e ≤ cs.length := by
                rw [h6, ← Nat.succ_mul]; exact Nat.mul_le_mul_right _ (by omega)
              change Rd P w M t _ (sub (sub cs (i.toNat * P.cellsOf e) (P.cellsOf e)) o (P.cellsOf t)) at g3
              rw [sub_sub g2] at g3
              refine ⟨cs, e, fr, h2, by omega, g1, .inr ?_⟩
              obtain ⟨v, hv⟩ := g3.pack
              refine ⟨v, ?_, hv⟩
              have : Ob.getAt P t (.row e l) (.el i :: q) = ofPV P t (l[i.toNat].get q) := by
                simp only [Ob.getAt]; rw [getD_of hg]
              rw [this]
              exact RS.ofPV hv g3
        · rw [if_neg hi] at hq; cases hq
      | _ => cases hq

theorem q_load (hL : laidOutB E.P = true) (hR : Rel E.P Mo β st.T st.B a.tmps.toList w) (hk : Kp w0 F β st.B w) {o : Oper} {t : TypeId} {x : Operand} (ho : o.op = .load t x) (h : opQ E o st K = some r) : QOk E w0 F Mo β o st K r a w := by
  have hx := get_sound hR o.type x
  unfold opQ at h
  rw [ho] at h
  simp only at h
  generalize st.get E.P o.type x = sx at h hx
  generalize hv : a.eval x = v at hx
  cases hx with
  | @ptr d q b c off ob hd hβ hq =>
    simp only at h
    rw [hd] at h
    simp only at h
    obtain ⟨h1, h2⟩ := cond_some h
    simp only [Bool.and_eq_true, beq_iff_eq] at h1
    obtain ⟨h1, hdesc⟩ := h1
    obtain ⟨dd, hdd⟩ := Option.isSome_iff_exists.1 hdesc
    obtain ⟨cs, e, fr, g1, g2, g3, g4⟩ := ob_read hL (hR.ob d ob hd) hq h1 hβ
    rcases g4 with g4 | ⟨v', g4, g5⟩
    · rw [g4] at h2; cases h2
    · have hrun : (execOp a.eval o).run E.P w = .ok (.value v') w := by
        unfold execOp; rw [ho]
        simp only [hv, Instr.loadAt, Instr.sureAddr, pure_bind]
        rw [Sem.run_bind, run_loadVar hdd g5 (sub_len g2) (fun j x hj => cell_block g1 j _ hj)]
        rfl
      by_cases hag : ∃ u l, ob.getAt E.P t q = .agg u l
      · obtain ⟨u, l, hag⟩ := hag
        rw [hag] at h2 g4
        simp only at h2
        cases hp : plainsF E.P (fieldsOf E.P u) l with
        | none => rw [hp] at h2; cases h2
        | some ps =>
          rw [hp] at h2
          exact QOk.val hR hk h2 hrun (g4.plains hp)
      · have h3 : K (ob.getAt E.P t q) [] = some r := by
          revert h2
          generalize ob.getAt E.P t q = s at *
          cases s <;> first
            | exact id
            | exact absurd ⟨_, _, rfl⟩ hag
            | (intro h; cases h)
        exact QOk.val hR hk h3 hrun g4
  | @fro u p ad cs hcl hat hrd =>
    simp only at h
    obtain ⟨h1, h2⟩ := cond_some h
    have h1 : u = t := by simpa using h1
    subst h1
    obtain ⟨v', hv'⟩ := hrd.pack
    obtain ⟨dd, hdd⟩ := hrd.desc
    refine QOk.val hR hk h2 (v := v') ?_ (RS.ofPV hv' hrd)
    unfold execOp; rw [ho]
    simp only [hv, Instr.loadAt, Instr.sureAddr, pure_bind]
    rw [Sem.run_bind, run_loadVar hdd hv' hcl (fun j x hj => (hat j x hj).2)]
    rfl
  | _ => cases h

theorem q_nilCheck (hR : Rel E.P Mo β st.T st.B a.tmps.toList w) (hk : Kp w0 F β st.B w) {o : Oper} {x : Operand} (ho : o.op = .nilCheck x) (h : opQ E o st K = some r) : QOk E w0 F Mo β o st K r a w := by
  have hx := get_sound hR o.type x
  unfold opQ at h
  rw [ho] at h
  simp only at h
  generalize st.get E.P o.type x = sx at h hx
  generalize hv : a.eval x = v at hx
  have hx' := hx
  cases hx with
  | ptr => exact QOk.val hR hk h (by unfold execOp; rw [ho]; simp only [hv]; rfl) hx'
  | fro => exact QOk.val hR hk h (by unfold execOp; rw [ho]; simp only [hv]; rfl) hx'
  | fn => exact QOk.val hR hk h (by unfold execOp; rw [ho]; simp only [hv]; rfl) hx'
  | @val t p v cs hp hr =>
    simp only at h
    cases hr with
    | nilPtr hu => rw [hu] at h; cases h
    | @ref _ e ad p cs hu hl hat hrd =>
      rw [hu] at h
      simp only at h
      have hpk : v = .pointer (some ad) := by
        unfold Pack at hp; rw [if_neg (by simp [isAggT, hu])] at hp; injection hp with hp; exact hp.symm
      subst hpk
      exact QOk.val hR hk h (by unfold execOp; rw [ho]; simp only [hv]; rfl) (.fro hl hat hrd)
    | int hu => rw [hu] at h; cases h
    | bool hu => rw [hu] at h; cases h
    | str hu => rw [hu] at h; cases h
    | flt hu => rw [hu] at h; cases h
    | nilSlice hu => rw [hu] at h; cases h
    | slice hu => rw [hu] at h; cases h
    | nilIface hu => rw [hu] at h; cases h
    | struct hu => rw [hu] at h; cases h
    | arr hu => rw [hu] at h; cases h
  | _ => cases h

theorem offT_app {P : Program} {u : TypeId} {fs : Array Field} {f : Nat} {fd : Field} (hu : P.underlying u = some (.struct fs)) (hf : fs[f]? = some fd) (h0 : P.cellsOf fd.type ≠ 0) :
    ∀ (q : List Stp) {t : TypeId} {off : Nat}, typT P t q = some u → offT P t q = some off → offT P t (q ++ [.fld f]) = some (off + fd.offset) := by
  intro q
  induction q with
  | nil =>
    intro t off h1 h2
    injection h1 with h1; injection h2 with h2; subst h1; subst h2
    simp only [List.nil_append, offT, hu, hf, Option.bind_some, if_neg h0, Option.map_some]
    congr 1; omega
  | cons s q ih =>
    intro t off h1 h2
    cases s with
    | fld i =>
      simp only [typT] at h1
      simp only [offT, List.cons_append] at h2 ⊢
      split at h1
      · rename_i gs hg
        rw [hg] at h2 ⊢
        simp only at h2 ⊢
        cases hi : gs[i]? with
        | none => rw [hi] at h1; cases h1
        | some g =>
          rw [hi] at h1 h2
          simp only [Option.bind_some] at h1 h2 ⊢
          by_cases hz : P.cellsOf g.type = 0
          · rw [if_pos hz] at h2; cases h2
          · rw [if_neg hz] at h2 ⊢
            cases hoq : offT P g.type q with
            | none => rw [hoq] at h2; cases h2
            | some o =>
              rw [hoq] at h2
              replace h2 : g.offset + o = off := by injection h2
              rw [ih h1 hoq, ← h2]
              simp only [Option.map_some]; congr 1; omega
      · cases h1
    | idx i =>
      simp only [typT] at h1
      simp only [offT, List.cons_append] at h2 ⊢
      split at h1
      · rename_i n e hg
        rw [hg] at h2 ⊢
        simp only at h2 ⊢
        by_cases hi : 0 ≤ i ∧ i < n
        · rw [if_pos hi] at h2 ⊢
          cases hoq : offT P e q with
          | none => rw [hoq] at h2; cases h2
          | some o =>
            rw [hoq] at h2
            replace h2 : i.toNat * P.cellsOf e + o = off := by injection h2
            rw [ih h1 hoq, ← h2]
            simp only [Option.map_some]; congr 1; omega
        · rw [if_neg hi] at h2; cases h2
      · cases h1
    | el i => simp only [typT] at h1; cases h1

theorem offT_app_idx {P : Program} {u : TypeId} {n : Nat} {e : TypeId} {i : Int} (hu : P.underlying u = some (.array n e)) (hi : 0 ≤ i ∧ i < n) :
    ∀ (q : List Stp) {t : TypeId} {off : Nat}, typT P t q = some u → offT P t q = some off → offT P t (q ++ [.idx i]) = some (off + i.toNat * P.cellsOf e) := by
  intro q
  induction q with
  | nil =>
    intro t off h1 h2
    injection h1 with h1; injection h2 with h2; subst h1; subst h2
    simp only [List.nil_append, offT, hu, if_pos hi, Option.map_some]
    congr 1; omega
  | cons s q ih =>
    intro t off h1 h2
    cases s with
    | fld j =>
      simp only [typT] at h1
      simp only [offT, List.cons_append] at h2 ⊢
      split at h1
      · rename_i gs hg
        rw [hg] at h2 ⊢
        simp only at h2 ⊢
        cases hj : gs[j]? with
        | none => rw [hj] at h1; cases h1
        | some g =>
          rw [hj] at h1 h2
          simp only [Option.bind_some] at h1 h2 ⊢
          by_cases hz : P.cellsOf g.type = 0
          · rw [if_pos hz] at h2; cases h2
          · rw [if_neg hz] at h2 ⊢
            cases hoq : offT P g.type q with
            | none => rw [hoq] at h2; cases h2
            | some o =>
              rw [hoq] at h2
              replace h2 : g.offset + o = off := by injection h2
              rw [ih h1 hoq, ← h2]
              simp only [Option.map_some]; congr 1; omega
      · cases h1
    | idx j =>
      simp only [typT] at h1
      simp only [offT, List.cons_append] at h2 ⊢
      split at h1
      · rename_i m e' hg
        rw [hg] at h2 ⊢
        simp only at h2 ⊢
        by_cases hj : 0 ≤ j ∧ j < m
        · rw [if_pos hj] at h2 ⊢
          cases hoq : offT P e' q with
          | none => rw [hoq] at h2; cases h2
          | some o =>
            rw [hoq] at h2
            replace h2 : j.toNat * P.cellsOf e' + o = off := by injection h2
            rw [ih h1 hoq, ← h2]
            simp only [Option.map_some]; congr 1; omega
        · rw [if_neg hj] at h2; cases h2
      · cases h1
    | el i => simp only [typT] at h1; cases h1

theorem offO_fld {P : Program} {u : TypeId} {fs : Array Field} {f : Nat} {fd : Field} (hu : P.underlying u = some (.struct fs)) (hf : fs[f]? = some fd) (h0 : P.cellsOf fd.type ≠ 0) {ob : Ob} {q : List Stp} {off : Nat}
    (h1 : ob.typAt P q = some u) (h2 : offO P ob q = some off) : offO P ob (q ++ [.fld f]) = some (off + fd.offset) := by
  cases ob with
  | box t s => exact offT_app hu hf h0 q h1 h2
  | row e l =>
    cases q with
    | nil => cases h2
    | cons s q =>
      cases s with
      | el i =>
        simp only [offO, List.cons_append] at h2 ⊢
        by_cases hi : 0 ≤ i ∧ i < l.length
        · rw [if_pos hi] at h2 ⊢
          cases hoq : offT P e q with
          | none => rw [hoq] at h2; cases h2
          | some o =>
            rw [hoq] at h2
            replace h2 : i.toNat * P.cellsOf e + o = off := by injection h2
            rw [offT_app hu hf h0 q h1 hoq, ← h2]
            simp only [Option.map_some]; congr 1; omega
        · rw [if_neg hi] at h2; cases h2
      | _ => cases h2
theorem offO_idx {P : Program} {u : TypeId} {n : Nat} {e' : TypeId} {i : Int} (hu : P.underlying u = some (.array n e')) (hi : 0 ≤ i ∧ i < n) {ob : Ob} {q : List Stp} {off : Nat}
    (h1 : ob.typAt P q = some u) (h2 : offO P ob q = some off) : offO P ob (q ++ [.idx i]) = some (off + i.toNat * P.cellsOf e') := by
  cases ob with
  | box t s => exact offT_app_idx hu hi q h1 h2
  | row e l =>
    cases q with
    | nil => cases h2
    | cons s q =>
      cases s with
      | el j =>
        simp only [offO, List.cons_append] at h2 ⊢
        by_cases hj : 0 ≤ j ∧ j < l.length
        · rw [if_pos hj] at h2 ⊢
          cases hoq : offT P e q with
          | none => rw [hoq] at h2; cases h2
          | some o =>
            rw [hoq] at h2
            replace h2 : j.toNat * P.cellsOf e + o = off := by injection h2
            rw [offT_app_idx hu hi q h1 hoq, ← h2]
            simp only [Option.map_some]; congr 1; omega
        · rw [if_neg hj] at h2; cases h2
      | _ => cases h2

theorem info_of_cells {P : Program} {t : TypeId} (h : P.cellsOf t ≠ 0) : ∃ i, P.info? t = some i := by
  unfold Program.cellsOf at h
  cases hi : P.info? t with
  | none => rw [hi] at h; exact absurd rfl h
  | some i => exact ⟨i, rfl⟩

theorem add_off (b o n : Nat) : (⟨b, o, none⟩ : Addr).add n = ⟨b, o + n, none⟩ := by unfold Addr.add; split <;> simp_all

theorem q_fieldAddr (hL : laidOutB E.P = true) (hR : Rel E.P Mo β st.T st.B a.tmps.toList w) (hk : Kp w0 F β st.B w) {o : Oper} {t : TypeId} {x : Operand} {f : Nat} (ho : o.op = .fieldAddr t x f) (h : opQ E o st K = some r) : QOk E w0 F Mo β o st K r a w := by
  have hx := get_sound hR o.type x
  unfold opQ at h
  rw [ho] at h
  simp only at h
  cases hu : E.P.underlying t with
  | none => rw [hu] at h; cases h
  | some d =>
    rw [hu] at h
    cases d with
    | struct fs =>
      simp only at h
      cases hf : fs[f]? with
      | none => rw [hf] at h; cases h
      | some fd =>
        rw [hf] at h
        simp only at h
        obtain ⟨he, h⟩ := cond_none h
        have h0 : E.P.cellsOf fd.type ≠ 0 := by simpa [emptyT] using he
        obtain ⟨inf, hinf⟩ := info_of_cells h0
        have hplace : ∀ ad, (Instr.fieldAt t (.pointer (some ad)) f).run E.P w = .ok (.pointer (some (ad.add fd.offset))) w := by
          intro ad
          unfold Instr.fieldAt
          rw [Sem.run_bind, run_underlying hu, Result.andThen_ok]
          simp only [hf, Instr.sureAddr, pure_bind, fieldPlace, bind_assoc]
          rw [Sem.run_bind, run_sizeOf w hinf, Result.andThen_ok]
          simp only [if_neg h0]; rfl
        generalize st.get E.P o.type x = sx at h hx
        generalize hv : a.eval x = v at hx
        cases hx with
        | @ptr d q b c off ob hd hβ hq =>
          simp only at h
          rw [hd] at h
          simp only at h
          obtain ⟨h1, h2⟩ := cond_some h
          have h1 : ob.typAt E.P q = some t := by simpa using h1
          refine QOk.val hR hk h2 (v := .pointer (some ⟨b, off + fd.offset, none⟩)) ?_ (.ptr hd hβ (offO_fld hu hf h0 h1 hq))
          unfold execOp; rw [ho]
          simp only [hv]
          rw [Sem.run_bind, hplace, Result.andThen_ok, add_off]; rfl
        | @fro u p ad cs hcl hat hrd =>
          simp only at h
          obtain ⟨h1, h2⟩ := cond_some h
          have h1 : u = t := by simpa using h1
          subst h1
          refine QOk.val hR hk h2 (v := .pointer (some (ad.add fd.offset))) ?_ ?_
          · unfold execOp; rw [ho]
            simp only [hv]
            rw [Sem.run_bind, hplace, Result.andThen_ok]; rfl
          · cases hrd with
            | @struct _ gs l _ hu' ht hl hc hfl =>
              rw [hu] at hu'
              injection hu' with hu'; injection hu' with hu'
              subst hu'
              have hlt : f < l.length := by
                rw [hl]
                rcases Nat.lt_or_ge f fs.size with h | h
                · exact h
                · rw [Array.getElem?_eq_none h] at hf; cases hf
              have hg := List.getElem?_eq_getElem hlt
              have hfr := hfl f fd l[f] hf hg
              have hp : PV.fld (.agg l) f = l[f] := by simp only [PV.fld, PV.flds]; exact getD_of hg
              rw [hp]
              refine .fro ?_ (hat.sub fd.offset (E.P.cellsOf fd.type)) hfr
              exact sub_len (by have := (layS hL ht hu).within hf; omega)
            | int hu' => rw [hu] at hu'; cases hu'
            | bool hu' => rw [hu] at hu'; cases hu'
            | str hu' => rw [hu] at hu'; cases hu'
            | flt hu' => rw [hu] at hu'; cases hu'
            | nilSlice hu' => rw [hu] at hu'; cases hu'
            | slice hu' => rw [hu] at hu'; cases hu'
            | nilPtr hu' => rw [hu] at hu'; cases hu'
            | ref hu' => rw [hu] at hu'; cases hu'
            | nilIface hu' => rw [hu] at hu'; cases hu'
            | arr hu' => rw [hu] at hu'; cases hu'
        | _ => cases h
    | _ => cases h

end
end Go.X
