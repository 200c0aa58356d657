/- The interpreter X, part 17: slices, lengths, the least and the greatest, conversions. -/
import Derived.Test.YtbmhbnkejgjfdaaX16
namespace Go.X
open Go
section
variable {E : Env} {w0 : World} {F : Foot} {Mo : Nat → Prop} {st : St} {K : SV → Obs → Option Out} {r : Out} {a : Act} {w : World} {β : Beta}

theorem optInt_spec (hR : Rel E.P Mo β st.T st.B a.tmps.toList w) {x : Option Operand} {l : Option Int} (h : optInt st E.P x = some l) :
    (x.map a.eval = none ∧ l = none) ∨ ∃ k n, x.map a.eval = some (.int k n) ∧ l = some n := by
  cases x with
  | none => simp only [optInt] at h; injection h with h; exact .inl ⟨rfl, h.symm⟩
  | some y =>
    simp only [optInt] at h
    have hy := get_sound hR 0 y
    generalize st.get E.P 0 y = s at h hy
    generalize hv : a.eval y = v at hy
    cases hy <;> simp only [SV.toInt, Option.map_some, Option.map_none, reduceCtorEq, Option.some.injEq] at h
    rename_i k n _
    refine .inr ⟨k, n, ?_, h.symm⟩
    rw [Option.map_some, hv]

theorem bounds_spec {lo hi : Option Int} {len : Nat} {K : Nat → Nat → Option Out} (h : bounds lo hi len K = some r) :
    0 ≤ lo.getD 0 ∧ lo.getD 0 ≤ hi.getD len ∧ hi.getD len ≤ len ∧ K (lo.getD 0).toNat (hi.getD len).toNat = some r := by
  unfold bounds at h
  obtain ⟨h1, h2⟩ := cond_some h
  simp only [Bool.and_eq_true, decide_eq_true_eq] at h1
  exact ⟨h1.1.1, h1.1.2, h1.2, h2⟩

theorem run_sliceBounds {P : Program} {isSlice : Bool} {len cap : Nat} (hlc : len ≤ cap) {lv hv : Option Value} {l h : Option Int}
    (hl : (lv = none ∧ l = none) ∨ ∃ k n, lv = some (.int k n) ∧ l = some n) (hh : (hv = none ∧ h = none) ∨ ∃ k n, hv = some (.int k n) ∧ h = some n)
    (b1 : 0 ≤ l.getD 0) (b2 : l.getD 0 ≤ h.getD len) (b3 : h.getD len ≤ len) :
    (Instr.sliceBounds isSlice len cap lv hv none).run P w = .ok ((l.getD 0).toNat, (h.getD len).toNat, cap) w := by
  unfold Instr.sliceBounds
  rcases hl with ⟨rfl, rfl⟩ | ⟨k, n, rfl, rfl⟩ <;> rcases hh with ⟨rfl, rfl⟩ | ⟨k', n', rfl, rfl⟩
  · simp [Option.getD]
  · simp only [Option.getD_some, Option.getD_none] at *
    simp only [Instr.sliceBound, asIntOf, pure_bind]
    rw [if_pos (show 0 ≤ n' ∧ n' ≤ (cap : Int) by omega)]
    simp
  · simp only [Option.getD_some, Option.getD_none] at *
    simp only [Instr.sliceBound, asIntOf, pure_bind]
    rw [if_pos (show 0 ≤ n ∧ n ≤ (len : Int) by omega)]
    simp
  · simp only [Option.getD_some] at *
    simp only [Instr.sliceBound, asIntOf, pure_bind]
    rw [if_pos (show 0 ≤ n' ∧ n' ≤ (cap : Int) by omega)]
    simp only [pure_bind]
    rw [if_pos (show 0 ≤ n ∧ n ≤ ((n'.toNat : Nat) : Int) by omega)]
    simp

theorem chars_extract (s : ByteArray) (l h : Nat) : chars (s.extract l h) = ((chars s).take h).drop l := by
  unfold chars
  rw [show (s.extract l h).data.toList = (s.data.toList.take h).drop l by simp [ByteArray.data_extract, List.extract_eq_take_drop, List.drop_take]]
  rw [List.map_drop, List.map_take]

theorem q_slice (hR : Rel E.P Mo β st.T st.B a.tmps.toList w) (hk : Kp w0 F β st.B w) {o : Oper} {t : TypeId} {x : Operand} {lo hi : Option Operand} (ho : o.op = .slice t x lo hi none) (h : opQ E o st K = some r) : QOk E w0 F Mo β o st K r a w := by
  have hx := get_sound hR o.type x
  unfold opQ at h
  rw [ho] at h
  simp only at h
  generalize st.get E.P o.type x = sx at h hx
  generalize hv : a.eval x = v at hx
  cases hu : E.P.underlying t with
  | none => rw [hu] at h; cases h
  | some d =>
    rw [hu] at h
    cases hlo : optInt st E.P lo with
    | none => rw [hlo] at h; cases d <;> cases h
    | some l =>
      cases hhi : optInt st E.P hi with
      | none => rw [hlo, hhi] at h; cases d <;> cases h
      | some hh =>
        rw [hlo, hhi] at h
        have sl := optInt_spec hR hlo
        have sh := optInt_spec hR hhi
        cases d with
        | string =>
          simp only at h
          cases hx with
          | @str s hs =>
            simp only at h
            obtain ⟨b1, b2, b3, h⟩ := bounds_spec h
            rw [chars_len] at b2 b3 h
            rw [← chars_extract] at h
            refine QOk.val hR hk h (v := .string (s.extract (l.getD 0).toNat (hh.getD s.size).toNat)) ?_ (.str ?_)
            · unfold execOp; rw [ho]
              simp only [hv, Instr.sliceAt, Option.map_none]
              rw [Sem.run_bind, Sem.run_bind, run_underlying hu, Result.andThen_ok]
              simp only [Instr.slice]
              rw [Sem.run_bind, run_underlying hu, Result.andThen_ok]
              simp only [Option.isSome_none, Bool.false_eq_true, if_false]
              rw [Sem.run_bind]
              rw [run_sliceBounds (Nat.le_refl _) sl sh b1 b2 b3, Result.andThen_ok]; rfl
            · rw [ByteArray.size_extract]; omega
          | _ => cases h
        | slice e =>
          simp only at h
          cases hx with
          | @val u p v cs hp hr =>
            simp only at h
            obtain ⟨hc, h9⟩ := cond_some h
            clear h
            simp only [Bool.and_eq_true, beq_iff_eq] at hc
            obtain ⟨hut, hdesc⟩ := hc
            subst hut
            obtain ⟨de, hde⟩ := Option.isSome_iff_exists.1 hdesc
            obtain ⟨b1, b2, b3, h⟩ := bounds_spec h9
            cases hr with
            | nilSlice hu' =>
              rw [pack_one hp (by simp [isAggT, hu'])] at hv
              simp only [PV.els, List.take_nil, List.drop_nil] at h
              simp only [PV.els, List.length_nil] at b1 b2 b3
              refine QOk.val hR hk h (v := .slice none 0 0) ?_ (.val (pack1 (by simp [isAggT, hu'])) (.nilSlice hu'))
              unfold execOp; rw [ho]
              simp only [hv, Instr.sliceAt, Option.map_none]
              rw [Sem.run_bind, Sem.run_bind, run_underlying hu, Result.andThen_ok]
              simp only [Instr.slice]
              rw [Sem.run_bind, run_underlying hu, Result.andThen_ok]
              simp only
              rw [Sem.run_bind, run_sliceBounds (Nat.le_refl _) sl sh b1 b2 b3, Result.andThen_ok]
              simp only
              rw [Sem.run_bind, run_sizeT hde, Result.andThen_ok]
              have e1 : (l.getD 0).toNat = 0 := by omega
              have e2 : (hh.getD ((0 : Nat) : Int)).toNat = 0 := by omega
              rw [e1, e2]; rfl
            | @slice _ e' ad n c l' cs' hu' h1 h2 h3 h4 h5 =>
              rw [hu] at hu'; injection hu' with hu'; injection hu' with hu'; subst hu'
              rw [pack_one hp (by simp [isAggT, hu])] at hv
              simp only [PV.els] at h b1 b2 b3
              rw [h1] at h b2 b3
              refine QOk.val hR hk h (v := .slice (some (if c = (l.getD 0).toNat then ad else ad.add ((l.getD 0).toNat * E.P.cellsOf e))) ((hh.getD n).toNat - (l.getD 0).toNat) (c - (l.getD 0).toNat)) ?_ ?_
              · unfold execOp; rw [ho]
                simp only [hv, Instr.sliceAt, Option.map_none]
                rw [Sem.run_bind, Sem.run_bind, run_underlying hu, Result.andThen_ok]
                simp only [Instr.slice]
                rw [Sem.run_bind, run_underlying hu, Result.andThen_ok]
                simp only
                rw [Sem.run_bind, run_sliceBounds h2 sl sh b1 b2 b3, Result.andThen_ok]
                simp only
                rw [Sem.run_bind, run_sizeT hde, Result.andThen_ok]
                split <;> rfl
              · refine .val (pack1 (by simp [isAggT, hu])) (.slice (cs := fun i => cs' ((l.getD 0).toNat + i)) hu ?_ (by omega) (by omega) (fun i hi => ?_) (fun i p hp' => ?_))
                · rw [List.length_drop, List.length_take, h1]; omega
                · have := h4 ((l.getD 0).toNat + i) (by omega)
                  refine ⟨this.1, ?_⟩
                  rw [if_neg (by omega), add_add, ← Nat.add_mul]
                  exact this.2
                · rw [List.getElem?_drop] at hp'
                  have hlt := get_lt hp'
                  rw [List.length_take] at hlt
                  rw [List.getElem?_take_of_lt (by omega)] at hp'
                  exact h5 _ _ hp'
            | int hu' => rw [hu] at hu'; cases hu'
            | bool hu' => rw [hu] at hu'; cases hu'
            | str hu' => rw [hu] at hu'; cases hu'
            | flt hu' => rw [hu] at hu'; cases hu'
            | nilPtr hu' => rw [hu] at hu'; cases hu'
            | ref hu' => rw [hu] at hu'; cases hu'
            | nilIface hu' => rw [hu] at hu'; cases hu'
            | struct hu' => rw [hu] at hu'; cases hu'
            | arr hu' => rw [hu] at hu'; cases hu'
          | _ => cases h
        | _ => cases h

theorem i64_wf {n : Nat} (h : n ≤ maxLen) : (Lit.int .i64 n).wf = true := by
  unfold maxLen at h
  simp only [Lit.wf, Bool.and_eq_true, decide_eq_true_eq]
  have h1 : IntKind.i64.min = -9223372036854775808 := rfl
  have h2 : IntKind.i64.max = 9223372036854775807 := rfl
  rw [h1, h2]; omega

theorem run_len {P : Program} {dT ty : TypeId} {v : Value} {n : Nat} {d : TypeDesc} (hu : P.underlying dT = some d)
    (h : (d = .string ∧ ∃ s : ByteArray, v = .string s ∧ s.size = n) ∨ (∃ e a c, d = .slice e ∧ v = .slice a n c)) (argTypes : Array TypeId) (h0 : argTypes[0]? = some dT) :
    (Builtin.len_ argTypes ty #[v]).run P w = .ok (.int .i64 n) w := by
  unfold Builtin.len_
  simp only [h0, show (#[v] : Array Value)[0]? = some v from rfl]
  rw [Sem.run_bind, run_underlying hu, Result.andThen_ok]
  rcases h with ⟨rfl, s, rfl, rfl⟩ | ⟨e, ad, c, rfl, rfl⟩ <;> rfl

theorem q_len (hR : Rel E.P Mo β st.T st.B a.tmps.toList w) (hk : Kp w0 F β st.B w) {o : Oper} {args : Array Operand} {argTypes : Array TypeId} (ho : o.op = .call { callee := .builtin .len, args, argTypes }) (h : opQ E o st K = some r) :
    QOk E w0 F Mo β o st K r a w := by
  unfold opQ at h
  rw [ho] at h
  simp only at h
  cases hal : args.toList with
  | nil => rw [hal] at h; cases h
  | cons x rest =>
    cases rest with
    | cons => rw [hal] at h; cases h
    | nil =>
      rw [hal] at h
      simp only [List.map_cons, List.map_nil] at h
      have hargs : args = #[x] := by apply Array.ext'; rw [hal]
      subst hargs
      have hx := get_sound hR o.type x
      generalize st.get E.P o.type x = sx at h hx
      generalize hv : a.eval x = v at hx
      cases ht : argTypes[0]? with
      | none => rw [ht] at h; cases h
      | some t =>
        rw [ht] at h
        simp only at h
        have hrun : ∀ (n : Nat) (d : TypeDesc), E.P.underlying t = some d → ((d = .string ∧ ∃ s : ByteArray, v = .string s ∧ s.size = n) ∨ (∃ e a c, d = .slice e ∧ v = .slice a n c)) →
            (execOp a.eval o).run E.P w = .ok (.value (.int .i64 n)) w := by
          intro n d hu hd
          unfold execOp; rw [ho]
          simp only [resolve, pure_bind, invoke, builtin]
          rw [Sem.run_bind, show (Array.map a.eval #[x]) = #[v] by simp [hv], run_len hu hd argTypes ht]; rfl
        cases hu : E.P.underlying t with
        | none => rw [hu] at h; cases h
        | some d =>
          rw [hu] at h
          cases d with
          | string =>
            cases hx with
            | @str s hs =>
              simp only at h
              rw [chars_len] at h
              exact QOk.val hR hk h (hrun _ _ hu (.inl ⟨rfl, s, rfl, rfl⟩)) (.int (i64_wf hs))
            | _ => cases h
          | slice e =>
            simp only at h
            cases he : st.elems E.P e sx with
            | none => rw [he] at h; cases h
            | some l =>
              rw [he] at h
              rcases elems_sound hR hx he with ⟨h1, h2⟩ | ⟨ad, c, cs, h1, h2, h3, _⟩
              · subst h2
                exact QOk.val hR hk h (hrun 0 _ hu (.inr ⟨e, none, 0, rfl, h1⟩)) (.int (i64_wf (by simp)))
              · exact QOk.val hR hk h (hrun _ _ hu (.inr ⟨e, some ad, c, rfl, h1⟩)) (.int (i64_wf (by omega)))
          | _ => cases h

theorem q_minmax (hR : Rel E.P Mo β st.T st.B a.tmps.toList w) (hk : Kp w0 F β st.B w) {o : Oper} {args : Array Operand} {argTypes : Array TypeId} {b : Builtin} (hb : b = .min ∨ b = .max)
    (ho : o.op = .call { callee := .builtin b, args, argTypes }) (h : opQ E o st K = some r) : QOk E w0 F Mo β o st K r a w := by
  unfold opQ at h
  rw [ho] at h
  cases hal : args.toList with
  | nil => rcases hb with rfl | rfl <;> (simp only [hal] at h; cases h)
  | cons x rest =>
    cases rest with
    | nil => rcases hb with rfl | rfl <;> (simp only [hal, List.map_cons, List.map_nil] at h; cases h)
    | cons y rest =>
      cases rest with
      | cons => rcases hb with rfl | rfl <;> (simp only [hal, List.map_cons] at h; cases h)
      | nil =>
        have hargs : args = #[x, y] := by apply Array.ext'; rw [hal]
        subst hargs
        have hx := get_sound hR o.type x
        have hy := get_sound hR o.type y
        rcases hb with rfl | rfl
        all_goals
          simp only [List.map_cons, List.map_nil] at h
          generalize st.get E.P o.type x = sx at h hx
          generalize st.get E.P o.type y = sy at h hy
          generalize hv : a.eval x = v at hx
          generalize hvy : a.eval y = vy at hy
          cases hx with
          | @int k n hw =>
            cases hy with
            | @int k' n' hw' =>
              simp only at h
              obtain ⟨h1, h9⟩ := cond_some h
              clear h
              have h1 := of_decide_eq_true h1
              subst h1
              refine QOk.val hR hk h9 ?_ (.int (by split <;> assumption))
              unfold execOp; rw [ho]
              simp only [resolve, pure_bind, invoke, builtin]
              rw [show (Array.map a.eval #[x, y]) = #[.int k n, .int k n'] by simp [hv, hvy]]
              rfl
            | _ => cases h
          | _ => cases h

end
end Go.X
