/- The interpreter X, part 20: new rows; conversions. -/
import Derived.Test.YtbmhbnkejgjfdaaX19
import Derived.Great.BuildSlice
set_option linter.unusedVariables false
set_option linter.unusedSimpArgs false
namespace Go.X
open Go
section
variable {P : Program}

/-- Cells in which data of a type stand one behind the other. -/
def Rows (P : Program) (w : World) (M : Nat → Prop) (e : TypeId) (l : List PV) (cs : List Value) : Prop :=
  ∀ (i : Nat) (p : PV), l[i]? = some p → Rd P w M e p (sub cs (i * P.cellsOf e) (P.cellsOf e))

theorem mul_apart {i j n : Nat} (h : i ≠ j) : i * n + n ≤ j * n ∨ j * n + n ≤ i * n := by
  rcases Nat.lt_or_gt_of_ne h with h | h
  · left; have := Nat.mul_le_mul_right n h; rw [Nat.succ_mul] at this; exact this
  · right; have := Nat.mul_le_mul_right n h; rw [Nat.succ_mul] at this; exact this
theorem mul_within {i m n : Nat} (h : i < m) : i * n + n ≤ m * n := by
  have := Nat.mul_le_mul_right n h; rw [Nat.succ_mul] at this; exact this

theorem Rows.set (hL : laidOutB P = true) {w : World} {M : Nat → Prop} {e : TypeId} (he : e < P.types.size) {l : List PV} {cs xs : List Value} {x : PV} {i : Nat} (h : Rows P w M e l cs) (hl : l.length * P.cellsOf e ≤ cs.length) (hi : i < l.length)
    (hx : Rd P w M e x xs) : Rows P w M e (l.set i x) (splice cs (i * P.cellsOf e) xs) := by
  intro j p hj
  have hxl := hx.size hL he
  have hb := mul_within (n := P.cellsOf e) hi
  rw [List.getElem?_set] at hj
  by_cases hij : i = j
  · subst hij
    rw [if_pos rfl, if_pos hi] at hj
    injection hj with hj; subst hj
    have := sub_splice_in (cs := cs) (xs := xs) (o := 0) (a := i * P.cellsOf e) (n := P.cellsOf e) (by omega) (by omega)
    rw [Nat.add_zero] at this
    rw [this, splice_all (by rw [sub_len (by omega), hxl])]
    exact hx
  · rw [if_neg hij] at hj
    have hjl := get_lt hj
    rw [sub_splice_out (by omega) (by rw [hxl]; have := mul_apart (n := P.cellsOf e) hij; omega)]
    exact h j p hj

theorem Rows.mono {w w' : World} {M M' : Nat → Prop} (h : Stable w M w' M') {e : TypeId} {l : List PV} {cs : List Value} (hr : Rows P w M e l cs) : Rows P w' M' e l cs :=
  fun i p hi => (hr i p hi).mono h

theorem fill_rows (hL : laidOutB P = true) {w : World} {M : Nat → Prop} {e : TypeId} (he : e < P.types.size) {sz : Nat} (hsz : P.cellsOf e = sz) :
    ∀ (parts : List (Nat × Value)) (ps : List PV) (l : List PV) (C : Array Value), Rows P w M e l C.toList → C.size = l.length * sz → parts.length = ps.length →
      (∀ (k i : Nat) (v : Value) (x : PV), parts[k]? = some (i, v) → ps[k]? = some x → i < l.length ∧ ∃ xs, v.cells.toList = xs ∧ Rd P w M e x xs) →
      (∀ c ∈ C.toList, c.oneCell' = true) →
      ∃ C', Instr.fill (fun i => some (i * sz, sz)) C parts = some C' ∧ Rows P w M e (((parts.map (·.1)).zip ps).foldl (fun p x => p.set x.1 x.2) l) C'.toList ∧ C'.size = C.size ∧
        (∀ c ∈ C'.toList, c.oneCell' = true) ∧ (((parts.map (·.1)).zip ps).foldl (fun p x => p.set x.1 x.2) l).length = l.length
  | [], ps, l, C, hr, _, _, _, h1 => ⟨C, rfl, by simpa using hr, rfl, h1, by simp⟩
  | (i, v) :: parts, [], l, C, hr, _, hl, _, _ => by simp at hl
  | (i, v) :: parts, x :: ps, l, C, hr, hC, hl, h, h1 => by
    subst hsz
    obtain ⟨hi, xs, hx1, hx2⟩ := h 0 i v x rfl rfl
    have hxl := hx2.size hL he
    have hb := mul_within (n := P.cellsOf e) hi
    have hvs : v.cells.size = P.cellsOf e := by rw [← hxl, ← hx1]; simp
    have hstep : (v.cells.zipIdx.foldl (fun (cs : Array Value) (c, j) => cs.setIfInBounds (i * P.cellsOf e + j) c) C) = (splice C.toList (i * P.cellsOf e) xs).toArray := fill_step hx1 (by omega)
    have hsl : (splice C.toList (i * P.cellsOf e) xs).length = C.size := by rw [splice_len (by simp; omega)]; simp
    obtain ⟨C', k1, k2, k3, k4, k5⟩ := fill_rows hL he rfl parts ps (l.set i x) (splice C.toList (i * P.cellsOf e) xs).toArray (by simpa using hr.set hL he (by simp; omega) hi hx2) (by simp [hsl, hC]) (by simpa using hl)
      (fun k i' v' x' hk hx => by
        obtain ⟨g1, g2⟩ := h (k + 1) i' v' x' (by simpa using hk) (by simpa using hx)
        exact ⟨by simpa using g1, g2⟩)
      (fun c hc => by
        rcases mem_splice (by simpa using hc) with hc | hc
        · exact h1 c hc
        · exact hx2.one hL c hc)
    refine ⟨C', ?_, k2, by rw [k3]; simp [hsl], k4, by simpa using k5⟩
    rw [Instr.fill]
    simp only
    rw [if_neg (by simp only [hvs, ne_eq, not_true_eq_false, decide_false, Bool.false_or, decide_eq_true_eq, gt_iff_lt]; omega), hstep]
    exact k1

theorem made_rows (hL : laidOutB P = true) {w : World} {M : Nat → Prop} {e : TypeId} (he : e < P.types.size) {z : PV} {zc : List Value} (hz : Rd P w M e z zc) (n : Nat) :
    Rows P w M e (List.replicate n z) (madeCells zc.toArray (n * P.cellsOf e)).toList ∧ ∀ c ∈ (madeCells zc.toArray (n * P.cellsOf e)).toList, c.oneCell' = true := by
  have hzl := hz.size hL he
  have hget : ∀ k, k < n * P.cellsOf e → (madeCells zc.toArray (n * P.cellsOf e)).toList[k]? = zc[k % P.cellsOf e]? := by
    intro k hk
    have h0 : 0 < P.cellsOf e := by
      rcases Nat.eq_zero_or_pos (P.cellsOf e) with h | h
      · rw [h] at hk; simp at hk
      · exact h
    have hm := Nat.mod_lt k h0
    rw [Array.getElem?_toList]
    unfold madeCells
    rw [Array.getElem?_map, Array.getElem?_range, if_pos hk]
    simp only [Option.map_some, List.size_toArray, hzl]
    rw [List.getElem?_eq_getElem (by omega)]
    rw [getElem!_pos _ _ (by simp; omega)]
    simp
  constructor
  · intro i p hi
    have hil := get_lt hi
    rw [List.length_replicate] at hil
    have hp : p = z := (List.mem_replicate.1 (List.mem_of_getElem? hi)).2
    subst hp
    have hb := mul_within (n := P.cellsOf e) hil
    have : sub (madeCells zc.toArray (n * P.cellsOf e)).toList (i * P.cellsOf e) (P.cellsOf e) = zc := by
      apply List.ext_getElem?
      intro k
      rw [sub_get]
      by_cases hk : k < P.cellsOf e
      · rw [if_pos hk, hget _ (by omega), Nat.mul_comm, Nat.mul_add_mod, Nat.mod_eq_of_lt hk]
      · rw [if_neg hk, List.getElem?_eq_none (by omega)]
    rw [this]; exact hz
  · intro c hc
    obtain ⟨k, hk⟩ := List.getElem?_of_mem hc
    have hkl := get_lt hk
    rw [Array.length_toList, size_madeCells] at hkl
    rw [hget k hkl] at hk
    exact hz.one hL c (List.mem_of_getElem? hk)

end

section
variable {E : Env} {w0 : World} {F : Foot} {Mo : Nat → Prop} {st : St} {K : SV → Obs → Option Out} {r : Out} {a : Act} {w : World} {β : Beta}

/-- A new row, of the call's own. -/
theorem q_rowOwn (hR : Rel E.P Mo β st.T st.B a.tmps.toList w) (hk : Kp w0 F β st.B w) {o : Oper} {t e : TypeId} {d c : Nat} {l : List PV} {C : Array Value} {fr : Nat × Nat} {w' : World} (hu : E.P.underlying t = some (.slice e)) (he : e < E.P.types.size)
    (hrows : Rows E.P w (Mut Mo β st.B) e l C.toList) (h1 : ∀ c ∈ C.toList, c.oneCell' = true) (hC : C.size = c * E.P.cellsOf e) (hlc : l.length ≤ c) (hcm : c ≤ maxLen) (hfr : ∀ o, o < C.size → ¬ (fr.1 ≤ o ∧ o < fr.2)) (hd : Obs.get st.B d = none) (hlo : d < lowB)
    (hrun : (execOp a.eval o).run E.P w = .ok (.value (.slice (some ⟨w.heap.size, 0, none⟩) l.length c)) w') (hw : w'.heap = w.heap.push (.cells C e fr)) (hos : w'.os = w.os) (hout : w'.output = w.output)
    (hK : K (.own t d) [(d, .row e l)] = some r) : QOk E w0 F Mo β o st K r a w := by
  refine QOk.lay (x := some (w.heap.size, c)) hR hk hd hlo hK hrun (by rw [hw]; simp) (fun b hb => by rw [hw]; exact push_old hb) (fun b c' hx => ?_) hos hout (fun hsame => ?_) ?_
  · injection hx with hx; injection hx with h2 h3; subst h2; exact ⟨Nat.le_refl _, by rw [hw]; simp⟩
  · refine ⟨he, .inr ⟨w.heap.size, c, C.toList, fr, at_self _ _ _, by rw [hw]; exact push_new, fun o ho => hfr o (by simpa using ho), hlc, hcm, by simpa using hC, h1, fun i p hi => (hrows i p hi).mono hsame.st⟩⟩
  · exact .own hu (ins_self _ _ _) (at_self _ _ _) hlc

/-- A new row, as data. -/
theorem q_rowVal (hR : Rel E.P Mo β st.T st.B a.tmps.toList w) (hk : Kp w0 F β st.B w) {o : Oper} {t e : TypeId} {c : Nat} {l : List PV} {C : Array Value} {fr : Nat × Nat} {w' : World} (hu : E.P.underlying t = some (.slice e))
    (hrows : Rows E.P w (Mut Mo β st.B) e l C.toList) (hC : C.size = c * E.P.cellsOf e) (hlc : l.length ≤ c) (hcm : c ≤ maxLen)
    (hrun : (execOp a.eval o).run E.P w = .ok (.value (.slice (some ⟨w.heap.size, 0, none⟩) l.length c)) w') (hw : w'.heap = w.heap.push (.cells C e fr)) (hos : w'.os = w.os) (hout : w'.output = w.output)
    (hK : K (.val t (.list l)) [] = some r) : QOk E w0 F Mo β o st K r a w := by
  refine ⟨_, _, hK, .inl ⟨rfl, fun next Q hn => ?_⟩⟩
  unfold Oper.wp
  rw [hrun, Oper.upon_value]
  have hsz : w.heap.size ≤ w'.heap.size := by rw [hw]; simp
  have hold : ∀ b, b < w.heap.size → w'.heap[b]? = w.heap[b]? := fun b hb => by rw [hw]; exact push_old hb
  have hst : Stable w (Mut Mo β st.B) w' (Mut Mo β st.B) := fun b hb hlt => ⟨hb, hold b hlt⟩
  have hnew : ¬ Mut Mo β st.B w.heap.size := by
    rintro (h | ⟨d, ob, c', h1, h2⟩)
    · have := hR.mo _ h; omega
    · have := hR.lt _ _ _ _ h1 h2; omega
  refine hn _ _ ⟨hsz, hold, hos, hout, ?_⟩
  have ha : isAggT E.P t = false := by simp [isAggT, hu]
  refine .val (pack1 ha) (.slice (cs := fun i => sub C.toList (i * E.P.cellsOf e) (E.P.cellsOf e)) hu rfl hlc hcm (fun i hi => ?_) (fun i p hi => (hrows i p hi).mono hst))
  have hb := mul_within (n := E.P.cellsOf e) hi
  have hb2 := Nat.mul_le_mul_right (E.P.cellsOf e) hlc
  refine ⟨sub_len (by simp; omega), fun j x hj => ⟨by rw [add_block]; exact hnew, ?_⟩⟩
  have hbl : w'.heap[w.heap.size]? = some (.cells C.toList.toArray e fr) := by rw [hw]; exact push_new
  have := cell_block hbl j _ hj
  rw [add_add, add_off, Nat.zero_add]
  rw [add_off] at this
  exact this

theorem q_buildSlice (hL : laidOutB E.P = true) (hR : Rel E.P Mo β st.T st.B a.tmps.toList w) (hk : Kp w0 F β st.B w) {o : Oper} {t : TypeId} {n : Nat} {parts : Array (Nat × Operand)} (ho : o.op = .buildSlice t n parts)
    (hd : Obs.get st.B (o.dst.getD 0) = none) (hlo : o.dst.getD 0 < lowB) (h : opQ E o st K = some r) : QOk E w0 F Mo β o st K r a w := by
  unfold opQ at h
  rw [ho] at h
  simp only at h
  generalize o.dst.getD 0 = d at h hd hlo
  cases hu : E.P.underlying t with
  | none => rw [hu] at h; cases h
  | some dd =>
    rw [hu] at h
    cases dd with
    | slice e =>
      simp only at h
      cases hz : zeroPV E.P e with
      | none => rw [hz] at h; cases h
      | some z =>
        obtain ⟨zv, zcs, z1, z2, z3, z4⟩ := zeroPV_spec hz
        obtain ⟨it, i1, i2⟩ := run_zero_und z1
        have hzr : Rd E.P w (Mut Mo β st.B) e z zcs := pvC_sound 10 z3
        rw [hz] at h
        cases hp : plainsE E.P e (parts.toList.map fun x => st.get E.P e x.2) with
        | none => rw [hp] at h; cases h
        | some l =>
          rw [hp] at h
          simp only at h
          obtain ⟨hc, h⟩ := cond_some h
          simp only [Bool.and_eq_true, decide_eq_true_eq, List.all_eq_true] at hc
          obtain ⟨⟨⟨he, hsm⟩, hn⟩, hall⟩ := hc
          obtain ⟨q1, q3⟩ := plainsE_spec hp
          have hce : E.P.cellsOf e = it.size := by unfold Program.cellsOf; rw [i1]; rfl
          obtain ⟨m1, m2⟩ := made_rows hL he hzr n
          have hfst : (parts.map fun (i, x) => (i, a.eval x)).toList.map (·.1) = parts.toList.map (·.1) := by rw [Array.toList_map, List.map_map]; rfl
          obtain ⟨C, c1, c2, c3, c4, c5⟩ := fill_rows hL he hce (parts.map fun (i, x) => (i, a.eval x)).toList l (List.replicate n z) (madeCells zcs.toArray (n * E.P.cellsOf e)) m1 (by rw [size_madeCells, List.length_replicate, hce]) (by simp [q1])
            (fun k i v x hk hx => by
              obtain ⟨y, hy, rfl⟩ := parts_get hk
              have hf := hall (i, y) (List.mem_of_getElem? hy)
              have hs : (parts.toList.map fun x => st.get E.P e x.2)[k]? = some (st.get E.P e y) := by rw [List.getElem?_map, hy]; rfl
              obtain ⟨xs, x1, x2⟩ := (get_sound hR e y).pvT (q3 k _ x hs hx)
              exact ⟨by simpa using hf, xs, x1.cells (x2.one hL), x2⟩) m2
          rw [hfst] at c2 c5
          rw [List.length_replicate] at c5
          rw [size_madeCells] at c3
          generalize ((parts.toList.map (·.1)).zip l).foldl (fun p x => p.set x.1 x.2) (List.replicate n z) = rr at h c2 c5
          have hrun : (execOp a.eval o).run E.P w = .ok (.value (.slice (some ⟨w.heap.size, 0, none⟩) rr.length n)) (w.alloc (.cells C e)) := by
            unfold execOp; rw [ho]
            simp only
            rw [Sem.run_bind]
            have hb : (Instr.buildSlice t n (parts.map fun (i, x) => (i, a.eval x))).run E.P w = .ok (.slice (some ⟨w.heap.size, 0, none⟩) n n) (w.alloc (.cells C e)) := by
              rw [hce] at c1 hsm
              unfold madeCells at c1
              by_cases h0 : n * it.size = 0
              · rw [h0, show (Array.map (fun x => zcs.toArray[x % zcs.toArray.size]!) (Array.range 0)) = #[] by simp] at c1
                unfold Instr.buildSlice
                rw [Sem.run_bind, run_underlying hu, Result.andThen_ok]
                simp only [Sem.run_bind, sizeOf, typeInfo, run_program, Result.andThen_ok, i1, Sem.run_pure, h0, Nat.not_lt_zero, gt_iff_lt, if_false, if_true, Array.range_zero', Array.map_empty, c1]
                rfl
              · exact run_buildSlice w t e n _ C it zv hu i1 i2 (by omega) h0 (by rw [z4]; exact c1)
            rw [hb, c5]; rfl
          by_cases hown : E.nilOwn d = true
          · rw [hown, cond_true] at h
            exact q_rowOwn hR hk hu he c2 c4 c3 (by omega) (le_maxLen (by omega)) (fun o _ => by omega) hd hlo hrun rfl rfl rfl h
          · rw [show E.nilOwn d = false by simpa using hown, cond_false] at h
            exact q_rowVal hR hk hu c2 c3 (by omega) (le_maxLen (by omega)) hrun rfl rfl rfl h
    | _ => cases h

end
end Go.X
