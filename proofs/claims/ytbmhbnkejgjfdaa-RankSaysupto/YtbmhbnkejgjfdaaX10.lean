/- The interpreter X, part 10: what the model's small steps do, where X's relation holds. -/
import Derived.Test.YtbmhbnkejgjfdaaX9
import Derived.ChangeKeysEq
import Derived.Laws.Entries
namespace Go.X
open Go
section
variable {P : Program}

theorem info_of {t : TypeId} {d : TypeDesc} (h : P.underlying t = some d) : ∃ i, P.info? t = some i := by
  unfold Program.underlying at h
  cases hi : P.info? t with
  | none => rw [hi] at h; cases h
  | some i => exact ⟨i, rfl⟩
theorem run_isAggT {t : TypeId} {d : TypeDesc} (h : P.underlying t = some d) (w : World) : (isAgg t).run P w = .ok (isAggT P t) w := by
  unfold isAgg isAggT
  rw [Sem.run_bind, run_underlying h, Result.andThen_ok, h]
  cases d <;> rfl
theorem run_sizeT {t : TypeId} {d : TypeDesc} (h : P.underlying t = some d) (w : World) : (sizeOf t).run P w = .ok (P.cellsOf t) w := by
  obtain ⟨i, hi⟩ := info_of h
  exact run_sizeOf w hi

theorem run_loadVar {w : World} {t : TypeId} {d : TypeDesc} {v : Value} {cs : List Value} {a : Addr} (hu : P.underlying t = some d) (hp : Pack P t v cs) (hl : cs.length = P.cellsOf t)
    (h : ∀ j x, cs[j]? = some x → w.cell? (a.add j) = some x) : (loadVar t a).run P w = .ok v w := by
  unfold loadVar
  rw [Sem.run_bind, run_isAggT hu, Result.andThen_ok]
  unfold Pack at hp
  by_cases ha : isAggT P t = true
  · rw [if_pos ha] at hp ⊢
    rw [Sem.run_bind, run_sizeT hu, Result.andThen_ok, Sem.run_bind, ← hl, run_loadCells_list w a cs h, Result.andThen_ok, hp]; rfl
  · rw [if_neg ha] at hp ⊢
    subst hp
    have := h 0 v rfl
    rw [run_load]
    have e : a.add 0 = a := rfl
    rw [e] at this
    rw [this]

theorem setCell_heap (w : World) (b o : Nat) (v : Value) (x : Nat) : (w.setCell ⟨b, o, none⟩ v).heap[x]? =
    if x = b then (w.heap[b]?).map (fun | .cells c e fr => .cells (c.setIfInBounds o v) e fr | o => o) else w.heap[x]? := by
  unfold World.setCell
  simp only [Array.getElem?_modify]
  by_cases hx : b = x
  · subst hx; simp; rfl
  · rw [if_neg hx, if_neg (Ne.symm hx)]
theorem setCell_size (w : World) (a : Addr) (v : Value) : (w.setCell a v).heap.size = w.heap.size := by unfold World.setCell; simp

theorem setCells_other (b x : Nat) (hx : x ≠ b) : ∀ (vs : List Value) (o : Nat) (w : World), (w.setCells b o vs).heap[x]? = w.heap[x]?
  | [], _, _ => rfl
  | v :: r, o, w => by rw [World.setCells, setCells_other b x hx r, setCell_heap, if_neg hx]
theorem setCells_size (b : Nat) : ∀ (vs : List Value) (o : Nat) (w : World), (w.setCells b o vs).heap.size = w.heap.size
  | [], _, _ => rfl
  | v :: r, o, w => by rw [World.setCells, setCells_size b r, setCell_size]
theorem setCells_os (b : Nat) : ∀ (vs : List Value) (o : Nat) (w : World), (w.setCells b o vs).os = w.os ∧ (w.setCells b o vs).output = w.output
  | [], _, _ => ⟨rfl, rfl⟩
  | v :: r, o, w => by rw [World.setCells]; exact setCells_os b r _ _
theorem setCells_block (b : Nat) : ∀ (vs : List Value) (o : Nat) (w : World) (cs : List Value) (e : TypeId) (fr : Nat × Nat), w.heap[b]? = some (.cells cs.toArray e fr) → o + vs.length ≤ cs.length →
    (w.setCells b o vs).heap[b]? = some (.cells (splice cs o vs).toArray e fr)
  | [], o, w, cs, e, fr, h, _ => by
    unfold splice
    rw [World.setCells, h]
    simp
  | v :: r, o, w, cs, e, fr, h, hl => by
    have hl' : o + 1 + r.length ≤ cs.length := by simp at hl; omega
    rw [World.setCells, setCells_block b r (o + 1) _ (cs.set o v) e fr (by rw [setCell_heap, if_pos rfl, h]; simp) (by rw [List.length_set]; exact hl')]
    congr 2
    apply congrArg List.toArray
    apply List.ext_getElem?
    intro j
    rw [splice_get (by rw [List.length_set]; exact hl'), splice_get (by simpa using hl)]
    by_cases h1 : j < o
    · rw [if_pos (by omega), if_pos h1, List.getElem?_set_ne (by omega)]
    · rw [if_neg h1]
      by_cases h2 : j = o
      · subst h2
        rw [if_pos (by omega), if_pos (by simp), List.getElem?_set_self (by simp at hl; omega)]
        simp
      · rw [if_neg (by omega)]
        by_cases h3 : j < o + 1 + r.length
        · rw [if_pos h3, if_pos (by simp; omega), show j - o = (j - (o + 1)) + 1 by omega, List.getElem?_cons_succ]
        · rw [if_neg h3, if_neg (by simp; omega), List.getElem?_set_ne (by omega)]

theorem run_storeVar {w : World} {t : TypeId} {d : TypeDesc} {v : Value} {xs cs : List Value} {b o : Nat} {e : TypeId} {fr : Nat × Nat} (hu : P.underlying t = some d) (hp : Pack P t v xs) (h1 : ∀ c ∈ xs, c.oneCell' = true)
    (hl : xs.length = P.cellsOf t) (hb : w.heap[b]? = some (.cells cs.toArray e fr)) (ho : o + xs.length ≤ cs.length) (hfr : ∀ x, x < cs.length → ¬ (fr.1 ≤ x ∧ x < fr.2)) :
    (storeVar t ⟨b, o, none⟩ v).run P w = .ok () (w.setCells b o xs) := by
  unfold storeVar
  have hc := hp.cells h1
  have hsz : v.cells.size = P.cellsOf t := by rw [← hl, ← hc]; simp
  rw [Sem.run_bind, run_sizeT hu, Result.andThen_ok]
  simp only [hsz, ne_eq, not_true_eq_false, if_false]
  rw [hc]
  have := run_storeCells_cells (P := P) b o xs 0 w (fun j hj => ?_) (fun j hj => ?_) h1
  · simpa using this
  · unfold World.cell?
    simp only [hb, Option.isSome_none, Bool.false_eq_true, if_false]
    simp; omega
  · unfold World.frozen?
    simp only [hb]
    have := hfr (o + 0 + j) (by omega)
    simp only [Bool.and_eq_false_iff, decide_eq_false_iff_not]
    rcases Nat.lt_or_ge (o + 0 + j) fr.1 with h | h
    · exact .inl (by omega)
    · exact .inr (fun h' => this ⟨h, h'⟩)

/-- The cells of a block, read. -/
theorem cell_block {w : World} {b o : Nat} {cs : List Value} {e : TypeId} {fr : Nat × Nat} (hb : w.heap[b]? = some (.cells cs.toArray e fr)) (j : Nat) (n : Nat) {x : Value} (hx : (sub cs o n)[j]? = some x) :
    w.cell? ((⟨b, o, none⟩ : Addr).add j) = some x := by
  rw [sub_get] at hx
  by_cases hj : j < n
  · rw [if_pos hj] at hx
    unfold Addr.add World.cell?
    by_cases h0 : j = 0
    · subst h0; simp only [if_true, hb]; simpa using hx
    · simp only [if_neg h0, hb]; simpa using hx
  · rw [if_neg hj] at hx; cases hx

theorem Rd.pack {w : World} {M : Nat → Prop} {t : TypeId} {p : PV} {cs : List Value} (h : Rd P w M t p cs) : ∃ v, Pack P t v cs := by
  by_cases ha : isAggT P t = true
  · exact ⟨.agg cs.toArray, by simp [Pack, ha]⟩
  · obtain ⟨v, hv, _⟩ := h.len (by simpa using ha)
    exact ⟨v, by simp [Pack, ha, hv]⟩
theorem Rd.desc {w : World} {M : Nat → Prop} {t : TypeId} {p : PV} {cs : List Value} (h : Rd P w M t p cs) : ∃ d, P.underlying t = some d := by
  cases h <;> exact ⟨_, by assumption⟩

theorem SV.isT_pv {t : TypeId} {w : World} {M : Nat → Prop} {β : Beta} {B : Obs} {u : TypeId} {p : PV} {v : Value} {cs : List Value} (h : (SV.val u p).isT P t) (hr : RS P w M β B (.val u p) v) (hp : Pack P t v cs) :
    Rd P w M t p cs := by
  rcases h with h | h | h | ⟨l, h⟩
  · obtain ⟨x, hx⟩ := Option.isSome_iff_exists.1 h
    obtain ⟨cs', h1, h2⟩ := hr.pvT hx
    have hxp : x = p := by
      simp only [SV.pvT, Bool.cond_eq_ite] at hx
      split at hx
      · injection hx with hx; exact hx.symm
      · cases hx
    subst hxp
    have : cs' = cs := by
      unfold Pack at h1 hp
      by_cases ha : isAggT P t = true
      · rw [if_pos ha] at h1 hp; rw [h1] at hp; injection hp with hp; simpa using congrArg Array.toList hp
      · rw [if_neg ha] at h1 hp; rw [h1, hp]
    rw [this] at h2; exact h2
  · simp [SV.isHandle] at h
  · cases h
  · cases h

/-- What X reads of a variable is there. -/
theorem RS.getAt (hL : laidOutB P = true) {w : World} {M : Nat → Prop} {β : Beta} {B : Obs} : ∀ (q : List Stp) {t t' : TypeId} {s : SV} {v : Value} {cs : List Value} {off : Nat}, t < P.types.size →
    RS P w M β B s v → Pack P t v cs → cs.length = P.cellsOf t → s.isT P t → typT P t q = some t' → offT P t q = some off →
    t' < P.types.size ∧ off + P.cellsOf t' ≤ P.cellsOf t ∧ (s.getAt P t' q = .dead ∨ ∃ v', RS P w M β B (s.getAt P t' q) v' ∧ Pack P t' v' (sub cs off (P.cellsOf t')) ∧ (q = [] → s.isT P t')) := by
  intro q
  induction q with
  | nil =>
    intro t t' s v cs off ht hr hp hl hs h1 h2
    injection h1 with h1; injection h2 with h2; subst h1; subst h2
    refine ⟨ht, by omega, .inr ⟨v, ?_, by rw [sub_all hl]; exact hp, fun _ => hs⟩⟩
    have : SV.getAt P t s [] = s := by cases s <;> rfl
    rw [this]; exact hr
  | cons st q ih =>
    intro t t' s v cs off ht hr hp hl hs h1 h2
    by_cases hag : ∃ u l, s = .agg u l
    · obtain ⟨u, l, rfl⟩ := hag
      have hut : u = t := by
        rcases hs with h | h | h | ⟨l', h⟩
        · simp [SV.pvT] at h
        · simp [SV.isHandle] at h
        · cases h
        · injection h
      subst hut
      cases hr with
      | @agg _ fs _ cs' vs hu ht' hll hcl hone hf hrs =>
        have hcc : cs' = cs := by
          unfold Pack at hp
          rw [if_pos (isAggT_struct hu)] at hp
          injection hp with hp; simpa using congrArg Array.toList hp
        subst hcc
        cases st with
        | fld i =>
          simp only [typT] at h1
          simp only [offT] at h2
          rw [hu] at h1 h2
          simp only at h1 h2
          cases hfi : fs[i]? with
          | none => rw [hfi] at h1; cases h1
          | some f =>
            rw [hfi] at h1 h2
            simp only [Option.bind_some] at h1 h2
            by_cases h0 : P.cellsOf f.type = 0
            · rw [if_pos h0] at h2; cases h2
            · rw [if_neg h0] at h2
              cases ho : offT P f.type q with
              | none => rw [ho] at h2; cases h2
              | some o =>
                rw [ho] at h2
                replace h2 : f.offset + o = off := by injection h2
                subst h2
                have hli : i < l.length := by
                  rw [hll]
                  rcases Nat.lt_or_ge i fs.size with h | h
                  · exact h
                  · rw [Array.getElem?_eq_none h] at hfi; cases hfi
                have lay := layS hL ht hu
                have hft : f.type < P.types.size := lay.1 f (by have : fs.toList[i]? = some f := by simpa using hfi
                                                                exact List.mem_of_getElem? this)
                have hw := lay.within hfi
                have hgi := List.getElem?_eq_getElem hli
                obtain ⟨k1, k2⟩ := hf i f l[i] hfi hgi
                change Pack P f.type (vs i) (sub cs' f.offset (P.cellsOf f.type)) at k2
                obtain ⟨g1, g2, g3⟩ := ih hft (hrs i l[i] hgi) k2 (by rw [sub_len (by omega)]) k1 h1 ho
                refine ⟨g1, by omega, ?_⟩
                have e : SV.getAt P t' (.agg u l) (.fld i :: q) = SV.getAt P t' l[i] q := by
                  simp only [SV.getAt]; rw [getD_of hgi]
                rw [e]
                rcases g3 with g3 | ⟨v', g3, g4, _⟩
                · exact .inl g3
                · refine .inr ⟨v', g3, ?_, fun h => by cases h⟩
                  rw [sub_sub g2] at g4; exact g4
        | idx i => simp only [typT] at h1; rw [hu] at h1; cases h1
        | el i => simp only [typT] at h1; cases h1
    · by_cases hval : ∃ u p, s = .val u p
      · obtain ⟨u, p, rfl⟩ := hval
        have hrd := SV.isT_pv hs hr hp
        obtain ⟨g1, g2, g3⟩ := Rd.get hL (st :: q) ht hrd h1 h2
        refine ⟨g1, g2, .inr ?_⟩
        obtain ⟨v', hv'⟩ := g3.pack
        have e : SV.getAt P t' (.val u p) (st :: q) = X.ofPV P t' (p.get (st :: q)) := by cases st <;> rfl
        exact ⟨v', by rw [e]; exact RS.ofPV hv' g3, hv', fun h => by cases h⟩
      · -- a handle has no places
        have e : SV.getAt P t' s (st :: q) = .dead := by
          cases s <;> cases st <;> first
            | rfl
            | exact absurd ⟨_, _, rfl⟩ hag
            | exact absurd ⟨_, _, rfl⟩ hval
        -- the type's places, from the cells' reading alone
        have hb : ∀ (q : List Stp) {t t' : TypeId} {off : Nat}, t < P.types.size → typT P t q = some t' → offT P t q = some off → t' < P.types.size ∧ off + P.cellsOf t' ≤ P.cellsOf t := by
          intro q
          induction q with
          | nil => intro t t' off ht h1 h2; injection h1 with h1; injection h2 with h2; subst h1; subst h2; exact ⟨ht, by omega⟩
          | cons st q ih =>
            intro t t' off ht h1 h2
            cases st with
            | fld i =>
              simp only [typT] at h1
              simp only [offT] at h2
              cases hu : P.underlying t with
              | none => rw [hu] at h1; cases h1
              | some d =>
                rw [hu] at h1 h2
                cases d with
                | struct fs =>
                  simp only at h1 h2
                  cases hfi : fs[i]? with
                  | none => rw [hfi] at h1; cases h1
                  | some f =>
                    rw [hfi] at h1 h2
                    simp only [Option.bind_some] at h1 h2
                    by_cases h0 : P.cellsOf f.type = 0
                    · rw [if_pos h0] at h2; cases h2
                    · rw [if_neg h0] at h2
                      cases ho : offT P f.type q with
                      | none => rw [ho] at h2; cases h2
                      | some o =>
                        rw [ho] at h2
                        replace h2 : f.offset + o = off := by injection h2
                        have lay := layS hL ht hu
                        have hft : f.type < P.types.size := lay.1 f (by have : fs.toList[i]? = some f := by simpa using hfi
                                                                        exact List.mem_of_getElem? this)
                        have hw := lay.within hfi
                        obtain ⟨g1, g2⟩ := ih hft h1 ho
                        exact ⟨g1, by omega⟩
                | _ => cases h1
            | idx i =>
              simp only [typT] at h1
              simp only [offT] at h2
              cases hu : P.underlying t with
              | none => rw [hu] at h1; cases h1
              | some d =>
                rw [hu] at h1 h2
                cases d with
                | array n e =>
                  simp only at h1 h2
                  by_cases hi : 0 ≤ i ∧ i < n
                  · rw [if_pos hi] at h2
                    cases ho : offT P e q with
                    | none => rw [ho] at h2; cases h2
                    | some o =>
                      rw [ho] at h2
                      replace h2 : i.toNat * P.cellsOf e + o = off := by injection h2
                      obtain ⟨he, hce⟩ := layA hL ht hu
                      obtain ⟨g1, g2⟩ := ih he h1 ho
                      have hw : i.toNat * P.cellsOf e + P.cellsOf e ≤ P.cellsOf t := by
                        rw [hce, ← Nat.succ_mul]; exact Nat.mul_le_mul_right _ (by omega)
                      exact ⟨g1, by omega⟩
                  · rw [if_neg hi] at h2; cases h2
                | _ => cases h1
            | el i => simp only [typT] at h1; cases h1
        obtain ⟨b1, b2⟩ := hb (st :: q) ht h1 h2
        exact ⟨b1, b2, .inl e⟩

end
end Go.X
