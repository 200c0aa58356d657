/- The interpreter X: texts 43 to 45; no statement of the seat is proved here. -/
import Derived.Test.YthdonefmfgnilaaXG
import Derived.Test.YthdonefmfgnilaaRows
import Derived.ChangeArms
import Derived.ChangeOld
import Derived.WideKeyArgs
import Derived.Lib.Bytealg
import Derived.Laws.Externs
/- The interpreter X, part 43: a law's arguments, as data. -/
namespace Go.X
open Go

/-- Types whose data has no map, no function, no interface's value in it. -/
def plainTs (P : Program) (T : List TypeId) : Bool := T.all fun t => decide (t < P.types.size) && match P.underlying t with
  | some (.int _) | some .bool | some .string | some (.float _) => true
  | some (.slice e) | some (.pointer e) => T.contains e
  | some (.struct fs) => fs.toList.all fun f => T.contains f.type
  | some (.array _ e) => T.contains e
  | _ => false

mutual
/-- How much data holds. -/
def PV.size : PV → Nat
  | .str s => s.length + 1
  | .agg l => PV.sizes l + 1
  | .list l => PV.sizes l + 1
  | .ref p => PV.size p + 1
  | _ => 1
def PV.sizes : List PV → Nat
  | [] => 0
  | p :: l => PV.size p + PV.sizes l
end
abbrev bulk {H : Type} (d : DataW H) : Nat := Go.Proofs.Ythdonefmfgnilaa.Rows.uptoBulk d
abbrev bulks {H : Type} (l : List (DataW H)) : Nat := Go.Proofs.Ythdonefmfgnilaa.Rows.uptoBulkAll l

theorem sizes_le {H : Type} : ∀ (l : List PV) (m : List (DataW H)), l.length = m.length → (∀ (i : Nat) (p : PV) (d : DataW H), l[i]? = some p → m[i]? = some d → p.size ≤ bulk d) → PV.sizes l ≤ bulks m
  | [], m, _, _ => by simp [PV.sizes]
  | p :: l, [], h, _ => by simp at h
  | p :: l, d :: m, h, hi => by
    have h0 := hi 0 p d rfl rfl
    have ih := sizes_le l m (by simpa using h) (fun i p d h1 h2 => hi (i + 1) p d (by simpa using h1) (by simpa using h2))
    simp only [PV.sizes, bulks, Go.Proofs.Ythdonefmfgnilaa.Rows.uptoBulkAll]
    simp only [bulk, bulks] at h0 ih
    omega

section
variable {H : Type} {enc : TypeId × Value → H} {P : Program} {w : World} {spare : Nat → Bool} {held : Bool} {T : List TypeId}

theorem At.of_cells {M : Nat → Prop} {base : Nat} {a : Addr} {n : Nat} {cs : List Value} (hM : ∀ b, ¬ M b) (h : w.cells? base a n = some cs) : cs.length = n ∧ At w M a cs := by
  unfold World.cells? at h
  split at h
  · obtain ⟨h1, h2⟩ := X.mapM_some h
    refine ⟨by simpa using h1, fun j v hj => ⟨hM _, h2 j j v ?_ hj⟩⟩
    have := get_lt hj
    rw [h1, List.length_range] at this
    rw [List.getElem?_range this]
  · cases h

theorem rd_of_trod {M : Nat → Prop} (hM : ∀ b, ¬ M b) (hT : plainTs P T = true) : ∀ (n : Nat) (t : TypeId) (cs : List Value) (x : DataW H × List MemPlace), T.contains t = true → DataW.trod enc P w 0 spare held n t cs = some x → ∃ p, Rd P w M t p cs ∧ p.size ≤ bulk x.1
  | 0, t, cs, x, _, h => by cases h
  | n + 1, t, cs, x, ht, h => by
    have ht' := List.all_eq_true.1 hT t (by simpa using ht)
    simp only [Bool.and_eq_true, decide_eq_true_eq] at ht'
    obtain ⟨hlt, hk⟩ := ht'
    cases hu : P.underlying t with
    | none => rw [hu] at hk; cases hk
    | some d =>
      rw [hu] at hk
      cases d with
      | int k =>
        obtain ⟨m, rfl, rfl, hw⟩ := DataW.trod_int hu h
        exact ⟨_, .int hu hw, by simp [PV.size, bulk, Go.Proofs.Ythdonefmfgnilaa.Rows.uptoBulk]⟩
      | bool =>
        unfold DataW.trod at h
        rw [hu] at h
        split at h <;> simp_all
        subst h
        exact ⟨_, .bool hu, by simp [PV.size, bulk, Go.Proofs.Ythdonefmfgnilaa.Rows.uptoBulk]⟩
      | string =>
        obtain ⟨s, rfl, rfl, hs⟩ := DataW.trod_string hu h
        exact ⟨_, .str hu hs, by simp [PV.size, chars, bulk, Go.Proofs.Ythdonefmfgnilaa.Rows.uptoBulk]⟩
      | float k =>
        unfold DataW.trod at h
        rw [hu] at h
        split at h <;> simp_all
        obtain ⟨hw, rfl⟩ := h
        exact ⟨_, .flt hu hw.2, by simp [PV.size, bulk, Go.Proofs.Ythdonefmfgnilaa.Rows.uptoBulk]⟩
      | slice e =>
        rcases DataW.trod_slice hu h with ⟨rfl, rfl⟩ | ⟨a, len, cap, elems, rest, m, hm, rfl, rfl, _, hlc, hcm, hel, hget, _⟩
        · exact ⟨_, .nilSlice hu, by simp [PV.size, PV.sizes, bulk, Go.Proofs.Ythdonefmfgnilaa.Rows.uptoBulk]⟩
        · replace hm : n = m := by omega
          subst hm
          have hone : ∀ i, i < len → ∃ cs' p, w.cells? 0 (a.add (i * P.cellsOf e)) (P.cellsOf e) = some cs' ∧ Rd P w M e p cs' ∧ ∀ y, elems[i]? = some y → p.size ≤ bulk y.1 := by
            intro i hi
            have := hget i hi
            rw [List.getElem?_eq_getElem (by omega)] at this
            simp only [Option.bind_eq_some_iff] at this
            obtain ⟨cs', h1, h2⟩ := this
            obtain ⟨p, hp, hs⟩ := rd_of_trod hM hT n e cs' _ hk h2
            exact ⟨cs', p, h1, hp, fun y hy => by rw [List.getElem?_eq_getElem (by omega)] at hy; injection hy with hy; subst hy; exact hs⟩
          have hall : ∀ i : Nat, ∃ y : List Value × PV, i < len → w.cells? 0 (a.add (i * P.cellsOf e)) (P.cellsOf e) = some y.1 ∧ Rd P w M e y.2 y.1 ∧ ∀ z, elems[i]? = some z → y.2.size ≤ bulk z.1 := by
            intro i
            by_cases hi : i < len
            · obtain ⟨cs', p, h1, h2⟩ := hone i hi
              exact ⟨(cs', p), fun _ => ⟨h1, h2⟩⟩
            · exact ⟨([], .nil), fun h => absurd h hi⟩
          refine ⟨.list ((List.range len).map fun i => ((hall i).choose).2), .slice (cs := fun i => ((hall i).choose).1) hu (by simp) hlc hcm (fun i hi => ?_) (fun i p hp => ?_), ?_⟩
          · obtain ⟨h1, _⟩ := (hall i).choose_spec hi
            exact At.of_cells hM h1
          · have hi := get_lt hp
            rw [List.length_map, List.length_range] at hi
            rw [List.getElem?_map, List.getElem?_range hi] at hp
            injection hp with hp
            subst hp
            exact ((hall i).choose_spec hi).2.1
          · have := sizes_le ((List.range len).map fun i => ((hall i).choose).2) (elems.map (·.1)) (by simp [hel]) (fun i p d hp hd => by
              have hi := get_lt hp
              rw [List.length_map, List.length_range] at hi
              rw [List.getElem?_map, List.getElem?_range hi] at hp
              injection hp with hp
              subst hp
              rw [List.getElem?_map] at hd
              cases hz : elems[i]? with
              | none => rw [hz] at hd; cases hd
              | some z =>
                rw [hz] at hd
                injection hd with hd
                subst hd
                exact ((hall i).choose_spec hi).2.2 z hz)
            simp only [PV.size, bulk, Go.Proofs.Ythdonefmfgnilaa.Rows.uptoBulk]
            simp only [bulks] at this
            omega
      | pointer e =>
        rcases DataW.trod_pointer hu h with ⟨rfl, rfl⟩ | ⟨a, cs', y, m, hm, rfl, rfl, h1, h2⟩
        · exact ⟨_, .nilPtr hu, by simp [PV.size, bulk, Go.Proofs.Ythdonefmfgnilaa.Rows.uptoBulk]⟩
        · replace hm : n = m := by omega
          subst hm
          obtain ⟨p, hp, hs⟩ := rd_of_trod hM hT n e cs' _ hk h2
          obtain ⟨g1, g2⟩ := At.of_cells hM h1
          exact ⟨_, .ref hu g1 g2 hp, by simp only [PV.size, bulk, Go.Proofs.Ythdonefmfgnilaa.Rows.uptoBulk] at hs ⊢; omega⟩
      | struct fs =>
        obtain ⟨xs, m, hm, rfl, hl, hxs, hget⟩ := DataW.trod_struct hu h
        replace hm : n = m := by omega
        subst hm
        have hall : ∀ i : Nat, ∃ p : PV, ∀ f, fs[i]? = some f → Rd P w M f.type p ((cs.drop f.offset).take (P.cellsOf f.type)) ∧ ∀ y, xs[i]? = some y → p.size ≤ bulk y.1 := by
          intro i
          cases hf : fs[i]? with
          | none => exact ⟨.nil, fun f h => by cases h⟩
          | some f =>
            have hi : i < xs.length := by
              rw [hxs]
              rcases Nat.lt_or_ge i fs.size with h | h
              · exact h
              · rw [Array.getElem?_eq_none h] at hf; cases hf
            have := hget i f hf
            rw [List.getElem?_eq_getElem hi] at this
            obtain ⟨p, hp, hs⟩ := rd_of_trod hM hT n f.type _ _ (List.all_eq_true.1 hk f (by simpa using Array.mem_of_getElem? hf)) this
            exact ⟨p, fun g hg => by injection hg with hg; subst hg; exact ⟨hp, fun y hy => by rw [List.getElem?_eq_getElem hi] at hy; injection hy with hy; subst hy; exact hs⟩⟩
        refine ⟨.agg ((List.range fs.size).map fun i => (hall i).choose), .struct hu hlt (by simp) hl (fun i f p hf hp => ?_), ?_⟩
        · have hi := get_lt hp
          rw [List.length_map, List.length_range] at hi
          rw [List.getElem?_map, List.getElem?_range hi] at hp
          injection hp with hp
          subst hp
          exact ((hall i).choose_spec f hf).1
        · have := sizes_le ((List.range fs.size).map fun i => (hall i).choose) (xs.map (·.1)) (by simp [hxs]) (fun i p d hp hd => by
            have hi := get_lt hp
            rw [List.length_map, List.length_range] at hi
            rw [List.getElem?_map, List.getElem?_range hi] at hp
            injection hp with hp
            subst hp
            rw [List.getElem?_map] at hd
            cases hz : xs[i]? with
            | none => rw [hz] at hd; cases hd
            | some z =>
              rw [hz] at hd
              injection hd with hd
              subst hd
              exact ((hall i).choose_spec _ (Array.getElem?_eq_getElem hi)).2 z hz)
          simp only [PV.size, bulk, Go.Proofs.Ythdonefmfgnilaa.Rows.uptoBulk]
          simp only [bulks] at this
          omega
      | array m e =>
        unfold DataW.trod at h
        rw [hu] at h
        simp only at h
        split at h
        · rename_i hl
          simp only [Option.map_eq_some_iff] at h
          obtain ⟨xs, h1, rfl⟩ := h
          obtain ⟨g1, g2⟩ := X.mapM_some h1
          rw [List.length_range] at g1
          have hall : ∀ i : Nat, ∃ p : PV, i < m → Rd P w M e p ((cs.drop (i * P.cellsOf e)).take (P.cellsOf e)) ∧ ∀ y, xs[i]? = some y → p.size ≤ bulk y.1 := by
            intro i
            by_cases hi : i < m
            · have := g2 i i _ (by rw [List.getElem?_range hi]) (List.getElem?_eq_getElem (by omega : i < xs.length))
              obtain ⟨p, hp, hs⟩ := rd_of_trod hM hT n e _ _ hk this
              exact ⟨p, fun _ => ⟨hp, fun y hy => by rw [List.getElem?_eq_getElem (by omega)] at hy; injection hy with hy; subst hy; exact hs⟩⟩
            · exact ⟨.nil, fun h => absurd h hi⟩
          refine ⟨.agg ((List.range m).map fun i => (hall i).choose), .arr hu hlt (by simp) hl (fun i p hp => ?_), ?_⟩
          · have hi := get_lt hp
            rw [List.length_map, List.length_range] at hi
            rw [List.getElem?_map, List.getElem?_range hi] at hp
            injection hp with hp
            subst hp
            exact ((hall i).choose_spec hi).1
          · have := sizes_le ((List.range m).map fun i => (hall i).choose) (xs.map (·.1)) (by simp [g1]) (fun i p d hp hd => by
              have hi := get_lt hp
              rw [List.length_map, List.length_range] at hi
              rw [List.getElem?_map, List.getElem?_range hi] at hp
              injection hp with hp
              subst hp
              rw [List.getElem?_map] at hd
              cases hz : xs[i]? with
              | none => rw [hz] at hd; cases hd
              | some z =>
                rw [hz] at hd
                injection hd with hd
                subst hd
                exact ((hall i).choose_spec hi).2 z hz)
            simp only [PV.size, bulk, Go.Proofs.Ythdonefmfgnilaa.Rows.uptoBulk]
            simp only [bulks] at this
            omega
        · cases h
      | _ => cases hk

theorem pack_of_wide {t : TypeId} {v : Value} {p : PV} {M : Nat → Prop} {base : Nat} (h : Value.okWide P w .any base t v) (hr : Rd P w M t p v.cells.toList) : Pack P t v v.cells.toList := by
  unfold Value.okWide at h
  unfold Pack
  by_cases ha : isAggT P t = true
  · rw [if_pos ha]
    unfold isAggT at ha
    split at ha
    · rename_i fs hu
      rw [hu] at h
      obtain ⟨cs, rfl, _⟩ := h
      simp [Value.cells]
    · rename_i m e hu
      rw [hu] at h
      obtain ⟨cs, rfl, _⟩ := h
      simp [Value.cells]
    · cases ha
  · have ha' : isAggT P t = false := by simpa using ha
    rw [if_neg ha]
    obtain ⟨u, h1, h2, h3⟩ := hr.len ha'
    rw [h1]
    congr 1
    cases v with
    | agg cs =>
      exfalso
      unfold isAggT at ha'
      obtain ⟨d, hu⟩ := hr.desc
      rw [hu] at h ha'
      cases d with
      | struct _ => cases ha'
      | array _ _ => cases ha'
      | _ => simp only [Cell.okWide, Cell.ok, hu] at h
    | _ => simp only [Value.cells] at h1; injection h1 with h1; exact h1.symm

/-- Data of a law's arguments. -/
def Args (P : Program) (w : World) (ts : List TypeId) (vs : List Value) (ps : List PV) : Prop :=
  vs.length = ts.length ∧ ps.length = ts.length ∧ ∀ (i : Nat) (t : TypeId) (v : Value) (p : PV), ts[i]? = some t → vs[i]? = some v → ps[i]? = some p → ∃ cs, Pack P t v cs ∧ Rd P w (fun _ => False) t p cs

theorem args_of (hT : plainTs P T = true) {base : Nat} : ∀ {ts : List TypeId} {vs : List Value} {ds : List (DataW H)} {qs : List MemPlace}, (∀ t ∈ ts, T.contains t = true) → DataW.TrodAll enc P w 0 spare held ts vs ds qs →
    (∀ (j : Nat) t v, ts[j]? = some t → vs[j]? = some v → Value.okWide P w .any base t v) → ds.length = ts.length ∧ ∃ ps, Args P w ts vs ps ∧ PV.sizes ps ≤ bulks ds
  | [], [], [], _, _, _, _ => ⟨rfl, [], ⟨rfl, rfl, fun i t v p h => by simp at h⟩, by simp [PV.sizes]⟩
  | t :: ts, v :: vs, d :: ds, qs, hts, ⟨p, q, h1, h2, _⟩, hok => by
    obtain ⟨g0, ps, ⟨g1, g2, g3⟩, g4⟩ := args_of hT (fun t ht => hts t (List.mem_cons.2 (.inr ht))) h2 (fun j t v ht hv => hok (j + 1) t v (by simpa using ht) (by simpa using hv))
    obtain ⟨n, hn⟩ := h1
    obtain ⟨x, hx, hs⟩ := rd_of_trod (M := fun _ => False) (fun b h => h) hT n t _ _ (hts t (List.mem_cons.2 (.inl rfl))) hn
    refine ⟨by simp [g0], x :: ps, ⟨by simp [g1], by simp [g2], fun i t' v' p' ht hv hp => ?_⟩, by simp only [PV.sizes, bulks, Go.Proofs.Ythdonefmfgnilaa.Rows.uptoBulkAll]; simp only [bulk, bulks] at hs g4; omega⟩
    cases i with
    | zero =>
      replace ht : t = t' := by simpa using ht
      replace hv : v = v' := by simpa using hv
      replace hp : x = p' := by simpa using hp
      subst ht; subst hv; subst hp
      exact ⟨_, pack_of_wide (hok 0 t v rfl rfl) hx, hx⟩
    | succ i => exact g3 i t' v' p' (by simpa using ht) (by simpa using hv) (by simpa using hp)
  | [], _ :: _, _, _, _, h, _ => h.elim
  | [], [], _ :: _, _, _, h, _ => h.elim
  | _ :: _, [], _, _, _, h, _ => h.elim
  | _ :: _, _ :: _, [], _, _, h, _ => h.elim

theorem stays_all (hl : laidOutB P = true) {w' : World} (hold : ∀ i, i < w.heap.size → w'.heap[i]? = w.heap[i]?) : ∀ {ts : List TypeId} {vs : List Value} {ds : List (DataW H)} {qs : List MemPlace}, (∀ t ∈ ts, P.readableRec t = true ∧ t < P.types.size) →
    (∀ p ∈ qs, p.block < w.heap.size) → DataW.TrodAll enc P w 0 (fun _ => true) true ts vs ds qs → DataW.TrodAll enc P w' 0 (fun b => decide (b < w.heap.size)) true ts vs ds qs
  | [], [], [], _, _, _, h => h
  | t :: ts, v :: vs, d :: ds, _, hts, hlt, ⟨p, q, h1, h2, e⟩ => by
    subst e
    refine ⟨p, q, ?_, stays_all hl hold (fun t ht => hts t (List.mem_cons.2 (.inr ht))) (fun x hx => hlt x (List.mem_append_right _ hx)) h2, rfl⟩
    obtain ⟨g1, g2⟩ := hts t (List.mem_cons.2 (.inl rfl))
    refine WideElems.Trod_stays hl g1 g2 h1 (fun x hx => ?_) (fun x hx => by simpa using hlt x (List.mem_append_left _ hx))
    have hb := hlt x (List.mem_append_left _ hx)
    cases x with
    | cell b o => exact cell_same (hold b hb)
    | map b => exact hold b hb
  | [], _ :: _, _, _, _, _, h => h.elim
  | [], [], _ :: _, _, _, _, h => h.elim
  | _ :: _, [], _, _, _, _, h => h.elim
  | _ :: _, _ :: _, [], _, _, _, h => h.elim

/-- A law that is handed data: it returns what its printed function says. -/
theorem law_calls {f : FuncId} {X Y : Type} {inp : X → List SV × Obs} {out : Y → Out} {c : X → (Y → R) → R} (S : Snd P f inp out c) {x : X} {b : Bool} (h : c x (fun y => some (out y)) = some ([.bool b], [])) {ts : List TypeId} {ps : List PV}
    (hx : inp x = (List.zipWith (ofPV P) ts ps, [])) {vs : List Value} (hA : Args P w ts vs ps) (hG : GlobOk P w (fun _ => False)) :
    Calls P f vs.toArray w (fun e w' => e = .returned (.bool b) ∧ w'.os = w.os ∧ w'.output = w.output ∧ w.heap.size ≤ w'.heap.size ∧ ∀ i, i < w.heap.size → w'.heap[i]? = w.heap[i]?) := by
  obtain ⟨a1, a2, a3⟩ := hA
  have hmut : ∀ b, ¬ Mut (fun _ => False) (fun _ => none) ([] : Obs) b := by
    rintro b (h | ⟨_, _, _, h, _⟩)
    · exact h
    · exact (Obs.no h).elim
  have hsl : ∀ (i : Nat) (s : SV) (v : Value), (List.zipWith (ofPV P) ts ps)[i]? = some s → vs[i]? = some v → RS P w (fun _ => False) (fun _ => none) [] s v := by
    intro i s v hs hv
    rw [List.getElem?_zipWith] at hs
    cases ht : ts[i]? with
    | none => rw [ht] at hs; simp at hs
    | some t =>
      cases hp : ps[i]? with
      | none => rw [ht, hp] at hs; simp at hs
      | some p =>
        rw [ht, hp] at hs
        simp only [Option.some.injEq] at hs
        subst hs
        obtain ⟨cs, h1, h2⟩ := a3 i t v p ht hv hp
        exact RS.ofPV h1 h2
  have hR : Rel P (fun _ => False) (fun _ => none) (inp x).1 (inp x).2 vs w := by
    rw [hx]
    exact ⟨by simp [a1, a2], fun i s v a c => RS.noObs (fun b _ _ => hmut b) (hsl i s v a c), (fun d o h => (Obs.no h).elim), (fun d o d' o' b c c' h => (Obs.no h).elim), (fun d o b c h => (Obs.no h).elim), (fun d o b c h => (Obs.no h).elim), fun b h => h.elim, hG.sub fun b h => (hmut b h).elim⟩
  refine Calls.mono (S.calls x _ h _ _ _ _ hR) fun e w' he => ?_
  obtain ⟨rvs, β', rfl, h1, h2⟩ := he
  have hv : rvs = [.bool b] := by
    have hl := h1.len
    match rvs, hl with
    | [v], _ =>
      have := h1.slot 0 (.bool b) v rfl rfl
      cases this; rfl
  subst hv
  refine ⟨rfl, h2.os, h2.output, h2.size, fun i hi => h2.old i hi ?_⟩
  rw [hx]
  rintro ⟨d, o, c, h, _⟩
  exact (Obs.no h).elim

end
end Go.X
/- The interpreter X, part 44: enough fuel; loops that count up; numbers. -/
namespace Go.X
open Go

/-- From some fuel on. -/
def Ult (p : Nat → Prop) : Prop := ∃ k0, ∀ k, k0 ≤ k → p k
theorem Ult.of {p : Nat → Prop} (h : ∀ k, p k) : Ult p := ⟨0, fun k _ => h k⟩
theorem Ult.mono {p q : Nat → Prop} (h : Ult p) (hpq : ∀ k, p k → q k) : Ult q := h.imp fun _ g k hk => hpq k (g k hk)
theorem Ult.and {p q : Nat → Prop} (h : Ult p) (g : Ult q) : Ult fun k => p k ∧ q k := by
  obtain ⟨a, ha⟩ := h
  obtain ⟨b, hb⟩ := g
  exact ⟨max a b, fun k hk => ⟨ha k (by omega), hb k (by omega)⟩⟩
theorem Ult.ge (n : Nat) : Ult fun k => n ≤ k := ⟨n, fun _ h => h⟩
theorem Ult.succ {p : Nat → Prop} (h : Ult fun k => p (k + 1)) : Ult p := by
  obtain ⟨a, ha⟩ := h
  refine ⟨a + 1, fun k hk => ?_⟩
  obtain ⟨m, rfl⟩ : ∃ m, k = m + 1 := ⟨k - 1, by omega⟩
  exact ha m (by omega)
theorem Ult.forall_mem {α : Type} {p : α → Nat → Prop} : ∀ {l : List α}, (∀ x ∈ l, Ult (p x)) → Ult fun k => ∀ x ∈ l, p x k
  | [], _ => Ult.of fun k x hx => by cases hx
  | a :: l, h => by
    refine ((h a (by simp)).and (Ult.forall_mem (l := l) fun x hx => h x (by simp [hx]))).mono fun k hk x hx => ?_
    rcases List.mem_cons.1 hx with rfl | hx
    · exact hk.1
    · exact hk.2 x hx
theorem Ult.get {p : Nat → Prop} (h : Ult p) : ∃ k, p k := by
  obtain ⟨a, ha⟩ := h
  exact ⟨a, ha a (Nat.le_refl _)⟩

/-- A loop that counts up to N: what it comes to from each place on. -/
theorem loopR_up {body : (Int → R) → Int → R} {res : Nat → R} (N : Nat) (hN : ∀ nx, body nx (N : Int) = res N) (h : ∀ i : Nat, i < N → ∀ nx, nx ((i + 1 : Nat) : Int) = res (i + 1) → body nx (i : Int) = res i) :
    ∀ (n i : Nat), i ≤ N → N < n + i → loopR body n (i : Int) = res i
  | 0, i, h1, h2 => by omega
  | n + 1, i, h1, h2 => by
    unfold loopR
    rw [Frc.ok]
    by_cases hi : i = N
    · subst hi; exact hN _
    · exact h i (by omega) _ (loopR_up N hN h n (i + 1) (by omega) (by omega))
/-- The like with more that is carried. -/
theorem loopR_upE {S A : Type} [Frc S] {body : (S → R) → S → R} (st : Nat → A → S) {res : Nat → A → R} (N : Nat) (hN : ∀ nx a, body nx (st N a) = res N a)
    (h : ∀ i : Nat, i < N → ∀ nx a, (∀ a, nx (st (i + 1) a) = res (i + 1) a) → body nx (st i a) = res i a) :
    ∀ (n i : Nat) (a : A), i ≤ N → N < n + i → loopR body n (st i a) = res i a
  | 0, i, a, h1, h2 => by omega
  | n + 1, i, a, h1, h2 => by
    unfold loopR
    rw [Frc.ok]
    by_cases hi : i = N
    · subst hi; exact hN _ _
    · exact h i (by omega) _ a fun a => loopR_upE st N hN h n (i + 1) a (by omega) (by omega)

theorem wrap_i64 {n : Int} (h1 : -9223372036854775808 ≤ n) (h2 : n < 9223372036854775808) : IntKind.wrap .i64 n = n := by
  simp only [IntKind.wrap, IntKind.signed, IntKind.bits, Bool.true_and]
  split <;> rename_i h <;> simp at h <;> omega
theorem wf_i64 {n : Int} (h : (Lit.int .i64 n).wf = true) : -9223372036854775808 ≤ n ∧ n < 9223372036854775808 := by
  simp [Lit.wf, IntKind.min, IntKind.max, IntKind.signed, IntKind.bits] at h
  omega
theorem wf_u8 {n : Int} (h : (Lit.int .u8 n).wf = true) : 0 ≤ n ∧ n < 256 := by
  simp [Lit.wf, IntKind.min, IntKind.max, IntKind.signed, IntKind.bits] at h
  omega
theorem roomy_of {n b : Nat} (h1 : n * b ≤ 35184372088832) (h2 : n ≤ 35184372088832) : roomy n b = true := by simp [roomy, h1, h2]

end Go.X
/- The interpreter X, part 45: functions of the library without a body: comparisons. -/
namespace Go.X
open Go

/-- The order of texts, byte by byte. -/
def lexC : List Int → List Int → Int
  | [], [] => 0
  | [], _ :: _ => -1
  | _ :: _, [] => 1
  | a :: x, b :: y => if a < b then -1 else if b < a then 1 else lexC x y

theorem lexC_bytes : ∀ a b : List UInt8, Lib.compareBytes a b = lexC (a.map fun x => (x.toNat : Int)) (b.map fun x => (x.toNat : Int))
  | [], [] => rfl
  | [], _ :: _ => rfl
  | _ :: _, [] => rfl
  | x :: a, y :: b => by
    have ih := lexC_bytes a b
    unfold Lib.compareBytes
    simp only [List.map_cons, lexC]
    have h1 : (x < y) ↔ ((x.toNat : Int) < (y.toNat : Int)) := by rw [UInt8.lt_iff_toNat_lt]; omega
    have h2 : (y < x) ↔ ((y.toNat : Int) < (x.toNat : Int)) := by rw [UInt8.lt_iff_toNat_lt]; omega
    simp only [h1, h2, ih]
theorem cmp_chars (a b : ByteArray) : Extern.BytealgCompare.cmp a b = lexC (chars a) (chars b) := by
  rw [Lib.cmp_eq, lexC_bytes]; rfl

theorem run_loadBytesE {P : Program} (w : World) : ∀ (ns : List Int) (a : Addr) (acc : ByteArray), (∀ j x, ns[j]? = some x → w.cell? (a.add j) = some (.int .u8 x)) →
    (Extern.Bytes.loadBytes a ns.length acc).run P w = .ok (ns.foldl (fun r n => r.push (UInt8.ofNat n.toNat)) acc) w
  | [], a, acc, _ => by simp [Extern.Bytes.loadBytes]
  | x :: l, a, acc, h => by
    have h0 : w.cell? a = some (.int .u8 x) := by
      have := h 0 x rfl
      simpa [Addr.add] using this
    have ih := run_loadBytesE (P := P) w l (a.add 1) (acc.push x.toNat.toUInt8) (fun j y hy => by
      have := h (j + 1) y (by simpa using hy)
      have e : (a.add 1).add j = a.add (j + 1) := by
        unfold Addr.add
        by_cases hj : j = 0
        · subst hj; simp
        · simp [hj]; omega
      rw [e]; exact this)
    simp only [List.length_cons, Extern.Bytes.loadBytes, Sem.run_bind, run_load, h0, Result.andThen]
    rw [ih]
    rfl

/-- Bytes, as such a function reads them. -/
theorem bytesOf_run {P : Program} {Mo : Nat → Prop} {β : Beta} {T : List SV} {B : Obs} {vs : List Value} {w : World} (hR : Rel P Mo β T B vs w) {e : TypeId} {s : SV} {v : Value} {l : List PV} (hs : RS P w (Mut Mo β B) β B s v)
    (h : ({ T, B } : St).elems P e s = some l) (he : P.underlying e = some (.int .u8)) (hce : P.cellsOf e = 1) :
    ∃ b : ByteArray, (Extern.Bytes.bytesOf v).run P w = .ok b w ∧ chars b = l.map PV.num := by
  have hR' : Rel P Mo β ({ T, B } : St).T ({ T, B } : St).B ({ tmps := vs.toArray, defers := [] } : Act).tmps.toList w := hR
  rcases elems_sound hR' hs h with ⟨rfl, rfl⟩ | ⟨ad, c, cs, rfl, hlc, hcm, hcell, hrd⟩
  · exact ⟨ByteArray.empty, rfl, rfl⟩
  · have hb : ∀ i (p : PV), l[i]? = some p → ∃ n, p = .int n ∧ cs i = [.int .u8 n] ∧ 0 ≤ n ∧ n < 256 := fun i p hp => byte_cell he (hrd i p hp)
    obtain ⟨ns, n1, n2, n3⟩ := pvnum_list (l := l) (fun p hp => by
      obtain ⟨i, hi⟩ := List.getElem?_of_mem hp
      obtain ⟨n, h1, _, h2⟩ := hb i p hi
      exact ⟨n, h1, h2⟩)
    have hlen : l.length = ns.length := by rw [n1, List.length_map]
    refine ⟨ns.foldl (fun r n => r.push (UInt8.ofNat n.toNat)) ByteArray.empty, ?_, ?_⟩
    · unfold Extern.Bytes.bytesOf
      rw [hlen]
      exact run_loadBytesE w ns ad .empty fun j x hj => by
        have hlj : l[j]? = some (.int x) := by rw [n1, List.getElem?_map, hj]; rfl
        obtain ⟨m', k1, k2, _⟩ := hb j _ hlj
        injection k1 with k1; subst k1
        have := (hcell j (get_lt hlj)).2 0 (.int .u8 x) (by rw [k2]; rfl)
        rw [add_add, hce, Nat.mul_one, Nat.add_zero] at this
        exact this
    · rw [push_chars ns _ n3, n2]; rfl

theorem Kp.start {P : Program} {Mo : Nat → Prop} {β : Beta} {args : List SV} {B0 : Obs} {vs : List Value} {w : World} (h : Rel P Mo β args B0 vs w) : Kp w (footOf β B0) β B0 w := by
  obtain ⟨_, β', h1, h2⟩ := start_inv h 0
  refine ⟨Nat.le_refl _, fun _ _ _ => rfl, fun b hb => .inl hb, rfl, rfl, fun k t b o hk ho => ?_, fun k hk => h2.low k hk, fun i x hx => hx⟩
  unfold footOf at hk
  simp only at hk
  split at hk
  · cases hk
  · rw [ho] at hk
    cases o with
    | row _ _ => cases hk
    | map _ _ => cases hk
    | hp _ => cases hk
    | hvar _ _ => cases hk
    | hrow _ _ => cases hk
    | box t' s =>
      cases hb : β k with
      | none => rw [hb] at hk; cases hk
      | some b' =>
        rw [hb] at hk
        simp only [Option.some.injEq, Prod.mk.injEq] at hk
        obtain ⟨rfl, rfl⟩ := hk
        exact ⟨⟨s, rfl⟩, rfl⟩

/-- A function without a body that returns one scalar and changes nothing. -/
theorem callOk_ext {P : Program} {f : FuncId} {fn : Func} {e : Array Value → Sem Value} (hf : P.funcs[f]? = some fn) (hname : (fn.name == "runtime.NumGoroutine") = false) (hb : fn.body.isNone = true) (hn : Extern.findNext fn = none) (he : Extern.find fn = some e)
    {args : List SV} {s : SV} (h : ∀ (Mo : Nat → Prop) (β : Beta) (vs : List Value) (w : World), Rel P Mo β args [] vs w → ∃ v, (e vs.toArray).run P w = .ok v w ∧ ∀ M β' B', RS P w M β' B' s v) : CallOk P f args [] ([s], []) := by
  intro Mo β vs w hR o a next Q hn2
  obtain ⟨v, h1, h2⟩ := h Mo β vs w hR
  rw [run_callFunc_extern hf hname hb hn he, h1]
  simp only [Result.andThen]
  rw [Oper.upon_value]
  refine hn2 [v] w β ⟨rfl, fun i s' v' hi hv => ?_, hR.ob, hR.inj, hR.lt, hR.out, hR.mo, hR.gl⟩ (Kp.start hR)
  match i, hi, hv with
  | 0, hi, hv => injection hi with hi; injection hv with hv; subst hi; subst hv; exact h2 _ _ _

theorem lexC_val : ∀ a b, lexC a b = -1 ∨ lexC a b = 0 ∨ lexC a b = 1
  | [], [] => by simp [lexC]
  | [], _ :: _ => by simp [lexC]
  | _ :: _, [] => by simp [lexC]
  | a :: x, b :: y => by unfold lexC; split; · simp
                         split; · simp
                         exact lexC_val x y
theorem lexC_wf (a b : List Int) : (Lit.int .i64 (lexC a b)).wf = true := by
  rcases lexC_val a b with h | h | h <;> rw [h] <;> decide

theorem cmp_bytes_o {P : Program} {f : FuncId} {fn : Func} (hf : P.funcs[f]? = some fn) (hname : (fn.name == "runtime.NumGoroutine") = false) (hb : fn.body.isNone = true) (hn : Extern.findNext fn = none) (he : Extern.find fn = some Extern.BytealgCompare.compare)
    {t e : TypeId} (ht : P.underlying t = some (.slice e)) (hu : P.underlying e = some (.int .u8)) (hce : P.cellsOf e = 1) :
    SndO P f (fun x : PV × PV => ([.val t x.1, .val t x.2], [])) (fun y : Int => ([.int .i64 y], [])) (fun x ret => ret (lexC (x.1.els.map PV.num) (x.2.els.map PV.num))) := by
  refine ⟨fun x r h => ?_, fun x K => rfl⟩
  injection h with h; subst h
  refine callOk_ext hf hname hb hn he fun Mo β vs w hR => ?_
  match vs, hR.len with
  | [v1, v2], _ =>
    have hel : ∀ p : PV, ({ T := [.val t x.1, .val t x.2], B := [] } : St).elems P e (.val t p) = some p.els := fun p => by
      simp only [St.elems, ht, beq_self_eq_true, cond_true]
    obtain ⟨b1, h1, c1⟩ := bytesOf_run hR (hR.slot 0 _ v1 rfl rfl) (hel x.1) hu hce
    obtain ⟨b2, h2, c2⟩ := bytesOf_run hR (hR.slot 1 _ v2 rfl rfl) (hel x.2) hu hce
    refine ⟨.int .i64 (lexC (x.1.els.map PV.num) (x.2.els.map PV.num)), ?_, fun _ _ _ => .int (lexC_wf _ _)⟩
    show ((do pure (goInt (Extern.BytealgCompare.cmp (← Extern.Bytes.bytesOf v1) (← Extern.Bytes.bytesOf v2)))) : Sem Value).run P w = _
    simp only [Sem.run_bind, h1, h2, Result.andThen, Sem.run_pure, cmp_chars, c1, c2]
    rfl

theorem cmp_str_o {P : Program} {f : FuncId} {fn : Func} (hf : P.funcs[f]? = some fn) (hname : (fn.name == "runtime.NumGoroutine") = false) (hb : fn.body.isNone = true) (hn : Extern.findNext fn = none) (he : Extern.find fn = some Extern.BytealgCompare.compare) :
    SndO P f (fun x : List Int × List Int => ([.str x.1, .str x.2], [])) (fun y : Int => ([.int .i64 y], [])) (fun x ret => ret (lexC x.1 x.2)) := by
  refine ⟨fun x r h => ?_, fun x K => rfl⟩
  injection h with h; subst h
  refine callOk_ext hf hname hb hn he fun Mo β vs w hR => ?_
  match vs, hR.len with
  | [v1, v2], _ =>
    have h1 := hR.slot 0 _ v1 rfl rfl
    have h2 := hR.slot 1 _ v2 rfl rfl
    obtain ⟨x1, x2⟩ := x
    simp only at h1 h2
    generalize hs1 : SV.str x1 = s1 at h1
    generalize hs2 : SV.str x2 = s2 at h2
    cases h1 with
    | @str a ha =>
      cases h2 with
      | @str b hb =>
        injection hs1 with e1; injection hs2 with e2
        subst e1; subst e2
        refine ⟨.int .i64 (lexC (chars a) (chars b)), ?_, fun _ _ _ => .int (lexC_wf _ _)⟩
        show ((do pure (goInt (Extern.BytealgCompare.cmp (← Extern.Bytes.bytesOf (.string a)) (← Extern.Bytes.bytesOf (.string b))))) : Sem Value).run P w = _
        simp only [Extern.Bytes.bytesOf, Sem.run_bind, Sem.run_pure, Result.andThen, cmp_chars]
        rfl
      | _ => cases hs2
    | _ => cases hs1

end Go.X
