/- The interpreter X, part 9: places of variables; data as slots hold it. -/
import Derived.Test.YtbmhbnkejgjfdaaX8
namespace Go.X
open Go

def splice (cs : List Value) (o : Nat) (xs : List Value) : List Value := cs.take o ++ (xs ++ cs.drop (o + xs.length))
def sub (cs : List Value) (a n : Nat) : List Value := (cs.drop a).take n

theorem splice_get {cs xs : List Value} {o : Nat} (h : o + xs.length ≤ cs.length) (j : Nat) :
    (splice cs o xs)[j]? = if j < o then cs[j]? else if j < o + xs.length then xs[j - o]? else cs[j]? := by
  unfold splice
  have hl : (cs.take o).length = o := by rw [List.length_take]; omega
  by_cases h1 : j < o
  · rw [if_pos h1, List.getElem?_append_left (by omega), List.getElem?_take_of_lt h1]
  · rw [if_neg h1, List.getElem?_append_right (by omega), hl]
    by_cases h2 : j < o + xs.length
    · rw [if_pos h2, List.getElem?_append_left (by omega)]
    · rw [if_neg h2, List.getElem?_append_right (by omega), List.getElem?_drop]
      congr 1; omega
theorem splice_len {cs xs : List Value} {o : Nat} (h : o + xs.length ≤ cs.length) : (splice cs o xs).length = cs.length := by
  unfold splice; simp only [List.length_append, List.length_take, List.length_drop]; omega
theorem sub_get {cs : List Value} {a n : Nat} (j : Nat) : (sub cs a n)[j]? = if j < n then cs[a + j]? else none := by
  unfold sub
  by_cases h : j < n
  · rw [if_pos h, List.getElem?_take_of_lt h, List.getElem?_drop]
  · rw [if_neg h, List.getElem?_eq_none]; rw [List.length_take]; omega
theorem sub_len {cs : List Value} {a n : Nat} (h : a + n ≤ cs.length) : (sub cs a n).length = n := by
  unfold sub; rw [List.length_take, List.length_drop]; omega
theorem sub_all {cs : List Value} {n : Nat} (h : cs.length = n) : sub cs 0 n = cs := by
  unfold sub; rw [List.drop_zero, List.take_of_length_le (by omega)]
theorem sub_sub {cs : List Value} {a n b m : Nat} (h : b + m ≤ n) : sub (sub cs a n) b m = sub cs (a + b) m := by
  apply List.ext_getElem?
  intro j
  rw [sub_get, sub_get, sub_get]
  by_cases h1 : j < m
  · rw [if_pos h1, if_pos (by omega), if_pos h1]; congr 1; omega
  · rw [if_neg h1, if_neg h1]
theorem sub_splice_out {cs xs : List Value} {o a n : Nat} (h : o + xs.length ≤ cs.length) (hn : a + n ≤ o ∨ o + xs.length ≤ a) : sub (splice cs o xs) a n = sub cs a n := by
  apply List.ext_getElem?
  intro j
  rw [sub_get, sub_get]
  by_cases h1 : j < n
  · rw [if_pos h1, if_pos h1, splice_get h]
    rcases hn with h2 | h2
    · rw [if_pos (by omega)]
    · rw [if_neg (by omega), if_neg (by omega)]
  · rw [if_neg h1, if_neg h1]
theorem sub_splice_in {cs xs : List Value} {o a n : Nat} (h : a + n ≤ cs.length) (hn : o + xs.length ≤ n) : sub (splice cs (a + o) xs) a n = splice (sub cs a n) o xs := by
  apply List.ext_getElem?
  intro j
  rw [splice_get (by rw [sub_len h]; exact hn), sub_get, sub_get, splice_get (by omega)]
  by_cases h1 : j < n
  · rw [if_pos h1, if_pos h1]
    by_cases h2 : j < o
    · rw [if_pos h2, if_pos (by omega)]
    · rw [if_neg h2, if_neg (by omega)]
      by_cases h3 : j < o + xs.length
      · rw [if_pos h3, if_pos (by omega)]; congr 1; omega
      · rw [if_neg h3, if_neg (by omega)]
  · rw [if_neg h1, if_neg h1, if_neg (by omega), if_neg (by omega)]
theorem splice_all {cs xs : List Value} (h : xs.length = cs.length) : splice cs 0 xs = xs := by
  unfold splice; rw [List.take_zero, List.nil_append, List.drop_of_length_le (by omega), List.append_nil]
theorem mem_splice {cs xs : List Value} {o : Nat} {c : Value} (h : c ∈ splice cs o xs) : c ∈ cs ∨ c ∈ xs := by
  unfold splice at h
  rcases List.mem_append.1 h with h | h
  · exact .inl (List.mem_of_mem_take h)
  · rcases List.mem_append.1 h with h | h
    · exact .inr h
    · exact .inl (List.mem_of_mem_drop h)

section
variable {P : Program}

theorem cells1 (hL : laidOutB P = true) {t : TypeId} (ht : t < P.types.size) (hk : kindOk (P.underlying t) = true) (ha : isAggT P t = false) : P.cellsOf t = 1 := by
  have h := rowFine_of hL ht
  unfold rowFine at h
  have hv : isVar P t = true := by simp [isVar, ht, hk]
  simp only [hv, Bool.not_true, Bool.false_or] at h
  unfold isAggT at ha
  split at h <;> rename_i hu <;> try (rw [hu] at ha; cases ha)
  · simp only [Bool.and_eq_true, beq_iff_eq] at h; exact h.2
  · simp only [Bool.and_eq_true, beq_iff_eq] at h; exact h.2
  · simpa using h

theorem Rd.size (hL : laidOutB P = true) {w : World} {M : Nat → Prop} {t : TypeId} {p : PV} {cs : List Value} (ht : t < P.types.size) (hr : Rd P w M t p cs) : cs.length = P.cellsOf t := by
  cases hr with
  | struct _ _ _ h => exact h
  | arr _ _ _ h => exact h
  | int h => rw [cells1 hL ht (by rw [h]; rfl) (by simp [isAggT, h])]; rfl
  | bool h => rw [cells1 hL ht (by rw [h]; rfl) (by simp [isAggT, h])]; rfl
  | str h => rw [cells1 hL ht (by rw [h]; rfl) (by simp [isAggT, h])]; rfl
  | flt h => rw [cells1 hL ht (by rw [h]; rfl) (by simp [isAggT, h])]; rfl
  | nilSlice h => rw [cells1 hL ht (by rw [h]; rfl) (by simp [isAggT, h])]; rfl
  | slice h => rw [cells1 hL ht (by rw [h]; rfl) (by simp [isAggT, h])]; rfl
  | nilPtr h => rw [cells1 hL ht (by rw [h]; rfl) (by simp [isAggT, h])]; rfl
  | ref h => rw [cells1 hL ht (by rw [h]; rfl) (by simp [isAggT, h])]; rfl
  | nilIface h => rw [cells1 hL ht (by rw [h]; rfl) (by simp [isAggT, h])]; rfl

theorem getD_of {α : Type} {l : List α} {i : Nat} {d x : α} (h : l[i]? = some x) : l.getD i d = x := by
  rw [List.getD_eq_getElem?_getD, h]; rfl

/-- Reading a place of data. -/
theorem Rd.get (hL : laidOutB P = true) {w : World} {M : Nat → Prop} : ∀ (q : List Stp) {t t' : TypeId} {p : PV} {cs : List Value} {off : Nat}, t < P.types.size → Rd P w M t p cs →
    typT P t q = some t' → offT P t q = some off → t' < P.types.size ∧ off + P.cellsOf t' ≤ P.cellsOf t ∧ Rd P w M t' (p.get q) (sub cs off (P.cellsOf t')) := by
  intro q
  induction q with
  | nil =>
    intro t t' p cs off ht hr h1 h2
    injection h1 with h1; injection h2 with h2; subst h1; subst h2
    exact ⟨ht, by omega, by rw [sub_all (hr.size hL ht)]; exact hr⟩
  | cons s q ih =>
    intro t t' p cs off ht hr h1 h2
    cases s with
    | fld i =>
      simp only [typT] at h1
      simp only [offT] at h2
      cases hr with
      | @struct _ fs l _ hu ht' hl hc hf =>
        rw [hu] at h1 h2
        simp only at h1 h2
        cases hfi : fs[i]? with
        | none => rw [hfi] at h1; cases h1
        | some f =>
          rw [hfi] at h1 h2
          simp only [Option.bind_some] at h1 h2
          by_cases h0 : P.cellsOf f.type = 0
          · rw [if_pos h0] at h2; cases h2
          · rw [if_neg h0] at h2
            cases ho : offT P f.type q with
            | none => rw [ho] at h2; cases h2
            | some o =>
              rw [ho] at h2
              replace h2 : f.offset + o = off := by injection h2
              subst h2
              have hli : i < l.length := by
                rw [hl]
                rcases Nat.lt_or_ge i fs.size with h | h
                · exact h
                · rw [Array.getElem?_eq_none h] at hfi; cases hfi
              have lay := layS hL ht hu
              have hft : f.type < P.types.size := lay.1 f (by have : fs.toList[i]? = some f := by simpa using hfi
                                                              exact List.mem_of_getElem? this)
              have hw := lay.within hfi
              obtain ⟨g1, g2, g3⟩ := ih hft (hf i f l[i] hfi (List.getElem?_eq_getElem hli)) h1 ho
              refine ⟨g1, by omega, ?_⟩
              change Rd P w M t' _ (sub (sub cs f.offset (P.cellsOf f.type)) o (P.cellsOf t')) at g3
              rw [sub_sub g2] at g3
              have : (PV.agg l).get (.fld i :: q) = l[i].get q := by
                simp only [PV.get, PV.fld, PV.flds]
                rw [getD_of (List.getElem?_eq_getElem hli)]
              rw [this]; exact g3
      | int hu => rw [hu] at h1; cases h1
      | bool hu => rw [hu] at h1; cases h1
      | str hu => rw [hu] at h1; cases h1
      | flt hu => rw [hu] at h1; cases h1
      | nilSlice hu => rw [hu] at h1; cases h1
      | slice hu => rw [hu] at h1; cases h1
      | nilPtr hu => rw [hu] at h1; cases h1
      | ref hu => rw [hu] at h1; cases h1
      | nilIface hu => rw [hu] at h1; cases h1
      | arr hu => rw [hu] at h1; cases h1
    | idx i =>
      simp only [typT] at h1
      simp only [offT] at h2
      cases hr with
      | @arr _ n e l _ hu ht' hl hc hf =>
        rw [hu] at h1 h2
        simp only at h1 h2
        by_cases hi : 0 ≤ i ∧ i < n
        · rw [if_pos hi] at h2
          cases ho : offT P e q with
          | none => rw [ho] at h2; cases h2
          | some o =>
            rw [ho] at h2
            replace h2 : i.toNat * P.cellsOf e + o = off := by injection h2
            subst h2
            have hli : i.toNat < l.length := by omega
            obtain ⟨he, hce⟩ := layA hL ht hu
            obtain ⟨g1, g2, g3⟩ := ih he (hf i.toNat l[i.toNat] (List.getElem?_eq_getElem hli)) h1 ho
            have hw : i.toNat * P.cellsOf e + P.cellsOf e ≤ P.cellsOf t := by
              rw [hce, ← Nat.succ_mul]; exact Nat.mul_le_mul_right _ (by omega)
            refine ⟨g1, by omega, ?_⟩
            change Rd P w M t' _ (sub (sub cs (i.toNat * P.cellsOf e) (P.cellsOf e)) o (P.cellsOf t')) at g3
            rw [sub_sub g2] at g3
            have : (PV.agg l).get (.idx i :: q) = l[i.toNat].get q := by
              simp only [PV.get, PV.fld, PV.flds]
              rw [getD_of (List.getElem?_eq_getElem hli)]
            rw [this]; exact g3
        · rw [if_neg hi] at h2; cases h2
      | int hu => rw [hu] at h1; cases h1
      | bool hu => rw [hu] at h1; cases h1
      | str hu => rw [hu] at h1; cases h1
      | flt hu => rw [hu] at h1; cases h1
      | nilSlice hu => rw [hu] at h1; cases h1
      | slice hu => rw [hu] at h1; cases h1
      | nilPtr hu => rw [hu] at h1; cases h1
      | ref hu => rw [hu] at h1; cases h1
      | nilIface hu => rw [hu] at h1; cases h1
      | struct hu => rw [hu] at h1; cases h1
    | el i => simp only [typT] at h1; cases h1

/-- Writing a place of data. -/
theorem Rd.put (hL : laidOutB P = true) {w : World} {M : Nat → Prop} : ∀ (q : List Stp) {t t' : TypeId} {p x : PV} {cs xs : List Value} {off : Nat}, t < P.types.size → Rd P w M t p cs →
    typT P t q = some t' → offT P t q = some off → Rd P w M t' x xs → Rd P w M t (p.put q x) (splice cs off xs) := by
  intro q
  induction q with
  | nil =>
    intro t t' p x cs xs off ht hr h1 h2 hx
    injection h1 with h1; injection h2 with h2; subst h1; subst h2
    rw [splice_all (by rw [hr.size hL ht, hx.size hL ht])]
    exact hx
  | cons s q ih =>
    intro t t' p x cs xs off ht hr h1 h2 hx
    obtain ⟨b1, b2, _⟩ := Rd.get hL (s :: q) ht hr h1 h2
    have hxs := hx.size hL b1
    have hcs := hr.size hL ht
    cases s with
    | fld i =>
      simp only [typT] at h1
      simp only [offT] at h2
      cases hr with
      | @struct _ fs l _ hu ht' hl hc hf =>
        rw [hu] at h1 h2
        simp only at h1 h2
        cases hfi : fs[i]? with
        | none => rw [hfi] at h1; cases h1
        | some f =>
          rw [hfi] at h1 h2
          simp only [Option.bind_some] at h1 h2
          by_cases h0 : P.cellsOf f.type = 0
          · rw [if_pos h0] at h2; cases h2
          · rw [if_neg h0] at h2
            cases ho : offT P f.type q with
            | none => rw [ho] at h2; cases h2
            | some o =>
              rw [ho] at h2
              replace h2 : f.offset + o = off := by injection h2
              subst h2
              have hli : i < l.length := by
                rw [hl]
                rcases Nat.lt_or_ge i fs.size with h | h
                · exact h
                · rw [Array.getElem?_eq_none h] at hfi; cases hfi
              have lay := layS hL ht hu
              have hft : f.type < P.types.size := lay.1 f (by have : fs.toList[i]? = some f := by simpa using hfi
                                                              exact List.mem_of_getElem? this)
              have hw := lay.within hfi
              have hfr := hf i f l[i] hfi (List.getElem?_eq_getElem hli)
              obtain ⟨g1, g2, _⟩ := Rd.get hL q hft hfr h1 ho
              have hput : (PV.agg l).put (.fld i :: q) x = .agg (l.set i (l[i].put q x)) := by
                simp only [PV.put, PV.flds, PV.fld]
                rw [getD_of (List.getElem?_eq_getElem hli)]
              rw [hput]
              refine .struct hu ht' (by simpa using hl) (by rw [splice_len (by omega)]; exact hc) (fun j g y hg hy => ?_)
              rw [List.getElem?_set] at hy
              by_cases hij : i = j
              · subst hij
                rw [if_pos rfl, if_pos hli] at hy
                injection hy with hy
                subst hy
                rw [hfi] at hg; injection hg with hg; subst hg
                change Rd P w M f.type _ (sub (splice cs (f.offset + o) xs) f.offset (P.cellsOf f.type))
                rw [sub_splice_in (by omega) (by omega)]
                exact ih hft hfr h1 ho hx
              · rw [if_neg hij] at hy
                have hgr := hf j g y hg hy
                have hap : g.offset + P.cellsOf g.type ≤ f.offset ∨ f.offset + P.cellsOf f.type ≤ g.offset := by
                  rcases Nat.lt_or_gt_of_ne hij with h | h
                  · exact .inr (lay.apart hfi hg h)
                  · exact .inl (lay.apart hg hfi h)
                change Rd P w M g.type y (sub (splice cs (f.offset + o) xs) g.offset (P.cellsOf g.type))
                rw [sub_splice_out (by omega) (by omega)]
                exact hgr
      | int hu => rw [hu] at h1; cases h1
      | bool hu => rw [hu] at h1; cases h1
      | str hu => rw [hu] at h1; cases h1
      | flt hu => rw [hu] at h1; cases h1
      | nilSlice hu => rw [hu] at h1; cases h1
      | slice hu => rw [hu] at h1; cases h1
      | nilPtr hu => rw [hu] at h1; cases h1
      | ref hu => rw [hu] at h1; cases h1
      | nilIface hu => rw [hu] at h1; cases h1
      | arr hu => rw [hu] at h1; cases h1
    | idx i =>
      simp only [typT] at h1
      simp only [offT] at h2
      cases hr with
      | @arr _ n e l _ hu ht' hl hc hf =>
        rw [hu] at h1 h2
        simp only at h1 h2
        by_cases hi : 0 ≤ i ∧ i < n
        · rw [if_pos hi] at h2
          cases ho : offT P e q with
          | none => rw [ho] at h2; cases h2
          | some o =>
            rw [ho] at h2
            replace h2 : i.toNat * P.cellsOf e + o = off := by injection h2
            subst h2
            have hli : i.toNat < l.length := by omega
            obtain ⟨he, hce⟩ := layA hL ht hu
            have hfr := hf i.toNat l[i.toNat] (List.getElem?_eq_getElem hli)
            obtain ⟨g1, g2, _⟩ := Rd.get hL q he hfr h1 ho
            have hw : i.toNat * P.cellsOf e + P.cellsOf e ≤ P.cellsOf t := by
              rw [hce, ← Nat.succ_mul]; exact Nat.mul_le_mul_right _ (by omega)
            have hput : (PV.agg l).put (.idx i :: q) x = .agg (l.set i.toNat (l[i.toNat].put q x)) := by
              simp only [PV.put, PV.flds, PV.fld]
              rw [getD_of (List.getElem?_eq_getElem hli)]
            rw [hput]
            refine .arr hu ht' (by simpa using hl) (by rw [splice_len (by omega)]; exact hc) (fun j y hy => ?_)
            rw [List.getElem?_set] at hy
            by_cases hij : i.toNat = j
            · rw [if_pos hij, if_pos hli] at hy
              injection hy with hy
              subst hy
              rw [← hij]
              change Rd P w M e _ (sub (splice cs (i.toNat * P.cellsOf e + o) xs) (i.toNat * P.cellsOf e) (P.cellsOf e))
              rw [sub_splice_in (by omega) (by omega)]
              exact ih he hfr h1 ho hx
            · rw [if_neg hij] at hy
              have hgr := hf j y hy
              have hap : j * P.cellsOf e + P.cellsOf e ≤ i.toNat * P.cellsOf e ∨ i.toNat * P.cellsOf e + P.cellsOf e ≤ j * P.cellsOf e := by
                rw [← Nat.succ_mul, ← Nat.succ_mul]
                rcases Nat.lt_or_gt_of_ne hij with h | h
                · exact .inr (Nat.mul_le_mul_right _ h)
                · exact .inl (Nat.mul_le_mul_right _ h)
              change Rd P w M e y (sub (splice cs (i.toNat * P.cellsOf e + o) xs) (j * P.cellsOf e) (P.cellsOf e))
              rw [sub_splice_out (by omega) (by omega)]
              exact hgr
        · rw [if_neg hi] at h2; cases h2
      | int hu => rw [hu] at h1; cases h1
      | bool hu => rw [hu] at h1; cases h1
      | str hu => rw [hu] at h1; cases h1
      | flt hu => rw [hu] at h1; cases h1
      | nilSlice hu => rw [hu] at h1; cases h1
      | slice hu => rw [hu] at h1; cases h1
      | nilPtr hu => rw [hu] at h1; cases h1
      | ref hu => rw [hu] at h1; cases h1
      | nilIface hu => rw [hu] at h1; cases h1
      | struct hu => rw [hu] at h1; cases h1
    | el i => simp only [typT] at h1; cases h1

/-- Data, as a slot holds it. -/
theorem RS.ofPV {w : World} {M : Nat → Prop} {β : Beta} {B : Obs} {t : TypeId} {p : PV} {v : Value} {cs : List Value} (hp : Pack P t v cs) (hr : Rd P w M t p cs) : RS P w M β B (ofPV P t p) v := by
  unfold X.ofPV
  cases hr with
  | int hu h => rw [hu]; simp [Pack, isAggT, hu] at hp; subst hp; exact .int h
  | bool hu => rw [hu]; simp [Pack, isAggT, hu] at hp; subst hp; exact .bool
  | str hu h => rw [hu]; simp [Pack, isAggT, hu] at hp; subst hp; exact .str h
  | flt hu h => rw [hu]; simp [Pack, isAggT, hu] at hp; subst hp; exact .flt h
  | nilSlice hu => rw [hu]; exact .val hp (.nilSlice hu)
  | slice hu a b c d e => rw [hu]; exact .val hp (.slice hu a b c d e)
  | nilPtr hu => rw [hu]; exact .val hp (.nilPtr hu)
  | ref hu a b c => rw [hu]; exact .val hp (.ref hu a b c)
  | nilIface hu => rw [hu]; exact .val hp (.nilIface hu)
  | struct hu a b c d => rw [hu]; exact .val hp (.struct hu a b c d)
  | arr hu a b c d => rw [hu]; exact .val hp (.arr hu a b c d)

theorem alike_spec {u t : TypeId} (h : alike P u t = true) :
    (∃ n e, P.underlying u = some (.array n e) ∧ P.underlying t = some (.array n e) ∧ t < P.types.size ∧ P.cellsOf u = P.cellsOf t) ∨ (∃ e, P.underlying u = some (.slice e) ∧ P.underlying t = some (.slice e)) := by
  unfold alike at h
  split at h
  · rename_i n e m f h1 h2
    simp only [Bool.and_eq_true, decide_eq_true_eq, beq_iff_eq] at h
    obtain ⟨⟨⟨a, b⟩, c⟩, d⟩ := h
    subst a; subst b
    exact .inl ⟨n, e, h1, h2, c, d⟩
  · rename_i e f h1 h2
    simp only [beq_iff_eq] at h
    subst h
    exact .inr ⟨e, h1, h2⟩
  · cases h

theorem alike_Rd {w : World} {M : Nat → Prop} {u t : TypeId} (h : alike P u t = true) {p : PV} {cs : List Value} (hr : Rd P w M u p cs) : Rd P w M t p cs := by
  rcases alike_spec h with ⟨n, e, h1, h2, h3, h4⟩ | ⟨e, h1, h2⟩
  · cases hr with
    | arr hu a b c d => rw [h1] at hu; injection hu with hu; injection hu with hn he; subst hn; subst he; exact .arr h2 h3 b (c.trans h4) d
    | int hu => rw [h1] at hu; cases hu
    | bool hu => rw [h1] at hu; cases hu
    | str hu => rw [h1] at hu; cases hu
    | flt hu => rw [h1] at hu; cases hu
    | nilSlice hu => rw [h1] at hu; cases hu
    | slice hu => rw [h1] at hu; cases hu
    | nilPtr hu => rw [h1] at hu; cases hu
    | ref hu => rw [h1] at hu; cases hu
    | nilIface hu => rw [h1] at hu; cases hu
    | struct hu => rw [h1] at hu; cases hu
  · cases hr with
    | nilSlice hu => rw [h1] at hu; injection hu with hu; injection hu with hu; subst hu; exact .nilSlice h2
    | slice hu a b c d e => rw [h1] at hu; injection hu with hu; injection hu with hu; subst hu; exact .slice h2 a b c d e
    | int hu => rw [h1] at hu; cases hu
    | bool hu => rw [h1] at hu; cases hu
    | str hu => rw [h1] at hu; cases hu
    | flt hu => rw [h1] at hu; cases hu
    | nilPtr hu => rw [h1] at hu; cases hu
    | ref hu => rw [h1] at hu; cases hu
    | nilIface hu => rw [h1] at hu; cases hu
    | struct hu => rw [h1] at hu; cases hu
    | arr hu => rw [h1] at hu; cases hu
theorem alike_agg {u t : TypeId} (h : alike P u t = true) : isAggT P u = isAggT P t := by
  rcases alike_spec h with ⟨n, e, h1, h2, _⟩ | ⟨e, h1, h2⟩ <;> simp [isAggT, h1, h2]

theorem pack1 {t : TypeId} {v : Value} (h : isAggT P t = false) : Pack P t v [v] := by simp [Pack, h]

/-- A slot's value, as data of a type. -/
theorem RS.pvT {w : World} {M : Nat → Prop} {β : Beta} {B : Obs} {t : TypeId} {s : SV} {v : Value} {p : PV} (hs : RS P w M β B s v) (hp : s.pvT P t = some p) :
    ∃ cs, Pack P t v cs ∧ Rd P w M t p cs := by
  cases hs with
  | @int k n h =>
    simp only [SV.pvT] at hp
    split at hp
    · rename_i k' hu
      simp only [Bool.cond_eq_ite, decide_eq_true_eq] at hp
      split at hp
      · rename_i hk; subst hk; injection hp with hp; subst hp; exact ⟨_, pack1 (by simp [isAggT, hu]), .int hu h⟩
      · cases hp
    · cases hp
  | @bool b =>
    simp only [SV.pvT] at hp
    split at hp
    · rename_i hu; injection hp with hp; subst hp; exact ⟨_, pack1 (by simp [isAggT, hu]), .bool hu⟩
    · cases hp
  | @str b h =>
    simp only [SV.pvT] at hp
    split at hp
    · rename_i hu; injection hp with hp; subst hp; exact ⟨_, pack1 (by simp [isAggT, hu]), .str hu h⟩
    · cases hp
  | @flt k n h =>
    simp only [SV.pvT] at hp
    split at hp
    · rename_i k' hu
      simp only [Bool.cond_eq_ite, decide_eq_true_eq] at hp
      split at hp
      · rename_i hk; subst hk; injection hp with hp; subst hp; exact ⟨_, pack1 (by simp [isAggT, hu]), .flt hu h⟩
      · cases hp
    · cases hp
  | @val u p' v cs h1 h2 =>
    simp only [SV.pvT, Bool.cond_eq_ite, Bool.or_eq_true, beq_iff_eq] at hp
    split at hp
    · rename_i h
      injection hp with hp; subst hp
      rcases h with h | h
      · subst h; exact ⟨cs, h1, h2⟩
      · refine ⟨cs, ?_, alike_Rd h h2⟩
        unfold Pack at h1 ⊢
        rw [← alike_agg h]; exact h1
    · cases hp
  | @fro e p' a cs h1 h2 h3 =>
    simp only [SV.pvT] at hp
    split at hp
    · rename_i e' hu
      simp only [Bool.cond_eq_ite, beq_iff_eq] at hp
      split at hp
      · rename_i he; subst he; injection hp with hp; subst hp; exact ⟨_, pack1 (by simp [isAggT, hu]), .ref hu h1 h2 h3⟩
      · cases hp
    · cases hp
  | nils =>
    simp only [SV.pvT] at hp
    split at hp
    · rename_i e hu; injection hp with hp; subst hp; exact ⟨_, pack1 (by simp [isAggT, hu]), .nilSlice hu⟩
    · cases hp
  | nilp =>
    simp only [SV.pvT] at hp
    split at hp
    · rename_i e hu; injection hp with hp; subst hp; exact ⟨_, pack1 (by simp [isAggT, hu]), .nilPtr hu⟩
    · cases hp
  | nili =>
    simp only [SV.pvT] at hp
    split at hp
    · rename_i e hu; injection hp with hp; subst hp; exact ⟨_, pack1 (by simp [isAggT, hu]), .nilIface hu⟩
    · cases hp
  | _ => simp [SV.pvT] at hp

theorem Pack.cells {t : TypeId} {v : Value} {cs : List Value} (h : Pack P t v cs) (h1 : ∀ c ∈ cs, c.oneCell' = true) : v.cells.toList = cs := by
  unfold Pack at h
  split at h
  · subst h; rfl
  · subst h
    have := h1 v (by simp)
    cases v <;> first | rfl | (simp [Value.oneCell'] at this)

end
end Go.X
