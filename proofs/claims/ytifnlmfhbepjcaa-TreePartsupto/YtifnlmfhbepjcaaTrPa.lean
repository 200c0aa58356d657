/- Of what may be each part in brackets may be (TreeParts). -/
import Derived.Test.YtifnlmfhbepjcaaTrM
set_option linter.unusedSimpArgs false
set_option linter.unusedVariables false
set_option maxRecDepth 20000
namespace Go.Proofs.Ytifnlmfhbepjcaa
open Go Go.X

theorem nodup_le {α : Type} [DecidableEq α] : ∀ {l m : List α}, l.Nodup → (∀ x ∈ l, x ∈ m) → l.length ≤ m.length
  | [], _, _, _ => by simp
  | a :: l, m, hn, h => by
    have ha := h a (by simp)
    rw [List.nodup_cons] at hn
    have := nodup_le (l := l) (m := m.erase a) hn.2 fun x hx => by
      exact (List.mem_erase_of_ne fun e => hn.1 (by rw [← e]; exact hx)).2 (h x (by simp [hx]))
    rw [List.length_erase_of_mem ha] at this
    have := List.length_pos_of_mem ha
    simp only [List.length_cons]; omega
namespace Nd
mutual
/-- All sets. -/
def ss : Nd → List Nat
  | mk k s _ _ _ l => (if k = 1 then [s] else []) ++ ssL l
def ssL : List Nd → List Nat
  | [] => []
  | v :: l => ss v ++ ssL l
end
theorem sts_mem (v : Nd) : ∀ acc : List Nat, acc.Nodup → (sts v acc).Nodup ∧ ∀ y, y ∈ sts v acc ↔ y ∈ acc ∨ y ∈ ss v := by
  refine ind (p := fun v => ∀ acc : List Nat, acc.Nodup → (sts v acc).Nodup ∧ ∀ y, y ∈ sts v acc ↔ y ∈ acc ∨ y ∈ ss v) (fun k s a b n l ih acc hacc => ?_) v
  have hl : ∀ (l : List Nd), (∀ v ∈ l, ∀ acc : List Nat, acc.Nodup → (sts v acc).Nodup ∧ ∀ y, y ∈ sts v acc ↔ y ∈ acc ∨ y ∈ ss v) → ∀ acc : List Nat, acc.Nodup → (stsL l acc).Nodup ∧ ∀ y, y ∈ stsL l acc ↔ y ∈ acc ∨ y ∈ ssL l := by
    intro l
    induction l with
    | nil => intro _ acc h; exact ⟨h, fun y => by simp [stsL, ssL]⟩
    | cons v l ih =>
      intro h acc hacc
      have h1 := h v (by simp) acc hacc
      have h2 := ih (fun x hx => h x (by simp [hx])) _ h1.1
      refine ⟨h2.1, fun y => ?_⟩
      simp only [stsL, ssL]
      rw [h2.2, h1.2, List.mem_append, or_assoc]
  simp only [sts, ss]
  by_cases c : k = 1 ∧ s ∉ acc
  · rw [if_pos c, if_pos c.1]
    have := hl l ih (acc ++ [s]) (by
      rw [List.nodup_append]
      refine ⟨hacc, by simp, fun x hx y hy e => ?_⟩
      have : y = s := by simpa using hy
      subst this; subst e; exact c.2 hx)
    refine ⟨this.1, fun y => ?_⟩
    rw [this.2, List.mem_append, List.mem_append, or_assoc]
  · rw [if_neg c]
    have := hl l ih acc hacc
    refine ⟨this.1, fun y => ?_⟩
    rw [this.2, List.mem_append]
    by_cases hk : k = 1
    · have hs : s ∈ acc := by
        by_cases h : s ∈ acc
        · exact h
        · exact absurd ⟨hk, h⟩ c
      rw [if_pos hk]
      constructor
      · rintro (h | h)
        · exact .inl h
        · exact .inr (.inr h)
      · rintro (h | h | h)
        · exact .inl h
        · have : y = s := by simpa using h
          subst this; exact .inl hs
        · exact .inr h
    · rw [if_neg hk]; simp
theorem ssL_mem {x : Nd} : ∀ {l : List Nd}, x ∈ l → ∀ y ∈ ss x, y ∈ ssL l
  | [], h, _, _ => by cases h
  | v :: l, h, y, hy => by
    simp only [ssL, List.mem_append]
    rcases List.mem_cons.1 h with rfl | h
    · exact .inl hy
    · exact .inr (ssL_mem h y hy)
theorem sts_kid {v x : Nd} (h : x ∈ v.kidl) : (sts x []).length ≤ (sts v []).length := by
  have h1 := sts_mem x [] (by simp)
  have h2 := sts_mem v [] (by simp)
  refine nodup_le h1.1 fun y hy => ?_
  have hy := (h1.2 y).1 hy
  refine (h2.2 y).2 ?_
  cases v with
  | mk k s a b n l =>
    rcases hy with hy | hy
    · cases hy
    · simp only [ss]
      exact .inr (List.mem_append.2 (.inr (ssL_mem h y hy)))
theorem deps_mem {x : Nd} : ∀ {l : List Nd}, x ∈ l → x.dep ≤ deps l
  | [], h => by cases h
  | v :: l, h => by
    simp only [deps]
    rcases List.mem_cons.1 h with rfl | h
    · omega
    · have := deps_mem h; omega
theorem dep_kid {v x : Nd} (h : x ∈ v.kidl) : x.dep < v.dep := by
  cases v with
  | mk k s a b n l => have := deps_mem (l := l) h; simp only [dep]; omega
theorem shp_kind {v : Nd} (h : v.shp = true) : has [1, 2, 3, 4, 5, 6] v.kind = true := by
  obtain ⟨k, s, a, b, n, l⟩ := v
  simp only [shp] at h
  simp only [kind, has, List.any_cons, List.any_nil, Bool.or_false, Bool.or_eq_true, decide_eq_true_eq]
  by_cases h1 : k = 1
  · exact .inl h1
  by_cases h2 : k = 2
  · exact .inr (.inl h2)
  by_cases h3 : k = 3
  · exact .inr (.inr (.inl h3))
  by_cases h4 : k = 4
  · exact .inr (.inr (.inr (.inl h4)))
  by_cases h5 : k = 5
  · exact .inr (.inr (.inr (.inr (.inl h5))))
  by_cases h6 : k = 6
  · exact .inr (.inr (.inr (.inr (.inr h6))))
  rw [if_neg h1, if_neg h2, if_neg h3, if_neg h4, if_neg h5, if_neg h6] at h
  cases h
/-- In brackets. -/
def brk (v : Nd) : Nd := mk 6 0 0 0 0 [v]
theorem gd_brk {v : Nd} {g n : Int} (h : gd v g = some n) : gd (brk v) g = some n := by
  have hs : v.shp = true := by
    cases v with
    | mk k s a b m l =>
      simp only [gd] at h
      have := (cond_some h).1
      exact (Bool.and_eq_true _ _ ▸ this).2
  have hk := shp_kind hs
  have hc : (brk v).cln = true := by rfl
  have hsh : (brk v).shp = true := by
    show (decide ((1 : Int) ≤ ((1 : Nat) : Int)) && (decide (((1 : Nat) : Int) ≤ 1) && !((!has [1, 2, 3, 4, 5, 6] v.kind) || false))) = true
    rw [hk]; rfl
  have e : gd (brk v) g = bif (brk v).cln && (brk v).shp then (if (6 : Int) = 5 then (if (0 : Int) = g + 1 then gds [v] (g + 1) else none) else gds [v] g) else none := by rw [brk, gd]
  rw [e, hc, hsh]
  simp only [Bool.and_self, cond_true, if_neg (show ¬ (6 : Int) = 5 by decide), gds, h]
end Nd

theorem TreeParts.main (q : Pat) (hq : q.Ok) (hz : q.root.size ≤ 100000000) : ∃ k, G13 k q.pv (fun y => some ([.bool y], [])) = some ([.bool true], []) := by
  obtain ⟨st, en, root, g⟩ := q
  have hz : root.size ≤ 100000000 := hz
  have hok : root.Ok := hq.1
  have hsm : root.Sm := by simp only [Nd.Sm]; omega
  have hbsz : (Nd.brk root).Sm := by simp only [Nd.Sm, Nd.brk, Nd.size, Nd.sizes]; omega
  have hbok : (Nd.brk root).Ok := Nd.ok_mk.2 ⟨by simp [inI], by omega, by simp [inI], by simp [inI], by simp [inI], by simpa using hok⟩
  have hcs := Nd.cnt_size root
  have e2 : PV.fld (Pat.pv ⟨st, en, root, g⟩) 2 = root.pv := rfl
  have e3 : PV.fld (Pat.pv ⟨st, en, root, g⟩) 3 = .int g := rfl
  have eb : PV.agg [PV.bool false, PV.bool false, PV.agg [PV.int 6, PV.agg [PV.int 0, PV.int 0, PV.int 0, PV.int 0], PV.int 0, PV.int 0, PV.int 0, PV.list [root.pv]], PV.int g] = Pat.pv ⟨false, false, Nd.brk root, g⟩ := rfl
  have hks : Ult fun k => ∀ x ∈ root.kidl, (∀ ret, G51 k x.pv ret = ret ((min x.cnt 100000 : Nat) : Int)) ∧ (∀ ret, G50 k x.pv ret = ret ((min x.dep 65 : Nat) : Int)) ∧ (x.cnt ≤ 1000000 → ∀ ret, G53 k x.pv ret = ret (.list ((x.sts []).map bs))) :=
    Ult.forall_mem fun x hx => by
      have h1 := spec_Size x (Nd.Sm.kid hsm hx)
      have h2 := spec_Depth x (Nd.Sm.kid hsm hx)
      by_cases hc : x.cnt ≤ 1000000
      · exact (h1.and (h2.and (spec_Sets x (Nd.Ok.kid hok hx) (Nd.Sm.kid hsm hx) hc))).mono fun k ⟨a, b, c⟩ => ⟨a, b, fun _ => c⟩
      · exact (h1.and h2).mono fun k ⟨a, b⟩ => ⟨a, b, fun h => absurd h hc⟩
  have hsets : Ult fun k => root.cnt ≤ 1000000 → ∀ ret, G53 k root.pv ret = ret (.list ((root.sts []).map bs)) := by
    by_cases hc : root.cnt ≤ 1000000
    · exact (spec_Sets root hok hsm hc).mono fun k h _ => h
    · exact Ult.of fun k h => absurd h hc
  refine Ult.get (Ult.succ ((spec_awake.and ((spec_heavy root 60 (by omega)).and ((spec_tGood ⟨st, en, root, g⟩ hq hsm).and ((spec_Size root hsm).and ((spec_Depth root hsm).and ((spec_tGood ⟨false, false, Nd.brk root, g⟩ ⟨hbok, hq.2⟩ hbsz).and ((spec_Same root hok hsm root hok).and (hks.and (hsets.and (Ult.ge (root.kidl.length + 2))))))))))).mono fun k ⟨h0, h1, h2, h3, h4, h5, h6, h7, h8, hk⟩ => ?_))
  simp only [G13, f13_N, f13_e, h0, e2, h1, h2, h3, Bool.not_true, cond_false]
  cases root.big 60
  case true => rfl
  simp only [beq_self_eq_true, cond_true]
  cases hg : root.good g
  · rfl
  simp only [Bool.not_true, cond_false]
  have hg' := hg
  simp only [Nd.good, Bool.and_eq_true, decide_eq_true_eq] at hg'
  obtain ⟨hd, hc, hgd⟩ := hg'
  have hgg : ∃ n, root.gd 0 = some n ∧ n = g ∧ n ≤ 32 := by
    cases hv : root.gd 0 with
    | none => rw [hv] at hgd; cases hgd
    | some n => rw [hv] at hgd; simp only [Bool.and_eq_true, decide_eq_true_eq] at hgd; exact ⟨n, rfl, hgd.1, hgd.2⟩
  obtain ⟨n, hn, hn1, hn2⟩ := hgg
  have hgb : (Nd.brk root).good g = (decide (root.dep < 64) && decide (root.cnt < 2000)) := by
    simp only [Nd.good, Nd.gd_brk hn, decide_eq_true hn1, decide_eq_true hn2, Bool.and_self, Bool.and_true]
    have e1 : (Nd.brk root).dep = root.dep + 1 := by simp only [Nd.brk, Nd.dep, Nd.deps]; omega
    have e2 : (Nd.brk root).cnt = root.cnt + 1 := by simp only [Nd.brk, Nd.cnt, Nd.cnts]
    rw [e1, e2]
    congr 1
  have hlen : root.kidl.length ≤ 274877906944 := hsm.length
  have hcl : root.cnt = Nd.cnts root.kidl + 1 := by cases root; simp only [Nd.cnt, Nd.kidl]
  simp only [f13_w1N]
  generalize hB : f13_w1B k _ _ _ _ _ _ _ _ _ _ = body
  have step : ∀ nx s, body nx s = f13_w1B k _ _ _ _ _ _ _ _ _ _ nx s := fun nx s => by rw [← hB]
  have := vup (body := body) (fun (i : Nat) (a : Nat) => ((a : Int), (i : Int))) (fun i a => a + Nd.cnts (root.kidl.drop i) = root.cnt) (res := fun i a => some ([.bool true], [])) root.kidl.length ?_ ?_ k 0 1 (by rw [hcl, List.drop_zero]; omega) (by omega) (by omega)
  · exact this
  · intro nx a ha
    rw [List.drop_length] at ha
    simp only [Nd.cnts, Nat.add_zero] at ha
    subst ha
    rw [step]
    simp only [f13_w1B, f13_w1b0N, f13_w1b0, e2, e3, Nd.fld5, PV.els, PV.num, List.length_map, dF (show ¬ (root.kidl.length : Int) < (root.kidl.length : Int) by omega), cond_false, dT (show (root.cnt : Int) = ((min root.cnt 100000 : Nat) : Int) by omega), beq_self_eq_true, cond_true, eb, h5, h4, h6, hgb, Nd.same_refl]
    by_cases d1 : root.dep < 64
    · rw [dT (show ((min root.dep 65 : Nat) : Int) < 64 by omega), decide_eq_true d1]
      by_cases d2 : root.cnt < 2000
      · rw [dT (show ((min root.cnt 100000 : Nat) : Int) < 2000 by omega), decide_eq_true d2]; rfl
      · rw [dF (show ¬ ((min root.cnt 100000 : Nat) : Int) < 2000 by omega), decide_eq_false d2]; rfl
    · rw [dF (show ¬ ((min root.dep 65 : Nat) : Int) < 64 by omega), decide_eq_false d1]; rfl
  · intro i hi nx a ha hnx
    rw [drop_cons hi] at ha
    simp only [Nd.cnts] at ha
    obtain ⟨b1, b2, b3⟩ := h7 _ (List.getElem_mem hi)
    have b3 := b3 (by omega)
    have b4 := h8 (by omega)
    have hdk := Nd.dep_kid (List.getElem_mem hi)
    have hsk := Nd.sts_kid (List.getElem_mem hi)
    rw [step]
    simp only [f13_w1B, f13_w1b0N, f13_w1b0, e2, e3, Nd.fld5, PV.els, PV.num, List.length_map, dT (show (i : Int) < (root.kidl.length : Int) by omega), dT (show (0 : Int) ≤ (i : Int) by omega), Bool.and_self, cond_true, getD_map Nd.pv hi, wrap_succ (show i < 1099511627777 by omega), b1, b2, b3, b4, h4]
    rw [dF (show ¬ ((min root.dep 65 : Nat) : Int) ≤ ((min (root.kidl[i]).dep 65 : Nat) : Int) by omega), dF (show ¬ (((root.sts []).length : Nat) : Int) < (((root.kidl[i]).sts []).length : Int) by omega), wrap_i64 (by omega) (by omega)]
    have := hnx (a + (root.kidl[i]).cnt) (by omega)
    rw [show (a : Int) + ((min (root.kidl[i]).cnt 100000 : Nat) : Int) = ((a + (root.kidl[i]).cnt : Nat) : Int) by omega]
    exact this
end Go.Proofs.Ytifnlmfhbepjcaa
