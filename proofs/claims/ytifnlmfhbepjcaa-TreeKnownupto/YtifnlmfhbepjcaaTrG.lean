/- What there may be: the printed functions come to it. -/
import Derived.Test.YtifnlmfhbepjcaaTrS
import Derived.Test.YtifnlmfhbepjcaaBsLn
set_option linter.unusedSimpArgs false
set_option linter.unusedVariables false
set_option maxRecDepth 20000
namespace Go.Proofs.Ytifnlmfhbepjcaa
open Go Go.X

def pvI (l : List Int) : PV := .list (l.map PV.int)
def has (l : List Int) (n : Int) : Bool := l.any fun y => decide (n = y)
theorem spec_Index (l : List Int) (hl : l.length ≤ 1000) : Ult fun k => ∀ (n : Int) ret, G85 k (pvI l) n ret = ret (fi (fun y => decide (n = y)) 0 l) :=
  Ult.succ ((Ult.ge 1002).mono fun k hk n ret => by
    simp only [G85, f85_N, f85_e, f85_w1N]
    have := loopR_up (body := f85_w1B k ret (pvI l) n) (res := fun i => ret (fi (fun y => decide (n = y)) i (l.drop i))) l.length ?_ ?_ k 0 (by omega) (by omega)
    · exact this
    · intro nx
      simp only [f85_w1B, f85_w1b0N, f85_w1b0, pvI, PV.els, List.length_map, dF (show ¬ (l.length : Int) < (l.length : Int) by omega), cond_false, List.drop_length, fi]
    · intro i hi nx hnx
      simp only [f85_w1B, f85_w1b0N, f85_w1b0, pvI, PV.els, List.length_map, dT (show (i : Int) < (l.length : Int) by omega), dT (show (0 : Int) ≤ (i : Int) by omega), Bool.and_self, cond_true, getD_map PV.int hi, PV.num, wrap_succ (show i < 1099511627777 by omega)]
      rw [drop_cons hi, hnx]
      simp only [fi]
      by_cases h : n = l[i]
      · simp [h]
      · simp [h])
theorem spec_Contains (l : List Int) (hl : l.length ≤ 1000) : Ult fun k => ∀ (n : Int) ret, G83 k (pvI l) n ret = ret (has l n) :=
  Ult.succ ((spec_Index l hl).mono fun k h n ret => by
    simp only [G83, f83_N, f83_e, h]
    rw [fi_any]; rfl)
theorem spec_odd (l : List Int) (hl : l.length ≤ 1000) : Ult fun k => ∀ (x : Nd) ret, G82 k x.pv (pvI l) ret = ret (!has l x.kind) (pvI l) :=
  Ult.succ ((spec_Contains l hl).mono fun k h x ret => by
    simp only [G82, f82_N, f82_e, h, Nd.fld0, PV.num])
theorem spec_anyOdd (l : List Int) (hl : l.length ≤ 1000) (v : List Nd) (hv : v.length ≤ 274877906944) : Ult fun k => ∀ ret, G84 k (.list (v.map Nd.pv)) (pvI l) ret = ret (v.any fun x => !has l x.kind) (pvI l) :=
  Ult.succ (Ult.succ (((spec_odd l hl).and (Ult.ge (v.length + 1))).mono fun k ⟨h, hk⟩ ret => by
    simp only [G84, f84_N, f84_e, G86, f86_N, f86_e, f86_w1N]
    refine (idx_loop Nd.pv v (fun x => !has l x.kind) (pvI l) (G82 k) (fun n3 p4 => ret (decide ((0 : Int) ≤ n3)) p4) _ (fun nx n g => rfl) (fun x _ r => h x r) (by omega) k (by omega)).trans ?_
    rw [fi_any]))

namespace Nd
/-- Are all fields that do not count zero? -/
def cln : Nd → Bool
  | mk k s a b n _ =>
    if k = 1 then decide (a = 0) && (decide (b = 0) && decide (n = 0))
    else if k = 4 then decide (s = 0) && decide (n = 0)
    else if k = 5 then decide (s = 0) && (decide (a = 0) && decide (b = 0))
    else decide (s = 0) && (decide (a = 0) && (decide (b = 0) && decide (n = 0)))
def odds (ks : List Int) (l : List Nd) : Bool := l.any fun x => !has ks x.kind
/-- May a node have such kids? -/
def shp : Nd → Bool
  | mk k s a b _ l =>
    if k = 1 then decide (s ≠ 0) && decide ((l.length : Int) = 0)
    else if k = 2 then decide ((2 : Int) ≤ (l.length : Int)) && (decide ((l.length : Int) ≤ 100000) && !odds [1, 4, 5, 6] l)
    else if k = 3 then decide ((2 : Int) ≤ (l.length : Int)) && (decide ((l.length : Int) ≤ 100000) && !odds [1, 2, 4, 5, 6] l)
    else if k = 4 then !decide (a < 0) && (!decide (255 < a) && ((decide (b = -1) || (!decide (b < a) && !decide (255 < b))) && (decide ((1 : Int) ≤ (l.length : Int)) && (decide ((l.length : Int) ≤ 1) && !odds [1, 5, 6] l))))
    else if k = 5 then decide ((1 : Int) ≤ (l.length : Int)) && (decide ((l.length : Int) ≤ 1) && !odds [1, 2, 3, 4, 5, 6] l)
    else if k = 6 then decide ((1 : Int) ≤ (l.length : Int)) && (decide ((l.length : Int) ≤ 1) && !odds [1, 2, 3, 4, 5, 6] l)
    else false
end Nd
theorem bs_zero_beq {s : Nat} (hs : s < 2 ^ 256) : PV.beq (bs s) (PV.agg [PV.int 0, PV.int 0, PV.int 0, PV.int 0]) = decide (s = 0) := by
  rw [bs_zero, bs_beq hs (by omega)]
theorem spec_clean (v : Nd) (hok : v.Ok) : Ult fun k => ∀ ret, G80 k v.pv ret = ret v.cln :=
  Ult.succ (Ult.of fun k ret => by
    obtain ⟨kd, s, a, b, n, l⟩ := v
    have hs : s < 2 ^ 256 := hok.set
    simp only [G80, f80_N, f80_e, Nd.fld0, Nd.fld1, Nd.fld2, Nd.fld3, Nd.fld4, PV.num, Nd.kind, Nd.set, Nd.lo, Nd.hi, Nd.num, Nd.cln, bs_zero_beq hs, bs_beq hs hs]
    by_cases h1 : kd = 1
    · rw [dT h1, if_pos h1]
      by_cases h2 : a = 0 <;> by_cases h3 : b = 0 <;> simp [h2, h3]
    rw [dF h1, if_neg h1]
    by_cases h4 : kd = 4
    · rw [dT h4, if_pos h4]
      by_cases h2 : s = 0 <;> simp [h2]
    rw [dF h4, if_neg h4]
    by_cases h5 : kd = 5
    · rw [dT h5, if_pos h5]
      by_cases h2 : s = 0 <;> by_cases h3 : a = 0 <;> by_cases h4 : b = 0 <;> simp [h2, h3, h4]
    rw [dF h5, if_neg h5]
    by_cases h2 : s = 0 <;> by_cases h3 : a = 0 <;> by_cases h4 : b = 0 <;> simp [h2, h3, h4])
theorem lst_zero {n : Nat} (hn : n < 2 ^ 256) : (lst n).length = 0 ↔ n = 0 := by
  constructor
  · intro h
    have h0 : lst n = [] := List.eq_nil_of_length_eq_zero h
    refine lst_inj hn (by omega) (h0.trans ?_)
    exact (List.eq_nil_of_length_eq_zero (by decide +kernel)).symm
  · rintro rfl; decide +kernel
theorem spec_shaped (v : Nd) (hok : v.Ok) (hsm : v.Sm) : Ult fun k => ∀ ret, G81 k v.pv ret = ret v.shp := by
  obtain ⟨kd, s, a, b, n, l⟩ := v
  have hs : s < 2 ^ 256 := hok.set
  have hl : l.length ≤ 274877906944 := hsm.length
  refine Ult.succ ((spec_Len.and ((spec_anyOdd [1, 4, 5, 6] (by decide) l hl).and ((spec_anyOdd [1, 2, 4, 5, 6] (by decide) l hl).and ((spec_anyOdd [1, 5, 6] (by decide) l hl).and (spec_anyOdd [1, 2, 3, 4, 5, 6] (by decide) l hl))))).mono fun k ⟨h0, h1, h2, h3, h4⟩ ret => ?_)
  have e1 : PV.list [PV.int 1, PV.int 4, PV.int 5, PV.int 6] = pvI [1, 4, 5, 6] := rfl
  have e2 : PV.list [PV.int 1, PV.int 2, PV.int 4, PV.int 5, PV.int 6] = pvI [1, 2, 4, 5, 6] := rfl
  have e3 : PV.list [PV.int 1, PV.int 5, PV.int 6] = pvI [1, 5, 6] := rfl
  have e4 : PV.list [PV.int 1, PV.int 2, PV.int 3, PV.int 4, PV.int 5, PV.int 6] = pvI [1, 2, 3, 4, 5, 6] := rfl
  have ez : decide ((0 : Int) < ((lst s).length : Int)) = decide (s ≠ 0) := by
    rw [decide_eq_decide, ne_eq, ← lst_zero hs]; omega
  simp only [G81, f81_N, f81_e, Nd.fld0, Nd.fld1, Nd.fld2, Nd.fld3, Nd.fld5, PV.num, PV.els, List.length_map, Nd.kind, Nd.set, Nd.lo, Nd.hi, Nd.kidl, Nd.shp, e1, e2, e3, e4, h0, h1, h2, h3, h4, ez, ← Nd.odds.eq_1]
  by_cases k1 : kd = 1
  · rw [dT k1, if_pos k1]; cases decide (s ≠ 0) <;> rfl
  rw [dF k1, if_neg k1]
  by_cases k2 : kd = 2
  · rw [dT k2, if_pos k2]; cases decide ((2 : Int) ≤ (l.length : Int)) <;> cases decide ((l.length : Int) ≤ 100000) <;> rfl
  rw [dF k2, if_neg k2]
  by_cases k3 : kd = 3
  · rw [dT k3, if_pos k3]; cases decide ((2 : Int) ≤ (l.length : Int)) <;> cases decide ((l.length : Int) ≤ 100000) <;> rfl
  rw [dF k3, if_neg k3]
  by_cases k4 : kd = 4
  · rw [dT k4, if_pos k4]; cases decide ((1 : Int) ≤ (l.length : Int)) <;> cases decide ((l.length : Int) ≤ 1) <;> cases decide (a < 0) <;> cases decide ((255 : Int) < a) <;> cases decide (b = -1) <;> cases decide (b < a) <;> cases decide ((255 : Int) < b) <;> rfl
  rw [dF k4, if_neg k4]
  by_cases k5 : kd = 5
  · rw [dT k5, if_pos k5]; cases decide ((1 : Int) ≤ (l.length : Int)) <;> cases decide ((l.length : Int) ≤ 1) <;> rfl
  rw [dF k5, if_neg k5]
  by_cases k6 : kd = 6
  · rw [dT k6, if_pos k6]; cases decide ((1 : Int) ≤ (l.length : Int)) <;> cases decide ((l.length : Int) ≤ 1) <;> rfl
  rw [dF k6, if_neg k6]
  rfl
namespace Nd
theorem shp_kind {v : Nd} (h : v.shp = true) : has [1, 2, 3, 4, 5, 6] v.kind = true := by
  obtain ⟨k, s, a, b, n, l⟩ := v
  simp only [shp] at h
  simp only [kind, has, List.any_cons, List.any_nil, Bool.or_false, Bool.or_eq_true, decide_eq_true_eq]
  by_cases h1 : k = 1
  · exact .inl h1
  by_cases h2 : k = 2
  · exact .inr (.inl h2)
  by_cases h3 : k = 3
  · exact .inr (.inr (.inl h3))
  by_cases h4 : k = 4
  · exact .inr (.inr (.inr (.inl h4)))
  by_cases h5 : k = 5
  · exact .inr (.inr (.inr (.inr (.inl h5))))
  by_cases h6 : k = 6
  · exact .inr (.inr (.inr (.inr (.inr h6))))
  rw [if_neg h1, if_neg h2, if_neg h3, if_neg h4, if_neg h5, if_neg h6] at h
  cases h
end Nd
end Go.Proofs.Ytifnlmfhbepjcaa
