/- What may still come: made, and asked. -/
import Derived.Test.YthdonefmfgnilaaAhU
set_option linter.unusedSimpArgs false
set_option linter.unusedVariables false
set_option maxRecDepth 20000
namespace Go.Proofs.Ythdonefmfgnilaa
open Go Go.X

theorem spec_May (c : Cor) (s : List Nat) (hok : c.Ok) (hsm : c.Sm) (hg : c.good = true) (hc : c.cnt ≤ 100) (hs : s.length ≤ 20) : Ult fun k => ∀ ret, G68 k c.pv (.list (ints s)) ret = ret 0 :=
  Ult.succ (((spec_cGood c hok hsm).and (spec_csize c hsm)).mono fun k ⟨h1, h2⟩ ret => by
    have hb : (c.cnt * (s.length + 1)) * (s.length + 1) ≤ (100 * 21) * 21 := Nat.mul_le_mul (Nat.mul_le_mul hc (by omega)) (by omega)
    have hb1 : c.cnt * (s.length + 1) ≤ 100 * 21 := Nat.mul_le_mul hc (by omega)
    simp only [G68, f68_N, f68_e, h1, h2, hg, PV.els, ints_len]
    have hm : ((min c.cnt 100000 : Nat) : Int) = (c.cnt : Int) := by omega
    rw [hm, wrap_succ (by omega)]
    have e1 : (c.cnt : Int) * ((s.length + 1 : Nat) : Int) = ((c.cnt * (s.length + 1) : Nat) : Int) := by simp
    have w1 : IntKind.wrap .i64 ((c.cnt * (s.length + 1) : Nat) : Int) = ((c.cnt * (s.length + 1) : Nat) : Int) := wrap_i64 (by omega) (by omega)
    have w2 : IntKind.wrap .i64 ((c.cnt * (s.length + 1) * (s.length + 1) : Nat) : Int) = ((c.cnt * (s.length + 1) * (s.length + 1) : Nat) : Int) := wrap_i64 (by omega) (by omega)
    rw [e1, w1]
    have e2 : ((c.cnt * (s.length + 1) : Nat) : Int) * ((s.length + 1 : Nat) : Int) = ((c.cnt * (s.length + 1) * (s.length + 1) : Nat) : Int) := by simp
    rw [e2, w2, decide_eq_false (show ¬ (256 : Int) < (s.length : Int) by omega), decide_eq_false (show ¬ (4000000 : Int) < ((c.cnt * (s.length + 1) * (s.length + 1) : Nat) : Int) by omega)]
    rfl)
def lastQ (whole : Bool) (n i : Nat) : List Bool := (List.range (n + 1)).map fun j => if j < i then !whole || decide (j = n) else false
def lastP (whole : Bool) (n : Nat) : List Bool := (List.range (n + 1)).map fun j => !whole || decide (j = n)
theorem lastQ_len (w : Bool) (n i : Nat) : (lastQ w n i).length = n + 1 := by simp [lastQ]
theorem lastP_len (w : Bool) (n : Nat) : (lastP w n).length = n + 1 := by simp [lastP]
theorem lastQ_zero (w : Bool) (n : Nat) : lastQ w n 0 = List.replicate (n + 1) false := by simp [lastQ, List.map_const']
theorem lastQ_succ (w : Bool) (n : Nat) {i : Nat} (hi : i < n + 1) : (lastQ w n i).set i (!w || decide (i = n)) = lastQ w n (i + 1) := by
  refine List.ext_getElem (by simp [lastQ]) fun j h1 h2 => ?_
  simp only [lastQ, List.getElem_set, List.getElem_map, List.getElem_range]
  by_cases e : i = j
  · subst e; simp
  · rw [if_neg e]
    by_cases hj : j < i
    · rw [if_pos hj, if_pos (by omega)]
    · rw [if_neg hj, if_neg (by omega)]
theorem lastQ_last (w : Bool) (n : Nat) : lastQ w n (n + 1) = lastP w n := by
  refine List.ext_getElem (by simp [lastQ, lastP]) fun j h1 h2 => ?_
  simp only [lastQ, lastP, List.getElem_map, List.getElem_range]
  rw [if_pos (by simpa [lastP] using h2)]
theorem lastP_get (w : Bool) (n : Nat) {i : Nat} (hi : i ≤ n) : (lastP w n).getD i false = (!w || decide (i = n)) := by
  simp [lastP, List.getD, List.getElem?_range (show i < n + 1 by omega)]

theorem spec_New2 (c : Cor) (s : List Nat) (hok : c.Ok) (hsm : c.Sm) (hg : c.good = true) (hf : c.fmd = true) (hc : c.cnt ≤ 100) (hs : s.length ≤ 20) (hb : ∀ x ∈ s, x < 256) : Ult fun k => ∀ (Q : R → Prop) (h : List HE) (whole : Bool) (ret : PV → Int → List HE → R),
    (∀ h' ia ipa T, T.P = Cor.flat c 0 → T.s = s → Tok T → An h h' ia ipa T (runN T.P T.s (lastP whole s.length) T.P.length) → Q (ret (.rp ia) 0 h')) → Q (G39 k c.pv (.list (ints s)) whole h ret) := by
  have hpk := Pk.flat hf
  have hfl := Cor.flat_length c 0
  have hsp : Ult fun k => ∀ x ∈ Cor.flat c 0, SpreadS x.1 k := Ult.forall_mem fun x hx => by
    obtain ⟨i, hi⟩ := List.getElem?_of_mem hx
    exact spec_spread x.1 (hpk.fmd i _ x.2 hi)
  refine Ult.succ (((spec_May c s hok hsm hg hc hs).and ((spec_New c s (by omega) (by omega) hb).and (hsp.and (Ult.ge 300)))).mono fun k ⟨hmay, hnew, hspr, hge⟩ Q h whole ret hQ => ?_)
  simp (config := { zeta := false }) only [G39, f39_N]
  unfold f39_e
  rw [hmay]
  refine cF rfl (hnew Q h _ (fun h7 T hTP hTs tok hlen hold tb hit => ?_))
  have tv := tb.v
  have hnp : T.P.length = c.cnt := by rw [hTP, hfl]
  have hpos := Cor.cnt_pos c
  have pk : Pk T.P := by rw [hTP]; exact hpk
  have hsl : T.s.length = s.length := by rw [hTs]
  extract_lets +onlyGivenNames h8
  have e8 : h8 = h7 ++ [HE.var tAhead (.agg [.rp T.it, .int (T.s.length : Int), .list []])] := by simp only [h8, PV.els, ints_len, hsl]
  clear_value h8
  have l8 : h8.length = h7.length + 1 := by rw [e8]; simp
  have v8 : h8[h7.length]? = some (.var tAhead (.agg [.rp T.it, .int (T.s.length : Int), .list []])) := by rw [e8]; exact push_eq
  have t8 : h8[T.it]? = some (.var tTable (.agg [.rs T.ip T.P.length, .list (ints T.s), .rs T.ie T.P.length])) := by rw [e8]; exact push_some tv
  have enp : PV.rN (PV.fld (hvarOf h8 (PV.rI (PV.fld (hvarOf h8 h7.length) 0))) 0) = T.P.length := by
    simp [hvarOf_of v8, PV.fld, PV.flds, PV.rI, hvarOf_of t8, PV.rN]
  refine cT (hokV_of v8) (cT (by simp [hvarOf_of v8, PV.fld, PV.flds, PV.isRp]) (cT (by simp [hvarOf_of v8, PV.fld, PV.flds, PV.rI]; exact hokV_of t8) ?_))
  simp (config := { zeta := false }) only [enp, Int.toNat_natCast]
  refine cT (by rw [roomyP (by omega) (by omega)]; simp) ?_
  extract_lets +onlyGivenNames h9
  have e9 : h9 = h8 ++ [HE.row tPast (List.replicate T.P.length (.list []))] := rfl
  clear_value h9
  have l9 : h9.length = h7.length + 2 := by rw [e9]; simp [l8]
  have v9 : h9[h7.length]? = some (.var tAhead (.agg [.rp T.it, .int (T.s.length : Int), .list []])) := by rw [e9]; exact push_some v8
  refine cT (hokV_of v9) ?_
  extract_lets +onlyGivenNames h10
  have e10 : h10 = h9.set h7.length (.var tAhead (.agg [.rp T.it, .int (T.s.length : Int), .rs (h7.length + 1) T.P.length])) := by
    simp only [h10, hvarOf_of v9, PV.flds, List.set_cons_succ, List.set_cons_zero, l8]
  clear_value h10
  have l10 : h10.length = h7.length + 2 := by rw [e10, List.length_set, l9]
  have v10 : h10[h7.length]? = some (.var tAhead (.agg [.rp T.it, .int (T.s.length : Int), .rs (h7.length + 1) T.P.length])) := by rw [e10]; exact set_eq (by omega)
  have p10 : h10[h7.length + 1]? = some (.row tPast (List.replicate T.P.length (.list []))) := by
    rw [e10, set_ne (by omega), e9, ← l8]; exact push_eq
  have a10 : An h h10 h7.length (h7.length + 1) T (List.replicate T.P.length none) := by
    refine ⟨⟨?_, by simpa using v10, by simp, List.replicate T.P.length (.list []), p10, by simp, fun j x p hx hp => ?_⟩, by omega, fun i hi => ?_, by omega⟩
    · have t9 : Tb (fun i => h.length ≤ i ∧ i < h7.length) h9 T := by rw [e9, e8]; exact (tb.push _).push _
      rw [e10]
      refine (t9.setT _ _ _ v9 (by rfl)).mono (fun i hi => ⟨hi.1, ?_⟩) (fun i hi => by simpa using hi.2)
      simp only [List.length_set, l9]; omega
    · have hj : j < T.P.length := by
        have := (List.getElem?_eq_some_iff.1 hx).1
        simpa using this
      rw [List.getElem?_replicate, if_pos hj] at hx hp
      injection hx with hx; injection hp with hp
      exact .inl ⟨hp.symm, hx.symm⟩
    · rw [e10, set_ne (by omega), e9, push_lt (by omega), e8, push_lt (by omega)]
      exact hold i hi
  have e2 : PV.fld (hvarOf h10 h7.length) 2 = .rs (h7.length + 1) T.P.length := by simp [hvarOf_of v10, PV.fld, PV.flds]
  have ew : IntKind.wrap .i64 ((PV.num (PV.fld (hvarOf h10 h7.length) 1)) + (1 : Int)) = ((T.s.length + 1 : Nat) : Int) := by
    simp only [hvarOf_of v10, PV.fld, PV.flds, PV.num, List.getD, List.getElem?_cons_succ, List.getElem?_cons_zero, Option.getD_some]
    exact wrap_succ (by omega)
  refine cT (hokV_of v10) (cT (hokV_of v10) (cT ?_ (cT ?_ ?_)))
  · rw [ew, Int.toNat_natCast, roomy8 (by omega) 1 (by omega)]; simp; omega
  · rw [e2]; exact rb_of (n := 0) (m := T.P.length) (by omega)
  extract_lets +onlyGivenNames h11
  have e11 : h11 = h10 ++ [HE.row tBool (List.replicate (T.s.length + 1) (.bool false))] := by simp only [h11]; rw [ew, Int.toNat_natCast]
  clear_value h11
  have p11 : h11[h7.length + 1]? = some (.row tPast (List.replicate T.P.length (.list []))) := by rw [e11]; exact push_some p10
  have q11 : h11[h10.length]? = some (.row tBool (bools (lastQ whole s.length 0))) := by rw [e11, push_eq, lastQ_zero, hsl]; simp [bools]
  have a11 : An h h11 h7.length (h7.length + 1) T (List.replicate T.P.length none) := by rw [e11]; exact a10.push _
  refine cT (by rw [e2]; exact hokR_of (n := 0) p11 (by simp; omega)) ?_
  extract_lets +onlyGivenNames h12
  have e12 : h12 = h11.set (h7.length + 1) (.row tPast ((List.replicate T.P.length (.list [])).set 0 (.rs h10.length (T.s.length + 1)))) := by
    simp only [h12]
    rw [e2, ew]
    simp only [PV.rI, hrowOf_of p11, Int.toNat_natCast]
    rfl
  clear_value h12
  have a12 := a11.setRef (k := 0) p11 q11 (by rw [lastQ_len, hsl])
  rw [← e12] at a12
  have v12 := a12.1.v
  have q12 : h12[h10.length]? = some (.row tBool (bools (lastQ whole s.length 0))) := by rw [e12, set_ne (by omega)]; exact q11
  have p12 : h12[h7.length + 1]? = some (.row tPast ((List.replicate T.P.length (.list [])).set 0 (.rs h10.length (T.s.length + 1)))) := by rw [e12]; exact set_eq (lt_of_some p11)
  generalize hL : (List.replicate T.P.length (PV.list [])).set 0 (.rs h10.length (T.s.length + 1)) = L at p12
  have hL0 : L[0]? = some (.rs h10.length (T.s.length + 1)) := by rw [← hL, List.getElem?_set_self (by simp; omega)]
  have hLl : L.length = T.P.length := by rw [← hL]; simp
  have hLu : ∀ (j m : Nat), L[j]? = some (PV.rs h10.length m) → j = 0 := fun j m e => by
    rw [← hL, List.getElem?_set] at e
    split at e
    · rename_i e1; exact e1.symm
    · rw [List.getElem?_replicate] at e
      split at e
      · injection e with e; cases e
      · cases e
  have e2' : ∀ H past, An h H h7.length (h7.length + 1) T past → PV.fld (hvarOf H h7.length) 2 = .rs (h7.length + 1) past.length := fun H past a => by simp [hvarOf_of a.1.v, PV.fld, PV.flds]
  refine cT (hokV_of v12) (cT (by rw [e2' _ _ a12]; exact rb_of (n := 0) (m := ((List.replicate T.P.length none).set 0 _).length) (by simp; omega)) (cT (by rw [e2' _ _ a12]; exact hokR_of (n := 0) p12 (by omega)) ?_))
  extract_lets +onlyGivenNames n13
  have e13 : n13 = ((s.length + 1 : Nat) : Int) := by
    simp only [n13]
    rw [e2' _ _ a12]
    simp only [PV.rI, hrowOf_of p12, List.getD, show (Int.toNat 0) = 0 from rfl, hL0, Option.getD_some, PV.rN, hsl]
  clear_value n13
  subst e13
  refine vupQ (body := f39_w1B k (G66 k) (G68 k) (G69 k) ret whole h7 ((s.length + 1 : Nat) : Int)) Q (fun i (H : List HE) => ((i : Int), H))
    (fun i H => An h H h7.length (h7.length + 1) T ((List.replicate T.P.length none).set 0 (some (lastQ whole s.length i))) ∧ H[h10.length]? = some (.row tBool (bools (lastQ whole s.length i))) ∧ H[h7.length + 1]? = some (.row tPast L)) (s.length + 1) ?_ ?_ k 0 h12 ⟨a12, q12, p12⟩ (by omega) (by omega)
  · rintro nx H ⟨aH, q1, q2⟩
    rw [lastQ_last] at aH
    have hvH := aH.1.v
    have htH := aH.1.tb.v
    have ef : PV.fld (hvarOf H h7.length) 0 = .rp T.it := by simp [hvarOf_of hvH, PV.fld, PV.flds]
    simp (config := { zeta := false }) only [f39_w1B, f39_w1b0N, f39_w1b0]
    refine cF (decide_eq_false (by omega)) (cT (hokV_of hvH) (cT (by rw [ef]; rfl) (cT (by rw [ef]; exact hokV_of htH) ?_)))
    have enp2 : PV.rN (PV.fld (hvarOf H (PV.rI (PV.fld (hvarOf H h7.length) 0))) 0) = T.P.length := by
      rw [ef]; simp [PV.fld, PV.flds, PV.rI, hvarOf_of htH, PV.rN]
    refine vupQ (body := f39_w3B k (G66 k) (G68 k) (G69 k) ret h7 H) Q (fun i (H : List HE) => ((i : Int), H))
      (fun i H => An h H h7.length (h7.length + 1) T (runN T.P T.s (lastP whole s.length) i)) T.P.length ?_ ?_ k 0 H aH (by omega) (by omega)
    · intro nx H2 a2
      simp (config := { zeta := false }) only [f39_w3B, f39_w3b0N, f39_w3b0]
      extract_lets +onlyGivenNames b30
      have e30 : b30 = false := by simp only [b30, enp2]; exact decide_eq_false (by omega)
      clear_value b30
      subst e30
      refine cF rfl ?_
      exact hQ H2 h7.length (h7.length + 1) T hTP hTs tok a2
    · intro i hi nx H2 a2 hnx
      simp (config := { zeta := false }) only [f39_w3B, f39_w3b0N, f39_w3b0]
      extract_lets +onlyGivenNames b30
      have e30 : b30 = true := by simp only [b30, enp2]; exact decide_eq_true (by omega)
      clear_value b30
      subst e30
      have hget := List.getElem?_eq_getElem hi
      obtain ⟨b, hb1, hb2⟩ := run_all pk T.s (pa := lastP whole s.length) (by rw [lastP_len, hsl]) (i := i) (j := i) (by omega) (Nat.le_refl _) hi
      refine cT rfl ?_
      refine hspr T.P[i] (by rw [← hTP]; exact List.getElem_mem hi) Q h H2 h7.length (h7.length + 1) T _ i T.P[i].2 b _ a2 tok pk hget hb1 (fun h' a3 => ?_)
      rw [wrap_succ (by omega)]
      refine hnx h' ?_
      rw [runN, hget, hb1]
      exact a3
  · rintro i hi nx H ⟨aH, q1, q2⟩ hnx
    have hvH := aH.1.v
    have e2H := e2' _ _ aH
    have e5 : List.getD (hrowOf H (PV.rI (PV.fld (hvarOf H h7.length) 2))) ((0 : Int)).toNat PV.nil = .rs h10.length (T.s.length + 1) := by
      rw [e2H]
      simp only [PV.rI, hrowOf_of q2, List.getD, show (Int.toNat 0) = 0 from rfl, hL0, Option.getD_some]
    have hiq : i < (bools (lastQ whole s.length i)).length := by rw [bools_len, lastQ_len]; exact hi
    have fin : ∀ v : Bool, v = (!whole || decide (i = s.length)) → Q (nx ((i : Int) + 1, H.set h10.length (.row tBool (List.set (hrowOf H h10.length) ((i : Int)).toNat (.bool v))))) := fun v hv => by
      rw [hrowOf_of q1, Int.toNat_natCast, bools_set, hv, lastQ_succ whole s.length hi]
      have := hnx (H.set h10.length (.row tBool (bools (lastQ whole s.length (i + 1))))) ⟨?_, set_eq (lt_of_some q1), by rw [set_ne (by omega)]; exact q2⟩
      · simpa using this
      · have := aH.setK q2 q1 (by omega) hL0 hLu (x := lastQ whole s.length (i + 1)) (b' := []) (by rw [lastQ_len, hsl])
        rw [List.set_set] at this
        exact this
    simp (config := { zeta := false }) only [f39_w1B, f39_w1b0N, f39_w1b0]
    have hwr : IntKind.wrap .i64 ((i : Int) + 1) = (i : Int) + 1 := wrap_i64 (by omega) (by omega)
    rw [hwr]
    refine cT (decide_eq_true (by omega)) (cT (hokV_of hvH) (cT (by rw [e2H]; exact rb_of (n := 0) (m := ((List.replicate T.P.length none).set 0 _).length) (by simp; omega)) (cT (by rw [e2H]; exact hokR_of (n := 0) q2 (by omega)) ?_)))
    have hrb : (true && decide ((0 : Int) ≤ (i : Int)) && decide ((i : Int) < ((PV.rN (List.getD (hrowOf H (PV.rI (PV.fld (hvarOf H h7.length) 2))) ((0 : Int)).toNat PV.nil) : Nat) : Int))) = true := by
      rw [e5]; exact rb_of (m := T.s.length + 1) (by omega)
    cases whole with
    | true =>
      refine cT rfl (cT (hokV_of hvH) (cT hrb (cT (by rw [e5]; exact hokR_of q1 hiq) ?_)))
      rw [e5]
      have en : PV.num (PV.fld (hvarOf H h7.length) 1) = (s.length : Int) := by simp [hvarOf_of hvH, PV.fld, PV.flds, PV.num, hsl]
      rw [en]
      exact fin _ (by simp only [Bool.not_true, Bool.false_or]; exact decide_eq_decide.2 (by omega))
    | false =>
      refine cF rfl (cT hrb (cT (by rw [e5]; exact hokR_of q1 hiq) ?_))
      rw [e5]
      exact fin _ rfl
end Go.Proofs.Ythdonefmfgnilaa
