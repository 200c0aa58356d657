/- Heaps as lists; steps through printed trees; places of a text: the printed functions. -/
import Derived.Test.YtmdlhnojpcnnbaaTbN
import Derived.Test.YtmdlhnojpcnnbaaBsF0
import Derived.Test.YtmdlhnojpcnnbaaBsHs
set_option linter.unusedSimpArgs false
set_option linter.unusedVariables false
namespace Go.X
open Go

theorem cT {Q : R → Prop} {b : Bool} {x y : R} (h : b = true) (k : Q x) : Q (bif b then x else y) := by rw [h]; exact k
theorem cF {Q : R → Prop} {b : Bool} {x y : R} (h : b = false) (k : Q y) : Q (bif b then x else y) := by rw [h]; exact k
theorem hokV_of {H : List HE} {i : Nat} {t : TypeId} {p : PV} (e : H[i]? = some (HE.var t p)) : hokV H t i = true := by simp [hokV, e]
theorem hvarOf_of {H : List HE} {i : Nat} {t : TypeId} {p : PV} (e : H[i]? = some (HE.var t p)) : hvarOf H i = p := by simp [hvarOf, e]
theorem hokR_of {H : List HE} {i : Nat} {t : TypeId} {l : List PV} {n : Nat} (e : H[i]? = some (HE.row t l)) (hn : n < l.length) : hokR H t i (n : Int) = true := by
  simp [hokR, e]; omega
theorem hrowOf_of {H : List HE} {i : Nat} {t : TypeId} {l : List PV} (e : H[i]? = some (HE.row t l)) : hrowOf H i = l := by simp [hrowOf, e]
theorem hokS_of {H : List HE} {i n : Nat} {t : TypeId} {l : List PV} (e : H[i]? = some (HE.row t l)) (hn : l.length = n) : hokS H t (.rs i n) = true := by
  simp [hokS, e, hn]
theorem rb_of {n m : Nat} (h : n < m) : (true && decide ((0 : Int) ≤ (n : Int)) && decide ((n : Int) < (m : Int))) = true := by
  simp; omega
theorem push_lt {H : List HE} {x : HE} {i : Nat} (h : i < H.length) : (H ++ [x])[i]? = H[i]? := by simp [List.getElem?_append, h]
theorem push_eq {H : List HE} {x : HE} : (H ++ [x])[H.length]? = some x := by simp
theorem push_some {H : List HE} {x y : HE} {i : Nat} (h : H[i]? = some y) : (H ++ [x])[i]? = some y := by
  rw [push_lt (List.getElem?_eq_some_iff.1 h).1]; exact h
theorem set_ne {H : List HE} {x : HE} {i j : Nat} (h : j ≠ i) : (H.set j x)[i]? = H[i]? := by
  rw [List.getElem?_set_ne h]
theorem set_eq {H : List HE} {x : HE} {i : Nat} (h : i < H.length) : (H.set i x)[i]? = some x := by simp [h]
theorem lt_of_some {H : List HE} {i : Nat} {x : HE} (h : H[i]? = some x) : i < H.length := (List.getElem?_eq_some_iff.1 h).1

theorem vupQ {S A : Type} [Frc S] {body : (S → R) → S → R} (Q : R → Prop) (st : Nat → A → S) (I : Nat → A → Prop) (N : Nat) (hN : ∀ nx a, I N a → Q (body nx (st N a)))
    (h : ∀ i : Nat, i < N → ∀ nx a, I i a → (∀ a', I (i + 1) a' → Q (nx (st (i + 1) a'))) → Q (body nx (st i a))) :
    ∀ (n i : Nat) (a : A), I i a → i ≤ N → N < n + i → Q (loopR body n (st i a))
  | 0, i, a, hI, h1, h2 => by omega
  | n + 1, i, a, hI, h1, h2 => by
    unfold loopR
    rw [Frc.ok]
    by_cases hi : i = N
    · subst hi; exact hN _ _ hI
    · exact h i (by omega) _ a hI fun a' hI' => vupQ Q st I N hN h n (i + 1) a' hI' (by omega) (by omega)
def ints (l : List Nat) : List PV := l.map fun (x : Nat) => PV.int (x : Int)
theorem ints_get {l : List Nat} {n x : Nat} (h : l[n]? = some x) : (ints l)[n]? = some (.int (x : Int)) := by simp [ints, h]
theorem ints_len (l : List Nat) : (ints l).length = l.length := by simp [ints]
def ps (n : Nat) : PV := .agg [.int (wd n 0), .int (wd n 1), .int (wd n 2), .int (wd n 3), .int (wd n 4)]
theorem ps_num (n : Nat) {i : Nat} (hi : i < 5) : PV.num (PV.fld (ps n) i) = (wd n i : Int) := by
  match i, hi with
  | 0, _ => rfl
  | 1, _ => rfl
  | 2, _ => rfl
  | 3, _ => rfl
  | 4, _ => rfl
theorem wd_two (j i : Nat) : wd (2 ^ j) i = if i = j / 64 then 2 ^ (j % 64) else 0 := by
  apply Nat.eq_of_testBit_eq
  intro b
  rw [wd_bit, Nat.testBit_two_pow]
  split
  · rename_i h
    subst h
    rw [Nat.testBit_two_pow]
    by_cases hb : b < 64
    · by_cases e : j % 64 = b
      · simp [hb, e]; omega
      · simp [hb, e]; omega
    · simp [hb]; omega
  · rename_i h
    simp only [Nat.zero_testBit, Bool.and_eq_false_iff, decide_eq_false_iff_not]
    by_cases hb : b < 64
    · exact .inr (by omega)
    · exact .inl hb
theorem ps_put (n j : Nat) (hj : j < 320) : PV.agg (List.set (PV.flds (ps n)) (j / 64) (.int (wd n (j / 64) ||| 2 ^ (j % 64) : Nat))) = ps (n ||| 2 ^ j) := by
  simp only [ps, PV.flds, wd_or, wd_two]
  have h : j / 64 < 5 := by omega
  match e : j / 64, h with
  | 0, _ => simp
  | 1, _ => simp
  | 2, _ => simp
  | 3, _ => simp
  | 4, _ => simp
end Go.X

namespace Go.Proofs.Ytmdlhnojpcnnbaa
open Go Go.X
theorem wrap_t64 {i : Nat} (h : i < 320) : IntKind.wrap .i64 (Int.tdiv (i : Int) 64) = ((i / 64 : Nat) : Int) := by
  rw [tdiv64, wrap_i64 (by omega) (by omega)]
theorem spec_put : Ult fun k => ∀ (h : List HE) (q m i : Nat) ret, h[q]? = some (.var 151 (ps m)) → i < 320 → G96 k (.rp q) (i : Int) h ret = ret (h.set q (.var 151 (ps (m ||| 2 ^ i)))) :=
  Ult.succ (Ult.of fun k h q m i ret hq hi => by
    have hp : (1 : Int) * 2 ^ (min ((Int.tmod (i : Int) 64)).toNat 64) = ((2 ^ (i % 64) : Nat) : Int) := by
      rw [tmod64]
      have : min ((i % 64 : Nat) : Int).toNat 64 = i % 64 := by omega
      rw [this]; simp
    have hlt : 2 ^ (i % 64) < 2 ^ 64 := Nat.pow_lt_pow_right (by omega) (by omega)
    simp only [G96, f96_N, f96_e, PV.isRp, PV.rI, cond_true, wrap_t64 hi, hokV_of hq, hvarOf_of hq, Bool.and_self, hp,
      decide_eq_true (show (0 : Int) ≤ ((i / 64 : Nat) : Int) by omega), decide_eq_true (show ((i / 64 : Nat) : Int) < 5 by omega), Int.toNat_natCast, ps_num m (show i / 64 < 5 by omega)]
    have hw : IntKind.wrap .u64 ((2 ^ (i % 64) : Nat) : Int) = ((2 ^ (i % 64) : Nat) : Int) := by
      generalize 2 ^ (i % 64) = z at hlt
      exact wrap_u64 (by omega) (by omega)
    rw [decide_eq_true (show (0 : Int) ≤ Int.tmod (i : Int) 64 by rw [tmod64]; omega), hw, ib_or (wd_lt m _) hlt, cond_true, ps_put m i hi])
theorem spec_has : Ult fun k => ∀ (h : List HE) (q m i : Nat) ret, h[q]? = some (.var 151 (ps m)) → i < 320 → G75 k (.rp q) (i : Int) h ret = ret (m.testBit i) h :=
  Ult.succ (Ult.of fun k h q m i ret hq hi => by
    simp only [G75, f75_N, f75_e, PV.isRp, PV.rI, cond_true, wrap_t64 hi, hokV_of hq, hvarOf_of hq, Bool.and_self,
      decide_eq_true (show (0 : Int) ≤ ((i / 64 : Nat) : Int) by omega), decide_eq_true (show ((i / 64 : Nat) : Int) < 5 by omega), Int.toNat_natCast, ps_num m (show i / 64 < 5 by omega)]
    rw [decide_eq_true (show (0 : Int) ≤ Int.tmod (i : Int) 64 by rw [tmod64]; omega), cond_true, tmod64, Int.toNat_natCast, bs_has])
theorem spec_por : Ult fun k => ∀ (h : List HE) (q q' m m' : Nat) ret, h[q]? = some (.var 151 (ps m)) → h[q']? = some (.var 151 (ps m')) → q ≠ q' → G98 k (.rp q) (.rp q') h ret = ret (h.set q (.var 151 (ps (m ||| m')))) :=
  Ult.succ ((Ult.ge 6).mono fun k hk h q q' m m' ret hq hq' hne => by
    have key := vupQ (body := f98_w1B k ret (.rp q) (.rp q')) (fun r => r = ret (h.set q (.var 151 (ps (m ||| m')))))
      (fun i (H : List HE) => ((i : Int), H)) (fun i H => ∃ L, L.length = 5 ∧ (∀ j < 5, L[j]? = some (.int (if j < i then ((wd m j ||| wd m' j : Nat) : Int) else (wd m j : Int)))) ∧ H = h.set q (.var 151 (.agg L))) 5 ?_ ?_ k 0 h ?_ (by omega) (by omega)
    · simp only [G98, f98_N, f98_e, f98_w1N]
      exact key
    · rintro nx H ⟨L, hl, hL, rfl⟩
      simp only [f98_w1B, f98_w1b0N, f98_w1b0]
      rw [decide_eq_false (by decide), cond_false]
      congr 3
      obtain ⟨a, b, c, d, e, rfl⟩ : ∃ a b c d e, L = [a, b, c, d, e] := by
        match L, hl with
        | [a, b, c, d, e], _ => exact ⟨_, _, _, _, _, rfl⟩
      have h0 := hL 0 (by omega); have h1 := hL 1 (by omega); have h2 := hL 2 (by omega); have h3 := hL 3 (by omega); have h4 := hL 4 (by omega)
      simp at h0 h1 h2 h3 h4
      simp [ps, wd_or, h0, h1, h2, h3, h4]
    · rintro i hi nx H ⟨L, hl, hL, rfl⟩ hnx
      have e1 : (h.set q (.var 151 (.agg L)))[q]? = some (.var 151 (.agg L)) := set_eq (lt_of_some hq)
      have e2 : (h.set q (.var 151 (.agg L)))[q']? = some (.var 151 (ps m')) := by rw [set_ne hne]; exact hq'
      have e3 : PV.num (PV.fld (.agg L) i) = (wd m i : Int) := by
        have := hL i hi
        simp only [PV.fld, PV.flds, List.getD, this]
        rw [if_neg (by omega)]; rfl
      simp only [f98_w1B, f98_w1b0N, f98_w1b0]
      simp only [PV.isRp, PV.rI, cond_true, hokV_of e1, hokV_of e2, hvarOf_of e1, hvarOf_of e2, Bool.and_self, decide_eq_true (show (0 : Int) ≤ (i : Int) by omega), decide_eq_true (show (i : Int) < 5 by omega), Int.toNat_natCast, ps_num m' hi, e3, ib_or (wd_lt m i) (wd_lt m' i)]
      rw [wrap_succ (by omega)]
      refine hnx _ ⟨L.set i (.int ((wd m i ||| wd m' i : Nat) : Int)), by simp [hl], fun j hj => ?_, by simp [PV.flds]⟩
      by_cases e : i = j
      · subst e; rw [List.getElem?_set_self (by omega), if_pos (by omega)]
      · rw [List.getElem?_set_ne e, hL j hj]
        by_cases hji : j < i
        · rw [if_pos hji, if_pos (by omega)]
        · rw [if_neg hji, if_neg (by omega)]
    · refine ⟨[.int (wd m 0), .int (wd m 1), .int (wd m 2), .int (wd m 3), .int (wd m 4)], rfl, fun j hj => ?_, ?_⟩
      · match j, hj with
        | 0, _ => rfl
        | 1, _ => rfl
        | 2, _ => rfl
        | 3, _ => rfl
        | 4, _ => rfl
      · apply List.ext_getElem?
        intro j
        by_cases e : q = j
        · subst e; rw [set_eq (lt_of_some hq), hq]; rfl
        · rw [set_ne e])
end Go.Proofs.Ytmdlhnojpcnnbaa
