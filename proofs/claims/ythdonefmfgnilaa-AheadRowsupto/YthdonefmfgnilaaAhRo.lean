/- The law AheadRows comes out true. -/
import Derived.Test.YthdonefmfgnilaaAhMo
set_option linter.unusedSimpArgs false
set_option linter.unusedVariables false
set_option maxRecDepth 20000
namespace Go.Proofs.Ythdonefmfgnilaa
open Go Go.X

/-- Where what a core says from a place on may end, in a row. -/
def endsL (s : List Nat) (c : Cor) (i : Nat) : List Nat := (List.range' i (s.length + 1 - i)).filter fun to => (c.ends s i).testBit to
theorem filter_snoc {p : Nat → Bool} {i k : Nat} (hk : i ≤ k) : (List.range' i (k + 1 - i)).filter p = (List.range' i (k - i)).filter p ++ (if p k = true then [k] else []) := by
  rw [show k + 1 - i = (k - i) + 1 by omega, List.range'_concat, List.filter_append]
  simp only [Nat.one_mul]
  rw [show i + (k - i) = k by omega]
  congr 1
  by_cases h : p k = true
  · rw [if_pos h]; simp [h]
  · rw [if_neg h]; simp [h]
theorem spec_Ends (c : Cor) (s : List Nat) (hok : c.Ok) (hsm : c.Sm) (hg : c.good = true) (hf : c.fmd = true) (hcn : c.cnt ≤ 2000) (hs : s.length ≤ 256) (hb : ∀ x ∈ s, x < 256) (i : Nat) (hi : i ≤ s.length) : Ult fun k => ∀ (Q : R → Prop) (ret : PV → R), Q (ret (.list (ints (endsL s c i)))) → Q (G44 k c.pv (.list (ints s)) (i : Int) ret) := by
  have hpk := Pk.flat hf
  have hfl := Cor.flat_length c 0
  refine Ult.succ (((spec_cGood c hok hsm).and ((spec_New c s hcn hs hb).and ((spec_Says c hf).and (Ult.ge 300)))).mono fun k ⟨hgd, hnew, hsays, hge⟩ Q ret hQ => ?_)
  simp (config := { zeta := false }) only [G44, f44_N, f44_e, hgd, hg, PV.els, ints_len]
  rw [decide_eq_false (show ¬ (256 : Int) < (s.length : Int) by omega), decide_eq_false (show ¬ (i : Int) < 0 by omega), decide_eq_false (show ¬ (s.length : Int) < (i : Int) by omega)]
  refine cT rfl (cT rfl (cT rfl (cF rfl ?_)))
  refine hnew Q [] _ (fun h6 T hTP hTs tok _ _ tb _ => ?_)
  have pk : Pk T.P := by rw [hTP]; exact hpk
  have hget : T.P[0]? = some (c, (T.P[0]'pk.pos).2) := by
    have h0 := List.getElem?_eq_getElem pk.pos
    have hc0 : (T.P[0]'pk.pos).1 = c := by
      have : (Cor.flat c 0)[0]? = some (c, Cor.nums 1 c.kidl) := by cases c; simp [Cor.flat]
      rw [← hTP, h0] at this
      injection this with this
      rw [this]
    rw [h0]
    exact congrArg some (Prod.ext hc0 rfl)
  have hat := pk.at' 0 _ _ hget
  have st0 : ((i : Int), ([] : List PV), h6) = (fun (j : Nat) (H : List HE) => ((j : Int), ints ((List.range' i (j - i)).filter fun to => (c.ends s i).testBit to), H)) i h6 := by simp [ints]
  show Q (f44_w1N k (G28 k) (G66 k) (G67 k) ret (.list (ints s)) (i : Int) (.rp T.it) (i : Int) [] h6)
  unfold f44_w1N
  rw [st0]
  refine vupQ (body := f44_w1B k (G28 k) (G66 k) (G67 k) ret (.list (ints s)) (i : Int) (.rp T.it)) Q (fun (j : Nat) (H : List HE) => ((j : Int), ints ((List.range' i (j - i)).filter fun to => (c.ends s i).testBit to), H)) (fun j H => i ≤ j ∧ ∃ M, Tb M H T) (s.length + 1) ?_ ?_ k i h6 ⟨Nat.le_refl _, _, tb⟩ (by omega) (by omega)
  · rintro nx H ⟨_, M, t⟩
    simp (config := { zeta := false }) only [f44_w1B, f44_w1b0N, f44_w1b0, PV.els, ints_len]
    refine cF (decide_eq_false (by omega)) ?_
    exact hQ
  · rintro j hj nx H ⟨hij, M, t⟩ hnx
    simp (config := { zeta := false }) only [f44_w1B, f44_w1b0N, f44_w1b0, PV.els, ints_len]
    refine cT (decide_eq_true (by omega)) ?_
    refine hsays Q M H T 0 i j _ t tok hat (by rw [hTs]; exact hi) (by omega) (fun h' hfr htb => ?_)
    rw [hTs]
    have hwr : IntKind.wrap .i64 ((j : Int) + 1) = ((j + 1 : Nat) : Int) := wrap_succ (by omega)
    have hsn := filter_snoc (p := fun to => (c.ends s i).testBit to) hij
    by_cases hbt : (c.ends s i).testBit j = true
    · refine cT hbt (cT ?_ ?_)
      · have : ((List.range' i (j - i)).filter fun to => (c.ends s i).testBit to).length ≤ 257 := by
          have := List.length_filter_le (fun to => (c.ends s i).testBit to) (List.range' i (j - i))
          rw [List.length_range'] at this
          omega
        rw [show List.length [PV.int (j : Int)] = 1 from rfl, roomyP (by omega) (by omega)]; rfl
      · have := hnx h' ⟨by omega, _, htb⟩
        rw [hwr]
        simp only [hsn, hbt, if_true] at this
        simpa [ints] using this
    · refine cF (by simpa using hbt) ?_
      have := hnx h' ⟨by omega, _, htb⟩
      rw [hwr]
      simp only [hsn, if_neg hbt, List.append_nil] at this
      exact this

theorem spreadN_ne {s : List Nat} {c : Cor} {ks : List Nat} {pa : List Bool} {past : List (Option (List Bool))} {j : Nat} (hj : ∀ k ∈ ks, k ≠ j) : (spreadN s c ks pa past)[j]? = past[j]? := by
  unfold spreadN
  split
  · have h0 := hj _ (List.mem_cons_self ..)
    have h1 := hj _ (List.mem_cons_of_mem _ (List.mem_cons_self ..))
    split
    · rw [List.getElem?_set_ne h0, List.getElem?_set_ne h1, List.getElem?_set_ne h0]
    · rw [List.getElem?_set_ne h1, List.getElem?_set_ne h0]
  · have h0 := hj _ (List.mem_cons_self ..)
    split
    · rw [List.getElem?_set_ne h0, List.getElem?_set_ne h0]
    · rw [List.getElem?_set_ne h0]
  · rfl
theorem runN_keep {P : List (Cor × List Nat)} {s : List Nat} {pa : List Bool} {j : Nat} (hj : ∀ (i : Nat) d ks, 1 ≤ i → P[i]? = some (d, ks) → ∀ k ∈ ks, k ≠ j) : ∀ i, (runN P s pa (i + 1))[j]? = (runN P s pa 1)[j]?
  | 0 => rfl
  | i + 1 => by
    rw [← runN_keep hj i, runN]
    split
    · rename_i c ks b h1 h2
      exact spreadN_ne (hj (i + 1) c ks (by omega) h1)
    · rfl
/-- The row of one behind the other. -/
theorem rows_at (c d : Cor) (s : List Nat) (L : List Bool) : (Cor.flat (.mk 3 0 0 [c, d]) 0)[0]? = some (.mk 3 0 0 [c, d], [1, 1 + c.cnt]) ∧ (∃ ks, (Cor.flat (.mk 3 0 0 [c, d]) 0)[1]? = some (c, ks)) ∧ (∃ ks, (Cor.flat (.mk 3 0 0 [c, d]) 0)[1 + c.cnt]? = some (d, ks)) ∧
    (runN (Cor.flat (.mk 3 0 0 [c, d]) 0) s L (Cor.flat (.mk 3 0 0 [c, d]) 0).length)[0]? = some (some L) ∧ (runN (Cor.flat (.mk 3 0 0 [c, d]) 0) s L (Cor.flat (.mk 3 0 0 [c, d]) 0).length)[1]? = some (some (bothP s L d)) ∧ (runN (Cor.flat (.mk 3 0 0 [c, d]) 0) s L (Cor.flat (.mk 3 0 0 [c, d]) 0).length)[1 + c.cnt]? = some (some L) := by
  have hP : Cor.flat (.mk 3 0 0 [c, d]) 0 = (.mk 3 0 0 [c, d], [1, 1 + c.cnt]) :: (Cor.flat c 1 ++ Cor.flat d (1 + c.cnt)) := by simp [Cor.flat, Cor.flats, Cor.nums]
  have hl := Cor.flat_length (.mk 3 0 0 [c, d]) 0
  have h1c : ∀ b, (Cor.flat c b)[0]? = some (c, Cor.nums (b + 1) c.kidl) := fun b => by cases c; simp [Cor.flat]
  have h1d : ∀ b, (Cor.flat d b)[0]? = some (d, Cor.nums (b + 1) d.kidl) := fun b => by cases d; simp [Cor.flat]
  have pc := Cor.cnt_pos c
  have pd := Cor.cnt_pos d
  have lc := Cor.flat_length c 1
  have hcnt : (Cor.mk 3 0 0 [c, d]).cnt = 1 + (c.cnt + d.cnt) := by simp [Cor.cnt, Cor.cnts]
  generalize hPP : Cor.flat (.mk 3 0 0 [c, d]) 0 = P at *
  have g0 : P[0]? = some (.mk 3 0 0 [c, d], [1, 1 + c.cnt]) := by rw [hP]; rfl
  have hkeep : ∀ (j : Nat), (j = 0 ∨ j = 1 ∨ j = 1 + c.cnt) → ∀ (i : Nat) e ks, 1 ≤ i → P[i]? = some (e, ks) → ∀ k ∈ ks, k ≠ j := by
    intro j hj i e ks hi he k hk
    obtain ⟨i, rfl⟩ : ∃ i', i = i' + 1 := ⟨i - 1, by omega⟩
    rw [hP, List.getElem?_cons_succ, List.getElem?_append] at he
    split at he
    · rename_i hlt
      have := Cor.flat_kids c 1 i e ks he k hk
      omega
    · rename_i hge
      have := Cor.flat_kids d (1 + c.cnt) _ e ks he k hk
      omega
  obtain ⟨N, hN⟩ : ∃ N, P.length = N + 1 := ⟨P.length - 1, by omega⟩
  have r0 : (runN P s L 0)[0]? = some (some L) := by rw [runN, List.getElem?_set_self (by simp; omega)]
  have r1 : runN P s L 1 = (((runN P s L 0).set 1 (some L)).set (1 + c.cnt) (some L)).set 1 (some (bothP s L d)) := by
    rw [show runN P s L 1 = (match P[0]?, (runN P s L 0)[0]? with | some (c, ks), some (some b) => spreadN s c ks b (runN P s L 0) | _, _ => runN P s L 0) from rfl, g0, r0]
    simp [spreadN]
  have hrl : (runN P s L 0).length = P.length := runN_length P s L 0
  refine ⟨g0, ⟨Cor.nums 2 c.kidl, ?_⟩, ⟨Cor.nums (1 + c.cnt + 1) d.kidl, ?_⟩, ?_, ?_, ?_⟩
  · rw [hP, List.getElem?_cons_succ, List.getElem?_append_left (by omega)]; exact h1c 1
  · rw [hP, show 1 + c.cnt = c.cnt + 1 by omega, List.getElem?_cons_succ, List.getElem?_append_right (by omega), lc, Nat.sub_self]
    have := h1d (c.cnt + 1)
    exact this
  · rw [hN, runN_keep (hkeep 0 (.inl rfl)), r1, List.getElem?_set_ne (by omega), List.getElem?_set_ne (by omega), List.getElem?_set_ne (by omega)]; exact r0
  · rw [hN, runN_keep (hkeep 1 (.inr (.inl rfl))), r1, List.getElem?_set_self (by simp; omega)]
  · rw [hN, runN_keep (hkeep _ (.inr (.inr rfl))), r1, List.getElem?_set_ne (by omega), List.getElem?_set_self (by simp; omega)]
theorem can_iff (s : List Nat) (c d : Cor) (hd : d.fmd = true) (L : List Bool) (i : Nat) : ((endsL s c i).any fun x => intoN s L d x x) = intoN s L (.mk 3 0 0 [c, d]) i i := by
  rw [Bool.eq_iff_iff]
  simp only [endsL, intoN, List.any_eq_true, List.mem_filter, Bool.and_eq_true, List.mem_range'_1, Cor.ends3, Cor.both_bit]
  constructor
  · rintro ⟨m, ⟨⟨h1, h2⟩, h3⟩, to, ⟨h4, h5⟩, h6, h7⟩
    exact ⟨to, ⟨by omega, by omega⟩, h6, m, ⟨h1, h2⟩, h3, h7⟩
  · rintro ⟨to, ⟨h1, h2⟩, h3, m, ⟨h4, h5⟩, h6, h7⟩
    have := Cor.ends_ge s d hd m to h7
    exact ⟨m, ⟨⟨h4, h5⟩, h6⟩, to, ⟨this, by omega⟩, h3, h7⟩
theorem can_both (s : List Nat) (c d : Cor) (L : List Bool) (i : Nat) : intoN s (bothP s L d) c i i = ((endsL s c i).any fun x => intoN s L d x x) := by
  rw [Bool.eq_iff_iff]
  simp only [endsL, intoN, List.any_eq_true, List.mem_filter, Bool.and_eq_true, List.mem_range'_1]
  constructor
  · rintro ⟨m, ⟨h1, h2⟩, h3, h4⟩
    refine ⟨m, ⟨⟨h1, h2⟩, h4⟩, ?_⟩
    rw [bothP, List.getD, List.getElem?_map, List.getElem?_range (by omega)] at h3
    simpa [intoN, List.any_eq_true, List.mem_range'_1] using h3
  · rintro ⟨m, ⟨⟨h1, h2⟩, h4⟩, h3⟩
    refine ⟨m, ⟨h1, h2⟩, ?_, h4⟩
    rw [bothP, List.getD, List.getElem?_map, List.getElem?_range (by omega)]
    simpa [intoN, List.any_eq_true, List.mem_range'_1] using h3
end Go.Proofs.Ythdonefmfgnilaa
