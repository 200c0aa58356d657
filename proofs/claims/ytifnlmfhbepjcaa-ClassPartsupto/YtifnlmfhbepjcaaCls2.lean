/- Class by class: names, wholes, those that have a byte; the document's own. -/
import Derived.Test.YtifnlmfhbepjcaaCls
import Derived.Test.YtifnlmfhbepjcaaRef0
set_option linter.unusedSimpArgs false
set_option linter.unusedVariables false
set_option maxRecDepth 20000
namespace Go.Proofs.Ytifnlmfhbepjcaa
open Go Go.X

def nmC (c : List Int × Nat) : PV := PV.str c.1
theorem spec_Names : Ult fun k => ∀ ret, G45 k ret = ret (.list (cls.map nmC)) := by
  have hL : cls.length = 12 := rfl
  have a1 : Ult fun k => ∀ p ret, G72 k p ret = ret true := Ult.succ (Ult.of fun k p ret => by
    simp only [G72, f72_N, f72_e])
  have a2 : Ult fun k => ∀ ret, G69 k ret = ret (.list (cls.map nmC)) := Ult.succ ((spec_classes.and (a1.and (Ult.ge 100))).mono fun k ⟨h1, h2, h3⟩ ret => by
    simp only [G69, f69_N, f69_e, h1, f69_w1N]
    have := vup (body := f69_w1B k (G66 k) (G72 k) ret (.list (cls.map pvC))) (fun (i : Nat) (l : List PV) => ((i : Int), l)) (fun i l => l.length ≤ i) (res := fun i l => ret (.list (l ++ (cls.drop i).map nmC))) cls.length ?_ ?_ k 0 [] (by simp) (by omega) (by omega)
    · exact this
    · intro nx l _
      simp only [f69_w1B, f69_w1b0N, f69_w1b0, PV.els, List.length_map, decide_eq_false (show ¬ (cls.length : Int) < (cls.length : Int) by omega), cond_false, List.drop_length]
      simp
    · intro i hi nx l hl hnx
      have e0 : PV.fld (pvC cls[i]) 0 = .str cls[i].1 := rfl
      simp only [f69_w1B, f69_w1b0N, f69_w1b0, PV.els, List.length_map, decide_eq_true (show (i : Int) < (cls.length : Int) by omega), decide_eq_true (show (0 : Int) ≤ (i : Int) by omega), Bool.and_self, cond_true, getD_map pvC hi, wrap_succ (show i < 1099511627777 by omega), e0, PV.chars, h2]
      rw [roomy_of (by simp; omega) (by simp; omega)]
      refine (hnx _ (by simp; omega)).trans ?_
      rw [drop_cons hi]
      simp only [List.map_cons, nmC, List.append_assoc, List.cons_append, List.nil_append])
  exact Ult.succ (a2.mono fun k h ret => by
    simp only [G45, f45_N, f45_e, h])

theorem spec_In (b : Nat) (hb : b < 256) : Ult fun k => ∀ ret, G43 k (b : Int) ret = ret (.list ((cls.filter fun c => c.2.testBit b).map nmC)) := by
  have a1 : Ult fun k => ∀ n ret, G71 k (bs n) (b : Int) ret = ret (n.testBit b) (b : Int) := Ult.succ (spec_Has.mono fun k h n ret => by
    simp only [G71, f71_N, f71_e, h n b _ hb])
  have a2 : Ult fun k => ∀ ret, G69v2 k (b : Int) ret = ret (.list ((cls.filter fun c => c.2.testBit b).map nmC)) (b : Int) := Ult.succ ((spec_classes.and (a1.and (Ult.ge 100))).mono fun k ⟨h1, h2, h3⟩ ret => by
    simp only [G69v2, f69v2_N, f69v2_e, h1, f69v2_w1N]
    exact those_loop (fun n => n.testBit b) (b : Int) (G71 k) ret _ (fun nx n l g => by
      simp only [f69v2_w1B, f69v2_w1b0N, f69v2_w1b0, PV.els]; rfl) (fun n r _ => h2 n r) k h3)
  exact Ult.succ (a2.mono fun k h ret => by
    simp only [G43, f43_N, f43_e, h])

/-- The first class of just such a set. -/
def clsAs (s : Nat) : Option (List Int × Nat) := cls.find? fun c => decide (c.2 = s)
theorem filter_head {α : Type} (p : α → Bool) (l : List α) : (l.filter p).head? = l.find? p := by
  induction l with
  | nil => rfl
  | cons a t ih => cases h : p a <;> simp [List.filter, List.find?, h, ih]
theorem spec_Whole (s : Nat) (hs : s < 2 ^ 256) : Ult fun k => ∀ ret, G40 k (bs s) ret = match clsAs s with | some c => ret c.1 true | none => ret [] false := by
  have a1 : Ult fun k => ∀ n ret, n < 2 ^ 256 → G70 k (bs n) (bs s) ret = ret (decide (n = s)) (bs s) := Ult.succ (Ult.of fun k n ret hn => by
    simp only [G70, f70_N, f70_e, bs_beq hn hs])
  have a2 : Ult fun k => ∀ ret, G69v1 k (bs s) ret = ret (.list ((cls.filter fun c => decide (c.2 = s)).map nmC)) (bs s) := Ult.succ ((spec_classes.and (a1.and (Ult.ge 100))).mono fun k ⟨h1, h2, h3⟩ ret => by
    simp only [G69v1, f69v1_N, f69v1_e, h1, f69v1_w1N]
    exact those_loop (fun n => decide (n = s)) (bs s) (G70 k) ret _ (fun nx n l g => by
      simp only [f69v1_w1B, f69v1_w1b0N, f69v1_w1b0, PV.els]; rfl) (fun n r hn => h2 n r hn) k h3)
  refine Ult.succ (a2.mono fun k h ret => ?_)
  simp only [G40, f40_N, f40_e, h, PV.els, List.length_map]
  have hh := filter_head (fun c : List Int × Nat => decide (c.2 = s)) cls
  unfold clsAs
  cases hc : cls.filter (fun c => decide (c.2 = s)) with
  | nil =>
    rw [hc] at hh
    rw [← hh]; rfl
  | cons c t =>
    rw [hc] at hh
    rw [← hh]
    simp only [List.length_cons, decide_eq_false (show ¬ ((t.length + 1 : Nat) : Int) = 0 by omega), decide_eq_true (show (0 : Int) < ((t.length + 1 : Nat) : Int) by omega), decide_eq_true (show (0 : Int) ≤ 0 by omega), Bool.and_self, cond_true, cond_false]
    rfl

theorem bl_rng (lo hi : Nat) : (bl fun i => decide (lo ≤ i) && decide (i ≤ hi)) = bl (rng lo hi).testBit := bl_congr fun i hi2 => by rw [rng_bit, decide_eq_true hi2, Bool.true_and]
theorem bl_of (l : List Nat) : (bl fun i => decide (i ∈ l)) = bl (ofL l).testBit := bl_congr fun i _ => (ofL_bit l i).symm
theorem bl_or (n m : Nat) : (bl fun j => n.testBit j || m.testBit j) = bl (n ||| m).testBit := bl_congr fun i _ => (Nat.testBit_or ..).symm
theorem bl_and (n m : Nat) : (bl fun j => n.testBit j && m.testBit j) = bl (n &&& m).testBit := bl_congr fun i _ => (Nat.testBit_and ..).symm
theorem bl_not (n : Nat) : (bl fun j => !n.testBit j) = bl (notN n).testBit := bl_congr fun i hi => by rw [notN_bit, decide_eq_true hi, Bool.true_xor]
theorem bl_none : (bl fun _ => false) = bl (0 : Nat).testBit := bl_congr fun i _ => (Nat.zero_testBit i).symm
theorem beqs_bools (f g : Nat → Bool) : ∀ l : List Nat, PV.beqs (l.map fun i => PV.bool (f i)) (l.map fun i => PV.bool (g i)) = l.all fun i => f i == g i
  | [] => rfl
  | a :: l => by simp only [List.map_cons, PV.beqs, PV.beq, List.all_cons, beqs_bools f g l]
theorem bl_beq {n m : Nat} (hn : n < 2 ^ 256) (hm : m < 2 ^ 256) : PV.beq (bl n.testBit) (bl m.testBit) = decide (n = m) := by
  have e : PV.beq (bl n.testBit) (bl m.testBit) = (List.range 256).all fun i => n.testBit i == m.testBit i := by
    unfold bl
    rw [PV.beq, beqs_bools]
  rw [e, Bool.eq_iff_iff, decide_eq_true_eq, List.all_eq_true]
  constructor
  · intro h
    refine set_ext hn hm fun i hi => ?_
    simpa using h i (List.mem_range.2 hi)
  · rintro rfl i _; simp

theorem kXd_eq : kDi ||| (rng 65 70 ||| rng 97 102) = kXd := (Nat.or_assoc ..).symm
theorem kSp_eq : ofL [32] ||| rng 9 13 = kSp := by decide +kernel
theorem kPr_eq : rng 32 126 = kPr := by decide +kernel
theorem spec_rNamed : Ult fun k => ∀ (s : List Int) ret, G39 k s ret = match clsOf s with | some c => ret (bl c.2.testBit) true | none => ret (bl (0 : Nat).testBit) false := by
  have R : ∀ lo hi : Nat, lo < 256 → hi < 256 → Ult fun k => ∀ ret, G30 k (lo : Int) (hi : Int) ret = ret (bl (rng lo hi).testBit) := fun lo hi h1 h2 => spec_rRange.mono fun k h ret => by rw [h lo hi ret h1 h2, bl_rng]
  have O : Ult fun k => ∀ (n m : Nat) ret, G31 k (bl n.testBit) (bl m.testBit) ret = ret (bl (n ||| m).testBit) := spec_rOr.mono fun k h n m ret => by rw [h, bl_or]
  have A : Ult fun k => ∀ (n m : Nat) ret, G32 k (bl n.testBit) (bl m.testBit) ret = ret (bl (n &&& m).testBit) := spec_rAnd.mono fun k h n m ret => by rw [h, bl_and]
  have N : Ult fun k => ∀ (n : Nat) ret, G33 k (bl n.testBit) ret = ret (bl (notN n).testBit) := spec_rNot.mono fun k h n ret => by rw [h, bl_not]
  have F : ∀ l : List Nat, (∀ b ∈ l, b < 256) → l.length ≤ 1099511627776 → Ult fun k => ∀ ret, G29 k (.list (pvL l)) ret = ret (bl (ofL l).testBit) := fun l h1 h2 => (spec_rOf l h1 h2).mono fun k h ret => by rw [h, bl_of]
  refine Ult.succ (((R 65 90 (by omega) (by omega)).and ((R 97 122 (by omega) (by omega)).and ((R 48 57 (by omega) (by omega)).and ((R 33 126 (by omega) (by omega)).and ((R 0 31 (by omega) (by omega)).and ((R 9 13 (by omega) (by omega)).and ((R 65 70 (by omega) (by omega)).and ((R 97 102 (by omega) (by omega)).and ((R 32 126 (by omega) (by omega)).and (O.and (A.and (N.and ((F [32, 9] (by decide) (by decide)).and ((F [127] (by decide) (by decide)).and (F [32] (by decide) (by decide)))))))))))))))).mono fun k ⟨r1, r2, r3, r4, r5, r6, r7, r8, r9, o, a, n, f1, f2, f3⟩ s ret => ?_)
  simp only [Int.cast_ofNat_Int, Int.natCast_zero] at r1 r2 r3 r4 r5 r6 r7 r8 r9
  have e1 : PV.list [PV.int 32, PV.int 9] = .list (pvL [32, 9]) := rfl
  have e2 : PV.list [PV.int 127] = .list (pvL [127]) := rfl
  have e3 : PV.list [PV.int 32] = .list (pvL [32]) := rfl
  simp only [G39, f39_N, f39_e, r1, r2, r3, r4, r5, r6, r7, r8, r9, o, a, n, e1, e2, e3, f1, f2, f3, bl_zero, bl_none]
  by_cases h1 : s = [117, 112, 112, 101, 114]
  · subst h1; rfl
  by_cases h2 : s = [108, 111, 119, 101, 114]
  · subst h2; rfl
  by_cases h3 : s = [97, 108, 112, 104, 97]
  · subst h3; rfl
  by_cases h4 : s = [100, 105, 103, 105, 116]
  · subst h4; rfl
  by_cases h5 : s = [97, 108, 110, 117, 109]
  · subst h5; rfl
  by_cases h6 : s = [120, 100, 105, 103, 105, 116]
  · subst h6
    have e : clsOf [120, 100, 105, 103, 105, 116] = some ([120, 100, 105, 103, 105, 116], kXd) := rfl
    rw [e]
    simp only [← kXd_eq]; rfl
  by_cases h7 : s = [98, 108, 97, 110, 107]
  · subst h7; rfl
  by_cases h8 : s = [115, 112, 97, 99, 101]
  · subst h8
    have e : clsOf [115, 112, 97, 99, 101] = some ([115, 112, 97, 99, 101], kSp) := rfl
    rw [e]
    simp only [← kSp_eq]; rfl
  by_cases h9 : s = [99, 110, 116, 114, 108]
  · subst h9; rfl
  by_cases h10 : s = [112, 117, 110, 99, 116]
  · subst h10; rfl
  by_cases h11 : s = [103, 114, 97, 112, 104]
  · subst h11; rfl
  by_cases h12 : s = [112, 114, 105, 110, 116]
  · subst h12
    have e : clsOf [112, 114, 105, 110, 116] = some ([112, 114, 105, 110, 116], kPr) := rfl
    rw [e]
    simp only [← kPr_eq]; rfl
  have e : clsOf s = none := by
    unfold clsOf
    rw [List.find?_eq_none]
    intro c hc
    simp only [cls, List.mem_cons, List.not_mem_nil, or_false] at hc
    simp only [decide_eq_true_eq]
    rintro rfl
    rcases hc with rfl | rfl | rfl | rfl | rfl | rfl | rfl | rfl | rfl | rfl | rfl | rfl
    · exact h5 rfl
    · exact h3 rfl
    · exact h7 rfl
    · exact h9 rfl
    · exact h4 rfl
    · exact h11 rfl
    · exact h2 rfl
    · exact h12 rfl
    · exact h10 rfl
    · exact h8 rfl
    · exact h1 rfl
    · exact h6 rfl
  rw [e]
  simp only [decide_eq_false h1, decide_eq_false h2, decide_eq_false h3, decide_eq_false h4, decide_eq_false h5, decide_eq_false h6, decide_eq_false h7, decide_eq_false h8, decide_eq_false h9, decide_eq_false h10, decide_eq_false h11, decide_eq_false h12, cond_false]

theorem clsOf_get {i : Nat} (h : i < cls.length) : clsOf cls[i].1 = some cls[i] := by
  have h : i < 12 := h
  have : i = 0 ∨ i = 1 ∨ i = 2 ∨ i = 3 ∨ i = 4 ∨ i = 5 ∨ i = 6 ∨ i = 7 ∨ i = 8 ∨ i = 9 ∨ i = 10 ∨ i = 11 := by omega
  rcases this with rfl | rfl | rfl | rfl | rfl | rfl | rfl | rfl | rfl | rfl | rfl | rfl <;> rfl
theorem spec_rNames : Ult fun k => ∀ ret, G44 k ret = ret (.list (cls.map nmC)) :=
  Ult.succ (Ult.of fun k ret => by simp only [G44, f44_N, f44_e]; rfl)
theorem spec_rWhole (s : Nat) (hs : s < 2 ^ 256) : Ult fun k => ∀ ret, G41 k (bl s.testBit) ret = match clsAs s with | some c => ret c.1 true | none => ret [] false := by
  have hL : cls.length = 12 := rfl
  refine Ult.succ ((spec_rNamed.and (spec_rNames.and (Ult.ge 100))).mono fun k ⟨h1, h2, h3⟩ ret => ?_)
  simp only [G41, f41_N, f41_e, h2, f41_w1N]
  have := loopR_up (body := f41_w1B k (G39 k) (G44 k) ret (bl s.testBit) (.list (cls.map nmC))) (res := fun i => match (cls.drop i).find? fun c => decide (c.2 = s) with | some c => ret c.1 true | none => ret [] false) cls.length ?_ ?_ k 0 (by omega) (by omega)
  · exact this
  · intro nx
    simp only [f41_w1B, f41_w1b0N, f41_w1b0, PV.els, List.length_map, decide_eq_false (show ¬ (cls.length : Int) < (cls.length : Int) by omega), cond_false, List.drop_length]
    rfl
  · intro i hi nx hnx
    have e0 : PV.chars (nmC cls[i]) = cls[i].1 := rfl
    simp only [f41_w1B, f41_w1b0N, f41_w1b0, PV.els, List.length_map, decide_eq_true (show (i : Int) < (cls.length : Int) by omega), decide_eq_true (show (0 : Int) ≤ (i : Int) by omega), Bool.and_self, cond_true, getD_map nmC hi, wrap_succ (show i < 1099511627777 by omega), e0, h1, clsOf_get hi, bl_beq (cls_lt _ (List.getElem_mem hi)) hs]
    rw [drop_cons hi]
    by_cases hp : cls[i].2 = s
    · rw [List.find?_cons_of_pos (by simpa using hp), decide_eq_true hp]
      rfl
    · simp only [decide_eq_false hp, cond_false, List.find?, hnx]
theorem spec_own : Ult fun k => ∀ n ret, G42 k (bs n) ret = ret (bl n.testBit) :=
  Ult.succ (spec_From.mono fun k h n ret => by simp only [G42, f42_N, f42_e, h])
theorem spec_awake : Ult fun k => ∀ ret, G37 k ret = ret true :=
  Ult.succ ((spec_Named.and (spec_Len.and (spec_Has.and spec_Names))).mono fun k ⟨h1, h2, h3, h4⟩ ret => by
    have e1 : clsOf [100, 105, 103, 105, 116] = some ([100, 105, 103, 105, 116], kDi) := rfl
    have e2 : (lst kDi).length = 10 := by decide +kernel
    have e3 := h3 kDi 55
    have e4 : kDi.testBit 55 = true := by decide +kernel
    simp only [Int.cast_ofNat_Int] at e3
    simp only [G37, f37_N, f37_e, h1, e1, h2, e2, beq_self_eq_true, cond_true]
    rw [show decide (((10 : Nat) : Int) = 10) = true from rfl, beq_self_eq_true, cond_true, e3 _ (by omega), e4]
    simp only [beq_self_eq_true, cond_true, h4]
    rfl)

theorem ClassSays.main (s : List Int) (n : Nat) (b : Int) (hs : ∃ b : ByteArray, s = chars b ∧ b.size ≤ maxLen) (hn : n < 2 ^ 256) (hb : (Lit.int .u8 b).wf = true) : ∃ k, G9 k s (bs n) b (fun y => some ([.bool y], [])) = some ([.bool true], []) := by
  have hL : cls.length = 12 := rfl
  have hb := wf_u8 hb
  obtain ⟨b, rfl⟩ : ∃ m : Nat, b = (m : Int) := ⟨b.toNat, by omega⟩
  have hb : b < 256 := by omega
  refine Ult.get (Ult.succ ((spec_awake.and (spec_Named.and (spec_rNamed.and ((spec_Whole n hn).and (spec_own.and ((spec_rWhole n hn).and ((spec_In b hb).and (spec_rNames.and (Ult.ge 100))))))))).mono fun k ⟨h0, h1, h2, h3, h4, h5, h6, h7, h8⟩ => ?_))
  have e1 : ∀ r : PV → Bool → R, G38 k s r = r (bs (match clsOf s with | some c => c.2 | none => 0)) (clsOf s).isSome := fun r => by rw [h1]; cases clsOf s <;> rfl
  have e2 : ∀ r : PV → Bool → R, G39 k s r = r (bl (match clsOf s with | some c => c.2 | none => 0 : Nat).testBit) (clsOf s).isSome := fun r => by rw [h2]; cases clsOf s <;> rfl
  have e3 : ∀ r : List Int → Bool → R, G40 k (bs n) r = r (match clsAs n with | some c => c.1 | none => []) (clsAs n).isSome := fun r => by rw [h3]; cases clsAs n <;> rfl
  have e5 : ∀ r : List Int → Bool → R, G41 k (bl n.testBit) r = r (match clsAs n with | some c => c.1 | none => []) (clsAs n).isSome := fun r => by rw [h5]; cases clsAs n <;> rfl
  simp only [G9, f9_N, f9_e, h0, e1, e2, e3, h4, e5, h6, h7, Bool.not_true, cond_false, f9_w1N]
  generalize (match clsOf s with | some c => c.2 | none => 0 : Nat) = x
  generalize (clsOf s).isSome = ok
  generalize (match clsAs n with | some c => c.1 | none => [] : List Int) = w
  generalize (clsAs n).isSome = is
  have := vup (body := f9_w1B k (G37 k) (G38 k) (G39 k) (G40 k) (G41 k) (G42 k) (G43 k) (G44 k) (fun y => some ([.bool y], [])) (b : Int) (bs x) ok (bl x.testBit) ok w is w is (.list ((cls.filter fun c => c.2.testBit b).map nmC)) (.list (cls.map nmC))) (fun (i : Nat) (a : Nat) => ((a : Int), (i : Int))) (fun i a => a = ((cls.take i).filter fun c => c.2.testBit b).length) (res := fun i a => (some ([SV.bool true], []) : R)) cls.length ?_ ?_ k 0 0 (by simp) (by omega) (by omega)
  · exact this
  · intro nx a ha
    rw [List.take_length] at ha
    subst ha
    simp only [f9_w1B, f9_w1b0N, f9_w1b0, PV.els, List.length_map, decide_eq_false (show ¬ (cls.length : Int) < (cls.length : Int) by omega), cond_false, h4, beq_refl, beq_self_eq_true, cond_true, decide_true]
  · intro i hi nx a ha hnx
    have e0 : PV.chars (nmC cls[i]) = cls[i].1 := rfl
    have eb : ∀ f : Nat → Bool, PV.tt (PV.fld (bl f) ((b : Int)).toNat) = f b := fun f => bl_tt f hb
    have et := List.take_succ_eq_append_getElem hi
    have hn1 := fun (a : Nat) h => hnx a h
    simp only [et, List.filter_append, List.length_append] at hn1
    simp only [f9_w1B, f9_w1b0N, f9_w1b0, PV.els, List.length_map, decide_eq_true (show (i : Int) < (cls.length : Int) by omega), decide_eq_true (show (0 : Int) ≤ (i : Int) by omega), decide_eq_true (show (0 : Int) ≤ (b : Int) by omega), decide_eq_true (show (b : Int) < 256 by omega), Bool.and_self, cond_true, getD_map nmC hi, wrap_succ (show i < 1099511627777 by omega), e0, h2, clsOf_get hi, eb]
    by_cases hp : cls[i].2.testBit b = true
    · rw [hp, cond_true]
      have el : (cls.filter fun c => c.2.testBit b) = ((cls.take i).filter fun c => c.2.testBit b) ++ (cls[i] :: ((cls.drop (i + 1)).filter fun c => c.2.testBit b)) := by
        have : cls = cls.take i ++ (cls[i] :: cls.drop (i + 1)) := by rw [← drop_cons hi, List.take_append_drop]
        conv => lhs; rw [this]
        rw [List.filter_append, List.filter_cons, if_pos hp]
      have hlt : a < (cls.filter fun c => c.2.testBit b).length := by rw [el, ha, List.length_append, List.length_cons]; omega
      have hge : (cls.filter fun c => c.2.testBit b)[a] = cls[i] := by
        simp only [el, ha]
        simp
      have hle : ((cls.take i).filter fun c => c.2.testBit b).length ≤ 12 := by
        have h1 := List.length_filter_le (fun c : List Int × Nat => c.2.testBit b) (cls.take i)
        rw [List.length_take] at h1; omega
      simp only [decide_eq_false (show ¬ ((cls.filter fun c => c.2.testBit b).length : Int) ≤ (a : Int) by omega), beq_self_eq_true, cond_true, decide_eq_true (show (0 : Int) ≤ (a : Int) by omega), decide_eq_true (show (a : Int) < ((cls.filter fun c => c.2.testBit b).length : Int) by omega), Bool.and_self, getD_map nmC hlt, hge, e0, decide_true, Bool.not_true, cond_false]
      rw [wrap_succ (by omega)]
      exact hn1 _ (by simp [ha, hp])
    · have hp' : cls[i].2.testBit b = false := by simpa using hp
      rw [hp', cond_false]
      exact hn1 _ (by simp [ha, hp'])
end Go.Proofs.Ytifnlmfhbepjcaa
