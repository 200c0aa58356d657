/- The laws BytesetLaws, BytesetList, BytesetKnown come out true. -/
import Derived.Test.YtifnlmfhbepjcaaRef1
set_option linter.unusedSimpArgs false
set_option linter.unusedVariables false
set_option maxRecDepth 20000
namespace Go.Proofs.Ytifnlmfhbepjcaa
open Go Go.X

def orR : List (Nat × Nat) → Nat
  | [] => 0
  | r :: l => rng r.1 r.2 ||| orR l
theorem orR_bit : ∀ (l : List (Nat × Nat)) (x : Nat), (orR l).testBit x = true ↔ x < 256 ∧ ∃ a ∈ l, a.1 ≤ x ∧ x ≤ a.2
  | [], x => by simp [orR]
  | r :: l, x => by
    rw [orR, Nat.testBit_or, Bool.or_eq_true, rng_bit, orR_bit l x]
    simp only [Bool.and_eq_true, decide_eq_true_eq, List.mem_cons, exists_eq_or_imp]
    constructor
    · rintro (⟨h1, h2, h3⟩ | ⟨h1, h2⟩)
      · exact ⟨h1, .inl ⟨h2, h3⟩⟩
      · exact ⟨h1, .inr h2⟩
    · rintro ⟨h1, h2 | h2⟩
      · exact .inl ⟨h1, h2.1, h2.2⟩
      · exact .inr ⟨h1, h2⟩
theorem orR_runs {n : Nat} (hn : n < 2 ^ 256) : orR (runsOf n) = n := by
  apply Nat.eq_of_testBit_eq; intro x
  rw [Bool.eq_iff_iff, orR_bit, runs_mem n x hn]
  constructor
  · exact fun h => h.2
  · rintro ⟨a, ha, h1, h2⟩
    exact ⟨by have := (runs_lt ha).2; omega, a, ha, h1, h2⟩
theorem card_eq (n : Nat) : (lst n).length = cnt n.testBit 0 256 := by unfold lst lstF; rw [filter_cnt]
theorem cnt_or_and (f g : Nat → Bool) : ∀ k i, cnt (fun j => f j || g j) i k + cnt (fun j => f j && g j) i k = cnt f i k + cnt g i k
  | 0, _ => rfl
  | k + 1, i => by
    have := cnt_or_and f g k (i + 1)
    simp only [cnt]
    by_cases hf : f i = true <;> by_cases hg : g i = true <;> simp [hf, hg] <;> omega
theorem cnt_not (f : Nat → Bool) : ∀ k i, cnt f i k + cnt (fun j => !f j) i k = k
  | 0, _ => rfl
  | k + 1, i => by
    have := cnt_not f k (i + 1)
    simp only [cnt]
    by_cases hf : f i = true <;> simp [hf] <;> omega
theorem card_or_and (n m : Nat) : (lst (n ||| m)).length + (lst (n &&& m)).length = (lst n).length + (lst m).length := by
  have e1 : cnt (n ||| m).testBit 0 256 = cnt (fun j => n.testBit j || m.testBit j) 0 256 := cnt_congr fun t ht => by rw [Nat.testBit_or]
  have e2 : cnt (n &&& m).testBit 0 256 = cnt (fun j => n.testBit j && m.testBit j) 0 256 := cnt_congr fun t ht => by rw [Nat.testBit_and]
  rw [card_eq, card_eq, card_eq, card_eq, e1, e2, cnt_or_and]
theorem card_not (n : Nat) : (lst n).length + (lst (notN n)).length = 256 := by
  have e1 : cnt (notN n).testBit 0 256 = cnt (fun j => !n.testBit j) 0 256 := cnt_congr fun t ht => by
    rw [notN_bit, decide_eq_true (show 0 + t < 256 by omega)]; cases n.testBit (0 + t) <;> rfl
  rw [card_eq, card_eq, e1, cnt_not]
theorem bit_not {n i : Nat} (hi : i < 256) : (notN n).testBit i = !n.testBit i := by
  rw [notN_bit, decide_eq_true hi]; cases n.testBit i <;> rfl
theorem cmpS_zero {n m : Nat} (hn : n < 2 ^ 256) (hm : m < 2 ^ 256) : cmpS n m = 0 ↔ n = m := by
  unfold cmpS
  rw [lexC_zero]
  constructor
  · intro h
    refine lst_inj hn hm ?_
    exact (List.map_inj_right (f := fun (b : Nat) => (b : Int)) (fun a b h => Int.natCast_inj.1 h)).1 h
  · rintro rfl; rfl

theorem spec_Of0 : Ult fun k => ∀ ret, G18 k (.list []) ret = ret (bs 0) := spec_Of [] (by simp) (by simp)

theorem BytesetLaws.main (n m d : Nat) (hn : n < 2 ^ 256) (hm : m < 2 ^ 256) (hd : d < 2 ^ 256) : ∃ k, G6 k (bs n) (bs m) (bs d) (fun y => some ([.bool y], [])) = some ([.bool true], []) := by
  refine Ult.get (Ult.succ ((spec_awake1.and (spec_Runs.and (spec_Len.and (spec_Of0.and (spec_Not.and (spec_Range.and (spec_Cmp.and (spec_Or.and (spec_And.and (spec_Minus.and (Ult.ge 300))))))))))).mono fun k ⟨h1, h2, h3, h4, h5, h6, h7, h8, h9, h10, hk⟩ => ?_))
  simp only [G6, f6_N, f6_e, h1, h2, h4, Bool.not_true, cond_false, f6_w1N]
  generalize hret : (fun y => some ([SV.bool y], [])) = ret
  have hlt : ∀ r ∈ runsOf n, r.1 ≤ r.2 ∧ r.2 < 256 := fun r hr => runs_lt hr
  have hor := orR_runs hn
  have hlen := runs_len n
  generalize runsOf n = l at *
  have hend : ∀ nx, f6_w1B k (G14 k) (G15 k) (G16 k) (G18 k) (G21 k) (G22 k) (G24 k) (G25 k) (G26 k) (G27 k) ret (bs n) (bs m) (bs d) (.list (pvR l)) nx (((l.length : Nat) : Int), bs n) = ret true := by
    intro nx
    have b1 : n ||| m < 2 ^ 256 := Nat.or_lt_two_pow hn hm
    have b2 : m ||| d < 2 ^ 256 := Nat.or_lt_two_pow hm hd
    have b3 : ∀ x y, x < 2 ^ 256 → x &&& y < 2 ^ 256 := fun x y hx => Nat.lt_of_le_of_lt Nat.and_le_left hx
    have e1 : notN (n ||| m) = notN n &&& notN m := set_ext (notN_lt b1) (b3 _ _ (notN_lt hn)) fun i hi => by
      rw [bit_not hi, Nat.testBit_or, Nat.testBit_and, bit_not hi, bit_not hi]; cases n.testBit i <;> rfl
    have e2 : n &&& (m ||| d) = (n &&& m) ||| (n &&& d) := set_ext (b3 _ _ hn) (Nat.or_lt_two_pow (b3 _ _ hn) (b3 _ _ hn)) fun i hi => by
      simp only [Nat.testBit_or, Nat.testBit_and]; cases n.testBit i <;> rfl
    have e3 : notN (notN n) = n := set_ext (notN_lt (notN_lt hn)) hn fun i hi => by
      rw [bit_not hi, bit_not hi, Bool.not_not]
    have c1 := card_not n
    have c2 := card_or_and n m
    have c3 := lst_length_le n
    have c4 := lst_length_le m
    have z := cmpS_zero hn hm
    have zn : cmpS m n = -cmpS n m := lexC_neg _ _
    have zv : cmpS n m = -1 ∨ cmpS n m = 0 ∨ cmpS n m = 1 := lexC_val _ _
    have w1 : IntKind.wrap .i64 (((lst n).length : Int) + ((lst (notN n)).length : Int)) = 256 := by rw [wrap_i64] <;> omega
    have w2 : IntKind.wrap .i64 (((lst (n ||| m)).length : Int) + ((lst (n &&& m)).length : Int)) = ((lst n).length : Int) + ((lst m).length : Int) := by rw [wrap_i64] <;> omega
    have w3 : IntKind.wrap .i64 (((lst n).length : Int) + ((lst m).length : Int)) = ((lst n).length : Int) + ((lst m).length : Int) := by rw [wrap_i64] <;> omega
    have w4 : IntKind.wrap .i64 (0 - -cmpS n m) = cmpS n m := by rw [wrap_i64] <;> omega
    simp only [f6_w1B, f6_w1b0N, f6_w1b0, els_list, pvR_len, decide_eq_false (show ¬ (l.length : Int) < (l.length : Int) by omega), cond_false, h3, h5, h7, h8, h9, h10, e1, e2, e3, beq_refl, w1, w2, w3, zn, w4, decide_true, beq_self_eq_true, cond_true, bs_beq hn hm]
    congr 1
    rw [show decide (cmpS n m = 0) = decide (n = m) by rw [decide_eq_decide]; exact z, beq_self_eq_true]
  have := loopR_upP (body := f6_w1B k (G14 k) (G15 k) (G16 k) (G18 k) (G21 k) (G22 k) (G24 k) (G25 k) (G26 k) (G27 k) ret (bs n) (bs m) (bs d) (.list (pvR l))) (fun (i : Nat) (a : Nat) => ((i : Int), bs a)) (fun i a => a ||| orR (l.drop i) = n) (res := fun i a => ret true) l.length ?_ ?_ k 0 0 (by rw [Nat.zero_or]; exact hor) (by omega) (by omega)
  · exact this.trans (by rw [← hret])
  · intro nx a ha
    rw [List.drop_length, orR, Nat.or_zero] at ha
    subst ha
    exact hend nx
  · intro i hi nx a ha hnx
    have h5' := hlt _ (List.getElem_mem hi)
    simp only [f6_w1B, f6_w1b0N, f6_w1b0, els_list, pvR_len, pvR_get hi, agg_f0, agg_f1, num_int, wrap_inc (show i < 1099511627777 by omega), decide_eq_true (show (i : Int) < (l.length : Int) by omega), decide_eq_true (show (0 : Int) ≤ (i : Int) by omega), Bool.and_self, cond_true]
    rw [h6 _ _ _ (by omega) h5'.2, h8]
    exact hnx _ (by rw [Nat.or_assoc]; rw [drop_cons' hi, orR] at ha; exact ha)

theorem tmodN (x y : Nat) : Int.tmod (x : Int) (y : Int) = ((x % y : Nat) : Int) := by
  rw [Int.tmod_eq_emod_of_nonneg (by omega)]; rfl
def turnL (L : List Nat) (r i : Nat) : List Nat := (List.range i).map fun j => L.getD ((j + r) % L.length) 0
theorem mem_turn {L : List Nat} (h0 : 0 < L.length) (r x : Nat) : x ∈ turnL L r L.length ↔ x ∈ L := by
  unfold turnL
  rw [List.mem_map]
  constructor
  · rintro ⟨j, _, rfl⟩
    have : (j + r) % L.length < L.length := Nat.mod_lt _ h0
    rw [List.getD_eq_getElem?_getD, List.getElem?_eq_getElem this]
    exact List.getElem_mem this
  · intro h
    obtain ⟨p, hp, rfl⟩ := List.getElem_of_mem h
    refine ⟨(p + (L.length - r % L.length)) % L.length, List.mem_range.2 (Nat.mod_lt _ h0), ?_⟩
    have e : ((p + (L.length - r % L.length)) % L.length + r) % L.length = p := by
      have hr := Nat.mod_lt r h0
      rw [Nat.mod_add_mod, show p + (L.length - r % L.length) + r = p + (L.length - r % L.length) + (r % L.length + L.length * (r / L.length)) by rw [Nat.mod_add_div], show p + (L.length - r % L.length) + (r % L.length + L.length * (r / L.length)) = p + L.length * (r / L.length + 1) by rw [Nat.mul_add, Nat.mul_one]; omega, Nat.add_mul_mod_self_left, Nat.mod_eq_of_lt hp]
    rw [e, List.getD_eq_getElem?_getD, List.getElem?_eq_getElem hp]; rfl

theorem BytesetList.main (n : Nat) (t : Int) (hn : n < 2 ^ 256) (ht : (Lit.int .i64 t).wf = true) : ∃ k, G4 k (bs n) t (fun y => some ([.bool y], [])) = some ([.bool true], []) := by
  have ht := wf_i64 ht
  have hlst : ∀ b ∈ lst n, b < 256 := fun b hb => (mem_lst.1 hb).1
  have hturn : ∀ b ∈ turnL (lst n) t.toNat (lst n).length, b < 256 := fun b hb => by
    by_cases h0 : 0 < (lst n).length
    · exact hlst b ((mem_turn h0 _ _).1 hb)
    · rw [show (lst n).length = 0 by omega] at hb; simp [turnL] at hb
  have hlen := lst_length_le n
  refine Ult.get (Ult.succ ((spec_awake1.and (spec_List.and (spec_Of0.and ((spec_Of (turnL (lst n) t.toNat (lst n).length) hturn (by simp [turnL]; omega)).and (spec_Least.and (spec_Len.and (Ult.ge 300))))))).mono fun k ⟨h1, h2, h3, h4, h5, h6, hk⟩ => ?_))
  simp only [G4, f4_N, f4_e, h1, h2, els_list, pvL_len, Bool.not_true, cond_false, f4_w1N]
  generalize hret : (fun y => some ([SV.bool y], [])) = ret
  have hfin : ret true = some ([.bool true], []) := by rw [← hret]
  by_cases h0 : (lst n).length = 0
  · have hz : n = 0 := lst_inj hn (by decide) ((List.length_eq_zero_iff.1 h0).trans (by decide +kernel))
    rw [h0]
    simp only [show (decide (((0 : Nat) : Int) = 0) == false) = false from rfl, show (decide ((0 : Int) < ((0 : Nat) : Int)) == false) = true from rfl, cond_false, cond_true, h3]
    rw [hz, beq_refl]
  · rw [decide_eq_false (show ¬ (((lst n).length : Nat) : Int) = 0 by omega)]
    simp only [beq_self_eq_true, cond_true]
    by_cases hneg : t < 0
    · rw [decide_eq_true hneg, decide_eq_true (show (0 : Int) < (((lst n).length : Nat) : Int) by omega)]
      rfl
    · rw [decide_eq_false hneg]
      simp only [cond_false]
      have hset : ofL (turnL (lst n) t.toNat (lst n).length) = n := set_ext (ofL_lt _ hturn) hn fun i hi => by
        rw [ofL_bit, Bool.eq_iff_iff, decide_eq_true_eq, mem_turn (by omega), mem_lst]
        exact ⟨fun h => h.2, fun h => ⟨hi, h⟩⟩
      have hcons : ∃ b l', lst n = b :: l' := by
        cases hl : lst n with
        | nil => rw [hl] at h0; exact absurd rfl h0
        | cons b l' => exact ⟨b, l', rfl⟩
      generalize hL : lst n = L at *
      rw [hset] at h4
      have := loopR_upP (body := f4_w1B k (G14 k) (G16 k) (G17 k) (G18 k) (G19 k) ret (bs n) t (.list (pvL L))) (fun (i : Nat) (a : List Nat) => ((i : Int), pvL a)) (fun i a => a = turnL L t.toNat i) (res := fun i a => ret true) L.length ?_ ?_ k 0 [] rfl (by omega) (by omega)
      · exact this.trans hfin
      · intro nx a ha
        subst ha
        simp only [f4_w1B, f4_w1b0N, f4_w1b0, els_list, pvL_len, decide_eq_false (show ¬ (L.length : Int) < (L.length : Int) by omega), cond_false, h4, h5, h6, hL]
        obtain ⟨b, l', hbl⟩ := hcons
        rw [hbl]
        simp only [beq_refl, beq_self_eq_true, cond_true, decide_true, List.length_cons, decide_eq_true (show (0 : Int) < ((l'.length + 1 : Nat) : Int) by omega), decide_eq_true (show (0 : Int) ≤ 0 by omega), Bool.and_self, pvL, List.map_cons]
        have : (decide ((b : Int) = (List.getD (PV.int (b : Int) :: List.map (fun (b : Nat) => PV.int (b : Int)) l') ((0 : Int)).toNat PV.nil).num) == true) = true := by
          have e : (List.getD (PV.int (b : Int) :: List.map (fun (b : Nat) => PV.int (b : Int)) l') ((0 : Int)).toNat PV.nil).num = (b : Int) := rfl
          rw [e, decide_eq_true rfl]; rfl
        rw [this]; rfl
      · intro i hi nx a ha hnx
        subst ha
        have hlt : (i + t.toNat) % L.length < L.length := Nat.mod_lt _ (by omega)
        have hti : t = (t.toNat : Int) := by omega
        have hm : Int.tmod (IntKind.wrap .i64 ((i : Int) + Int.tmod t (L.length : Int))) (L.length : Int) = (((i + t.toNat) % L.length : Nat) : Int) := by
          rw [hti, tmodN]
          have := Nat.mod_lt t.toNat (show L.length > 0 by omega)
          rw [wrap_i64 (by omega) (by omega), ← Int.natCast_add, tmodN, Nat.add_mod_mod, Int.toNat_natCast]
        have hlen' : (turnL L t.toNat i).length = i := by simp [turnL]
        simp only [f4_w1B, f4_w1b0N, f4_w1b0, els_list, pvL_len, hm, pvL_get hlt, num_int, wrap_inc (show i < 1099511627777 by omega), hlen', decide_eq_true (show (i : Int) < (L.length : Int) by omega), decide_eq_false (show ¬ (L.length : Int) = 0 by omega), decide_eq_true (show (0 : Int) ≤ (((i + t.toNat) % L.length : Nat) : Int) by omega), decide_eq_true (show (((i + t.toNat) % L.length : Nat) : Int) < (L.length : Int) by omega), Bool.and_self, cond_true, cond_false]
        rw [roomy_of (by simp; omega) (by simp; omega)]
        simp only [Bool.and_self, cond_true]
        have e : pvL (turnL L t.toNat i) ++ [PV.int (L[(i + t.toNat) % L.length] : Int)] = pvL (turnL L t.toNat (i + 1)) := by
          simp only [turnL, List.range_succ, List.map_append, pvL, List.map_cons, List.map_nil]
          congr 3
          rw [List.getD_eq_getElem?_getD, List.getElem?_eq_getElem hlt]; rfl
        rw [e]
        exact hnx _ rfl
end Go.Proofs.Ytifnlmfhbepjcaa
