/- The examples answer as told (TreeKnown). -/
import Derived.Test.YtifnlmfhbepjcaaTrM
set_option linter.unusedSimpArgs false
set_option linter.unusedVariables false
set_option maxRecDepth 20000
namespace Go.Proofs.Ytifnlmfhbepjcaa
open Go Go.X

abbrev a0 : Nd := .mk 1 (ofL [97]) 0 0 0 []
abbrev row0 : Nd := .mk 2 0 0 0 0 [a0, a0]
abbrev of0 : Nd := .mk 3 0 0 0 0 [a0, row0]
abbrev rep0 : Nd := .mk 4 0 0 (-1) 0 [a0]
abbrev gr (n : Int) (x : Nd) : Nd := .mk 5 0 0 0 n [x]
abbrev br (x : Nd) : Nd := .mk 6 0 0 0 0 [x]
/-- What may not be. -/
def bads : List Nd := [.mk 0 0 0 0 0 [], .mk 1 0 0 0 0 [], .mk 7 0 0 0 0 [], .mk 1 (ofL [97]) 0 0 1 [], .mk 2 0 0 0 0 [a0], .mk 3 0 0 0 0 [a0], .mk 2 0 0 0 0 [a0, row0], .mk 2 0 0 0 0 [a0, of0], .mk 3 0 0 0 0 [a0, of0], .mk 4 0 0 0 0 [rep0], .mk 4 0 0 0 0 [row0], .mk 4 0 2 1 0 [a0], .mk 4 0 256 (-1) 0 [a0], .mk 4 0 0 (-2) 0 [a0], .mk 6 0 0 0 0 [a0, a0], .mk 6 0 0 0 1 [a0]]
def deepN : Nat → Nd
  | 0 => a0
  | n + 1 => br (deepN n)
def bigN : Nd := .mk 2 0 0 0 0 (List.replicate 2000 a0)
namespace Nd
def inB (n : Int) : Bool := decide (-9223372036854775808 ≤ n) && decide (n < 9223372036854775808)
theorem inB_ok {n : Int} (h : inB n = true) : inI n := by simpa [inB, inI] using h
mutual
def okB : Nd → Bool
  | mk k s a b n l => inB k && (decide (s < 2 ^ 256) && (inB a && (inB b && (inB n && oksB l))))
def oksB : List Nd → Bool
  | [] => true
  | v :: l => okB v && oksB l
end
theorem okB_ok (v : Nd) : v.okB = true → v.Ok := by
  refine Nd.rec (motive_1 := fun v => v.okB = true → v.Ok) (motive_2 := fun l => oksB l = true → Oks l) (fun k s a b n l ih h => ?_) (fun _ => trivial) (fun a l h1 h2 h => ?_) v
  · simp only [okB, Bool.and_eq_true, decide_eq_true_eq] at h
    rw [Ok]
    exact ⟨inB_ok h.1, h.2.1, inB_ok h.2.2.1, inB_ok h.2.2.2.1, inB_ok h.2.2.2.2.1, ih h.2.2.2.2.2⟩
  · simp only [oksB, Bool.and_eq_true] at h
    exact ⟨h1 h.1, h2 h.2⟩
end Nd
theorem fold0 (k a b n : Int) : PV.agg [PV.int k, PV.agg [PV.int 0, PV.int 0, PV.int 0, PV.int 0], PV.int a, PV.int b, PV.int n, PV.list []] = Nd.pv (.mk k 0 a b n []) := rfl
theorem foldS (k : Int) (s : Nat) (a b n : Int) : PV.agg [PV.int k, bs s, PV.int a, PV.int b, PV.int n, PV.list []] = Nd.pv (.mk k s a b n []) := rfl
theorem fold1 (k a b n : Int) (x : Nd) : PV.agg [PV.int k, PV.agg [PV.int 0, PV.int 0, PV.int 0, PV.int 0], PV.int a, PV.int b, PV.int n, PV.list [x.pv]] = Nd.pv (.mk k 0 a b n [x]) := rfl
theorem fold2 (k a b n : Int) (x y : Nd) : PV.agg [PV.int k, PV.agg [PV.int 0, PV.int 0, PV.int 0, PV.int 0], PV.int a, PV.int b, PV.int n, PV.list [x.pv, y.pv]] = Nd.pv (.mk k 0 a b n [x, y]) := rfl
theorem foldL (k a b n : Int) (l : List Nd) : PV.agg [PV.int k, PV.agg [PV.int 0, PV.int 0, PV.int 0, PV.int 0], PV.int a, PV.int b, PV.int n, PV.list (l.map Nd.pv)] = Nd.pv (.mk k 0 a b n l) := by rw [Nd.pv_mk]; rfl
theorem foldP (a b : Bool) (v : Nd) (g : Int) : PV.agg [PV.bool a, PV.bool b, v.pv, PV.int g] = Pat.pv ⟨a, b, v, g⟩ := rfl
theorem foldB : [Nd.pv (.mk 0 0 0 0 0 []), Nd.pv (.mk 1 0 0 0 0 []), Nd.pv (.mk 7 0 0 0 0 []), Nd.pv (.mk 1 (ofL [97]) 0 0 1 []), Nd.pv (.mk 2 0 0 0 0 [a0]), Nd.pv (.mk 3 0 0 0 0 [a0]), Nd.pv (.mk 2 0 0 0 0 [a0, row0]), Nd.pv (.mk 2 0 0 0 0 [a0, of0]), Nd.pv (.mk 3 0 0 0 0 [a0, of0]), Nd.pv (.mk 4 0 0 0 0 [rep0]), Nd.pv (.mk 4 0 0 0 0 [row0]), Nd.pv (.mk 4 0 2 1 0 [a0]), Nd.pv (.mk 4 0 256 (-1) 0 [a0]), Nd.pv (.mk 4 0 0 (-2) 0 [a0]), Nd.pv (.mk 6 0 0 0 0 [a0, a0]), Nd.pv (.mk 6 0 0 0 1 [a0])] = bads.map Nd.pv := rfl
theorem bads_len : bads.length = 16 := rfl
theorem spec_group : Ult fun k => ∀ (n : Int) (x : Nd) ret, G49 k n x.pv ret = ret (gr n x).pv :=
  Ult.succ (Ult.of fun k n x ret => by simp only [G49, f49_N, f49_e, fold1])
theorem spec_Of1 : Ult fun k => ∀ ret, G18 k (PV.list [PV.int 97]) ret = ret (bs (ofL [97])) := spec_Of [97] (by simp) (by simp)
theorem spec_set1 : Ult fun k => ∀ ret, G47 k 97 ret = ret a0.pv :=
  Ult.succ (spec_Of1.mono fun k h ret => by simp only [G47, f47_N, f47_e, h, foldS])
/-- A pattern's verdict, where it can be reckoned. -/
theorem good_of (v : Nd) (g : Int) (b : Bool) (h : (v.okB && (decide (v.size ≤ 274877906944) && (Nd.inB g && (v.good g == b)))) = true) : Ult fun k => ∀ ret, G48 k (Pat.pv ⟨false, false, v, g⟩) ret = ret b := by
  simp only [Bool.and_eq_true, decide_eq_true_eq, beq_iff_eq] at h
  have := spec_tGood ⟨false, false, v, g⟩ ⟨Nd.okB_ok v h.1, Nd.inB_ok h.2.2.1⟩ h.2.1
  rw [h.2.2.2] at this
  exact this
theorem cnts_rep (n : Nat) (v : Nd) : Nd.cnts (List.replicate n v) = n * v.cnt := by
  induction n with
  | zero => simp [Nd.cnts]
  | succ n ih => rw [List.replicate_succ, Nd.cnts, ih, Nat.succ_mul]; omega
theorem sizes_rep (n : Nat) (v : Nd) : Nd.sizes (List.replicate n v) = n * v.size := by
  induction n with
  | zero => simp [Nd.sizes]
  | succ n ih => rw [List.replicate_succ, Nd.sizes, ih, Nat.succ_mul]; omega
theorem big_sm : bigN.Sm := by simp only [Nd.Sm, bigN, Nd.size, sizes_rep, Nd.sizes]; omega
theorem big_ok : bigN.Ok := Nd.ok_mk.2 ⟨by simp [inI], by omega, by simp [inI], by simp [inI], by simp [inI], fun v hv => by
  rw [List.eq_of_mem_replicate hv]; exact Nd.okB_ok a0 (by decide +kernel)⟩
theorem big_cnt : bigN.cnt = 2001 := by simp only [bigN, Nd.cnt, cnts_rep, Nd.cnts]
theorem TreeKnown.main : ∃ k, G11 k (fun y => some ([.bool y], [])) = some ([.bool true], []) := by
  have hb : Ult fun k => ∀ x ∈ bads, ∀ ret, G48 k (Pat.pv ⟨false, false, x, 0⟩) ret = ret false := Ult.forall_mem fun x hx => by
    have h : (bads.all fun v => v.okB && (decide (v.size ≤ 274877906944) && (Nd.inB 0 && (v.good 0 == false)))) = true := by decide +kernel
    exact good_of x 0 false (List.all_eq_true.1 h x hx)
  have g1 := good_of of0 0 true (by decide +kernel)
  have g2 := good_of rep0 0 true (by decide +kernel)
  have g3 := good_of (gr 1 a0) 1 true (by decide +kernel)
  have g4 := good_of (gr 1 a0) 0 false (by decide +kernel)
  have g5 := good_of (gr 2 a0) 1 false (by decide +kernel)
  have g6 := good_of (.mk 2 0 0 0 0 [gr 1 (gr 2 a0), gr 3 a0]) 3 true (by decide +kernel)
  have g7 := good_of (.mk 2 0 0 0 0 [gr 2 (gr 1 a0), a0]) 2 false (by decide +kernel)
  have g8 := good_of (deepN 63) 0 true (by decide +kernel)
  have g9 := good_of (br (deepN 63)) 0 false (by decide +kernel)
  have d8 : (deepN 63).Sm := by simp only [Nd.Sm]; decide +kernel
  have d9 : (br (deepN 63)).Sm := by simp only [Nd.Sm]; decide +kernel
  have e8 : ((min (deepN 63).dep 65 : Nat) : Int) = 64 := by decide +kernel
  have e9 : ((min (br (deepN 63)).dep 65 : Nat) : Int) = 65 := by decide +kernel
  have p8 := spec_Depth _ d8
  have p9 := spec_Depth _ d9
  rw [e8] at p8
  rw [e9] at p9
  have g10 : Ult fun k => ∀ ret, G48 k (Pat.pv ⟨false, false, bigN, 0⟩) ret = ret false := by
    have := spec_tGood ⟨false, false, bigN, 0⟩ ⟨big_ok, by simp [inI]⟩ big_sm
    have e : bigN.good 0 = false := by
      simp only [Nd.good, big_cnt]
      rw [dF (show ¬ 2001 ≤ 2000 by omega)]; simp
    rw [show (Pat.mk false false bigN 0).root.good (Pat.mk false false bigN 0).g = bigN.good 0 from rfl, e] at this
    exact this
  have p10 := spec_Size _ big_sm
  rw [big_cnt, show ((min 2001 100000 : Nat) : Int) = 2001 from rfl] at p10
  have oOk : of0.Ok := Nd.okB_ok of0 (by decide +kernel)
  have rOk : rep0.Ok := Nd.okB_ok rep0 (by decide +kernel)
  have oSm : of0.Sm := by simp only [Nd.Sm]; decide +kernel
  have s1 := spec_Same of0 oOk oSm of0 oOk
  have s2 := spec_Same of0 oOk oSm rep0 rOk
  rw [show Nd.same of0 of0 = true by decide +kernel] at s1
  rw [show Nd.same of0 rep0 = false by decide +kernel] at s2
  have t1 := spec_Sets of0 oOk oSm (by decide +kernel)
  rw [show Nd.sts of0 [] = [ofL [97]] by decide +kernel] at t1
  refine Ult.get (Ult.succ ((spec_awake.and (spec_set1.and (spec_Of1.and (spec_group.and (hb.and (g1.and (g2.and (g3.and (g4.and (g5.and (g6.and (g7.and (g8.and (g9.and (g10.and (p8.and (p9.and (p10.and (s1.and (s2.and (t1.and (Ult.ge 3000)))))))))))))))))))))).mono fun k ⟨h0, h1, h2, h3, hb, g1, g2, g3, g4, g5, g6, g7, g8, g9, g10, p8, p9, p10, s1, s2, t1, hk⟩ => ?_))
  simp only [G11, f11_N, f11_e, h0, h1, h2, Bool.not_true, cond_false, f11_w1N]
  -- what may not be, one after the other
  refine loopR_up (res := fun _ => some ([.bool true], [])) 16 (fun nx => ?_) (fun i hi nx hnx => ?_) k 0 (by omega) (by omega)
  rotate_left
  · simp only [f11_w1B, f11_w1b0N, f11_w1b0, fold0, foldS, fold1, fold2, foldB, List.length_map, bads_len]
    have hi' : i < bads.length := hi
    rw [dT (show (i : Int) < 16 by omega), dT (show (i : Int) < ((16 : Nat) : Int) by omega), dT (show (0 : Int) ≤ (i : Int) by omega)]
    simp only [Bool.and_self, cond_true, getD_map Nd.pv hi', foldP, hb _ (List.getElem_mem hi'), cond_false, wrap_succ (show i < 1099511627777 by omega)]
    exact hnx
  simp only [f11_w1B, f11_w1b0N, f11_w1b0, h3]
  rw [dF (show ¬ ((16 : Nat) : Int) < 16 by omega)]
  simp only [cond_false, f11_w2N]
  -- the deep one
  refine loopR_upE (fun (i : Nat) (_ : Unit) => ((i : Int), (deepN i).pv)) (res := fun _ _ => some ([.bool true], [])) 63 (fun nx _ => ?_) (fun i hi nx _ hnx => ?_) k 0 () (by omega) (by omega)
  rotate_left
  · simp only [f11_w2B, f11_w2b0N, f11_w2b0]
    rw [dT (show (i : Int) < 63 by omega)]
    simp only [cond_true, fold1, wrap_succ (show i < 1099511627777 by omega)]
    exact hnx ()
  simp only [f11_w2B, f11_w2b0N, f11_w2b0]
  rw [dF (show ¬ ((63 : Nat) : Int) < 63 by omega)]
  simp only [cond_false, f11_w3N]
  -- the great one
  obtain ⟨n, hn⟩ : ∃ n, k = n + 1 := ⟨k - 1, by omega⟩
  rw [show ∀ body : (Sum Unit (Int × List PV) → R) → Sum Unit (Int × List PV) → R, loopR body k (.inl ()) = body (loopR body n) (.inl ()) from fun body => by rw [hn]; exact vsucc body n _]
  simp only [f11_w3B, Sum.elim_inl, f11_w3b0N, f11_w3b0]
  refine loopR_upE (fun (i : Nat) (_ : Unit) => (.inr ((i : Int), (List.replicate i a0).map Nd.pv) : Sum Unit (Int × List PV))) (res := fun _ _ => some ([.bool true], [])) 2000 (fun nx _ => ?_) (fun i hi nx _ hnx => ?_) n 1 () (by omega) (by omega)
  rotate_left
  · simp only [f11_w3B, Sum.elim_inr, f11_w3b1N, f11_w3b1, List.length_map, List.length_replicate]
    rw [dT (show (i : Int) < 2000 by omega), roomy_of (by simp only [List.length_cons, List.length_nil]; omega) (by simp only [List.length_cons, List.length_nil]; omega)]
    simp only [cond_true, Bool.and_self, wrap_succ (show i < 1099511627777 by omega)]
    have := hnx ()
    rw [List.replicate_succ', List.map_append] at this
    exact this
  simp only [f11_w3B, Sum.elim_inr, f11_w3b1N, f11_w3b1]
  rw [dF (show ¬ ((2000 : Nat) : Int) < 2000 by omega)]
  simp only [cond_false, fold0, foldS, fold1, fold2, foldL, foldP, h3, ← bigN.eq_1, g1, g2, g3, g4, g5, g6, g7, g8, g9, g10, p8, p9, p10, s1, s2, t1, beq_self_eq_true, cond_true, Bool.not_false, decide_true]
  rfl
end Go.Proofs.Ytifnlmfhbepjcaa
