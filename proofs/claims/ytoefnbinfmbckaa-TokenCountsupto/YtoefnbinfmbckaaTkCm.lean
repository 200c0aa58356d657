/- Any two numbers in braces: the law (TokenCounts). -/
import Derived.Test.YtoefnbinfmbckaaTkCs
set_option linter.unusedSimpArgs false
set_option linter.unusedVariables false
set_option maxRecDepth 20000
namespace Go.Proofs.Ytoefnbinfmbckaa
open Go Go.X

theorem spec_cutA : Ult fun k => ∀ (ds : List Int) (v : Nat) ret, ds.length ≤ 100 → (∀ d ∈ ds, isD d) → 1 ≤ ds.length → nv 0 ds = (v : Int) →
    G8 k (123 :: (ds ++ [125])) ret = if 255 < v then ret (.list []) 0 4 else ret (.list [tok v v]) ((ds.length + 2 : Nat) : Int) 0 :=
  Ult.succ (Ult.succ ((spec_is.and (spec_oftenA.and (Ult.ge 10))).mono fun k ⟨h1, h2, hk⟩ ds v ret hl hds hlen hv => by
    have ho := fun ret => h2 (123 :: (ds ++ [125])) 1 ds [] v ret (by simp; omega) rfl hds hlen hv
    by_cases hb : 255 < v
    · simp only [if_pos hb] at ho
      rw [if_pos hb]
      exact cut_of h1 hk (by simp; omega) ho (fun h => by cases h) ret
    · simp only [if_neg hb] at ho
      rw [if_neg hb]
      have := cut_of h1 hk (q := ds ++ [125]) (by simp; omega) ho (fun _ => by simp; omega) ret
      rw [if_pos rfl] at this
      rw [this]; congr 1; simp; omega))
theorem spec_cutB : Ult fun k => ∀ (ds : List Int) (v : Nat) ret, ds.length ≤ 100 → (∀ d ∈ ds, isD d) → 1 ≤ ds.length → nv 0 ds = (v : Int) →
    G8 k (123 :: (ds ++ [44, 125])) ret = if 255 < v then ret (.list []) 0 4 else ret (.list [tok v (-1)]) ((ds.length + 3 : Nat) : Int) 0 :=
  Ult.succ (Ult.succ ((spec_is.and (spec_oftenB.and (Ult.ge 10))).mono fun k ⟨h1, h2, hk⟩ ds v ret hl hds hlen hv => by
    have ho := fun ret => h2 (123 :: (ds ++ [44, 125])) 1 ds [] v ret (by simp; omega) rfl hds hlen hv
    by_cases hb : 255 < v
    · simp only [if_pos hb] at ho
      rw [if_pos hb]
      exact cut_of h1 hk (by simp; omega) ho (fun h => by cases h) ret
    · simp only [if_neg hb] at ho
      rw [if_neg hb]
      have := cut_of h1 hk (q := ds ++ [44, 125]) (by simp; omega) ho (fun _ => by simp; omega) ret
      rw [if_pos rfl] at this
      rw [this]; congr 1; simp; omega))
theorem spec_cutC : Ult fun k => ∀ (ds es : List Int) (v u : Nat) ret, ds.length ≤ 100 → (∀ d ∈ ds, isD d) → 1 ≤ ds.length → nv 0 ds = (v : Int) → es.length ≤ 100 → (∀ d ∈ es, isD d) → 1 ≤ es.length → nv 0 es = (u : Int) →
    G8 k (123 :: (ds ++ 44 :: (es ++ [125]))) ret = if 255 < v ∨ 255 < u then ret (.list []) 0 4 else if u < v then ret (.list []) 0 2 else ret (.list [tok v u]) ((ds.length + es.length + 3 : Nat) : Int) 0 :=
  Ult.succ (Ult.succ ((spec_is.and (spec_oftenC.and (Ult.ge 10))).mono fun k ⟨h1, h2, hk⟩ ds es v u ret hl hds hlen hv hl2 hes hlen2 hu => by
    have ho := fun ret => h2 (123 :: (ds ++ 44 :: (es ++ [125]))) 1 ds es [] v u ret (by simp; omega) rfl hds hlen hv hes hlen2 hu
    have hq : (ds ++ 44 :: (es ++ [125])).length ≤ 900 := by simp; omega
    by_cases hb : 255 < v
    · simp only [if_pos hb] at ho
      rw [if_pos (.inl hb)]
      exact cut_of h1 hk hq ho (fun h => by cases h) ret
    · simp only [if_neg hb] at ho
      by_cases hc : 255 < u
      · simp only [if_pos hc] at ho
        rw [if_pos (.inr hc)]
        exact cut_of h1 hk hq ho (fun h => by cases h) ret
      · simp only [if_neg hc] at ho
        rw [if_neg (by omega)]
        by_cases hm : u < v
        · simp only [if_pos hm] at ho
          rw [if_pos hm]
          exact cut_of h1 hk hq ho (fun h => by cases h) ret
        · simp only [if_neg hm] at ho
          rw [if_neg hm]
          have := cut_of h1 hk hq ho (fun _ => by simp; omega) ret
          rw [if_pos rfl] at this
          rw [this]; congr 1; simp; omega))
theorem TokenCounts.main (m n : Int) (hm : (Lit.int .u64 m).wf = true) (hn : (Lit.int .u64 n).wf = true) : ∃ k, G6 k m n (fun y => some ([.bool y], [])) = some ([.bool true], []) := by
  have hm0 : 0 ≤ m := by
    simp [Lit.wf, IntKind.min, IntKind.max, IntKind.signed, IntKind.bits] at hm
    omega
  have hn0 : 0 ≤ n := by
    simp [Lit.wf, IntKind.min, IntKind.max, IntKind.signed, IntKind.bits] at hn
    omega
  obtain ⟨M, rfl⟩ := Int.eq_ofNat_of_zero_le hm0
  obtain ⟨N, rfl⟩ := Int.eq_ofNat_of_zero_le hn0
  refine Ult.get (Ult.succ ((spec_awake.and (spec_num.and (spec_cutA.and (spec_cutB.and spec_cutC)))).mono fun k ⟨h0, h1, hA, hB, hC⟩ => ?_))
  simp only [G6, f6_N, f6_e, h0, Bool.not_true, cond_false]
  by_cases l1 : 2000 < M
  · rw [dT (show (2000 : Int) < (M : Int) by omega)]; rfl
  rw [dF (show ¬ (2000 : Int) < (M : Int) by omega)]
  by_cases l2 : 2000 < N
  · rw [dT (show (2000 : Int) < (N : Int) by omega)]; rfl
  rw [dF (show ¬ (2000 : Int) < (N : Int) by omega)]
  have dl := digs_len 3 M
  have dl2 := digs_len 3 N
  have vM := nv_digs 3 M (by omega)
  have vN := nv_digs 3 N (by omega)
  have eC : ([123] ++ digs 3 M ++ [44] ++ digs 3 N ++ [125] : List Int) = 123 :: (digs 3 M ++ 44 :: (digs 3 N ++ [125])) := by simp
  have eA : ([123] ++ digs 3 M ++ [125] : List Int) = 123 :: (digs 3 M ++ [125]) := by simp
  have eB : ([123] ++ digs 3 M ++ [44, 125] : List Int) = 123 :: (digs 3 M ++ [44, 125]) := by simp
  have hA := fun ret => hA (digs 3 M) (min M 256) ret (by omega) (digs_isD 3 M) dl.1 vM
  have hB := fun ret => hB (digs 3 M) (min M 256) ret (by omega) (digs_isD 3 M) dl.1 vM
  have hC := fun ret => hC (digs 3 M) (digs 3 N) (min M 256) (min N 256) ret (by omega) (digs_isD 3 M) dl.1 vM (by omega) (digs_isD 3 N) dl2.1 vN
  have big : ∀ (x : Nat) (i : Decidable (x ≤ 4611686018427387904)), x ≤ 1000 → @decide _ i = true := fun x i h => dT (by omega)
  simp only [beq_self_eq_true, cond_true, cond_false, h1 M _ (by omega), h1 N _ (by omega)]
  rw [big]
  rotate_left
  · simp; omega
  rw [big]
  rotate_left
  · simp; omega
  rw [big]
  rotate_left
  · simp; omega
  rw [big]
  rotate_left
  · simp; omega
  rw [big]
  rotate_left
  · simp; omega
  rw [big]
  rotate_left
  · simp; omega
  simp only [cond_true, eA, eB, eC, hA, hB, hC]
  by_cases hb : 255 < M
  · simp only [if_pos (show 255 < min M 256 by omega), if_pos (show 255 < min M 256 ∨ 255 < min N 256 by omega)]
    rw [dT (show (255 : Int) < (M : Int) by omega)]
    rfl
  simp only [if_neg (show ¬ 255 < min M 256 by omega), dF (show ¬ (255 : Int) < (M : Int) by omega), cond_false]
  have wM : IntKind.wrap .i64 (M : Int) = M := wrap_i64 (by omega) (by omega)
  have mM : ((min M 256 : Nat) : Int) = M := by omega
  have f2 : ∀ a b : Int, PV.num (PV.fld (tok a b) 2) = a := fun _ _ => rfl
  have f3 : ∀ a b : Int, PV.num (PV.fld (tok a b) 3) = b := fun _ _ => rfl
  have g0 : ∀ x : PV, List.getD [x] ((0 : Int)).toNat PV.nil = x := fun _ => rfl
  simp only [PV.els, List.length_cons, List.length_nil, g0, f2, f3, wM, mM, decide_true, Bool.not_true, beq_self_eq_true, cond_true, cond_false, Bool.and_self, dT (show (((0 + 1 : Nat) : Int)) = 1 by omega), dT (show (0 : Int) ≤ 0 by omega), dT (show (0 : Int) < ((0 + 1 : Nat) : Int) by omega)]
  by_cases hc : 255 < N
  · rw [if_pos (show 255 < min M 256 ∨ 255 < min N 256 by omega), dT (show (255 : Int) < (N : Int) by omega)]; rfl
  rw [if_neg (show ¬ (255 < min M 256 ∨ 255 < min N 256) by omega), dF (show ¬ (255 : Int) < (N : Int) by omega)]
  by_cases hlt : N < M
  · rw [if_pos (show min N 256 < min M 256 by omega), dT (show (N : Int) < (M : Int) by omega)]; rfl
  rw [if_neg (show ¬ min N 256 < min M 256 by omega), dF (show ¬ (N : Int) < (M : Int) by omega)]
  have wN : IntKind.wrap .i64 (N : Int) = N := wrap_i64 (by omega) (by omega)
  have mN : ((min N 256 : Nat) : Int) = N := by omega
  simp only [PV.els, List.length_cons, List.length_nil, g0, f2, f3, wM, mM, wN, mN, decide_true, Bool.not_true, beq_self_eq_true, cond_true, cond_false, Bool.and_self, dT (show (((0 + 1 : Nat) : Int)) = 1 by omega), dT (show (0 : Int) ≤ 0 by omega), dT (show (0 : Int) < ((0 + 1 : Nat) : Int) by omega)]
end Go.Proofs.Ytoefnbinfmbckaa
