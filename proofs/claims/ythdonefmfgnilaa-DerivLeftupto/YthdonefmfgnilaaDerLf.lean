/- The law DerivLeft comes out true. -/
import Derived.Test.YthdonefmfgnilaaDerL
import Derived.Test.YthdonefmfgnilaaDerB
import Derived.Test.YthdonefmfgnilaaDerT
import Derived.Test.YthdonefmfgnilaaTbC
set_option linter.unusedSimpArgs false
set_option linter.unusedVariables false
set_option maxRecDepth 20000
namespace Go.Proofs.Ythdonefmfgnilaa
open Go Go.X

theorem spec_awake : Ult fun k => ∀ ret, G14 k ret = ret true := by
  refine (Ult.ge 300).mono fun k hk ret => ?_
  obtain ⟨m, rfl⟩ := Nat.exists_eq_add_of_le' hk
  kernel_rfl
theorem spec_Tidy (v : Cor) (hok : v.Ok) (hg : v.good = true) : Ult fun k => ∀ ret, G26 k v.pv ret = ret v.tidy.pv :=
  Ult.succ (((spec_cGood v hok (Cor.good_sm hg)).and (spec_dtidy v hok (Cor.good_iff.1 hg).2 (Cor.good_sm hg))).mono fun k ⟨h1, h2⟩ ret => by
    simp only [G26, f26_N, f26_e, h1, h2, hg]; rfl)
/-- Says a core a text? -/
def sayB (c : Cor) (s : List Nat) : Bool := (c.ends s 0).testBit s.length
theorem sayB_iff {c : Cor} (hf : c.fmd = true) (s : List Nat) : sayB c s = true ↔ Cor.Lg c s := Cor.ends_whole hf s
theorem spec_lSays (c : Cor) (s : List Nat) (hok : c.Ok) (hg : c.good = true) (hs : s.length ≤ 256) (hb : ∀ x ∈ s, x < 256) : Ult fun k => ∀ ret, G34 k c.pv (.list (ints s)) ret = ret (sayB c s) := by
  obtain ⟨hcn, hf⟩ := Cor.good_iff.1 hg
  have hpk := Cor.At_whole c
  refine Ult.succ (((spec_cGood c hok (Cor.good_sm hg)).and ((spec_New c s hcn hs hb).and (spec_Says c hf))).mono fun k ⟨h1, h2, h3⟩ ret => ?_)
  simp (config := { zeta := false }) only [G34, f34_N, f34_e, h1, hg, PV.els, ints_len]
  refine cT (Q := fun r => r = ret (sayB c s)) rfl (cT (Q := fun r => r = ret (sayB c s)) (by rw [decide_eq_true (show (s.length : Int) ≤ 256 by omega)]; rfl) ?_)
  refine h2 (fun r => r = ret (sayB c s)) [] _ (fun h' T hTP hTs tok _ _ tb _ => ?_)
  refine h3 (fun r => r = ret (sayB c s)) _ h' T 0 0 s.length _ tb tok (by rw [hTP]; exact hpk) (by omega) (by omega) (fun h'' _ _ => ?_)
  rw [hTs]
  rfl
/-- What is left behind some bytes: none if it is too great. -/
def wordN : Cor → List Nat → Option Cor
  | c, [] => some c
  | c, b :: s => if ((c.by' b).tidy).good = true then wordN ((c.by' b).tidy) s else none
def visN : Cor → List Nat → List (Cor × Nat)
  | _, [] => []
  | c, b :: s => (c, b) :: (if ((c.by' b).tidy).good = true then visN ((c.by' b).tidy) s else [])
theorem left_ok {c : Cor} (b : Nat) (hok : c.Ok) (hg : c.good = true) : ((c.by' b).tidy).Ok ∧ (c.by' b).Ok ∧ (c.by' b).fmd = true ∧ (c.by' b).Sm ∧ ((c.by' b).tidy).Sm ∧ ((c.by' b).tidy).fmd = true := by
  obtain ⟨hcnt, hf⟩ := Cor.good_iff.1 hg
  have yf := Cor.by_fmd b c hf
  have yo := Cor.by_ok b c hf hok
  have yc : (c.by' b).cnt ≤ 8000000 := Nat.le_trans (Cor.by_cnt b c hf) (by have := Nat.mul_le_mul (Nat.mul_le_mul_left 2 hcnt) hcnt; simpa using this)
  have ysm : (c.by' b).Sm := by unfold Cor.Sm; rw [Cor.size_cnt]; omega
  have xs : (c.by' b).tidy.Sm := by
    have := Cor.tidy_cnt (c.by' b)
    unfold Cor.Sm; rw [Cor.size_cnt]; omega
  exact ⟨Cor.tidy_ok _ yo, yo, yf, ysm, xs, Cor.tidy_fmd _ yf⟩
theorem spec_By (c : Cor) (b : Nat) (hb : b < 256) (hok : c.Ok) (hg : c.good = true) : Ult fun k => ∀ ret, G27 k c.pv (b : Int) ret = if ((c.by' b).tidy).good = true then ret ((c.by' b).tidy).pv 0 else ret Cor.none'.pv 4 := by
  obtain ⟨xo, yo, yf, ysm, xs, _⟩ := left_ok b hok hg
  refine Ult.succ (((spec_cGood c hok (Cor.good_sm hg)).and ((spec_by b hb c hok hg).and ((spec_dtidy _ yo yf ysm).and (spec_cGood _ xo xs)))).mono fun k ⟨h1, h2, h3, h4⟩ ret => ?_)
  simp only [G27, f27_N, f27_e, h1, h2, h3, h4, hg, Bool.not_true, cond_false]
  cases ((c.by' b).tidy).good <;> rfl
theorem vis_ok : ∀ (s : List Nat) (c : Cor), c.Ok → c.good = true → (∀ b ∈ s, b < 256) → ∀ p ∈ visN c s, p.1.Ok ∧ p.1.good = true ∧ p.2 < 256
  | [], c, _, _, _, p, hp => by simp [visN] at hp
  | b :: s, c, ho, hg, hb, p, hp => by
    simp only [visN, List.mem_cons] at hp
    rcases hp with rfl | hp
    · exact ⟨ho, hg, hb b (by simp)⟩
    · split at hp
      · rename_i hx
        exact vis_ok s _ (left_ok b ho hg).1 hx (fun b hb' => hb b (by simp [hb'])) p hp
      · cases hp
theorem word_ok : ∀ (s : List Nat) (c x : Cor), c.Ok → c.good = true → wordN c s = some x → x.Ok ∧ x.good = true ∧ ∀ t, (Cor.Lg x t ↔ Cor.Lg c (s ++ t))
  | [], c, x, ho, hg, h => by
    simp only [wordN, Option.some.injEq] at h
    subst h
    exact ⟨ho, hg, fun t => Iff.rfl⟩
  | b :: s, c, x, ho, hg, h => by
    simp only [wordN] at h
    split at h
    · rename_i hx
      obtain ⟨xo, yo, yf, _, _, xf⟩ := left_ok b ho hg
      obtain ⟨h1, h2, h3⟩ := word_ok s _ x xo hx h
      refine ⟨h1, h2, fun t => ?_⟩
      rw [h3, Cor.tidy_lg _ yf, Cor.by_lg b c (Cor.good_iff.1 hg).2]; rfl
    · cases h
theorem spec_Word (c : Cor) (s : List Nat) (hok : c.Ok) (hg : c.good = true) (hs : s.length ≤ 256) (hb : ∀ x ∈ s, x < 256) : Ult fun k => ∀ ret, G17 k c.pv (.list (ints s)) ret = match (if s = [] then some c.tidy else wordN c s) with | some x => ret x.pv 0 | none => ret Cor.none'.pv 4 := by
  have hv : Ult fun k => ∀ p ∈ visN c s, ∀ ret, G27 k p.1.pv (p.2 : Int) ret = if ((p.1.by' p.2).tidy).good = true then ret ((p.1.by' p.2).tidy).pv 0 else ret Cor.none'.pv 4 := Ult.forall_mem fun p hp => by
    obtain ⟨h1, h2, h3⟩ := vis_ok s c hok hg hb p hp
    exact spec_By p.1 p.2 h3 h1 h2
  refine Ult.succ (((spec_cGood c hok (Cor.good_sm hg)).and ((spec_dtidy c hok (Cor.good_iff.1 hg).2 (Cor.good_sm hg)).and (hv.and (Ult.ge 300)))).mono fun k ⟨h1, h2, h3, hge⟩ ret => ?_)
  simp only [G17, f17_N, f17_e, h1, hg, Bool.not_true, cond_false, PV.els, ints_len]
  cases s with
  | nil => simp [h2]
  | cons b0 s0 =>
    rw [decide_eq_false (show ¬ (((b0 :: s0).length : Nat) : Int) = 0 by simp; omega), cond_false, if_neg (by simp)]
    generalize hS : b0 :: s0 = S at *
    simp only [f17_w1N]
    have key := vup (body := f17_w1B k (G27 k) (G28 k) (G57 k) ret (.list (ints S))) (fun (i : Nat) (d : Cor) => ((i : Int), d.pv)) (fun i d => ∀ p ∈ visN d (S.drop i), p ∈ visN c S) (res := fun i d => match wordN d (S.drop i) with | some x => ret x.pv 0 | none => ret Cor.none'.pv 4) S.length ?_ ?_ k 0 c (fun p hp => hp) (by omega) (by omega)
    · exact key
    · intro nx d hd
      simp only [f17_w1B, f17_w1b0N, f17_w1b0, PV.els, ints_len, List.drop_length, wordN]
      rw [decide_eq_false (by omega)]; rfl
    · intro i hi nx d hd hnx
      have en : PV.num (List.getD (ints S) ((i : Int)).toNat PV.nil) = ((S[i] : Nat) : Int) := by simp [ints, List.getD, hi, PV.num]
      have hmem := hd (d, S[i]) (by rw [drop_cons hi]; simp [visN])
      simp only [f17_w1B, f17_w1b0N, f17_w1b0, PV.els, ints_len]
      rw [decide_eq_true (show (i : Int) < (S.length : Int) by omega), decide_eq_true (show (0 : Int) ≤ (i : Int) by omega), en, wrap_succ (by omega)]
      simp only [Bool.and_self, cond_true]
      rw [h3 _ hmem, drop_cons hi]
      simp only [wordN]
      by_cases hx : ((d.by' S[i]).tidy).good = true
      · rw [if_pos hx, if_pos hx]
        have := hnx ((d.by' S[i]).tidy) (fun p hp => hd p (by rw [drop_cons hi]; simp only [visN, if_pos hx, List.mem_cons]; exact .inr hp))
        exact this
      · rw [if_neg hx, if_neg hx]; rfl
theorem bool_eq_of {a b : Bool} (h : a = true ↔ b = true) : a = b := by
  cases a <;> cases b <;> simp_all
theorem DerivLeft.main (c : Cor) (s t : List Nat) (hc : c.Ok) (hs : ∀ b ∈ s, b < 256) (ht : ∀ b ∈ t, b < 256) (hz : c.size ≤ 100000000) : ∃ k, G7 k c.pv (.list (pvL s)) (.list (pvL t)) (fun y => some ([.bool y], [])) = some ([.bool true], []) := by
  have sc : c.Sm := by simp only [Cor.Sm]; omega
  refine Ult.get (Ult.succ ?_)
  have base := spec_awake.and ((spec_big c 60 (by omega)).and ((spec_csize c sc).and (spec_cGood c hc sc)))
  by_cases hsl : s.length ≤ 5
  case neg =>
    refine base.mono fun k ⟨h0, h1, h2, h3⟩ => ?_
    simp only [G7, f7_N, f7_e, h0, h1, h2, h3, PV.els, pvL_len]
    rw [decide_eq_true (show (5 : Int) < (s.length : Int) by omega)]
    cases c.big 60 <;> cases decide ((60 : Int) < ((min c.cnt 100000 : Nat) : Int)) <;> rfl
  have e1 : decide ((5 : Int) < (s.length : Int)) = false := decide_eq_false (by omega)
  by_cases htl : t.length ≤ 6
  case neg =>
    refine base.mono fun k ⟨h0, h1, h2, h3⟩ => ?_
    simp only [G7, f7_N, f7_e, h0, h1, h2, h3, PV.els, pvL_len]
    rw [e1, decide_eq_true (show (6 : Int) < (t.length : Int) by omega)]
    cases c.big 60 <;> cases decide ((60 : Int) < ((min c.cnt 100000 : Nat) : Int)) <;> rfl
  have e2 : decide ((6 : Int) < (t.length : Int)) = false := decide_eq_false (by omega)
  by_cases hg : c.good = true
  case neg =>
    refine base.mono fun k ⟨h0, h1, h2, h3⟩ => ?_
    simp only [G7, f7_N, f7_e, h0, h1, h2, h3, PV.els, pvL_len]
    have : c.good = false := by simpa using hg
    rw [e1, e2, this]
    cases c.big 60 <;> cases decide ((60 : Int) < ((min c.cnt 100000 : Nat) : Int)) <;> rfl
  obtain ⟨hcnt, hf⟩ := Cor.good_iff.1 hg
  have ho : ∀ b ∈ s ++ t, b < 256 := fun b hb => by
    rcases List.mem_append.1 hb with hb | hb
    · exact hs b hb
    · exact ht b hb
  have eall : PV.list (([] ++ pvL s) ++ pvL t) = PV.list (ints (s ++ t)) := by simp [ints, pvL]
  have hword := spec_Word c s hc hg (by omega) hs
  have tg : c.tidy.good = true := Cor.good_iff.2 ⟨Nat.le_trans (Cor.tidy_cnt c) hcnt, Cor.tidy_fmd c hf⟩
  have tok := Cor.tidy_ok c hc
  have hx : ∀ x, (if s = [] then some c.tidy else wordN c s) = some x → x.Ok ∧ x.good = true ∧ ∀ t, (Cor.Lg x t ↔ Cor.Lg c (s ++ t)) := fun x h => by
    split at h
    · rename_i e
      injection h with h
      subst h; subst e
      exact ⟨tok, tg, fun t => Cor.tidy_lg c hf t⟩
    · exact word_ok s c x hc hg h
  cases hW : (if s = [] then some c.tidy else wordN c s) with
  | none =>
    rw [hW] at hword
    refine (base.and hword).mono fun k ⟨⟨h0, h1, h2, h3⟩, h4⟩ => ?_
    have h4' : ∀ ret, G17 k c.pv (.list (pvL s)) ret = ret Cor.none'.pv 4 := h4
    simp only [G7, f7_N, f7_e, h0, h1, h2, h3, h4', PV.els, pvL_len]
    rw [e1, e2, hg]
    cases c.big 60 <;> cases decide ((60 : Int) < ((min c.cnt 100000 : Nat) : Int)) <;> rfl
  | some x =>
    rw [hW] at hword
    obtain ⟨xo, xg, xl⟩ := hx x hW
    have xf := (Cor.good_iff.1 xg).2
    have k1 : sayB x t = sayB c (s ++ t) := bool_eq_of (by rw [sayB_iff xf, sayB_iff hf, xl])
    have k2 : x.null = sayB c s := bool_eq_of (by rw [Cor.null_lg x xf, sayB_iff hf, xl, List.append_nil])
    have k3 : sayB c.tidy (s ++ t) = sayB c (s ++ t) := bool_eq_of (by rw [sayB_iff (Cor.tidy_fmd c hf), sayB_iff hf, Cor.tidy_lg c hf])
    refine (base.and (hword.and ((spec_lSays x t xo xg (by omega) ht).and ((spec_lSays c (s ++ t) hc hg (by simp; omega) ho).and ((spec_lNull x xo xg).and ((spec_lSays c s hc hg (by omega) hs).and ((spec_Tidy c hc hg).and (spec_lSays c.tidy (s ++ t) tok tg (by simp; omega) ho)))))))).mono fun k ⟨⟨h0, h1, h2, h3⟩, h4, h5, h6, h7, h8, h9, h10⟩ => ?_
    have h4' : ∀ ret, G17 k c.pv (.list (pvL s)) ret = ret x.pv 0 := h4
    have h5' : ∀ ret, G34 k x.pv (.list (pvL t)) ret = ret (sayB x t) := h5
    have h8' : ∀ ret, G34 k c.pv (.list (pvL s)) ret = ret (sayB c s) := h8
    simp only [G7, f7_N, f7_e, h0, h1, h2, h3, h4', PV.els, pvL_len, eall, h5', h6, h7, h8', h9, h10]
    rw [e1, e2, hg, k1, k2, k3, roomyP (by simp; omega) (by omega), roomyP (by simp [pvL_len]; omega) (by omega)]
    cases c.big 60 <;> cases decide ((60 : Int) < ((min c.cnt 100000 : Nat) : Int)) <;> cases sayB c (s ++ t) <;> cases sayB c s <;> rfl
end Go.Proofs.Ythdonefmfgnilaa
