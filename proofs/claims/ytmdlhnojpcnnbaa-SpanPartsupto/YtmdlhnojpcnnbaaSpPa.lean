/- The law SpanParts comes out true. -/
import Derived.Test.YtmdlhnojpcnnbaaSpX
import Derived.Test.YtmdlhnojpcnnbaaSpZ
import Derived.Test.YtmdlhnojpcnnbaaValE
set_option linter.unusedSimpArgs false
set_option linter.unusedVariables false
set_option maxRecDepth 20000
namespace Go.Proofs.Ytmdlhnojpcnnbaa
open Go Go.X

theorem spec_awake : Ult fun k => ∀ ret, G12 k ret = ret true :=
  ⟨300, fun k hk ret => by
    obtain ⟨m, rfl⟩ : ∃ m, k = m + 300 := ⟨k - 300, by omega⟩
    revert ret m; intro m _ ret
    kernel_rfl⟩
theorem spec_seq (c d : Cor) : Ult fun k => ∀ ret, G13 k c.pv d.pv ret = ret (Cor.mk 3 0 0 [c, d]).pv := Ult.succ (Ult.of fun k ret => rfl)
theorem row_at (c d : Cor) : (Cor.flat (.mk 3 0 0 [c, d]) 0)[0]? = some (.mk 3 0 0 [c, d], [1, 1 + c.cnt]) ∧ (∃ ks, (Cor.flat (.mk 3 0 0 [c, d]) 0)[1]? = some (c, ks)) ∧ (∃ ks, (Cor.flat (.mk 3 0 0 [c, d]) 0)[1 + c.cnt]? = some (d, ks)) := by
  have hP : Cor.flat (.mk 3 0 0 [c, d]) 0 = (.mk 3 0 0 [c, d], [1, 1 + c.cnt]) :: (Cor.flat c 1 ++ Cor.flat d (1 + c.cnt)) := by simp [Cor.flat, Cor.flats, Cor.nums]
  have h1c : ∀ b, (Cor.flat c b)[0]? = some (c, Cor.nums (b + 1) c.kidl) := fun b => by cases c; simp [Cor.flat]
  have h1d : ∀ b, (Cor.flat d b)[0]? = some (d, Cor.nums (b + 1) d.kidl) := fun b => by cases d; simp [Cor.flat]
  have pc := Cor.cnt_pos c
  have lc := Cor.flat_length c 1
  refine ⟨by rw [hP]; rfl, ⟨Cor.nums 2 c.kidl, ?_⟩, ⟨Cor.nums (1 + c.cnt + 1) d.kidl, ?_⟩⟩
  · rw [hP, List.getElem?_cons_succ, List.getElem?_append_left (by omega)]; exact h1c 1
  · rw [hP, show 1 + c.cnt = c.cnt + 1 by omega, List.getElem?_cons_succ, List.getElem?_append_right (by omega), lc, Nat.sub_self]
    exact h1d (c.cnt + 1)
theorem saysX_of {P : List (Cor × List Nat)} {s : List Nat} {path : List Int} {n : Nat} {c : Cor} {ks : List Nat} {f t : Nat} (hp : pathN P path 0 = some n) (hc : P[n]? = some (c, ks)) (h1 : f ≤ t) (h2 : t ≤ s.length) : saysX P s path (f : Int) (t : Int) = (c.ends s f).testBit t := by
  unfold saysX
  rw [hp]
  simp only [hc]
  rw [decide_eq_true ⟨by omega, by omega, by omega⟩]
  simp
theorem bestX_of {P : List (Cor × List Nat)} {s : List Nat} {path : List Int} {n : Nat} {c : Cor} {ks : List Nat} {f t : Nat} (hp : pathN P path 0 = some n) (hc : P[n]? = some (c, ks)) (h1 : f ≤ t) (h2 : t ≤ s.length) : bestX P s path (f : Int) (t : Int) = bif (c.ends s f).testBit t then (Cor.best s c f t, 0) else (noVal, 5) := by
  unfold bestX
  rw [hp]
  simp only [hc]
  rw [if_pos ⟨by omega, by omega, by omega⟩]
  simp
theorem pv2 (a b : Val) : (Val.mk 3 0 [a, b]).pv = .agg [.int 3, .int 0, .list [a.pv, b.pv]] := rfl

theorem SpanParts.main (c d : Cor) (s : List Nat) (f t : Int) (hc : c.Ok) (hd : d.Ok) (hs : ∀ b ∈ s, b < 256) (_ : (Lit.int .i64 f).wf = true) (_ : (Lit.int .i64 t).wf = true) (hz : c.size ≤ 10000000 ∧ d.size ≤ 10000000) :
    ∃ k, G6 k c.pv d.pv (.list (pvL s)) f t (fun y => some ([.bool y], [])) = some ([.bool true], []) := by
  refine Ult.get (Ult.succ ?_)
  obtain ⟨r, hr⟩ : ∃ r, r = Cor.mk 3 0 0 [c, d] := ⟨_, rfl⟩
  have sr : r.Sm := by subst hr; simp only [Cor.Sm, Cor.size, Cor.sizes]; omega
  have or : r.Ok := by subst hr; exact ⟨by decide, by decide, by decide, hc, hd, trivial⟩
  have base := spec_awake.and ((spec_seq c d).and ((spec_big c 30 (by omega)).and ((spec_big d 30 (by omega)).and ((spec_csize r sr).and (spec_cGood r or sr)))))
  rw [← hr] at base
  by_cases hg : r.good = true
  case neg =>
    refine base.mono fun k ⟨h0, h1, h2, h3, h4, h5⟩ => ?_
    simp only [G6, f6_N, f6_e, h0, h1, h2, h3, h4, h5]
    have : r.good = false := by simpa using hg
    rw [this]
    cases c.big 30 <;> cases d.big 30 <;> rfl
  by_cases hcn : r.cnt ≤ 50
  case neg =>
    refine base.mono fun k ⟨h0, h1, h2, h3, h4, h5⟩ => ?_
    simp only [G6, f6_N, f6_e, h0, h1, h2, h3, h4, h5]
    rw [hg, decide_eq_true (show (50 : Int) < ((min r.cnt 100000 : Nat) : Int) by omega)]
    cases c.big 30 <;> cases d.big 30 <;> rfl
  have hd1 : decide ((50 : Int) < ((min r.cnt 100000 : Nat) : Int)) = false := decide_eq_false (by omega)
  by_cases hsl : s.length ≤ 8
  case neg =>
    refine base.mono fun k ⟨h0, h1, h2, h3, h4, h5⟩ => ?_
    simp only [G6, f6_N, f6_e, h0, h1, h2, h3, h4, h5, PV.els, pvL_len]
    rw [hg, hd1, decide_eq_true (show (8 : Int) < (s.length : Int) by omega)]
    cases c.big 30 <;> cases d.big 30 <;> rfl
  have hd2 : decide ((8 : Int) < (s.length : Int)) = false := decide_eq_false (by omega)
  by_cases ha0 : f < 0
  · refine base.mono fun k ⟨h0, h1, h2, h3, h4, h5⟩ => ?_
    simp only [G6, f6_N, f6_e, h0, h1, h2, h3, h4, h5, PV.els, pvL_len]
    rw [hg, hd1, hd2, decide_eq_true ha0]
    cases c.big 30 <;> cases d.big 30 <;> rfl
  by_cases ha1 : t < f
  · refine base.mono fun k ⟨h0, h1, h2, h3, h4, h5⟩ => ?_
    simp only [G6, f6_N, f6_e, h0, h1, h2, h3, h4, h5, PV.els, pvL_len]
    rw [hg, hd1, hd2, decide_eq_false ha0, decide_eq_true ha1]
    cases c.big 30 <;> cases d.big 30 <;> rfl
  by_cases ha2 : (s.length : Int) < t
  · refine base.mono fun k ⟨h0, h1, h2, h3, h4, h5⟩ => ?_
    simp only [G6, f6_N, f6_e, h0, h1, h2, h3, h4, h5, PV.els, pvL_len]
    rw [hg, hd1, hd2, decide_eq_false ha0, decide_eq_false ha1, decide_eq_true ha2]
    cases c.big 30 <;> cases d.big 30 <;> rfl
  obtain ⟨i, rfl⟩ : ∃ i : Nat, f = (i : Int) := ⟨f.toNat, by omega⟩
  obtain ⟨j, rfl⟩ : ∃ j : Nat, t = (j : Int) := ⟨t.toNat, by omega⟩
  have hij : i ≤ j := by omega
  have hjl : j ≤ s.length := by omega
  have hf : r.fmd = true := by simp only [Cor.good, Bool.and_eq_true] at hg; exact hg.2
  have hkids := (Cor.kids_of (by rw [hr] at hf; exact hf)).2
  have hfc : c.fmd = true := hkids c (by simp)
  have hfd : d.fmd = true := hkids d (by simp)
  have hrc : r.cnt = 1 + (c.cnt + d.cnt) := by subst hr; simp [Cor.cnt, Cor.cnts]
  have pk := Pk.flat hf
  obtain ⟨g0, ⟨ks1, g1⟩, ⟨ks2, g2⟩⟩ := row_at c d
  rw [← hr] at g0 g1 g2
  obtain ⟨M0, hM0⟩ : ∃ M0, M0 = Cor.mid s c d i i j := ⟨_, rfl⟩
  have hsame : Ult fun k => ∀ m, M0 = some m → (∀ ret, G32 k (Cor.best s c i m).pv (Cor.best s c i m).pv ret = ret ((Cor.best s c i m).same (Cor.best s c i m))) ∧ (∀ ret, G32 k (Cor.best s d m j).pv (Cor.best s d m j).pv ret = ret ((Cor.best s d m j).same (Cor.best s d m j))) := by
    cases M0 with
    | none => exact Ult.of fun k m h => by cases h
    | some m =>
      obtain ⟨h1, h2, h3, h4⟩ := Cor.mid_some hM0.symm
      have z1 := Cor.best_sm hfc (by omega) h3 (by omega) (by omega)
      have z2 := Cor.best_sm hfd (by omega) h4 (by omega) (by omega)
      exact ((spec_Same (Cor.best s c i m) (by unfold Val.Sm; omega) (Cor.best s c i m)).and (spec_Same (Cor.best s d m j) (by unfold Val.Sm; omega) (Cor.best s d m j))).mono fun k ⟨h1, h2⟩ m' hm => by
        injection hm with hm; subst hm
        exact ⟨h1, h2⟩
  refine (base.and ((spec_sNew r s or sr hg (by omega) (by omega) hs).and ((spec_sSays r hf [0] (by simp)).and ((spec_sSays r hf [1] (by simp)).and ((spec_sSays r hf [] (by simp)).and ((spec_sBest r hf [] (by simp)).and ((spec_sBest r hf [0] (by simp)).and ((spec_sBest r hf [1] (by simp)).and (hsame.and (Ult.ge 300)))))))))).mono fun k ⟨⟨h0, h1, h2, h3, h4, h5⟩, hnew, hs0, hs1, hsn, hbn, hb0, hb1, hsm, hge⟩ => ?_
  simp (config := { zeta := false }) only [G6, f6_N, f6_e, h0, h1, h2, h3, h4, h5, PV.els, pvL_len]
  rw [hg, hd1, hd2, decide_eq_false ha0, decide_eq_false ha1, decide_eq_false ha2]
  cases c.big 30 with
  | true => rfl
  | false =>
  cases d.big 30 with
  | true => rfl
  | false =>
    obtain ⟨Q, hQd⟩ : ∃ Q : R → Prop, Q = fun r => r = some ([.bool true], []) := ⟨_, rfl⟩
    suffices hgoal : Q _ by rw [hQd] at hgoal; exact hgoal
    have hfin : Q (some ([.bool true], [])) := by rw [hQd]
    refine hnew Q [] _ (fun h14 ix T M hTP hTs tok a => ?_)
    have hTl : T.s.length = s.length := by rw [hTs]
    rw [← hTP] at g0 g1 g2
    have q0 : pathN T.P [0] 0 = some 1 := by simp [pathN, g0]
    have q1 : pathN T.P [1] 0 = some (1 + c.cnt) := by simp [pathN, g0]
    have qn : pathN T.P [] 0 = some 0 := rfl
    refine cT rfl (cF rfl ?_)
    refine vupQ (body := f6_w1B k (G12 k) (G13 k) (G17 k) (G18 k) (G21 k) (G22 k) (G23 k) (G31 k) (G32 k) (fun y => some ([.bool y], [])) (i : Int) (j : Int) (.rp ix)) Q
      (fun (n : Nat) (a : Int × List HE) => (a.1, ((n : Int), a.2)))
      (fun n a => i ≤ n ∧ (∃ M, Sx M a.2 ix T) ∧ ((a.1 = -1 ∧ ∀ m : Nat, i ≤ m → m < n → ((c.ends s i).testBit m && (d.ends s m).testBit j) = false) ∨ ∃ m : Nat, a.1 = (m : Int) ∧ i ≤ m ∧ m < n ∧ ((c.ends s i).testBit m && (d.ends s m).testBit j) = true ∧ ∀ m' : Nat, m < m' → m' < n → ((c.ends s i).testBit m' && (d.ends s m').testBit j) = false)) (j + 1) ?_ ?_ k i (-1, h14)
      ⟨Nat.le_refl _, ⟨_, a⟩, .inl ⟨rfl, fun m h1 h2 => by omega⟩⟩ (by omega) (by omega)
    · rintro nx ⟨far, H⟩ ⟨_, ⟨M1, aH⟩, hfar⟩
      simp only at aH hfar
      simp (config := { zeta := false }) only [f6_w1B, f6_w1b0N, f6_w1b0]
      refine cF (decide_eq_false (by omega)) ?_
      refine hbn Q M1 H ix T (i : Int) (j : Int) _ hTP aH tok (fun H1 _ a1 => ?_)
      rw [bestX_of qn g0 hij (by omega), hTs, hr]
      rcases hfar with ⟨hf1, hno⟩ | ⟨m, hf1, hm1, hm2, hm3, hm4⟩
      · subst hf1
        have hmid : Cor.mid s c d i i j = none := lastK_fresh fun m h1 h2 => hno m h1 (by omega)
        have hnb : (Cor.ends s (Cor.mk 3 0 0 [c, d]) i).testBit j = false := by
          cases hb : (Cor.ends s (Cor.mk 3 0 0 [c, d]) i).testBit j with
          | false => rfl
          | true =>
            obtain ⟨m, hm⟩ := Cor.mid_both (by rw [← hr]; exact hf) (by omega) hb
            rw [hmid] at hm; cases hm
        rw [hnb]
        refine cT rfl (cT rfl ?_)
        refine hsn Q _ H1 ix T (i : Int) (j : Int) _ hTP a1 tok (fun H2 _ a2 => ?_)
        rw [saysX_of qn g0 hij (by omega), hTs, hr, hnb]
        exact hfin
      · subst hf1
        have hmid : Cor.mid s c d i i j = some m := lastK_eq hm1 (by omega) hm3 (fun m' h1 h2 => hm4 m' h1 (by omega))
        rw [Bool.and_eq_true] at hm3
        have hyb : (Cor.ends s (Cor.mk 3 0 0 [c, d]) i).testBit j = true := by
          rw [Cor.ends3, Cor.both_bit, List.any_eq_true]
          exact ⟨m, by rw [List.mem_range'_1]; omega, by rw [hm3.1, hm3.2]; rfl⟩
        obtain ⟨sm1, sm2⟩ := hsm m (by rw [hM0, hmid])
        rw [hyb]
        refine cF (decide_eq_false (by omega)) (cT rfl ?_)
        rw [cond_true, Cor.best3, hmid]
        refine cF rfl ?_
        refine hb0 Q _ H1 ix T (i : Int) (m : Int) _ hTP a1 tok (fun H2 _ a2 => ?_)
        rw [bestX_of q0 g1 hm1 (by omega), hTs, hm3.1]
        refine hb1 Q _ H2 ix T (m : Int) (j : Int) _ hTP a2 tok (fun H3 _ a3 => ?_)
        rw [bestX_of q1 g2 (by omega) (by omega), hTs, hm3.2]
        refine cT rfl (cT rfl (cT rfl ?_))
        simp only [cond_true, Option.getD_some]
        show Q (G32 k (Cor.best s c i m).pv (Cor.best s c i m).pv _)
        rw [sm1, (Val.same_iff _ _).2 rfl]
        refine cT rfl (cT rfl ?_)
        show Q (G32 k (Cor.best s d m j).pv (Cor.best s d m j).pv _)
        rw [sm2, (Val.same_iff _ _).2 rfl]
        refine cT rfl ?_
        refine hsn Q _ H3 ix T (i : Int) (j : Int) _ hTP a3 tok (fun H4 _ a4 => ?_)
        rw [saysX_of qn g0 hij (by omega), hTs, hr, hyb]
        exact hfin
    · rintro n hn nx ⟨far, H⟩ ⟨hin, ⟨M1, aH⟩, hfar⟩ hnx
      simp only at aH hfar
      have hw : IntKind.wrap .i64 ((n : Int) + 1) = ((n + 1 : Nat) : Int) := wrap_succ (by omega)
      simp (config := { zeta := false }) only [f6_w1B, f6_w1b0N, f6_w1b0]
      refine cT (decide_eq_true (by omega)) ?_
      rw [hw]
      refine hs0 Q M1 H ix T (i : Int) (n : Int) _ hTP aH tok (fun H1 _ a1 => ?_)
      rw [saysX_of q0 g1 hin (by omega), hTs]
      have keep : ∀ H', (∃ M, Sx M H' ix T) → ((c.ends s i).testBit n && (d.ends s n).testBit j) = false → Q (nx (far, ((n + 1 : Nat) : Int), H')) := fun H' a' hno => by
        refine hnx (far, H') ⟨by omega, a', ?_⟩
        rcases hfar with ⟨e1, e2⟩ | ⟨m, e1, e2, e3, e4, e5⟩
        · refine .inl ⟨e1, fun m h1 h2 => ?_⟩
          by_cases e : m = n
          · subst e; exact hno
          · exact e2 m h1 (by omega)
        · refine .inr ⟨m, e1, e2, by omega, e4, fun m' h1 h2 => ?_⟩
          by_cases e : m' = n
          · subst e; exact hno
          · exact e5 m' h1 (by omega)
      by_cases hb1' : (c.ends s i).testBit n = true
      · refine cT (by rw [hb1']; rfl) ?_
        refine hs1 Q _ H1 ix T (n : Int) (j : Int) _ hTP a1 tok (fun H2 _ a2 => ?_)
        rw [saysX_of q1 g2 (by omega) (by omega), hTs]
        by_cases hb2 : (d.ends s n).testBit j = true
        · refine cT hb2 ?_
          exact hnx ((n : Int), H2) ⟨by omega, ⟨_, a2⟩, .inr ⟨n, rfl, hin, by omega, by rw [hb1', hb2]; rfl, fun m' h1 h2 => by omega⟩⟩
        · refine cF (by simpa using hb2) ?_
          exact keep H2 ⟨_, a2⟩ (by rw [show (d.ends s n).testBit j = false by simpa using hb2, Bool.and_false])
      · refine cF (by rw [show (c.ends s i).testBit n = false by simpa using hb1']; rfl) ?_
        exact keep H1 ⟨_, a1⟩ (by rw [show (c.ends s i).testBit n = false by simpa using hb1', Bool.false_and])
end Go.Proofs.Ytmdlhnojpcnnbaa
