/- The law AheadRows comes out true: its run. -/
import Derived.Test.YthdonefmfgnilaaAhRo
set_option linter.unusedSimpArgs false
set_option linter.unusedVariables false
set_option maxRecDepth 20000
namespace Go.Proofs.Ythdonefmfgnilaa
open Go Go.X

theorem IntoN_of {P : List (Cor × List Nat)} {s : List Nat} {past : List (Option (List Bool))} {path : List Int} {p : Nat} {c : Cor} {ks : List Nat} {b : List Bool} {x : Nat} (hp : pathN P path 0 = some p) (hc : P[p]? = some (c, ks)) (hb : past[p]? = some (some b)) (hx : x ≤ s.length) :
    IntoN P s past path (x : Int) = intoN s b c x x := by
  unfold IntoN
  rw [hp]
  simp only [hc, hb]
  rw [decide_eq_true ⟨by omega, by omega⟩]
  simp
theorem PastN_of {P : List (Cor × List Nat)} {s : List Nat} {past : List (Option (List Bool))} {path : List Int} {p : Nat} {b : List Bool} {x : Nat} (hp : pathN P path 0 = some p) (hb : past[p]? = some (some b)) (hx : x ≤ s.length) :
    PastN P s past path (x : Int) = b.getD x false := by
  unfold PastN
  rw [hp]
  simp only [hb]
  rw [decide_eq_true ⟨by omega, by omega⟩]
  simp
theorem spec_seq (c d : Cor) : Ult fun k => ∀ ret, G36 k c.pv d.pv ret = ret (Cor.mk 3 0 0 [c, d]).pv := Ult.succ (Ult.of fun k ret => rfl)
theorem AheadRows.main (c d : Cor) (s : List Nat) (whole : Bool) (at' : Int) (hc : c.Ok) (hd : d.Ok) (hs : ∀ b ∈ s, b < 256) (_ : True) (hat : (Lit.int .i64 at').wf = true) (hz : c.size ≤ 10000000 ∧ d.size ≤ 10000000) :
    ∃ k, G11 k c.pv d.pv (.list (pvL s)) whole at' (fun y => some ([.bool y], [])) = some ([.bool true], []) := by
  refine Ult.get (Ult.succ ?_)
  obtain ⟨r, hr⟩ : ∃ r, r = Cor.mk 3 0 0 [c, d] := ⟨_, rfl⟩
  have sc : c.Sm := by simp only [Cor.Sm]; omega
  have sr : r.Sm := by subst hr; simp only [Cor.Sm, Cor.size, Cor.sizes]; omega
  have or : r.Ok := by subst hr; exact ⟨by decide, by decide, by decide, hc, hd, trivial⟩
  have base := spec_awake.and ((spec_seq c d).and ((spec_big c 30 (by omega)).and ((spec_big d 30 (by omega)).and ((spec_csize r sr).and (spec_cGood r or sr)))))
  rw [← hr] at base
  by_cases hg : r.good = true
  case neg =>
    refine base.mono fun k ⟨h0, h1, h2, h3, h4, h5⟩ => ?_
    simp only [G11, f11_N, f11_e, h0, h1, h2, h3, h4, h5]
    have : r.good = false := by simpa using hg
    rw [this]
    cases c.big 30 <;> cases d.big 30 <;> rfl
  by_cases hcn : r.cnt ≤ 50
  case neg =>
    refine base.mono fun k ⟨h0, h1, h2, h3, h4, h5⟩ => ?_
    simp only [G11, f11_N, f11_e, h0, h1, h2, h3, h4, h5]
    rw [hg, decide_eq_true (show (50 : Int) < ((min r.cnt 100000 : Nat) : Int) by omega)]
    cases c.big 30 <;> cases d.big 30 <;> rfl
  have hd1 : decide ((50 : Int) < ((min r.cnt 100000 : Nat) : Int)) = false := decide_eq_false (by omega)
  by_cases hsl : s.length ≤ 8
  case neg =>
    refine base.mono fun k ⟨h0, h1, h2, h3, h4, h5⟩ => ?_
    simp only [G11, f11_N, f11_e, h0, h1, h2, h3, h4, h5, PV.els, pvL_len]
    rw [hg, hd1, decide_eq_true (show (8 : Int) < (s.length : Int) by omega)]
    cases c.big 30 <;> cases d.big 30 <;> rfl
  have hd2 : decide ((8 : Int) < (s.length : Int)) = false := decide_eq_false (by omega)
  by_cases ha0 : at' < 0
  · refine base.mono fun k ⟨h0, h1, h2, h3, h4, h5⟩ => ?_
    simp only [G11, f11_N, f11_e, h0, h1, h2, h3, h4, h5, PV.els, pvL_len]
    rw [hg, hd1, hd2, decide_eq_true ha0]
    cases c.big 30 <;> cases d.big 30 <;> rfl
  by_cases ha1 : (s.length : Int) < at'
  · refine base.mono fun k ⟨h0, h1, h2, h3, h4, h5⟩ => ?_
    simp only [G11, f11_N, f11_e, h0, h1, h2, h3, h4, h5, PV.els, pvL_len]
    rw [hg, hd1, hd2, decide_eq_false ha0, decide_eq_true ha1]
    cases c.big 30 <;> cases d.big 30 <;> rfl
  obtain ⟨i, rfl⟩ : ∃ i : Nat, at' = (i : Int) := ⟨at'.toNat, by omega⟩
  have hi : i ≤ s.length := by omega
  have hf : r.fmd = true := by simp only [Cor.good, Bool.and_eq_true] at hg; exact hg.2
  have hkids := (Cor.kids_of (by rw [hr] at hf; exact hf)).2
  have hfc : c.fmd = true := hkids c (by simp)
  have hfd : d.fmd = true := hkids d (by simp)
  have hrc : r.cnt = 1 + (c.cnt + d.cnt) := by subst hr; simp [Cor.cnt, Cor.cnts]
  have hgc : c.good = true := by simp only [Cor.good, Bool.and_eq_true, decide_eq_true_eq]; exact ⟨by omega, hfc⟩
  have pk := Pk.flat hf
  obtain ⟨g0, ⟨ks1, g1⟩, ⟨ks2, g2⟩, p0, p1, p2⟩ := rows_at c d s (lastP whole s.length)
  rw [← hr] at g0 g1 g2 p0 p1 p2
  refine (base.and ((spec_New2 r s or sr hg hf (by omega) (by omega) hs).and ((spec_Ends c s hc sc hgc hfc (by omega) (by omega) hs i hi).and ((spec_Into r hf [0] (by simp)).and ((spec_Into r hf [1] (by simp)).and ((spec_Into r hf [] (by simp)).and ((spec_Past r hf [0] (by simp)).and ((spec_Past r hf [1] (by simp)).and ((spec_Past r hf [] (by simp)).and (Ult.ge 300)))))))))).mono fun k ⟨⟨h0, h1, h2, h3, h4, h5⟩, hnew, hends, hi0, hi1, hin, hp0, hp1, hpn, hge⟩ => ?_
  simp (config := { zeta := false }) only [G11, f11_N, f11_e, h0, h1, h2, h3, h4, h5, PV.els, pvL_len]
  rw [hg, hd1, hd2, decide_eq_false ha0, decide_eq_false ha1]
  cases c.big 30 with
  | true => rfl
  | false =>
  cases d.big 30 with
  | true => rfl
  | false =>
    refine hnew (fun r => r = some ([.bool true], [])) [] whole _ (fun h14 ia ipa T hTP hTs tok a => ?_)
    have isa : ∀ j, j < T.P.length → Is T.s (runN T.P T.s (lastP whole s.length) T.P.length) j := fun j hj => run_all (by rw [hTP]; exact pk) T.s (by rw [lastP_len, hTs]) (Nat.le_refl _) (by omega) hj
    have tn : T.s.length = s.length := by rw [hTs]
    rw [← hTP] at g0 g1 g2 p0 p1 p2
    rw [← hTs] at p0 p1 p2
    have hlw : lastP whole T.s.length = lastP whole s.length := by rw [tn]
    rw [hlw] at p0 p1 p2
    generalize hpa : runN T.P T.s (lastP whole s.length) T.P.length = pa at *
    have q0 : pathN T.P [0] 0 = some 1 := by simp [pathN, g0]
    have q1 : pathN T.P [1] 0 = some (1 + c.cnt) := by simp [pathN, g0]
    have qn : pathN T.P [] 0 = some 0 := rfl
    have H1 : ∀ x : Nat, x ≤ s.length → IntoN T.P T.s pa [1] (x : Int) = intoN T.s (lastP whole s.length) d x x := fun x hx => IntoN_of q1 g2 p2 (by omega)
    have H0 : IntoN T.P T.s pa [0] (i : Int) = intoN T.s (bothP T.s (lastP whole s.length) d) c i i := IntoN_of q0 g1 p1 (by omega)
    have Hn : IntoN T.P T.s pa [] (i : Int) = intoN T.s (lastP whole s.length) r i i := by rw [IntoN_of qn g0 p0 (by omega), hr]
    have K0 : PastN T.P T.s pa [0] (i : Int) = intoN T.s (lastP whole s.length) d i i := by
      rw [PastN_of q0 p1 (by omega)]
      simp [bothP, List.getD, List.getElem?_range (show i < T.s.length + 1 by omega)]
    have K1 : PastN T.P T.s pa [1] (i : Int) = (lastP whole s.length).getD i false := PastN_of q1 p2 (by omega)
    have Kn : PastN T.P T.s pa [] (i : Int) = (lastP whole s.length).getD i false := PastN_of qn p0 (by omega)
    rw [lastP_get _ _ hi] at K1 Kn
    refine cT (Q := fun r => r = some ([.bool true], [])) rfl (cF (Q := fun r => r = some ([.bool true], [])) rfl ?_)
    refine hends (fun r => r = some ([.bool true], [])) _ ?_
    have hmem : ∀ x ∈ endsL s c i, x ≤ s.length := fun x hx => by
      have := (List.mem_filter.1 hx).1
      rw [List.mem_range'_1] at this; omega
    have hlen : (endsL s c i).length ≤ 20 := by
      have := List.length_filter_le (fun to => (c.ends s i).testBit to) (List.range' i (s.length + 1 - i))
      rw [List.length_range'] at this
      simp only [endsL]; omega
    have callI : ∀ (path : List Int) (x : Int) (hsp : ∀ (Q : R → Prop) (M : Nat → Prop) (h : List HE) (ia ipa : Nat) (T : Tab) (past : List (Option (List Bool))) (at' : Int) (ret : Bool → List HE → R), T.P = Cor.flat r 0 → Ah M h ia ipa T past → Tok T → (∀ j, j < T.P.length → Is T.s past j) →
        (∀ h', Fr M h h' → Ah (Mx M h h') h' ia ipa T past → Q (ret (IntoN T.P T.s past path at') h')) → Q (G42 k (.rp ia) (.list (pints path)) at' h ret)) (H : List HE) (ret : Bool → List HE → R), (∃ M, Ah M H ia ipa T pa) → (∀ H', (∃ M, Ah M H' ia ipa T pa) → ret (IntoN T.P T.s pa path x) H' = some ([.bool true], [])) → G42 k (.rp ia) (.list (pints path)) x H ret = some ([.bool true], []) := fun path x hsp H ret ⟨M, ah⟩ g =>
      hsp (fun r => r = some ([.bool true], [])) M H ia ipa T pa x ret hTP ah tok isa fun H' hfr hah => g H' ⟨_, hah⟩
    have callP : ∀ (path : List Int) (x : Int) (hsp : ∀ (Q : R → Prop) (M : Nat → Prop) (h : List HE) (ia ipa : Nat) (T : Tab) (past : List (Option (List Bool))) (at' : Int) (ret : Bool → List HE → R), T.P = Cor.flat r 0 → Ah M h ia ipa T past → Tok T → (∀ j, j < T.P.length → Is T.s past j) →
        Q (ret (PastN T.P T.s past path at') h) → Q (G41 k (.rp ia) (.list (pints path)) at' h ret)) (H : List HE) (ret : Bool → List HE → R), (∃ M, Ah M H ia ipa T pa) → ret (PastN T.P T.s pa path x) H = some ([.bool true], []) → G41 k (.rp ia) (.list (pints path)) x H ret = some ([.bool true], []) := fun path x hsp H ret ⟨M, ah⟩ g =>
      hsp (fun r => r = some ([.bool true], [])) M H ia ipa T pa x ret hTP ah tok isa g
    have st0 : (false, ((0 : Int), h14)) = (fun (j : Nat) (H : List HE) => (((endsL s c i).take j).any fun x => intoN T.s (lastP whole s.length) d x x, ((j : Int), H))) 0 h14 := by simp
    refine (?_ : f11_w1N k (G16 k) (G28 k) (G35 k) (G36 k) (G39 k) (G41 k) (G42 k) (G43 k) (G44 k) (fun y => some ([.bool y], [])) (.list (pvL s)) whole (i : Int) (.rp ia) (.list (ints (endsL s c i))) false 0 h14 = some ([.bool true], []))
    unfold f11_w1N
    rw [st0]
    refine vupQ (body := f11_w1B k (G16 k) (G28 k) (G35 k) (G36 k) (G39 k) (G41 k) (G42 k) (G43 k) (G44 k) (fun y => some ([.bool y], [])) (.list (pvL s)) whole (i : Int) (.rp ia) (.list (ints (endsL s c i)))) (fun r => r = some ([.bool true], [])) (fun (j : Nat) (H : List HE) => (((endsL s c i).take j).any fun x => intoN T.s (lastP whole s.length) d x x, ((j : Int), H))) (fun j H => ∃ M, Ah M H ia ipa T pa) (endsL s c i).length ?_ ?_ k 0 h14 ⟨_, a.1⟩ (by omega) (by omega)
    · intro nx H hH
      rw [List.take_length]
      have ecan : ((endsL s c i).any fun x => intoN T.s (lastP whole s.length) d x x) = intoN T.s (lastP whole s.length) r i i := by
        have := can_iff T.s c d hfd (lastP whole s.length) i
        rw [hTs] at this ⊢
        rw [hr]; exact this
      have eboth : intoN T.s (bothP T.s (lastP whole s.length) d) c i i = ((endsL s c i).any fun x => intoN T.s (lastP whole s.length) d x x) := by
        have := can_both T.s c d (lastP whole s.length) i
        rw [hTs] at this ⊢
        exact this
      generalize hcan : ((endsL s c i).any fun x => intoN T.s (lastP whole s.length) d x x) = can at *
      simp (config := { zeta := false }) only [f11_w1B, f11_w1b0N, f11_w1b0, PV.els, ints_len, pvL_len]
      refine cF (Q := fun r => r = some ([.bool true], [])) (decide_eq_false (by omega)) ?_
      refine callI [0] (i : Int) hi0 H _ hH fun H hH => ?_
      rw [H0, eboth]
      refine cT (Q := fun r => r = some ([.bool true], [])) (by cases can <;> rfl) ?_
      refine callP [0] (i : Int) hp0 H _ hH ?_
      rw [K0]
      refine callI [1] (i : Int) hi1 H _ hH fun H hH => ?_
      rw [H1 i hi]
      refine cT (Q := fun r => r = some ([.bool true], [])) (by cases intoN T.s (lastP whole s.length) d i i <;> rfl) ?_
      refine callP [1] (i : Int) hp1 H _ hH ?_
      rw [K1]
      refine callP [] (i : Int) hpn H _ hH ?_
      rw [Kn]
      refine cT (Q := fun r => r = some ([.bool true], [])) (by cases whole <;> cases decide (i = s.length) <;> rfl) ?_
      refine callP [] (i : Int) hpn H _ hH ?_
      rw [Kn]
      have fin : ∀ H, (∃ M, Ah M H ia ipa T pa) → G42 k (.rp ia) (.list (pints [])) (i : Int) H (fun b51 h52 => some ([SV.bool (b51 == can)], [])) = some ([.bool true], []) := fun H hH => by
        refine callI [] (i : Int) hin H _ hH fun H hH => ?_
        rw [Hn, ← ecan]
        simp
      cases whole with
      | true =>
        refine cT (Q := fun r => r = some ([.bool true], [])) rfl (cT (Q := fun r => r = some ([.bool true], [])) ?_ (fin H hH))
        have : decide ((i : Int) = (s.length : Int)) = decide (i = s.length) := decide_eq_decide.2 (by omega)
        rw [this]
        cases decide (i = s.length) <;> rfl
      | false =>
        refine cF (Q := fun r => r = some ([.bool true], [])) rfl (cT (Q := fun r => r = some ([.bool true], [])) ?_ (fin H hH))
        cases decide (i = s.length) <;> rfl
    · intro j hj nx H hH hnx
      have hx := hmem _ (List.getElem_mem hj)
      have hwr : IntKind.wrap .i64 ((j : Int) + 1) = ((j + 1 : Nat) : Int) := wrap_succ (by omega)
      have htk : ((endsL s c i).take (j + 1)).any (fun x => intoN T.s (lastP whole s.length) d x x) = (((endsL s c i).take j).any (fun x => intoN T.s (lastP whole s.length) d x x) || intoN T.s (lastP whole s.length) d (endsL s c i)[j] (endsL s c i)[j]) := by
        rw [List.take_succ_eq_append_getElem hj, List.any_append]; simp
      simp (config := { zeta := false }) only [f11_w1B, f11_w1b0N, f11_w1b0, PV.els, ints_len, pvL_len]
      refine cT (Q := fun r => r = some ([.bool true], [])) (decide_eq_true (by omega)) ?_
      rw [hwr]
      by_cases hb : (((endsL s c i).take j).any fun x => intoN T.s (lastP whole s.length) d x x) = true
      · refine cF (Q := fun r => r = some ([.bool true], [])) (by rw [hb]; rfl) ?_
        have := hnx H hH
        simp only [htk, hb, Bool.true_or] at this
        exact this
      · have hb' : (((endsL s c i).take j).any fun x => intoN T.s (lastP whole s.length) d x x) = false := by simpa using hb
        refine cT (Q := fun r => r = some ([.bool true], [])) (by rw [hb']; rfl) (cT (Q := fun r => r = some ([.bool true], [])) (rb_of hj) ?_)
        have en : PV.num (List.getD (ints (endsL s c i)) ((j : Int)).toNat PV.nil) = (((endsL s c i)[j] : Nat) : Int) := by simp [ints, List.getD, hj, PV.num]
        rw [en]
        refine callI [1] _ hi1 H _ hH fun H hH => ?_
        rw [H1 _ hx]
        have := hnx H hH
        simp only [htk, hb', Bool.false_or] at this
        exact this
end Go.Proofs.Ythdonefmfgnilaa
