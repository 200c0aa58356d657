/- What may still come: on a heap; the printed functions that ask. -/
import Derived.Test.YthdonefmfgnilaaTbC
import Derived.Test.YthdonefmfgnilaaAhN
set_option linter.unusedSimpArgs false
set_option linter.unusedVariables false
set_option maxRecDepth 20000
namespace Go.Proofs.Ythdonefmfgnilaa
open Go Go.X

abbrev tAhead : TypeId := 82
abbrev tPast : TypeId := 87
abbrev tBool : TypeId := 4
def bools (l : List Bool) : List PV := l.map PV.bool
def PastR (h : List HE) (n : Nat) (x : PV) (p : Option (List Bool)) : Prop := (p = none ∧ x = .list []) ∨ ∃ b q, p = some b ∧ x = .rs q (n + 1) ∧ b.length = n + 1 ∧ h[q]? = some (.row tBool (bools b))
structure Ah (M : Nat → Prop) (h : List HE) (ia ipa : Nat) (T : Tab) (past : List (Option (List Bool))) : Prop where
  tb : Tb M h T
  v : h[ia]? = some (.var tAhead (.agg [.rp T.it, .int (T.s.length : Int), .rs ipa past.length]))
  n : past.length = T.P.length
  p : ∃ l, h[ipa]? = some (.row tPast l) ∧ l.length = past.length ∧ ∀ (j : Nat) x p, l[j]? = some x → past[j]? = some p → PastR h T.s.length x p
theorem PastR.keep {h h' : List HE} {n : Nat} {x : PV} {p : Option (List Bool)} (a : PastR h n x p) (hA : ∀ q b, x = .rs q (n + 1) → h[q]? = some (.row tBool b) → h'[q]? = some (.row tBool b)) : PastR h' n x p := by
  rcases a with h | ⟨b, q, h1, h2, h3, h4⟩
  · exact .inl h
  · exact .inr ⟨b, q, h1, h2, h3, hA q _ h2 h4⟩
theorem Ah.frame {M M' M2 : Nat → Prop} {h h' : List HE} {ia ipa : Nat} {T : Tab} {past : List (Option (List Bool))} (a : Ah M h ia ipa T past) (t : Tb M' h' T) (f : Fr M2 h h') : Ah M' h' ia ipa T past := by
  obtain ⟨tb, v, n, l, h1, h2, h3⟩ := a
  exact ⟨t, f.fix _ _ v (by rfl), n, l, f.fix _ _ h1 (by rfl), h2, fun j x p hx hp => (h3 j x p hx hp).keep fun q b _ hq => f.fix _ _ hq (by rfl)⟩
/-- What another one's call does. -/
theorem Ah.other {M M2 : Nat → Prop} {h h' : List HE} {ia ipa : Nat} {T : Tab} {past : List (Option (List Bool))} (a : Ah M h ia ipa T past) (f : Fr M2 h h') (hd : ∀ i, M i → ¬ M2 i) : Ah M h' ia ipa T past :=
  a.frame (a.tb.frame f hd) f
theorem Mx_trans {M : Nat → Prop} {h h1 h2 : List HE} (a : Fr M h h1) (b : Fr (Mx M h h1) h1 h2) : Fr M h h2 := a.trans b fun i hi hm => by
  rcases hm with hm | hm
  · exact hm
  · omega
theorem Mx_sub {M : Nat → Prop} {h h1 h2 : List HE} (l1 : h.length ≤ h1.length) (l2 : h1.length ≤ h2.length) : ∀ i, Mx (Mx M h h1) h1 h2 i → Mx M h h2 i := fun i hi => by
  rcases hi with (hi | hi) | hi
  · exact .inl hi
  · exact .inr ⟨hi.1, by omega⟩
  · exact .inr ⟨by omega, hi.2⟩
theorem Tb.mx {M : Nat → Prop} {h h1 h2 : List HE} {T : Tab} (hb : ∀ i, M i → i < h.length) (l1 : h.length ≤ h1.length) (l2 : h1.length ≤ h2.length) (t : Tb (Mx (Mx M h h1) h1 h2) h2 T) : Tb (Mx M h h2) h2 T :=
  t.mono (Mx_sub l1 l2) fun i hi => by
    rcases hi with hi | hi
    · have := hb i hi; omega
    · exact hi.2
theorem Tb.mx0 {M : Nat → Prop} {h : List HE} {T : Tab} (t : Tb M h T) : Tb (Mx M h h) h T := t.mono (fun i hi => .inl hi) fun i hi => by
  rcases hi with hi | hi
  · exact t.b i hi
  · exact hi.2
/-- A part that is set. -/
theorem Ah.past {M : Nat → Prop} {h : List HE} {ia ipa : Nat} {T : Tab} {past : List (Option (List Bool))} (a : Ah M h ia ipa T past) {j : Nat} {b : List Bool} (hj : past[j]? = some (some b)) :
    ∃ l q, h[ipa]? = some (.row tPast l) ∧ l.length = past.length ∧ j < l.length ∧ l[j]? = some (.rs q (T.s.length + 1)) ∧ b.length = T.s.length + 1 ∧ h[q]? = some (.row tBool (bools b)) := by
  obtain ⟨tb, v, n, l, h1, h2, h3⟩ := a
  have hlt : j < l.length := by rw [h2]; exact (List.getElem?_eq_some_iff.1 hj).1
  have hx := List.getElem?_eq_getElem hlt
  rcases h3 j _ _ hx hj with ⟨h, _⟩ | ⟨b', q, h4, h5, h6, h7⟩
  · cases h
  · injection h4 with h4; subst h4
    exact ⟨l, q, h1, h2, hlt, by rw [← h5]; exact hx, h6, h7⟩
theorem bools_get {b : List Bool} {i : Nat} (h : i < b.length) : PV.tt (List.getD (bools b) ((i : Int)).toNat PV.nil) = b.getD i false := by
  simp [bools, List.getD, h, PV.tt]
theorem any_snoc {p : Nat → Bool} {i k : Nat} (hk : i ≤ k) : (List.range' i (k + 1 - i)).any p = ((List.range' i (k - i)).any p || p k) := by
  rw [show k + 1 - i = (k - i) + 1 by omega, List.range'_concat, List.any_append]
  simp only [Nat.one_mul, List.any_cons, List.any_nil, Bool.or_false]
  rw [show i + (k - i) = k by omega]
theorem any_prefix {p : Nat → Bool} {i k N : Nat} (hk : i ≤ k) (hN : k < N) (h : p k = true) : (List.range' i (N - i)).any p = true := by
  rw [List.any_eq_true]
  exact ⟨k, by rw [List.mem_range'_1]; omega, h⟩

/-- Into: from a least place on. -/
def intoS (c : Cor) (k : Nat) : Prop := ∀ (Q : R → Prop) (M : Nat → Prop) (h : List HE) (ia ipa : Nat) (T : Tab) (past : List (Option (List Bool))) (n f least : Nat) (ks : List Nat) (b : List Bool) (ret : Bool → List HE → R), Ah M h ia ipa T past → Tok T → Cor.At T.P c n → past[n]? = some (some b) → f ≤ T.s.length → least ≤ T.s.length + 1 →
  (∀ h', Fr M h h' → Ah (Mx M h h') h' ia ipa T past → Q (ret (intoN T.s b c f least) h')) → Q (G70 k (.rp ia) (n : Int) (f : Int) (least : Int) h ret)
theorem spec_into (c : Cor) (hf : c.fmd = true) : Ult (intoS c) :=
  Ult.succ (((spec_Says c hf).and (Ult.ge 300)).mono fun k ⟨hs, hge⟩ Q M h ia ipa T past n f least ks b ret ah tok hat hb hff hls hQ => by
    have htn := tok.n
    simp (config := { zeta := false }) only [G70, f70_N, f70_e]
    refine vupQ (body := f70_w1B k (G67 k) ret (.rp ia) (n : Int) (f : Int)) Q (fun i (H : List HE) => ((i : Int), H))
      (fun i H => least ≤ i ∧ Fr M h H ∧ Ah (Mx M h H) H ia ipa T past ∧ (List.range' least (i - least)).any (fun to => b.getD to false && (c.ends T.s f).testBit to) = false) (T.s.length + 1) ?_ ?_ k least h ⟨Nat.le_refl _, Fr.refl _ _, ah.frame ah.tb.mx0 (Fr.refl M h), by simp⟩ hls (by omega)
    · rintro nx H ⟨_, fr, a, hn⟩
      simp (config := { zeta := false }) only [f70_w1B, f70_w1b0N, f70_w1b0]
      refine cT rfl (cT (hokV_of a.v) (cF ?_ ?_))
      · simp [hvarOf_of a.v, PV.rI, PV.fld, PV.flds, PV.num]; omega
      have := hQ H fr a
      rw [intoN, hn] at this
      exact this
    · rintro i hi nx H ⟨hli, fr, a, hn⟩ hnx
      obtain ⟨l, q, p1, p2, p3, p4, p5, p6⟩ := a.past hb
      have hv := a.v
      have e1 : PV.num (PV.fld (hvarOf H (PV.rI (PV.rp ia))) 1) = (T.s.length : Int) := by simp [hvarOf_of hv, PV.rI, PV.fld, PV.flds, PV.num]
      have e2 : PV.rI (PV.fld (hvarOf H (PV.rI (PV.rp ia))) 2) = ipa := by simp [hvarOf_of hv, PV.rI, PV.fld, PV.flds]
      have e3 : PV.rI (List.getD (hrowOf H (PV.rI (PV.fld (hvarOf H (PV.rI (PV.rp ia))) 2))) ((n : Int)).toNat PV.nil) = q := by rw [e2]; simp [hrowOf_of p1, p4, PV.rI]
      have e4 : PV.rN (List.getD (hrowOf H (PV.rI (PV.fld (hvarOf H (PV.rI (PV.rp ia))) 2))) ((n : Int)).toNat PV.nil) = T.s.length + 1 := by rw [e2]; simp [hrowOf_of p1, p4, PV.rN]
      have e5 : PV.fld (hvarOf H (PV.rI (PV.rp ia))) 0 = .rp T.it := by simp [hvarOf_of hv, PV.rI, PV.fld, PV.flds]
      have hib : i < (bools b).length := by simp [bools]; omega
      simp (config := { zeta := false }) only [f70_w1B, f70_w1b0N, f70_w1b0]
      refine cT rfl (cT (hokV_of hv) (cT ?_ (cT rfl (cT (hokV_of hv) (cT ?_ (cT ?_ (cT ?_ (cT ?_ ?_))))))))
      · simp [hvarOf_of hv, PV.rI, PV.fld, PV.flds, PV.num]; omega
      · simp [hvarOf_of hv, PV.rI, PV.rN, PV.fld, PV.flds]; omega
      · rw [e2]; exact hokR_of p1 p3
      · rw [e4]; exact rb_of hi
      · rw [e3]; exact hokR_of p6 hib
      extract_lets +onlyGivenNames b11
      have e11 : b11 = b.getD i false := by simp only [b11]; rw [e3, hrowOf_of p6, bools_get (by omega)]
      clear_value b11
      subst e11
      have hwr : IntKind.wrap .i64 ((i : Int) + 1) = ((i + 1 : Nat) : Int) := wrap_succ (by omega)
      have hsn := any_snoc (p := fun to => b.getD to false && (c.ends T.s f).testBit to) hli
      rw [hwr]
      by_cases hbi : b.getD i false = true
      · refine cT (by rw [hbi]; rfl) (cT rfl (cT (hokV_of hv) ?_))
        rw [e5]
        refine hs Q _ H T n f i _ a.tb tok hat hff (by omega) (fun h' hfr htb => ?_)
        have fr' := Mx_trans fr hfr
        have ah' := a.frame (htb.mx ah.tb.b fr.len hfr.len) hfr
        by_cases hbt : (c.ends T.s f).testBit i = true
        · refine cT hbt ?_
          have := hQ h' fr' ah'
          rw [intoN, any_prefix (p := fun to => b.getD to false && (c.ends T.s f).testBit to) hli hi (show (b.getD i false && (c.ends T.s f).testBit i) = true by rw [hbi, hbt]; rfl)] at this
          exact this
        · refine cF (by simpa using hbt) ?_
          refine hnx h' ⟨by omega, fr', ah', ?_⟩
          rw [hsn, hn]
          simpa using fun _ => by simpa using hbt
      · refine cF (by simpa using hbi) ?_
        refine hnx H ⟨by omega, fr, a, ?_⟩
        rw [hsn, hn]
        simp only [Bool.false_or]
        have : b.getD i false = false := by simpa using hbi
        rw [this]; rfl)

/-- The part of a path. -/
def pints (l : List Int) : List PV := l.map PV.int
theorem pints_get {l : List Int} {i : Nat} (h : i < l.length) : PV.num (List.getD (pints l) ((i : Int)).toNat PV.nil) = l[i] := by simp [pints, List.getD, h, PV.num]
theorem spec_Part : ∀ (path : List Int), path.length ≤ 1000 → Ult fun k => ∀ (Q : R → Prop) (M : Nat → Prop) (h : List HE) (T : Tab) (ret : Int → Bool → List HE → R), Tb M h T → Pk T.P →
    (∀ (n : Nat), pathN T.P path 0 = some n → n < T.P.length → Q (ret (n : Int) true h)) → (pathN T.P path 0 = none → Q (ret 0 false h)) → Q (G98 k (.rp T.it) (.list (pints path)) h ret) := fun path hpl =>
  Ult.succ ((Ult.ge (path.length + 2)).mono fun k hge Q M h T ret tb pk hQ1 hQ2 => by
    have ev := tb.v
    simp (config := { zeta := false }) only [G98, f98_N, f98_e]
    refine vupQ (body := f98_w1B k ret (.rp T.it) (.list (pints path)) h) Q (fun i (n : Nat) => ((n : Int), (i : Int)))
      (fun i n => n < T.P.length ∧ pathN T.P path 0 = pathN T.P (path.drop i) n) path.length ?_ ?_ k 0 0 ⟨pk.pos, by simp⟩ (by omega) (by omega)
    · rintro nx n ⟨hn, hp⟩
      simp (config := { zeta := false }) only [f98_w1B, f98_w1b0N, f98_w1b0]
      refine cF ?_ ?_
      · simp [PV.els, pints]
      refine hQ1 n ?_ hn
      rw [hp, List.drop_length]; rfl
    · rintro i hi nx n ⟨hn, hp⟩ hnx
      rw [drop_cons hi] at hp
      have hget := List.getElem?_eq_getElem hn
      generalize hck : T.P[n] = ck at hget
      obtain ⟨c, ks⟩ := ck
      obtain ⟨lp, kp, p1, p2, p3, p4, p5⟩ := tb.part hget
      simp only [pathN, hget] at hp
      simp (config := { zeta := false }) only [f98_w1B, f98_w1b0N, f98_w1b0]
      have ex : PV.num (List.getD (PV.els (PV.list (pints path))) ((i : Int)).toNat PV.nil) = path[i] := pints_get hi
      simp (config := { zeta := false }) only [ex]
      refine cT ?_ (cT ?_ ?_)
      · simp [PV.els, pints]; omega
      · simp [PV.els, pints]; omega
      have hkn : PV.rN kp = ks.length := by
        rcases p5 with ⟨rfl, rfl⟩ | ⟨i, rfl, _⟩ <;> rfl
      have e2 : PV.rI (PV.fld (hvarOf h (PV.rI (PV.rp T.it))) 0) = T.ip := by simp [hvarOf_of ev, PV.rI, PV.fld, PV.flds]
      have e3 : PV.fld (List.getD (hrowOf h (PV.rI (PV.fld (hvarOf h (PV.rI (PV.rp T.it))) 0))) ((n : Int)).toNat PV.nil) 1 = kp := by rw [e2]; simp [hrowOf_of p1, p4, PV.fld, PV.flds]
      by_cases h0 : path[i] < 0
      · refine cF (by rw [decide_eq_true h0]; rfl) ?_
        refine hQ2 ?_
        rw [hp, if_neg (by omega)]
      · have hrb : (true && decide ((0 : Int) ≤ (n : Int)) && decide ((n : Int) < ((PV.rN (PV.fld (hvarOf h (PV.rI (PV.rp T.it))) 0) : Nat) : Int))) = true := by
          simp [hvarOf_of ev, PV.rI, PV.fld, PV.flds, PV.rN]; omega
        refine cT (by rw [decide_eq_false h0]; rfl) (cT rfl (cT (hokV_of ev) (cT hrb (cT (by rw [e2]; exact hokR_of p1 p3) ?_))))
        extract_lets +onlyGivenNames n9
        have e9 : n9 = (ks.length : Int) := by simp only [n9]; rw [e3, hkn]
        clear_value n9
        subst e9
        by_cases h1 : (ks.length : Int) ≤ path[i]
        · refine cT (decide_eq_true h1) ?_
          refine hQ2 ?_
          rw [hp, if_neg (by omega)]
        · have hkne : ks ≠ [] := fun e => by subst e; simp at h1; omega
          obtain ⟨ik, rfl, pk'⟩ := p5.row hkne
          have hx : path[i].toNat < ks.length := by omega
          have hxg := List.getElem?_eq_getElem hx
          have ei : (path[i]) = ((path[i].toNat : Nat) : Int) := by omega
          refine cF (decide_eq_false h1) (cT rfl (cT (hokV_of ev) (cT hrb (cT (by rw [e2]; exact hokR_of p1 p3) (cT ?_ (cT ?_ ?_))))))
          · rw [e3]
            show (true && decide ((0 : Int) ≤ path[i]) && decide (path[i] < (ks.length : Int))) = true
            simp only [Bool.true_and, Bool.and_eq_true, decide_eq_true_eq]; omega
          · rw [e3, ei]; exact hokR_of pk' (by rw [ints_len]; exact hx)
          extract_lets +onlyGivenNames n10
          have e10 : n10 = ((ks[path[i].toNat] : Nat) : Int) := by
            simp only [n10]
            rw [e3]
            simp [PV.rI, hrowOf_of pk', ints, hx, PV.num]
          clear_value n10
          subst e10
          rw [wrap_succ (by omega)]
          refine hnx _ ⟨(pk.kid n c ks hget _ (List.getElem_mem hx)).2, ?_⟩
          rw [hp, if_pos (by omega), hxg])
end Go.Proofs.Ythdonefmfgnilaa
