/- The table's row: a part by itself. -/
import Derived.Test.YtmdlhnojpcnnbaaTbR
set_option linter.unusedSimpArgs false
set_option linter.unusedVariables false
set_option maxRecDepth 20000
namespace Go.Proofs.Ytmdlhnojpcnnbaa
open Go Go.X

theorem foldl_snoc {f : Nat → Nat} {p : Nat → Nat → Bool} {a0 i k : Nat} (hk : i ≤ k) : (List.range' i (k + 1 - i)).foldl (fun a k => if p a k = true then a ||| f k else a) a0 =
    (fun a => if p a k = true then a ||| f k else a) ((List.range' i (k - i)).foldl (fun a k => if p a k = true then a ||| f k else a) a0) := by
  rw [show k + 1 - i = (k - i) + 1 by omega, List.range'_concat, List.foldl_append]
  simp only [Nat.one_mul, List.foldl_cons, List.foldl_nil]
  rw [show i + (k - i) = k by omega]
theorem spec_w1 {k : Nat} {x y : Cor} (hy : RowS y k) (hhas : ∀ (h : List HE) (q m i : Nat) ret, h[q]? = some (.var tPlaces (ps m)) → i < 320 → G75 k (.rp q) (i : Int) h ret = ret (m.testBit i) h)
    (hpor : ∀ (h : List HE) (q q' m m' : Nat) ret, h[q]? = some (.var tPlaces (ps m)) → h[q']? = some (.var tPlaces (ps m')) → q ≠ q' → G98 k (.rp q) (.rp q') h ret = ret (h.set q (.var tPlaces (ps (m ||| m')))))
    (hge : 300 ≤ k) (Q : R → Prop) (ret : PV → List HE → R) {M0 : Nat → Prop} {h0 : List HE} {T : Tab} {n f : Nat} {h6 h8 h9 : List HE} {c : Cor} {t : Nat} {nn : Int} (tok : Tok T) {i0 i1 ql ml : Nat} (hc : c = .mk 3 t nn [x, y]) (hP : T.P[n]? = some (c, [i0, i1])) (hat : Cor.At T.P y i1) (hf : f ≤ T.s.length)
    (e8 : h8[T.it]? = some (.var tTable (.agg [.rs T.ip T.P.length, .list (ints T.s), .rs T.ie T.P.length])))
    (w : Wk M0 h0 T n h6.length h9 0) (hql : h9[ql]? = some (.var tPlaces (ps (x.ends T.s f)))) (hne : h6.length ≠ ql)
    (hQ : ∀ h' q, Fr M0 h0 h' → Tb (Mx M0 h0 h') h' T → Pr T h0 h' → Mx M0 h0 h' q → h'[q]? = some (.var tPlaces (ps (c.ends T.s f))) → Q (ret (.rp q) h')) :
    Q (f74_w1N k (G74 k) (G75 k) (G96 k) (G97 k) (G98 k) ret (.rp T.it) (n : Int) (f : Int) h6 h8 (.rp ql) (f : Int) h9) := by
  refine vupQ (body := f74_w1B k (G74 k) (G75 k) (G96 k) (G97 k) (G98 k) ret (.rp T.it) (n : Int) (f : Int) h6 h8 (.rp ql)) Q (fun i (H : List HE) => ((i : Int), H))
    (fun i H => f ≤ i ∧ Wk M0 h0 T n h6.length H ((List.range' f (i - f)).foldl (fun a k => if (x.ends T.s f).testBit k = true then a ||| y.ends T.s k else a) 0) ∧ H[ql]? = some (.var tPlaces (ps (x.ends T.s f)))) (T.s.length + 1) ?_ ?_ k f h9 ⟨Nat.le_refl _, by simpa using w, hql⟩ (by omega) (by have := tok.n; omega)
  · rintro nx H ⟨_, w', hl⟩
    have e9 := w'.tb.v
    simp (config := { zeta := false }) only [f74_w1B, f74_w1b0N, f74_w1b0]
    refine cT rfl (cT (hokV_of e9) (cF ?_ ?_))
    · simp [hvarOf_of e9, PV.rI, PV.fld, PV.flds, PV.els, ints_len]; omega
    · refine spec_end Q ret hP hf ?_ hQ
      subst hc
      rw [Cor.ends3]
      exact w'
  · rintro i hi nx H ⟨hfi, w', hl⟩ hnx
    have e9 := w'.tb.v
    simp (config := { zeta := false }) only [f74_w1B, f74_w1b0N, f74_w1b0]
    refine cT rfl (cT (hokV_of e9) (cT ?_ ?_))
    · simp [hvarOf_of e9, PV.rI, PV.fld, PV.flds, PV.els, ints_len]; omega
    rw [hhas _ _ _ _ _ hl (by have := tok.n; omega)]
    have hwr : IntKind.wrap .i64 ((i : Int) + 1) = ((i + 1 : Nat) : Int) := wrap_succ (by have := tok.n; omega)
    have hsn := foldl_snoc (f := fun k => y.ends T.s k) (p := fun _ k => (x.ends T.s f).testBit k) (a0 := 0) hfi
    by_cases hb : (x.ends T.s f).testBit i = true
    · refine cT hb ?_
      obtain ⟨lp, kp, p1, p2, p3, p4, p5⟩ := w'.tb.part hP
      obtain ⟨ik, rfl, pk⟩ := p5.row (by simp)
      refine cT (by simp [*, hokR, hvarOf, PV.rI, PV.fld, PV.flds]; omega) (cT (by simp [*, hrowOf, hvarOf, PV.rI, PV.rN, PV.fld, PV.flds]) (cT (by simp [*, hokR, hrowOf, hvarOf, PV.rI, PV.rN, PV.fld, PV.flds, ints_len]) ?_))
      extract_lets +onlyGivenNames n32
      have en : n32 = (i1 : Int) := by simp [n32, *, hrowOf, hvarOf, PV.rI, PV.rN, PV.fld, PV.flds, ints, PV.num]
      clear_value n32
      subst en
      refine hy Q _ _ T i1 i _ w'.tb tok hat (by omega) (fun h' q' hfr htb hpr hmx hv => ?_)
      have w2 := w'.call hfr htb hpr
      have hl2 := hfr.fix _ _ hl rfl
      show Q (G98 k (.rp h6.length) (.rp q') h' _)
      rw [hpor _ _ _ _ _ _ w2.vq hv (w'.ne hmx), hwr]
      refine hnx _ ⟨by omega, ?_, by rw [set_ne hne]; exact hl2⟩
      rw [hsn]
      simp only
      rw [if_pos hb]
      exact w2.upd _
    · refine cF (by simpa using hb) ?_
      rw [hwr]
      refine hnx _ ⟨by omega, ?_, hl⟩
      rw [hsn]
      simp only
      rw [if_neg hb]
      exact w'
theorem spec_w2 {k : Nat} {x : Cor} (hx : RowS x k) (hhas : ∀ (h : List HE) (q m i : Nat) ret, h[q]? = some (.var tPlaces (ps m)) → i < 320 → G75 k (.rp q) (i : Int) h ret = ret (m.testBit i) h)
    (hpor : ∀ (h : List HE) (q q' m m' : Nat) ret, h[q]? = some (.var tPlaces (ps m)) → h[q']? = some (.var tPlaces (ps m')) → q ≠ q' → G98 k (.rp q) (.rp q') h ret = ret (h.set q (.var tPlaces (ps (m ||| m')))))
    (hge : 300 ≤ k) (Q : R → Prop) (ret : PV → List HE → R) {M0 : Nat → Prop} {h0 : List HE} {T : Tab} {n f : Nat} {h6 h8 h9 : List HE} {c : Cor} {t : Nat} {nn : Int} (tok : Tok T) {i0 : Nat} (hc : c = .mk 5 t nn [x]) (hP : T.P[n]? = some (c, [i0])) (hat : Cor.At T.P x i0) (hf : f ≤ T.s.length)
    (e8 : h8[T.it]? = some (.var tTable (.agg [.rs T.ip T.P.length, .list (ints T.s), .rs T.ie T.P.length])))
    (w : Wk M0 h0 T n h6.length h9 (2 ^ f))
    (hQ : ∀ h' q, Fr M0 h0 h' → Tb (Mx M0 h0 h') h' T → Pr T h0 h' → Mx M0 h0 h' q → h'[q]? = some (.var tPlaces (ps (c.ends T.s f))) → Q (ret (.rp q) h')) :
    Q (f74_w2N k (G74 k) (G75 k) (G96 k) (G97 k) (G98 k) ret (.rp T.it) (n : Int) (f : Int) h6 h8 (f : Int) h9) := by
  refine vupQ (body := f74_w2B k (G74 k) (G75 k) (G96 k) (G97 k) (G98 k) ret (.rp T.it) (n : Int) (f : Int) h6 h8) Q (fun i (H : List HE) => ((i : Int), H))
    (fun i H => f ≤ i ∧ Wk M0 h0 T n h6.length H ((List.range' f (i - f)).foldl (fun a k => if a.testBit k = true then a ||| x.ends T.s k else a) (2 ^ f))) (T.s.length + 1) ?_ ?_ k f h9 ⟨Nat.le_refl _, by simpa using w⟩ (by omega) (by have := tok.n; omega)
  · rintro nx H ⟨_, w'⟩
    have e9 := w'.tb.v
    simp (config := { zeta := false }) only [f74_w2B, f74_w2b0N, f74_w2b0]
    refine cT rfl (cT (hokV_of e9) (cF ?_ ?_))
    · simp [hvarOf_of e9, PV.rI, PV.fld, PV.flds, PV.els, ints_len]; omega
    · refine spec_end Q ret hP hf ?_ hQ
      subst hc
      rw [Cor.ends5]
      exact w'
  · rintro i hi nx H ⟨hfi, w'⟩ hnx
    have e9 := w'.tb.v
    simp (config := { zeta := false }) only [f74_w2B, f74_w2b0N, f74_w2b0]
    refine cT rfl (cT (hokV_of e9) (cT ?_ ?_))
    · simp [hvarOf_of e9, PV.rI, PV.fld, PV.flds, PV.els, ints_len]; omega
    rw [hhas _ _ _ _ _ w'.vq (by have := tok.n; omega)]
    have hwr : IntKind.wrap .i64 ((i : Int) + 1) = ((i + 1 : Nat) : Int) := wrap_succ (by have := tok.n; omega)
    have hsn := foldl_snoc (f := fun k => x.ends T.s k) (p := fun a k => a.testBit k) (a0 := 2 ^ f) hfi
    by_cases hb : ((List.range' f (i - f)).foldl (fun a k => if a.testBit k = true then a ||| x.ends T.s k else a) (2 ^ f)).testBit i = true
    · refine cT hb ?_
      obtain ⟨lp, kp, p1, p2, p3, p4, p5⟩ := w'.tb.part hP
      obtain ⟨ik, rfl, pk⟩ := p5.row (by simp)
      refine cT (by simp [*, hokR, hvarOf, PV.rI, PV.fld, PV.flds]; omega) (cT (by simp [*, hrowOf, hvarOf, PV.rI, PV.rN, PV.fld, PV.flds]) (cT (by simp [*, hokR, hrowOf, hvarOf, PV.rI, PV.rN, PV.fld, PV.flds, ints_len]) ?_))
      extract_lets +onlyGivenNames n32
      have en : n32 = (i0 : Int) := by simp [n32, *, hrowOf, hvarOf, PV.rI, PV.rN, PV.fld, PV.flds, ints, PV.num]
      clear_value n32
      subst en
      refine hx Q _ _ T i0 i _ w'.tb tok hat (by omega) (fun h' q' hfr htb hpr hmx hv => ?_)
      have w2 := w'.call hfr htb hpr
      show Q (G98 k (.rp h6.length) (.rp q') h' _)
      rw [hpor _ _ _ _ _ _ w2.vq hv (w'.ne hmx), hwr]
      refine hnx _ ⟨by omega, ?_⟩
      rw [hsn]
      simp only
      rw [if_pos hb]
      exact w2.upd _
    · refine cF (by simpa using hb) ?_
      rw [hwr]
      refine hnx _ ⟨by omega, ?_⟩
      rw [hsn]
      simp only
      rw [if_neg hb]
      exact w'
theorem At.kids1 {P : List (Cor × List Nat)} {k : Int} {s : Nat} {m : Int} {x : Cor} {n : Nat} (h : Cor.At P (.mk k s m [x]) n) : ∃ i0, P[n]? = some (.mk k s m [x], [i0]) ∧ Cor.At P x i0 := by
  simp only [Cor.At, Cor.Ats] at h
  obtain ⟨ks, h1, i, t, rfl, h2, rfl⟩ := h
  exact ⟨i, h1, h2⟩
theorem At.kids2 {P : List (Cor × List Nat)} {k : Int} {s : Nat} {m : Int} {x y : Cor} {n : Nat} (h : Cor.At P (.mk k s m [x, y]) n) : ∃ i0 i1, P[n]? = some (.mk k s m [x, y], [i0, i1]) ∧ Cor.At P x i0 ∧ Cor.At P y i1 := by
  simp only [Cor.At, Cor.Ats] at h
  obtain ⟨ks, h1, i, t, rfl, h2, j, t', rfl, h3, rfl⟩ := h
  exact ⟨i, j, h1, h2, h3⟩
theorem spec_body {k : Nat} {c : Cor} (hfmd : c.fmd = true) (hk : ∀ x ∈ c.kidl, RowS x k) (hHas : ∀ (n b : Nat) ret, b < 256 → G97 k (bs n) (b : Int) ret = ret (n.testBit b)) (hhas : ∀ (h : List HE) (q m i : Nat) ret, h[q]? = some (.var tPlaces (ps m)) → i < 320 → G75 k (.rp q) (i : Int) h ret = ret (m.testBit i) h)
    (hput : ∀ (h : List HE) (q m i : Nat) ret, h[q]? = some (.var tPlaces (ps m)) → i < 320 → G96 k (.rp q) (i : Int) h ret = ret (h.set q (.var tPlaces (ps (m ||| 2 ^ i)))))
    (hpor : ∀ (h : List HE) (q q' m m' : Nat) ret, h[q]? = some (.var tPlaces (ps m)) → h[q']? = some (.var tPlaces (ps m')) → q ≠ q' → G98 k (.rp q) (.rp q') h ret = ret (h.set q (.var tPlaces (ps (m ||| m')))))
    (hge : 300 ≤ k) (Q : R → Prop) (ret : PV → List HE → R) {M0 : Nat → Prop} {h0 : List HE} {T : Tab} {n f : Nat} {h6 h8 : List HE} (tok : Tok T) (hat : Cor.At T.P c n) (hf : f ≤ T.s.length)
    (w : Wk M0 h0 T n h6.length h8 0)
    (hQ : ∀ h' q, Fr M0 h0 h' → Tb (Mx M0 h0 h') h' T → Pr T h0 h' → Mx M0 h0 h' q → h'[q]? = some (.var tPlaces (ps (c.ends T.s f))) → Q (ret (.rp q) h')) :
    Q (rowBody (G74 k) (G75 k) (G96 k) (G97 k) (G98 k) ret
      (fun h6 h8 p19 n28 h29 => f74_w1N k (G74 k) (G75 k) (G96 k) (G97 k) (G98 k) ret (.rp T.it) (n : Int) (f : Int) h6 h8 p19 n28 h29)
      (fun h6 h8 n54 h55 => f74_w2N k (G74 k) (G75 k) (G96 k) (G97 k) (G98 k) ret (.rp T.it) (n : Int) (f : Int) h6 h8 n54 h55) (.rp T.it) (n : Int) (f : Int) h6 h8) := by
  have e8 := w.tb.v
  have hn := tok.n
  have hnP := Cor.At_lt hat
  obtain ⟨kd, st, nn, l⟩ := c
  have hat' := hat
  obtain ⟨ks, hP, -⟩ := hat
  obtain ⟨lp, kp, p1, p2, p3, p4, p5⟩ := w.tb.part hP
  have hlt : (n : Int) < (T.P.length : Int) := by omega
  have hR : ∀ h, h[T.ip]? = some (.row tPart lp) → (true && true && hokR h 122 (PV.rI (PV.fld (hvarOf h8 (PV.rI (.rp T.it))) 0)) (n : Int)) = true := fun h p1 => by
    simp [hvarOf_of e8, PV.rI, PV.fld, PV.flds, hokR, p1]; omega
  unfold rowBody
  refine cT rfl (cT (hokV_of e8) (cT ?_ (cT (hR _ p1) ?_)))
  · simp [hvarOf_of e8, PV.rI, PV.fld, PV.flds, PV.rN]; omega
  extract_lets +onlyGivenNames n76
  have en : n76 = kd := by simp [n76, hvarOf_of e8, PV.rI, PV.fld, PV.flds, hrowOf, p1, p4, PV.num, Cor.pv]
  clear_value n76
  subst en
  obtain ⟨hkd, hfk⟩ := Cor.kids_of hfmd
  cases hkd with
  | k0 e =>
    rcases e with rfl | rfl | rfl
    · refine cF rfl (cF rfl (cF rfl (cF rfl (cF rfl (cF rfl (cF rfl ?_))))))
      exact spec_end Q ret hP hf (by rw [Cor.ends0]; exact w) hQ
    · refine cT rfl ?_
      rw [hput _ _ _ _ _ w.vq (by omega)]
      exact spec_end Q ret hP hf (by have := w.upd (0 ||| 2 ^ f); rw [Cor.ends1]; simpa using this) hQ
    · refine cF rfl (cT rfl (cT rfl (cT (hokV_of e8) ?_)))
      by_cases hfs : f < T.s.length
      · refine cT ?_ (cT (hR _ p1) ?_)
        · simp [hvarOf_of e8, PV.rI, PV.fld, PV.flds, PV.els, ints_len]; omega
        extract_lets +onlyGivenNames p79
        have ep : p79 = bs st := by simp [p79, hvarOf_of e8, PV.rI, PV.fld, PV.flds, hrowOf, p1, p4, PV.num, Cor.pv]
        clear_value p79
        subst ep
        refine cT rfl (cT (hokV_of e8) (cT ?_ ?_))
        · simp [hvarOf_of e8, PV.rI, PV.fld, PV.flds, PV.els, ints_len]; omega
        have es : PV.num (List.getD (PV.els (PV.fld (hvarOf h8 (PV.rI (PV.rp T.it))) 1)) ((f : Int)).toNat PV.nil) = ((T.s[f] : Nat) : Int) := by
          simp [hvarOf_of e8, PV.rI, PV.fld, PV.flds, PV.els, ints, hfs, PV.num]
        rw [es, hHas _ _ _ (tok.b _ (List.getElem_mem hfs))]
        have hgd : T.s.getD f 0 = T.s[f] := by simp [List.getD, hfs]
        by_cases hb : st.testBit T.s[f] = true
        · refine cT hb ?_
          rw [wrap_succ (by omega), hput _ _ _ _ _ w.vq (by omega)]
          refine spec_end Q ret hP hf ?_ hQ
          have := w.upd (0 ||| 2 ^ (f + 1))
          rw [Cor.ends2, hgd, if_pos ⟨hfs, hb⟩]
          simpa using this
        · refine cF (by simpa using hb) ?_
          refine spec_end Q ret hP hf ?_ hQ
          rw [Cor.ends2, hgd, if_neg fun h => hb h.2]
          exact w
      · refine cF ?_ ?_
        · simp [hvarOf_of e8, PV.rI, PV.fld, PV.flds, PV.els, ints_len]; omega
        refine spec_end Q ret hP hf ?_ hQ
        rw [Cor.ends2, if_neg fun h => hfs h.1]
        exact w
  | @k1 x e =>
    obtain ⟨i0, hP', hat0⟩ := At.kids1 hat'
    rw [hP] at hP'; injection hP' with hP'; injection hP' with _ hP'; subst hP'
    obtain ⟨ik, rfl, pk⟩ := p5.row (by simp)
    have hx := hk x (by simp)
    rcases e with rfl | rfl | rfl
    · refine cF rfl (cF rfl (cF rfl (cF rfl (cT rfl ?_))))
      rw [hput _ _ _ _ _ w.vq (by omega)]
      exact spec_w2 hx hhas hpor hge Q ret tok rfl hP hat0 hf e8 (by have := w.upd (0 ||| 2 ^ f); simpa using this) hQ
    · refine cF rfl (cF rfl (cF rfl (cF rfl (cF rfl (cT rfl (cT (hR _ p1) (cT ?_ (cT ?_ ?_))))))))
      · simp [hvarOf_of e8, hrowOf, PV.rI, PV.rN, PV.fld, PV.flds, p1, p4]
      · simp [hvarOf_of e8, hokR, hrowOf, PV.rI, PV.fld, PV.flds, p1, p4, pk, ints_len]
      extract_lets +onlyGivenNames n32
      have en : n32 = (i0 : Int) := by simp [n32, hvarOf_of e8, hrowOf, PV.rI, PV.fld, PV.flds, p1, p4, pk, ints, PV.num]
      clear_value n32
      subst en
      refine hx Q _ _ T i0 f _ w.tb tok hat0 hf (fun h' q' hfr htb hpr hmx hv => ?_)
      have w2 := w.call hfr htb hpr
      show Q (G98 k (.rp h6.length) (.rp q') h' _)
      rw [hpor _ _ _ _ _ _ w2.vq hv (w.ne hmx)]
      refine spec_end Q ret hP hf ?_ hQ
      rw [Cor.ends67 _ _ _ _ _ _ (.inl rfl)]
      have := w2.upd (0 ||| x.ends T.s f)
      simpa using this
    · refine cF rfl (cF rfl (cF rfl (cF rfl (cF rfl (cF rfl (cT rfl (cT (hR _ p1) (cT ?_ (cT ?_ ?_)))))))))
      · simp [hvarOf_of e8, hrowOf, PV.rI, PV.rN, PV.fld, PV.flds, p1, p4]
      · simp [hvarOf_of e8, hokR, hrowOf, PV.rI, PV.fld, PV.flds, p1, p4, pk, ints_len]
      extract_lets +onlyGivenNames n32
      have en : n32 = (i0 : Int) := by simp [n32, hvarOf_of e8, hrowOf, PV.rI, PV.fld, PV.flds, p1, p4, pk, ints, PV.num]
      clear_value n32
      subst en
      refine hx Q _ _ T i0 f _ w.tb tok hat0 hf (fun h' q' hfr htb hpr hmx hv => ?_)
      have w2 := w.call hfr htb hpr
      show Q (G98 k (.rp h6.length) (.rp q') h' _)
      rw [hpor _ _ _ _ _ _ w2.vq hv (w.ne hmx)]
      refine spec_end Q ret hP hf ?_ hQ
      rw [Cor.ends67 _ _ _ _ _ _ (.inr rfl)]
      have := w2.upd (0 ||| x.ends T.s f)
      simpa using this
  | @k2 x y e =>
    obtain ⟨i0, i1, hP', hat0, hat1⟩ := At.kids2 hat'
    rw [hP] at hP'; injection hP' with hP'; injection hP' with _ hP'; subst hP'
    obtain ⟨ik, rfl, pk⟩ := p5.row (by simp)
    have hx := hk x (by simp)
    have hy := hk y (by simp)
    rcases e with rfl | rfl
    · refine cF rfl (cF rfl (cT rfl (cT (hR _ p1) (cT ?_ (cT ?_ ?_)))))
      · simp [hvarOf_of e8, hrowOf, PV.rI, PV.rN, PV.fld, PV.flds, p1, p4]
      · simp [hvarOf_of e8, hokR, hrowOf, PV.rI, PV.fld, PV.flds, p1, p4, pk, ints_len]
      extract_lets +onlyGivenNames n32
      have en : n32 = (i0 : Int) := by simp [n32, hvarOf_of e8, hrowOf, PV.rI, PV.fld, PV.flds, p1, p4, pk, ints, PV.num]
      clear_value n32
      subst en
      refine hx Q _ _ T i0 f _ w.tb tok hat0 hf (fun h' q' hfr htb hpr hmx hv => ?_)
      exact spec_w1 (ml := 0) hy hhas hpor hge Q ret tok rfl hP hat1 hf e8 (w.call hfr htb hpr) hv (w.ne hmx) hQ
    · refine cF rfl (cF rfl (cF rfl (cT rfl (cT (hR _ p1) (cT ?_ (cT ?_ ?_))))))
      · simp [hvarOf_of e8, hrowOf, PV.rI, PV.rN, PV.fld, PV.flds, p1, p4]
      · simp [hvarOf_of e8, hokR, hrowOf, PV.rI, PV.fld, PV.flds, p1, p4, pk, ints_len]
      extract_lets +onlyGivenNames n32
      have en : n32 = (i0 : Int) := by simp [n32, hvarOf_of e8, hrowOf, PV.rI, PV.fld, PV.flds, p1, p4, pk, ints, PV.num]
      clear_value n32
      subst en
      refine hx Q _ _ T i0 f _ w.tb tok hat0 hf (fun h' q' hfr htb hpr hmx hv => ?_)
      have w2 := w.call hfr htb hpr
      show Q (G98 k (.rp h6.length) (.rp q') h' _)
      rw [hpor _ _ _ _ _ _ w2.vq hv (w.ne hmx)]
      have w3 := w2.upd (0 ||| x.ends T.s f)
      generalize hh3 : h'.set h6.length (.var tPlaces (ps (0 ||| x.ends T.s f))) = h3 at w3
      obtain ⟨lp', kp', p1', p2', p3', p4', p5'⟩ := w3.tb.part hP
      obtain ⟨ik', rfl, pk'⟩ := p5'.row (by simp)
      refine cT ?_ (cT ?_ (cT ?_ ?_))
      · simp [hvarOf_of e8, PV.rI, PV.fld, PV.flds, hokR, p1']; omega
      · simp [hvarOf_of e8, hrowOf, PV.rI, PV.rN, PV.fld, PV.flds, p1', p4']
      · simp [hvarOf_of e8, hokR, hrowOf, PV.rI, PV.fld, PV.flds, p1', p4', pk', ints_len]
      extract_lets +onlyGivenNames n33
      have en : n33 = (i1 : Int) := by simp [n33, hvarOf_of e8, hrowOf, PV.rI, PV.fld, PV.flds, p1', p4', pk', ints, PV.num]
      clear_value n33
      subst en
      refine hy Q _ _ T i1 f _ w3.tb tok hat1 hf (fun h'' q'' hfr2 htb2 hpr2 hmx2 hv2 => ?_)
      have w4 := w3.call hfr2 htb2 hpr2
      show Q (G98 k (.rp h6.length) (.rp q'') h'' _)
      rw [hpor _ _ _ _ _ _ w4.vq hv2 (w3.ne hmx2)]
      refine spec_end Q ret hP hf ?_ hQ
      rw [Cor.ends4]
      have := w4.upd ((0 ||| x.ends T.s f) ||| y.ends T.s f)
      simpa using this
end Go.Proofs.Ytmdlhnojpcnnbaa
