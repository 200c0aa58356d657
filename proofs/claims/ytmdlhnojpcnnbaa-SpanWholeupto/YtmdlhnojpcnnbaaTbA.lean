/- A table is made: its parts by their numbers. -/
import Derived.Test.YtmdlhnojpcnnbaaTbX
set_option linter.unusedSimpArgs false
set_option linter.unusedVariables false
set_option maxRecDepth 20000
namespace Go.Proofs.Ytmdlhnojpcnnbaa
open Go Go.X

def KB (B : Nat) (h : List HE) (kp : PV) (ks : List Nat) : Prop := (kp = .list [] ∧ ks = []) ∨ ∃ i, kp = .rs i ks.length ∧ B ≤ i ∧ h[i]? = some (.row tInt (ints ks))
structure Pl (B : Nat) (h : List HE) (P : List (Cor × List Nat)) (l : List PV) : Prop where
  n : l.length = P.length
  k : ∀ (n : Nat) c ks, P[n]? = some (c, ks) → ∃ kp, l[n]? = some (.agg [Cor.pv c, kp]) ∧ KB B h kp ks
  i : ∀ (n n' : Nat) c c' i m m', l[n]? = some (.agg [c, .rs i m]) → l[n']? = some (.agg [c', .rs i m']) → n = n'
structure Bd (h0 h : List HE) (it : Nat) (P : List (Cor × List Nat)) (s : List Nat) : Prop where
  len : h0.length ≤ h.length
  old : ∀ i, i < h0.length → h[i]? = h0[i]?
  b : h0.length ≤ it
  v : ∃ sl l, h[it]? = some (.var tTable (.agg [sl, .list (ints s), .list []])) ∧ Pl h0.length h P l ∧ ((sl = .list [] ∧ P = []) ∨ ∃ ip, sl = .rs ip P.length ∧ h0.length ≤ ip ∧ h[ip]? = some (.row tPart l))
theorem KB.keep {B : Nat} {h h' : List HE} {kp : PV} {ks : List Nat} (a : KB B h kp ks) (hA : ∀ i, kp = .rs i ks.length → h[i]? = some (.row tInt (ints ks)) → h'[i]? = some (.row tInt (ints ks))) : KB B h' kp ks := by
  rcases a with h | ⟨i, h1, h2, h3⟩
  · exact .inl h
  · exact .inr ⟨i, h1, h2, hA i h1 h3⟩
theorem hgone_len (h : List HE) (p : PV) : (hgone h p).length = h.length := by
  cases p <;> simp [hgone]
theorem hgone_ne {h : List HE} {p : PV} {i : Nat} (hi : ∀ j m, p = .rs j m → j ≠ i) : (hgone h p)[i]? = h[i]? := by
  cases p with
  | rs j m => simp only [hgone]; exact set_ne (hi j m rfl)
  | _ => rfl
theorem roomyP {n b : Nat} (h : n ≤ 5000) (hb : b ≤ 100) : roomy n b = true := roomy_of (by
  have : n * b ≤ 5000 * 100 := Nat.mul_le_mul h hb
  omega) (by omega)

def AddS (c : Cor) (k : Nat) : Prop := ∀ (Q : R → Prop) (h0 h : List HE) (it : Nat) (P : List (Cor × List Nat)) (s : List Nat) (ret : Int → List HE → R), Bd h0 h it P s → P.length + c.cnt ≤ 4000 →
  (∀ h', Bd h0 h' it (P ++ Cor.flat c P.length) s → Q (ret (P.length : Int) h')) → Q (G72 k (.rp it) c.pv h ret)

theorem Bd.part {h0 h : List HE} {it : Nat} {P : List (Cor × List Nat)} {s : List Nat} (a : Bd h0 h it P s) (c : Cor) {sl : PV} (hv : h[it]? = some (.var tTable (.agg [sl, .list (ints s), .list []]))) :
    hokS (h ++ [HE.row tPart [.agg [c.pv, .list []]]]) tPart sl = true ∧ (PV.rN sl) = P.length ∧ (hgone (h ++ [HE.row tPart [.agg [c.pv, .list []]]]) sl ++ [HE.row tPart (hels (h ++ [HE.row tPart [.agg [c.pv, .list []]]]) sl ++ [.agg [c.pv, .list []]])])[it]? = some (.var tTable (.agg [sl, .list (ints s), .list []])) ∧
    Bd h0 ((hgone (h ++ [HE.row tPart [.agg [c.pv, .list []]]]) sl ++ [HE.row tPart (hels (h ++ [HE.row tPart [.agg [c.pv, .list []]]]) sl ++ [.agg [c.pv, .list []]])]).set it (.var tTable (.agg [.rs (h.length + 1) (P.length + 1), .list (ints s), .list []]))) it (P ++ [(c, [])]) s := by
  obtain ⟨len, old, b, sl', l, v, pl, hsl⟩ := a
  rw [hv] at v; injection v with v; injection v with _ v; injection v with v; injection v with v _; subst v
  generalize hh4 : h ++ [HE.row tPart [.agg [c.pv, .list []]]] = h4
  have l4 : h4.length = h.length + 1 := by rw [← hh4]; simp
  have k4 : ∀ (i : Nat) x, h[i]? = some x → h4[i]? = some x := fun i x hx => by rw [← hh4]; exact push_some hx
  have hlit := lt_of_some hv
  have hels' : hels h4 sl = l := by
    rcases hsl with ⟨rfl, rfl⟩ | ⟨ip, rfl, _, hip⟩
    · have := pl.n; simp at this; subst this; rfl
    · simp only [hels]; exact hrowOf_of (k4 _ _ hip)
  have hne : ∀ j m, sl = .rs j m → ∀ (i : Nat) x, h[i]? = some x → (∀ l, x ≠ .row tPart l) → j ≠ i := fun j m e i x hx hnx ei => by
    subst ei
    rcases hsl with ⟨rfl, _⟩ | ⟨ip, rfl, _, hip⟩
    · cases e
    · injection e with e _; subst e
      rw [hip] at hx; injection hx with hx; exact hnx _ hx.symm
  have hR : (PV.rN sl) = P.length := by
    rcases hsl with ⟨rfl, rfl⟩ | ⟨ip, rfl, _, _⟩ <;> rfl
  have key : ∀ (i : Nat) x, h[i]? = some x → (∀ l, x ≠ .row tPart l) → (hgone h4 sl ++ [HE.row tPart (hels h4 sl ++ [.agg [c.pv, .list []]])])[i]? = some x := fun i x hx hnx => by
    refine push_some ?_
    rw [hgone_ne fun j m e => hne j m e i x hx hnx]
    exact k4 _ _ hx
  have lg : (hgone h4 sl).length = h.length + 1 := by rw [hgone_len, l4]
  refine ⟨?_, hR, key _ _ hv (fun l => by simp), ?_⟩
  · rcases hsl with ⟨rfl, rfl⟩ | ⟨ip, rfl, _, hip⟩
    · rfl
    · exact hokS_of (k4 _ _ hip) pl.n
  · refine ⟨by simp [lg]; omega, fun i hi => ?_, b, .rs (h.length + 1) (P ++ [(c, [])]).length, l ++ [.agg [c.pv, .list []]], ?_, ⟨by simp [pl.n], fun n c' ks hn => ?_, fun n n' d d' i m m' h1 h2 => ?_⟩, .inr ⟨h.length + 1, rfl, by omega, ?_⟩⟩
    · rw [set_ne (by omega), push_lt (by omega), hgone_ne, ← hh4, push_lt (by omega)]
      · exact old i hi
      · intro j m e
        rcases hsl with ⟨rfl, _⟩ | ⟨ip, rfl, hip, _⟩
        · cases e
        · injection e with e _; omega
    · simp only [List.length_append, List.length_singleton]
      exact set_eq (by simp [lg]; omega)
    · rw [List.getElem?_append] at hn
      split at hn
      · obtain ⟨kp, h1, h2⟩ := pl.k n c' ks hn
        refine ⟨kp, by rw [List.getElem?_append_left (by rw [pl.n]; assumption)]; exact h1, h2.keep fun i _ hi => ?_⟩
        rw [set_ne (fun e => by subst e; rw [hv] at hi; cases hi)]
        exact key _ _ hi (fun l => by simp; intro e; exact absurd e (by decide))
      · rename_i hge
        have : n = P.length := by
          have := (List.getElem?_eq_some_iff.1 hn).1; simp at this; omega
        subst this
        simp at hn
        obtain ⟨rfl, rfl⟩ := hn
        exact ⟨.list [], by rw [← pl.n]; simp, .inl ⟨rfl, rfl⟩⟩
    · rw [List.getElem?_append] at h1 h2
      have last : ∀ {n : Nat} {d i m}, ([PV.agg [c.pv, .list []]])[n]? ≠ some (PV.agg [d, PV.rs i m]) := fun {n d i m} e => by
        cases n <;> simp at e
      split at h1
      · split at h2
        · exact pl.i _ _ _ _ _ _ _ h1 h2
        · exact absurd h2 last
      · exact absurd h1 last
    · rw [set_ne (by omega), ← lg, hels']
      exact push_eq
theorem Bd.kid {h0 h : List HE} {it : Nat} {P : List (Cor × List Nat)} {s : List Nat} (a : Bd h0 h it P s) {n x ip : Nat} {l : List PV} {c : Cor} {ks : List Nat} {kp : PV} (hP : P[n]? = some (c, ks)) (hv : h[it]? = some (.var tTable (.agg [.rs ip P.length, .list (ints s), .list []]))) (hip : h[ip]? = some (.row tPart l)) (hl : l[n]? = some (.agg [Cor.pv c, kp])) :
    hokS (h ++ [HE.row tInt [.int (x : Int)]]) tInt kp = true ∧ PV.rN kp = ks.length ∧ (PV.isRs kp = true → PV.rI kp ≠ it) ∧
    (hgone (h ++ [HE.row tInt [.int (x : Int)]]) kp ++ [HE.row tInt (hels (h ++ [HE.row tInt [.int (x : Int)]]) kp ++ [.int (x : Int)])])[ip]? = some (.row tPart l) ∧
    Bd h0 ((hgone (h ++ [HE.row tInt [.int (x : Int)]]) kp ++ [HE.row tInt (hels (h ++ [HE.row tInt [.int (x : Int)]]) kp ++ [.int (x : Int)])]).set ip (.row tPart (l.set n (.agg [c.pv, .rs (h.length + 1) (ks.length + 1)])))) it (P.set n (c, ks ++ [x])) s := by
  obtain ⟨len, old, b, sl', l', v, pl, hsl⟩ := a
  rw [hv] at v; injection v with v; injection v with _ v; injection v with v; injection v with v _; subst v
  obtain ⟨hipb, rfl⟩ : h0.length ≤ ip ∧ l' = l := by
    rcases hsl with ⟨e, _⟩ | ⟨ip', e, h1, h2⟩
    · cases e
    · injection e with e _; subst e
      rw [hip] at h2; injection h2 with h2; injection h2 with _ h2
      exact ⟨h1, h2.symm⟩
  obtain ⟨kp', hk1, hk2⟩ := pl.k _ _ _ hP
  rw [hl] at hk1; injection hk1 with hk1; injection hk1 with hk1; injection hk1 with _ hk1; injection hk1 with hk1 _; subst hk1
  generalize hh4 : h ++ [HE.row tInt [.int (x : Int)]] = h4
  have l4 : h4.length = h.length + 1 := by rw [← hh4]; simp
  have k4 : ∀ (i : Nat) x, h[i]? = some x → h4[i]? = some x := fun i x hx => by rw [← hh4]; exact push_some hx
  have hels' : hels h4 kp = ints ks := by
    rcases hk2 with ⟨rfl, rfl⟩ | ⟨i, rfl, _, hi⟩
    · rfl
    · simp only [hels]; exact hrowOf_of (k4 _ _ hi)
  have hne : ∀ j m, kp = .rs j m → ∀ (i : Nat) x, h[i]? = some x → (∀ l, x ≠ .row tInt l) → j ≠ i := fun j m e i x hx hnx ei => by
    subst ei
    rcases hk2 with ⟨rfl, _⟩ | ⟨i, rfl, _, hi⟩
    · cases e
    · injection e with e _; subst e
      rw [hi] at hx; injection hx with hx; exact hnx _ hx.symm
  have hR : PV.rN kp = ks.length := by
    rcases hk2 with ⟨rfl, rfl⟩ | ⟨ip, rfl, _, _⟩ <;> rfl
  have key : ∀ (i : Nat) x', h[i]? = some x' → (∀ j m, kp = .rs j m → j ≠ i) → (hgone h4 kp ++ [HE.row tInt (hels h4 kp ++ [.int (x : Int)])])[i]? = some x' := fun i x' hx hnx => by
    refine push_some ?_
    rw [hgone_ne fun j m e => hnx j m e]
    exact k4 _ _ hx
  have lg : (hgone h4 kp).length = h.length + 1 := by rw [hgone_len, l4]
  have hlip := lt_of_some hip
  have hlit := lt_of_some hv
  have hnl : n < l'.length := (List.getElem?_eq_some_iff.1 hl).1
  have hnP : n < P.length := (List.getElem?_eq_some_iff.1 hP).1
  have hipit : ip ≠ it := fun e => by rw [e, hv] at hip; cases hip
  have g1 := key _ _ hip (fun j m e => hne j m e _ _ hip (fun l => by simp; intro e; exact absurd e (by decide)))
  refine ⟨?_, hR, fun hrs e => ?_, g1, ?_⟩
  · rcases hk2 with ⟨rfl, rfl⟩ | ⟨i, rfl, _, hi⟩
    · rfl
    · exact hokS_of (k4 _ _ hi) (ints_len _)
  · rcases hk2 with ⟨rfl, _⟩ | ⟨i, rfl, _, hi⟩
    · cases hrs
    · rw [show i = it from e, hv] at hi; cases hi
  · refine ⟨by simp [lg]; omega, fun i hi => ?_, b, .rs ip (P.set n (c, ks ++ [x])).length, l'.set n (.agg [c.pv, .rs (h.length + 1) (ks.length + 1)]), ?_, ⟨by simp [pl.n], fun n' c' ks' hn => ?_, fun n1 n2 d d' i m m' h1 h2 => ?_⟩, .inr ⟨ip, rfl, hipb, set_eq (by simp [lg]; omega)⟩⟩
    · rw [set_ne (by omega), push_lt (by omega), hgone_ne, ← hh4, push_lt (by omega)]
      · exact old i hi
      · intro j m e
        rcases hk2 with ⟨rfl, _⟩ | ⟨i', rfl, hi', _⟩
        · cases e
        · injection e with e _; omega
    · rw [List.length_set, set_ne hipit]
      exact key _ _ hv (fun j m e => hne j m e _ _ hv (fun l => by simp))
    · rw [List.getElem?_set] at hn
      split at hn
      · rename_i e
        subst e
        injection hn with hn; injection hn with hn1 hn2; subst hn1; subst hn2
        refine ⟨_, by rw [List.getElem?_set_self hnl], .inr ⟨h.length + 1, by simp, by omega, ?_⟩⟩
        rw [set_ne (by omega), ← lg, hels']
        simp [ints]
      · rename_i e
        obtain ⟨kp', h1, h2⟩ := pl.k n' c' ks' hn
        refine ⟨kp', by rw [List.getElem?_set_ne e]; exact h1, h2.keep fun i ei hi => ?_⟩
        rw [set_ne (fun e => by subst e; rw [hip] at hi; injection hi with hi; injection hi with hi _; revert hi; decide)]
        refine key _ _ hi (fun j m ej eji => ?_)
        subst ej; subst eji; subst ei
        exact e (pl.i _ _ _ _ _ _ _ hl h1)
    · have old' : ∀ {n' : Nat} {d i m}, l'[n']? = some (PV.agg [d, PV.rs i m]) → i < h.length := fun {n' d i m} e => by
        have hlt : n' < P.length := by rw [← pl.n]; exact (List.getElem?_eq_some_iff.1 e).1
        obtain ⟨kp', h1, h2⟩ := pl.k n' _ _ (List.getElem?_eq_getElem hlt)
        rw [e] at h1; injection h1 with h1; injection h1 with h1; injection h1 with _ h1; injection h1 with h1 _; subst h1
        rcases h2 with ⟨h2, _⟩ | ⟨i', h2, _, h3⟩
        · cases h2
        · injection h2 with h2 _; subst h2; exact lt_of_some h3
      rw [List.getElem?_set] at h1 h2
      split at h1 <;> split at h2
      · omega
      · injection h1 with h1; injection h1 with h1; injection h1 with _ h1; injection h1 with h1 _; injection h1 with h1 _
        have := old' h2; omega
      · injection h2 with h2; injection h2 with h2; injection h2 with _ h2; injection h2 with h2 _; injection h2 with h2 _
        have := old' h1; omega
      · exact pl.i _ _ _ _ _ _ _ h1 h2
end Go.Proofs.Ytmdlhnojpcnnbaa
