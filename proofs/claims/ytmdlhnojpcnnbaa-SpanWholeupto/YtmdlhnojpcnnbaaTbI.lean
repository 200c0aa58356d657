/- Tables of parts on a heap: what holds of one, and what keeps it. -/
import Derived.Test.YtmdlhnojpcnnbaaTbB
set_option linter.unusedSimpArgs false
set_option linter.unusedVariables false
namespace Go.Proofs.Ytmdlhnojpcnnbaa
open Go Go.X

structure Tab where
  it : Nat
  ip : Nat
  ie : Nat
  P : List (Cor × List Nat)
  s : List Nat
abbrev tTable : TypeId := 116
abbrev tPart : TypeId := 122
abbrev tRows : TypeId := 149
abbrev tPtr : TypeId := 118
abbrev tPlaces : TypeId := 151
abbrev tInt : TypeId := 3
def fixed : HE → Bool
  | .row e _ => e != tRows && e != tPtr
  | _ => true
def tabT : HE → Bool
  | .var t _ => t == tTable
  | .row e _ => e == tPart || e == tInt
  | _ => false
def KS (h : List HE) (kp : PV) (ks : List Nat) : Prop := (kp = .list [] ∧ ks = []) ∨ ∃ i, kp = .rs i ks.length ∧ h[i]? = some (.row tInt (ints ks))
structure Fr (M : Nat → Prop) (h h' : List HE) : Prop where
  len : h.length ≤ h'.length
  out : ∀ i, i < h.length → ¬ M i → h'[i]? = h[i]?
  fix : ∀ (i : Nat) (x : HE), h[i]? = some x → fixed x = true → h'[i]? = some x
theorem Fr.refl (M : Nat → Prop) (h : List HE) : Fr M h h := ⟨Nat.le_refl _, fun _ _ _ => rfl, fun _ _ h _ => h⟩
theorem Fr.trans {M M1 : Nat → Prop} {h h1 h2 : List HE} (a : Fr M h h1) (b : Fr M1 h1 h2) (hm : ∀ i, i < h.length → M1 i → M i) : Fr M h h2 :=
  ⟨Nat.le_trans a.len b.len, fun i hi hn => by rw [b.out i (by have := a.len; omega) (fun h => hn (hm i hi h)), a.out i hi hn], fun i x hx hf => b.fix i x (a.fix i x hx hf) hf⟩
theorem Fr.push {M : Nat → Prop} {h h1 : List HE} (a : Fr M h h1) (x : HE) : Fr M h (h1 ++ [x]) :=
  a.trans (M1 := fun _ => False) ⟨by simp, fun i hi _ => push_lt hi, fun i x hx _ => push_some hx⟩ (fun _ _ h => h.elim)
theorem Fr.set {M : Nat → Prop} {h h1 : List HE} (a : Fr M h h1) (q : Nat) (x : HE) (hq : h.length ≤ q) : Fr M h (h1.set q x) :=
  ⟨by simpa using a.len, fun i hi hn => by rw [set_ne (by omega)]; exact a.out i hi hn, fun i y hy hf => by rw [set_ne (by have := lt_of_some hy; omega)]; exact a.fix i y hy hf⟩
theorem Fr.setM {M : Nat → Prop} {h h1 : List HE} (a : Fr M h h1) (q : Nat) (x y : HE) (hq : M q ∨ h.length ≤ q) (hy : h1[q]? = some y) (hf : fixed y = false) : Fr M h (h1.set q x) :=
  ⟨by simpa using a.len, fun i hi hn => by
    rw [set_ne (fun e => by subst e; rcases hq with hq | hq; · exact hn hq
                            · omega)]
    exact a.out i hi hn, fun i z hz hzf => by
    have h1 := a.fix i z hz hzf
    rw [set_ne (fun e => by subst e; rw [hy] at h1; injection h1 with h1; subst h1; rw [hf] at hzf; cases hzf)]
    exact h1⟩

def Ent (M : Nat → Prop) (h : List HE) (s : List Nat) (c : Cor) (f : Nat) (y : PV) : Prop := y = .nil ∨ ∃ q, y = .rp q ∧ M q ∧ h[q]? = some (.var tPlaces (ps (c.ends s f)))
def Erow (M : Nat → Prop) (h : List HE) (s : List Nat) (c : Cor) (x : PV) : Prop :=
  x = .list [] ∨ ∃ j l, x = .rs j (s.length + 1) ∧ M j ∧ h[j]? = some (.row tPtr l) ∧ l.length = s.length + 1 ∧ ∀ f y, l[f]? = some y → Ent M h s c f y
structure Tb (M : Nat → Prop) (h : List HE) (T : Tab) : Prop where
  b : ∀ i, M i → i < h.length
  v : h[T.it]? = some (.var tTable (.agg [.rs T.ip T.P.length, .list (ints T.s), .rs T.ie T.P.length]))
  p : ∃ l, h[T.ip]? = some (.row tPart l) ∧ l.length = T.P.length ∧ ∀ (n : Nat) c ks, T.P[n]? = some (c, ks) → ∃ kp, l[n]? = some (.agg [Cor.pv c, kp]) ∧ KS h kp ks
  e : M T.ie ∧ ∃ l, h[T.ie]? = some (.row tRows l) ∧ l.length = T.P.length ∧ (∀ (n : Nat) x c ks, l[n]? = some x → T.P[n]? = some (c, ks) → Erow M h T.s c x) ∧ (∀ (n n' : Nat) j m m', l[n]? = some (.rs j m) → l[n']? = some (.rs j m') → n = n')

def entT : HE → Bool
  | .var t _ => t == tPlaces
  | .row e _ => e == tPtr
  | _ => false
theorem Erow.mono {M M' : Nat → Prop} {h h' : List HE} {s : List Nat} {c : Cor} {x : PV} (a : Erow M h s c x) (hM : ∀ i, M i → M' i) (hA : ∀ (i : Nat) (x : HE), h[i]? = some x → M i → entT x = true → h'[i]? = some x) : Erow M' h' s c x := by
  rcases a with rfl | ⟨j, l, rfl, hj, hl, hn, he⟩
  · exact .inl rfl
  · refine .inr ⟨j, l, rfl, hM j hj, hA _ _ hl hj (by simp [entT]), hn, fun f y hy => ?_⟩
    rcases he f y hy with rfl | ⟨q, rfl, hq, hv⟩
    · exact .inl rfl
    · exact .inr ⟨q, rfl, hM q hq, hA _ _ hv hq (by simp [entT])⟩
theorem Tb.agree {M M' : Nat → Prop} {h h' : List HE} {T : Tab} (a : Tb M h T) (hM : ∀ i, M i → M' i) (hb : ∀ i, M' i → i < h'.length) (hA : ∀ (i : Nat) (x : HE), h[i]? = some x → M i ∨ tabT x = true → h'[i]? = some x) : Tb M' h' T := by
  obtain ⟨b, v, ⟨l, p1, p2, p3⟩, e0, l', e1, e2, e3, e4⟩ := a
  refine ⟨hb, hA _ _ v (.inr (by simp [tabT])), ⟨l, hA _ _ p1 (.inr (by simp [tabT])), p2, fun n c ks hn => ?_⟩, hM _ e0, l', hA _ _ e1 (.inl e0), e2, fun n x c ks hx hc => (e3 n x c ks hx hc).mono hM fun i x hx hm _ => hA i x hx (.inl hm), e4⟩
  obtain ⟨kp, hk, hs⟩ := p3 n c ks hn
  refine ⟨kp, hk, ?_⟩
  rcases hs with h | ⟨i, rfl, hi⟩
  · exact .inl h
  · exact .inr ⟨i, rfl, hA _ _ hi (.inr (by simp [tabT]))⟩
theorem fixed_tab {x : HE} (h : tabT x = true) : fixed x = true := by
  cases x with
  | gone => rfl
  | var t p => rfl
  | row e l =>
    simp only [tabT, Bool.or_eq_true, beq_iff_eq] at h
    rcases h with rfl | rfl <;> rfl
theorem Tb.frame {M M2 : Nat → Prop} {h h' : List HE} {T : Tab} (a : Tb M h T) (f : Fr M2 h h') (hd : ∀ i, M i → ¬ M2 i) : Tb M h' T :=
  a.agree (fun _ h => h) (fun i hi => by have := a.b i hi; have := f.len; omega) fun i x hx ho => by
    rcases ho with ho | ho
    · rw [f.out i (a.b i ho) (hd i ho)]; exact hx
    · exact f.fix i x hx (fixed_tab ho)
theorem Tb.push {M : Nat → Prop} {h : List HE} {T : Tab} (a : Tb M h T) (x : HE) : Tb M (h ++ [x]) T := a.frame ((Fr.refl (fun _ => False) h).push x) (fun _ _ h => h)
theorem Tb.mono {M M' : Nat → Prop} {h : List HE} {T : Tab} (a : Tb M h T) (hM : ∀ i, M i → M' i) (hb : ∀ i, M' i → i < h.length) : Tb M' h T := a.agree hM hb fun _ _ h _ => h
theorem Tb.setO {M : Nat → Prop} {h : List HE} {T : Tab} (a : Tb M h T) (q : Nat) (x y : HE) (hq : ¬ M q) (hy : h[q]? = some y) (ht : tabT y = false) : Tb M (h.set q x) T :=
  a.agree (fun _ h => h) (fun i hi => by simpa using a.b i hi) fun i z hz ho => by
    rw [set_ne (fun e => by
      subst e
      rcases ho with ho | ho
      · exact hq ho
      · rw [hy] at hz; injection hz with hz; subst hz; rw [ht] at ho; cases ho)]
    exact hz

def Pr (T : Tab) (h h' : List HE) : Prop := ∀ (l : List PV) (n j m : Nat), h[T.ie]? = some (.row tRows l) → l[n]? = some (.rs j m) → ∃ l', h'[T.ie]? = some (.row tRows l') ∧ l'[n]? = some (.rs j m)
theorem Pr.trans {T : Tab} {h h1 h2 : List HE} (a : Pr T h h1) (b : Pr T h1 h2) : Pr T h h2 := fun l n j m hl hn => by
  obtain ⟨l', h1, h2⟩ := a l n j m hl hn
  exact b l' n j m h1 h2
theorem Pr.same {T : Tab} {h h' : List HE} (e : h'[T.ie]? = h[T.ie]?) : Pr T h h' := fun l n j m hl hn => ⟨l, by rw [e]; exact hl, hn⟩
theorem Tb.row_of {M : Nat → Prop} {h : List HE} {T : Tab} (a : Tb M h T) {l : List PV} {n j m : Nat} (hl : h[T.ie]? = some (.row tRows l)) (hn : l[n]? = some (.rs j m)) :
    ∃ c ks l', T.P[n]? = some (c, ks) ∧ m = T.s.length + 1 ∧ M j ∧ h[j]? = some (.row tPtr l') ∧ l'.length = T.s.length + 1 ∧ ∀ f y, l'[f]? = some y → Ent M h T.s c f y := by
  obtain ⟨b, v, _, e0', l1, e1, e2, e3, e4⟩ := a
  rw [e1] at hl; injection hl with hl; injection hl with _ hl; subst hl
  have hlt : n < T.P.length := by rw [← e2]; exact (List.getElem?_eq_some_iff.1 hn).1
  rcases e3 n _ _ _ hn (List.getElem?_eq_getElem hlt) with h | ⟨j', l, h, h1, h2, h3, h4⟩
  · cases h
  · injection h with h5 h6; subst h5; subst h6
    exact ⟨_, _, l, List.getElem?_eq_getElem hlt, rfl, h1, h2, h3, h4⟩
theorem Tb.keepP {M : Nat → Prop} {h h' : List HE} {T : Tab} (a : Tb M h T) (hA : ∀ (i : Nat) (x : HE), h[i]? = some x → tabT x = true → h'[i]? = some x) :
    h'[T.it]? = some (.var tTable (.agg [.rs T.ip T.P.length, .list (ints T.s), .rs T.ie T.P.length])) ∧
    ∃ l, h'[T.ip]? = some (.row tPart l) ∧ l.length = T.P.length ∧ ∀ (n : Nat) c ks, T.P[n]? = some (c, ks) → ∃ kp, l[n]? = some (.agg [Cor.pv c, kp]) ∧ KS h' kp ks := by
  obtain ⟨b, v, ⟨lp, p1, p2, p3⟩, _⟩ := a
  refine ⟨hA _ _ v (by simp [tabT]), lp, hA _ _ p1 (by simp [tabT]), p2, fun n c ks hn => ?_⟩
  obtain ⟨kp, hk, hs⟩ := p3 n c ks hn
  refine ⟨kp, hk, ?_⟩
  rcases hs with h | ⟨i, rfl, hi⟩
  · exact .inl h
  · exact .inr ⟨i, rfl, hA _ _ hi (by simp [tabT])⟩
theorem Tb.newRow {M : Nat → Prop} {h : List HE} {T : Tab} (a : Tb M h T) {l : List PV} {n : Nat} (hl : h[T.ie]? = some (.row tRows l)) (hn : l[n]? = some (.list [])) :
    Tb (fun i => M i ∨ i = h.length) ((h ++ [HE.row tPtr (List.replicate (T.s.length + 1) .nil)]).set T.ie (.row tRows (l.set n (.rs h.length (T.s.length + 1))))) T ∧
    Pr T h ((h ++ [HE.row tPtr (List.replicate (T.s.length + 1) .nil)]).set T.ie (.row tRows (l.set n (.rs h.length (T.s.length + 1))))) := by
  have hro := fun n j m => a.row_of (n := n) (j := j) (m := m) hl
  have a' := a
  obtain ⟨b, v, p, e0', l', e1, e2, e3, e4⟩ := a
  rw [e1] at hl; injection hl with hl; injection hl with _ hl; subst hl
  have hie := b _ e0'
  have hA : ∀ (i : Nat) (x : HE), h[i]? = some x → i ≠ T.ie → ((h ++ [HE.row tPtr (List.replicate (T.s.length + 1) .nil)]).set T.ie (.row tRows (l'.set n (.rs h.length (T.s.length + 1)))))[i]? = some x := fun i x hx hne => by
    rw [set_ne (fun e => hne e.symm)]; exact push_some hx
  have hT : ∀ (i : Nat) (x : HE), h[i]? = some x → tabT x = true ∨ entT x = true → i ≠ T.ie := fun i x hx ht e => by
    subst e; rw [e1] at hx; injection hx with hx; subst hx; revert ht; simp only [tabT, entT]; decide
  obtain ⟨kv, kp⟩ := a'.keepP (fun i x hx ht => hA i x hx (hT i x hx (.inl ht)))
  have hset : ((h ++ [HE.row tPtr (List.replicate (T.s.length + 1) .nil)]).set T.ie (.row tRows (l'.set n (.rs h.length (T.s.length + 1)))))[T.ie]? = some (.row tRows (l'.set n (.rs h.length (T.s.length + 1)))) := set_eq (by simp; omega)
  refine ⟨⟨fun i hi => ?_, kv, kp, .inl e0', _, hset, by simpa using e2, fun n' x c ks hx hc => ?_, fun n1 n2 j m m' h1 h2 => ?_⟩, fun l2 n2 j m h2 hn2 => ?_⟩
  · simp only [List.length_set, List.length_append, List.length_singleton]
    rcases hi with hi | rfl
    · have := b i hi; omega
    · omega
  · rw [List.getElem?_set] at hx
    split at hx
    · split at hx
      · injection hx with hx
        subst hx
        refine .inr ⟨h.length, List.replicate (T.s.length + 1) .nil, rfl, .inr rfl, ?_, List.length_replicate, fun f y hy => ?_⟩
        · rw [set_ne (by omega)]; exact push_eq
        · rw [List.getElem?_replicate] at hy
          split at hy
          · injection hy with hy; exact .inl hy.symm
          · cases hy
      · cases hx
    · exact (e3 n' x c ks hx hc).mono (fun _ h => .inl h) fun i x hx _ ht => hA i x hx (hT i x hx (.inr ht))
  · have old : ∀ (n j m : Nat), l'[n]? = some (PV.rs j m) → j < h.length := fun n j m hh => by
      obtain ⟨_, _, _, _, _, hM, _⟩ := hro n j m hh
      exact b j hM
    rw [List.getElem?_set] at h1 h2
    split at h1 <;> split at h2
    · omega
    · split at h1
      · injection h1 with h1; injection h1 with h1 _
        have := old _ _ _ h2; omega
      · cases h1
    · split at h2
      · injection h2 with h2; injection h2 with h2 _
        have := old _ _ _ h1; omega
      · cases h2
    · exact e4 _ _ _ _ _ h1 h2
  · rw [e1] at h2; injection h2 with h2; injection h2 with _ h2; subst h2
    refine ⟨_, hset, ?_⟩
    rw [List.getElem?_set_ne (fun e => by subst e; rw [hn] at hn2; cases hn2)]
    exact hn2
theorem Tb.setEnt {M : Nat → Prop} {h : List HE} {T : Tab} (a : Tb M h T) {l pl : List PV} {n j m f q : Nat} {c : Cor} {ks : List Nat} (hl : h[T.ie]? = some (.row tRows l)) (hn : l[n]? = some (.rs j m)) (hj : h[j]? = some (.row tPtr pl)) (hc : T.P[n]? = some (c, ks))
    (hq : h[q]? = some (.var tPlaces (ps (c.ends T.s f)))) : Tb (fun i => M i ∨ i = q) (h.set j (.row tPtr (pl.set f (.rp q)))) T ∧ Pr T h (h.set j (.row tPtr (pl.set f (.rp q)))) := by
  have a' := a
  obtain ⟨b, v, p, e0', l', e1, e2, e3, e4⟩ := a
  rw [e1] at hl; injection hl with hl; injection hl with _ hl; subst hl
  have hA : ∀ (i : Nat) (x : HE), h[i]? = some x → i ≠ j → (h.set j (.row tPtr (pl.set f (.rp q))))[i]? = some x := fun i x hx hne => by
    rw [set_ne (fun e => hne e.symm)]; exact hx
  have hT : ∀ (i : Nat) (x : HE), h[i]? = some x → fixed x = true → i ≠ j := fun i x hx ht e => by
    subst e; rw [hj] at hx; injection hx with hx; subst hx; revert ht; simp only [fixed]; decide
  have hie : T.ie ≠ j := fun e => by rw [← e, e1] at hj; injection hj with hj; injection hj with hj _; revert hj; decide
  obtain ⟨kv, kp⟩ := a'.keepP (fun i x hx ht => hA i x hx (hT i x hx (fixed_tab ht)))
  refine ⟨⟨fun i hi => ?_, kv, kp, .inl e0', l', hA _ _ e1 hie, e2, fun n' x c' ks' hx hc' => ?_, e4⟩, fun l2 n2 j2 m2 h2 hn2 => ⟨l2, hA _ _ h2 hie, hn2⟩⟩
  · rw [List.length_set]
    rcases hi with hi | rfl
    · exact b i hi
    · exact lt_of_some hq
  · have hv : ∀ (i : Nat) p, h[i]? = some (.var tPlaces p) → (h.set j (.row tPtr (pl.set f (.rp q))))[i]? = some (.var tPlaces p) := fun i p hp => hA _ _ hp (hT _ _ hp rfl)
    have hE : ∀ f y, Ent M h T.s c' f y → Ent (fun i => M i ∨ i = q) (h.set j (.row tPtr (pl.set f (.rp q)))) T.s c' f y := fun f' y hy => by
      rcases hy with rfl | ⟨q', rfl, hq', hv'⟩
      · exact .inl rfl
      · refine .inr ⟨q', rfl, .inl hq', ?_⟩
        rw [set_ne (fun e => hT _ _ hv' rfl e.symm)]; exact hv'
    rcases e3 n' x c' ks' hx hc' with rfl | ⟨j', l'', rfl, hj', hl', hn', he'⟩
    · exact .inl rfl
    · by_cases ej : j' = j
      · subst ej
        have := e4 _ _ _ _ _ hx hn
        subst this
        rw [hj] at hl'; injection hl' with hl'; injection hl' with _ hl'; subst hl'
        rw [hc] at hc'; injection hc' with hc'; injection hc' with hc1 hc2; subst hc1; subst hc2
        refine .inr ⟨j', pl.set f (.rp q), rfl, .inl hj', set_eq (lt_of_some hj), by simpa using hn', fun f' y hy => ?_⟩
        rw [List.getElem?_set] at hy
        split at hy
        · split at hy
          · injection hy with hy
            rename_i e _
            subst e
            subst hy
            exact .inr ⟨q, rfl, .inr rfl, hv _ _ hq⟩
          · cases hy
        · rcases he' f' y hy with rfl | ⟨q', rfl, hq', hv'⟩
          · exact .inl rfl
          · exact .inr ⟨q', rfl, .inl hq', hv _ _ hv'⟩
      · refine .inr ⟨j', l'', rfl, .inl hj', hA _ _ hl' ej, hn', fun f' y hy => ?_⟩
        rcases he' f' y hy with rfl | ⟨q', rfl, hq', hv'⟩
        · exact .inl rfl
        · exact .inr ⟨q', rfl, .inl hq', hv _ _ hv'⟩
end Go.Proofs.Ytmdlhnojpcnnbaa
