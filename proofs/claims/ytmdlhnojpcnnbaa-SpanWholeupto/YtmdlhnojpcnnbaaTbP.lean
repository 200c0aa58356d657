/- Tables: their parts by paths; what may change, one call behind the other. -/
import Derived.Test.YtmdlhnojpcnnbaaTbC
set_option linter.unusedSimpArgs false
set_option linter.unusedVariables false
set_option maxRecDepth 20000
namespace Go.Proofs.Ytmdlhnojpcnnbaa
open Go Go.X

namespace Cor
theorem At_sub (c : Cor) : ∀ (A B : List (Cor × List Nat)) (i : Nat) (d : Cor) (ks : List Nat), (flat c A.length)[i]? = some (d, ks) → At (A ++ flat c A.length ++ B) d (A.length + i) := by
  refine Cor.rec (motive_1 := fun c => ∀ (A B : List (Cor × List Nat)) (i : Nat) (d : Cor) (ks : List Nat), (flat c A.length)[i]? = some (d, ks) → At (A ++ flat c A.length ++ B) d (A.length + i))
    (motive_2 := fun l => ∀ (A B : List (Cor × List Nat)) (i : Nat) (d : Cor) (ks : List Nat), (flats l A.length)[i]? = some (d, ks) → At (A ++ flats l A.length ++ B) d (A.length + i)) (fun k s n l ih A B i d ks h => ?_) (fun A B i d ks h => by simp [flats] at h) (fun c l h1 h2 A B i d ks h => ?_) c
  · cases i with
    | zero =>
      have := At_flat (.mk k s n l) A B
      simp only [flat, List.getElem?_cons_zero, Option.some.injEq, Prod.mk.injEq] at h
      obtain ⟨rfl, -⟩ := h
      exact this
    | succ i =>
      simp only [flat, List.getElem?_cons_succ] at h
      have := ih (A ++ [(.mk k s n l, nums (A.length + 1) l)]) B i d ks (by simpa using h)
      simp only [flat]
      have e : A.length + (i + 1) = A.length + 1 + i := by omega
      rw [e]
      simpa [List.append_assoc] using this
  · simp only [flats, List.getElem?_append, flat_length] at h
    simp only [flats]
    split at h
    · have := h1 A (flats l (A.length + c.cnt) ++ B) i d ks h
      simpa [List.append_assoc] using this
    · have := h2 (A ++ flat c A.length) B (i - c.cnt) d ks (by simpa [flat_length] using h)
      have e : (A ++ flat c A.length).length + (i - c.cnt) = A.length + i := by simp [flat_length]; omega
      rw [e] at this
      simpa [List.append_assoc, flat_length] using this
theorem At_all {c d : Cor} {i : Nat} {ks : List Nat} (h : (flat c 0)[i]? = some (d, ks)) : At (flat c 0) d i := by
  have := At_sub c [] [] i d ks (by simpa using h)
  simpa using this
end Cor
structure Pk (P : List (Cor × List Nat)) : Prop where
  pos : 0 < P.length
  fmd : ∀ (i : Nat) d ks, P[i]? = some (d, ks) → d.fmd = true
  len : ∀ (i : Nat) d ks, P[i]? = some (d, ks) → ks.length = d.kidl.length
  kid : ∀ (i : Nat) d ks, P[i]? = some (d, ks) → ∀ x ∈ ks, i < x ∧ x < P.length
  cover : ∀ j, 0 < j → j < P.length → ∃ i d ks, P[i]? = some (d, ks) ∧ j ∈ ks ∧ i < j
  at' : ∀ (i : Nat) d ks, P[i]? = some (d, ks) → Cor.At P d i
theorem Pk.flat {c : Cor} (h : c.fmd = true) : Pk (Cor.flat c 0) :=
  ⟨by rw [Cor.flat_length]; exact Cor.cnt_pos c, fun i d ks hd => Cor.flat_all (p := fun c => c.fmd = true) (fun c hc x hx => by
      obtain ⟨k, s, n, l⟩ := c
      exact (Cor.kids_of hc).2 x hx) c 0 i d ks h hd, fun i d ks hd => Cor.flat_mem c 0 i d ks hd, fun i d ks hd x hx => by
      have := Cor.flat_kids c 0 i d ks hd x hx
      rw [Cor.flat_length]; omega, fun j h0 h1 => by
      rw [Cor.flat_length] at h1
      obtain ⟨i, d, ks, h, hm, hi⟩ := Cor.flat_cover c 0 j h0 (by omega)
      exact ⟨i, d, ks, h, hm, by omega⟩, fun i d ks hd => Cor.At_all hd⟩
theorem Mx_trans {M : Nat → Prop} {h h1 h2 : List HE} (a : Fr M h h1) (b : Fr (Mx M h h1) h1 h2) : Fr M h h2 := a.trans b fun i hi hm => by
  rcases hm with hm | hm
  · exact hm
  · omega
theorem Mx_sub {M : Nat → Prop} {h h1 h2 : List HE} (l1 : h.length ≤ h1.length) (l2 : h1.length ≤ h2.length) : ∀ i, Mx (Mx M h h1) h1 h2 i → Mx M h h2 i := fun i hi => by
  rcases hi with (hi | hi) | hi
  · exact .inl hi
  · exact .inr ⟨hi.1, by omega⟩
  · exact .inr ⟨by omega, hi.2⟩
theorem Tb.mx {M : Nat → Prop} {h h1 h2 : List HE} {T : Tab} (hb : ∀ i, M i → i < h.length) (l1 : h.length ≤ h1.length) (l2 : h1.length ≤ h2.length) (t : Tb (Mx (Mx M h h1) h1 h2) h2 T) : Tb (Mx M h h2) h2 T :=
  t.mono (Mx_sub l1 l2) fun i hi => by
    rcases hi with hi | hi
    · have := hb i hi; omega
    · exact hi.2
theorem Tb.mx0 {M : Nat → Prop} {h : List HE} {T : Tab} (t : Tb M h T) : Tb (Mx M h h) h T := t.mono (fun i hi => .inl hi) fun i hi => by
  rcases hi with hi | hi
  · exact t.b i hi
  · exact hi.2
def pathN (P : List (Cor × List Nat)) : List Int → Nat → Option Nat
  | [], i => some i
  | x :: t, i => match P[i]? with
    | some (_, ks) => if 0 ≤ x ∧ x < (ks.length : Int) then (match ks[x.toNat]? with | some j => pathN P t j | none => none) else none
    | none => none
theorem cast_toNat {n : Int} (h : 0 ≤ n) : n = ((n.toNat : Nat) : Int) := by omega
def pints (l : List Int) : List PV := l.map PV.int
theorem pints_get {l : List Int} {i : Nat} (h : i < l.length) : PV.num (List.getD (pints l) ((i : Int)).toNat PV.nil) = l[i] := by simp [pints, List.getD, h, PV.num]
theorem spec_Part : ∀ (path : List Int), path.length ≤ 1000 → Ult fun k => ∀ (Q : R → Prop) (M : Nat → Prop) (h : List HE) (T : Tab) (ret : Int → Bool → List HE → R), Tb M h T → Pk T.P →
    (∀ (n : Nat), pathN T.P path 0 = some n → n < T.P.length → Q (ret (n : Int) true h)) → (pathN T.P path 0 = none → Q (ret 0 false h)) → Q (G73 k (.rp T.it) (.list (pints path)) h ret) := fun path hpl =>
  Ult.succ ((Ult.ge (path.length + 2)).mono fun k hge Q M h T ret tb pk hQ1 hQ2 => by
    have ev := tb.v
    simp (config := { zeta := false }) only [G73, f73_N, f73_e]
    refine vupQ (body := f73_w1B k ret (.rp T.it) (.list (pints path)) h) Q (fun i (n : Nat) => ((n : Int), (i : Int)))
      (fun i n => n < T.P.length ∧ pathN T.P path 0 = pathN T.P (path.drop i) n) path.length ?_ ?_ k 0 0 ⟨pk.pos, by simp⟩ (by omega) (by omega)
    · rintro nx n ⟨hn, hp⟩
      simp (config := { zeta := false }) only [f73_w1B, f73_w1b0N, f73_w1b0]
      refine cF ?_ ?_
      · simp [PV.els, pints]
      refine hQ1 n ?_ hn
      rw [hp, List.drop_length]; rfl
    · rintro i hi nx n ⟨hn, hp⟩ hnx
      rw [drop_cons hi] at hp
      have hget := List.getElem?_eq_getElem hn
      generalize hck : T.P[n] = ck at hget
      obtain ⟨c, ks⟩ := ck
      obtain ⟨lp, kp, p1, p2, p3, p4, p5⟩ := tb.part hget
      simp only [pathN, hget] at hp
      simp (config := { zeta := false }) only [f73_w1B, f73_w1b0N, f73_w1b0]
      have ex : PV.num (List.getD (PV.els (PV.list (pints path))) ((i : Int)).toNat PV.nil) = path[i] := pints_get hi
      simp (config := { zeta := false }) only [ex]
      refine cT ?_ (cT ?_ ?_)
      · simp [PV.els, pints]; omega
      · simp [PV.els, pints]; omega
      have hkn : PV.rN kp = ks.length := by
        rcases p5 with ⟨rfl, rfl⟩ | ⟨i, rfl, _⟩ <;> rfl
      have e2 : PV.rI (PV.fld (hvarOf h (PV.rI (PV.rp T.it))) 0) = T.ip := by simp [hvarOf_of ev, PV.rI, PV.fld, PV.flds]
      have e3 : PV.fld (List.getD (hrowOf h (PV.rI (PV.fld (hvarOf h (PV.rI (PV.rp T.it))) 0))) ((n : Int)).toNat PV.nil) 1 = kp := by rw [e2]; simp [hrowOf_of p1, p4, PV.fld, PV.flds]
      by_cases h0 : path[i] < 0
      · refine cF (by rw [decide_eq_true h0]; rfl) ?_
        refine hQ2 ?_
        rw [hp, if_neg (by omega)]
      · have hrb : (true && decide ((0 : Int) ≤ (n : Int)) && decide ((n : Int) < ((PV.rN (PV.fld (hvarOf h (PV.rI (PV.rp T.it))) 0) : Nat) : Int))) = true := by
          simp [hvarOf_of ev, PV.rI, PV.fld, PV.flds, PV.rN]; omega
        refine cT (by rw [decide_eq_false h0]; rfl) (cT rfl (cT (hokV_of ev) (cT hrb (cT (by rw [e2]; exact hokR_of p1 p3) ?_))))
        extract_lets +onlyGivenNames n9
        have e9 : n9 = (ks.length : Int) := by simp only [n9]; rw [e3, hkn]
        clear_value n9
        subst e9
        by_cases h1 : (ks.length : Int) ≤ path[i]
        · refine cT (decide_eq_true h1) ?_
          refine hQ2 ?_
          rw [hp, if_neg (by omega)]
        · have hkne : ks ≠ [] := fun e => by subst e; simp at h1; omega
          obtain ⟨ik, rfl, pk'⟩ := p5.row hkne
          have hx : path[i].toNat < ks.length := by omega
          have hxg := List.getElem?_eq_getElem hx
          have ei : (path[i]) = ((path[i].toNat : Nat) : Int) := by omega
          refine cF (decide_eq_false h1) (cT rfl (cT (hokV_of ev) (cT hrb (cT (by rw [e2]; exact hokR_of p1 p3) (cT ?_ (cT ?_ ?_))))))
          · rw [e3]
            show (true && decide ((0 : Int) ≤ path[i]) && decide (path[i] < (ks.length : Int))) = true
            simp only [Bool.true_and, Bool.and_eq_true, decide_eq_true_eq]; omega
          · rw [e3, ei]; exact hokR_of pk' (by rw [ints_len]; exact hx)
          extract_lets +onlyGivenNames n10
          have e10 : n10 = ((ks[path[i].toNat] : Nat) : Int) := by
            simp only [n10]
            rw [e3]
            simp [PV.rI, hrowOf_of pk', ints, hx, PV.num]
          clear_value n10
          subst e10
          rw [wrap_succ (by omega)]
          refine hnx _ ⟨(pk.kid n c ks hget _ (List.getElem_mem hx)).2, ?_⟩
          rw [hp, if_pos (by omega), hxg])
end Go.Proofs.Ytmdlhnojpcnnbaa
