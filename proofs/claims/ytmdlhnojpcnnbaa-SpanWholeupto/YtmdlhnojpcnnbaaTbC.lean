/- A table is made: the printed functions. -/
import Derived.Test.YtmdlhnojpcnnbaaTbA
set_option linter.unusedSimpArgs false
set_option linter.unusedVariables false
set_option maxRecDepth 20000
namespace Go.Proofs.Ytmdlhnojpcnnbaa
open Go Go.X

namespace Cor
theorem nums_take : ∀ (l : List Cor) (b i : Nat) (h : i < l.length), (nums b l).take (i + 1) = (nums b l).take i ++ [b + cnts (l.take i)]
  | c :: l, b, 0, h => by simp [nums, cnts]
  | c :: l, b, i + 1, h => by
    simp only [nums, List.take_succ_cons, List.cons_append, cnts]
    rw [nums_take l (b + c.cnt) i (by simpa using h)]
    simp [Nat.add_assoc]
theorem flats_take : ∀ (l : List Cor) (b i : Nat) (h : i < l.length), flats (l.take (i + 1)) b = flats (l.take i) b ++ flat l[i] (b + cnts (l.take i))
  | c :: l, b, 0, h => by simp [flats, cnts]
  | c :: l, b, i + 1, h => by
    simp only [List.take_succ_cons, flats, cnts, List.getElem_cons_succ]
    rw [flats_take l (b + c.cnt) i (by simpa using h)]
    simp [Nat.add_assoc]
theorem cnts_take_lt : ∀ (l : List Cor) (i : Nat) (h : i < l.length), cnts (l.take i) + cnt l[i] ≤ cnts l
  | c :: l, 0, h => by simp [cnts]
  | c :: l, i + 1, h => by
    have := cnts_take_lt l i (by simpa using h)
    simp only [List.take_succ_cons, cnts, List.getElem_cons_succ]
    omega
end Cor
theorem Bd.parts {h0 h : List HE} {it : Nat} {P : List (Cor × List Nat)} {s : List Nat} (a : Bd h0 h it P s) {n : Nat} {c : Cor} {ks : List Nat} (hP : P[n]? = some (c, ks)) :
    ∃ ip l kp, h[it]? = some (.var tTable (.agg [.rs ip P.length, .list (ints s), .list []])) ∧ h[ip]? = some (.row tPart l) ∧ l.length = P.length ∧ n < l.length ∧ l[n]? = some (.agg [Cor.pv c, kp]) := by
  obtain ⟨len, old, b, sl, l, v, pl, hsl⟩ := a
  obtain ⟨kp, h1, h2⟩ := pl.k _ _ _ hP
  rcases hsl with ⟨rfl, rfl⟩ | ⟨ip, rfl, _, hip⟩
  · simp at hP
  · exact ⟨ip, l, kp, v, hip, pl.n, (List.getElem?_eq_some_iff.1 h1).1, h1⟩
theorem spec_add (c : Cor) : Ult (AddS c) := by
  refine Cor.ind (p := fun c => Ult (AddS c)) (fun kd st nn l ih => ?_) c
  refine Ult.succ (((Ult.forall_mem ih).and (Ult.ge (l.length + 2))).mono fun k ⟨hk, hge⟩ Q h0 h it P s ret bd hcnt hQ => ?_)
  simp only [Cor.cnt] at hcnt
  have hll := Cor.cnts_ge l
  have bd' := bd
  obtain ⟨len, old, b, sl, lp, hv, pl, hsl⟩ := bd
  obtain ⟨q1, q2, q3, q4⟩ := bd'.part (.mk kd st nn l) hv
  have es : PV.fld (hvarOf h (PV.rI (PV.rp it))) 0 = sl := by simp [hvarOf_of hv, PV.rI, PV.fld, PV.flds]
  simp (config := { zeta := false }) only [G72, f72_N]
  unfold f72_e
  refine cT rfl (cT (hokV_of hv) (cT rfl (cT (hokV_of hv) ?_)))
  simp (config := { zeta := false }) only [es]
  extract_lets +onlyGivenNames h4
  have e4 : h4 = h ++ [HE.row tPart [.agg [Cor.pv (.mk kd st nn l), .list []]]] := rfl
  clear_value h4
  rw [← e4] at q1 q3 q4
  have l4 : h4.length = h.length + 1 := by rw [e4]; simp
  have hk4 : hels h4 (.rs h.length 1) = [.agg [Cor.pv (.mk kd st nn l), .list []]] := by simp only [hels]; exact hrowOf_of (by rw [e4]; exact push_eq)
  refine cT ?_ ?_
  · rw [show hokS h4 122 sl = true from q1, show hokS h4 122 (.rs h.length 1) = true from hokS_of (by rw [e4]; exact push_eq) rfl, q2, roomyP (by omega) (by omega)]
    simp
  extract_lets +onlyGivenNames h5
  have e5 : h5 = hgone h4 sl ++ [HE.row tPart (hels h4 sl ++ [.agg [Cor.pv (.mk kd st nn l), .list []]])] := by simp only [h5, hk4]
  clear_value h5
  rw [← e5] at q3 q4
  refine cT rfl (cT (hokV_of q3) ?_)
  extract_lets +onlyGivenNames h6
  have e6 : h6 = h5.set it (.var tTable (.agg [.rs (h.length + 1) (P.length + 1), .list (ints s), .list []])) := by
    simp only [h6, PV.rI, hvarOf_of q3, PV.flds, List.set_cons_zero, l4, q2]
  clear_value h6
  rw [← e6] at q4
  have hPl : (P.length : Int) = ((PV.rN (PV.fld (hvarOf h (PV.rI (PV.rp it))) 0) : Nat) : Int) := by rw [es, q2]
  refine vupQ (body := f72_w1B k (G72 k) ret (.rp it) (Cor.pv (.mk kd st nn l)) h) Q (fun i (H : List HE) => ((i : Int), H))
    (fun i H => Bd h0 H it (P ++ [(.mk kd st nn l, (Cor.nums (P.length + 1) l).take i)] ++ Cor.flats (l.take i) (P.length + 1)) s) l.length ?_ ?_ k 0 h6 (by simpa [Cor.flats] using q4) (by omega) (by omega)
  · intro nx H hH
    simp (config := { zeta := false }) only [f72_w1B, f72_w1b0N, f72_w1b0]
    refine cF ?_ ?_
    · simp [Cor.fld3, PV.els]
    rw [← hPl]
    refine hQ H ?_
    have h1 : (Cor.nums (P.length + 1) l).take l.length = Cor.nums (P.length + 1) l := List.take_of_length_le (by rw [Cor.nums_length]; omega)
    rw [List.take_length, h1] at hH
    simpa [Cor.flat] using hH
  · intro i hi nx H hH hnx
    have hct := Cor.cnts_take_lt l i hi
    have hln : (P ++ [(Cor.mk kd st nn l, (Cor.nums (P.length + 1) l).take i)] ++ Cor.flats (l.take i) (P.length + 1)).length = P.length + 1 + Cor.cnts (l.take i) := by simp [Cor.flats_length]; omega
    simp (config := { zeta := false }) only [f72_w1B, f72_w1b0N, f72_w1b0]
    refine cT ?_ (cT ?_ ?_)
    · simp [Cor.fld3, PV.els]; omega
    · simp [Cor.fld3, PV.els]; omega
    rw [Cor.fld3]
    simp (config := { zeta := false }) only [PV.els]
    rw [getD_map Cor.pv hi]
    refine hk _ (List.getElem_mem hi) Q h0 H it _ s _ hH (by rw [hln]; omega) (fun H2 bd2 => ?_)
    generalize hP2 : P ++ [(Cor.mk kd st nn l, (Cor.nums (P.length + 1) l).take i)] ++ Cor.flats (l.take i) (P.length + 1) ++ Cor.flat l[i] (P ++ [(Cor.mk kd st nn l, (Cor.nums (P.length + 1) l).take i)] ++ Cor.flats (l.take i) (P.length + 1)).length = P2 at bd2
    have hlen2 : P2.length ≤ 4000 := by
      rw [← hP2, List.length_append, hln, Cor.flat_length]; omega
    have hPn : P2[P.length]? = some (Cor.mk kd st nn l, (Cor.nums (P.length + 1) l).take i) := by rw [← hP2]; simp
    obtain ⟨ip, lp2, kp, r1, r2, r3, r4, r5⟩ := bd2.parts hPn
    have hlt2 : P.length < P2.length := by rw [← r3]; exact r4
    obtain ⟨z1, z2, z3, z4, z5⟩ := bd2.kid (x := (P ++ [(Cor.mk kd st nn l, (Cor.nums (P.length + 1) l).take i)] ++ Cor.flats (l.take i) (P.length + 1)).length) hPn r1 r2 r5
    generalize hx : (P ++ [(Cor.mk kd st nn l, (Cor.nums (P.length + 1) l).take i)] ++ Cor.flats (l.take i) (P.length + 1)).length = x at *
    rw [← hPl]
    have hrb : (true && decide ((0 : Int) ≤ (P.length : Int)) && decide ((P.length : Int) < ((PV.rN (PV.fld (hvarOf H2 (PV.rI (PV.rp it))) 0) : Nat) : Int))) = true := by
      simp [hvarOf_of r1, PV.rI, PV.fld, PV.flds, PV.rN]; omega
    have hip : PV.rI (PV.fld (hvarOf H2 (PV.rI (PV.rp it))) 0) = ip := by simp [hvarOf_of r1, PV.rI, PV.fld, PV.flds]
    refine cT rfl (cT (hokV_of r1) (cT rfl (cT (hokV_of r1) (cT hrb ?_))))
    simp (config := { zeta := false }) only [hip]
    refine cT (hokR_of r2 r4) ?_
    extract_lets +onlyGivenNames p17 h18
    have e17 : p17 = kp := by simp only [p17, hrowOf_of r2, List.getD, Int.toNat_natCast, r5, Option.getD_some, PV.fld, PV.flds, List.getElem?_cons_succ, List.getElem?_cons_zero]
    clear_value p17
    subst e17
    have e18 : h18 = H2 ++ [HE.row tInt [.int (x : Int)]] := rfl
    clear_value h18
    rw [← e18] at z1 z4 z5
    have l18 : h18.length = H2.length + 1 := by rw [e18]; simp
    have r1' : h18[it]? = some (.var tTable (.agg [.rs ip P2.length, .list (ints s), .list []])) := by rw [e18]; exact push_some r1
    have hk18 : hels h18 (.rs H2.length 1) = [.int (x : Int)] := by simp only [hels]; exact hrowOf_of (by rw [e18]; exact push_eq)
    have hntk : ((Cor.nums (P.length + 1) l).take i).length = i := by simp [Cor.nums_length]; omega
    have bq : ∀ H : List HE, H[it]? = some (.var tTable (.agg [.rs ip P2.length, .list (ints s), .list []])) → PV.beq (PV.fld (hvarOf H (PV.rI (PV.rp it))) 0) (PV.fld (hvarOf H2 (PV.rI (PV.rp it))) 0) = true := fun H hH => by
      rw [show PV.rI (PV.rp it) = it from rfl, hvarOf_of hH, hvarOf_of r1]
      simp [PV.fld, PV.flds, PV.beq]
    refine cT (hokV_of r1') (cT (bq _ r1') (cT ?_ ?_))
    · rw [show hokS h18 3 p17 = true from z1, show hokS h18 3 (.rs H2.length 1) = true from hokS_of (by rw [e18]; exact push_eq) rfl, z2, roomyP (by omega) (by omega)]
      simp
    extract_lets +onlyGivenNames h19
    have e19 : h19 = hgone h18 p17 ++ [HE.row tInt (hels h18 p17 ++ [.int (x : Int)])] := by simp only [h19, hk18]
    clear_value h19
    rw [← e19] at z4 z5
    have r1'' : h19[it]? = some (.var tTable (.agg [.rs ip P2.length, .list (ints s), .list []])) := by
      rw [e19]
      refine push_some ?_
      rw [hgone_ne fun j m e ej => z3 (by rw [e]; rfl) (by rw [e]; exact ej)]
      exact r1'
    refine cT (hokV_of r1'') (cT (bq _ r1'') (cT hrb (cT (hokR_of z4 r4) ?_)))
    extract_lets +onlyGivenNames h20
    have e20 : h20 = h19.set ip (.row tPart (lp2.set P.length (.agg [Cor.pv (.mk kd st nn l), .rs (H2.length + 1) (((Cor.nums (P.length + 1) l).take i).length + 1)]))) := by
      simp only [h20, hrowOf_of z4, Int.toNat_natCast, List.getD, r5, Option.getD_some, PV.flds, List.set_cons_succ, List.set_cons_zero, l18, z2]
    clear_value h20
    rw [← e20] at z5
    rw [wrap_succ (by omega)]
    refine hnx h20 ?_
    have hfin : P2.set P.length (Cor.mk kd st nn l, (Cor.nums (P.length + 1) l).take i ++ [x]) = P ++ [(Cor.mk kd st nn l, (Cor.nums (P.length + 1) l).take (i + 1))] ++ Cor.flats (l.take (i + 1)) (P.length + 1) := by
      have hx2 : x = P.length + 1 + Cor.cnts (l.take i) := by omega
      rw [← hP2, Cor.nums_take l _ i hi, Cor.flats_take l _ i hi, hx2]
      simp [List.append_assoc]
    rw [hfin] at z5
    exact z5
theorem spec_New (c : Cor) (s : List Nat) (hc : c.cnt ≤ 2000) (hs : s.length ≤ 256) (hb : ∀ x ∈ s, x < 256) : Ult fun k => ∀ (Q : R → Prop) (h : List HE) (ret : PV → List HE → R),
    (∀ h' T, T.P = Cor.flat c 0 → T.s = s → Tok T → h.length ≤ h'.length → (∀ i, i < h.length → h'[i]? = h[i]?) → Tb (fun i => h.length ≤ i ∧ i < h'.length) h' T → h.length ≤ T.it → Q (ret (.rp T.it) h')) → Q (G50 k c.pv (.list (ints s)) h ret) := by
  refine Ult.succ ((spec_add c).mono fun k hadd Q h ret hQ => ?_)
  simp (config := { zeta := false }) only [G50, f50_N]
  unfold f50_e
  extract_lets +onlyGivenNames h4
  have e4 : h4[h.length]? = some (.var tTable (.agg [.list [], .list (ints s), .list []])) := push_eq
  have b4 : Bd h h4 h.length [] s := ⟨by simp [h4], fun i hi => push_lt hi, Nat.le_refl _, .list [], [], e4, ⟨rfl, fun n c ks h => by simp at h, fun n n' c c' i m m' h => by simp at h⟩, .inl ⟨rfl, rfl⟩⟩
  clear_value h4
  refine hadd Q h h4 h.length [] s _ b4 (by simp; omega) (fun h6 b6 => ?_)
  simp only [List.nil_append, List.length_nil] at b6
  obtain ⟨len, old, hb6, sl, l, v, pl, hsl⟩ := b6
  have hP0 : Cor.flat c 0 ≠ [] := fun e => by have := Cor.flat_length c 0; rw [e] at this; have := Cor.cnt_pos c; simp at *; omega
  have hPl := Cor.flat_length c 0
  rcases hsl with ⟨_, e⟩ | ⟨ip, rfl, hip, rip⟩
  · exact absurd e hP0
  have hr : ∀ h', h'[h.length]? = some (.var tTable (.agg [.rs ip (Cor.flat c 0).length, .list (ints s), .list []])) → PV.rN (PV.fld (hvarOf h' h.length) 0) = (Cor.flat c 0).length := fun h' e => by simp [hvarOf_of e, PV.fld, PV.flds, PV.rN]
  refine cT (hokV_of v) ?_
  simp (config := { zeta := false }) only [hr _ v, Int.toNat_natCast]
  refine cT ?_ ?_
  · rw [roomyP (by omega) (by omega)]; simp
  extract_lets +onlyGivenNames h7
  have e7 : h7 = h6 ++ [HE.row tRows (List.replicate (Cor.flat c 0).length (.list []))] := rfl
  clear_value h7
  have v7 : h7[h.length]? = some (.var tTable (.agg [.rs ip (Cor.flat c 0).length, .list (ints s), .list []])) := by rw [e7]; exact push_some v
  refine cT (hokV_of v7) ?_
  extract_lets +onlyGivenNames h8
  have e8 : h8 = h7.set h.length (.var tTable (.agg [.rs ip (Cor.flat c 0).length, .list (ints s), .rs h6.length (Cor.flat c 0).length])) := by
    simp only [h8, hvarOf_of v7, PV.flds, List.set_cons_succ, List.set_cons_zero]
  clear_value h8
  have hl6 := lt_of_some v
  have hl7 : h7.length = h6.length + 1 := by rw [e7]; simp
  have hl8 : h8.length = h6.length + 1 := by rw [e8, List.length_set, hl7]
  have key : ∀ (i : Nat) x, h6[i]? = some x → i ≠ h.length → h8[i]? = some x := fun i x hx hne => by
    rw [e8, set_ne (fun e => hne e.symm), e7]; exact push_some hx
  refine hQ h8 ⟨h.length, ip, h6.length, Cor.flat c 0, s⟩ rfl rfl ⟨hs, hb, by show (Cor.flat c 0).length ≤ 4000; omega⟩ (by omega) (fun i hi => ?_) ?_ (Nat.le_refl _)
  · rw [e8, set_ne (by omega), e7, push_lt (by omega)]; exact old i hi
  · refine ⟨fun i hi => hi.2, by rw [e8]; exact set_eq (by omega), ⟨l, key _ _ rip (fun (e : ip = h.length) => by rw [e, v] at rip; cases rip), pl.n, fun n c' ks hn => ?_⟩, ⟨len, by show h6.length < h8.length; omega⟩, List.replicate (Cor.flat c 0).length (.list []), ?_, List.length_replicate, fun n x c' ks hx hn => ?_, fun n n' j m m' h1 h2 => ?_⟩
    · obtain ⟨kp, h1, h2⟩ := pl.k n c' ks hn
      refine ⟨kp, h1, ?_⟩
      rcases h2 with h2 | ⟨i, h2, _, h3⟩
      · exact .inl h2
      · exact .inr ⟨i, h2, key _ _ h3 (fun e => by rw [e, v] at h3; cases h3)⟩
    · rw [e8, set_ne (by show h.length ≠ h6.length; omega), e7]; exact push_eq
    · rw [List.getElem?_replicate] at hx
      split at hx
      · injection hx with hx; exact .inl hx.symm
      · cases hx
    · rw [List.getElem?_replicate] at h1
      split at h1
      · injection h1 with h1; cases h1
      · cases h1

def SaysS (c : Cor) (k : Nat) : Prop := ∀ (Q : R → Prop) (M : Nat → Prop) (h : List HE) (T : Tab) (n f to : Nat) (ret : Bool → List HE → R), Tb M h T → Tok T → Cor.At T.P c n → f ≤ T.s.length → to < 320 →
  (∀ h', Fr M h h' → Tb (Mx M h h') h' T → Q (ret ((c.ends T.s f).testBit to) h')) → Q (G52 k (.rp T.it) (n : Int) (f : Int) (to : Int) h ret)
theorem spec_Says (c : Cor) (hf : c.fmd = true) : Ult (SaysS c) :=
  Ult.succ (((spec_row c hf).and spec_has).mono fun k ⟨h1, h2⟩ Q M h T n f to ret tb tok hat hf ht hQ => by
    simp only [G52, f52_N, f52_e]
    refine h1 Q M h T n f _ tb tok hat hf (fun h' q hfr htb hpr hmx hv => ?_)
    show Q (G75 k (.rp q) (to : Int) h' _)
    rw [h2 _ _ _ _ _ hv ht]
    exact hQ h' hfr htb)
end Go.Proofs.Ytmdlhnojpcnnbaa
