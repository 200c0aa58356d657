/- Cores: how many words; well formed ones; the printed functions of package core that tell. -/
import Derived.Test.YtmdlhnojpcnnbaaCor
import Derived.Test.YtmdlhnojpcnnbaaGen
set_option linter.unusedSimpArgs false
set_option linter.unusedVariables false
namespace Go.Proofs.Ytmdlhnojpcnnbaa
open Go Go.X

namespace Cor
mutual
def big : Cor → Int → Bool
  | mk _ _ _ l, n => decide (n < 1) || decide (3 < (l.length : Int)) || bigs l (n - 1)
def bigs : List Cor → Int → Bool
  | [], _ => false
  | v :: l, n => big v n || bigs l n
end
mutual
def cnt : Cor → Nat
  | mk _ _ _ l => 1 + cnts l
def cnts : List Cor → Nat
  | [] => 0
  | v :: l => cnt v + cnts l
end
theorem cnt_pos (c : Cor) : 1 ≤ c.cnt := by cases c; simp only [cnt]; omega
theorem cnts_ge : ∀ l : List Cor, l.length ≤ cnts l
  | [] => by simp [cnts]
  | v :: l => by have := cnts_ge l; have := cnt_pos v; simp only [cnts, List.length_cons]; omega
theorem cnt_mem {x : Cor} : ∀ {l : List Cor}, x ∈ l → x.cnt ≤ cnts l
  | [], h => by cases h
  | a :: l, h => by
    simp only [cnts]
    rcases List.mem_cons.1 h with rfl | h
    · omega
    · have := cnt_mem h; omega
def partsI (k : Int) : Int := if k = 0 then 0 else if k = 1 then 0 else if k = 2 then 0 else if k = 3 then 2 else if k = 4 then 2 else if k = 5 then 1 else if k = 6 then 1 else if k = 7 then 1 else -1
def nodeOk (k : Int) (s : Nat) (n : Int) (len : Nat) : Bool :=
  decide ((len : Int) = partsI k) && ((decide (k = 2) || decide (s = 0)) && (if k = 6 then decide (1 ≤ n) && decide (n ≤ 32) else decide (n = 0)))
mutual
def gd : Cor → Int → Bool
  | mk k s n l, d => decide (1 ≤ d) && (nodeOk k s n l.length && gds l (d - 1))
def gds : List Cor → Int → Bool
  | [], _ => true
  | x :: t, d => gd x d && gds t d
end
theorem gds_all : ∀ (l : List Cor) (d : Int), gds l d = l.all fun x => gd x d
  | [], _ => rfl
  | x :: t, d => by simp only [gds, List.all_cons, gds_all t d]
mutual
def fmd : Cor → Bool
  | mk k s n l => nodeOk k s n l.length && fmds l
def fmds : List Cor → Bool
  | [] => true
  | x :: t => fmd x && fmds t
end
theorem fmds_all : ∀ (l : List Cor), fmds l = l.all fmd
  | [] => rfl
  | x :: t => by simp only [fmds, List.all_cons, fmds_all t]
theorem gd_eq (c : Cor) : ∀ d : Int, (c.cnt : Int) ≤ d → gd c d = fmd c := by
  refine ind (p := fun c => ∀ d : Int, (c.cnt : Int) ≤ d → gd c d = fmd c) (fun k s n l ih d hd => ?_) c
  simp only [cnt] at hd
  simp only [gd, fmd, decide_eq_true (show 1 ≤ d by omega), Bool.true_and, gds_all, fmds_all]
  congr 1
  have h : ∀ x ∈ l, gd x (d - 1) = fmd x := fun x hx => ih x hx _ (by have := cnt_mem hx; omega)
  clear ih hd
  induction l with
  | nil => rfl
  | cons x t ih => simp only [List.all_cons, h x (by simp), ih fun y hy => h y (by simp [hy])]
def good (c : Cor) : Bool := decide (c.cnt ≤ 2000) && fmd c
end Cor

theorem spec_big (v : Cor) : ∀ n : Int, n ≤ 1000 → Ult fun k => ∀ ret, G22 k v.pv n ret = ret (v.big n) := by
  refine Cor.ind (p := fun v => ∀ n : Int, n ≤ 1000 → Ult fun k => ∀ ret, G22 k v.pv n ret = ret (v.big n)) (fun kd s m l ih n hn => ?_) v
  have hall : Ult fun k => ∀ x ∈ l, ∀ ret, G22 k x.pv (n - 1) ret = ret (x.big (n - 1)) := Ult.forall_mem fun x hx => ih x hx (n - 1) (by omega)
  refine Ult.succ ((hall.and (Ult.ge 32)).mono fun k ⟨h1, h2⟩ ret => ?_)
  simp only [G22, f22_N, f22_e, Cor.fld3, PV.els, List.length_map, Cor.kidl, Cor.big]
  by_cases c1 : n < 1
  · simp [c1]
  · by_cases c2 : 3 < (l.length : Int)
    · simp [c1, c2]
    · rw [decide_eq_false c1, decide_eq_false c2]
      simp only [beq_self_eq_true, cond_true, cond_false, f22_w1N, Bool.false_or]
      have := loopR_up (body := f22_w1B k (G22 k) ret (Cor.mk kd s m l).pv n) (res := fun i => ret (Cor.bigs (l.drop i) (n - 1))) l.length ?_ ?_ k 0 (by omega) (by omega)
      · simpa using this
      · intro nx
        simp [f22_w1B, f22_w1b0N, f22_w1b0, Cor.fld3, PV.els, Cor.kidl, Cor.bigs]
      · intro i hi nx hnx
        simp only [f22_w1B, f22_w1b0N, f22_w1b0, Cor.fld3, PV.els, List.length_map, Cor.kidl]
        rw [decide_eq_true (show (i : Int) < (l.length : Int) by omega), decide_eq_true (show (0 : Int) ≤ (i : Int) by omega), getD_map Cor.pv hi, wrap_i64 (by omega) (by omega)]
        simp only [Bool.and_self, cond_true]
        rw [h1 _ (List.getElem_mem hi), drop_cons hi, wrap_succ (by omega), hnx]
        simp only [Cor.bigs]
        cases l[i].big (n - 1) <;> simp

theorem min_if (n : Nat) : (if (100000 : Int) < (n : Int) then (100000 : Int) else (n : Int)) = ((min n 100000 : Nat) : Int) := by split <;> omega
theorem spec_csize (v : Cor) : v.Sm → Ult fun k => ∀ ret, G23 k v.pv ret = ret ((min v.cnt 100000 : Nat) : Int) := by
  refine Cor.ind (p := fun v => v.Sm → Ult fun k => ∀ ret, G23 k v.pv ret = ret ((min v.cnt 100000 : Nat) : Int)) (fun kd s m l ih hsm => ?_) v
  have hall : Ult fun k => ∀ x ∈ l, ∀ ret, G23 k x.pv ret = ret ((min x.cnt 100000 : Nat) : Int) := Ult.forall_mem fun x hx => ih x hx (Cor.Sm.kid hsm hx)
  refine Ult.succ ((hall.and (Ult.ge (l.length + 2))).mono fun k ⟨h1, h2⟩ ret => ?_)
  have hlen : l.length ≤ 274877906944 := hsm.length
  simp only [G23, f23_N, f23_e, f23_w1N]
  have := vup (body := f23_w1B k (G23 k) ret (Cor.mk kd s m l).pv) (fun (i : Nat) (a : Nat) => ((a : Int), (i : Int))) (fun i a => a ≤ 300000) (res := fun i a => ret ((min (a + Cor.cnts (l.drop i)) 100000 : Nat) : Int)) l.length ?_ ?_ k 0 1 (by omega) (by omega) (by omega)
  · simpa [Cor.cnt] using this
  · intro nx a ha
    simp only [f23_w1B, f23_w1b0N, f23_w1b0, Cor.fld3, PV.els, Cor.kidl, List.length_map, decide_eq_false (show ¬ (l.length : Int) < (l.length : Int) by omega), cond_false, List.drop_length, Cor.cnts, Nat.add_zero, min_if]
  · intro i hi nx a ha hnx
    simp only [f23_w1B, f23_w1b0N, f23_w1b0, Cor.fld3, PV.els, Cor.kidl, List.length_map, decide_eq_true (show (i : Int) < (l.length : Int) by omega), decide_eq_true (show (0 : Int) ≤ (i : Int) by omega), Bool.and_self, cond_true, getD_map Cor.pv hi, wrap_succ (show i < 1099511627777 by omega), min_if]
    rw [drop_cons hi]
    simp only [Cor.cnts]
    by_cases hc : 100000 ≤ a
    · rw [decide_eq_true (by omega), cond_true]
      congr 1; omega
    · rw [decide_eq_false (by omega), cond_false, h1 _ (List.getElem_mem hi), wrap_i64 (by omega) (by omega)]
      have := hnx (a + min l[i].cnt 100000) (by omega)
      rw [show ((a : Int) + ((min l[i].cnt 100000 : Nat) : Int)) = ((a + min l[i].cnt 100000 : Nat) : Int) by omega]
      refine this.trans ?_
      congr 1; omega

theorem spec_ckids : Ult fun k => ∀ n ret, G86 k n ret = ret (Cor.partsI n) :=
  Ult.succ (Ult.of fun k n ret => by
    simp only [G86, f86_N, f86_e, Cor.partsI]
    by_cases h0 : n = 0
    · subst h0; rfl
    by_cases h1 : n = 1
    · subst h1; rfl
    by_cases h2 : n = 2
    · subst h2; rfl
    by_cases h3 : n = 3
    · subst h3; rfl
    by_cases h4 : n = 4
    · subst h4; rfl
    by_cases h5 : n = 5
    · subst h5; rfl
    by_cases h6 : n = 6
    · subst h6; rfl
    by_cases h7 : n = 7
    · subst h7; rfl
    simp only [decide_eq_false h0, decide_eq_false h1, decide_eq_false h2, decide_eq_false h3, decide_eq_false h4, decide_eq_false h5, decide_eq_false h6, decide_eq_false h7, cond_false, if_neg h0, if_neg h1, if_neg h2, if_neg h3, if_neg h4, if_neg h5, if_neg h6, if_neg h7])

theorem not_any {α : Type} (p : α → Bool) (l : List α) : (!(l.any fun x => !p x)) = l.all p := by
  induction l with
  | nil => rfl
  | cons x t ih => simp only [List.any_cons, List.all_cons, Bool.not_or, Bool.not_not, ih]

theorem spec_cgood (v : Cor) : v.Ok → v.Sm → ∀ d : Int, d ≤ 8000 → Ult fun k => ∀ ret, G62 k v.pv d ret = ret (v.gd d) := by
  refine Cor.ind (p := fun v => v.Ok → v.Sm → ∀ d : Int, d ≤ 8000 → Ult fun k => ∀ ret, G62 k v.pv d ret = ret (v.gd d)) (fun kd s m l ih hok hsm d hd => ?_) v
  have hlen : l.length ≤ 274877906944 := hsm.length
  have hs : s < 2 ^ 256 := hok.2.1
  by_cases h1 : d < 1
  · refine Ult.succ (Ult.of fun k ret => ?_)
    simp only [G62, f62_N, f62_e, decide_eq_true h1, Cor.gd, decide_eq_false (show ¬ 1 ≤ d by omega), Bool.false_and]
    rfl
  have a0 : Ult fun k => ∀ x ∈ l, ∀ ret, G62 k x.pv (d - 1) ret = ret (x.gd (d - 1)) := Ult.forall_mem fun x hx => ih x hx (Cor.Ok.kid hok hx) (Cor.Sm.kid hsm hx) _ (by omega)
  have a1 : Ult fun k => ∀ x ∈ l, ∀ ret, G88 k x.pv d ret = ret (!x.gd (d - 1)) d := Ult.succ (a0.mono fun k h x hx ret => by
    simp only [G88, f88_N, f88_e, wrap_i64 (show -9223372036854775808 ≤ d - 1 by omega) (show d - 1 < 9223372036854775808 by omega), h x hx])
  have a2 : Ult fun k => ∀ ret, G102 k (.list (l.map Cor.pv)) d ret = ret (fi (fun x => !Cor.gd x (d - 1)) 0 l) d := Ult.succ ((a1.and (Ult.ge (l.length + 1))).mono fun k ⟨h, h2⟩ ret => by
    simp only [G102, f102_N, f102_e, f102_w1N]
    exact idx_loop Cor.pv l (fun x => !Cor.gd x (d - 1)) d (G88 k) ret _ (fun nx n g => by
      simp only [f102_w1B, f102_w1b0N, f102_w1b0, PV.els]; rfl) h (by omega) k (by omega))
  have a3 : Ult fun k => ∀ ret, G87 k (.list (l.map Cor.pv)) d ret = ret (l.any fun x => !Cor.gd x (d - 1)) d := Ult.succ (a2.mono fun k h ret => by
    simp only [G87, f87_N, f87_e, h, fi_any])
  refine Ult.succ ((a3.and spec_ckids).mono fun k ⟨h, h2⟩ ret => ?_)
  simp only [G62, f62_N, f62_e, decide_eq_false h1, Cor.gd, decide_eq_true (show 1 ≤ d by omega), Bool.true_and, Cor.fld0, Cor.fld1, Cor.fld2, Cor.fld3, PV.num, PV.els, h, h2, Cor.kidl, Cor.kind, Cor.set, Cor.num, List.length_map, beq_self_eq_true, cond_true, Cor.nodeOk, Cor.gds_all, not_any, bs_zero, bs_beq hs (show 0 < 2 ^ 256 by omega)]
  generalize (l.all fun x => Cor.gd x (d - 1)) = r
  by_cases e0 : (l.length : Int) = Cor.partsI kd
  · simp only [decide_eq_true e0, Bool.not_true, beq_self_eq_true, cond_true, Bool.true_and]
    by_cases e2 : kd = 2
    · subst e2
      simp only [decide_true, Bool.not_true, Bool.false_beq, cond_false, show decide ((2 : Int) = 6) = false from rfl, Bool.not_false, beq_self_eq_true, cond_true, show ¬ (2 : Int) = 6 by decide, if_false, Bool.true_or, Bool.true_and]
      by_cases en : m = 0
      · simp [en]
      · simp [en]
    · simp only [decide_eq_false e2, Bool.not_false, beq_self_eq_true, cond_true, Bool.false_or]
      by_cases es : s = 0
      · simp only [decide_eq_true es, Bool.not_true, cond_false, Bool.true_and]
        by_cases e6 : kd = 6
        · subst e6
          simp only [decide_true, Bool.not_true, Bool.false_beq, cond_false, beq_self_eq_true, cond_true, if_true]
          by_cases en : m < 1
          · simp [en, show ¬ 1 ≤ m by omega]
          · by_cases em : 32 < m
            · simp [en, em, show ¬ m ≤ 32 by omega]
            · simp [en, em, show 1 ≤ m by omega, show m ≤ 32 by omega]
        · simp only [decide_eq_false e6, Bool.not_false, beq_self_eq_true, cond_true, Bool.false_beq, cond_false, if_neg e6]
          by_cases en : m = 0
          · simp [en]
          · simp [en]
      · simp [es]
  · simp [e0]

theorem spec_cGood (v : Cor) (hok : v.Ok) (hsm : v.Sm) : Ult fun k => ∀ ret, G31 k v.pv ret = ret v.good :=
  Ult.succ (((spec_csize v hsm).and (spec_cgood v hok hsm 8000 (by omega))).mono fun k ⟨h1, h2⟩ ret => by
    simp only [G31, f31_N, f31_e, h1, h2, Cor.good]
    by_cases hc : v.cnt ≤ 2000
    · rw [decide_eq_true (show ((min v.cnt 100000 : Nat) : Int) ≤ 2000 by omega), decide_eq_true hc, Cor.gd_eq v 8000 (by omega)]
      simp
    · rw [decide_eq_false (show ¬ ((min v.cnt 100000 : Nat) : Int) ≤ 2000 by omega), decide_eq_false hc]
      simp)
end Go.Proofs.Ytmdlhnojpcnnbaa
