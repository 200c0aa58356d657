/- Values' bytes, texts and sizes; the printed functions of package value that tell them. -/
import Derived.Test.YtbellpoahhhmhaaValG
import Derived.Test.YtbellpoahhhmhaaWr
set_option linter.unusedSimpArgs false
set_option linter.unusedVariables false
namespace Go.Proofs.Ytbellpoahhhmhaa
open Go Go.X

def dg (n : Int) : Int := List.getD [48, 49, 50, 51, 52, 53, 54, 55, 56, 57, 97, 98, 99, 100, 101, 102] n.toNat 0
def hexI (b : Int) : List Int := [dg (b / 16), dg (b % 16)]
def ahead (k b : Int) : List Int := if k = 1 then [69] else if k = 2 then hexI b else if k = 3 then [40] else if k = 4 then [76] else if k = 5 then [82] else if k = 6 then [91] else if k = 7 then [60] else [63]
def behind (k : Int) (n : Nat) : List Int := if k = 3 then (if n < 2 then [44, 41] else [41]) else if k = 6 then [93] else if k = 7 then [62] else []
namespace Val
mutual
/-- A value's bytes. -/
def flat : Val → List Int
  | mk k b l => (if k = 2 then [b] else []) ++ flatL (ar k l.length) l
def flatL : Nat → List Val → List Int
  | _, [] => []
  | 0, _ :: _ => []
  | n + 1, v :: l => flat v ++ flatL n l
end
theorem flatL_eq : ∀ (n : Nat) (l : List Val), flatL n l = (l.take n).flatMap flat
  | 0, [] => by simp [flatL]
  | 0, _ :: _ => by simp [flatL]
  | n + 1, [] => by simp [flatL]
  | n + 1, v :: l => by simp only [flatL, List.take_succ_cons, List.flatMap_cons, flatL_eq n l]
theorem flat_eq (v : Val) : v.flat = (if v.kind = 2 then [v.byte] else []) ++ v.kids.flatMap flat := by
  cases v; simp only [flat, flatL_eq, kids]
mutual
/-- How many values one is made of. -/
def vsz : Val → Nat
  | mk k b l => 1 + vszL (ar k l.length) l
def vszL : Nat → List Val → Nat
  | _, [] => 0
  | 0, _ :: _ => 0
  | n + 1, v :: l => vsz v + vszL n l
end
theorem vszL_eq : ∀ (n : Nat) (l : List Val), vszL n l = ((l.take n).map vsz).sum
  | 0, [] => by simp [vszL]
  | 0, _ :: _ => by simp [vszL]
  | n + 1, [] => by simp [vszL]
  | n + 1, v :: l => by simp only [vszL, List.take_succ_cons, List.map_cons, List.sum_cons, vszL_eq n l]
theorem vsz_eq (v : Val) : v.vsz = 1 + (v.kids.map vsz).sum := by
  cases v; simp only [vsz, vszL_eq, kids]
mutual
/-- A value's text. -/
def txt : Val → List Int
  | mk k b l => ahead k b ++ (txtL true (ar k l.length) l ++ behind k l.length)
def txtL : Bool → Nat → List Val → List Int
  | _, _, [] => []
  | _, 0, _ :: _ => []
  | f, n + 1, v :: l => ((if f then [] else [44]) ++ txt v) ++ txtL false n l
end
def kidsT : Bool → List Val → List Int
  | _, [] => []
  | f, v :: l => ((if f then [] else [44]) ++ txt v) ++ kidsT false l
theorem txtL_eq : ∀ (f : Bool) (n : Nat) (l : List Val), txtL f n l = kidsT f (l.take n)
  | f, 0, [] => by simp [txtL, kidsT]
  | f, 0, _ :: _ => by simp [txtL, kidsT]
  | f, n + 1, [] => by simp [txtL, kidsT]
  | f, n + 1, v :: l => by simp only [txtL, List.take_succ_cons, kidsT, txtL_eq false n l]
theorem txt_eq (v : Val) : v.txt = ahead v.kind v.byte ++ (kidsT true v.kids ++ behind v.kind v.kidl.length) := by
  cases v; simp only [txt, txtL_eq, kids]
theorem flatL_len : ∀ (n : Nat) (l : List Val), (∀ v ∈ l, v.flat.length ≤ v.size) → (flatL n l).length ≤ sizes l
  | _, [], _ => by simp [flatL]
  | 0, _ :: _, _ => by simp [flatL]
  | n + 1, v :: l, h => by
    have h1 := h v (by simp)
    have h2 := flatL_len n l (fun x hx => h x (by simp [hx]))
    simp only [flatL, List.length_append, sizes]; omega
theorem flat_len (v : Val) : v.flat.length ≤ v.size := by
  refine ind (p := fun v => v.flat.length ≤ v.size) (fun k b l ih => ?_) v
  have := flatL_len (ar k l.length) l ih
  simp only [flat, List.length_append, size]
  split <;> simp only [List.length_cons, List.length_nil] <;> omega
theorem vszL_le : ∀ (n : Nat) (l : List Val), (∀ v ∈ l, v.vsz ≤ v.size) → vszL n l ≤ sizes l
  | _, [], _ => by simp [vszL]
  | 0, _ :: _, _ => by simp [vszL]
  | n + 1, v :: l, h => by
    have h1 := h v (by simp)
    have h2 := vszL_le n l (fun x hx => h x (by simp [hx]))
    simp only [vszL, sizes]; omega
theorem vsz_le (v : Val) : v.vsz ≤ v.size := by
  refine ind (p := fun v => v.vsz ≤ v.size) (fun k b l ih => ?_) v
  have := vszL_le (ar k l.length) l ih
  simp only [vsz, size]; omega
theorem ahead_len (k b : Int) : (ahead k b).length ≤ 2 := by unfold ahead hexI; (repeat' split) <;> simp
theorem behind_len (k : Int) (n : Nat) : (behind k n).length ≤ 2 := by unfold behind; (repeat' split) <;> simp
theorem txtL_len : ∀ (f : Bool) (n : Nat) (l : List Val), (∀ v ∈ l, v.txt.length + 1 ≤ 2 * v.size) → (txtL f n l).length ≤ 2 * sizes l
  | _, _, [], _ => by simp [txtL]
  | _, 0, _ :: _, _ => by simp [txtL]
  | f, n + 1, v :: l, h => by
    have h1 := h v (by simp)
    have h2 := txtL_len false n l (fun x hx => h x (by simp [hx]))
    simp only [txtL, List.length_append, sizes]
    split <;> simp only [List.length_cons, List.length_nil] <;> omega
theorem txt_len (v : Val) : v.txt.length + 1 ≤ 2 * v.size := by
  refine ind (p := fun v => v.txt.length + 1 ≤ 2 * v.size) (fun k b l ih => ?_) v
  have := txtL_len true (ar k l.length) l ih
  have h1 := ahead_len k b
  have h2 := behind_len k l.length
  simp only [txt, List.length_append, size]; omega
mutual
def same : Val → Val → Bool
  | mk k b l, mk k' b' l' => decide (k = k') && (decide (b = b') && sames l l')
def sames : List Val → List Val → Bool
  | [], [] => true
  | x :: t, y :: u => same x y && sames t u
  | [], _ :: _ => false
  | _ :: _, [] => false
end
theorem sames_iff : ∀ (l l' : List Val), (∀ v ∈ l, ∀ w, same v w = true ↔ v = w) → (sames l l' = true ↔ l = l')
  | [], [], _ => by simp [sames]
  | [], _ :: _, _ => by simp [sames]
  | _ :: _, [], _ => by simp [sames]
  | x :: t, y :: u, h => by simp only [sames, Bool.and_eq_true, h x (by simp), sames_iff t u (fun z hz => h z (by simp [hz])), List.cons.injEq]
theorem sames_len : ∀ (l l' : List Val), sames l l' = true → l.length = l'.length
  | [], [], _ => rfl
  | [], _ :: _, h => by simp [sames] at h
  | _ :: _, [], h => by simp [sames] at h
  | x :: t, y :: u, h => by
    simp only [sames, Bool.and_eq_true] at h
    simp only [List.length_cons, sames_len t u h.2]
theorem same_iff (v : Val) : ∀ w, same v w = true ↔ v = w := by
  refine ind (p := fun v => ∀ w, same v w = true ↔ v = w) (fun k b l ih w => ?_) v
  obtain ⟨k', b', l'⟩ := w
  simp only [same, Bool.and_eq_true, decide_eq_true_eq, sames_iff l l' ih, mk.injEq]
end Val

theorem pvI_app (a b : List Int) : pvI a ++ pvI b = pvI (a ++ b) := by simp [pvI]

theorem spec_flat (v : Val) : v.Sm → Ult fun k => ∀ (l : List PV) ret, l.length + v.flat.length ≤ 35184372088832 → G63 k v.pv l ret = ret (l ++ pvI v.flat) := by
  refine Val.ind (p := fun v => v.Sm → Ult fun k => ∀ (l : List PV) ret, l.length + v.flat.length ≤ 35184372088832 → G63 k v.pv l ret = ret (l ++ pvI v.flat)) (fun kd b xs ih hsm => ?_) v
  have hall : Ult fun k => ∀ x ∈ (Val.mk kd b xs).kids, ∀ (l : List PV) ret, l.length + x.flat.length ≤ 35184372088832 → G63 k x.pv l ret = ret (l ++ pvI x.flat) :=
    Ult.forall_mem fun x hx => ih x (Val.mem_kidl (v := Val.mk kd b xs) hx) (Val.Sm.kid hsm (Val.mem_kidl hx))
  refine Ult.succ ((hall.and (spec_Kids.and (Ult.ge (xs.length + 1)))).mono fun k ⟨h1, h2, h4⟩ l ret hl => ?_)
  have hkl : (Val.mk kd b xs).kids.length ≤ xs.length := Val.kids_length _
  have hlen : xs.length ≤ 274877906944 := hsm.length
  generalize Val.mk kd b xs = v at *
  rw [Val.flat_eq] at hl ⊢
  have loop : ∀ (body : (Int × List PV → R) → Int × List PV → R) (hbody : ∀ nx n l, body nx (n, l) = bif (decide (n < (List.length (v.kids.map Val.pv) : Int))) then
      bif (true && decide ((0 : Int) ≤ n) && decide (n < (List.length (v.kids.map Val.pv) : Int))) then
        G63 k (List.getD (v.kids.map Val.pv) n.toNat PV.nil) l fun l => nx (IntKind.wrap .i64 (n + (1 : Int)), l)
      else none
    else ret l), ∀ l0 : List PV, l0.length + (v.kids.flatMap Val.flat).length ≤ 35184372088832 → loopR body k ((0 : Int), l0) = ret (l0 ++ pvI (v.kids.flatMap Val.flat)) := by
    intro body hbody l0 hl0
    have := vup (body := body) (fun (i : Nat) (l : List PV) => ((i : Int), l)) (fun i l => l.length + ((v.kids.drop i).flatMap Val.flat).length ≤ 35184372088832) (res := fun i l => ret (l ++ pvI ((v.kids.drop i).flatMap Val.flat))) v.kids.length ?_ ?_ k 0 l0 (by simpa using hl0) (by omega) (by omega)
    · exact this
    · intro nx l _
      rw [hbody, List.length_map, decide_eq_false (by omega), List.drop_length]
      simp [pvI]
    · intro i hi nx l hl hnx
      rw [drop_cons hi, List.flatMap_cons] at hl ⊢
      simp only [List.length_append] at hl
      rw [hbody, List.length_map, decide_eq_true (show (i : Int) < (v.kids.length : Int) by omega), decide_eq_true (show (0 : Int) ≤ (i : Int) by omega), getD_pv hi, wrap_succ (by omega)]
      simp only [Bool.and_self, cond_true]
      rw [h1 _ (List.getElem_mem hi) _ _ (by omega), hnx _ (by simp only [List.length_append, pvI_len]; omega), List.append_assoc, pvI_app]
  simp only [G63, f63_N, f63_e, Val.fld0, Val.fld1, PV.num, h2]
  by_cases c2 : v.kind = 2
  · rw [if_pos c2] at hl ⊢
    simp only [List.length_append, List.length_cons, List.length_nil] at hl
    simp only [decide_eq_true c2, cond_true, f63_w1N]
    rw [roomy_of (by simp; omega) (by simp; omega)]
    simp only [Bool.and_self, cond_true]
    rw [loop _ (fun nx n l => by simp only [f63_w1B, f63_w1b0N, f63_w1b0, PV.els]; rfl) _ (by simp only [List.length_append, List.length_cons, List.length_nil]; omega), List.append_assoc]
    rfl
  · rw [if_neg c2] at hl ⊢
    simp only [decide_eq_false c2, cond_false, f63_w2N]
    rw [loop _ (fun nx n l => by simp only [f63_w2B, f63_w2b0N, f63_w2b0, PV.els]; rfl) _ (by simpa only [List.nil_append] using hl)]
    rfl
theorem spec_Flat (v : Val) (hv : v.Sm) : Ult fun k => ∀ ret, G27 k v.pv ret = ret (.list (pvI v.flat)) :=
  Ult.succ ((spec_flat v hv).mono fun k h ret => by
    have := Val.flat_len v
    simp only [Val.Sm] at hv
    simp only [G27, f27_N, f27_e]
    rw [h _ _ (by simp; omega)]; rfl)
theorem spec_Len (v : Val) (hv : v.Sm) : Ult fun k => ∀ ret, G23 k v.pv ret = ret (v.flat.length : Int) :=
  Ult.succ ((spec_Flat v hv).mono fun k h ret => by
    simp only [G23, f23_N, f23_e, h, PV.els, pvI_len])

theorem spec_VSize (v : Val) : v.Sm → Ult fun k => ∀ ret, G24 k v.pv ret = ret (v.vsz : Int) := by
  refine Val.ind (p := fun v => v.Sm → Ult fun k => ∀ ret, G24 k v.pv ret = ret (v.vsz : Int)) (fun kd b xs ih hsm => ?_) v
  have hall : Ult fun k => ∀ x ∈ (Val.mk kd b xs).kids, ∀ ret, G24 k x.pv ret = ret (x.vsz : Int) :=
    Ult.forall_mem fun x hx => ih x (Val.mem_kidl (v := Val.mk kd b xs) hx) (Val.Sm.kid hsm (Val.mem_kidl hx))
  refine Ult.succ ((hall.and (spec_Kids.and (Ult.ge (xs.length + 1)))).mono fun k ⟨h1, h2, h4⟩ ret => ?_)
  have hkl : (Val.mk kd b xs).kids.length ≤ xs.length := Val.kids_length _
  have hlen : xs.length ≤ 274877906944 := hsm.length
  have hz := Val.vsz_le (Val.mk kd b xs)
  simp only [Val.Sm] at hsm
  generalize Val.mk kd b xs = v at *
  rw [Val.vsz_eq] at hz ⊢
  simp only [G24, f24_N, f24_e, h2, f24_w1N]
  have := vup (body := f24_w1B k (G24 k) (G59 k) ret (.list (v.kids.map Val.pv))) (fun (i : Nat) (a : Nat) => ((a : Int), (i : Int))) (fun i a => a + ((v.kids.drop i).map Val.vsz).sum ≤ 274877906944) (res := fun i a => ret ((a + ((v.kids.drop i).map Val.vsz).sum : Nat) : Int)) v.kids.length ?_ ?_ k 0 1 (by simpa using (by omega : 1 + (v.kids.map Val.vsz).sum ≤ 274877906944)) (by omega) (by omega)
  · exact this
  · intro nx a ha
    simp only [f24_w1B, f24_w1b0N, f24_w1b0, PV.els, List.length_map, decide_eq_false (show ¬ (v.kids.length : Int) < (v.kids.length : Int) by omega), cond_false, List.drop_length, List.map_nil, List.sum_nil, Nat.add_zero]
  · intro i hi nx a ha hnx
    rw [drop_cons hi, List.map_cons, List.sum_cons] at ha ⊢
    simp only [f24_w1B, f24_w1b0N, f24_w1b0, PV.els, List.length_map, decide_eq_true (show (i : Int) < (v.kids.length : Int) by omega), decide_eq_true (show (0 : Int) ≤ (i : Int) by omega), Bool.and_self, cond_true, getD_pv hi, wrap_succ (show i < 1099511627777 by omega)]
    rw [h1 _ (List.getElem_mem hi), wrap_i64 (by omega) (by omega)]
    refine (hnx (a + v.kids[i].vsz) (by omega)).trans ?_
    congr 1; omega

theorem spec_Same (v : Val) : v.Sm → ∀ w : Val, Ult fun k => ∀ ret, G26 k v.pv w.pv ret = ret (v.same w) := by
  refine Val.ind (p := fun v => v.Sm → ∀ w : Val, Ult fun k => ∀ ret, G26 k v.pv w.pv ret = ret (v.same w)) (fun kd b l ih hsm w => ?_) v
  obtain ⟨kd', b', l'⟩ := w
  have hlen : l.length ≤ 274877906944 := hsm.length
  have a0 : Ult fun k => ∀ x ∈ l, ∀ y ∈ l', ∀ ret, G26 k x.pv y.pv ret = ret (x.same y) :=
    Ult.forall_mem fun x hx => Ult.forall_mem fun y hy => ih x hx (Val.Sm.kid hsm hx) y
  have a1 : Ult fun k => ∀ ret, G62 k (.list (l.map Val.pv)) (.list (l'.map Val.pv)) ret = ret (Val.sames l l') := Ult.succ ((a0.and (Ult.ge (l.length + 1))).mono fun k ⟨h, h2⟩ ret => by
    simp only [G62, f62_N, f62_e, f62_w1N, PV.els, List.length_map]
    by_cases hl : l.length = l'.length
    · simp only [decide_eq_true (show (l.length : Int) = (l'.length : Int) by omega), Bool.not_true, cond_false]
      have := loopR_up (body := f62_w1B k (G26 k) ret (.list (l.map Val.pv)) (.list (l'.map Val.pv))) (res := fun i => ret (Val.sames (l.drop i) (l'.drop i))) l.length ?_ ?_ k 0 (by omega) (by omega)
      · exact this
      · intro nx
        simp only [f62_w1B, f62_w1b0N, f62_w1b0, PV.els, List.length_map, decide_eq_false (show ¬ (l.length : Int) < (l.length : Int) by omega), cond_false]
        rw [List.drop_length, hl, List.drop_length]; rfl
      · intro i hi nx hnx
        have hi' : i < l'.length := by omega
        simp only [f62_w1B, f62_w1b0N, f62_w1b0, PV.els, List.length_map, decide_eq_true (show (i : Int) < (l.length : Int) by omega), decide_eq_true (show (i : Int) < (l'.length : Int) by omega), decide_eq_true (show (0 : Int) ≤ (i : Int) by omega), Bool.and_self, cond_true, getD_pv hi, getD_pv hi', wrap_succ (show i < 1099511627777 by omega)]
        rw [h _ (List.getElem_mem hi) _ (List.getElem_mem hi'), drop_cons hi, drop_cons hi', hnx]
        simp only [Val.sames]
        cases l[i].same l'[i] <;> rfl
    · simp only [decide_eq_false (show ¬ (l.length : Int) = (l'.length : Int) by omega), Bool.not_false, cond_true]
      refine congrArg ret ?_
      rw [Bool.eq_iff_iff]
      simp only [Bool.false_eq_true, false_iff]
      exact fun hs => hl (Val.sames_len l l' hs))
  refine Ult.succ (a1.mono fun k h ret => ?_)
  simp only [G26, f26_N, f26_e, Val.fld0, Val.fld1, Val.fld2, PV.num, h, Val.kind, Val.byte, Val.kidl, Val.same]
  by_cases h1 : kd = kd'
  · by_cases h2 : b = b'
    · simp [h1, h2]
    · simp [h1, h2]
  · simp [h1]

/-- What stands behind some of the items' texts. -/
def restT (ks : List Val) (bh : List Int) (i : Nat) : List Int := Val.kidsT (decide (i = 0)) (ks.drop i) ++ bh
theorem restT_step {ks : List Val} {bh : List Int} {i : Nat} (h : i < ks.length) : restT ks bh i = ((if 0 < i then [44] else []) ++ ks[i].txt) ++ restT ks bh (i + 1) := by
  unfold restT
  rw [drop_cons h, Val.kidsT, List.append_assoc]
  by_cases hi : i = 0
  · subst hi; simp
  · simp [hi, show 0 < i by omega]
theorem restT_end (ks : List Val) (bh : List Int) : restT ks bh ks.length = bh := by
  unfold restT; rw [List.drop_length]; rfl
theorem txt_rest (v : Val) : v.txt = ahead v.kind v.byte ++ restT v.kids (behind v.kind v.kidl.length) 0 := by
  rw [Val.txt_eq]; rfl

/-- A loop that writes the items' texts. -/
theorem text_loop (k : Nat) (cW : List Int → List PV → (Int → PV → List PV → R) → R) (cP : PV → List PV → (List PV → R) → R) (ret : List PV → R) (ks : List Val) (bh : List Int) (hk : ks.length ≤ 274877906944)
    (body : (Int × List PV → R) → Int × List PV → R)
    (hbody : ∀ nx n l, body nx (n, l) = bif (decide (n < (List.length (ks.map Val.pv) : Int))) then
      bif (true && decide ((0 : Int) ≤ n) && decide (n < (List.length (ks.map Val.pv) : Int))) then
        bif (decide ((0 : Int) < n)) then
          cW [44] l fun _ _ l => cP (List.getD (ks.map Val.pv) n.toNat PV.nil) l fun l => nx (IntKind.wrap .i64 (n + (1 : Int)), l)
        else cP (List.getD (ks.map Val.pv) n.toNat PV.nil) l fun l => nx (IntKind.wrap .i64 (n + (1 : Int)), l)
      else none
    else cW bh l fun _ _ l => ret l)
    (hW : ∀ s l r, l.length + s.length ≤ 35184372088832 → cW s l r = r (s.length : Int) PV.nil (l ++ pvI s))
    (hP : ∀ x ∈ ks, ∀ l r, l.length + x.txt.length ≤ 35184372088832 → cP x.pv l r = r (l ++ pvI x.txt)) :
    ∀ (n i : Nat) (l : List PV), l.length + (restT ks bh i).length ≤ 35184372088832 → i ≤ ks.length → ks.length < n + i → loopR body n ((i : Int), l) = ret (l ++ pvI (restT ks bh i)) := by
  refine vup (fun (i : Nat) (l : List PV) => ((i : Int), l)) (fun i l => l.length + (restT ks bh i).length ≤ 35184372088832) (res := fun i l => ret (l ++ pvI (restT ks bh i))) ks.length ?_ ?_
  · intro nx l hl
    rw [restT_end] at hl ⊢
    rw [hbody, List.length_map, decide_eq_false (by omega), cond_false, hW _ _ _ hl]
  · intro i hi nx l hl hnx
    rw [hbody, List.length_map, decide_eq_true (show (i : Int) < (ks.length : Int) by omega), decide_eq_true (show (0 : Int) ≤ (i : Int) by omega), getD_pv hi, wrap_succ (by omega)]
    rw [restT_step hi] at hl ⊢
    simp only [Bool.and_self, cond_true]
    by_cases h0 : 0 < i
    · simp only [if_pos h0, List.length_append, List.length_cons, List.length_nil] at hl
      rw [if_pos h0, decide_eq_true (show (0 : Int) < (i : Int) by omega), cond_true, hW _ _ _ (by simp; omega), hP _ (List.getElem_mem hi) _ _ (by simp [pvI]; omega), hnx _ (by simp [pvI]; omega)]
      simp [pvI]
    · simp only [if_neg h0, List.length_append, List.length_nil] at hl
      rw [if_neg h0, decide_eq_false (show ¬ (0 : Int) < (i : Int) by omega), cond_false, hP _ (List.getElem_mem hi) _ _ (by omega), hnx _ (by simp [pvI]; omega)]
      simp [pvI]

theorem hex_ok : ∀ b : Fin 256, (decide ((0 : Int) ≤ (Int.fdiv (b.1 : Int) (2 ^ (min ((4 : Int)).toNat 8)))) && decide ((Int.fdiv (b.1 : Int) (2 ^ (min ((4 : Int)).toNat 8))) ≤ (IntKind.wrap .u8 ((Int.fdiv (b.1 : Int) (2 ^ (min ((4 : Int)).toNat 8))) + (1 : Int)))) && decide ((IntKind.wrap .u8 ((Int.fdiv (b.1 : Int) (2 ^ (min ((4 : Int)).toNat 8))) + (1 : Int))) ≤ (List.length [48, 49, 50, 51, 52, 53, 54, 55, 56, 57, 97, 98, 99, 100, 101, 102] : Int))) = true
    ∧ (List.drop ((Int.fdiv (b.1 : Int) (2 ^ (min ((4 : Int)).toNat 8)))).toNat (List.take ((IntKind.wrap .u8 ((Int.fdiv (b.1 : Int) (2 ^ (min ((4 : Int)).toNat 8))) + (1 : Int)))).toNat [48, 49, 50, 51, 52, 53, 54, 55, 56, 57, 97, 98, 99, 100, 101, 102])) = [dg ((b.1 : Int) / 16)]
    ∧ (decide ((0 : Int) ≤ (intBit .and .u8 (b.1 : Int) 15)) && decide ((intBit .and .u8 (b.1 : Int) 15) ≤ (IntKind.wrap .u8 ((intBit .and .u8 (b.1 : Int) 15) + (1 : Int)))) && decide ((IntKind.wrap .u8 ((intBit .and .u8 (b.1 : Int) 15) + (1 : Int))) ≤ (List.length [48, 49, 50, 51, 52, 53, 54, 55, 56, 57, 97, 98, 99, 100, 101, 102] : Int))) = true
    ∧ (List.drop ((intBit .and .u8 (b.1 : Int) 15)).toNat (List.take ((IntKind.wrap .u8 ((intBit .and .u8 (b.1 : Int) 15) + (1 : Int)))).toNat [48, 49, 50, 51, 52, 53, 54, 55, 56, 57, 97, 98, 99, 100, 101, 102])) = [dg ((b.1 : Int) % 16)] := by decide +kernel
theorem hex_ok' (b : Int) (hb : 0 ≤ b ∧ b < 256) : (decide ((0 : Int) ≤ (Int.fdiv b (2 ^ (min ((4 : Int)).toNat 8)))) && decide ((Int.fdiv b (2 ^ (min ((4 : Int)).toNat 8))) ≤ (IntKind.wrap .u8 ((Int.fdiv b (2 ^ (min ((4 : Int)).toNat 8))) + (1 : Int)))) && decide ((IntKind.wrap .u8 ((Int.fdiv b (2 ^ (min ((4 : Int)).toNat 8))) + (1 : Int))) ≤ (List.length [48, 49, 50, 51, 52, 53, 54, 55, 56, 57, 97, 98, 99, 100, 101, 102] : Int))) = true
    ∧ (List.drop ((Int.fdiv b (2 ^ (min ((4 : Int)).toNat 8)))).toNat (List.take ((IntKind.wrap .u8 ((Int.fdiv b (2 ^ (min ((4 : Int)).toNat 8))) + (1 : Int)))).toNat [48, 49, 50, 51, 52, 53, 54, 55, 56, 57, 97, 98, 99, 100, 101, 102])) = [dg (b / 16)]
    ∧ (decide ((0 : Int) ≤ (intBit .and .u8 b 15)) && decide ((intBit .and .u8 b 15) ≤ (IntKind.wrap .u8 ((intBit .and .u8 b 15) + (1 : Int)))) && decide ((IntKind.wrap .u8 ((intBit .and .u8 b 15) + (1 : Int))) ≤ (List.length [48, 49, 50, 51, 52, 53, 54, 55, 56, 57, 97, 98, 99, 100, 101, 102] : Int))) = true
    ∧ (List.drop ((intBit .and .u8 b 15)).toNat (List.take ((IntKind.wrap .u8 ((intBit .and .u8 b 15) + (1 : Int)))).toNat [48, 49, 50, 51, 52, 53, 54, 55, 56, 57, 97, 98, 99, 100, 101, 102])) = [dg (b % 16)] := by
  have := hex_ok ⟨b.toNat, by omega⟩
  simp only [Int.toNat_of_nonneg hb.1] at this
  exact this

theorem spec_textu (v : Val) : v.Ok → v.Sm → Ult fun k => ∀ (l : List PV) ret, l.length + v.txt.length ≤ 35184372088832 → G60v1 k v.pv l ret = ret (l ++ pvI v.txt) := by
  refine Val.ind (p := fun v => v.Ok → v.Sm → Ult fun k => ∀ (l : List PV) ret, l.length + v.txt.length ≤ 35184372088832 → G60v1 k v.pv l ret = ret (l ++ pvI v.txt)) (fun kd b xs ih hok hsm => ?_) v
  have hall : Ult fun k => ∀ x ∈ (Val.mk kd b xs).kids, ∀ (l : List PV) ret, l.length + x.txt.length ≤ 35184372088832 → G60v1 k x.pv l ret = ret (l ++ pvI x.txt) :=
    Ult.forall_mem fun x hx => ih x (Val.mem_kidl (v := Val.mk kd b xs) hx) (Val.Ok.kid hok (Val.mem_kidl hx)) (Val.Sm.kid hsm (Val.mem_kidl hx))
  refine Ult.succ ((hall.and (spec_Kids.and (spec_WSu.and (Ult.ge (xs.length + 1))))).mono fun k ⟨h1, h2, h3, h4⟩ l ret hl => ?_)
  have hkl : (Val.mk kd b xs).kids.length ≤ xs.length := Val.kids_length _
  have hlen : xs.length ≤ 274877906944 := hsm.length
  have hb : 0 ≤ (Val.mk kd b xs).byte ∧ (Val.mk kd b xs).byte < 256 := hok.2.1
  generalize Val.mk kd b xs = v at *
  rw [txt_rest] at hl ⊢
  obtain ⟨x1, x2, x3, x4⟩ := hex_ok' v.byte hb
  simp only [G60v1, f60v1_N, f60v1_e, Val.fld0, Val.fld1, Val.fld2, PV.num, PV.els, List.length_map, h2, x1, x2, x3, x4]
  unfold ahead behind at hl ⊢
  by_cases c1 : v.kind = 1
  · simp only [c1, show ((1 : Int) = 1) = True from by simp, show ((1 : Int) = 2) = False from by simp, show ((1 : Int) = 3) = False from by simp, show ((1 : Int) = 4) = False from by simp, show ((1 : Int) = 5) = False from by simp, show ((1 : Int) = 6) = False from by simp, show ((1 : Int) = 7) = False from by simp, if_true, if_false, List.length_append] at hl
    simp only [c1, show ((1 : Int) = 1) = True from by simp, show ((1 : Int) = 2) = False from by simp, show ((1 : Int) = 3) = False from by simp, show ((1 : Int) = 4) = False from by simp, show ((1 : Int) = 5) = False from by simp, show ((1 : Int) = 6) = False from by simp, show ((1 : Int) = 7) = False from by simp, if_true, if_false]
    simp only [show decide ((1 : Int) = 1) = true from rfl, show decide ((1 : Int) = 2) = false from rfl, show decide ((1 : Int) = 3) = false from rfl, show decide ((1 : Int) = 4) = false from rfl, show decide ((1 : Int) = 5) = false from rfl, show decide ((1 : Int) = 6) = false from rfl, show decide ((1 : Int) = 7) = false from rfl, cond_true, cond_false, f60v1_w1N]
    rw [h3 [69] l _ (by simp only [List.length_cons, List.length_nil] at hl ⊢; omega)]
    refine (text_loop k (G82v1 k) (G60v1 k) ret v.kids [] (by omega) (f60v1_w1B k (G59 k) (G60v1 k) (G82v1 k) ret (.list (v.kids.map Val.pv))) (fun nx n l => by
      simp only [f60v1_w1B, f60v1_w1b0N, f60v1_w1b0, PV.els]; rfl) h3 h1 k 0 _ (by simp only [List.length_append, pvI_len, List.length_cons, List.length_nil] at hl ⊢; omega) (by omega) (by omega)).trans ?_
    simp [pvI]
  by_cases c2 : v.kind = 2
  · simp only [c2, show ((2 : Int) = 1) = False from by simp, show ((2 : Int) = 2) = True from by simp, show ((2 : Int) = 3) = False from by simp, show ((2 : Int) = 4) = False from by simp, show ((2 : Int) = 5) = False from by simp, show ((2 : Int) = 6) = False from by simp, show ((2 : Int) = 7) = False from by simp, if_true, if_false, List.length_append] at hl
    simp only [c2, show ((2 : Int) = 1) = False from by simp, show ((2 : Int) = 2) = True from by simp, show ((2 : Int) = 3) = False from by simp, show ((2 : Int) = 4) = False from by simp, show ((2 : Int) = 5) = False from by simp, show ((2 : Int) = 6) = False from by simp, show ((2 : Int) = 7) = False from by simp, if_true, if_false]
    simp only [hexI] at hl ⊢
    simp only [show decide ((2 : Int) = 1) = false from rfl, show decide ((2 : Int) = 2) = true from rfl, show decide ((2 : Int) = 3) = false from rfl, show decide ((2 : Int) = 4) = false from rfl, show decide ((2 : Int) = 5) = false from rfl, show decide ((2 : Int) = 6) = false from rfl, show decide ((2 : Int) = 7) = false from rfl, cond_true, cond_false, List.length_cons, List.length_nil, show decide (0 + 1 + (0 + 1) ≤ 4611686018427387904) = true from rfl, List.cons_append, List.nil_append, f60v1_w2N]
    rw [h3 [dg (v.byte / 16), dg (v.byte % 16)] l _ (by simp only [List.length_cons, List.length_nil] at hl ⊢; omega)]
    refine (text_loop k (G82v1 k) (G60v1 k) ret v.kids [] (by omega) (f60v1_w2B k (G59 k) (G60v1 k) (G82v1 k) ret (.list (v.kids.map Val.pv))) (fun nx n l => by
      simp only [f60v1_w2B, f60v1_w2b0N, f60v1_w2b0, PV.els]; rfl) h3 h1 k 0 _ (by simp only [List.length_append, pvI_len, List.length_cons, List.length_nil] at hl ⊢; omega) (by omega) (by omega)).trans ?_
    simp [pvI]
  by_cases c3 : v.kind = 3
  · simp only [c3, show ((3 : Int) = 1) = False from by simp, show ((3 : Int) = 2) = False from by simp, show ((3 : Int) = 3) = True from by simp, show ((3 : Int) = 4) = False from by simp, show ((3 : Int) = 5) = False from by simp, show ((3 : Int) = 6) = False from by simp, show ((3 : Int) = 7) = False from by simp, if_true, if_false, List.length_append] at hl
    simp only [c3, show ((3 : Int) = 1) = False from by simp, show ((3 : Int) = 2) = False from by simp, show ((3 : Int) = 3) = True from by simp, show ((3 : Int) = 4) = False from by simp, show ((3 : Int) = 5) = False from by simp, show ((3 : Int) = 6) = False from by simp, show ((3 : Int) = 7) = False from by simp, if_true, if_false]
    by_cases c : v.kidl.length < 2
    · rw [if_pos c] at hl ⊢
      simp only [show decide ((3 : Int) = 1) = false from rfl, show decide ((3 : Int) = 2) = false from rfl, show decide ((3 : Int) = 3) = true from rfl, show decide ((3 : Int) = 4) = false from rfl, show decide ((3 : Int) = 5) = false from rfl, show decide ((3 : Int) = 6) = false from rfl, show decide ((3 : Int) = 7) = false from rfl, cond_true, cond_false, decide_eq_true (show (v.kidl.length : Int) < 2 by omega), f60v1_w3N]
      rw [h3 [40] l _ (by simp only [List.length_cons, List.length_nil] at hl ⊢; omega)]
      refine (text_loop k (G82v1 k) (G60v1 k) ret v.kids [44, 41] (by omega) (f60v1_w3B k (G59 k) (G60v1 k) (G82v1 k) ret (.list (v.kids.map Val.pv))) (fun nx n l => by
        simp only [f60v1_w3B, f60v1_w3b0N, f60v1_w3b0, PV.els]; rfl) h3 h1 k 0 _ (by simp only [List.length_append, pvI_len, List.length_cons, List.length_nil] at hl ⊢; omega) (by omega) (by omega)).trans ?_
      simp [pvI]
    · rw [if_neg c] at hl ⊢
      simp only [show decide ((3 : Int) = 1) = false from rfl, show decide ((3 : Int) = 2) = false from rfl, show decide ((3 : Int) = 3) = true from rfl, show decide ((3 : Int) = 4) = false from rfl, show decide ((3 : Int) = 5) = false from rfl, show decide ((3 : Int) = 6) = false from rfl, show decide ((3 : Int) = 7) = false from rfl, cond_true, cond_false, decide_eq_false (show ¬ (v.kidl.length : Int) < 2 by omega), f60v1_w4N]
      rw [h3 [40] l _ (by simp only [List.length_cons, List.length_nil] at hl ⊢; omega)]
      refine (text_loop k (G82v1 k) (G60v1 k) ret v.kids [41] (by omega) (f60v1_w4B k (G59 k) (G60v1 k) (G82v1 k) ret (.list (v.kids.map Val.pv))) (fun nx n l => by
        simp only [f60v1_w4B, f60v1_w4b0N, f60v1_w4b0, PV.els]; rfl) h3 h1 k 0 _ (by simp only [List.length_append, pvI_len, List.length_cons, List.length_nil] at hl ⊢; omega) (by omega) (by omega)).trans ?_
      simp [pvI]
  by_cases c4 : v.kind = 4
  · simp only [c4, show ((4 : Int) = 1) = False from by simp, show ((4 : Int) = 2) = False from by simp, show ((4 : Int) = 3) = False from by simp, show ((4 : Int) = 4) = True from by simp, show ((4 : Int) = 5) = False from by simp, show ((4 : Int) = 6) = False from by simp, show ((4 : Int) = 7) = False from by simp, if_true, if_false, List.length_append] at hl
    simp only [c4, show ((4 : Int) = 1) = False from by simp, show ((4 : Int) = 2) = False from by simp, show ((4 : Int) = 3) = False from by simp, show ((4 : Int) = 4) = True from by simp, show ((4 : Int) = 5) = False from by simp, show ((4 : Int) = 6) = False from by simp, show ((4 : Int) = 7) = False from by simp, if_true, if_false]
    simp only [show decide ((4 : Int) = 1) = false from rfl, show decide ((4 : Int) = 2) = false from rfl, show decide ((4 : Int) = 3) = false from rfl, show decide ((4 : Int) = 4) = true from rfl, show decide ((4 : Int) = 5) = false from rfl, show decide ((4 : Int) = 6) = false from rfl, show decide ((4 : Int) = 7) = false from rfl, cond_true, cond_false, f60v1_w5N]
    rw [h3 [76] l _ (by simp only [List.length_cons, List.length_nil] at hl ⊢; omega)]
    refine (text_loop k (G82v1 k) (G60v1 k) ret v.kids [] (by omega) (f60v1_w5B k (G59 k) (G60v1 k) (G82v1 k) ret (.list (v.kids.map Val.pv))) (fun nx n l => by
      simp only [f60v1_w5B, f60v1_w5b0N, f60v1_w5b0, PV.els]; rfl) h3 h1 k 0 _ (by simp only [List.length_append, pvI_len, List.length_cons, List.length_nil] at hl ⊢; omega) (by omega) (by omega)).trans ?_
    simp [pvI]
  by_cases c5 : v.kind = 5
  · simp only [c5, show ((5 : Int) = 1) = False from by simp, show ((5 : Int) = 2) = False from by simp, show ((5 : Int) = 3) = False from by simp, show ((5 : Int) = 4) = False from by simp, show ((5 : Int) = 5) = True from by simp, show ((5 : Int) = 6) = False from by simp, show ((5 : Int) = 7) = False from by simp, if_true, if_false, List.length_append] at hl
    simp only [c5, show ((5 : Int) = 1) = False from by simp, show ((5 : Int) = 2) = False from by simp, show ((5 : Int) = 3) = False from by simp, show ((5 : Int) = 4) = False from by simp, show ((5 : Int) = 5) = True from by simp, show ((5 : Int) = 6) = False from by simp, show ((5 : Int) = 7) = False from by simp, if_true, if_false]
    simp only [show decide ((5 : Int) = 1) = false from rfl, show decide ((5 : Int) = 2) = false from rfl, show decide ((5 : Int) = 3) = false from rfl, show decide ((5 : Int) = 4) = false from rfl, show decide ((5 : Int) = 5) = true from rfl, show decide ((5 : Int) = 6) = false from rfl, show decide ((5 : Int) = 7) = false from rfl, cond_true, cond_false, f60v1_w6N]
    rw [h3 [82] l _ (by simp only [List.length_cons, List.length_nil] at hl ⊢; omega)]
    refine (text_loop k (G82v1 k) (G60v1 k) ret v.kids [] (by omega) (f60v1_w6B k (G59 k) (G60v1 k) (G82v1 k) ret (.list (v.kids.map Val.pv))) (fun nx n l => by
      simp only [f60v1_w6B, f60v1_w6b0N, f60v1_w6b0, PV.els]; rfl) h3 h1 k 0 _ (by simp only [List.length_append, pvI_len, List.length_cons, List.length_nil] at hl ⊢; omega) (by omega) (by omega)).trans ?_
    simp [pvI]
  by_cases c6 : v.kind = 6
  · simp only [c6, show ((6 : Int) = 1) = False from by simp, show ((6 : Int) = 2) = False from by simp, show ((6 : Int) = 3) = False from by simp, show ((6 : Int) = 4) = False from by simp, show ((6 : Int) = 5) = False from by simp, show ((6 : Int) = 6) = True from by simp, show ((6 : Int) = 7) = False from by simp, if_true, if_false, List.length_append] at hl
    simp only [c6, show ((6 : Int) = 1) = False from by simp, show ((6 : Int) = 2) = False from by simp, show ((6 : Int) = 3) = False from by simp, show ((6 : Int) = 4) = False from by simp, show ((6 : Int) = 5) = False from by simp, show ((6 : Int) = 6) = True from by simp, show ((6 : Int) = 7) = False from by simp, if_true, if_false]
    simp only [show decide ((6 : Int) = 1) = false from rfl, show decide ((6 : Int) = 2) = false from rfl, show decide ((6 : Int) = 3) = false from rfl, show decide ((6 : Int) = 4) = false from rfl, show decide ((6 : Int) = 5) = false from rfl, show decide ((6 : Int) = 6) = true from rfl, show decide ((6 : Int) = 7) = false from rfl, cond_true, cond_false, f60v1_w7N]
    rw [h3 [91] l _ (by simp only [List.length_cons, List.length_nil] at hl ⊢; omega)]
    refine (text_loop k (G82v1 k) (G60v1 k) ret v.kids [93] (by omega) (f60v1_w7B k (G59 k) (G60v1 k) (G82v1 k) ret (.list (v.kids.map Val.pv))) (fun nx n l => by
      simp only [f60v1_w7B, f60v1_w7b0N, f60v1_w7b0, PV.els]; rfl) h3 h1 k 0 _ (by simp only [List.length_append, pvI_len, List.length_cons, List.length_nil] at hl ⊢; omega) (by omega) (by omega)).trans ?_
    simp [pvI]
  by_cases c7 : v.kind = 7
  · simp only [c7, show ((7 : Int) = 1) = False from by simp, show ((7 : Int) = 2) = False from by simp, show ((7 : Int) = 3) = False from by simp, show ((7 : Int) = 4) = False from by simp, show ((7 : Int) = 5) = False from by simp, show ((7 : Int) = 6) = False from by simp, show ((7 : Int) = 7) = True from by simp, if_true, if_false, List.length_append] at hl
    simp only [c7, show ((7 : Int) = 1) = False from by simp, show ((7 : Int) = 2) = False from by simp, show ((7 : Int) = 3) = False from by simp, show ((7 : Int) = 4) = False from by simp, show ((7 : Int) = 5) = False from by simp, show ((7 : Int) = 6) = False from by simp, show ((7 : Int) = 7) = True from by simp, if_true, if_false]
    simp only [show decide ((7 : Int) = 1) = false from rfl, show decide ((7 : Int) = 2) = false from rfl, show decide ((7 : Int) = 3) = false from rfl, show decide ((7 : Int) = 4) = false from rfl, show decide ((7 : Int) = 5) = false from rfl, show decide ((7 : Int) = 6) = false from rfl, show decide ((7 : Int) = 7) = true from rfl, cond_true, cond_false, f60v1_w8N]
    rw [h3 [60] l _ (by simp only [List.length_cons, List.length_nil] at hl ⊢; omega)]
    refine (text_loop k (G82v1 k) (G60v1 k) ret v.kids [62] (by omega) (f60v1_w8B k (G59 k) (G60v1 k) (G82v1 k) ret (.list (v.kids.map Val.pv))) (fun nx n l => by
      simp only [f60v1_w8B, f60v1_w8b0N, f60v1_w8b0, PV.els]; rfl) h3 h1 k 0 _ (by simp only [List.length_append, pvI_len, List.length_cons, List.length_nil] at hl ⊢; omega) (by omega) (by omega)).trans ?_
    simp [pvI]
  simp only [if_neg c1, if_neg c2, if_neg c3, if_neg c4, if_neg c5, if_neg c6, if_neg c7, List.length_append] at hl
  simp only [if_neg c1, if_neg c2, if_neg c3, if_neg c4, if_neg c5, if_neg c6, if_neg c7]
  simp only [decide_eq_false c1, decide_eq_false c2, decide_eq_false c3, decide_eq_false c4, decide_eq_false c5, decide_eq_false c6, decide_eq_false c7, cond_false, f60v1_w9N]
  rw [h3 [63] l _ (by simp only [List.length_cons, List.length_nil] at hl ⊢; omega)]
  refine (text_loop k (G82v1 k) (G60v1 k) ret v.kids [] (by omega) (f60v1_w9B k (G59 k) (G60v1 k) (G82v1 k) ret (.list (v.kids.map Val.pv))) (fun nx n l => by
    simp only [f60v1_w9B, f60v1_w9b0N, f60v1_w9b0, PV.els]; rfl) h3 h1 k 0 _ (by simp only [List.length_append, pvI_len, List.length_cons, List.length_nil] at hl ⊢; omega) (by omega) (by omega)).trans ?_
  simp [pvI]

theorem spec_textf (v : Val) : v.Ok → v.Sm → Ult fun k => ∀ (l : List PV) ret, l.length + v.txt.length ≤ 35184372088832 → G60 k v.pv PV.nil l ret = ret (l ++ pvI v.txt) := by
  obtain ⟨kd, b, xs⟩ := v
  intro hok hsm
  have hall : Ult fun k => ∀ x ∈ (Val.mk kd b xs).kids, ∀ (l : List PV) ret, l.length + x.txt.length ≤ 35184372088832 → G60v1 k x.pv l ret = ret (l ++ pvI x.txt) :=
    Ult.forall_mem fun x hx => spec_textu x (Val.Ok.kid hok (Val.mem_kidl hx)) (Val.Sm.kid hsm (Val.mem_kidl hx))
  refine Ult.succ ((hall.and (spec_Kids.and (spec_WSu.and (spec_WSf.and (Ult.ge (xs.length + 1)))))).mono fun k ⟨h1, h2, h3, h3f, h4⟩ l ret hl => ?_)
  have hkl : (Val.mk kd b xs).kids.length ≤ xs.length := Val.kids_length _
  have hlen : xs.length ≤ 274877906944 := hsm.length
  have hb : 0 ≤ (Val.mk kd b xs).byte ∧ (Val.mk kd b xs).byte < 256 := hok.2.1
  generalize Val.mk kd b xs = v at *
  rw [txt_rest] at hl ⊢
  obtain ⟨x1, x2, x3, x4⟩ := hex_ok' v.byte hb
  simp only [G60, f60_N, f60_e, Val.fld0, Val.fld1, Val.fld2, PV.num, PV.els, List.length_map, h2, x1, x2, x3, x4]
  unfold ahead behind at hl ⊢
  by_cases c1 : v.kind = 1
  · simp only [c1, show ((1 : Int) = 1) = True from by simp, show ((1 : Int) = 2) = False from by simp, show ((1 : Int) = 3) = False from by simp, show ((1 : Int) = 4) = False from by simp, show ((1 : Int) = 5) = False from by simp, show ((1 : Int) = 6) = False from by simp, show ((1 : Int) = 7) = False from by simp, if_true, if_false, List.length_append] at hl
    simp only [c1, show ((1 : Int) = 1) = True from by simp, show ((1 : Int) = 2) = False from by simp, show ((1 : Int) = 3) = False from by simp, show ((1 : Int) = 4) = False from by simp, show ((1 : Int) = 5) = False from by simp, show ((1 : Int) = 6) = False from by simp, show ((1 : Int) = 7) = False from by simp, if_true, if_false]
    simp only [show decide ((1 : Int) = 1) = true from rfl, show decide ((1 : Int) = 2) = false from rfl, show decide ((1 : Int) = 3) = false from rfl, show decide ((1 : Int) = 4) = false from rfl, show decide ((1 : Int) = 5) = false from rfl, show decide ((1 : Int) = 6) = false from rfl, show decide ((1 : Int) = 7) = false from rfl, cond_true, cond_false, f60_w1N]
    rw [h3f [69] l _ (by simp only [List.length_cons, List.length_nil] at hl ⊢; omega)]
    refine (text_loop k (G82v1 k) (G60v1 k) ret v.kids [] (by omega) (f60_w1B k (G59 k) (G60v1 k) (G82 k) (G82v1 k) ret (.list (v.kids.map Val.pv))) (fun nx n l => by
      simp only [f60_w1B, f60_w1b0N, f60_w1b0, PV.els]; rfl) h3 h1 k 0 _ (by simp only [List.length_append, pvI_len, List.length_cons, List.length_nil] at hl ⊢; omega) (by omega) (by omega)).trans ?_
    simp [pvI]
  by_cases c2 : v.kind = 2
  · simp only [c2, show ((2 : Int) = 1) = False from by simp, show ((2 : Int) = 2) = True from by simp, show ((2 : Int) = 3) = False from by simp, show ((2 : Int) = 4) = False from by simp, show ((2 : Int) = 5) = False from by simp, show ((2 : Int) = 6) = False from by simp, show ((2 : Int) = 7) = False from by simp, if_true, if_false, List.length_append] at hl
    simp only [c2, show ((2 : Int) = 1) = False from by simp, show ((2 : Int) = 2) = True from by simp, show ((2 : Int) = 3) = False from by simp, show ((2 : Int) = 4) = False from by simp, show ((2 : Int) = 5) = False from by simp, show ((2 : Int) = 6) = False from by simp, show ((2 : Int) = 7) = False from by simp, if_true, if_false]
    simp only [hexI] at hl ⊢
    simp only [show decide ((2 : Int) = 1) = false from rfl, show decide ((2 : Int) = 2) = true from rfl, show decide ((2 : Int) = 3) = false from rfl, show decide ((2 : Int) = 4) = false from rfl, show decide ((2 : Int) = 5) = false from rfl, show decide ((2 : Int) = 6) = false from rfl, show decide ((2 : Int) = 7) = false from rfl, cond_true, cond_false, List.length_cons, List.length_nil, show decide (0 + 1 + (0 + 1) ≤ 4611686018427387904) = true from rfl, List.cons_append, List.nil_append, f60_w2N]
    rw [h3f [dg (v.byte / 16), dg (v.byte % 16)] l _ (by simp only [List.length_cons, List.length_nil] at hl ⊢; omega)]
    refine (text_loop k (G82v1 k) (G60v1 k) ret v.kids [] (by omega) (f60_w2B k (G59 k) (G60v1 k) (G82 k) (G82v1 k) ret (.list (v.kids.map Val.pv))) (fun nx n l => by
      simp only [f60_w2B, f60_w2b0N, f60_w2b0, PV.els]; rfl) h3 h1 k 0 _ (by simp only [List.length_append, pvI_len, List.length_cons, List.length_nil] at hl ⊢; omega) (by omega) (by omega)).trans ?_
    simp [pvI]
  by_cases c3 : v.kind = 3
  · simp only [c3, show ((3 : Int) = 1) = False from by simp, show ((3 : Int) = 2) = False from by simp, show ((3 : Int) = 3) = True from by simp, show ((3 : Int) = 4) = False from by simp, show ((3 : Int) = 5) = False from by simp, show ((3 : Int) = 6) = False from by simp, show ((3 : Int) = 7) = False from by simp, if_true, if_false, List.length_append] at hl
    simp only [c3, show ((3 : Int) = 1) = False from by simp, show ((3 : Int) = 2) = False from by simp, show ((3 : Int) = 3) = True from by simp, show ((3 : Int) = 4) = False from by simp, show ((3 : Int) = 5) = False from by simp, show ((3 : Int) = 6) = False from by simp, show ((3 : Int) = 7) = False from by simp, if_true, if_false]
    by_cases c : v.kidl.length < 2
    · rw [if_pos c] at hl ⊢
      simp only [show decide ((3 : Int) = 1) = false from rfl, show decide ((3 : Int) = 2) = false from rfl, show decide ((3 : Int) = 3) = true from rfl, show decide ((3 : Int) = 4) = false from rfl, show decide ((3 : Int) = 5) = false from rfl, show decide ((3 : Int) = 6) = false from rfl, show decide ((3 : Int) = 7) = false from rfl, cond_true, cond_false, decide_eq_true (show (v.kidl.length : Int) < 2 by omega), f60_w3N]
      rw [h3f [40] l _ (by simp only [List.length_cons, List.length_nil] at hl ⊢; omega)]
      refine (text_loop k (G82v1 k) (G60v1 k) ret v.kids [44, 41] (by omega) (f60_w3B k (G59 k) (G60v1 k) (G82 k) (G82v1 k) ret (.list (v.kids.map Val.pv))) (fun nx n l => by
        simp only [f60_w3B, f60_w3b0N, f60_w3b0, PV.els]; rfl) h3 h1 k 0 _ (by simp only [List.length_append, pvI_len, List.length_cons, List.length_nil] at hl ⊢; omega) (by omega) (by omega)).trans ?_
      simp [pvI]
    · rw [if_neg c] at hl ⊢
      simp only [show decide ((3 : Int) = 1) = false from rfl, show decide ((3 : Int) = 2) = false from rfl, show decide ((3 : Int) = 3) = true from rfl, show decide ((3 : Int) = 4) = false from rfl, show decide ((3 : Int) = 5) = false from rfl, show decide ((3 : Int) = 6) = false from rfl, show decide ((3 : Int) = 7) = false from rfl, cond_true, cond_false, decide_eq_false (show ¬ (v.kidl.length : Int) < 2 by omega), f60_w4N]
      rw [h3f [40] l _ (by simp only [List.length_cons, List.length_nil] at hl ⊢; omega)]
      refine (text_loop k (G82v1 k) (G60v1 k) ret v.kids [41] (by omega) (f60_w4B k (G59 k) (G60v1 k) (G82 k) (G82v1 k) ret (.list (v.kids.map Val.pv))) (fun nx n l => by
        simp only [f60_w4B, f60_w4b0N, f60_w4b0, PV.els]; rfl) h3 h1 k 0 _ (by simp only [List.length_append, pvI_len, List.length_cons, List.length_nil] at hl ⊢; omega) (by omega) (by omega)).trans ?_
      simp [pvI]
  by_cases c4 : v.kind = 4
  · simp only [c4, show ((4 : Int) = 1) = False from by simp, show ((4 : Int) = 2) = False from by simp, show ((4 : Int) = 3) = False from by simp, show ((4 : Int) = 4) = True from by simp, show ((4 : Int) = 5) = False from by simp, show ((4 : Int) = 6) = False from by simp, show ((4 : Int) = 7) = False from by simp, if_true, if_false, List.length_append] at hl
    simp only [c4, show ((4 : Int) = 1) = False from by simp, show ((4 : Int) = 2) = False from by simp, show ((4 : Int) = 3) = False from by simp, show ((4 : Int) = 4) = True from by simp, show ((4 : Int) = 5) = False from by simp, show ((4 : Int) = 6) = False from by simp, show ((4 : Int) = 7) = False from by simp, if_true, if_false]
    simp only [show decide ((4 : Int) = 1) = false from rfl, show decide ((4 : Int) = 2) = false from rfl, show decide ((4 : Int) = 3) = false from rfl, show decide ((4 : Int) = 4) = true from rfl, show decide ((4 : Int) = 5) = false from rfl, show decide ((4 : Int) = 6) = false from rfl, show decide ((4 : Int) = 7) = false from rfl, cond_true, cond_false, f60_w5N]
    rw [h3f [76] l _ (by simp only [List.length_cons, List.length_nil] at hl ⊢; omega)]
    refine (text_loop k (G82v1 k) (G60v1 k) ret v.kids [] (by omega) (f60_w5B k (G59 k) (G60v1 k) (G82 k) (G82v1 k) ret (.list (v.kids.map Val.pv))) (fun nx n l => by
      simp only [f60_w5B, f60_w5b0N, f60_w5b0, PV.els]; rfl) h3 h1 k 0 _ (by simp only [List.length_append, pvI_len, List.length_cons, List.length_nil] at hl ⊢; omega) (by omega) (by omega)).trans ?_
    simp [pvI]
  by_cases c5 : v.kind = 5
  · simp only [c5, show ((5 : Int) = 1) = False from by simp, show ((5 : Int) = 2) = False from by simp, show ((5 : Int) = 3) = False from by simp, show ((5 : Int) = 4) = False from by simp, show ((5 : Int) = 5) = True from by simp, show ((5 : Int) = 6) = False from by simp, show ((5 : Int) = 7) = False from by simp, if_true, if_false, List.length_append] at hl
    simp only [c5, show ((5 : Int) = 1) = False from by simp, show ((5 : Int) = 2) = False from by simp, show ((5 : Int) = 3) = False from by simp, show ((5 : Int) = 4) = False from by simp, show ((5 : Int) = 5) = True from by simp, show ((5 : Int) = 6) = False from by simp, show ((5 : Int) = 7) = False from by simp, if_true, if_false]
    simp only [show decide ((5 : Int) = 1) = false from rfl, show decide ((5 : Int) = 2) = false from rfl, show decide ((5 : Int) = 3) = false from rfl, show decide ((5 : Int) = 4) = false from rfl, show decide ((5 : Int) = 5) = true from rfl, show decide ((5 : Int) = 6) = false from rfl, show decide ((5 : Int) = 7) = false from rfl, cond_true, cond_false, f60_w6N]
    rw [h3f [82] l _ (by simp only [List.length_cons, List.length_nil] at hl ⊢; omega)]
    refine (text_loop k (G82v1 k) (G60v1 k) ret v.kids [] (by omega) (f60_w6B k (G59 k) (G60v1 k) (G82 k) (G82v1 k) ret (.list (v.kids.map Val.pv))) (fun nx n l => by
      simp only [f60_w6B, f60_w6b0N, f60_w6b0, PV.els]; rfl) h3 h1 k 0 _ (by simp only [List.length_append, pvI_len, List.length_cons, List.length_nil] at hl ⊢; omega) (by omega) (by omega)).trans ?_
    simp [pvI]
  by_cases c6 : v.kind = 6
  · simp only [c6, show ((6 : Int) = 1) = False from by simp, show ((6 : Int) = 2) = False from by simp, show ((6 : Int) = 3) = False from by simp, show ((6 : Int) = 4) = False from by simp, show ((6 : Int) = 5) = False from by simp, show ((6 : Int) = 6) = True from by simp, show ((6 : Int) = 7) = False from by simp, if_true, if_false, List.length_append] at hl
    simp only [c6, show ((6 : Int) = 1) = False from by simp, show ((6 : Int) = 2) = False from by simp, show ((6 : Int) = 3) = False from by simp, show ((6 : Int) = 4) = False from by simp, show ((6 : Int) = 5) = False from by simp, show ((6 : Int) = 6) = True from by simp, show ((6 : Int) = 7) = False from by simp, if_true, if_false]
    simp only [show decide ((6 : Int) = 1) = false from rfl, show decide ((6 : Int) = 2) = false from rfl, show decide ((6 : Int) = 3) = false from rfl, show decide ((6 : Int) = 4) = false from rfl, show decide ((6 : Int) = 5) = false from rfl, show decide ((6 : Int) = 6) = true from rfl, show decide ((6 : Int) = 7) = false from rfl, cond_true, cond_false, f60_w7N]
    rw [h3f [91] l _ (by simp only [List.length_cons, List.length_nil] at hl ⊢; omega)]
    refine (text_loop k (G82v1 k) (G60v1 k) ret v.kids [93] (by omega) (f60_w7B k (G59 k) (G60v1 k) (G82 k) (G82v1 k) ret (.list (v.kids.map Val.pv))) (fun nx n l => by
      simp only [f60_w7B, f60_w7b0N, f60_w7b0, PV.els]; rfl) h3 h1 k 0 _ (by simp only [List.length_append, pvI_len, List.length_cons, List.length_nil] at hl ⊢; omega) (by omega) (by omega)).trans ?_
    simp [pvI]
  by_cases c7 : v.kind = 7
  · simp only [c7, show ((7 : Int) = 1) = False from by simp, show ((7 : Int) = 2) = False from by simp, show ((7 : Int) = 3) = False from by simp, show ((7 : Int) = 4) = False from by simp, show ((7 : Int) = 5) = False from by simp, show ((7 : Int) = 6) = False from by simp, show ((7 : Int) = 7) = True from by simp, if_true, if_false, List.length_append] at hl
    simp only [c7, show ((7 : Int) = 1) = False from by simp, show ((7 : Int) = 2) = False from by simp, show ((7 : Int) = 3) = False from by simp, show ((7 : Int) = 4) = False from by simp, show ((7 : Int) = 5) = False from by simp, show ((7 : Int) = 6) = False from by simp, show ((7 : Int) = 7) = True from by simp, if_true, if_false]
    simp only [show decide ((7 : Int) = 1) = false from rfl, show decide ((7 : Int) = 2) = false from rfl, show decide ((7 : Int) = 3) = false from rfl, show decide ((7 : Int) = 4) = false from rfl, show decide ((7 : Int) = 5) = false from rfl, show decide ((7 : Int) = 6) = false from rfl, show decide ((7 : Int) = 7) = true from rfl, cond_true, cond_false, f60_w8N]
    rw [h3f [60] l _ (by simp only [List.length_cons, List.length_nil] at hl ⊢; omega)]
    refine (text_loop k (G82v1 k) (G60v1 k) ret v.kids [62] (by omega) (f60_w8B k (G59 k) (G60v1 k) (G82 k) (G82v1 k) ret (.list (v.kids.map Val.pv))) (fun nx n l => by
      simp only [f60_w8B, f60_w8b0N, f60_w8b0, PV.els]; rfl) h3 h1 k 0 _ (by simp only [List.length_append, pvI_len, List.length_cons, List.length_nil] at hl ⊢; omega) (by omega) (by omega)).trans ?_
    simp [pvI]
  simp only [if_neg c1, if_neg c2, if_neg c3, if_neg c4, if_neg c5, if_neg c6, if_neg c7, List.length_append] at hl
  simp only [if_neg c1, if_neg c2, if_neg c3, if_neg c4, if_neg c5, if_neg c6, if_neg c7]
  simp only [decide_eq_false c1, decide_eq_false c2, decide_eq_false c3, decide_eq_false c4, decide_eq_false c5, decide_eq_false c6, decide_eq_false c7, cond_false, f60_w9N]
  rw [h3f [63] l _ (by simp only [List.length_cons, List.length_nil] at hl ⊢; omega)]
  refine (text_loop k (G82v1 k) (G60v1 k) ret v.kids [] (by omega) (f60_w9B k (G59 k) (G60v1 k) (G82 k) (G82v1 k) ret (.list (v.kids.map Val.pv))) (fun nx n l => by
    simp only [f60_w9B, f60_w9b0N, f60_w9b0, PV.els]; rfl) h3 h1 k 0 _ (by simp only [List.length_append, pvI_len, List.length_cons, List.length_nil] at hl ⊢; omega) (by omega) (by omega)).trans ?_
  simp [pvI]

theorem spec_Text (v : Val) (hv : v.Ok) (hs : v.Sm) : Ult fun k => ∀ ret, G25 k v.pv ret = ret v.txt :=
  Ult.succ ((spec_textf v hv hs).mono fun k h ret => by
    have hb := Val.txt_len v
    simp only [Val.Sm] at hs
    simp only [G25, f25_N, f25_e, G61]
    rw [h _ _ (by simp; omega), List.nil_append, pvI_num])
end Go.Proofs.Ytbellpoahhhmhaa
