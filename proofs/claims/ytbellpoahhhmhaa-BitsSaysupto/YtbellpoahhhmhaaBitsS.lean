/- The document's own reader: the printed functions of package catchpoleref8 that write choices and read them. -/
import Derived.Test.YtbellpoahhhmhaaBitsFl
import Derived.Test.YtbellpoahhhmhaaRefC
import Derived.Test.YtbellpoahhhmhaaCntV
import Derived.Test.YtbellpoahhhmhaaRefE
set_option linter.unusedSimpArgs false
set_option linter.unusedVariables false
set_option maxRecDepth 20000
namespace Go.Proofs.Ytbellpoahhhmhaa
open Go Go.X

theorem rbits_loop (k : Nat) (cB : PV → (List Int → R) → R) (ret : List Int → R) (v : Val) (hk : v.kids.length ≤ 274877906944) (body : (List Int × Int → R) → List Int × Int → R)
    (hbody : ∀ nx s5 n6, body nx (s5, n6) =
      bif (decide (n6 < (List.length (PV.els (PV.list (v.kids.map Val.pv))) : Int))) then
          bif (decide ((PV.num (PV.fld v.pv 0)) = (6 : Int))) then
            bif (decide (List.length s5 + List.length [48] ≤ 4611686018427387904)) then
              bif (true && decide ((0 : Int) ≤ n6) && decide (n6 < (List.length (PV.els (PV.list (v.kids.map Val.pv))) : Int))) then
                cB (List.getD (PV.els (PV.list (v.kids.map Val.pv))) (n6).toNat PV.nil) fun s7 =>
                bif (decide (List.length (s5 ++ [48]) + List.length s7 ≤ 4611686018427387904)) then
                  nx ((s5 ++ [48]) ++ s7, IntKind.wrap .i64 (n6 + (1 : Int)))
                else none
              else none
            else none
          else bif (true && decide ((0 : Int) ≤ n6) && decide (n6 < (List.length (PV.els (PV.list (v.kids.map Val.pv))) : Int))) then
            cB (List.getD (PV.els (PV.list (v.kids.map Val.pv))) (n6).toNat PV.nil) fun s8 =>
            bif (decide (List.length s5 + List.length s8 ≤ 4611686018427387904)) then
              nx (s5 ++ s8, IntKind.wrap .i64 (n6 + (1 : Int)))
            else none
          else none
        else bif (decide ((PV.num (PV.fld v.pv 0)) = (6 : Int))) then
          bif (decide (List.length s5 + List.length [49] ≤ 4611686018427387904)) then
            ret (s5 ++ [49])
          else none
        else ret s5)
    (hB : ∀ x ∈ v.kids, ∀ ret, cB x.pv ret = ret x.bits) (hkk : v.kids.length < k) (s0 : List Int) (h0 : s0.length + (restB v 0).length ≤ 35184372088832) :
    loopR body k (s0, (0 : Int)) = ret (s0 ++ restB v 0) := by
  have hv : PV.num (PV.fld v.pv 0) = v.kind := by rw [Val.fld0]; rfl
  have hl : (List.length (PV.els (PV.list (v.kids.map Val.pv))) : Int) = (v.kids.length : Int) := by rw [vels, List.length_map]
  have := vup (body := body) (fun (i : Nat) (s : List Int) => (s, (i : Int))) (fun i s => s.length + (restB v i).length ≤ 35184372088832) (res := fun i s => ret (s ++ restB v i)) v.kids.length ?_ ?_ k 0 s0 h0 (by omega) (by omega)
  · exact this
  · intro nx s hs
    rw [restB_end] at hs ⊢
    rw [hbody]
    simp only [hv, hl, decide_eq_false (show ¬ (v.kids.length : Int) < (v.kids.length : Int) by omega), cond_false]
    by_cases h6 : v.kind = 6
    · rw [if_pos h6] at hs ⊢
      have q : s.length + List.length [(49 : Nat)] ≤ 4611686018427387904 := by simp only [List.length_cons, List.length_nil] at hs ⊢; omega
      simp only [decide_eq_true h6, decide_eq_true q, cond_true]
    · rw [if_neg h6]
      simp only [decide_eq_false h6, cond_false, List.append_nil]
  · intro i hi nx s hs hnx
    rw [restB_step hi] at hs ⊢
    simp only [List.length_append] at hs
    rw [hbody]
    have hb := hB _ (List.getElem_mem hi)
    simp only [hv, hl, List.length_map, decide_eq_true (show (i : Int) < (v.kids.length : Int) by omega), decide_eq_true (show (0 : Int) ≤ (i : Int) by omega), Bool.and_self, cond_true, vels, getD_pv hi, wrap_succ (show i < 1099511627777 by omega), hb]
    by_cases h6 : v.kind = 6
    · simp only [if_pos h6, List.length_cons, List.length_nil] at hs
      have q : s.length + List.length [(48 : Nat)] ≤ 4611686018427387904 := by simp only [List.length_cons, List.length_nil]; omega
      have q2 : (s ++ [48]).length + (v.kids[i].bits).length ≤ 4611686018427387904 := by simp only [List.length_append, List.length_cons, List.length_nil]; omega
      simp only [if_pos h6, decide_eq_true h6, decide_eq_true q, decide_eq_true q2, cond_true]
      rw [hnx _ (by simp only [List.length_append, List.length_cons, List.length_nil]; omega)]
      simp only [List.append_assoc]
    · simp only [if_neg h6, List.length_nil] at hs
      have q2 : s.length + (v.kids[i].bits).length ≤ 4611686018427387904 := by omega
      simp only [if_neg h6, decide_eq_false h6, decide_eq_true q2, cond_true, cond_false, List.nil_append]
      rw [hnx _ (by simp only [List.length_append]; omega)]
      simp only [List.append_assoc]

theorem spec_rBits (v : Val) : v.Sm → Ult fun k => ∀ ret, G47 k v.pv ret = ret v.bits := by
  refine Val.ind (p := fun v => v.Sm → Ult fun k => ∀ ret, G47 k v.pv ret = ret v.bits) (fun kd b xs ih hsm => ?_) v
  have hall : Ult fun k => ∀ x ∈ (Val.mk kd b xs).kids, ∀ ret, G47 k x.pv ret = ret x.bits :=
    Ult.forall_mem fun x hx => ih x (Val.mem_kidl (v := Val.mk kd b xs) hx) (Val.Sm.kid hsm (Val.mem_kidl hx))
  refine Ult.succ ((hall.and (spec_counts.and (Ult.ge (xs.length + 1)))).mono fun k ⟨h1, h2, h4⟩ ret => ?_)
  have hkl : (Val.mk kd b xs).kids.length ≤ xs.length := Val.kids_length _
  have hlen : xs.length ≤ 274877906944 := hsm.length
  have hf := Val.bits_len (Val.mk kd b xs)
  simp only [Val.Sm] at hsm
  generalize Val.mk kd b xs = v at *
  rw [bits_rest] at hf ⊢
  simp only [G47, f47_N, f47_e, h2]
  have hv : PV.num (PV.fld v.pv 0) = v.kind := by rw [Val.fld0]; rfl
  rw [hv]
  by_cases k4 : v.kind = 4
  · simp only [if_pos k4, List.length_append, List.length_cons, List.length_nil] at hf
    rw [if_pos k4, decide_eq_true k4]
    exact rbits_loop k (G47 k) ret v (by omega) (f47_w1B k (G47 k) (G69 k) ret v.pv (.list (v.kids.map Val.pv))) (fun nx s n => rfl) h1 (by omega) [48] (by simp only [List.length_cons, List.length_nil]; omega)
  rw [if_neg k4, decide_eq_false k4]
  simp only [if_neg k4] at hf
  by_cases k5 : v.kind = 5
  · simp only [if_pos k5, List.length_append, List.length_cons, List.length_nil] at hf
    rw [if_pos k5, decide_eq_true k5]
    exact rbits_loop k (G47 k) ret v (by omega) (f47_w2B k (G47 k) (G69 k) ret v.pv (.list (v.kids.map Val.pv))) (fun nx s n => rfl) h1 (by omega) [49] (by simp only [List.length_cons, List.length_nil]; omega)
  · simp only [if_neg k5, List.length_append, List.length_cons, List.length_nil] at hf
    rw [if_neg k5, decide_eq_false k5]
    exact rbits_loop k (G47 k) ret v (by omega) (f47_w3B k (G47 k) (G69 k) ret v.pv (.list (v.kids.map Val.pv))) (fun nx s n => rfl) h1 (by omega) [] (by simp only [List.length_nil]; omega)

/-- An answer of the document's reader. -/
def AnsR (g : (PV → List Int → PV → Bool → R) → R) : Dres → Prop
  | some (v, b, t) => ∀ ret, g ret = ret v.pv b (.list (pvI t)) true
  | none => ∃ p s q, ∀ ret, g ret = ret p s q false
theorem AnsR.congr {g g' : (PV → List Int → PV → Bool → R) → R} {r : Dres} (h : AnsR g' r) (e : ∀ ret, g ret = g' ret) : AnsR g r := by
  have : g = g' := funext e
  rw [this]; exact h
def wrapR (n : Int) (r : Dres) : Dres :=
  match r with
  | some (v, b, t) => some (.mk n 0 [v], b, t)
  | none => none
theorem AnsR.mk {g g' : (PV → List Int → PV → Bool → R) → R} {r : Dres} (h : AnsR g' r) (n : Int) (e : ∀ ret, g ret = g' fun p s q b => ret (.agg [.int n, .int 0, .list [p]]) s q b) : AnsR g (wrapR n r) := by
  cases r with
  | none =>
    obtain ⟨p, s, q, h⟩ := h
    exact ⟨.agg [.int n, .int 0, .list [p]], s, q, fun ret => by rw [e, h]⟩
  | some r =>
    obtain ⟨v, b, t⟩ := r
    have h : ∀ ret, g' ret = ret v.pv b (.list (pvI t)) true := h
    exact fun ret => by rw [e, h]; rfl

theorem rget_loop (k : Nat) (c : Cor) (c0 : Cor) (l : List Cor) (hcl : c.kidl = c0 :: l) (hget : ∀ b t : List Int, Byt t → b.length ≤ 100000000000 → AnsR (G72 k c0.rpv b (.list (pvI t))) (dec c0 b t)) (b0 t0 : List Int) :
    ∀ (f n : Nat) (acc : List Val) (b t : List Int) (s : Sum Unit (List Int × PV × List PV)), f ≤ n → b.length < f → (s = .inr (b, .list (pvI t), acc.map Val.pv) ∨ (s = .inl () ∧ acc = [] ∧ b = b0 ∧ t = t0)) → Byt t → acc.length + b.length ≤ 100000000000 →
      AnsR (fun ret => loopR (f72_w1B k (G72 k) ret c.rpv b0 (.list (pvI t0))) n s) (decS (dec c0) f b t acc)
  | 0, n, acc, b, t, s, hn, hf, hs, hb, hacc => by omega
  | f + 1, 0, acc, b, t, s, hn, hf, hs, hb, hacc => by omega
  | f + 1, n + 1, acc, [], t, s, hn, hf, hs, hb, hacc => by
    rw [decS]
    refine ⟨.agg [.int 0, .int 0, .list []], [], .list (pvI t), fun ret => ?_⟩
    change loopR _ _ _ = _
    rw [vsucc]
    rcases hs with rfl | ⟨rfl, rfl, rfl, rfl⟩
    · rfl
    · rfl
  | f + 1, n + 1, acc, x :: b, t, s, hn, hf, hs, hb, hacc => by
    simp only [List.length_cons] at hf hacc
    rw [decS]
    have z0 : decide ((0 : Int) < ((x :: b).length : Int)) = true := decide_eq_true (by simp only [List.length_cons]; omega)
    have z1 : decide ((1 : Int) ≤ ((x :: b).length : Int)) = true := decide_eq_true (by simp only [List.length_cons]; omega)
    have z2 : decide (((x :: b).length : Int) = (0 : Int)) = false := decide_eq_false (by simp only [List.length_cons]; omega)
    have z3 : decide (((x :: b).length : Int) ≤ ((x :: b).length : Int)) = true := decide_eq_true (by omega)
    have z4 : decide ((0 : Int) ≤ (0 : Int)) = true := rfl
    have z5 : decide ((0 : Int) ≤ (1 : Int)) = true := rfl
    have hk0 : PV.els (PV.fld c.rpv 3) = c0.rpv :: l.map Cor.rpv := by rw [Cor.rfld3, vels, hcl]; rfl
    by_cases h9 : x = 49
    · subst h9
      rw [if_pos rfl]
      refine fun ret => ?_
      change loopR _ _ _ = _
      rw [vsucc]
      rcases hs with rfl | ⟨rfl, rfl, rfl, rfl⟩
      · simp only [f72_w1B, Sum.elim_inr, f72_w1b1N, f72_w1b1, z0, z1, z2, z3, z4, z5, Bool.and_self, beq_self_eq_true, cond_true, head1, tail1, dF (show ¬ (49 : Int) = 48 by decide), dT (show (49 : Int) = 49 from rfl), Val.pv, Val.pvs_eq]
        rfl
      · simp only [f72_w1B, Sum.elim_inl, f72_w1b0N, f72_w1b0, z0, z1, z2, z3, z4, z5, Bool.and_self, beq_self_eq_true, cond_true, head1, tail1, dF (show ¬ (49 : Int) = 48 by decide), dT (show (49 : Int) = 49 from rfl), Val.pv, Val.pvs_eq]
        rfl
    rw [if_neg h9]
    by_cases h8 : x = 48
    case neg =>
      rw [if_neg h8]
      refine ⟨.agg [.int 0, .int 0, .list []], x :: b, .list (pvI t), fun ret => ?_⟩
      change loopR _ _ _ = _
      rw [vsucc]
      rcases hs with rfl | ⟨rfl, rfl, rfl, rfl⟩
      · simp only [f72_w1B, Sum.elim_inr, f72_w1b1N, f72_w1b1, z0, z1, z2, z3, z4, z5, Bool.and_self, beq_self_eq_true, cond_true, cond_false, head1, tail1, dF h8, dF h9, Bool.not_false]
      · simp only [f72_w1B, Sum.elim_inl, f72_w1b0N, f72_w1b0, z0, z1, z2, z3, z4, z5, Bool.and_self, beq_self_eq_true, cond_true, cond_false, head1, tail1, dF h8, dF h9, Bool.not_false]
    subst h8
    rw [if_pos rfl]
    have hg := hget b t hb (by omega)
    have w0 : decide ((0 : Int) < ((c0.rpv :: l.map Cor.rpv).length : Int)) = true := decide_eq_true (by simp only [List.length_cons]; omega)
    have w1 : List.getD (c0.rpv :: l.map Cor.rpv) ((0 : Int)).toNat PV.nil = c0.rpv := by cases l <;> rfl
    cases hd : dec c0 b t with
    | none =>
      rw [hd] at hg
      obtain ⟨p, q, r, hg⟩ := hg
      refine ⟨.agg [.int 0, .int 0, .list []], 48 :: b, .list (pvI t), fun ret => ?_⟩
      change loopR _ _ _ = _
      rw [vsucc]
      rcases hs with rfl | ⟨rfl, rfl, rfl, rfl⟩
      · simp only [f72_w1B, Sum.elim_inr, f72_w1b1N, f72_w1b1, hk0, w0, w1, z0, z1, z2, z3, z4, z5, Bool.and_self, beq_self_eq_true, cond_true, head1, tail1, dT (show (48 : Int) = 48 from rfl), hg]
        rfl
      · simp only [f72_w1B, Sum.elim_inl, f72_w1b0N, f72_w1b0, hk0, w0, w1, z0, z1, z2, z3, z4, z5, Bool.and_self, beq_self_eq_true, cond_true, head1, tail1, dT (show (48 : Int) = 48 from rfl), hg]
        rfl
    | some r =>
      obtain ⟨v, b2, t2⟩ := r
      rw [hd] at hg
      obtain ⟨g1, g2, g3⟩ := get_le hd hb
      have hg : ∀ ret, G72 k c0.rpv b (.list (pvI t)) ret = ret v.pv b2 (.list (pvI t2)) true := hg
      simp only
      by_cases hl : t2.length = t.length
      · rw [if_pos hl]
        refine ⟨.agg [.int 0, .int 0, .list []], 48 :: b, .list (pvI t), fun ret => ?_⟩
        change loopR _ _ _ = _
        rw [vsucc]
        rcases hs with rfl | ⟨rfl, rfl, rfl, rfl⟩
        · simp only [f72_w1B, Sum.elim_inr, f72_w1b1N, f72_w1b1, hk0, w0, w1, z0, z1, z2, z3, z4, z5, Bool.and_self, beq_self_eq_true, cond_true, head1, tail1, dT (show (48 : Int) = 48 from rfl), decide_true, hg, els_len, decide_eq_true (show (t2.length : Int) = (t.length : Int) by omega), Bool.not_true]
        · simp only [f72_w1B, Sum.elim_inl, f72_w1b0N, f72_w1b0, hk0, w0, w1, z0, z1, z2, z3, z4, z5, Bool.and_self, beq_self_eq_true, cond_true, head1, tail1, dT (show (48 : Int) = 48 from rfl), decide_true, hg, els_len, decide_eq_true (show (t2.length : Int) = (t.length : Int) by omega), Bool.not_true]
      · rw [if_neg hl]
        have hrm : roomy ((acc.map Val.pv).length + [v.pv].length) 40 = true := by rw [List.length_map]; exact roomy_of (by simp only [List.length_cons, List.length_nil]; omega) (by simp only [List.length_cons, List.length_nil]; omega)
        have ih := rget_loop k c c0 l hcl hget b0 t0 f n (acc ++ [v]) b2 t2 (.inr (b2, .list (pvI t2), (acc ++ [v]).map Val.pv)) (by omega) (by omega) (.inl rfl) g1 (by simp only [List.length_append, List.length_cons, List.length_nil]; omega)
        refine ih.congr fun ret => ?_
        change loopR _ _ _ = _
        rw [vsucc]
        rcases hs with rfl | ⟨rfl, rfl, rfl, rfl⟩
        · simp only [f72_w1B, Sum.elim_inr, f72_w1b1N, f72_w1b1, hk0, w0, w1, z0, z1, z2, z3, z4, z5, Bool.and_self, beq_self_eq_true, cond_true, cond_false, head1, tail1, dT (show (48 : Int) = 48 from rfl), decide_true, hg, els_len, decide_eq_false (show ¬ (t2.length : Int) = (t.length : Int) by omega), Bool.not_true, hrm, List.map_append, List.map_cons, List.map_nil]
        · simp only [f72_w1B, Sum.elim_inl, f72_w1b0N, f72_w1b0, hk0, w0, w1, z0, z1, z2, z3, z4, z5, Bool.and_self, beq_self_eq_true, cond_true, cond_false, head1, tail1, dT (show (48 : Int) = 48 from rfl), decide_true, hg, els_len, decide_eq_false (show ¬ (t2.length : Int) = (t.length : Int) by omega), Bool.not_true, List.nil_append, List.map_cons, List.map_nil]

theorem spec_rgot (c : Cor) : c.fmd = true → Ult fun k => ∀ b t : List Int, Byt t → b.length ≤ 100000000000 → AnsR (G72 k c.rpv b (.list (pvI t))) (dec c b t) := by
  refine Cor.ind (p := fun c => c.fmd = true → Ult fun k => ∀ b t : List Int, Byt t → b.length ≤ 100000000000 → AnsR (G72 k c.rpv b (.list (pvI t))) (dec c b t)) (fun kd s m l ih hf => ?_) c
  simp only [Cor.fmd, Cor.nodeOk, Bool.and_eq_true, Cor.fmds_all, List.all_eq_true] at hf
  obtain ⟨⟨hlen, -⟩, hfm⟩ := hf
  have hlen : (l.length : Int) = Cor.partsI kd := by simpa using hlen
  have a0 : Ult fun k => ∀ c' ∈ l, ∀ b t : List Int, Byt t → b.length ≤ 100000000000 → AnsR (G72 k c'.rpv b (.list (pvI t))) (dec c' b t) :=
    Ult.forall_mem fun c' hc => ih c' hc (hfm c' hc)
  refine Ult.succ ((a0.and (Ult.ge 100000000002)).mono fun k ⟨h0, hk⟩ b t hb hbl => ?_)
  rw [dec_mk]
  have hkind : PV.num (PV.fld (Cor.mk kd s m l).rpv 0) = kd := by rw [Cor.rfld0]; rfl
  have hk3 : PV.els (PV.fld (Cor.mk kd s m l).rpv 3) = l.map Cor.rpv := by rw [Cor.rfld3, vels]
  have z4 : decide ((0 : Int) ≤ (0 : Int)) = true := rfl
  have z5 : decide ((0 : Int) ≤ (1 : Int)) = true := rfl
  have z6 : decide ((1 : Int) ≤ (1 : Int)) = true := rfl
  by_cases k1 : kd = 1
  · subst k1
    rw [if_pos rfl]
    refine fun ret => ?_
    simp only [G72, f72_N, f72_e, hkind, decide_true, cond_true]
    rfl
  rw [if_neg k1]
  by_cases k2 : kd = 2
  · subst k2
    rw [if_pos rfl]
    cases t with
    | nil =>
      refine ⟨.agg [.int 0, .int 0, .list []], b, .list (pvI []), fun ret => ?_⟩
      simp only [G72, f72_N, f72_e, hkind, dF k1, decide_true, cond_true, cond_false]
      rfl
    | cons x t =>
      have hx := hb x (by simp)
      have hd1 : List.drop ((1 : Int)).toNat (List.take (((x :: t).length : Int)).toNat (pvI (x :: t))) = pvI t := by
        rw [show (((x :: t).length : Int)).toNat = (pvI (x :: t)).length by simp [pvI], List.take_length]; rfl
      have hg1 : PV.num (List.getD (pvI (x :: t)) ((0 : Int)).toNat PV.nil) = x := rfl
      have hset : PV.tt (PV.fld (PV.fld (Cor.mk 2 s m l).rpv 1) x.toNat) = s.testBit x.toNat := by
        rw [Cor.rfld1, bl_tt _ (by omega)]
      have y0 : decide ((0 : Int) < ((x :: t).length : Int)) = true := decide_eq_true (by simp only [List.length_cons]; omega)
      have y1 : decide ((1 : Int) ≤ ((x :: t).length : Int)) = true := decide_eq_true (by simp only [List.length_cons]; omega)
      have y2 : decide (((x :: t).length : Int) = (0 : Int)) = false := decide_eq_false (by simp only [List.length_cons]; omega)
      have y3 : decide (((x :: t).length : Int) ≤ ((x :: t).length : Int)) = true := decide_eq_true (by omega)
      have hge : decide ((0 : Int) ≤ x) = true := decide_eq_true hx.1
      have hlt : decide (x < 256) = true := decide_eq_true hx.2
      have hnum : List.getD (PV.els (PV.list (pvI (x :: t)))) ((0 : Int)).toNat PV.nil = .int x := rfl
      have hdr : List.drop ((1 : Int)).toNat (List.take (((x :: t).length : Int)).toNat (PV.els (PV.list (pvI (x :: t))))) = pvI t := hd1
      have step : ∀ ret, G72 (k + 1) (Cor.mk 2 s m l).rpv b (.list (pvI (x :: t))) ret = bif (!s.testBit x.toNat) then ret (PV.agg [PV.int 0, PV.int 0, PV.list []]) b (.list (pvI (x :: t))) false else ret (PV.agg [PV.int 2, PV.int x, PV.list []]) b (.list (pvI t)) true := by
        intro ret
        simp only [G72, f72_N, f72_e, hkind, dF k1, decide_true, cond_true, cond_false, els_len, hnum, hdr, vnum, hset, hge, hlt, y0, y1, y2, y3, z4, z5, Bool.and_self, beq_self_eq_true]
      by_cases hs : s.testBit x.toNat = true
      · simp only
        rw [if_pos hs]
        refine fun ret => ?_
        rw [step, hs]; rfl
      · simp only
        rw [if_neg hs]
        have hs : s.testBit x.toNat = false := by simpa using hs
        refine ⟨.agg [.int 0, .int 0, .list []], b, .list (pvI (x :: t)), fun ret => ?_⟩
        rw [step, hs]; rfl
  rw [if_neg k2]
  by_cases k3 : kd = 3
  · subst k3
    rw [if_pos rfl]
    match l, hlen, h0, hk3, hkind with
    | [c0, c1], _, h0, hk3, hkind =>
      have hk3 : PV.els (PV.fld (Cor.mk 3 s m [c0, c1]).rpv 3) = [c0.rpv, c1.rpv] := hk3
      have u0 : decide ((0 : Int) < ([c0.rpv, c1.rpv].length : Int)) = true := rfl
      have u1 : decide ((1 : Int) < ([c0.rpv, c1.rpv].length : Int)) = true := rfl
      have v0 : List.getD [c0.rpv, c1.rpv] ((0 : Int)).toNat PV.nil = c0.rpv := rfl
      have v1 : List.getD [c0.rpv, c1.rpv] ((1 : Int)).toNat PV.nil = c1.rpv := rfl
      have p0 := h0 c0 (by simp) b t hb hbl
      simp only [decN]
      cases hd0 : dec c0 b t with
      | none =>
        rw [hd0] at p0
        obtain ⟨p, q, r, p0⟩ := p0
        refine ⟨.agg [.int 0, .int 0, .list []], b, .list (pvI t), fun ret => ?_⟩
        simp only [G72, f72_N, f72_e, hkind, dF k1, dF k2, decide_true, cond_true, cond_false, hk3, u0, v0, z4, Bool.and_self, p0, Bool.not_false]
      | some r =>
        obtain ⟨x, b1, t1⟩ := r
        rw [hd0] at p0
        have p0 : ∀ ret, G72 k c0.rpv b (.list (pvI t)) ret = ret x.pv b1 (.list (pvI t1)) true := p0
        obtain ⟨g1, g2, g3⟩ := get_le hd0 hb
        have p1 := h0 c1 (by simp) b1 t1 g1 (by omega)
        simp only
        cases hd1 : dec c1 b1 t1 with
        | none =>
          rw [hd1] at p1
          obtain ⟨p, q, r, p1⟩ := p1
          refine ⟨.agg [.int 3, .int 0, .list [x.pv, p]], q, r, fun ret => ?_⟩
          simp only [G72, f72_N, f72_e, hkind, dF k1, dF k2, decide_true, cond_true, cond_false, hk3, u0, u1, v0, v1, z4, z5, Bool.and_self, p0, p1, Bool.not_true]
        | some r =>
          obtain ⟨y, b2, t2⟩ := r
          rw [hd1] at p1
          have p1 : ∀ ret, G72 k c1.rpv b1 (.list (pvI t1)) ret = ret y.pv b2 (.list (pvI t2)) true := p1
          refine fun ret => ?_
          simp only [G72, f72_N, f72_e, hkind, dF k1, dF k2, decide_true, cond_true, cond_false, hk3, u0, u1, v0, v1, z4, z5, Bool.and_self, p0, p1, Bool.not_true]
          rfl
  rw [if_neg k3]
  by_cases k4 : kd = 4
  · subst k4
    rw [if_pos rfl]
    match l, hlen, h0, hk3, hkind with
    | [c0, c1], _, h0, hk3, hkind =>
      have hk3 : PV.els (PV.fld (Cor.mk 4 s m [c0, c1]).rpv 3) = [c0.rpv, c1.rpv] := hk3
      cases b with
      | nil =>
        refine ⟨.agg [.int 0, .int 0, .list []], [], .list (pvI t), fun ret => ?_⟩
        simp only [G72, f72_N, f72_e, hkind, dF k1, dF k2, dF k3, decide_true, cond_true, cond_false]
        rfl
      | cons x b =>
        simp only [List.length_cons] at hbl
        have y0 : decide ((0 : Int) < ((x :: b).length : Int)) = true := decide_eq_true (by simp only [List.length_cons]; omega)
        have y1 : decide ((1 : Int) ≤ ((x :: b).length : Int)) = true := decide_eq_true (by simp only [List.length_cons]; omega)
        have y2 : decide (((x :: b).length : Int) = (0 : Int)) = false := decide_eq_false (by simp only [List.length_cons]; omega)
        have y3 : decide (((x :: b).length : Int) ≤ ((x :: b).length : Int)) = true := decide_eq_true (by omega)
        have u0 : decide ((0 : Int) < ([c0.rpv, c1.rpv].length : Int)) = true := rfl
        have u1 : decide ((1 : Int) < ([c0.rpv, c1.rpv].length : Int)) = true := rfl
        have v0 : List.getD [c0.rpv, c1.rpv] ((0 : Int)).toNat PV.nil = c0.rpv := rfl
        have v1 : List.getD [c0.rpv, c1.rpv] ((1 : Int)).toNat PV.nil = c1.rpv := rfl
        simp only [decN]
        by_cases h8 : x = 48
        · subst h8
          rw [if_pos rfl]
          have wz : IntKind.wrap .i64 (IntKind.wrap .u8 ((48 : Int) - 48)) = 0 := by decide
          have wy : IntKind.wrap .i64 ((4 : Int) + 0) = 4 := by decide
          refine (h0 c0 (by simp) b t hb (by omega)).mk 4 fun ret => ?_
          simp only [G72, f72_N, f72_e, hkind, dF k1, dF k2, dF k3, decide_true, cond_true, cond_false, head1, tail1, dT (show (48 : Int) = 48 from rfl), wz, wy, hk3, u0, v0, y0, y1, y2, y3, z4, z5, Bool.and_self, beq_self_eq_true, Bool.not_true]
          rfl
        rw [if_neg h8]
        by_cases h9 : x = 49
        · subst h9
          rw [if_pos rfl]
          have wz : IntKind.wrap .i64 (IntKind.wrap .u8 ((49 : Int) - 48)) = 1 := by decide
          have wy : IntKind.wrap .i64 ((4 : Int) + 1) = 5 := by decide
          refine (h0 c1 (by simp) b t hb (by omega)).mk 5 fun ret => ?_
          simp only [G72, f72_N, f72_e, hkind, dF k1, dF k2, dF k3, decide_true, cond_true, cond_false, head1, tail1, dF h8, dT (show (49 : Int) = 49 from rfl), wz, wy, hk3, u1, v1, y0, y1, y2, y3, z4, z5, Bool.and_self, beq_self_eq_true, Bool.not_true, Bool.not_false]
        rw [if_neg h9]
        refine ⟨.agg [.int 0, .int 0, .list []], x :: b, .list (pvI t), fun ret => ?_⟩
        simp only [G72, f72_N, f72_e, hkind, dF k1, dF k2, dF k3, decide_true, cond_true, cond_false, head1, tail1, dF h8, dF h9, y0, y1, y2, y3, z4, z5, Bool.and_self, beq_self_eq_true, Bool.not_false]
  rw [if_neg k4]
  by_cases k5 : kd = 5
  · subst k5
    rw [if_pos rfl]
    match l, hlen, h0, hk3, hkind with
    | [c0], _, h0, hk3, hkind =>
      rw [show decN [c0] 0 = dec c0 from funext fun b => funext fun t => by simp [decN]]
      refine (rget_loop k (.mk 5 s m [c0]) c0 [] rfl (h0 c0 (by simp)) b t (b.length + 1) k [] b t (.inl ()) (by omega) (by omega) (.inr ⟨rfl, rfl, rfl, rfl⟩) hb (by simp only [List.length_nil]; omega)).congr fun ret => ?_
      simp only [G72, f72_N, f72_e, hkind, dF k1, dF k2, dF k3, dF k4, decide_true, cond_true, cond_false, f72_w1N]
  rw [if_neg k5]
  by_cases k6 : kd = 6
  · subst k6
    rw [if_pos rfl]
    match l, hlen, h0, hk3, hkind with
    | [c0], _, h0, hk3, hkind =>
      have hk3 : PV.els (PV.fld (Cor.mk 6 s m [c0]).rpv 3) = [c0.rpv] := hk3
      have u0 : decide ((0 : Int) < ([c0.rpv].length : Int)) = true := rfl
      have v0 : List.getD [c0.rpv] ((0 : Int)).toNat PV.nil = c0.rpv := rfl
      rw [decN]
      refine (h0 c0 (by simp) b t hb hbl).mk 7 fun ret => ?_
      simp only [G72, f72_N, f72_e, hkind, dF k1, dF k2, dF k3, dF k4, dF k5, decide_true, cond_true, cond_false, hk3, u0, v0, z4, Bool.and_self]
  rw [if_neg k6]
  by_cases k7 : kd = 7
  · subst k7
    rw [if_pos rfl]
    match l, hlen, h0, hk3, hkind with
    | [c0], _, h0, hk3, hkind =>
      have hk3 : PV.els (PV.fld (Cor.mk 7 s m [c0]).rpv 3) = [c0.rpv] := hk3
      have u0 : decide ((0 : Int) < ([c0.rpv].length : Int)) = true := rfl
      have v0 : List.getD [c0.rpv] ((0 : Int)).toNat PV.nil = c0.rpv := rfl
      rw [decN]
      refine (h0 c0 (by simp) b t hb hbl).congr fun ret => ?_
      simp only [G72, f72_N, f72_e, hkind, dF k1, dF k2, dF k3, dF k4, dF k5, dF k6, decide_true, cond_true, cond_false, hk3, u0, v0, z4, Bool.and_self]
  rw [if_neg k7]
  refine ⟨.agg [.int 0, .int 0, .list []], b, .list (pvI t), fun ret => ?_⟩
  simp only [G72, f72_N, f72_e, hkind, dF k1, dF k2, dF k3, dF k4, dF k5, dF k6, dF k7, cond_false]

theorem spec_rGet (c : Cor) (hc : c.Ok) (hs : c.Sm) : Ult fun k => ∀ b t : List Int, Byt t → b.length ≤ 100000000000 → ∀ ret, G44 k c.rpv b (.list (pvI t)) ret = ret (got c b t).1.pv (got c b t).2 := by
  by_cases hg : c.good = true
  · refine Ult.succ (((spec_rGood c hc hs).and (spec_rgot c (good_fmd hg))).mono fun k ⟨h1, h2⟩ b t hb hbl ret => ?_)
    have h2 := h2 b t hb hbl
    simp only [G44, f44_N, f44_e, h1, hg, Bool.not_true, beq_self_eq_true, cond_true, els_len, got, if_true]
    by_cases hl : 256 < t.length
    · rw [decide_eq_true (show (256 : Int) < (t.length : Int) by omega), if_pos hl]; rfl
    rw [decide_eq_false (show ¬ (256 : Int) < (t.length : Int) by omega), if_neg hl]
    simp only [cond_false]
    cases hd : dec c b t with
    | none =>
      rw [hd] at h2
      obtain ⟨p, q, r, h2⟩ := h2
      rw [h2]
      rfl
    | some r =>
      obtain ⟨v, b', t'⟩ := r
      rw [hd] at h2
      have h2 : ∀ ret, G72 k c.rpv b (.list (pvI t)) ret = ret v.pv b' (.list (pvI t')) true := h2
      rw [h2]
      simp only [els_len, Bool.not_true, beq_self_eq_true, cond_true]
      cases b' with
      | nil =>
        cases t' with
        | nil => simp
        | cons y t' =>
          simp only [decide_eq_false (show ¬ (0 : Int) < (([] : List Int).length : Int) by simp), beq_self_eq_true, cond_true, decide_eq_true (show (0 : Int) < ((y :: t').length : Int) by simp only [List.length_cons]; omega)]
          rw [if_neg (by simp)]; rfl
      | cons x b' =>
        rw [if_neg (by simp)]
        simp only [decide_eq_true (show (0 : Int) < ((x :: b').length : Int) by simp only [List.length_cons]; omega)]
        rfl
  · refine Ult.succ ((spec_rGood c hc hs).mono fun k h1 b t hb hbl ret => ?_)
    have hg' : c.good = false := by simpa using hg
    simp only [G44, f44_N, f44_e, h1, got, hg']
    rfl
end Go.Proofs.Ytbellpoahhhmhaa
