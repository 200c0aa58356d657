/- The reader of package bits: what its printed functions find. -/
import Derived.Test.YtbellpoahhhmhaaBitsD
set_option linter.unusedSimpArgs false
set_option linter.unusedVariables false
set_option maxRecDepth 20000
namespace Go.Proofs.Ytbellpoahhhmhaa
open Go Go.X

/-- A reader: what is left of the choices and of the bytes. -/
def rd (b t : List Int) : PV := .agg [.str b, .list (pvI t)]
theorem rd_b (b t : List Int) : PV.chars (PV.fld (rd b t) 0) = b := by cases b <;> rfl
theorem rd_t (b t : List Int) : PV.els (PV.fld (rd b t) 1) = pvI t := by cases b <;> rfl
theorem rd_setb (b t b' : List Int) : PV.agg (List.set (PV.flds (rd b t)) 0 (PV.str b')) = rd b' t := by cases b <;> rfl
theorem rd_sett (b t t' : List Int) : PV.agg (List.set (PV.flds (rd b t)) 1 (PV.list (pvI t'))) = rd b t' := by cases b <;> rfl
def Byt (t : List Int) : Prop := ∀ x ∈ t, 0 ≤ x ∧ x < 256
theorem Byt.tail {a b : List Int} (h : Byt (a ++ b)) : Byt b := fun x hx => h x (by simp [hx])

/-- An answer: a value, and the reader behind it; or none. -/
def Ans (g : (PV → Bool → PV → R) → R) : Dres → Prop
  | some (v, b, t) => ∀ ret, g ret = ret v.pv true (rd b t)
  | none => ∃ p q, ∀ ret, g ret = ret p false q
theorem Ans.congr {g g' : (PV → Bool → PV → R) → R} {r : Dres} (h : Ans g' r) (e : ∀ ret, g ret = g' ret) : Ans g r := by
  have : g = g' := funext e
  rw [this]; exact h
theorem Ans.no {g : (PV → Bool → PV → R) → R} (p q : PV) (h : ∀ ret, g ret = ret p false q) : Ans g none := ⟨p, q, h⟩

theorem tail1 (x : Int) (b : List Int) : List.drop ((1 : Int)).toNat (List.take (((x :: b).length : Int)).toNat (x :: b)) = b := by simp
theorem head1 (x : Int) (b : List Int) : List.getD (x :: b) ((0 : Int)).toNat 0 = x := by cases b <;> rfl

theorem spec_choice : Ult fun k => ∀ (b t : List Int) ret, G88 k (rd b t) ret = (match b with
    | [] => ret false false (rd [] t)
    | x :: b' => if x = 48 then ret false true (rd b' t) else if x = 49 then ret true true (rd b' t) else ret false false (rd (x :: b') t)) :=
  Ult.succ (Ult.of fun k b t ret => by
    simp only [G88, f88_N, f88_e]
    have hq := rd_b b t
    generalize PV.chars (PV.fld (rd b t) 0) = q at hq
    subst hq
    simp only [rd_setb]
    cases q with
    | nil => rfl
    | cons x b =>
      simp only [tail1, head1]
      by_cases h8 : x = 48
      · subst h8
        rw [if_pos rfl]
        simp only [decide_eq_false (show ¬ (48 :: b : List Int) = [] by simp), decide_eq_true (show (0 : Int) ≤ 0 by omega), decide_eq_true (show (0 : Int) ≤ 1 by omega), decide_eq_true (show (0 : Int) < ((48 :: b).length : Int) by simp only [List.length_cons]; omega), decide_eq_true (show (1 : Int) ≤ ((48 :: b).length : Int) by simp only [List.length_cons]; omega), decide_eq_true (show ((48 :: b).length : Int) ≤ ((48 :: b).length : Int) by omega), Bool.and_self, cond_true]
        rfl
      rw [if_neg h8]
      by_cases h9 : x = 49
      · subst h9
        rw [if_pos rfl]
        simp only [decide_eq_false (show ¬ (49 :: b : List Int) = [] by simp), decide_eq_true (show (0 : Int) ≤ 0 by omega), decide_eq_true (show (0 : Int) ≤ 1 by omega), decide_eq_true (show (0 : Int) < ((49 :: b).length : Int) by simp only [List.length_cons]; omega), decide_eq_true (show (1 : Int) ≤ ((49 :: b).length : Int) by simp only [List.length_cons]; omega), decide_eq_true (show ((49 :: b).length : Int) ≤ ((49 :: b).length : Int) by omega), Bool.and_self, cond_true]
        rfl
      rw [if_neg h9]
      simp only [decide_eq_false h8, decide_eq_false h9, decide_eq_false (show ¬ (x :: b : List Int) = [] by simp), decide_eq_true (show (0 : Int) ≤ 0 by omega), decide_eq_true (show (0 : Int) < ((x :: b).length : Int) by simp only [List.length_cons]; omega), Bool.and_self, cond_true, Bool.not_false, beq_self_eq_true])

/-- A value of each of some cores, one behind the other. -/
def decA : List Cor → List Int → List Int → List Val → Option (List Val × List Int × List Int)
  | [], b, t, acc => some (acc, b, t)
  | c :: cs, b, t, acc =>
    match dec c b t with
    | some (x, b1, t1) => decA cs b1 t1 (acc ++ [x])
    | none => none
def mkR (n : Int) (r : Option (List Val × List Int × List Int)) : Dres :=
  match r with
  | some (vs, b, t) => some (.mk n 0 vs, b, t)
  | none => none

theorem get_le {c : Cor} {b t : List Int} {v : Val} {b' t' : List Int} (h : dec c b t = some (v, b', t')) (hb : Byt t) : Byt t' ∧ b'.length ≤ b.length ∧ t'.length ≤ t.length := by
  obtain ⟨_, _, h3, h4⟩ := dec_found c _ _ _ _ _ h
  refine ⟨?_, by rw [h3]; simp, by rw [h4]; simp⟩
  rw [h4] at hb; exact hb.tail

theorem all_loop (k : Nat) (l : List Cor) (hget : ∀ c ∈ l, ∀ b t : List Int, Byt t → b.length ≤ 100000000000 → Ans (G71 k c.pv (rd b t)) (dec c b t)) (n1 : Int) (b0 t0 : List Int) :
    ∀ (rest : List Cor) (i n : Nat) (acc : List Val) (b t : List Int) (s : Sum Unit (Int × List PV × PV)), l.drop i = rest → rest.length < n → (s = .inr ((i : Int), acc.map Val.pv, rd b t) ∨ (s = .inl () ∧ i = 0 ∧ acc = [] ∧ b = b0 ∧ t = t0)) → Byt t → b.length ≤ 100000000000 → acc.length + rest.length ≤ 1000 → i + rest.length ≤ 1000 →
      Ans (fun ret => loopR (f87_w1B k (G71 k) ret n1 (.list (l.map Cor.pv)) (rd b0 t0)) n s) (mkR n1 (decA rest b t acc))
  | [], i, n + 1, acc, b, t, s, hl, hn, hs, hb, hlen, hacc, hi => by
    have hil : l.length ≤ i := List.drop_eq_nil_iff.1 hl
    refine fun ret => ?_
    change loopR _ _ _ = _
    rw [vsucc]
    rcases hs with rfl | ⟨rfl, rfl, rfl, rfl, rfl⟩
    · simp only [f87_w1B, Sum.elim_inr, f87_w1b1N, f87_w1b1, PV.els, List.length_map, decide_eq_false (show ¬ (i : Int) < (l.length : Int) by omega), cond_false, Val.pv, Val.pvs_eq]
    · simp only [f87_w1B, Sum.elim_inl, f87_w1b0N, f87_w1b0, PV.els, List.length_map, decide_eq_false (show ¬ (0 : Int) < (l.length : Int) by omega), cond_false, Val.pv, Val.pvs_eq, List.map_nil]
  | _, i, 0, acc, b, t, s, hl, hn, hs, hb, hlen, hacc, hi => by omega
  | c :: rest, i, n + 1, acc, b, t, s, hl, hn, hs, hb, hlen, hacc, hi => by
    have hil : i < l.length := by
      rcases Nat.lt_or_ge i l.length with h | h
      · exact h
      · rw [List.drop_eq_nil_of_le h] at hl; cases hl
    have hci : l[i] = c ∧ l.drop (i + 1) = rest := by
      rw [drop_cons hil, List.cons.injEq] at hl; exact hl
    have hg := hget c (by rw [← hci.1]; exact List.getElem_mem hil) b t hb hlen
    simp only [List.length_cons] at hn hacc hi
    have hgd : List.getD (l.map Cor.pv) ((i : Int)).toNat PV.nil = c.pv := by rw [getD_map Cor.pv hil, hci.1]
    cases hd : dec c b t with
    | none =>
      rw [hd] at hg
      obtain ⟨p, q, hg⟩ := hg
      rw [decA, hd]
      refine ⟨.agg [.int 0, .int 0, .list []], q, fun ret => ?_⟩
      change loopR _ _ _ = _
      rw [vsucc]
      rcases hs with rfl | ⟨rfl, rfl, rfl, rfl, rfl⟩
      · simp only [f87_w1B, Sum.elim_inr, f87_w1b1N, f87_w1b1, PV.els, List.length_map, decide_eq_true (show (i : Int) < (l.length : Int) by omega), decide_eq_true (show (0 : Int) ≤ (i : Int) by omega), Bool.and_self, cond_true, hgd, hg, Bool.not_false]
      · simp only [f87_w1B, Sum.elim_inl, f87_w1b0N, f87_w1b0, PV.els, List.length_map, decide_eq_true (show (0 : Int) < (l.length : Int) by omega), decide_eq_true (show (0 : Int) ≤ (0 : Int) by omega), Bool.and_self, cond_true]
        rw [show List.getD (l.map Cor.pv) ((0 : Int)).toNat PV.nil = c.pv from hgd, hg]
        rfl
    | some r =>
      obtain ⟨v, b2, t2⟩ := r
      rw [hd] at hg
      obtain ⟨g1, g2, g3⟩ := get_le hd hb
      have ih := all_loop k l hget n1 b0 t0 rest (i + 1) n (acc ++ [v]) b2 t2 (.inr (((i + 1 : Nat) : Int), (acc ++ [v]).map Val.pv, rd b2 t2)) hci.2 (by omega) (.inl rfl) g1 (by omega) (by simp only [List.length_append, List.length_cons, List.length_nil]; omega) (by omega)
      rw [decA, hd]
      simp only
      refine ih.congr fun ret => ?_
      have hg : ∀ ret, G71 k c.pv (rd b t) ret = ret v.pv true (rd b2 t2) := hg
      change loopR _ _ _ = _
      rw [vsucc]
      rcases hs with rfl | ⟨rfl, rfl, rfl, rfl, rfl⟩
      · simp only [f87_w1B, Sum.elim_inr, f87_w1b1N, f87_w1b1, PV.els, List.length_map, decide_eq_true (show (i : Int) < (l.length : Int) by omega), decide_eq_true (show (0 : Int) ≤ (i : Int) by omega), Bool.and_self, cond_true, hgd, hg, Bool.not_true, cond_false, List.length_cons, List.length_nil, roomy_of (show (acc.length + (0 + 1)) * 40 ≤ 35184372088832 by omega) (by omega), wrap_succ (show i < 1099511627777 by omega), List.map_append, List.map_cons, List.map_nil]
      · simp only [f87_w1B, Sum.elim_inl, f87_w1b0N, f87_w1b0, PV.els, List.length_map, decide_eq_true (show (0 : Int) < (l.length : Int) by omega), decide_eq_true (show (0 : Int) ≤ (0 : Int) by omega), Bool.and_self, cond_true]
        rw [show List.getD (l.map Cor.pv) ((0 : Int)).toNat PV.nil = c.pv from hgd, hg]
        rfl

theorem often_loop (k : Nat) (c : Cor) (hget : ∀ b t : List Int, Byt t → b.length ≤ 100000000000 → Ans (G71 k c.pv (rd b t)) (dec c b t))
    (hch : ∀ (b t : List Int) ret, G88 k (rd b t) ret = (match b with
      | [] => ret false false (rd [] t)
      | x :: b' => if x = 48 then ret false true (rd b' t) else if x = 49 then ret true true (rd b' t) else ret false false (rd (x :: b') t))) (b0 t0 : List Int) :
    ∀ (f n : Nat) (acc : List Val) (b t : List Int) (s : Sum Unit (List PV × PV)), f ≤ n → b.length < f → (s = .inr (acc.map Val.pv, rd b t) ∨ (s = .inl () ∧ acc = [] ∧ b = b0 ∧ t = t0)) → Byt t → acc.length + b.length ≤ 100000000000 →
      Ans (fun ret => loopR (f89_w1B k (G71 k) (G88 k) ret c.pv (rd b0 t0)) n s) (decS (dec c) f b t acc)
  | 0, n, acc, b, t, s, hn, hf, hs, hb, hacc => by omega
  | f + 1, 0, acc, b, t, s, hn, hf, hs, hb, hacc => by omega
  | f + 1, n + 1, acc, [], t, s, hn, hf, hs, hb, hacc => by
    rw [decS]
    refine ⟨(Val.mk 6 0 acc).pv, rd [] t, fun ret => ?_⟩
    change loopR _ _ _ = _
    rw [vsucc]
    rcases hs with rfl | ⟨rfl, rfl, rfl, rfl⟩
    · simp only [f89_w1B, Sum.elim_inr, f89_w1b1N, f89_w1b1, hch, Bool.not_false, Val.pv, Val.pvs_eq]
      rfl
    · simp only [f89_w1B, Sum.elim_inl, f89_w1b0N, f89_w1b0, hch, Bool.not_false, Val.pv, Val.pvs_eq]
      rfl
  | f + 1, n + 1, acc, x :: b, t, s, hn, hf, hs, hb, hacc => by
    simp only [List.length_cons] at hf hacc
    rw [decS]
    by_cases h9 : x = 49
    · subst h9
      rw [if_pos rfl]
      refine fun ret => ?_
      change loopR _ _ _ = _
      rw [vsucc]
      rcases hs with rfl | ⟨rfl, rfl, rfl, rfl⟩
      · simp only [f89_w1B, Sum.elim_inr, f89_w1b1N, f89_w1b1, hch, Val.pv, Val.pvs_eq]
        rfl
      · simp only [f89_w1B, Sum.elim_inl, f89_w1b0N, f89_w1b0, hch, Val.pv, Val.pvs_eq]
        rfl
    rw [if_neg h9]
    by_cases h8 : x = 48
    case neg =>
      rw [if_neg h8]
      refine ⟨(Val.mk 6 0 acc).pv, rd (x :: b) t, fun ret => ?_⟩
      change loopR _ _ _ = _
      rw [vsucc]
      rcases hs with rfl | ⟨rfl, rfl, rfl, rfl⟩
      · simp only [f89_w1B, Sum.elim_inr, f89_w1b1N, f89_w1b1, hch, if_neg h8, if_neg h9, Val.pv, Val.pvs_eq]
        rfl
      · simp only [f89_w1B, Sum.elim_inl, f89_w1b0N, f89_w1b0, hch, if_neg h8, if_neg h9, Val.pv, Val.pvs_eq]
        rfl
    subst h8
    rw [if_pos rfl]
    have hg := hget b t hb (by omega)
    cases hd : dec c b t with
    | none =>
      rw [hd] at hg
      obtain ⟨p, q, hg⟩ := hg
      refine ⟨.agg [.int 0, .int 0, .list []], q, fun ret => ?_⟩
      change loopR _ _ _ = _
      rw [vsucc]
      rcases hs with rfl | ⟨rfl, rfl, rfl, rfl⟩
      · simp only [f89_w1B, Sum.elim_inr, f89_w1b1N, f89_w1b1, hch, if_true, hg]
        rfl
      · simp only [f89_w1B, Sum.elim_inl, f89_w1b0N, f89_w1b0, hch, if_true, hg]
        rfl
    | some r =>
      obtain ⟨v, b2, t2⟩ := r
      rw [hd] at hg
      obtain ⟨g1, g2, g3⟩ := get_le hd hb
      have hg : ∀ ret, G71 k c.pv (rd b t) ret = ret v.pv true (rd b2 t2) := hg
      simp only
      by_cases hl : t2.length = t.length
      · rw [if_pos hl]
        refine ⟨.agg [.int 0, .int 0, .list []], rd b2 t2, fun ret => ?_⟩
        change loopR _ _ _ = _
        rw [vsucc]
        rcases hs with rfl | ⟨rfl, rfl, rfl, rfl⟩
        · simp only [f89_w1B, Sum.elim_inr, f89_w1b1N, f89_w1b1, hch, if_true, hg, rd_t, pvI_len, decide_eq_true (show (t2.length : Int) = (t.length : Int) by omega)]
          rfl
        · simp only [f89_w1B, Sum.elim_inl, f89_w1b0N, f89_w1b0, hch, if_true, hg, rd_t, pvI_len, decide_eq_true (show (t2.length : Int) = (t.length : Int) by omega)]
          rfl
      · rw [if_neg hl]
        have ih := often_loop k c hget hch b0 t0 f n (acc ++ [v]) b2 t2 (.inr ((acc ++ [v]).map Val.pv, rd b2 t2)) (by omega) (by omega) (.inl rfl) g1 (by simp only [List.length_append, List.length_cons, List.length_nil]; omega)
        refine ih.congr fun ret => ?_
        change loopR _ _ _ = _
        rw [vsucc]
        rcases hs with rfl | ⟨rfl, rfl, rfl, rfl⟩
        · simp only [f89_w1B, Sum.elim_inr, f89_w1b1N, f89_w1b1, hch, if_true, hg, rd_t, pvI_len, decide_eq_false (show ¬ (t2.length : Int) = (t.length : Int) by omega), List.length_map, List.length_cons, List.length_nil, roomy_of (show (acc.length + (0 + 1)) * 40 ≤ 35184372088832 by omega) (by omega), List.map_append, List.map_cons, List.map_nil]
          rfl
        · simp only [f89_w1B, Sum.elim_inl, f89_w1b0N, f89_w1b0, hch, if_true, hg, rd_t, pvI_len, decide_eq_false (show ¬ (t2.length : Int) = (t.length : Int) by omega)]
          rfl

theorem spec_get (c : Cor) : c.fmd = true → Ult fun k => ∀ b t : List Int, Byt t → b.length ≤ 100000000000 → Ans (G71 k c.pv (rd b t)) (dec c b t) := by
  refine Cor.ind (p := fun c => c.fmd = true → Ult fun k => ∀ b t : List Int, Byt t → b.length ≤ 100000000000 → Ans (G71 k c.pv (rd b t)) (dec c b t)) (fun kd s m l ih hf => ?_) c
  simp only [Cor.fmd, Cor.nodeOk, Bool.and_eq_true, Cor.fmds_all, List.all_eq_true] at hf
  obtain ⟨⟨hlen, -⟩, hfm⟩ := hf
  have hlen : (l.length : Int) = Cor.partsI kd := by simpa using hlen
  have a0 : Ult fun k => ∀ c' ∈ l, ∀ b t : List Int, Byt t → b.length ≤ 100000000000 → Ans (G71 k c'.pv (rd b t)) (dec c' b t) :=
    Ult.forall_mem fun c' hc => ih c' hc (hfm c' hc)
  have a1 : Ult fun k => ∀ cs : List Cor, (∀ c' ∈ cs, c' ∈ l) → cs.length ≤ 2 → ∀ (n : Int) (b t : List Int), Byt t → b.length ≤ 100000000000 → Ans (G87 k n (.list (cs.map Cor.pv)) (rd b t)) (mkR n (decA cs b t [])) :=
    Ult.succ ((a0.and (Ult.ge 10)).mono fun k ⟨h, hk⟩ cs hcs hl2 n b t hb hbl =>
      (all_loop k cs (fun c' hc => h c' (hcs c' hc)) n b t cs 0 k [] b t (.inl ()) rfl (by omega) (.inr ⟨rfl, rfl, rfl, rfl, rfl⟩) hb hbl (by simp only [List.length_nil]; omega) (by omega)).congr fun ret => by
        simp only [G87, f87_N, f87_e, f87_w1N])
  have a2 : Ult fun k => ∀ c' ∈ l, ∀ b t : List Int, Byt t → b.length ≤ 100000000000 → Ans (G89 k c'.pv (rd b t)) (decS (dec c') (b.length + 1) b t []) :=
    Ult.succ ((a0.and (spec_choice.and (Ult.ge 100000000002))).mono fun k ⟨h, hch, hk⟩ c' hc b t hb hbl =>
      (often_loop k c' (h c' hc) hch b t (b.length + 1) k [] b t (.inl ()) (by omega) (by omega) (.inr ⟨rfl, rfl, rfl, rfl⟩) hb (by simp only [List.length_nil]; omega)).congr fun ret => by
        simp only [G89, f89_N, f89_e, f89_w1N])
  refine Ult.succ ((a0.and (a1.and (a2.and (spec_choice.and spec_Has)))).mono fun k ⟨h0, h1, h2, h3, h4⟩ b t hb hbl => ?_)
  rw [dec_mk]
  by_cases k1 : kd = 1
  · subst k1
    rw [if_pos rfl]
    refine fun ret => ?_
    simp only [G71, f71_N, f71_e, Cor.fld0, PV.num, Cor.kind, decide_true, cond_true]
    rfl
  rw [if_neg k1]
  by_cases k2 : kd = 2
  · subst k2
    rw [if_pos rfl]
    cases t with
    | nil =>
      refine ⟨.agg [.int 0, .int 0, .list []], rd b [], fun ret => ?_⟩
      simp only [G71, f71_N, f71_e, Cor.fld0, PV.num, Cor.kind, dF k1, decide_true, cond_true, cond_false, rd_t]
      rfl
    | cons x t =>
      have hx := hb x (by simp)
      have hh : ∀ ret, G79 k (bs s) x ret = ret (s.testBit x.toNat) := by
        intro ret
        have := h4 s x.toNat ret (by omega)
        rwa [Int.toNat_of_nonneg hx.1] at this
      have hd1 : List.drop ((1 : Int)).toNat (List.take (((x :: t).length : Int)).toNat (pvI (x :: t))) = pvI t := by
        rw [show (((x :: t).length : Int)).toNat = (pvI (x :: t)).length by simp [pvI], List.take_length]; rfl
      have hg1 : PV.num (List.getD (pvI (x :: t)) ((0 : Int)).toNat PV.nil) = x := rfl
      simp only
      have step : ∀ ret, G71 (k + 1) (Cor.mk 2 s m l).pv (rd b (x :: t)) ret = bif (!s.testBit x.toNat) then ret (PV.agg [PV.int 0, PV.int 0, PV.list []]) false (rd b (x :: t)) else ret (PV.agg [PV.int 2, PV.int x, PV.list []]) true (rd b t) := by
        intro ret
        simp only [G71, f71_N, f71_e, Cor.fld0, Cor.fld1, Cor.kind, Cor.set, dF k1, rd_t, pvI_len, hg1, hd1, rd_sett, decide_true, cond_true, cond_false, hh, decide_eq_true (show (0 : Int) ≤ 0 by omega), decide_eq_true (show (0 : Int) ≤ 1 by omega), decide_eq_false (show ¬ ((x :: t).length : Int) = 0 by simp only [List.length_cons]; omega), decide_eq_true (show (0 : Int) < ((x :: t).length : Int) by simp only [List.length_cons]; omega), decide_eq_true (show (1 : Int) ≤ ((x :: t).length : Int) by simp only [List.length_cons]; omega), decide_eq_true (show ((x :: t).length : Int) ≤ ((x :: t).length : Int) by omega), beq_self_eq_true, Bool.and_self, show PV.num (PV.int 2) = 2 from rfl]
      by_cases hs : s.testBit x.toNat = true
      · rw [if_pos hs]
        refine fun ret => ?_
        rw [step, hs]; rfl
      · rw [if_neg hs]
        have hs : s.testBit x.toNat = false := by simpa using hs
        refine ⟨.agg [.int 0, .int 0, .list []], rd b (x :: t), fun ret => ?_⟩
        rw [step, hs]; rfl
  rw [if_neg k2]
  by_cases k3 : kd = 3
  · subst k3
    rw [if_pos rfl]
    match l, hlen, h1 with
    | [c0, c1], _, h1 =>
      have := h1 [c0, c1] (fun _ h => h) (by simp) 3 b t hb hbl
      have e : mkR 3 (decA [c0, c1] b t []) = (match decN [c0, c1] 0 b t with
        | some (x, b1, t1) => (match decN [c0, c1] 1 b1 t1 with
          | some (y, b2, t2) => some (.mk 3 0 [x, y], b2, t2)
          | none => none)
        | none => none) := by
        simp only [decA, decN]
        cases dec c0 b t with
        | none => rfl
        | some r =>
          obtain ⟨x, b1, t1⟩ := r
          simp only
          cases dec c1 b1 t1 with
          | none => rfl
          | some r => rfl
      rw [e] at this
      refine this.congr fun ret => ?_
      simp only [G71, f71_N, f71_e, Cor.fld0, Cor.fld3, PV.num, Cor.kind, Cor.kidl, dF k1, dF k2, decide_true, cond_true, cond_false]
  rw [if_neg k3]
  by_cases k4 : kd = 4
  · subst k4
    rw [if_pos rfl]
    match l, hlen, h1 with
    | [c0, c1], _, h1 =>
      cases b with
      | nil =>
        refine ⟨.agg [.int 0, .int 0, .list []], rd [] t, fun ret => ?_⟩
        simp only [G71, f71_N, f71_e, Cor.fld0, Cor.fld3, PV.num, Cor.kind, Cor.kidl, dF k1, dF k2, dF k3, decide_true, cond_true, cond_false, h3, Bool.not_false]
      | cons x b =>
        simp only [List.length_cons] at hbl
        have p0 := h1 [c0] (by simp) (by simp) 4 b t hb (by omega)
        have p1 := h1 [c1] (by simp) (by simp) 5 b t hb (by omega)
        have e : ∀ (n : Int) (c : Cor), mkR n (decA [c] b t []) = (match dec c b t with
          | some (v, b1, t1) => some (.mk n 0 [v], b1, t1)
          | none => none) := by
          intro n c
          simp only [decA]
          cases dec c b t with
          | none => rfl
          | some r => rfl
        rw [e] at p0 p1
        simp only [decN]
        by_cases h8 : x = 48
        · subst h8
          rw [if_pos rfl]
          refine p0.congr fun ret => ?_
          simp only [G71, f71_N, f71_e, Cor.fld0, Cor.fld3, PV.num, PV.els, Cor.kind, Cor.kidl, dF k1, dF k2, dF k3, decide_true, cond_true, cond_false, h3, if_true, Bool.not_true]
          rfl
        rw [if_neg h8]
        by_cases h9 : x = 49
        · subst h9
          rw [if_pos rfl]
          refine p1.congr fun ret => ?_
          simp only [G71, f71_N, f71_e, Cor.fld0, Cor.fld3, PV.num, PV.els, Cor.kind, Cor.kidl, dF k1, dF k2, dF k3, decide_true, cond_true, cond_false, h3, if_neg h8, if_true, Bool.not_true]
          rfl
        rw [if_neg h9]
        refine ⟨.agg [.int 0, .int 0, .list []], rd (x :: b) t, fun ret => ?_⟩
        simp only [G71, f71_N, f71_e, Cor.fld0, Cor.fld3, PV.num, PV.els, Cor.kind, Cor.kidl, dF k1, dF k2, dF k3, decide_true, cond_true, cond_false, h3, if_neg h8, if_neg h9, Bool.not_false]
  rw [if_neg k4]
  by_cases k5 : kd = 5
  · subst k5
    rw [if_pos rfl]
    match l, hlen, h2 with
    | [c0], _, h2 =>
      have := h2 c0 (by simp) b t hb hbl
      rw [show decN [c0] 0 = dec c0 from funext fun b => funext fun t => by simp [decN]]
      refine this.congr fun ret => ?_
      simp only [G71, f71_N, f71_e, Cor.fld0, Cor.fld3, PV.num, PV.els, Cor.kind, Cor.kidl, dF k1, dF k2, dF k3, dF k4, decide_true, cond_true, cond_false]
      rfl
  rw [if_neg k5]
  by_cases k6 : kd = 6
  · subst k6
    rw [if_pos rfl]
    match l, hlen, h1 with
    | [c0], _, h1 =>
      have := h1 [c0] (by simp) (by simp) 7 b t hb hbl
      have e : mkR 7 (decA [c0] b t []) = (match decN [c0] 0 b t with
        | some (v, b1, t1) => some (.mk 7 0 [v], b1, t1)
        | none => none) := by
        simp only [decA, decN]
        cases dec c0 b t with
        | none => rfl
        | some r => rfl
      rw [e] at this
      refine this.congr fun ret => ?_
      simp only [G71, f71_N, f71_e, Cor.fld0, Cor.fld3, PV.num, PV.els, Cor.kind, Cor.kidl, dF k1, dF k2, dF k3, dF k4, dF k5, decide_true, cond_true, cond_false]
      rfl
  rw [if_neg k6]
  by_cases k7 : kd = 7
  · subst k7
    rw [if_pos rfl]
    match l, hlen, h0 with
    | [c0], _, h0 =>
      have := h0 c0 (by simp) b t hb hbl
      rw [decN]
      refine this.congr fun ret => ?_
      simp only [G71, f71_N, f71_e, Cor.fld0, Cor.fld3, PV.num, PV.els, Cor.kind, Cor.kidl, dF k1, dF k2, dF k3, dF k4, dF k5, dF k6, decide_true, cond_true, cond_false]
      rfl
  rw [if_neg k7]
  refine ⟨.agg [.int 0, .int 0, .list []], rd b t, fun ret => ?_⟩
  simp only [G71, f71_N, f71_e, Cor.fld0, PV.num, Cor.kind, dF k1, dF k2, dF k3, dF k4, dF k5, dF k6, dF k7, cond_false]

/-- What is got of choices and bytes. -/
def got (c : Cor) (b t : List Int) : Val × Int :=
  if c.good then
    (if 256 < t.length then (.mk 0 0 [], 1) else match dec c b t with
    | some (v, b', t') => if b' = [] ∧ t' = [] then (v, 0) else (.mk 0 0 [], 7)
    | none => (.mk 0 0 [], 7))
  else (.mk 0 0 [], 1)
theorem good_fmd {c : Cor} (h : c.good = true) : c.fmd = true := by
  simp only [Cor.good, Bool.and_eq_true] at h; exact h.2
theorem spec_Get (c : Cor) (hc : c.Ok) (hs : c.Sm) : Ult fun k => ∀ b t : List Int, Byt t → b.length ≤ 100000000000 → ∀ ret, G43 k c.pv b (.list (pvI t)) ret = ret (got c b t).1.pv (got c b t).2 := by
  by_cases hg : c.good = true
  · refine Ult.succ (((spec_cGood c hc hs).and (spec_get c (good_fmd hg))).mono fun k ⟨h1, h2⟩ b t hb hbl ret => ?_)
    have h2 := h2 b t hb hbl
    have hl1 : (List.length (PV.els (PV.list (pvI t))) : Int) = (t.length : Int) := by rw [vels, pvI_len]
    simp only [G43, f43_N, f43_e, h1, hg, Bool.not_true, beq_self_eq_true, cond_true, hl1, got, if_true]
    by_cases hl : 256 < t.length
    · rw [decide_eq_true (show (256 : Int) < (t.length : Int) by omega), if_pos hl]; rfl
    rw [decide_eq_false (show ¬ (256 : Int) < (t.length : Int) by omega), if_neg hl]
    simp only [cond_false]
    cases hd : dec c b t with
    | none =>
      rw [hd] at h2
      obtain ⟨p, q, h2⟩ := h2
      have h2' := h2
      rw [show (PV.agg [PV.str b, PV.list (pvI t)]) = rd b t from rfl, h2]
      rfl
    | some r =>
      obtain ⟨v, b', t'⟩ := r
      rw [hd] at h2
      have h2 : ∀ ret, G71 k c.pv (rd b t) ret = ret v.pv true (rd b' t') := h2
      rw [show (PV.agg [PV.str b, PV.list (pvI t)]) = rd b t from rfl, h2]
      simp only [rd_b, rd_t, pvI_len, Bool.not_true, beq_self_eq_true, cond_true]
      cases b' with
      | nil =>
        cases t' with
        | nil => simp
        | cons y t' =>
          simp only [decide_true, Bool.not_true, beq_self_eq_true, cond_true, decide_eq_true (show (0 : Int) < ((y :: t').length : Int) by simp only [List.length_cons]; omega)]
          rw [if_neg (by simp)]; rfl
      | cons x b' => 
        rw [if_neg (by simp)]
        simp only [decide_eq_false (show ¬ (x :: b' : List Int) = [] by simp), Bool.not_false]
        rfl
  · refine Ult.succ ((spec_cGood c hc hs).mono fun k h1 b t hb hbl ret => ?_)
    have hg' : c.good = false := by simpa using hg
    simp only [G43, f43_N, f43_e, h1, got, hg']
    rfl
end Go.Proofs.Ytbellpoahhhmhaa
