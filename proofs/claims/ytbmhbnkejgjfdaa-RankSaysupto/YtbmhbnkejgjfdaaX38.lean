/- The interpreter X, part 38: regions whose order is drawn, in whatever order. -/
import Derived.Test.YtbmhbnkejgjfdaaX37
set_option linter.unusedVariables false
set_option linter.unusedSimpArgs false
namespace Go.X
open Go
section
variable {E : Env} {w0 : World} {F : Foot} {Mo : Nat → Prop}

/-- What is known of a region (dOk). -/
structure Drawn (ops : Array Oper) (A : List Oper) : Prop where
  pre : ∀ j, j < A.length → A[j]? = ops[j]?
  len : A.length ≤ ops.size
  lt : ∀ (j : Nat) (o : Oper), ops[j]? = some o → ∀ e ∈ o.after, Region.binds .any e = true → e.on < j
  ap : ∀ (i j : Nat) (x y : Oper), i < j → j < A.length → ops[i]? = some x → ops[j]? = some y → Bef ops j i ∨ x.apart ops y = true
  tail : ∀ j, A.length ≤ j → j < ops.size → ∀ i, i < j → Bef ops j i
  nd : (A.filterMap (·.dst)).Nodup
  lo : ∀ o ∈ A, o.dst.getD 0 < lowB ∧ (laysOp o = true → ∃ d, o.dst = some d)

theorem drawn_of {ops : Array Oper} (h : dOk ops = true) : Drawn ops (ops.toList.takeWhile fun o => !lateOp o) := by
  unfold dOk at h
  simp only [Bool.and_eq_true, List.all_eq_true, List.mem_range] at h
  obtain ⟨⟨⟨⟨h1, h2⟩, h3⟩, h4⟩, h5⟩ := h
  have happ := List.takeWhile_append_dropWhile (p := fun o => !lateOp o) (l := ops.toList)
  generalize hA : (ops.toList.takeWhile fun o => !lateOp o) = A at *
  have hpre : ∀ j, j < A.length → A[j]? = ops[j]? := by
    intro j hj
    rw [← Array.getElem?_toList, ← happ, List.getElem?_append_left hj]
  refine ⟨hpre, ?_, fun j o ho e he hb => ?_, fun i j x y hij hj hx hy => ?_, fun j hj hs i hi => ?_, nodupB_iff h4, fun o ho => ?_⟩
  · have := congrArg List.length happ
    have h9 : ops.toList.length = ops.size := by simp
    rw [List.length_append] at this
    omega
  · have := h1 j (Array.getElem?_eq_some_iff.1 ho).1
    rw [ho] at this
    simp only [List.all_eq_true, Bool.or_eq_true, Bool.not_eq_true'] at this
    rcases this e (by simpa using he) with h | h
    · rw [hb] at h; cases h
    · simpa using h
  · have := h2 j hj i hij
    simp only [Bool.or_eq_true] at this
    rcases this with h | h
    · exact .inl (before_spec ops h)
    · rw [hx, hy] at h; exact .inr h
  · have := h3 j hs
    simp only [Bool.or_eq_true, List.all_eq_true, List.mem_range] at this
    rcases this with h | h
    · have : j < A.length := by simpa using h
      omega
    · exact before_spec ops (h i hi)
  · have := h5 o ho
    simp only [Bool.and_eq_true, Bool.or_eq_true, Bool.not_eq_true'] at this
    refine ⟨by simpa using this.1, fun hl => ?_⟩
    rcases this.2 with h | h
    · rw [hl] at h; cases h
    · exact Option.isSome_iff_exists.1 h

/-- The state when some operations have been done. -/
structure DI (E : Env) (w0 : World) (F : Foot) (Mo : Nat → Prop) (ops : Array Oper) (A : List Oper) (tr : List (SV × Obs)) (T0 : List SV) (B0 : Obs) (listed : Array Bool) (a : Act) (w : World) : Prop where
  closed : Closed ops listed
  size : listed.size = ops.size
  onlyA : ∀ j, A.length ≤ j → listed.getD j false = false
  defers : a.defers = []
  ex : ∃ T B β, T.length = T0.length ∧ (∀ i, (∀ (k : Nat) (o : Oper), A[k]? = some o → listed.getD k false = true → o.dst ≠ some i) → T[i]? = T0[i]?) ∧
    (∀ (k : Nat) (o : Oper) (x : SV × Obs) (i : Nat), A[k]? = some o → tr[k]? = some x → listed.getD k false = true → o.dst = some i → i < T0.length → T[i]? = some x.1) ∧
    (∀ d x, Obs.get B0 d = some x → Obs.get B d = some x) ∧ (∀ (k : Nat) (x : SV × Obs) d ob, tr[k]? = some x → listed.getD k false = true → (d, ob) ∈ x.2 → Obs.get B d = some ob) ∧
    (∀ d ob, Obs.get B d = some ob → Obs.get B0 d = some ob ∨ ∃ (k : Nat) (x : SV × Obs), tr[k]? = some x ∧ listed.getD k false = true ∧ (d, ob) ∈ x.2) ∧
    Rel E.P Mo β T B a.tmps.toList w ∧ Kp w0 F β B w

theorem getD_of_get {T T' : List SV} {i : Nat} (h : T[i]? = T'[i]?) : T.getD i .dead = T'.getD i .dead := by
  rw [List.getD_eq_getElem?_getD, List.getD_eq_getElem?_getD, h]

theorem looksAt_op {ops : Array Oper} {o : Oper} {i : Nat} (h : Operand.tmp i ∈ o.op.operands) : i ∈ o.looksAt ops := by
  unfold Oper.looksAt
  refine List.mem_append_left _ (List.mem_filterMap.2 ⟨.tmp i, by simpa using h, rfl⟩)
theorem looksAt_guard {ops : Array Oper} {o : Oper} {j : Nat} {want : Bool} {d : Nat} (hg : o.guard = some (j, want)) (hd : (ops[j]?).bind (·.dst) = some d) : d ∈ o.looksAt ops := by
  unfold Oper.looksAt
  refine List.mem_append_right _ ?_
  rw [hg]
  simp only [hd]
  simp

theorem DI.step (hL : laidOutB E.P = true) (hC : OracleOk E.P E.C) {ops : Array Oper} {A : List Oper} (D : Drawn ops A) {tr : List (SV × Obs)} {T0 : List SV} {B0 : Obs} (hfree : ∀ o ∈ A, laysOp o = true → ∀ d, o.dst = some d → Obs.get B0 d = none)
    (hY : ∀ (j : Nat) (o : Oper) (x : SV × Obs), A[j]? = some o → tr[j]? = some x → Yield E ops B0 o (putAll A tr j T0) x)
    {listed : Array Bool} {a : Act} {w : World} (h : DI E w0 F Mo ops A tr T0 B0 listed a w) {j : Nat} {o : Oper} {x : SV × Obs} (hj : A[j]? = some o) (hx : tr[j]? = some x) (hu : listed.getD j false = false)
    (hr : ∀ e ∈ o.after, Region.binds .any e = true → listed.getD e.on false = true) {Q : Exit → Act → World → Prop} {K : Act → World → Prop}
    (hK : ∀ a' w', DI E w0 F Mo ops A tr T0 B0 (listed.setIfInBounds j true) a' w' → K a' w') : wpOp E.P ops Q j K a w := by
  obtain ⟨hcl, hsz, honly, hdef, T, B, β, ht0, ht1, ht2, hb1, hb2, hb3, hR, hk⟩ := h
  have hjm := get_lt hj
  have hjo : ops[j]? = some o := by rw [← D.pre j hjm]; exact hj
  have hjs : j < listed.size := by rw [hsz]; have := D.len; omega
  -- the slots that the operation looks at are as in the run
  have hsame : ∀ i : Nat, i ∈ o.looksAt ops → T[i]? = (putAll A tr j T0)[i]? := by
    intro i hi
    by_cases hw : ∃ (k : Nat) (y : Oper), A[k]? = some y ∧ y.dst = some i
    · obtain ⟨k, y, hk1, hk2⟩ := hw
      have huniq : ∀ (k' : Nat) (y' : Oper), A[k']? = some y' → y'.dst = some i → k' = k := fun k' y' h1 h2 => filterMap_nodup_ne D.nd h1 hk1 h2 hk2
      have hkm := get_lt hk1
      have hko : ops[k]? = some y := by rw [← D.pre k hkm]; exact hk1
      have out : listed.getD k false = false → j ≤ k → T[i]? = (putAll A tr j T0)[i]? := by
        intro hul hjk
        rw [ht1 i (fun k' y' h1 h2 h3 => by
          have := huniq k' y' h1 h3
          subst this
          rw [hul] at h2; cases h2)]
        rw [putAll_out A tr j T0 i (fun k' y' hlt h1 h3 => by
          have := huniq k' y' h1 h3
          omega)]
      rcases Nat.lt_trichotomy k j with hlt | heq | hgt
      · rcases D.ap k j y o hlt hjm hko hjo with hbef | hap
        · have hlk : listed.getD k false = true := closed_bef hcl hbef fun o' ho' e he hb => hr e (by rw [hjo] at ho'; injection ho' with ho'; rw [ho']; exact he) hb
          obtain ⟨xk, hxk⟩ : ∃ xk, tr[k]? = some xk := ⟨_, List.getElem?_eq_getElem (by have := get_lt hx; omega)⟩
          by_cases hil : i < T0.length
          · rw [ht2 k y xk i hk1 hxk hlk hk2 hil, putAll_in A tr j T0 i k y xk D.nd hk1 hxk hk2 hlt hil]
          · rw [List.getElem?_eq_none (show T.length ≤ i by omega), List.getElem?_eq_none (by rw [putAll_len]; omega)]
        · exact absurd hi ((Oper.apart_spec hap).1 i hk2)
      · subst heq
        exact out hu (Nat.le_refl _)
      · rcases D.ap j k o y hgt hkm hjo hko with hbef | hap
        · refine out ?_ (by omega)
          cases hlk : listed.getD k false with
          | false => rfl
          | true =>
            have := bef_listed hcl hbef hlk
            rw [hu] at this; cases this
        · exact absurd hi ((Oper.apart_spec hap).2.2 i hk2)
    · rw [ht1 i (fun k y h1 _ h3 => hw ⟨k, y, h1, h3⟩), putAll_out A tr j T0 i (fun k y _ h1 h3 => hw ⟨k, y, h1, h3⟩)]
  have hI : Inv E.P w0 F Mo { T := T, B := B } a w := ⟨hdef, β, hR, hk⟩
  -- the state behind it
  have next : ∀ {B' : Obs} {β' : Beta} {v : Value} {w' : World}, Rel E.P Mo β' T B' a.tmps.toList w' → Kp w0 F β' B' w' → RS E.P w' (Mut Mo β' B') β' B' x.1 v →
      (∀ d y, Obs.get B0 d = some y → Obs.get B' d = some y) → (∀ d ob, Obs.get B d = some ob → Obs.get B' d = some ob) → (∀ d ob, (d, ob) ∈ x.2 → Obs.get B' d = some ob) → (∀ d ob, Obs.get B' d = some ob → Obs.get B d = some ob ∨ (d, ob) ∈ x.2) → K (a.put o.dst v) w' := by
    intro B' β' v w' hR' hk' hs hb0 hbB hbx hbf
    apply hK
    have hIp := Inv.put (st := { T := T, B := B' }) hdef ⟨β', hR', hk', hs⟩ o.dst
    rw [put_eq] at hIp
    obtain ⟨hdef', β2, hR2, hk2⟩ := hIp
    refine ⟨closed_set hcl hjs (fun o' ho' e he hb => hr e (by rw [hjo] at ho'; injection ho' with ho'; rw [ho']; exact he) hb), by simpa using hsz, fun k hkm => ?_, hdef', putT T o.dst x.1, B', β2, by rw [putT_len]; exact ht0, fun i hi => ?_, fun k y z i hk1 hk2' hk3 hk4 hk5 => ?_, hb0, fun k y d ob hk1 hk2' hk3 => ?_, fun d ob hd => ?_, hR2, hk2⟩
    · rw [getD_set _ _ _ _ hjs, if_neg (by omega)]; exact honly k hkm
    · have hnj := hi j o hj (by rw [getD_set _ _ _ _ hjs, if_pos rfl])
      have : (putT T o.dst x.1)[i]? = T[i]? := by
        unfold putT
        cases hd : o.dst with
        | none => rfl
        | some d =>
          simp only
          rw [List.getElem?_set_ne (by intro h; subst h; exact hnj hd)]
      rw [this]
      refine ht1 i fun k y hk1 hk2 => ?_
      by_cases hkj : j = k
      · subst hkj
        rw [hj] at hk1; injection hk1 with hk1; subst hk1; exact hnj
      · exact hi k y hk1 (by rw [getD_set _ _ _ _ hjs, if_neg hkj]; exact hk2)
    · by_cases hkj : j = k
      · subst hkj
        rw [hj] at hk1; injection hk1 with hk1; subst hk1
        rw [hx] at hk2'; injection hk2' with hk2'; subst hk2'
        rw [hk4]
        show (T.set i x.1)[i]? = _
        rw [List.getElem?_set_self (by omega)]
      · rw [getD_set _ _ _ _ hjs, if_neg hkj] at hk3
        have := ht2 k y z i hk1 hk2' hk3 hk4 hk5
        unfold putT
        cases hd : o.dst with
        | none => exact this
        | some d =>
          simp only
          rw [List.getElem?_set_ne (by
            intro h; subst h
            exact hkj (filterMap_nodup_ne D.nd hj hk1 hd hk4))]
          exact this
    · by_cases hkj : j = k
      · subst hkj
        rw [hx] at hk1; injection hk1 with hk1; subst hk1
        exact hbx d ob hk3
      · rw [getD_set _ _ _ _ hjs, if_neg hkj] at hk2'
        exact hbB d ob (hb2 k y d ob hk1 hk2' hk3)
    · rcases hbf d ob hd with h | h
      · rcases hb3 d ob h with h | ⟨k, y, h1, h2, h3⟩
        · exact .inl h
        · refine .inr ⟨k, y, h1, ?_, h3⟩
          rw [getD_set _ _ _ _ hjs]
          split
          · rfl
          · exact h2
      · exact .inr ⟨j, x, hx, by rw [getD_set _ _ _ _ hjs, if_pos rfl], h⟩
  unfold wpOp
  rw [hjo]
  simp only
  rcases hY j o x hj hx with ⟨g, want, dj, hg, hd, hs, hxe⟩ | ⟨hguard, hq, hal, hos⟩
  · -- not wanted
    have hgd := getD_of_get (hsame dj (looksAt_guard hg hd))
    obtain ⟨g1, g2⟩ := guard_sound hI hg hd
    have hw : Region.wanted o (yielded ops a.tmps) = false := by
      rcases hs with hs | ⟨b, hs, hb⟩
      · exact g2 (hgd.trans hs)
      · rw [g1 b (hgd.trans hs)]; exact hb
    rw [if_neg (by rw [hw]; simp)]
    subst hxe
    exact next hR hk .undef hb1 (fun d ob h => h) (fun d ob h => by simp at h) (fun d ob h => .inl h)
  · have hw : Region.wanted o (yielded ops a.tmps) = true := by
      rcases hguard with hg | ⟨g, want, dj, b, hg, hd, hs, hb⟩
      · unfold Region.wanted; rw [hg]
      · have hgd := getD_of_get (hsame dj (looksAt_guard hg hd))
        obtain ⟨g1, _⟩ := guard_sound hI hg hd
        rw [g1 b (hgd.trans hs)]; exact hb
    rw [if_pos hw]
    left
    have hq' : opQ E o { T := T, B := B } pairK = some ([x.1], x.2) := by
      refine opQ_congr (st := { T := putAll A tr j T0, B := B0 }) hb1 (fun y hy P t => ?_) hq
      cases y with
      | tmp i => exact (getD_of_get (hsame i (looksAt_op hy))).symm
      | _ => rfl
    have hfr : ∀ d, laysOp o = true → o.dst = some d → Obs.get B d = none := by
      intro d hl hd
      cases hg : Obs.get B d with
      | none => rfl
      | some ob =>
        exfalso
        rcases hb3 d ob hg with h | ⟨k, y, h1, h2, h3⟩
        · rw [hfree o (List.mem_of_getElem? hj) hl d hd] at h; cases h
        · have hkl : k < A.length := by
            rcases Nat.lt_or_ge k A.length with h | h
            · exact h
            · rw [honly k h] at h2; cases h2
          have hak := List.getElem?_eq_getElem hkl
          rcases hY k _ y hak h1 with ⟨_, _, _, _, _, _, he⟩ | ⟨_, _, _, he⟩
          · subst he; simp at h3
          · rcases he with he | ⟨d', ob', he, he2, _⟩
            · rw [he] at h3; simp at h3
            · rw [he] at h3
              simp only [List.mem_singleton, Prod.mk.injEq] at h3
              obtain ⟨h3, _⟩ := h3
              subst h3
              have := filterMap_nodup_ne D.nd hak hj he2 hd
              subst this
              rw [hu] at h2; cases h2
    have hlo := D.lo o (List.mem_of_getElem? hj)
    have hF : Free E o { T := T, B := B } := by
      refine ⟨fun h => ?_, fun t ht y hy => ?_⟩
      · have hl : laysOp o = true := by
          unfold laysOp
          split at h <;> rename_i hop <;> first
            | (rw [hop]; done)
            | (rw [hop])
            | cases h
        obtain ⟨d, hd⟩ := hlo.2 hl
        rw [hd]
        exact hfr d hl hd
      · rw [hal t ht] at hy; simp at hy
    obtain ⟨s, os, hs, hcase⟩ := opQ_sound hL hC hR hk hlo.1 hF hq'
    have hso : s = x.1 ∧ os = x.2 := by
      unfold pairK at hs
      simp only [Option.some.injEq, Prod.mk.injEq, List.cons.injEq, and_true] at hs
      exact hs
    obtain ⟨rfl, hoseq⟩ := hso
    rcases hcase with ⟨hnil, hwp⟩ | ⟨hnn, hwp⟩
    · refine hwp _ _ fun v w' hv => ?_
      have hx2 : x.2 = [] := by rw [← hoseq]; exact hnil
      exact next (hR.world hv.size hv.old) (hk.world hv.size hv.old hv.os hv.output) hv.rs hb1 (fun d ob h => h) (fun d ob h => by rw [hx2] at h; simp at h) (fun d ob h => .inl h)
    · refine hwp _ _ fun v w' hp => ?_
      rcases hos with h | ⟨d, ob, h, hd, hl, hdl⟩
      · rw [hoseq] at hnn; exact absurd h hnn
      · have hdn := hfr d hl hd
        rw [hoseq, h] at hp
        have hlay : (({ T := T, B := B } : St).lay [(d, ob)]) = { T := T, B := Obs.ins d ob B } := by
          show ({ (({ T := T, B := B } : St).retire d) with B := Obs.ins d ob (({ T := T, B := B } : St).retire d).B } : St) = _
          rw [retire_id hdn]
        rw [hlay] at hp
        obtain ⟨β', p1, p2, p3⟩ := hp
        have hne : ∀ d' y, Obs.get B d' = some y → d ≠ d' := fun d' y hy he => by subst he; rw [hdn] at hy; cases hy
        refine next p1 p2 p3 (fun d' y hy => ?_) (fun d' y hy => ?_) (fun d' y hy => ?_) (fun d' y hy => ?_)
        · rw [Obs.get_ins, if_neg (hne d' y (hb1 d' y hy))]; exact hb1 d' y hy
        · rw [Obs.get_ins, if_neg (hne d' y hy)]; exact hy
        · rw [h] at hy
          simp only [List.mem_singleton, Prod.mk.injEq] at hy
          obtain ⟨rfl, rfl⟩ := hy
          exact ins_self _ _ _
        · rw [Obs.get_ins] at hy
          by_cases hdd : d = d'
          · subst hdd
            rw [if_pos rfl] at hy; injection hy with hy; subst hy
            exact .inr (by rw [h]; simp)
          · rw [if_neg hdd] at hy; exact .inl hy

theorem Inv.freezeAll {a : Act} {w : World} : ∀ (l : List Oper) {st : St}, Inv E.P w0 F Mo st a w → Inv E.P w0 F Mo (l.foldl (fun st o => freezeOp E o st) st) a w
  | [], _, h => h
  | o :: l, _, h => Inv.freezeAll l (h.freeze o)

theorem Rel.ext {P : Program} {β : Beta} {T : List SV} {B B' : Obs} {vs : List Value} {w : World} (h : Rel P Mo β T B vs w) (he : ∀ d, Obs.get B d = Obs.get B' d) : Rel P Mo β T B' vs w := by
  have hmine : ∀ b, Mine β B' b → Mine β B b := by
    rintro b ⟨d, o, c, h1, h2⟩
    exact ⟨d, o, c, by rw [he]; exact h1, h2⟩
  have hs : Same P w (Mut Mo β B) β B w (Mut Mo β B') β B' := by
    refine ⟨fun b hb _ => ⟨fun h => hb ?_, rfl⟩, fun d ob hd => ⟨ob, by rw [← he]; exact hd, rfl, fun q off h => h, fun e l h => ⟨l, h, rfl⟩⟩⟩
    rcases h with h | h
    · exact .inl h
    · exact .inr (hmine b h)
  exact ⟨h.len, fun i s v a b => (h.slot i s v a b).mono hs, fun d o hd => (h.ob d o (by rw [he]; exact hd)).mono hs (by rw [he]; exact hd) (fun _ _ _ => rfl),
    fun d o d' o' b c c' h1 h2 => h.inj d o d' o' b c c' (by rw [he]; exact h1) (by rw [he]; exact h2), fun d o b c h1 => h.lt d o b c (by rw [he]; exact h1), fun d o b c h1 => h.out d o b c (by rw [he]; exact h1), h.mo⟩
theorem Kp.ext {β : Beta} {B B' : Obs} {w : World} (h : Kp w0 F β B w) (he : ∀ d, Obs.get B d = Obs.get B' d) : Kp w0 F β B' w :=
  ⟨h.size, h.old, fun b ⟨d, o, c, h1, h2⟩ => h.mine b ⟨d, o, c, by rw [he]; exact h1, h2⟩, h.os, h.output, fun n t b o hn ho => h.stay n t b o hn (by rw [he]; exact ho), h.low⟩

theorem foldl_ins_get : ∀ (os : Obs) (B : Obs) (d : Nat), (∀ ob, (d, ob) ∉ os) → Obs.get (os.foldl (fun B x => Obs.ins x.1 x.2 B) B) d = Obs.get B d
  | [], _, _, _ => rfl
  | (e, o) :: os, B, d, h => by
    rw [List.foldl_cons, foldl_ins_get os _ d (fun ob hm => h ob (List.mem_cons_of_mem _ hm)), Obs.get_ins, if_neg]
    intro he
    have he : e = d := he
    subst he
    exact h o (by simp)
theorem foldl_ins_in : ∀ (os : Obs) (B : Obs) (d : Nat) (ob : Ob), (d, ob) ∈ os → (∀ ob', (d, ob') ∈ os → ob' = ob) → Obs.get (os.foldl (fun B x => Obs.ins x.1 x.2 B) B) d = some ob
  | [], _, _, _, h, _ => by simp at h
  | (e, o) :: os, B, d, ob, h, hu => by
    rw [List.foldl_cons]
    by_cases hm : ∃ ob', (d, ob') ∈ os
    · obtain ⟨ob', hm⟩ := hm
      have := hu ob' (List.mem_cons_of_mem _ hm)
      subst this
      exact foldl_ins_in os _ d ob' hm (fun o2 h2 => hu o2 (List.mem_cons_of_mem _ h2))
    · rw [foldl_ins_get os _ d (fun ob' h => hm ⟨ob', h⟩)]
      rcases List.mem_cons.1 h with h | h
      · injection h with h1 h2; subst h1; subst h2; exact ins_self _ _ _
      · exact absurd ⟨ob, h⟩ hm

theorem draw_ok (hL : laidOutB E.P = true) (hC : OracleOk E.P E.C) (hm : E.P.follows .mixedOrders = true) {ops : Array Oper} (hok : dOk ops = true) : DrawOk E ops := by
  intro w0 F Mo st a w K r Q hQ hI h id
  have D := drawn_of hok
  unfold execD at h
  simp only at h
  generalize hA : (ops.toList.takeWhile fun o => !lateOp o) = A at h D
  -- the state that the region starts in
  have hI0 : Inv E.P w0 F Mo (retireAll (A.filterMap fun o => bif laysOp o then o.dst else none) (A.foldl (fun st o => freezeOp E o st) st)) a w := by
    exact Inv.retireAll _ (Inv.freezeAll A hI)
  have hfree : ∀ o ∈ A, laysOp o = true → ∀ d, o.dst = some d → Obs.get (retireAll (A.filterMap fun o => bif laysOp o then o.dst else none) (A.foldl (fun st o => freezeOp E o st) st)).B d = none := by
    intro o ho hl d hd
    exact retireAll_get_none _ (.inr (List.mem_filterMap.2 ⟨o, ho, by rw [hl]; exact hd⟩))
  generalize retireAll (A.filterMap fun o => bif laysOp o then o.dst else none) (A.foldl (fun st o => freezeOp E o st) st) = st0 at h hI0 hfree
  obtain ⟨T0, B0⟩ := st0
  obtain ⟨tr, t1, t2, t3⟩ := execA_trace hC.par A T0 [] h
  rw [List.append_nil] at t3
  simp only at t3
  refine wp_region_any hm ?_
  have phase : ∀ c (listed : Array Bool) (a : Act) (w : World), unl listed A.length = c → DI E w0 F Mo ops A tr T0 B0 listed a w → wpAny E.P .any ops Q (c + (ops.size - A.length)) listed a w := by
    intro c
    induction c with
    | zero =>
      intro listed a w hc hDI
      obtain ⟨hcl, hsz, honly, hdef, T, B, β, ht0, ht1, ht2, hb1, hb2, hb3, hR, hk⟩ := hDI
      have hall := unl_zero hc
      -- the slots and the objects of the run's end
      have hT : T = putAll A tr A.length T0 := by
        apply List.ext_getElem?
        intro i
        by_cases hw : ∃ (k : Nat) (y : Oper), A[k]? = some y ∧ y.dst = some i
        · obtain ⟨k, y, hk1, hk2⟩ := hw
          have hkm := get_lt hk1
          obtain ⟨xk, hxk⟩ : ∃ xk, tr[k]? = some xk := ⟨_, List.getElem?_eq_getElem (by omega)⟩
          by_cases hil : i < T0.length
          · rw [ht2 k y xk i hk1 hxk (hall k hkm) hk2 hil, putAll_in A tr A.length T0 i k y xk D.nd hk1 hxk hk2 hkm hil]
          · rw [List.getElem?_eq_none (show T.length ≤ i by omega), List.getElem?_eq_none (by rw [putAll_len]; omega)]
        · rw [ht1 i (fun k y h1 _ h3 => hw ⟨k, y, h1, h3⟩), putAll_out A tr A.length T0 i (fun k y _ h1 h3 => hw ⟨k, y, h1, h3⟩)]
      have hos : ∀ d ob, (d, ob) ∈ ((tr.map (·.2)).reverse).flatten ↔ ∃ (k : Nat) (x : SV × Obs), tr[k]? = some x ∧ (d, ob) ∈ x.2 := by
        intro d ob
        rw [List.mem_flatten]
        constructor
        · rintro ⟨l, hl, hm⟩
          rw [List.mem_reverse, List.mem_map] at hl
          obtain ⟨x, hx, rfl⟩ := hl
          obtain ⟨k, hk⟩ := List.getElem?_of_mem hx
          exact ⟨k, x, hk, hm⟩
        · rintro ⟨k, x, hk, hm⟩
          exact ⟨x.2, by rw [List.mem_reverse, List.mem_map]; exact ⟨x, List.mem_of_getElem? hk, rfl⟩, hm⟩
      have hkA : ∀ (k : Nat) (x : SV × Obs), tr[k]? = some x → k < A.length := fun k x h => by have := get_lt h; omega
      have hB : ∀ d, Obs.get B d = Obs.get ((((tr.map (·.2)).reverse).flatten).foldl (fun B x => Obs.ins x.1 x.2 B) B0) d := by
        intro d
        by_cases hd : ∃ ob, (d, ob) ∈ ((tr.map (·.2)).reverse).flatten
        · obtain ⟨ob, hd⟩ := hd
          have get1 : ∀ ob', (d, ob') ∈ ((tr.map (·.2)).reverse).flatten → Obs.get B d = some ob' := by
            intro ob' h
            obtain ⟨k, x, h1, h2⟩ := (hos d ob').1 h
            exact hb2 k x d ob' h1 (hall k (hkA k x h1)) h2
          rw [foldl_ins_in _ _ d ob hd (fun ob' h => by
            have e1 := get1 ob' h
            rw [get1 ob hd] at e1; injection e1 with e1; exact e1.symm)]
          exact get1 ob hd
        · rw [foldl_ins_get _ _ d (fun ob h => hd ⟨ob, h⟩)]
          cases hg : Obs.get B0 d with
          | some ob => exact hb1 d ob hg
          | none =>
            cases hg2 : Obs.get B d with
            | none => rfl
            | some ob =>
              exfalso
              rcases hb3 d ob hg2 with h | ⟨k, x, h1, _, h3⟩
              · rw [hg] at h; cases h
              · exact hd ⟨ob, (hos d ob).2 ⟨k, x, h1, h3⟩⟩
      have hIm : Inv E.P w0 F Mo { T := putAll A tr A.length T0, B := (((tr.map (·.2)).reverse).flatten).foldl (fun B x => Obs.ins x.1 x.2 B) B0 } a w := ⟨hdef, β, by rw [← hT]; exact hR.ext hB, hk.ext hB⟩
      have hops := execOps_sound hL hC hQ (ops.toList.drop A.length) A.length (fun j => by rw [List.getElem?_drop, Array.getElem?_toList]) hIm t3
      rw [List.length_drop, Array.length_toList] at hops
      rw [Nat.zero_add]
      refine any_of_forced D.lt D.tail _ A.length listed a w (by have := D.len; omega) (Nat.le_refl _) hsz hcl (fun j => ?_) hops
      by_cases hj : j < A.length
      · rw [hall j hj, decide_eq_true hj]
      · rw [honly j (by omega), decide_eq_false hj]
    | succ c ih =>
      intro listed a w hc hDI
      rw [show c + 1 + (ops.size - A.length) = (c + (ops.size - A.length)) + 1 by omega]
      obtain ⟨k, k1, k2, k3⟩ := unl_ex (show unl listed A.length ≠ 0 by omega)
      have hsz := hDI.size
      have hlen := D.len
      have getb : ∀ i (b : Bool), i < ops.size → listed.getD i b = listed.getD i false := by
        intro i b hi
        rw [Array.getD_eq_getD_getElem?, Array.getD_eq_getD_getElem?, Array.getElem?_eq_getElem (by omega)]; rfl
      have hko : ops[k]? = some ops[k] := Array.getElem?_eq_getElem (by omega)
      have hready : k ∈ Region.ready .any ops listed := mem_ready.2 ⟨by rw [getb k true (by omega)]; exact k2, _, hko, fun e he hb => k3 _ (D.lt k _ hko e he hb)⟩
      refine ⟨(fun h0 => by rw [h0] at hready; cases hready), fun i hi => ?_⟩
      obtain ⟨h1, o, ho, h2⟩ := mem_ready.1 hi
      have hil := (Array.getElem?_eq_some_iff.1 ho).1
      rw [getb i true hil] at h1
      have him : i < A.length := by
        rcases Nat.lt_or_ge i A.length with h | h
        · exact h
        · exfalso
          have := closed_bef hDI.closed (D.tail i h hil k (by omega)) (fun o' ho' e he hb => h2 e (by rw [ho] at ho'; injection ho' with ho'; rw [ho']; exact he) hb)
          rw [k2] at this; cases this
      have hai : A[i]? = some o := by rw [D.pre i him]; exact ho
      obtain ⟨xi, hxi⟩ : ∃ xi, tr[i]? = some xi := ⟨_, List.getElem?_eq_getElem (by omega)⟩
      refine hDI.step hL hC D hfree t2 hai hxi h1 h2 fun a' w' hDI' => ih _ a' w' ?_ hDI'
      have := (unl_set (listed := listed) (i := i) (by omega) h1 A.length).2 him
      omega
  have hun : ∀ m, m ≤ ops.size → unl (Array.replicate ops.size false) m = m := by
    intro m
    induction m with
    | zero => intro _; rfl
    | succ m ih =>
      intro hm
      unfold unl
      rw [ih (by omega)]
      rw [if_neg]
      rw [Array.getD_eq_getD_getElem?, Array.getElem?_replicate]
      rw [if_pos (by omega)]; simp
  have hgf : ∀ j, (Array.replicate ops.size false).getD j false = false := by
    intro j
    rw [Array.getD_eq_getD_getElem?, Array.getElem?_replicate]
    split <;> rfl
  obtain ⟨hd0, β0, hR0, hk0⟩ := hI0
  have hDI : DI E w0 F Mo ops A tr T0 B0 (Array.replicate ops.size false) a { w with drawn := w.drawn + 1 } := by
    refine ⟨?_, by rw [Array.size_replicate], fun j _ => hgf j, hd0, T0, B0, β0, rfl, fun _ _ => rfl, ?_, fun _ _ h => h, ?_, fun d ob h => .inl h, hR0.world (Nat.le_refl _) (fun _ _ => rfl), hk0.world (Nat.le_refl _) (fun _ _ => rfl) rfl rfl⟩
    · intro j o _ hj
      rw [hgf] at hj; cases hj
    · intro k o x i _ _ hl
      rw [hgf] at hl; cases hl
    · intro k x d ob _ hl
      rw [hgf] at hl; cases hl
  have := phase A.length (Array.replicate ops.size false) a { w with drawn := w.drawn + 1 } (hun _ D.len) hDI
  rw [show A.length + (ops.size - A.length) = ops.size by have := D.len; omega] at this
  exact this

end
end Go.X
