/- The interpreter X, part 27: append, the operation. -/
import Derived.Test.YtbmhbnkejgjfdaaX26
namespace Go.X
open Go
section
variable {E : Env} {w0 : World} {F : Foot} {Mo : Nat → Prop} {st : St} {K : St → Option Out} {r : Out} {a : Act} {w : World}

theorem Kp.grow {w0 w w' : World} {F : Foot} {β : Beta} {B : Obs} (h : Kp w0 F β B w) {d : Nat} {o o' : Ob} (hd : Obs.get B d = some o)
    (hsz : w.heap.size ≤ w'.heap.size) (hold : ∀ x, x < w.heap.size → (∀ c, β d ≠ some (x, c)) → w'.heap[x]? = w.heap[x]?) {x : Option (Nat × Nat)}
    (hx : ∀ b c, x = some (b, c) → w.heap.size ≤ b ∨ ∃ c', β d = some (b, c')) (hrow : ∀ t s, o ≠ .box t s) (hos : w'.os = w.os) (hout : w'.output = w.output) :
    Kp w0 F (β.at d x) (Obs.ins d o' (Obs.del d (Obs.kill d B))) w' := by
  refine ⟨Nat.le_trans h.size hsz, fun y hy hf => ?_, fun y hy => ?_, hos.trans h.os, hout.trans h.output, fun n t b o2 hn ho2 => ?_, h.low⟩
  · rw [hold y (Nat.lt_of_lt_of_le hy h.size) fun c hc => ?_]
    · exact h.old y hy hf
    · rcases h.mine y ⟨d, o, c, hd, hc⟩ with h1 | h1
      · exact hf h1
      · omega
  · obtain ⟨e, ob, c, h1, h2⟩ := hy
    by_cases hde : d = e
    · subst hde
      rw [at_self] at h2
      rcases hx y c h2 with h3 | ⟨c', h3⟩
      · exact .inr (Nat.le_trans h.size h3)
      · exact h.mine y ⟨d, o, c', hd, h3⟩
    · rw [Obs.get_ins, if_neg hde, Obs.get_del, if_neg hde, Obs.get_kill] at h1
      unfold Beta.at at h2
      rw [if_neg hde] at h2
      cases hg : Obs.get B e with
      | none => rw [hg] at h1; cases h1
      | some o2 => exact h.mine y ⟨e, o2, c, hg, h2⟩
  · by_cases hde : d = n
    · subst hde
      obtain ⟨⟨s, hs⟩, _⟩ := h.stay d t b o hn hd
      exact absurd hs (hrow t s)
    · rw [Obs.get_ins, if_neg hde, Obs.get_del, if_neg hde, Obs.get_kill] at ho2
      unfold Beta.at
      rw [if_neg hde]
      cases hg : Obs.get B n with
      | none => rw [hg] at ho2; cases ho2
      | some o3 =>
        rw [hg] at ho2
        injection ho2 with ho2
        obtain ⟨⟨s, rfl⟩, h4⟩ := h.stay n t b o3 hn hg
        subst ho2
        exact ⟨⟨_, rfl⟩, h4⟩

theorem retire_stable {w : World} {Mo : Nat → Prop} (β : Beta) (st : St) (d : Nat) : Stable w (Mut Mo β st.B) w (Mut Mo β (st.retire d).B) := by
  intro b hb _
  refine ⟨fun h => hb ?_, rfl⟩
  rcases h with h | h
  · exact .inl h
  · exact .inr (h.sub fun e o he => (retire_get st d e o he).2)

theorem grow_get (d : Nat) (o' : Ob) (B : Obs) : Obs.get (Obs.ins d o' B) d = some o' := ins_self d o' B

theorem e_append (hL : laidOutB E.P = true) (hI : Inv E.P w0 F Mo st a w) {o : Oper} (hlo : o.dst.getD 0 < lowB) {args : Array Operand} {argTypes : Array TypeId} (ho : o.op = .call { callee := .builtin .append, args, argTypes }) (h : opE E o st K = some r) : EOk E w0 F Mo o K r a w := by
  obtain ⟨hdef, β, hR, hk⟩ := hI
  unfold opE at h
  rw [ho] at h
  simp only at h
  generalize o.dst.getD 0 = dl at h hlo
  match hal : args.toList with
  | [] => rw [hal] at h; cases h
  | [_] => rw [hal] at h; cases h
  | _ :: _ :: _ :: _ => rw [hal] at h; cases h
  | [x, y] =>
    rw [hal] at h
    simp only [List.map_cons, List.map_nil] at h
    have hargs : args = #[x, y] := by apply Array.ext'; rw [hal]
    subst hargs
    have hx := get_sound hR o.type x
    have hy := get_sound hR o.type y
    generalize st.get E.P o.type x = sx at h hx
    generalize st.get E.P o.type y = sy at h hy
    generalize hvx : a.eval x = vx at hx
    generalize hvy : a.eval y = vy at hy
    cases ht0 : argTypes[0]? with
    | none => rw [ht0] at h; cases h
    | some t0 =>
      rw [ht0] at h
      simp only [Option.bind_some] at h
      cases hu : E.P.underlying t0 with
      | none => rw [hu] at h; cases h
      | some dd =>
        rw [hu] at h
        cases dd with
        | slice e =>
          simp only at h
          cases hm : appended E.P st e (argTypes.getD 1 0) sy with
          | none => rw [hm] at h; cases h
          | some m =>
            rw [hm] at h
            cases hz : zeroPV E.P e with
            | none => rw [hz] at h; cases h
            | some z =>
              rw [hz] at h
              simp only at h
              obtain ⟨hc, h⟩ := cond_none h
              simp only [Bool.or_eq_false_iff, Bool.not_eq_false', decide_eq_true_eq] at hc
              obtain ⟨he, hsz⟩ := hc
              obtain ⟨t0', t1, hat⟩ : ∃ t0' t1, argTypes = #[t0', t1] := by
                match hl : argTypes.toList with
                | [p, q] => exact ⟨p, q, by apply Array.ext'; rw [hl]⟩
                | [] => have := congrArg List.length hl; simp [hsz] at this
                | [_] => have := congrArg List.length hl; simp [hsz] at this
                | _ :: _ :: _ :: _ => have := congrArg List.length hl; simp [hsz] at this
              subst hat
              have ht0' : t0' = t0 := by simpa using ht0
              subst ht0'
              have hg1 : (#[t0', t1] : Array TypeId).getD 1 0 = t1 := rfl
              have hg0 : (#[t0', t1] : Array TypeId).getD 0 0 = t0' := rfl
              rw [hg1] at hm
              rw [hg0] at h
              obtain ⟨zv, zcs, z1, z2, z3, z4⟩ := zeroPV_spec hz
              obtain ⟨it, i1, i2⟩ := run_zero_und z1
              have hce : E.P.cellsOf e = it.size := by unfold Program.cellsOf; rw [i1]; rfl
              have hbe : E.P.bytesOf e = it.bytes := by unfold Program.bytesOf; rw [i1]; rfl
              obtain ⟨news, hsrc, hnr⟩ := appended_src hL hR he hy hm
              have hnl := hsrc.newsLen
              have hrun : ∀ {v w'}, (Builtin.append_ #[t0', t1] o.type #[vx, vy]).run E.P w = .ok v w' → (execOp a.eval o).run E.P w = .ok (.value v) w' := by
                intro v w' h
                unfold execOp; rw [ho]
                simp only [resolve, pure_bind, invoke, builtin]
                rw [Sem.run_bind, show (Array.map a.eval #[x, y]) = #[vx, vy] by simp [hvx, hvy], h]; rfl
              have hsrc' : Src E.P it.size t1 vy m.length news w := by rw [← hce]; exact hsrc
              -- a new block
              let C : Nat → List Value → List Value := fun n olds => olds ++ (news ++ (Builtin.zeroCells zv.cells n).toList)
              have newrow : ∀ (base : Option Addr) (l : List PV) (sCap : Nat) (cs : List Value), Rows E.P w (Mut Mo β st.B) e l cs → l.length * E.P.cellsOf e ≤ cs.length → (∀ c ∈ cs, c.oneCell' = true) → (Builtin.firstCells it.size l.length (.slice base l.length sCap)).run E.P w.drew = .ok (cs.take (l.length * E.P.cellsOf e)).toArray w.drew → vx = .slice base l.length sCap →
                  sCap < l.length + m.length → l.length ≤ sCap → roomy (l.length + m.length) (E.P.bytesOf e) = true →
                  ∃ (c' : Nat) (cs' : List Value) (w' : World), (execOp a.eval o).run E.P w = .ok (.value (.slice (some ⟨w.heap.size, 0, none⟩) (l.length + m.length) c')) w' ∧ w'.heap = w.heap.push (.cells cs'.toArray e (0, 0)) ∧ w'.os = w.os ∧ w'.output = w.output ∧
                    l.length + m.length ≤ c' ∧ c' ≤ maxLen ∧ cs'.length = c' * E.P.cellsOf e ∧ (∀ x ∈ cs', x.oneCell' = true) ∧ Rows E.P w (Mut Mo β st.B) e (l ++ m) cs' := by
                intro base l sCap cs hrows hcl h1 hfc hvx' hgt hle hroom
                simp only [roomy, Bool.and_eq_true, decide_eq_true_eq] at hroom
                obtain ⟨r1, r2⟩ := hroom
                have hge := grownCap_ge w (l.length + m.length) sCap e
                have hcm := grownCap_le_maxLen w (l.length + m.length) sCap e (by unfold maxLen; omega)
                obtain ⟨zo1, zo2⟩ := zero_one hL he z3 z4 (grownCap w (l.length + m.length) sCap e - (l.length + m.length))
                have hlast := run_append_grow_src w t0' t1 o.type e it zv hu i1 i2 base l.length sCap (cs.take (l.length * E.P.cellsOf e)) hfc vy m.length news hsrc' hgt (by omega)
                  (growslice_fits hgt (by rw [← hbe]; omega))
                rw [← hvx'] at hlast
                refine ⟨_, cs.take (l.length * E.P.cellsOf e) ++ (news ++ (Builtin.zeroCells zv.cells (grownCap w (l.length + m.length) sCap e - (l.length + m.length))).toList), _, hrun hlast, ?_, rfl, rfl, hge, hcm, ?_, ?_, Rows.app hrows hnr hcl hnl⟩
                · show w.heap.push _ = w.heap.push _
                  congr 2
                  apply Array.ext'
                  simp
                · have hzl : (Builtin.zeroCells zv.cells (grownCap w (l.length + m.length) sCap e - (l.length + m.length))).toList.length = (grownCap w (l.length + m.length) sCap e - (l.length + m.length)) * E.P.cellsOf e := zo2
                  rw [List.length_append, List.length_append, List.length_take, hzl, hnl, Nat.min_eq_left hcl, ← Nat.add_mul, ← Nat.add_mul]
                  congr 1; omega
                · intro c hc
                  rcases List.mem_append.1 hc with hc | hc
                  · exact h1 c (List.mem_of_mem_take hc)
                  · rcases List.mem_append.1 hc with hc | hc
                    · exact hsrc.one c hc
                    · exact zo1 c hc
              by_cases hnil : sx = .nils
              · subst hnil
                simp only at h
                obtain ⟨hroom, h⟩ := cond_some h
                cases hx with
                | nils =>
                  by_cases hm0 : m.length = 0
                  · have hme : m = [] := by simpa using hm0
                    subst hme
                    have hn0 : news = [] := by simpa using hnl
                    subst hn0
                    have hlast := run_append_nothing w t0' t1 o.type e it hu i1 none 0 0 (Nat.le_refl _) vy hsrc'
                    refine ⟨_, h, fun next Q hn => ?_⟩
                    unfold Oper.wp
                    rw [hrun hlast, Oper.upon_value]
                    obtain ⟨g1, g2⟩ := Post.lay1 hR hk dl hlo (.row e []) (x := none) (w' := w) (Nat.le_refl _) (fun _ _ => rfl) (fun b c hb => by cases hb) rfl rfl (fun _ => ⟨he, .inl ⟨at_self _ _ _, rfl⟩⟩)
                    exact hn _ _ (Inv.put hdef ⟨_, g1, g2, .ownNil hu (lay_get _ _ _) (at_self _ _ _)⟩ o.dst)
                  · obtain ⟨c', cs', w', k1, k2, k3, k4, k5, k6, k7, k8, k9⟩ := newrow none [] 0 [] (fun i p hi => by simp at hi) (by simp) (by simp) (by simpa using run_firstCells_none w.drew it.size 0 0 0) rfl (by simp; omega) (by simp) (by simpa using hroom)
                    refine ⟨_, h, fun next Q hn => ?_⟩
                    unfold Oper.wp
                    rw [k1, Oper.upon_value]
                    simp only [List.length_nil, Nat.zero_add, List.nil_append] at k5 k9
                    obtain ⟨g1, g2⟩ := Post.lay1 hR hk dl hlo (.row e m) (x := some (w.heap.size, c')) (w' := w') (by rw [k2]; simp) (fun b hb => by rw [k2]; exact push_old hb) (fun b c hb => by
                      injection hb with hb; injection hb with h2 h3; subst h2; exact ⟨Nat.le_refl _, by rw [k2]; simp⟩) k3 k4 (fun hsame => ⟨he, .inr ⟨_, c', cs', (0, 0), at_self _ _ _, by rw [k2]; exact push_new, fun o _ => by omega, k5, k6, k7, k8, fun i p hi => ((k9 i p hi).mono (retire_stable β st dl)).mono hsame.st⟩⟩)
                    refine hn _ _ (Inv.put hdef ⟨_, g1, g2, ?_⟩ o.dst)
                    have := RS.own (P := E.P) (w := w') (M := Mut Mo (β.at dl (some (w.heap.size, c'))) (st.lay [(dl, .row e m)]).B) (t := t0') (c := c') hu (lay_get st dl (.row e m)) (at_self β dl (some (w.heap.size, c'))) k5
                    simpa using this
              · cases sx with
                | own u d =>
                  simp only at h
                  cases hob : Obs.get st.B d with
                  | none => rw [hob] at h; cases h
                  | some ob =>
                    rw [hob] at h
                    cases ob with
                    | box _ _ => cases h
                    | row e' l =>
                      simp only at h
                      obtain ⟨hc, h⟩ := cond_some h
                      simp only [Bool.and_eq_true, beq_iff_eq] at hc
                      obtain ⟨rfl, hroom⟩ := hc
                      have hRO := hR.ob d _ hob
                      -- the end of all cases
                      have fin : ∀ {x : Option (Nat × Nat)} {v : Value} {w' : World}, (execOp a.eval o).run E.P w = .ok (.value v) w' → w.heap.size ≤ w'.heap.size → (∀ y, y < w.heap.size → (∀ c, β d ≠ some (y, c)) → w'.heap[y]? = w.heap[y]?) →
                          (∀ b c, x = some (b, c) → b < w'.heap.size ∧ (w.heap.size ≤ b ∨ ∃ c', β d = some (b, c'))) → w'.os = w.os → w'.output = w.output →
                          (SameBut E.P d w (Mut Mo β st.B) β st.B w' (Mut Mo (β.at d x) (Obs.ins d (.row e' (l ++ m)) (Obs.del d (Obs.kill d st.B)))) (β.at d x) (Obs.ins d (.row e' (l ++ m)) (Obs.del d (Obs.kill d st.B))) → RO E.P w' (Mut Mo (β.at d x) (Obs.ins d (.row e' (l ++ m)) (Obs.del d (Obs.kill d st.B)))) (β.at d x) (Obs.ins d (.row e' (l ++ m)) (Obs.del d (Obs.kill d st.B))) d (.row e' (l ++ m))) →
                          RS E.P w' (Mut Mo (β.at d x) (Obs.ins d (.row e' (l ++ m)) (Obs.del d (Obs.kill d st.B)))) (β.at d x) (Obs.ins d (.row e' (l ++ m)) (Obs.del d (Obs.kill d st.B))) (.own u d) v → EOk E w0 F Mo o K r a w := by
                        intro x v w' hr hsz hold hx hos hout hro hrs
                        have hsb := samebut_grow hR hob hold (fun b c hb => (hx b c hb).2) (.row e' (l ++ m))
                        have hR' := hR.grow hob hsz hold hx (.row e' (l ++ m)) (hro hsb)
                        have hk' := hk.grow (o' := .row e' (l ++ m)) hob hsz hold (fun b c hb => (hx b c hb).2) (fun t s h => by cases h) hos hout
                        refine ⟨_, h, fun next Q hn => ?_⟩
                        unfold Oper.wp
                        rw [hr, Oper.upon_value]
                        exact hn _ _ (Inv.put (st := { T := SV.kills d st.T, B := Obs.ins d (.row e' (l ++ m)) (Obs.del d (Obs.kill d st.B)) }) hdef ⟨_, hR', hk', hrs⟩ o.dst)
                      -- a new block, of an own row
                      have far : ∀ (base : Option Addr) (sCap : Nat) (cs : List Value), Rows E.P w (Mut Mo β st.B) e' l cs → l.length * E.P.cellsOf e' ≤ cs.length → (∀ c ∈ cs, c.oneCell' = true) → (Builtin.firstCells it.size l.length (.slice base l.length sCap)).run E.P w.drew = .ok (cs.take (l.length * E.P.cellsOf e')).toArray w.drew → vx = .slice base l.length sCap →
                          E.P.underlying u = some (.slice e') → sCap < l.length + m.length → l.length ≤ sCap → EOk E w0 F Mo o K r a w := by
                        intro base sCap cs q1 q2 q3 q4 q5 q6 q7 q8
                        obtain ⟨c', cs', w', k1, k2, k3, k4, k5, k6, k7, k8, k9⟩ := newrow base l sCap cs q1 q2 q3 q4 q5 q7 q8 hroom
                        refine fin (x := some (w.heap.size, c')) k1 (by rw [k2]; simp) (fun b hb _ => by rw [k2]; exact push_old hb) (fun b c hb => by
                          injection hb with hb; injection hb with h2 h3; subst h2; exact ⟨by rw [k2]; simp, .inl (Nat.le_refl _)⟩) k3 k4 (fun hsb => ⟨he, .inr ⟨_, c', cs', (0, 0), at_self _ _ _, by rw [k2]; exact push_new, fun o _ => by omega, by simpa using k5, k6, k7, k8, fun i p hi => (k9 i p hi).mono hsb.st⟩⟩) ?_
                        have := RS.own (P := E.P) (w := w') (M := Mut Mo (β.at d (some (w.heap.size, c'))) (Obs.ins d (.row e' (l ++ m)) (Obs.del d (Obs.kill d st.B)))) (t := u) (c := c') q6 (grow_get d (.row e' (l ++ m)) (Obs.del d (Obs.kill d st.B))) (at_self β d (some (w.heap.size, c'))) (by simpa using k5)
                        simpa using this
                      cases hx with
                      | ownNil hu2 hget hβ =>
                        rw [hob] at hget
                        injection hget with hget; injection hget with h1 h2; subst h2
                        rw [← h1] at hu2
                        by_cases hm0 : m.length = 0
                        · have hme : m = [] := by simpa using hm0
                          subst hme
                          have hn0 : news = [] := by simpa using hnl
                          subst hn0
                          have hlast := run_append_nothing w t0' t1 o.type e' it hu i1 none 0 0 (Nat.le_refl _) vy hsrc'
                          exact fin (x := none) (hrun hlast) (Nat.le_refl _) (fun _ _ _ => rfl) (fun b c hb => by cases hb) rfl rfl (fun _ => ⟨he, .inl ⟨at_self _ _ _, rfl⟩⟩) (.ownNil hu2 (grow_get _ _ _) (at_self _ _ _))
                        · exact far none 0 [] (fun i p hi => by simp at hi) (by simp) (by simp) (by simpa using run_firstCells_none w.drew it.size 0 0 0) rfl hu2 (by simp; omega) (by simp)
                      | @own _ _ _ l2 b c hu2 hget hβ hlc =>
                        rw [hob] at hget
                        injection hget with hget; injection hget with h1 h2; subst h2
                        rw [← h1] at hu2
                        obtain ⟨_, hRO⟩ := hRO
                        rcases hRO with ⟨hb0, _⟩ | ⟨b', c', cs, fr, o1, o2, o3, o4, o5, o6, o7, o8⟩
                        · rw [hb0] at hβ; cases hβ
                        · rw [o1] at hβ; injection hβ with hβ; injection hβ with hb hc; subst hb; subst hc
                          have hlcs : l.length * E.P.cellsOf e' ≤ cs.length := by rw [o6]; exact Nat.mul_le_mul_right _ o4
                          by_cases hfit : l.length + m.length ≤ c'
                          · have hmc := Nat.mul_le_mul_right (E.P.cellsOf e') hfit
                            rw [Nat.add_mul] at hmc
                            have hnin : l.length * E.P.cellsOf e' + news.length ≤ cs.length := by rw [hnl, o6]; exact hmc
                            have hlast := run_append_room_src w t0' t1 o.type e' it hu i1 b' 0 l.length c' vy m.length news hsrc' hfit
                              (fun j hj => by
                                unfold World.cell?
                                rw [← hce]
                                simp only [o2, Option.isSome_none, Bool.false_eq_true, if_false]
                                simp; omega)
                              (fun j hj => by
                                unfold World.frozen?
                                rw [← hce]
                                simp only [o2]
                                have := o3 (0 + l.length * E.P.cellsOf e' + j) (by omega)
                                simp only [Bool.and_eq_false_iff, decide_eq_false_iff_not]
                                rcases Nat.lt_or_ge (0 + l.length * E.P.cellsOf e' + j) fr.1 with h | h
                                · exact .inl (by omega)
                                · exact .inr (fun h' => this ⟨h, h'⟩))
                            rw [← hce, Nat.zero_add] at hlast
                            have hblk := setCells_block b' news (l.length * E.P.cellsOf e') w cs e' fr o2 hnin
                            refine fin (x := some (b', c')) (hrun hlast) (by rw [setCells_size]; exact Nat.le_refl _) (fun y hy hne => setCells_other b' y (fun hyb => hne c' (by rw [hyb]; exact o1)) news _ w) (fun b c hb => by
                              injection hb with hb; injection hb with h2 h3; subst h2
                              exact ⟨by rw [setCells_size]; exact hR.lt _ _ _ _ hob o1, .inr ⟨_, o1⟩⟩) (setCells_os b' news _ w).1 (setCells_os b' news _ w).2 (fun hsb => ⟨he, .inr ⟨b', c', _, fr, at_self _ _ _, hblk, fun o ho => o3 o (by rwa [splice_len hnin] at ho), by simpa using hfit, o5, by rw [splice_len hnin]; exact o6, fun x hx => ?_, ?_⟩⟩) ?_
                            · rcases mem_splice hx with hx | hx
                              · exact o7 x hx
                              · exact hsrc.one x hx
                            · have := Rows.app (rest := cs.drop (l.length * E.P.cellsOf e' + news.length)) (show Rows E.P w (Mut Mo β st.B) e' l cs from o8) hnr hlcs hnl
                              exact fun i p hi => (this i p hi).mono hsb.st
                            · have := RS.own (P := E.P) (w := w.setCells b' (l.length * E.P.cellsOf e') news) (M := Mut Mo (β.at d (some (b', c'))) (Obs.ins d (.row e' (l ++ m)) (Obs.del d (Obs.kill d st.B)))) (t := u) (c := c') hu2 (grow_get d (.row e' (l ++ m)) (Obs.del d (Obs.kill d st.B))) (at_self β d (some (b', c'))) (by simpa using hfit)
                              simpa using this
                          · refine far (some ⟨b', 0, none⟩) c' cs o8 hlcs o7 ?_ rfl hu2 (by omega) o4
                            have := run_firstCells_some (P := E.P) w.drew it.size l.length ⟨b', 0, none⟩ l.length c' (cs.take (l.length * E.P.cellsOf e')) (by rw [List.length_take, Nat.min_eq_left hlcs, hce]) (fun j v hj => by
                              have hj' : (sub cs 0 (l.length * E.P.cellsOf e'))[j]? = some v := hj
                              have := cell_block o2 j _ hj'
                              simpa using this)
                            exact this
                | nils => exact absurd rfl hnil
                | _ => cases h
        | _ => cases h

end
end Go.X
