/- The interpreter X, part 16: equality of data; lengths, slices, conversions, binary operators. -/
import Derived.Test.YtbmhbnkejgjfdaaX15
import Derived.DeepKeys
import Derived.Laws.StructEq
import Derived.Laws.BytesString
namespace Go.X
open Go
section
variable {P : Program} {w : World} {M : Nat → Prop}

theorem cmpOk_desc {n : Nat} {t : TypeId} (h : cmpOk P n t = true) : ∃ d, P.underlying t = some d := by
  cases n with
  | zero => cases h
  | succ n =>
    unfold cmpOk at h
    cases hu : P.underlying t with
    | none => rw [hu] at h; cases h
    | some d => exact ⟨d, rfl⟩

theorem eqItems_sound {d : Nat} {e : TypeId} {de : TypeDesc} (hde : P.underlying e = some de) {xs ys : List Value}
    (IH : ∀ {p q : PV} {cs ds : List Value} {v u : Value}, Rd P w M e p cs → Rd P w M e q ds → Pack P e v cs → Pack P e u ds → (Op.equalIn d e v u).run P w = .ok (PV.beq p q) w) :
    ∀ (is : List Nat) (ls ms : List PV), is.length = ls.length → is.length = ms.length →
      (∀ (k i : Nat) (p q : PV), is[k]? = some i → ls[k]? = some p → ms[k]? = some q → Rd P w M e p (sub xs (i * P.cellsOf e) (P.cellsOf e)) ∧ Rd P w M e q (sub ys (i * P.cellsOf e) (P.cellsOf e))) →
      (Op.eqItems d e (P.cellsOf e) xs.toArray ys.toArray is).run P w = .ok (PV.beqs ls ms) w
  | [], [], [], _, _, _ => rfl
  | i :: is, p :: ls, q :: ms, h1, h2, h => by
    obtain ⟨r1, r2⟩ := h 0 i p q rfl rfl rfl
    obtain ⟨v, hv⟩ := r1.pack
    obtain ⟨u, hu⟩ := r2.pack
    have ih := eqItems_sound hde IH is ls ms (by simpa using h1) (by simpa using h2) (fun k i' p' q' a b c => h (k + 1) i' p' q' (by simpa using a) (by simpa using b) (by simpa using c))
    simp only [Op.eqItems, Sem.run_bind, run_part hde hv, run_part hde hu, Result.andThen_ok, IH r1 r2 hv hu, PV.beqs]
    cases PV.beq p q
    · simp
    · simpa using ih
  | [], _ :: _, _, h1, _, _ => by simp at h1
  | [], [], _ :: _, _, h2, _ => by simp at h2
  | _ :: _, [], _, h1, _, _ => by simp at h1
  | _ :: _, _ :: _, [], _, h2, _ => by simp at h2

theorem eqFields_sound {d : Nat} {xs ys : List Value} :
    ∀ (fs : List Field) (ls ms : List PV), fs.length = ls.length → fs.length = ms.length →
      (∀ f ∈ fs, f.name ≠ "_" ∧ (∃ de, P.underlying f.type = some de) ∧ ∀ {p q : PV} {cs ds : List Value} {v u : Value}, Rd P w M f.type p cs → Rd P w M f.type q ds → Pack P f.type v cs → Pack P f.type u ds → (Op.equalIn d f.type v u).run P w = .ok (PV.beq p q) w) →
      (∀ (k : Nat) (f : Field) (p q : PV), fs[k]? = some f → ls[k]? = some p → ms[k]? = some q → Rd P w M f.type p (sub xs f.offset (P.cellsOf f.type)) ∧ Rd P w M f.type q (sub ys f.offset (P.cellsOf f.type))) →
      (Op.eqFields d xs.toArray ys.toArray fs).run P w = .ok (PV.beqs ls ms) w
  | [], [], [], _, _, _, _ => rfl
  | f :: fs, p :: ls, q :: ms, h1, h2, ha, h => by
    obtain ⟨r1, r2⟩ := h 0 f p q rfl rfl rfl
    obtain ⟨hn, ⟨de, hde⟩, IH⟩ := ha f (by simp)
    obtain ⟨v, hv⟩ := r1.pack
    obtain ⟨u, hu⟩ := r2.pack
    have ih := eqFields_sound fs ls ms (by simpa using h1) (by simpa using h2) (fun g hg => ha g (by simp [hg])) (fun k f' p' q' a b c => h (k + 1) f' p' q' (by simpa using a) (by simpa using b) (by simpa using c))
    simp only [Op.eqFields, hn, ne_eq, not_false_eq_true, if_true, Sem.run_bind, run_part hde hv, run_part hde hu, Result.andThen_ok, IH r1 r2 hv hu, PV.beqs]
    cases PV.beq p q
    · simp
    · simpa using ih
  | [], _ :: _, _, h1, _, _, _ => by simp at h1
  | [], [], _ :: _, _, h2, _, _ => by simp at h2
  | _ :: _, [], _, h1, _, _, _ => by simp at h1
  | _ :: _, _ :: _, [], _, h2, _, _ => by simp at h2

theorem pack_one {t : TypeId} {v x : Value} (h : Pack P t v [x]) (ha : isAggT P t = false) : v = x := by
  unfold Pack at h; rw [if_neg (by simp [ha])] at h; injection h with h; exact h.symm

theorem eq_sound : ∀ (n : Nat) {t : TypeId} {p q : PV} {cs ds : List Value} {v u : Value}, cmpOk P n t = true → Rd P w M t p cs → Rd P w M t q ds → Pack P t v cs → Pack P t u ds →
    ∀ d, (Op.equalIn (d + n) t v u).run P w = .ok (PV.beq p q) w := by
  intro n
  induction n with
  | zero => intro t p q cs ds v u h; cases h
  | succ n ih =>
    intro t p q cs ds v u h hp hq hv hu d
    rw [show d + (n + 1) = (d + n) + 1 from rfl]
    unfold cmpOk at h
    cases hp with
    | @int _ k x ht hw =>
      cases hq with
      | @int _ k' y ht' hw' =>
        rw [ht] at ht'; injection ht' with ht'; injection ht' with ht'; subst ht'
        rw [pack_one hv (by simp [isAggT, ht]), pack_one hu (by simp [isAggT, ht]), run_equalIn_int w (d + n) t k k x y ht]
        rfl
      | bool ht' => rw [ht] at ht'; cases ht'
      | str ht' => rw [ht] at ht'; cases ht'
      | flt ht' => rw [ht] at ht'; cases ht'
      | nilSlice ht' => rw [ht] at ht'; cases ht'
      | slice ht' => rw [ht] at ht'; cases ht'
      | nilPtr ht' => rw [ht] at ht'; cases ht'
      | ref ht' => rw [ht] at ht'; cases ht'
      | nilIface ht' => rw [ht] at ht'; cases ht'
      | struct ht' => rw [ht] at ht'; cases ht'
      | arr ht' => rw [ht] at ht'; cases ht'
    | @bool _ x ht =>
      cases hq with
      | @bool _ y ht' =>
        rw [pack_one hv (by simp [isAggT, ht]), pack_one hu (by simp [isAggT, ht]), run_equalIn_bool w (d + n) t x y ht]
        rfl
      | int ht' => rw [ht] at ht'; cases ht'
      | str ht' => rw [ht] at ht'; cases ht'
      | flt ht' => rw [ht] at ht'; cases ht'
      | nilSlice ht' => rw [ht] at ht'; cases ht'
      | slice ht' => rw [ht] at ht'; cases ht'
      | nilPtr ht' => rw [ht] at ht'; cases ht'
      | ref ht' => rw [ht] at ht'; cases ht'
      | nilIface ht' => rw [ht] at ht'; cases ht'
      | struct ht' => rw [ht] at ht'; cases ht'
      | arr ht' => rw [ht] at ht'; cases ht'
    | @str _ x ht hx =>
      cases hq with
      | @str _ y ht' hy =>
        rw [pack_one hv (by simp [isAggT, ht]), pack_one hu (by simp [isAggT, ht]), run_equalIn_string w (d + n) t x y ht, chars_eq]
        rfl
      | int ht' => rw [ht] at ht'; cases ht'
      | bool ht' => rw [ht] at ht'; cases ht'
      | flt ht' => rw [ht] at ht'; cases ht'
      | nilSlice ht' => rw [ht] at ht'; cases ht'
      | slice ht' => rw [ht] at ht'; cases ht'
      | nilPtr ht' => rw [ht] at ht'; cases ht'
      | ref ht' => rw [ht] at ht'; cases ht'
      | nilIface ht' => rw [ht] at ht'; cases ht'
      | struct ht' => rw [ht] at ht'; cases ht'
      | arr ht' => rw [ht] at ht'; cases ht'
    | @arr _ m e l _ ht hs hl hc hel =>
      cases hq with
      | @arr _ m' e' l' _ ht' hs' hl' hc' hel' =>
        rw [ht] at ht'; injection ht' with ht'; injection ht' with g1 g2; subst g1; subst g2
        rw [ht] at h
        obtain ⟨de, hde⟩ := cmpOk_desc h
        obtain ⟨i, hi⟩ := info_of hde
        unfold Pack at hv hu; rw [if_pos (isAggT_arr ht)] at hv hu
        subst hv; subst hu
        rw [run_equalIn_array w (d + n) cs.toArray ds.toArray ht hi]
        exact eqItems_sound hde (fun a b c e' => ih h a b c e' d) (List.range m) l l' (by simp [hl]) (by simp [hl'])
          (fun k i p q a b c => by
            have hk : k < m := by have := get_lt a; simpa using this
            rw [List.getElem?_range hk] at a
            injection a with a; subst a
            exact ⟨hel _ p b, hel' _ q c⟩)
      | int ht' => rw [ht] at ht'; cases ht'
      | bool ht' => rw [ht] at ht'; cases ht'
      | str ht' => rw [ht] at ht'; cases ht'
      | flt ht' => rw [ht] at ht'; cases ht'
      | nilSlice ht' => rw [ht] at ht'; cases ht'
      | slice ht' => rw [ht] at ht'; cases ht'
      | nilPtr ht' => rw [ht] at ht'; cases ht'
      | ref ht' => rw [ht] at ht'; cases ht'
      | nilIface ht' => rw [ht] at ht'; cases ht'
      | struct ht' => rw [ht] at ht'; cases ht'
    | @struct _ fs l _ ht hs hl hc hfl =>
      cases hq with
      | @struct _ fs' l' _ ht' hs' hl' hc' hfl' =>
        rw [ht] at ht'; injection ht' with ht'; injection ht' with g1; subst g1
        rw [ht] at h
        simp only [Bool.and_eq_true, Bool.not_eq_true', List.all_eq_true, bne_iff_ne, ne_eq] at h
        unfold Pack at hv hu; rw [if_pos (isAggT_struct ht)] at hv hu
        subst hv; subst hu
        have hfo : P.fieldsOf t = fs := by simp [Program.fieldsOf, ht]
        rw [run_equalIn_struct w (d + n) t cs.toArray ds.toArray (by rw [hfo]; exact ht) h.1, hfo]
        exact eqFields_sound fs.toList l l' (by simp [hl]) (by simp [hl'])
          (fun f hf => ⟨(h.2 f hf).1, cmpOk_desc (h.2 f hf).2, fun a b c e' => ih (h.2 f hf).2 a b c e' d⟩)
          (fun k f p q a b c => ⟨hfl k f p (by simpa using a) b, hfl' k f q (by simpa using a) c⟩)
      | int ht' => rw [ht] at ht'; cases ht'
      | bool ht' => rw [ht] at ht'; cases ht'
      | str ht' => rw [ht] at ht'; cases ht'
      | flt ht' => rw [ht] at ht'; cases ht'
      | nilSlice ht' => rw [ht] at ht'; cases ht'
      | slice ht' => rw [ht] at ht'; cases ht'
      | nilPtr ht' => rw [ht] at ht'; cases ht'
      | ref ht' => rw [ht] at ht'; cases ht'
      | nilIface ht' => rw [ht] at ht'; cases ht'
      | arr ht' => rw [ht] at ht'; cases ht'
    | flt ht => rw [ht] at h; cases h
    | nilSlice ht => rw [ht] at h; cases h
    | slice ht => rw [ht] at h; cases h
    | nilPtr ht => rw [ht] at h; cases h
    | ref ht => rw [ht] at h; cases h
    | nilIface ht => rw [ht] at h; cases h

/-- No interface among the parts. -/
theorem guard_none {n : Nat} {t : TypeId} (h : cmpOk P n t = true) : ∀ m, n ≤ m → P.eqGuardType m t = false := by
  induction n generalizing t with
  | zero => cases h
  | succ n ih =>
    intro m hm
    cases m with
    | zero => omega
    | succ m =>
      unfold cmpOk at h
      unfold Program.eqGuardType
      cases hu : P.underlying t with
      | none => rfl
      | some d =>
        rw [hu] at h
        cases d with
        | interface ms => cases h
        | struct fs =>
          simp only [Bool.and_eq_true, Bool.not_eq_true', List.all_eq_true, bne_iff_ne, ne_eq] at h
          simp only
          rw [← Array.any_toList, List.any_eq_false]
          intro f hf
          simp [ih (h.2 f hf).2 m (by omega)]
        | array n e => exact ih h m (by omega)
        | _ => rfl

end

section
variable {E : Env} {w0 : World} {F : Foot} {Mo : Nat → Prop} {st : St} {K : SV → Obs → Option Out} {r : Out} {a : Act} {w : World} {β : Beta}

theorem nilX_sound {op : BinOp} {t : TypeId} {e : TypeId} {s : SV} {v : Value} {K : SV → Option Out} (hu : E.P.underlying t = some (.pointer e)) {M : Nat → Prop} {B : Obs} (hs : RS E.P w M β B s v) (h : nilX E.P op s K = some r) :
    ∃ b, K (.bool b) = some r ∧ (binOp op t v (.pointer none)).run E.P w = .ok (.bool b) w ∧ v.oneCell' = true := by
  have key : ∀ (p : Option Addr) (b : Bool), (op = .eql ∧ b = p.isNone) ∨ (op = .neq ∧ b = !p.isNone) → (binOp op t (.pointer p) (.pointer none)).run E.P w = .ok (.bool b) w := by
    rintro p b (⟨h1, h2⟩ | ⟨h1, h2⟩)
    · subst h1; subst h2
      unfold binOp
      simp only [Op.equal, Op.maxDepth, Sem.run_bind]
      unfold Op.equalIn
      rw [Sem.run_bind, run_underlying hu, Result.andThen_ok]
      cases p <;> rfl
    · subst h1; subst h2
      unfold binOp
      simp only [Op.equal, Op.maxDepth, Sem.run_bind]
      unfold Op.equalIn
      rw [Sem.run_bind, run_underlying hu, Result.andThen_ok]
      cases p <;> rfl
  cases hs with
  | @val t' p v cs hp hr =>
    simp only [nilX] at h
    cases hr with
    | nilPtr hu' =>
      rw [hu'] at h
      rw [pack_one hp (by simp [isAggT, hu'])]
      cases op <;> simp only [reduceCtorEq] at h
      · exact ⟨_, h, key none _ (.inl ⟨rfl, rfl⟩), rfl⟩
      · exact ⟨_, h, key none _ (.inr ⟨rfl, rfl⟩), rfl⟩
    | ref hu' =>
      rw [hu'] at h
      rw [pack_one hp (by simp [isAggT, hu'])]
      cases op <;> simp only [reduceCtorEq] at h
      · exact ⟨_, h, key (some _) _ (.inl ⟨rfl, rfl⟩), rfl⟩
      · exact ⟨_, h, key (some _) _ (.inr ⟨rfl, rfl⟩), rfl⟩
    | int hu' => rw [hu'] at h; cases h
    | bool hu' => rw [hu'] at h; cases h
    | str hu' => rw [hu'] at h; cases h
    | flt hu' => rw [hu'] at h; cases h
    | nilSlice hu' => rw [hu'] at h; cases h
    | slice hu' => rw [hu'] at h; cases h
    | nilIface hu' => rw [hu'] at h; cases h
    | struct hu' => rw [hu'] at h; cases h
    | arr hu' => rw [hu'] at h; cases h
  | fro =>
    simp only [nilX] at h
    cases op <;> simp only [reduceCtorEq] at h
    · exact ⟨_, h, key (some _) _ (.inl ⟨rfl, rfl⟩), rfl⟩
    · exact ⟨_, h, key (some _) _ (.inr ⟨rfl, rfl⟩), rfl⟩
  | ptr =>
    simp only [nilX] at h
    cases op <;> simp only [reduceCtorEq] at h
    · exact ⟨_, h, key (some _) _ (.inl ⟨rfl, rfl⟩), rfl⟩
    · exact ⟨_, h, key (some _) _ (.inr ⟨rfl, rfl⟩), rfl⟩
  | _ => cases h

theorem q_binOp (hR : Rel E.P Mo β st.T st.B a.tmps.toList w) (hk : Kp w0 F β st.B w) {o : Oper} {op : BinOp} {t u : TypeId} {x y : Operand} (ho : o.op = .binOp op t x y u) (h : opQ E o st K = some r) : QOk E w0 F Mo β o st K r a w := by
  have hx := get_sound hR t x
  have hy := get_sound hR t y
  unfold opQ at h
  rw [ho] at h
  simp only at h
  generalize st.get E.P t x = sx at h hx
  generalize st.get E.P t y = sy at h hy
  generalize hv : a.eval x = v at hx
  generalize hvy : a.eval y = vy at hy
  have run : ∀ {res : Value}, (eqGuard op t x y v vy).run E.P w = .ok () w → (binOp op t v vy).run E.P w = .ok res w → (execOp a.eval o).run E.P w = .ok (.value res) w := by
    intro res h1 h2
    unfold execOp; rw [ho]
    simp only [hv, hvy]
    rw [Sem.run_bind, Sem.run_bind, h1, Result.andThen_ok, h2]; rfl
  unfold binX at h
  split at h
  · rename_i k n k' n'
    cases hx with
    | int hw =>
      cases hy with
      | int hw' =>
        have hg := eqGuard_plain (P := E.P) (op := op) (t := t) (x := x) (y := y) (a := .int k n) (b := .int k' n') w rfl (.inl (by simp))
        split at h
        · obtain ⟨h1, h⟩ := cond_some h
          have h1 := of_decide_eq_true h1
          refine QOk.val hR hk h (run hg (res := .int k (k.wrap (n * 2 ^ (min n'.toNat k.bits)))) ?_) (.int (wf_wrap _ _))
          unfold binOp Op.shift
          simp only [if_neg (show ¬ n' < 0 by omega)]; rfl
        · obtain ⟨h1, h⟩ := cond_some h
          have h1 := of_decide_eq_true h1
          refine QOk.val hR hk h (run hg (res := .int k (n.fdiv (2 ^ (min n'.toNat k.bits)))) ?_) (.int (fdiv_wf _ hw))
          unfold binOp Op.shift
          simp only [if_neg (show ¬ n' < 0 by omega)]; rfl
        · rename_i hs1 hs2
          obtain ⟨h1, h9⟩ := cond_some h
          clear h
          have h1 := of_decide_eq_true h1
          subst h1
          obtain ⟨s, v', g1, g2, g3⟩ := binI_sound (P := E.P) (t := t) ⟨fun e => hs1 e, fun e => hs2 e⟩ hw h9 w
          exact QOk.val hR hk g1 (run hg g2) (g3 _ _ _)
  · rename_i b b'
    cases hx with
    | bool =>
      cases hy with
      | bool =>
        have hg := eqGuard_plain (P := E.P) (op := op) (t := t) (x := x) (y := y) (a := .bool b) (b := .bool b') w rfl (.inl (by simp))
        cases hu : E.P.underlying t with
        | none => rw [hu] at h; cases h
        | some d =>
          rw [hu] at h
          cases d with
          | bool =>
            have he := run_equalIn_bool (P := E.P) w 9999 t b b' hu
            cases op <;> simp only [reduceCtorEq] at h
            · refine QOk.val hR hk h (run hg (res := .bool (b == b')) ?_) .bool
              unfold binOp
              simp only [Op.equal, Op.maxDepth, Sem.run_bind, he, Result.andThen_ok]; rfl
            · refine QOk.val hR hk h (run hg (res := .bool (!(b == b'))) ?_) .bool
              unfold binOp
              simp only [Op.equal, Op.maxDepth, Sem.run_bind, he, Result.andThen_ok]; rfl
          | _ => cases op <;> cases h
  · rename_i l l'
    cases hx with
    | @str s hs =>
      cases hy with
      | @str s' hs' =>
        have hg := eqGuard_plain (P := E.P) (op := op) (t := t) (x := x) (y := y) (a := .string s) (b := .string s') w rfl (.inl (by simp))
        obtain ⟨s2, v', g1, g2, g3⟩ := binSt_sound (P := E.P) (t := t) hs hs' h w
        exact QOk.val hR hk g1 (run hg g2) (g3 _ _ _)
  · rename_i t1 p t2 q
    generalize hpv : (SV.val t1 p).pvT E.P t = op1 at h
    generalize hqv : (SV.val t2 q).pvT E.P t = op2 at h
    generalize hck : (cmpOk E.P 20 t && isAggT E.P t) = ck at h
    have main : ∀ p' q', op1 = some p' → op2 = some q' → ck = true → (eqGuard op t x y v vy).run E.P w = .ok () w ∧ (Op.equal t v vy).run E.P w = .ok (PV.beq p' q') w ∧ (∃ c d, v = .agg c ∧ vy = .agg d) := by
      intro p' q' h1 h2 h3
      subst h1; subst h2; subst h3
      simp only [Bool.and_eq_true] at hck
      obtain ⟨cs, c1, c2⟩ := hx.pvT hpv
      obtain ⟨ds, d1, d2⟩ := hy.pvT hqv
      have he := eq_sound 20 hck.1 c2 d2 c1 d1 9980
      unfold Pack at c1 d1; rw [if_pos hck.2] at c1 d1
      subst c1; subst d1
      refine ⟨?_, he, _, _, rfl, rfl⟩
      unfold eqGuard
      by_cases hop : op = .eql ∨ op = .neq
      · have hd : 20 ≤ E.P.depth := by unfold Program.depth Made.depth; omega
        rcases hop with hop | hop <;> subst hop <;>
          simp only [Bool.not_true, Bool.false_eq_true, if_false, Sem.run_bind, run_program, Result.andThen_ok, guard_none hck.1 _ hd, Bool.not_false, if_true, Sem.run_pure]
      · cases op <;> first | rfl | (simp at hop; done)
    cases op <;> cases ck <;> cases op1 <;> cases op2 <;> first | (cases h; done) | skip
    · obtain ⟨g1, g2, c, d, rfl, rfl⟩ := main _ _ rfl rfl rfl
      refine QOk.val hR hk h (run g1 (res := .bool _) ?_) .bool
      unfold binOp
      simp only [Sem.run_bind, g2, Result.andThen_ok]; rfl
    · obtain ⟨g1, g2, c, d, rfl, rfl⟩ := main _ _ rfl rfl rfl
      refine QOk.val hR hk h (run g1 (res := .bool _) ?_) .bool
      unfold binOp
      simp only [Sem.run_bind, g2, Result.andThen_ok]; rfl
  · cases hu : E.P.underlying t with
    | none => rw [hu] at h; cases h
    | some d =>
      rw [hu] at h
      cases d with
      | pointer e =>
        cases hy with
        | nilp =>
          obtain ⟨b, g1, g2, g3⟩ := nilX_sound hu hx h
          exact QOk.val hR hk g1 (run (eqGuard_plain w g3 (.inr (by simp))) g2) .bool
      | _ => cases h
  · cases h

end
end Go.X
