/- The interpreter X, part 41: what comes behind the end may be handed in. -/
import Derived.Test.YtbmhbnkejgjfdaaX40
namespace Go.X
open Go

theorem unpair_bind (K : SV → Obs → Option Out) (h : Out → Option Out) (y : Out) : unpair (fun s os => (K s os).bind h) y = (unpair K y).bind h := by
  unfold unpair
  split <;> rfl

theorem opQ_bind (E : Env) (hp : Par E.C) (h : Out → Option Out) (o : Oper) (st : St) (K : SV → Obs → Option Out) : opQ E o st (fun s os => (K s os).bind h) = (opQ E o st K).bind h := by
  rw [opQ_param E hp o st K, opQ_param E hp o st (fun s os => (K s os).bind h)]
  cases opQ E o st pairK with
  | none => rfl
  | some y => exact unpair_bind K h y

theorem ite_bind {c : Prop} [Decidable c] (x y : Option Out) (h : Out → Option Out) : (if c then x else y).bind h = if c then x.bind h else y.bind h := by split <;> rfl

theorem callE_bind (E : Env) (hp : Par E.C) (h : Out → Option Out) (o : Oper) (st : St) (f : FuncId) (args : List SV) (K : St → Option Out) : callE E o st f args (fun st => (K st).bind h) = (callE E o st f args K).bind h := by
  unfold callE
  cases E.P.funcs[f]? with
  | none => rfl
  | some fn =>
    simp only [Bool.cond_eq_ite]
    split
    · rw [ite_bind]
      split
      · refine Par.bind hp fun r => ?_
        split <;> rfl
      · rfl
    · rfl

theorem opE_bind (E : Env) (hp : Par E.C) (h : Out → Option Out) (o : Oper) (st : St) (K : St → Option Out) : opE E o st (fun st => (K st).bind h) = (opE E o st K).bind h := by
  unfold opE
  simp only [Bool.cond_eq_ite]
  split
  · repeat' split
    all_goals first
      | rfl
      | (simp only [ite_bind]; done)
  · repeat' split
    all_goals first
      | rfl
      | (simp only [ite_bind]; done)
  · exact callE_bind E hp h o st _ _ K
  · split
    · exact callE_bind E hp h o st _ _ K
    · rfl
  · rfl

theorem opX_bind (E : Env) (hp : Par E.C) (h : Out → Option Out) (o : Oper) (st : St) (K : St → Option Out) : opX E o st (fun st => (K st).bind h) = (opX E o st K).bind h := by
  unfold opX
  simp only [Bool.cond_eq_ite]
  split
  · rfl
  · split
    · exact opE_bind E hp h o _ K
    · exact opQ_bind E hp h o _ (fun s os => K ((St.lay _ os).put o.dst s))

theorem execOps_bind (E : Env) (hp : Par E.C) (h : Out → Option Out) (ops : Array Oper) (K : St → Option Out) : ∀ (l : List Oper) (st : St), execOps E ops l (fun st => (K st).bind h) st = (execOps E ops l K st).bind h
  | [], st => rfl
  | o :: l, st => by
    have ih : execOps E ops l (fun st => (K st).bind h) = fun st => (execOps E ops l K st).bind h := funext fun st => execOps_bind E hp h ops K l st
    unfold execOps
    cases o.guard with
    | none => simp only [ih]; exact opX_bind E hp h o _ _
    | some gw =>
      obtain ⟨j, want⟩ := gw
      simp only
      cases (ops[j]?).bind (·.dst) with
      | none => rfl
      | some dj =>
        simp only [Bool.cond_eq_ite]
        split
        · split
          · rw [ih]; exact opX_bind E hp h o _ _
          · rw [ih]
        · rw [ih]
        · rfl

theorem stepA_bind (E : Env) (hp : Par E.C) (h : Out → Option Out) (o : Oper) (st : St) (os : Obs) (K : St → Obs → Option Out) : stepA E o st os (fun st os => (K st os).bind h) = (stepA E o st os K).bind h := by
  unfold stepA
  cases (isE E o st || !(match o.op with | .alloc t => (zeroRows E (o.dst.getD 0) 0 (fieldsOf E.P t)).isEmpty | _ => true)) with
  | true => rfl
  | false =>
    simp only [cond_false]
    rw [← opQ_bind E hp h]
    congr 1
    funext s l
    split
    · rfl
    · rename_i d ob
      cases (o.dst == some d && laysOp o && d.blt lowB) <;> rfl
    · rfl

theorem execA_bind (E : Env) (hp : Par E.C) (h : Out → Option Out) (ops : Array Oper) (K : St → Obs → Option Out) : ∀ (l : List Oper) (st : St) (os : Obs), execA E ops l (fun st os => (K st os).bind h) st os = (execA E ops l K st os).bind h
  | [], st, os => rfl
  | o :: l, st, os => by
    have ih : execA E ops l (fun st os => (K st os).bind h) = fun st os => (execA E ops l K st os).bind h := funext fun st => funext fun os => execA_bind E hp h ops K l st os
    unfold execA
    cases o.guard with
    | none => simp only [ih]; exact stepA_bind E hp h o st os _
    | some gw =>
      obtain ⟨j, want⟩ := gw
      simp only
      cases (ops[j]?).bind (·.dst) with
      | none => rfl
      | some dj =>
        simp only [Bool.cond_eq_ite]
        split
        · split
          · rw [ih]; exact stepA_bind E hp h o _ _ _
          · rw [ih]
        · rw [ih]
        · rfl

theorem execD_bind (E : Env) (hp : Par E.C) (h : Out → Option Out) (ops : Array Oper) (K : St → Option Out) (st : St) : execD E ops (fun st => (K st).bind h) st = (execD E ops K st).bind h := by
  unfold execD
  simp only
  rw [← execA_bind E hp h]
  congr 1
  funext st os
  exact execOps_bind E hp h ops K _ _

theorem loopN_bind (h : Out → Option Out) {body : Kont → St → Option Out} (hb : ∀ K st, body (fun e st => (K e st).bind h) st = (body K st).bind h) (K : Kont) : ∀ (n : Nat) (st : St), loopN body (fun e st => (K e st).bind h) n st = (loopN body K n st).bind h
  | 0, st => rfl
  | n + 1, st => by
    unfold loopN
    rw [← hb]
    congr 1
    funext e st
    cases e with
    | normal => exact loopN_bind h hb K n st
    | _ => rfl

theorem exec_bind (E : Env) (hp : Par E.C) (h : Out → Option Out) : ∀ (c : Code) (K : Kont) (st : St), exec E c (fun e st => (K e st).bind h) st = (exec E c K st).bind h
  | .skip, K, st => rfl
  | .region _ ops draw, K, st => by
    unfold exec
    cases draw with
    | true => exact execD_bind E hp h ops (K .normal) st
    | false => exact execOps_bind E hp h ops (K .normal) _ st
  | .seq a b, K, st => by
    unfold exec
    rw [← exec_bind E hp h a]
    congr 1
    funext e st
    cases e with
    | normal => exact exec_bind E hp h b K _
    | _ => rfl
  | .cond c a b, K, st => by
    unfold exec
    split
    · rename_i t _
      cases t with
      | true => exact exec_bind E hp h a K _
      | false => exact exec_bind E hp h b K _
    · rfl
  | .block id c, K, st => by
    unfold exec
    rw [← exec_bind E hp h c]
    congr 1
    funext e st
    unfold blockK
    split
    · rename_i i
      cases hi : i == id <;> rfl
    · rfl
  | .loop c, K, st => by
    unfold exec
    refine loopN_bind h (body := fun K st => exec E c (purgeK E c K) st) (fun K st => ?_) K _ _
    show exec E c _ st = _
    rw [← exec_bind E hp h c]
    congr 1
    funext e st
    cases e <;> rfl
  | .exit id, K, st => rfl
  | .scope c, K, st => by
    unfold exec
    exact exec_bind E hp h c K st
  | .ret, K, st => rfl
  | .rangeFunc _ _ _ _, K, st => rfl
  | .label _, K, st => rfl
  | .goto _, K, st => rfl
  | .refuse _, K, st => rfl

end Go.X
