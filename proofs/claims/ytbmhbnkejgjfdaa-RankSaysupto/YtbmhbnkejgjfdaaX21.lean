/- The interpreter X, part 21: makeSlice; conversions. -/
import Derived.Test.YtbmhbnkejgjfdaaX20
namespace Go.X
open Go
section
variable {E : Env} {w0 : World} {F : Foot} {Mo : Nat → Prop} {st : St} {K : SV → Obs → Option Out} {r : Out} {a : Act} {w : World} {β : Beta}

theorem q_makeSlice (hL : laidOutB E.P = true) (hR : Rel E.P Mo β st.T st.B a.tmps.toList w) (hk : Kp w0 F β st.B w) {o : Oper} {t : TypeId} {x y : Operand} (ho : o.op = .makeSlice t x y)
    (hd : Obs.get st.B (o.dst.getD 0) = none) (hlo : o.dst.getD 0 < lowB) (h : opQ E o st K = some r) : QOk E w0 F Mo β o st K r a w := by
  have hx := get_sound hR o.type x
  have hy := get_sound hR o.type y
  unfold opQ at h
  rw [ho] at h
  simp only at h
  generalize o.dst.getD 0 = d at h hd hlo
  generalize st.get E.P o.type x = sx at h hx
  generalize st.get E.P o.type y = sy at h hy
  generalize hvx : a.eval x = vx at hx
  generalize hvy : a.eval y = vy at hy
  cases hu : E.P.underlying t with
  | none => rw [hu] at h; cases h
  | some dd =>
    rw [hu] at h
    cases dd with
    | slice e =>
      cases hx with
      | @int k n _ =>
        cases hy with
        | @int k' m _ =>
          simp only at h
          cases hz : zeroPV E.P e with
          | none => rw [hz] at h; cases h
          | some z =>
            obtain ⟨zv, zcs, z1, z2, z3, z4⟩ := zeroPV_spec hz
            obtain ⟨it, i1, i2⟩ := run_zero_und z1
            have hzr : Rd E.P w (Mut Mo β st.B) e z zcs := pvC_sound 10 z3
            rw [hz] at h
            simp only at h
            obtain ⟨hc, h9⟩ := cond_some h
            clear h
            simp only [Bool.and_eq_true, decide_eq_true_eq, roomy] at hc
            obtain ⟨⟨⟨he, h0⟩, rfl⟩, h1, h2⟩ := hc
            have hce : E.P.cellsOf e = it.size := by unfold Program.cellsOf; rw [i1]; rfl
            have hbe : E.P.bytesOf e = it.bytes := by unfold Program.bytesOf; rw [i1]; rfl
            obtain ⟨m1, m2⟩ := made_rows hL he hzr n.toNat
            obtain ⟨k, rfl⟩ : ∃ k : Nat, n = k := ⟨n.toNat, by omega⟩
            rw [Int.toNat_natCast] at h9 h1 h2 m1 m2
            have hb : ((it.bytes * k : Nat) : Int) ≤ 281474976710656 := by
              have : it.bytes * k ≤ 35184372088832 := by rw [← hbe, Nat.mul_comm]; exact h1
              omega
            rw [Int.natCast_mul] at hb
            have hrun : (execOp a.eval o).run E.P w = .ok (.value (.slice (some ⟨w.heap.size, 0, none⟩) (List.replicate k z).length k)) (w.alloc (.cells (madeCells zcs.toArray (k * E.P.cellsOf e)) e)) := by
              unfold execOp; rw [ho]
              simp only
              rw [hvx, hvy, Sem.run_bind, run_make w t e it zv hu i1 i2 _ _ k k (by omega) (by omega) hb (by omega), z4, hce]
              rw [Int.toNat_natCast, List.length_replicate]
              rfl
            by_cases hown : E.nilOwn d = true
            · rw [hown, cond_true] at h9
              exact q_rowOwn hR hk hu he m1 m2 (by rw [size_madeCells]) (by simp) (by unfold maxLen; omega) (fun o _ => by omega) hd hlo hrun rfl rfl rfl h9
            · rw [show E.nilOwn d = false by simpa using hown, cond_false] at h9
              exact q_rowVal hR hk hu m1 (by rw [size_madeCells]) (by simp) (by unfold maxLen; omega) hrun rfl rfl rfl h9
        | _ => cases h
      | _ => first | (cases h; done) | (revert h; split <;> intro h <;> first | (cases h; done) | skip)
    | _ => cases h

/-- The cells of bytes. -/
theorem byte_cell {P : Program} {M : Nat → Prop} {e : TypeId} {p : PV} {cs : List Value} (he : P.underlying e = some (.int .u8)) (hr : Rd P w M e p cs) : ∃ n, p = .int n ∧ cs = [.int .u8 n] ∧ 0 ≤ n ∧ n < 256 := by
  cases hr with
  | @int _ k n hu hw =>
    rw [he] at hu; injection hu with hu; injection hu with hu; subst hu
    refine ⟨n, rfl, rfl, ?_⟩
    unfold Lit.wf at hw
    simp only [Bool.and_eq_true, decide_eq_true_eq] at hw
    have e1 : IntKind.u8.min = 0 := by decide
    have e2 : IntKind.u8.max = 255 := by decide
    omega
  | bool hu => rw [he] at hu; cases hu
  | str hu => rw [he] at hu; cases hu
  | flt hu => rw [he] at hu; cases hu
  | nilSlice hu => rw [he] at hu; cases hu
  | slice hu => rw [he] at hu; cases hu
  | nilPtr hu => rw [he] at hu; cases hu
  | ref hu => rw [he] at hu; cases hu
  | nilIface hu => rw [he] at hu; cases hu
  | struct hu => rw [he] at hu; cases hu
  | arr hu => rw [he] at hu; cases hu

end
end Go.X
