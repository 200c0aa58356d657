/- RankParts: what is to be shown of values. -/
import Derived.Test.YtbmhbnkejgjfdaaRankG
set_option linter.unusedSimpArgs false
namespace Go.Proofs.Ytbmhbnkejgjfdaa
open Go Go.X

theorem thn_zero (a : Int) : thn a 0 = a := by unfold thn; split <;> omega
theorem zero_thn (a : Int) : thn 0 a = a := by simp [thn]
theorem c3_eq {a b : Int} (h : a = b) : c3 a b = 0 := by subst h; exact c3_self a
def vMany (l : List Val) : Val := .mk 6 0 l
theorem len_row (a b : Val) : (vRow a b).len = a.len + b.len := by simp [vRow, Val.len, Val.flat, Val.flats, Val.ar]
theorem len_left (a : Val) : (vLeft a).len = a.len := by simp [vLeft, Val.len, Val.flat, Val.flats, Val.ar]
theorem len_right (a : Val) : (vRight a).len = a.len := by simp [vRight, Val.len, Val.flat, Val.flats, Val.ar]
theorem len_two (a b : Val) : (vMany [a, b]).len = a.len + b.len := by simp [vMany, Val.len, Val.flat, Val.flats, Val.ar]
theorem rcmp_row (a b c d : Val) (h : a.len + b.len = c.len + d.len) : Val.rcmp (vRow a b) (vRow c d) = thn (Val.rcmp a c) (Val.rcmp b d) := by
  rw [Val.rcmp_eq, len_row, len_row, c3_eq h.symm, zero_thn]
  simp [vRow, Val.kids, Val.kidl, Val.kind, Val.ar, Val.lex, thn_zero, c3_self, zero_thn]
theorem rcmp_two (a b c d : Val) (h : a.len + b.len = c.len + d.len) : Val.rcmp (vMany [a, b]) (vMany [c, d]) = thn (Val.rcmp a c) (Val.rcmp b d) := by
  rw [Val.rcmp_eq, len_two, len_two, c3_eq h.symm, zero_thn]
  simp [vMany, Val.kids, Val.kidl, Val.kind, Val.ar, Val.lex, thn_zero, c3_self, zero_thn]
theorem rcmp_left (a b : Val) (h : a.len = b.len) : Val.rcmp (vLeft a) (vLeft b) = Val.rcmp a b := by
  rw [Val.rcmp_eq, len_left, len_left, c3_eq h.symm, zero_thn]
  simp [vLeft, Val.kids, Val.kidl, Val.kind, Val.ar, Val.lex, thn_zero, c3_self, zero_thn]
theorem rcmp_left_right (a b : Val) (h : a.len = b.len) : Val.rcmp (vLeft a) (vRight b) = -1 := by
  rw [Val.rcmp_eq, len_left, len_right, c3_eq h.symm, zero_thn]
  simp [vLeft, vRight, Val.kind, c3, thn]

theorem RankParts.main (a b c : Val) (_ : a.Ok) (_ : b.Ok) (_ : c.Ok) (hs : a.size + (b.size + (c.size + 0)) ≤ 1048576) :
    ∃ k, G4 k a.pv b.pv c.pv (fun y => some ([.bool y], [])) = some ([.bool true], []) := by
  have sm : ∀ v : Val, v.size ≤ 1048586 → v.Sm := fun v h => by simp only [Val.Sm]; omega
  have ha : a.Sm := sm a (by omega)
  have hb : b.Sm := sm b (by omega)
  have hc : c.Sm := sm c (by omega)
  have r1 : ∀ x y : Val, x.size + y.size ≤ 1048576 → (vRow x y).Sm := fun x y h => sm _ (by simp only [vRow, Val.size, Val.sizes]; omega)
  have r2 : ∀ x y : Val, x.size + y.size ≤ 1048576 → (vMany [x, y]).Sm := fun x y h => sm _ (by simp only [vMany, Val.size, Val.sizes]; omega)
  have r3 : ∀ x : Val, x.size ≤ 1048576 → (vLeft x).Sm := fun x h => sm _ (by simp only [vLeft, Val.size, Val.sizes]; omega)
  have r4 : ∀ x : Val, x.size ≤ 1048576 → (vRight x).Sm := fun x h => sm _ (by simp only [vRight, Val.size, Val.sizes]; omega)
  have s1 := (spec_Cmp _ (r1 a c (by omega)) _ (r1 b c (by omega))).and ((spec_Cmp _ (r1 c a (by omega)) _ (r1 c b (by omega))).and ((spec_Cmp _ (r3 a (by omega)) _ (r3 b (by omega))).and ((spec_Cmp _ (r2 c a (by omega)) _ (r2 c b (by omega))).and (spec_Cmp _ (r3 a (by omega)) _ (r4 b (by omega))))))
  have s2 := (spec_awake.and ((spec_wide a 20 (by omega)).and ((spec_wide b 20 (by omega)).and ((spec_wide c 20 (by omega)).and ((spec_Len a ha).and ((spec_Len b hb).and ((spec_Cmp a ha b hb).and (spec_row.and (spec_left.and spec_right)))))))))
  refine Ult.get (Ult.succ ((s1.and s2).mono fun k ⟨⟨g1, g2, g3, g4, g5⟩, h0, h1, h2, h3, h4, h5, h6, h7, h8, h9⟩ => ?_))
  have e6 : ∀ x y : Val, PV.agg [PV.int 6, PV.int 0, PV.list [x.pv, y.pv]] = (vMany [x, y]).pv := fun x y => by simp [vMany, Val.pv, Val.pvs]
  simp only [G4, f4_N, f4_e, h0, h1, h2, h3, h4, h5, h6, h7, h8, h9, e6, g1, g2, g3, g4, g5]
  cases a.wide 20
  · cases b.wide 20
    · cases c.wide 20
      · by_cases hl : a.len = b.len
        · rw [rcmp_row a c b c (by omega), rcmp_row c a c b (by omega), rcmp_left a b hl, rcmp_two c a c b (by omega), rcmp_left_right a b hl, Val.rcmp_self, thn_zero, zero_thn]
          simp [hl]
        · simp [hl]
      · rfl
    · rfl
  · rfl
end Go.Proofs.Ytbmhbnkejgjfdaa
