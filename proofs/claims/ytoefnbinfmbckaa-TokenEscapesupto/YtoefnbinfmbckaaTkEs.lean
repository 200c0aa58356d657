/- Any byte with a backslash ahead, and without one (TokenEscapes): the runs of all 256. -/
import Derived.Test.YtoefnbinfmbckaaF
set_option maxRecDepth 100000
namespace Go.Proofs.Ytoefnbinfmbckaa
open Go Go.X
def isT : R → Bool
  | some ([.bool true], []) => true
  | _ => false
theorem isT_eq {r : R} (h : isT r = true) : r = some ([.bool true], []) := by
  unfold isT at h
  split at h
  · rfl
  · cases h
noncomputable def escT (n : Nat) : Bool := isT (G5 300 (n : Int) (fun y => some ([.bool y], [])))
theorem esc0 : (List.range' 0 32).all escT = true := by kernel_rfl
theorem esc1 : (List.range' 32 32).all escT = true := by kernel_rfl
theorem esc2 : (List.range' 64 32).all escT = true := by kernel_rfl
theorem esc3 : (List.range' 96 32).all escT = true := by kernel_rfl
theorem esc4 : (List.range' 128 32).all escT = true := by kernel_rfl
theorem esc5 : (List.range' 160 32).all escT = true := by kernel_rfl
theorem esc6 : (List.range' 192 32).all escT = true := by kernel_rfl
theorem esc7 : (List.range' 224 32).all escT = true := by kernel_rfl
theorem TokenEscapes.main (n : Int) (h : (Lit.int .u8 n).wf = true) : ∃ k, G5 k n (fun y => some ([.bool y], [])) = some ([.bool true], []) := by
  have hn : 0 ≤ n ∧ n < 256 := by
    simp [Lit.wf, IntKind.min, IntKind.max, IntKind.signed, IntKind.bits] at h
    omega
  have hall : ∀ m : Nat, m < 256 → escT m = true := by
    intro m hm
    have mem : ∀ a : Nat, (List.range' a 32).all escT = true → a ≤ m → m < a + 32 → escT m = true := fun a ha h1 h2 => List.all_eq_true.1 ha m (List.mem_range'_1.2 ⟨h1, h2⟩)
    rcases Nat.lt_or_ge m 32 with h | h
    · exact mem 0 esc0 (by omega) (by omega)
    rcases Nat.lt_or_ge m 64 with h | h
    · exact mem 32 esc1 (by omega) (by omega)
    rcases Nat.lt_or_ge m 96 with h | h
    · exact mem 64 esc2 (by omega) (by omega)
    rcases Nat.lt_or_ge m 128 with h | h
    · exact mem 96 esc3 (by omega) (by omega)
    rcases Nat.lt_or_ge m 160 with h | h
    · exact mem 128 esc4 (by omega) (by omega)
    rcases Nat.lt_or_ge m 192 with h | h
    · exact mem 160 esc5 (by omega) (by omega)
    rcases Nat.lt_or_ge m 224 with h | h
    · exact mem 192 esc6 (by omega) (by omega)
    rcases Nat.lt_or_ge m 256 with h | h
    · exact mem 224 esc7 (by omega) (by omega)
    · omega
  obtain ⟨m, rfl⟩ := Int.eq_ofNat_of_zero_le hn.1
  exact ⟨300, isT_eq (hall m (by omega))⟩
end Go.Proofs.Ytoefnbinfmbckaa
