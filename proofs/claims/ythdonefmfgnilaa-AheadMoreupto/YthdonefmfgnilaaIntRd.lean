/- Rows of numbers, and truths, as they are read. -/
import Derived.Test.YthdonefmfgnilaaSetRd
set_option linter.unusedVariables false
namespace Go.Proofs.Ythdonefmfgnilaa
open Go Go.X
theorem ints_of_rd {w : World} {M : Nat → Prop} {t : TypeId} {p : PV} {cs : List Value} (h : Rd Try.prog w M t p cs) (ht : t = 44) : ∃ l : List Int, p = .list (l.map PV.int) ∧ ∀ b ∈ l, (Lit.int .i64 b).wf = true := by
  cases h with
  | nilSlice _ => exact ⟨[], rfl, by simp⟩
  | @slice t e a n c l cs hu hl _ _ _ hf =>
    subst ht
    rw [Try.underlying44] at hu
    injection hu with hu; injection hu with h1; subst h1
    have : ∀ p ∈ l, ∃ n : Int, p = .int n ∧ (Lit.int .i64 n).wf = true := by
      intro p hp
      obtain ⟨i, hi⟩ := List.getElem?_of_mem hp
      obtain ⟨m, rfl, hm⟩ := cells_int Try.underlying3 (hf i p hi)
      exact ⟨m, rfl, hm⟩
    clear hl hf
    induction l with
    | nil => exact ⟨[], rfl, by simp⟩
    | cons p l ih =>
      obtain ⟨n, rfl, hn⟩ := this p (by simp)
      obtain ⟨ns, h1, h2⟩ := ih fun q hq => this q (by simp [hq])
      injection h1 with h1
      refine ⟨n :: ns, by rw [h1]; rfl, fun b hb => ?_⟩
      rcases List.mem_cons.1 hb with rfl | hb
      · exact hn
      · exact h2 b hb
  | int h1 => subst ht; rw [Try.underlying44] at h1; cases h1
  | bool h1 => subst ht; rw [Try.underlying44] at h1; cases h1
  | str h1 => subst ht; rw [Try.underlying44] at h1; cases h1
  | flt h1 => subst ht; rw [Try.underlying44] at h1; cases h1
  | nilPtr h1 => subst ht; rw [Try.underlying44] at h1; cases h1
  | ref h1 => subst ht; rw [Try.underlying44] at h1; cases h1
  | nilIface h1 => subst ht; rw [Try.underlying44] at h1; cases h1
  | struct h1 => subst ht; rw [Try.underlying44] at h1; cases h1
  | arr h1 => subst ht; rw [Try.underlying44] at h1; cases h1
end Go.Proofs.Ythdonefmfgnilaa
