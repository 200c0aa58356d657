/- Sets, bytes, texts, as they can be read. -/
import Derived.Test.YtmdlhnojpcnnbaaBsF0
import Derived.Test.YtmdlhnojpcnnbaaCi
set_option linter.unusedVariables false
namespace Go.Proofs.Ytmdlhnojpcnnbaa
open Go Go.X

theorem wf_u64 {n : Int} (h : (Lit.int .u64 n).wf = true) : 0 ≤ n ∧ n < 18446744073709551616 := by
  simp [Lit.wf, IntKind.min, IntKind.max, IntKind.signed, IntKind.bits] at h
  omega
theorem set_of_rd {w : World} {M : Nat → Prop} {t : TypeId} {p : PV} {cs : List Value} (h : Rd Try.prog w M t p cs) (ht : t = 25) : ∃ n, p = bs n ∧ n < 2 ^ 256 := by
  cases h with
  | @arr t n e l cs hu _ hl _ hf =>
    subst ht
    rw [Try.underlying25] at hu
    injection hu with hu; injection hu with h1 h2; subst h1; subst h2
    match l, hl with
    | [a, b, c, d], _ =>
      obtain ⟨a, rfl, ha⟩ := cells_int Try.underlying23 (hf 0 _ rfl)
      obtain ⟨b, rfl, hb⟩ := cells_int Try.underlying23 (hf 1 _ rfl)
      obtain ⟨c, rfl, hc⟩ := cells_int Try.underlying23 (hf 2 _ rfl)
      obtain ⟨d, rfl, hd⟩ := cells_int Try.underlying23 (hf 3 _ rfl)
      have ha := wf_u64 ha; have hb := wf_u64 hb; have hc := wf_u64 hc; have hd := wf_u64 hd
      obtain ⟨n, h1, h2⟩ := bs_of (a := a.toNat) (b := b.toNat) (c := c.toNat) (d := d.toNat) (by omega) (by omega) (by omega) (by omega)
      refine ⟨n, ?_, h1⟩
      rw [h2, Int.toNat_of_nonneg ha.1, Int.toNat_of_nonneg hb.1, Int.toNat_of_nonneg hc.1, Int.toNat_of_nonneg hd.1]
  | int h1 => subst ht; rw [Try.underlying25] at h1; cases h1
  | bool h1 => subst ht; rw [Try.underlying25] at h1; cases h1
  | str h1 => subst ht; rw [Try.underlying25] at h1; cases h1
  | flt h1 => subst ht; rw [Try.underlying25] at h1; cases h1
  | nilSlice h1 => subst ht; rw [Try.underlying25] at h1; cases h1
  | slice h1 => subst ht; rw [Try.underlying25] at h1; cases h1
  | nilPtr h1 => subst ht; rw [Try.underlying25] at h1; cases h1
  | ref h1 => subst ht; rw [Try.underlying25] at h1; cases h1
  | nilIface h1 => subst ht; rw [Try.underlying25] at h1; cases h1
  | struct h1 => subst ht; rw [Try.underlying25] at h1; cases h1
theorem bytes_of_rd {w : World} {M : Nat → Prop} {t : TypeId} {p : PV} {cs : List Value} (h : Rd Try.prog w M t p cs) (ht : t = 36) : ∃ l : List Nat, p = .list (pvL l) ∧ ∀ b ∈ l, b < 256 := by
  cases h with
  | nilSlice _ => exact ⟨[], rfl, by simp⟩
  | @slice t e a n c l cs hu hl _ _ _ hf =>
    subst ht
    rw [Try.underlying36] at hu
    injection hu with hu; injection hu with h1; subst h1
    have : ∀ p ∈ l, ∃ n : Nat, p = .int (n : Int) ∧ n < 256 := by
      intro p hp
      obtain ⟨i, hi⟩ := List.getElem?_of_mem hp
      obtain ⟨m, rfl, hm⟩ := cells_int Try.underlying5 (hf i p hi)
      have := wf_u8 hm
      exact ⟨m.toNat, by rw [Int.toNat_of_nonneg this.1], by omega⟩
    clear hl hf
    induction l with
    | nil => exact ⟨[], rfl, by simp⟩
    | cons p l ih =>
      obtain ⟨n, rfl, hn⟩ := this p (by simp)
      obtain ⟨ns, h1, h2⟩ := ih fun q hq => this q (by simp [hq])
      injection h1 with h1
      refine ⟨n :: ns, by rw [h1]; rfl, fun b hb => ?_⟩
      rcases List.mem_cons.1 hb with rfl | hb
      · exact hn
      · exact h2 b hb
  | int h1 => subst ht; rw [Try.underlying36] at h1; cases h1
  | bool h1 => subst ht; rw [Try.underlying36] at h1; cases h1
  | str h1 => subst ht; rw [Try.underlying36] at h1; cases h1
  | flt h1 => subst ht; rw [Try.underlying36] at h1; cases h1
  | nilPtr h1 => subst ht; rw [Try.underlying36] at h1; cases h1
  | ref h1 => subst ht; rw [Try.underlying36] at h1; cases h1
  | nilIface h1 => subst ht; rw [Try.underlying36] at h1; cases h1
  | struct h1 => subst ht; rw [Try.underlying36] at h1; cases h1
  | arr h1 => subst ht; rw [Try.underlying36] at h1; cases h1
end Go.Proofs.Ytmdlhnojpcnnbaa
