/- The variable of the library's that is there in every world, whatever stands in it. -/
import Derived.Test.YthdonefmfgnilaaXC
import Derived.Test.YthdonefmfgnilaaProg
import Derived.KernelRfl
import Derived.Shelf.Vars
set_option linter.unusedVariables false
set_option maxRecDepth 100000
namespace Go.Proofs.Ythdonefmfgnilaa
open Go Go.X

theorem Tkx.glob {w : World} (h : w.ShapedOpen Try.prog) : GlobOk Try.prog w (fun _ => False) := by
  intro g e
  have hg : g = 0 := (Option.some.inj (e.symm.trans (show Try.prog.globals.findIdx? (fun x => x.name == "internal/bytealg.MaxLen") = some 0 by kernel_rfl)))
  subst hg
  obtain ⟨m, hm⟩ := Go.Proofs.cell_of_shapedOpen_int (zero := #[.int .i64 0]) (t := 3) h (of_decide_eq_true (by kernel_rfl)) (by kernel_rfl) rfl (by kernel_rfl) (by kernel_rfl) Try.underlying3
  exact ⟨id, lt_of_cell hm, m, hm⟩
end Go.Proofs.Ythdonefmfgnilaa
