/- strings.Builder's copyCheck and String, walked in the program. -/
import Derived.Test.YtmdlhnojpcnnbaaXC
import Derived.Test.YtmdlhnojpcnnbaaProg
import Derived.KernelRfl
import Derived.Shelf.RegionOpenPlain
import Derived.Lib.Strings
import Derived.Lib.Slices
import Derived.Lib.Walk
import Derived.Lib.Builder
import Derived.Lib.AppendStr
import Derived.Lib.UnsafeStr
import Derived.WalkKit
import Derived.Laws.Externs
set_option linter.unusedVariables false
namespace Go.Proofs.Ytmdlhnojpcnnbaa
open Go Go.RowKit

theorem Bld.size:(Try.prog.info? 97).map (·.size)=some 2:=by kernel_rfl
theorem Bld.lies:liesAt Try.prog Try.prog.depth 97 (2 / Try.prog.cellsOf 97) 0 97 1=true:=by kernel_rfl

set_option maxHeartbeats 1000000 in
set_option maxRecDepth 100000 in
theorem Bld.cc_used (b:Nat)(w:World)(h0:w.cell? ⟨b,0,none⟩=some (.pointer (some ⟨b,0,none⟩))) :
  Calls Try.prog 99 #[.pointer (some ⟨b,0,none⟩)] w fun e w'=>e=.returned (.tuple #[])∧w'=w:=by
 obtain ⟨j,hj,_⟩:=Option.map_eq_some_iff.1 Bld.size
 go_enter Try.func99,Try.ntmps99
 go_wp2
 rw [Lib.run_neq_ptr_same w _ Try.underlying95 hj]
 go_wp2
 go_end0
 exact ⟨rfl,rfl⟩

set_option maxHeartbeats 1000000 in
set_option maxRecDepth 100000 in
theorem Bld.cc_fresh (b:Nat)(w:World)(h0:w.cell? ⟨b,0,none⟩=some (.pointer none))(hsh:w.shape? b=some (97,2))(hfz:w.frozen? ⟨b,0,none⟩=false) :
  Calls Try.prog 99 #[.pointer (some ⟨b,0,none⟩)] w fun e w'=>e=.returned (.tuple #[])∧w'=w.setCell ⟨b,0,none⟩ (.pointer (some ⟨b,0,none⟩)):=by
 obtain ⟨j,hj,hjs⟩:=Option.map_eq_some_iff.1 Bld.size
 go_enter Try.func99,Try.ntmps99
 go_wp2
 rw [Lib.run_to_unsafe w ⟨b,0,none⟩ Try.underlying95 Try.underlying166 hj (by rw [hjs];decide) hsh (Nat.zero_lt_succ 1)]
 simp only [Result.andThen]
 rw [Oper.upon_value]
 go_wp2
 rw [run_callFunc_extern Try.func111 (by kernel_rfl) (by kernel_rfl) (by kernel_rfl) (e:=Extern.AbiNoEscape.same) (by kernel_rfl)]
 rw [Lib.run_noEscape]
 simp only [Result.andThen]
 rw [Oper.upon_value]
 go_wp2
 rw [Lib.run_from_unsafe w ⟨b,0,none⟩ Try.underlying166 Try.underlying95 hj hsh Bld.lies]
 simp only [Result.andThen]
 rw [Oper.upon_value]
 go_wp2
 go_end0
 exact ⟨rfl,rfl⟩

set_option maxHeartbeats 2000000 in
set_option maxRecDepth 100000 in
theorem Bld.str_some (b g cap:Nat)(p:Value)(fb fg:Nat × Nat)(cur:Array Value)(l:List UInt8)(h0:l≠[])(w:World)
  (hbk:w.heap[b]?=some (.cells #[p,.slice (some ⟨g,0,none⟩) l.length cap] 97 fb))(hg:w.heap[g]?=some (.cells cur 5 fg))(hnc:l.length≤cap)(hcm:cap≤maxLen)(hcs:cur.size=cap)
  (hcell:∀ (j:Nat)(x:UInt8),l[j]?=some x→w.drew.cell? ((⟨g,0,none⟩:Addr).add j)=some (.int .u8 x.toNat)) :
  Calls Try.prog 55 #[.pointer (some ⟨b,0,none⟩)] w fun e w'=>e=.returned (.string ⟨l.toArray⟩)∧w'=w.drew.freeze ⟨g,0,none⟩ l.length:=by
 have hl0:l.length≠0:=by simpa using h0
 have c1:w.drew.cell? ⟨b,1,none⟩=some (.slice (some ⟨g,0,none⟩) l.length cap):=by
  have:w.drew.heap[b]?=some (.cells #[p,.slice (some ⟨g,0,none⟩) l.length cap] 97 fb):=hbk
  unfold World.cell?;rw [this];rfl
 have hSD:(Builtin.unsafeSliceData_ #[36] 132 #[.slice (some ⟨g,0,none⟩) l.length cap]).run Try.prog w.drew=.ok (.pointer (some ⟨g,0,none⟩)) w.drew :=
  Lib.run_unsafeSliceData_row _ _ _ _ _ _ (by omega)
 have hUS:(Builtin.unsafeString_ #[132,3] 9 #[.pointer (some ⟨g,0,none⟩),.int .i64 l.length]).run Try.prog w.drew=.ok (.string ⟨l.toArray⟩) (w.drew.freeze ⟨g,0,none⟩ l.length):=by
  refine Lib.run_unsafeString_row w.drew 132 3 9 5 Try.underlying132 (by kernel_rfl) g cur.size (by have hg':w.drew.heap[g]?=some (.cells cur 5 fg):=hg;simp [World.shape?,hg']) l h0 (by omega) (by unfold maxLen at hcm;omega) hcell
 go_enter Try.func55,Try.ntmps55
 go_wp2
 go_region
 all_goals (go_wp2;go_ret;exact ⟨rfl,rfl⟩)

theorem Bld.usn (W:World)(q:Option Addr):(Builtin.unsafeString_ #[132,3] 9 #[.pointer q,.int .i64 0]).run Try.prog W=.ok (.string .empty) W :=
 Lib.run_unsafeString_none W _ _ _ q

set_option maxHeartbeats 2000000 in
set_option maxRecDepth 100000 in
theorem Bld.str_nil (b:Nat)(p:Value)(fb:Nat × Nat)(w:World)(hbk:w.heap[b]?=some (.cells #[p,.slice none 0 0] 97 fb)) :
  Calls Try.prog 55 #[.pointer (some ⟨b,0,none⟩)] w fun e w'=>e=.returned (.string ⟨#[]⟩)∧w'=w.drew:=by
 have hUS:=Bld.usn
 have c1:w.drew.cell? ⟨b,1,none⟩=some (.slice none 0 0):=by
  have:w.drew.heap[b]?=some (.cells #[p,.slice none 0 0] 97 fb):=hbk
  unfold World.cell?;rw [this];rfl
 have hSD:(Builtin.unsafeSliceData_ #[36] 132 #[.slice none 0 0]).run Try.prog w.drew=.ok (.pointer none) w.drew:=rfl
 go_enter Try.func55,Try.ntmps55
 go_wp2
 go_region
 all_goals (go_wp2;go_ret;exact ⟨rfl,rfl⟩)

set_option maxHeartbeats 2000000 in
set_option maxRecDepth 100000 in
theorem Bld.str_noroom (b g:Nat)(p:Value)(fb fg:Nat × Nat)(cur:Array Value)(w:World)(hbk:w.heap[b]?=some (.cells #[p,.slice (some ⟨g,0,none⟩) 0 0] 97 fb))(hg:w.heap[g]?=some (.cells cur 5 fg)) :
  Calls Try.prog 55 #[.pointer (some ⟨b,0,none⟩)] w fun e w'=>e=.returned (.string ⟨#[]⟩)∧w'.heap=(w.alloc (.view ⟨g,0,none⟩ 5)).heap∧w'.os=w.os∧w'.output=w.output:=by
 have hUS:=Bld.usn
 have hlt:b < w.heap.size:=by
  rcases Nat.lt_or_ge b w.heap.size with h'|h'
  ·exact h'
  ·simp [Array.getElem?_eq_none h'] at hbk
 have c1:w.drew.cell? ⟨b,1,none⟩=some (.slice (some ⟨g,0,none⟩) 0 0):=by
  have:w.drew.heap[b]?=some (.cells #[p,.slice (some ⟨g,0,none⟩) 0 0] 97 fb):=hbk
  unfold World.cell?;rw [this];rfl
 have hSD:(Builtin.unsafeSliceData_ #[36] 132 #[.slice (some ⟨g,0,none⟩) 0 0]).run Try.prog w.drew=.ok (.pointer (some ⟨w.drew.heap.size,0,none⟩)) (w.drew.alloc (.view ⟨g,0,none⟩ 5)) :=
  Lib.run_unsafeSliceData_zero w.drew _ _ 5 Try.underlying132 ⟨g,0,none⟩ 0 (5,cur.size) (by have hg':w.drew.heap[g]?=some (.cells cur 5 fg):=hg;simp [World.shape?,hg'])
 have c2:(w.drew.alloc (.view ⟨g,0,none⟩ 5)).cell? ⟨b,1,none⟩=some (.slice (some ⟨g,0,none⟩) 0 0):=by
  have:(w.drew.alloc (.view ⟨g,0,none⟩ 5)).heap[b]?=_:=(Lib.alloc_old w.drew _ b hlt).trans hbk
  unfold World.cell?;rw [this];rfl
 have c3:(w.alloc (.view ⟨g,0,none⟩ 5)).drew.cell? ⟨b,1,none⟩=some (.slice (some ⟨g,0,none⟩) 0 0):=c2
 have c0:w.cell? ⟨b,1,none⟩=some (.slice (some ⟨g,0,none⟩) 0 0):=c1
 go_enter Try.func55,Try.ntmps55
 go_wp2
 go_region
 all_goals (go_wp2;go_ret;exact ⟨rfl,rfl,rfl,rfl⟩)

set_option maxHeartbeats 2000000 in
set_option maxRecDepth 100000 in
theorem Bld.str_room (b g cap:Nat)(p:Value)(fb:Nat × Nat)(w:World)(hc0:cap≠0)(hbk:w.heap[b]?=some (.cells #[p,.slice (some ⟨g,0,none⟩) 0 cap] 97 fb)) :
  Calls Try.prog 55 #[.pointer (some ⟨b,0,none⟩)] w fun e w'=>e=.returned (.string ⟨#[]⟩)∧w'=w.drew:=by
 have hUS:=Bld.usn
 have c1:w.drew.cell? ⟨b,1,none⟩=some (.slice (some ⟨g,0,none⟩) 0 cap):=by
  have:w.drew.heap[b]?=some (.cells #[p,.slice (some ⟨g,0,none⟩) 0 cap] 97 fb):=hbk
  unfold World.cell?;rw [this];rfl
 have hSD:(Builtin.unsafeSliceData_ #[36] 132 #[.slice (some ⟨g,0,none⟩) 0 cap]).run Try.prog w.drew=.ok (.pointer (some ⟨g,0,none⟩)) w.drew :=
  Lib.run_unsafeSliceData_row _ _ _ _ _ _ hc0
 clear hc0
 go_enter Try.func55,Try.ntmps55
 go_wp2
 go_region
 all_goals (go_wp2;go_ret;exact ⟨rfl,rfl⟩)

end Go.Proofs.Ytmdlhnojpcnnbaa
