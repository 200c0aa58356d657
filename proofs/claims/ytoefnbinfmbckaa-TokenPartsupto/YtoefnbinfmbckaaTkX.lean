/- Two functions of the library's, told by their contracts: the first place of a byte in a text; a text cut at another one. -/
import Derived.Test.YtoefnbinfmbckaaXC
import Derived.Test.YtoefnbinfmbckaaProg
import Derived.KernelRfl
import Derived.Lib.Bytealg
import Derived.Shelf.Vars
import Derived.Shelf.Strings.Cut
set_option linter.unusedVariables false
set_option maxRecDepth 100000
namespace Go.Proofs.Ytoefnbinfmbckaa
open Go Go.X Go.Shelf

/-- The variable that the library reads is there, whatever stands in it. -/
theorem Tkx.glob {w : World} (h : w.ShapedOpen Try.prog) : GlobOk Try.prog w (fun _ => False) := by
  intro g e
  have hg : g = 0 := (Option.some.inj (e.symm.trans (show Try.prog.globals.findIdx? (fun x => x.name == "internal/bytealg.MaxLen") = some 0 by kernel_rfl)))
  subst hg
  obtain ⟨m, hm⟩ := Go.Proofs.cell_of_shapedOpen_int (zero := #[.int .i64 0]) (t := 3) h (of_decide_eq_true (by kernel_rfl)) (by kernel_rfl) rfl (by kernel_rfl) (by kernel_rfl) Try.underlying3
  exact ⟨id, lt_of_cell hm, m, hm⟩
theorem Tkx.noNums : noNum Try.prog = true := by kernel_rfl
def b2i (b : UInt8) : Int := (b.toNat : Int)
theorem b2i_inj {a b : UInt8} (h : b2i a = b2i b) : a = b := UInt8.toNat_inj.1 (by unfold b2i at h; omega)
theorem chars_eq (s : ByteArray) : chars s = s.data.toList.map b2i := rfl
/-- The first place of a byte; -1 of none. -/
def idxB : List Int → Int → Int
  | [], _ => -1
  | b :: l, c => bif decide (b = c) then 0 else (match idxB l c with | .ofNat n => ((n + 1 : Nat) : Int) | .negSucc _ => -1)
def preL : List Int → List Int → Bool
  | [], _ => true
  | _ :: _, [] => false
  | a :: p, b :: l => decide (a = b) && preL p l
/-- The first place of a text; -1 of none. -/
def idxL : List Int → List Int → Int
  | [], sub => (match sub with | [] => 0 | _ :: _ => -1)
  | b :: l, sub => bif preL sub (b :: l) then 0 else (match idxL l sub with | .ofNat n => ((n + 1 : Nat) : Int) | .negSucc _ => -1)
def cutL (s sep : List Int) : List Int × List Int × Bool :=
  match idxL s sep with
  | .ofNat n => (s.take n, s.drop (n + sep.length), true)
  | .negSucc _ => (s, [], false)
theorem idxB_map (c : UInt8) : ∀ l : List UInt8, idxB (l.map b2i) (b2i c) = Lib.indexByte l c
  | [] => rfl
  | b :: l => by
    have ih := idxB_map c l
    have hg := Lib.indexByte_ge l c
    simp only [List.map_cons, idxB, Lib.indexByte, ih]
    by_cases h : b = c
    · subst h; simp
    · rw [show decide (b2i b = b2i c) = false from decide_eq_false fun e => h (b2i_inj e), show (b == c) = false by simpa using h]
      simp only [cond_false, Bool.false_eq_true, if_false]
      cases hi : Lib.indexByte l c with
      | ofNat n => simp
      | negSucc n =>
        rw [hi] at hg
        have : n = 0 := by omega
        subst this; rfl
theorem preL_map : ∀ p l : List UInt8, preL (p.map b2i) (l.map b2i) = p.isPrefixOf l
  | [], l => by simp [preL]
  | a :: p, [] => by simp [preL]
  | a :: p, b :: l => by
    simp only [List.map_cons, preL, List.isPrefixOf, preL_map p l]
    by_cases h : a = b
    · subst h; simp
    · rw [show decide (b2i a = b2i b) = false from decide_eq_false fun e => h (b2i_inj e), show (a == b) = false by simpa using h]
theorem idxL_map (m : List UInt8) : ∀ l : List UInt8, idxL (l.map b2i) (m.map b2i) = Lib.index l m
  | [] => by cases m <;> rfl
  | b :: l => by
    have ih := idxL_map m l
    have hg := Lib.index_ge l m
    have hp := preL_map m (b :: l)
    simp only [List.map_cons] at hp
    simp only [List.map_cons, idxL, Lib.index, ih, hp]
    cases hq : m.isPrefixOf (b :: l)
    · simp only [cond_false, Bool.false_eq_true, if_false]
      cases hi : Lib.index l m with
      | ofNat n => simp
      | negSucc n =>
        rw [hi] at hg
        have : n = 0 := by omega
        subst this; rfl
    · simp
theorem cutL_map (l m : List UInt8) : cutL (l.map b2i) (m.map b2i) = ((Lib.cut l m).1.map b2i, (Lib.cut l m).2.1.map b2i, (Lib.cut l m).2.2) := by
  unfold cutL Lib.cut
  rw [idxL_map]
  have hg := Lib.index_ge l m
  cases hi : Lib.index l m with
  | ofNat n => simp [List.map_take, List.map_drop]
  | negSucc n =>
    rw [if_neg (by omega)]; rfl
theorem idxB_bound (c : UInt8) : ∀ l : List UInt8, -1 ≤ Lib.indexByte l c ∧ Lib.indexByte l c ≤ l.length
  | [] => by simp [Lib.indexByte]
  | b :: l => by
    have ih := idxB_bound c l
    simp only [Lib.indexByte, List.length_cons]
    split
    · omega
    · split <;> omega

theorem Tkx.idx_o {f : FuncId} {fn : Func} (hf : Try.prog.funcs[f]? = some fn) (hname : (fn.name == "runtime.NumGoroutine") = false) (hb : fn.body.isNone = true) (hn : Extern.findNext fn = none) (he : Extern.find fn = some Extern.BytealgIndexByte.indexByte) :
    SndO Try.prog f (fun x : List Int × Int => ([.str x.1, .int .u8 x.2], [])) (fun y : Int => ([.int .i64 y], [])) (fun x ret => ret (idxB x.1 x.2)) := by
  refine ⟨fun x r h => ?_, fun x K => rfl⟩
  injection h with h; subst h
  refine callOk_ext hf hname hb hn he fun Mo β vs w hR => ?_
  match vs, hR.len with
  | [v1, v2], _ =>
    have h1 := hR.slot 0 _ v1 rfl rfl
    have h2 := hR.slot 1 _ v2 rfl rfl
    obtain ⟨x1, x2⟩ := x
    simp only at h1 h2
    generalize hs1 : SV.str x1 = s1 at h1
    generalize hs2 : SV.int .u8 x2 = s2 at h2
    cases h1 with
    | @str a ha =>
      cases h2 with
      | @int k n hb =>
        injection hs1 with e1; injection hs2 with e2 e3
        subst e1; subst e2; subst e3
        have hn : 0 ≤ x2 ∧ x2 < 256 := by
          simp [Lit.wf, IntKind.min, IntKind.max, IntKind.signed, IntKind.bits] at hb
          omega
        have hc : x2 = b2i x2.toNat.toUInt8 := by
          unfold b2i
          rw [UInt8.toNat_ofNat']
          omega
        refine ⟨.int .i64 (Lib.indexByte a.data.toList x2.toNat.toUInt8), Lib.run_indexByteString a x2 w, fun _ _ _ => ?_⟩
        have e : idxB (chars a) x2 = Lib.indexByte a.data.toList x2.toNat.toUInt8 := by
          rw [chars_eq]
          conv => lhs; rw [hc]
          exact idxB_map _ _
        show RS _ _ _ _ _ (.int .i64 (idxB (chars a) x2)) _
        rw [e]
        have hbd := idxB_bound x2.toNat.toUInt8 a.data.toList
        refine .int ?_
        have hsz : a.data.toList.length = a.size := Array.length_toList
        rw [hsz] at hbd
        unfold maxLen at ha
        generalize Lib.indexByte a.data.toList x2.toNat.toUInt8 = y at hbd
        simp [Lit.wf, IntKind.min, IntKind.max, IntKind.signed, IntKind.bits]
        omega
      | _ => cases hs2
    | _ => cases hs1

def Tkx.lays145_ren : Go.Shelf.Ren := ⟨fun | 145 => 28 | 220 => 33 | 219 => 37 | 217 => 26 | 225 => 39 | 224 => 40 | 267 => 41 | 266 => 32 | 314 => 43 | n => n, fun | 9 => 9 | 4 => 4 | 59 => 62 | 3 => 3 | 5 => 5 | 46 => 43 | 146 => 78 | 51 => 77 | n => n, fun | 1 => 0 | n => n⟩
theorem Tkx.lays145 : Go.Proofs.Lays.n145 Try.prog Tkx.lays145_ren := {
  mixed := by kernel_rfl
  f145 := Try.func28.trans (congrArg some (by kernel_rfl))
  f217 := Try.func26.trans (congrArg some (by kernel_rfl))
  f219 := Try.func37.trans (congrArg some (by kernel_rfl))
  f220 := Try.func33.trans (congrArg some (by kernel_rfl))
  f224 := Try.func40.trans (congrArg some (by kernel_rfl))
  f225 := Try.func39.trans (congrArg some (by kernel_rfl))
  f266 := Try.func32.trans (congrArg some (by kernel_rfl))
  f267 := Try.func41.trans (congrArg some (by kernel_rfl))
  f314 := Try.func43.trans (congrArg some (by kernel_rfl))
  t3 := Try.underlying3
  a3 := Try.isAgg3
  z3 := Try.sizeOf3
  v3 := Try.zeroValue3
  t4 := Try.underlying4
  a4 := Try.isAgg4
  z4 := Try.sizeOf4
  v4 := Try.zeroValue4
  t5 := Try.underlying5
  a5 := Try.isAgg5
  z5 := Try.sizeOf5
  v5 := Try.zeroValue5
  t9 := Try.underlying9
  a9 := Try.isAgg9
  z9 := Try.sizeOf9
  v9 := Try.zeroValue9
  t46 := Try.underlying43
  a46 := Try.isAgg43
  z46 := Try.sizeOf43
  v46 := Try.zeroValue43
  t51 := Try.underlying77
  a51 := Try.isAgg77
  z51 := Try.sizeOf77
  v51 := Try.zeroValue77
  t59 := Try.underlying62
  a59 := Try.isAgg62
  z59 := Try.sizeOf62
  v59 := Try.zeroValue62
  t146 := Try.underlying78
  a146 := Try.isAgg78
  z146 := Try.sizeOf78
  v146 := Try.zeroValue78
  g1 := by kernel_rfl }

theorem Tkx.cut_o : SndO Try.prog 28 (fun x : List Int × List Int => ([.str x.1, .str x.2], [])) (fun y : List Int × List Int × Bool => ([.str y.1, .str y.2.1, .bool y.2.2], []))
    (fun x ret => bif decide (x.1.length ≤ 1048576) then ret (cutL x.1 x.2) else none) := by
  refine ⟨fun x r h => callOk_of Tkx.noNums Try.func28 (c := Try.f28.body.getD .skip) (by kernel_rfl) fun Mo β vs w hR => ?_, fun x K => ?_⟩
  · obtain ⟨hlen, h⟩ := cond_some h
    injection h with h; subst h
    have hlen : x.1.length ≤ 1048576 := by simpa using hlen
    match vs, hR.len with
    | [v1, v2], _ =>
      have h1 := hR.slot 0 _ v1 rfl rfl
      have h2 := hR.slot 1 _ v2 rfl rfl
      obtain ⟨x1, x2⟩ := x
      simp only at h1 h2 hlen
      generalize hs1 : SV.str x1 = s1 at h1
      generalize hs2 : SV.str x2 = s2 at h2
      cases h1 with
      | @str a ha =>
        cases h2 with
        | @str b hb =>
          injection hs1 with e1; injection hs2 with e2
          subst e1; subst e2
          have hsz : a.size ≤ 1048576 := by simpa [chars] using hlen
          obtain ⟨_, _, m, hm⟩ := hR.gl 0 (by kernel_rfl)
          refine Calls.mono (Go.Proofs.Any.strings_Cut Tkx.lays145 a b m w (by omega) hm) fun e w' ⟨he, n, hw⟩ => ?_
          subst hw
          have hR' : Rel Try.prog Mo β [.str (chars a), .str (chars b)] [] [.string a, .string b] (w.drewN n) := hR.world (Nat.le_refl _) fun _ _ => rfl
          have hk := Kp.start hR
          have hk' : Kp w (footOf β []) β [] (w.drewN n) := ⟨hk.size, hk.old, hk.mine, hk.os, hk.output, hk.stay, hk.low⟩
          refine ⟨[.string ⟨(Lib.cut a.data.toList b.data.toList).1.toArray⟩, .string ⟨(Lib.cut a.data.toList b.data.toList).2.1.toArray⟩, .bool (Lib.cut a.data.toList b.data.toList).2.2], β, he, ⟨rfl, fun i s v hs hv => ?_, hR'.ob, hR'.inj, hR'.lt, hR'.out, hR'.mo, hR'.gl⟩, hk'⟩
          have hcm := cutL_map a.data.toList b.data.toList
          have c1 : ∀ l : List UInt8, chars ⟨l.toArray⟩ = l.map b2i := fun l => by simp [chars_eq]
          have hla : a.data.toList.length = a.size := Array.length_toList
          have l1 : (Lib.cut a.data.toList b.data.toList).1.length ≤ 1048576 := by
            unfold Lib.cut; split
            · simp only [List.length_take]; omega
            · simp only; omega
          have l2 : (Lib.cut a.data.toList b.data.toList).2.1.length ≤ 1048576 := by
            unfold Lib.cut; split
            · simp only [List.length_drop]; omega
            · simp
          have big : ∀ l : List UInt8, l.length ≤ 1048576 → (ByteArray.mk l.toArray).size ≤ maxLen := fun l hl => by
            have : (ByteArray.mk l.toArray).size = l.length := List.size_toArray
            rw [this]; unfold maxLen; omega
          rw [chars_eq, chars_eq, hcm] at hs
          match i, hs, hv with
          | 0, hs, hv => injection hs with hs; injection hv with hv; subst hs; subst hv; rw [← c1]; exact .str (big _ l1)
          | 1, hs, hv => injection hs with hs; injection hv with hv; subst hs; subst hv; rw [← c1]; exact .str (big _ l2)
          | 2, hs, hv => injection hs with hs; injection hv with hv; subst hs; subst hv; exact .bool
        | _ => cases hs2
      | _ => cases hs1
  · cases decide (x.1.length ≤ 1048576) <;> rfl
end Go.Proofs.Ytoefnbinfmbckaa
