/- The printed functions of package class come to what they should. -/
import Derived.Test.YtoefnbinfmbckaaGen
import Derived.Test.YtoefnbinfmbckaaBsF1
set_option linter.unusedSimpArgs false
set_option linter.unusedVariables false
set_option maxRecDepth 20000
namespace Go.Proofs.Ytoefnbinfmbckaa
open Go Go.X

def kUp : Nat := rng 65 90
def kLo : Nat := rng 97 122
def kDi : Nat := rng 48 57
def kAl : Nat := kUp ||| kLo
def kAn : Nat := kAl ||| kDi
def kGr : Nat := rng 33 126
def kBk : Nat := ofL [32, 9]
def kCt : Nat := rng 0 31 ||| ofL [127]
def kPr : Nat := kGr ||| ofL [32]
def kPu : Nat := kGr &&& notN kAn
def kSp : Nat := kBk ||| rng 9 13
def kXd : Nat := (kDi ||| rng 65 70) ||| rng 97 102
/-- All classes, by their names. -/
def cls : List (List Int × Nat) := [([97, 108, 110, 117, 109], kAn), ([97, 108, 112, 104, 97], kAl), ([98, 108, 97, 110, 107], kBk), ([99, 110, 116, 114, 108], kCt), ([100, 105, 103, 105, 116], kDi), ([103, 114, 97, 112, 104], kGr), ([108, 111, 119, 101, 114], kLo), ([112, 114, 105, 110, 116], kPr), ([112, 117, 110, 99, 116], kPu), ([115, 112, 97, 99, 101], kSp), ([117, 112, 112, 101, 114], kUp), ([120, 100, 105, 103, 105, 116], kXd)]
def pvC (c : List Int × Nat) : PV := .agg [.str c.1, bs c.2]
theorem kUp_lt : kUp < 2 ^ 256 := rng_lt _ _
theorem kLo_lt : kLo < 2 ^ 256 := rng_lt _ _
theorem kDi_lt : kDi < 2 ^ 256 := rng_lt _ _
theorem kGr_lt : kGr < 2 ^ 256 := rng_lt _ _
theorem ofL1_lt (l : List Nat) (h : ∀ b ∈ l, b < 256) : ofL l < 2 ^ 256 := ofL_lt l h
theorem kAl_lt : kAl < 2 ^ 256 := Nat.or_lt_two_pow kUp_lt kLo_lt
theorem kAn_lt : kAn < 2 ^ 256 := Nat.or_lt_two_pow kAl_lt kDi_lt
theorem kBk_lt : kBk < 2 ^ 256 := ofL_lt _ (by decide)
theorem kCt_lt : kCt < 2 ^ 256 := Nat.or_lt_two_pow (rng_lt _ _) (ofL_lt _ (by decide))
theorem kPr_lt : kPr < 2 ^ 256 := Nat.or_lt_two_pow kGr_lt (ofL_lt _ (by decide))
theorem kPu_lt : kPu < 2 ^ 256 := Nat.lt_of_le_of_lt Nat.and_le_left kGr_lt
theorem kSp_lt : kSp < 2 ^ 256 := Nat.or_lt_two_pow kBk_lt (rng_lt _ _)
theorem kXd_lt : kXd < 2 ^ 256 := Nat.or_lt_two_pow (Nat.or_lt_two_pow kDi_lt (rng_lt _ _)) (rng_lt _ _)
theorem cls_lt : ∀ c ∈ cls, c.2 < 2 ^ 256 := by
  intro c hc
  simp only [cls, List.mem_cons, List.not_mem_nil, or_false] at hc
  rcases hc with rfl | rfl | rfl | rfl | rfl | rfl | rfl | rfl | rfl | rfl | rfl | rfl
  · exact kAn_lt
  · exact kAl_lt
  · exact kBk_lt
  · exact kCt_lt
  · exact kDi_lt
  · exact kGr_lt
  · exact kLo_lt
  · exact kPr_lt
  · exact kPu_lt
  · exact kSp_lt
  · exact kUp_lt
  · exact kXd_lt

theorem spec_classes : Ult fun k => ∀ ret, G34 k ret = ret (.list (cls.map pvC)) := by
  have R : ∀ lo hi : Nat, lo < 256 → hi < 256 → Ult fun k => ∀ ret, G11 k (lo : Int) (hi : Int) ret = ret (bs (rng lo hi)) := fun lo hi h1 h2 => spec_Range.mono fun k h ret => h lo hi ret h1 h2
  refine Ult.succ (((R 65 90 (by omega) (by omega)).and ((R 97 122 (by omega) (by omega)).and ((R 48 57 (by omega) (by omega)).and ((R 33 126 (by omega) (by omega)).and ((R 0 31 (by omega) (by omega)).and ((R 9 13 (by omega) (by omega)).and ((R 65 70 (by omega) (by omega)).and ((R 97 102 (by omega) (by omega)).and (spec_Or.and (spec_Minus.and ((spec_Of [32, 9] (by decide) (by decide)).and ((spec_Of [127] (by decide) (by decide)).and (spec_Of [32] (by decide) (by decide)))))))))))))).mono fun k ⟨r1, r2, r3, r4, r5, r6, r7, r8, o, mi, f1, f2, f3⟩ ret => ?_)
  simp only [Int.cast_ofNat_Int, Int.natCast_zero] at r1 r2 r3 r4 r5 r6 r7 r8
  have e1 : PV.list [PV.int 32, PV.int 9] = .list (pvL [32, 9]) := rfl
  have e2 : PV.list [PV.int 127] = .list (pvL [127]) := rfl
  have e3 : PV.list [PV.int 32] = .list (pvL [32]) := rfl
  simp only [G34, f34_N, f34_e, r1, r2, r3, r4, r5, r6, r7, r8, o, mi, e1, e2, e3, f1, f2, f3]
  rfl

/-- The class of a name. -/
def clsOf (s : List Int) : Option (List Int × Nat) := cls.find? fun c => decide (c.1 = s)
theorem fi_find {α : Type} (p : α → Bool) : ∀ (l : List α) (i : Nat), match l.find? p with | some x => ∃ j, fi p i l = ((i + j : Nat) : Int) ∧ ∃ h : j < l.length, l[j] = x | none => fi p i l = -1
  | [], i => rfl
  | x :: t, i => by
    by_cases h : p x = true
    · simp only [List.find?, h]
      exact ⟨0, by simp [fi, h], by simp, rfl⟩
    · have h' : p x = false := by simpa using h
      have ih := fi_find p t (i + 1)
      simp only [List.find?, h']
      have e : fi p i (x :: t) = fi p (i + 1) t := by simp [fi, h']
      rw [e]
      cases hf : t.find? p with
      | none => rw [hf] at ih; exact ih
      | some y =>
        rw [hf] at ih
        obtain ⟨j, h1, h2, h3⟩ := ih
        exact ⟨j + 1, by rw [h1]; congr 1; omega, by simp; omega, by simpa using h3⟩
theorem spec_Named : Ult fun k => ∀ (s : List Int) ret, G29 k s ret = match clsOf s with | some c => ret (bs c.2) true | none => ret (bs 0) false := by
  have a1 : Ult fun k => ∀ (s : List Int) (c : List Int × Nat) ret, G36 k (pvC c) s ret = ret (decide (c.1 = s)) s := Ult.succ (Ult.of fun k s c ret => by
    simp only [G36, f36_N, f36_e]; rfl)
  have a2 : Ult fun k => ∀ (s : List Int) ret, G35 k (.list (cls.map pvC)) s ret = ret (fi (fun c => decide (c.1 = s)) 0 cls) s := Ult.succ ((a1.and (Ult.ge 100)).mono fun k ⟨h, h2⟩ s ret => by
    simp only [G35, f35_N, f35_e, f35_w1N]
    exact idx_loop pvC cls (fun c => decide (c.1 = s)) s (G36 k) ret _ (fun nx n g => by
      simp only [f35_w1B, f35_w1b0N, f35_w1b0, PV.els]; rfl) (fun x _ r => h s x r) (by decide) k (Nat.lt_of_lt_of_le (by decide) h2))
  refine Ult.succ ((spec_classes.and a2).mono fun k ⟨h1, h2⟩ s ret => ?_)
  simp only [G29, f29_N, f29_e, h1, h2, PV.els, List.length_map]
  have hf := fi_find (fun c : List Int × Nat => decide (c.1 = s)) cls 0
  unfold clsOf
  cases hc : cls.find? (fun c => decide (c.1 = s)) with
  | none =>
    rw [hc] at hf
    simp only at hf
    rw [hf]; rfl
  | some c =>
    rw [hc] at hf
    obtain ⟨j, h3, h4, h5⟩ := hf
    rw [h3, Nat.zero_add]
    simp only [decide_eq_false (show ¬ (j : Int) < 0 by omega), cond_false, decide_eq_true (show (0 : Int) ≤ (j : Int) by omega), decide_eq_true (show (j : Int) < (cls.length : Int) by omega), Bool.and_self, cond_true, getD_map pvC h4, h5]
    rfl

/-- A loop that keeps the names of some. -/
theorem those_loop {γ : Type} [Frc (Int × List PV × γ)] (p : Nat → Bool) (g : γ) (cF : PV → γ → (Bool → γ → R) → R) (ret : PV → γ → R) (body : (Int × List PV × γ → R) → Int × List PV × γ → R)
    (hbody : ∀ nx n l g, body nx (n, l, g) = bif (decide (n < (List.length (cls.map pvC) : Int))) then
      bif (true && decide ((0 : Int) ≤ n) && decide (n < (List.length (cls.map pvC) : Int))) then
        cF (PV.fld (List.getD (cls.map pvC) n.toNat PV.nil) 1) g fun b g' =>
        bif b then
          bif (true && roomy (List.length l + List.length [(PV.str (PV.chars (PV.fld (List.getD (cls.map pvC) n.toNat PV.nil) 0)))]) 16) then
            nx (IntKind.wrap .i64 (n + (1 : Int)), l ++ [(PV.str (PV.chars (PV.fld (List.getD (cls.map pvC) n.toNat PV.nil) 0)))], g')
          else none
        else nx (IntKind.wrap .i64 (n + (1 : Int)), l, g')
      else none
    else ret (.list l) g)
    (hF : ∀ n r, n < 2 ^ 256 → cF (bs n) g r = r (p n) g) (n : Nat) (hn : 100 ≤ n) :
    loopR body n ((0 : Int), [], g) = ret (.list (((cls.filter fun c => p c.2).map fun c => PV.str c.1))) g := by
  have hL : cls.length = 12 := rfl
  have := vup (body := body) (fun (i : Nat) (l : List PV) => ((i : Int), l, g)) (fun i l => l.length ≤ i) (res := fun i l => ret (.list (l ++ (((cls.drop i).filter fun c => p c.2).map fun c => PV.str c.1))) g) cls.length ?_ ?_ n 0 [] (by simp) (by omega) (by omega)
  · exact this
  · intro nx l _
    rw [hbody, List.length_map, decide_eq_false (by omega), List.drop_length]
    simp
  · intro i hi nx l hl hnx
    rw [hbody, List.length_map, decide_eq_true (show (i : Int) < (cls.length : Int) by omega), decide_eq_true (show (0 : Int) ≤ (i : Int) by omega), getD_map pvC hi, wrap_succ (by omega)]
    have e0 : PV.fld (pvC cls[i]) 0 = .str cls[i].1 := rfl
    have e1 : PV.fld (pvC cls[i]) 1 = bs cls[i].2 := rfl
    simp only [Bool.and_self, cond_true, e0, e1, PV.chars]
    rw [hF _ _ (cls_lt _ (List.getElem_mem hi)), drop_cons hi]
    by_cases hp : p cls[i].2 = true
    · rw [hp, cond_true, roomy_of (by simp; omega) (by simp; omega)]
      refine (hnx _ (by simp; omega)).trans ?_
      simp only [List.filter_cons, hp, if_true, List.map_cons, List.append_assoc, List.cons_append, List.nil_append]
    · have hp' : p cls[i].2 = false := by simpa using hp
      rw [hp', cond_false, hnx _ (by omega)]
      simp only [List.filter_cons, hp', Bool.false_eq_true, if_false]
end Go.Proofs.Ytoefnbinfmbckaa
