/- The interpreter X, part 8: a slot is put, an object comes, changes, grows. -/
import Derived.Test.YtbmhbnkejgjfdaaX7
set_option linter.unusedVariables false
set_option linter.unusedSimpArgs false
namespace Go.X
open Go
section
variable {P : Program}

theorem Rel.put {w : World} {Mo : Nat → Prop} {β : Beta} {T : List SV} {B : Obs} {vs : List Value} (h : Rel P Mo β T B vs w) (i : Nat) {s : SV} {v : Value}
    (hs : RS P w (Mut Mo β B) β B s v) : Rel P Mo β (T.set i s) B (vs.set i v) w := by
  refine ⟨by simpa using h.len, fun j s' v' hj hv => ?_, h.ob, h.inj, h.lt, h.out, h.mo⟩
  rw [List.getElem?_set] at hj hv
  by_cases hij : i = j
  · subst hij
    rw [if_pos rfl] at hj hv
    by_cases hl : i < T.length
    · rw [if_pos hl] at hj
      rw [if_pos (by rw [h.len]; exact hl)] at hv
      injection hj with hj; injection hv with hv
      subst hj; subst hv; exact hs
    · rw [if_neg hl] at hj; cases hj
  · rw [if_neg hij] at hj hv
    exact h.slot j s' v' hj hv

/-- The world goes on; what was there stays. -/
theorem Rel.world {w w' : World} {Mo : Nat → Prop} {β : Beta} {T : List SV} {B : Obs} {vs : List Value} (h : Rel P Mo β T B vs w) (hsz : w.heap.size ≤ w'.heap.size)
    (hold : ∀ b, b < w.heap.size → w'.heap[b]? = w.heap[b]?) : Rel P Mo β T B vs w' := by
  have hs : Same P w (Mut Mo β B) β B w' (Mut Mo β B) β B := ⟨fun b hb hl => ⟨hb, hold b hl⟩, fun d ob hd => ⟨ob, hd, rfl, fun _ _ h => h, fun e l he => ⟨l, he, rfl⟩⟩⟩
  exact ⟨h.len, fun i s v hi hv => (h.slot i s v hi hv).mono hs, fun d o hd => (h.ob d o hd).mono hs hd (fun b c hβ => hold b (h.lt d o b c hd hβ)), h.inj,
    fun d o b c hd hβ => Nat.lt_of_lt_of_le (h.lt d o b c hd hβ) hsz, h.out, fun b hb => Nat.lt_of_lt_of_le (h.mo b hb) hsz⟩

def Beta.at (β : Beta) (d : Nat) (x : Option (Nat × Nat)) : Beta := fun e => if d = e then x else β e

/-- What a new object leaves as it was. -/
theorem same_lay {w w' : World} {Mo : Nat → Prop} {β : Beta} {T : List SV} {B : Obs} {vs : List Value} (h : Rel P Mo β T B vs w) {d : Nat} (hd : Obs.get B d = none)
    (hold : ∀ b, b < w.heap.size → w'.heap[b]? = w.heap[b]?) {x : Option (Nat × Nat)} (hx : ∀ b c, x = some (b, c) → w.heap.size ≤ b) (o : Ob) :
    Same P w (Mut Mo β B) β B w' (Mut Mo (β.at d x) (Obs.ins d o B)) (β.at d x) (Obs.ins d o B) := by
  refine ⟨fun b hb hl => ⟨?_, hold b hl⟩, fun e ob he => ⟨ob, ?_, ?_, fun _ _ h => h, fun u l hl => ⟨l, hl, rfl⟩⟩⟩
  · rintro (hb' | ⟨e, ob, c, he, hβ⟩)
    · exact hb (.inl hb')
    · rw [Obs.get_ins] at he
      unfold Beta.at at hβ
      by_cases hde : d = e
      · rw [if_pos hde] at hβ
        have := hx b c hβ
        omega
      · rw [if_neg hde] at he hβ
        exact hb (.inr ⟨e, ob, c, he, hβ⟩)
  · rw [Obs.get_ins, if_neg]
    · exact he
    · intro hde; subst hde; rw [hd] at he; cases he
  · unfold Beta.at
    rw [if_neg]
    intro hde; subst hde; rw [hd] at he; cases he

theorem Rel.lay {w w' : World} {Mo : Nat → Prop} {β : Beta} {T : List SV} {B : Obs} {vs : List Value} (h : Rel P Mo β T B vs w) {d : Nat} (hd : Obs.get B d = none)
    (hsz : w.heap.size ≤ w'.heap.size) (hold : ∀ b, b < w.heap.size → w'.heap[b]? = w.heap[b]?) {x : Option (Nat × Nat)}
    (hx : ∀ b c, x = some (b, c) → w.heap.size ≤ b ∧ b < w'.heap.size) (o : Ob)
    (hro : RO P w' (Mut Mo (β.at d x) (Obs.ins d o B)) (β.at d x) (Obs.ins d o B) d o) :
    Rel P Mo (β.at d x) T (Obs.ins d o B) vs w' := by
  have hs := same_lay h hd hold (fun b c hb => (hx b c hb).1) o
  have hg : ∀ e o', Obs.get (Obs.ins d o B) e = some o' → (d = e ∧ o' = o) ∨ (d ≠ e ∧ Obs.get B e = some o') := by
    intro e o' he
    rw [Obs.get_ins] at he
    by_cases hde : d = e
    · rw [if_pos hde] at he; injection he with he; exact .inl ⟨hde, he.symm⟩
    · rw [if_neg hde] at he; exact .inr ⟨hde, he⟩
  refine ⟨h.len, fun i s v hi hv => (h.slot i s v hi hv).mono hs, fun e o' he => ?_, fun e o1 e' o2 b c c' h1 h2 h3 h4 => ?_, fun e o1 b c h1 h2 => ?_, fun e o1 b c h1 h2 => ?_, fun b hb => Nat.lt_of_lt_of_le (h.mo b hb) hsz⟩
  · rcases hg e o' he with ⟨h1, h2⟩ | ⟨h1, h2⟩
    · subst h1; subst h2; exact hro
    · exact (h.ob e o' h2).mono hs h2 (fun b c hβ => hold b (h.lt e o' b c h2 hβ))
  · unfold Beta.at at h3 h4
    rcases hg e o1 h1 with ⟨g1, g2⟩ | ⟨g1, g2⟩ <;> rcases hg e' o2 h2 with ⟨k1, k2⟩ | ⟨k1, k2⟩
    · exact g1.symm.trans k1
    · rw [if_pos g1] at h3; rw [if_neg k1] at h4
      have := (hx b c h3).1
      have := h.lt e' o2 b c' k2 h4
      omega
    · rw [if_neg g1] at h3; rw [if_pos k1] at h4
      have := (hx b c' h4).1
      have := h.lt e o1 b c g2 h3
      omega
    · rw [if_neg g1] at h3; rw [if_neg k1] at h4
      exact h.inj e o1 e' o2 b c c' g2 k2 h3 h4
  · unfold Beta.at at h2
    rcases hg e o1 h1 with ⟨g1, g2⟩ | ⟨g1, g2⟩
    · rw [if_pos g1] at h2; exact (hx b c h2).2
    · rw [if_neg g1] at h2; exact Nat.lt_of_lt_of_le (h.lt e o1 b c g2 h2) hsz
  · unfold Beta.at at h2
    rcases hg e o1 h1 with ⟨g1, g2⟩ | ⟨g1, g2⟩
    · rw [if_pos g1] at h2
      intro hb
      have := (hx b c h2).1
      have := h.mo b hb
      omega
    · rw [if_neg g1] at h2; exact h.out e o1 b c g2 h2

theorem Kp.lay {w0 w w' : World} {F : Foot} {β : Beta} {B : Obs} (h : Kp w0 F β B w) {d : Nat}
    (hsz : w.heap.size ≤ w'.heap.size) (hold : ∀ b, b < w.heap.size → w'.heap[b]? = w.heap[b]?) {x : Option (Nat × Nat)}
    (hx : ∀ b c, x = some (b, c) → w.heap.size ≤ b) (o : Ob) (hos : w'.os = w.os) (hout : w'.output = w.output) (hlo : d < lowB) : Kp w0 F (β.at d x) (Obs.ins d o B) w' := by
  refine ⟨Nat.le_trans h.size hsz, fun b hb hf => by rw [hold b (Nat.lt_of_lt_of_le hb h.size)]; exact h.old b hb hf, ?_, hos.trans h.os, hout.trans h.output, fun n t b o' hn ho => ?_, h.low⟩
  rotate_left
  · have hne : d ≠ n := by
      intro hdn
      subst hdn
      rw [h.low d hlo] at hn; cases hn
    rw [Obs.get_ins, if_neg hne] at ho
    unfold Beta.at
    rw [if_neg hne]
    exact h.stay n t b o' hn ho
  rintro b ⟨e, ob, c, he, hβ⟩
  rw [Obs.get_ins] at he
  unfold Beta.at at hβ
  by_cases hde : d = e
  · rw [if_pos hde] at hβ
    exact .inr (Nat.le_trans h.size (hx b c hβ))
  · rw [if_neg hde] at he hβ
    exact h.mine b ⟨e, ob, c, he, hβ⟩

theorem Kp.world {w0 w w' : World} {F : Foot} {β : Beta} {B : Obs} (h : Kp w0 F β B w)
    (hsz : w.heap.size ≤ w'.heap.size) (hold : ∀ b, b < w.heap.size → w'.heap[b]? = w.heap[b]?) (hos : w'.os = w.os) (hout : w'.output = w.output) : Kp w0 F β B w' :=
  ⟨Nat.le_trans h.size hsz, fun b hb hf => by rw [hold b (Nat.lt_of_lt_of_le hb h.size)]; exact h.old b hb hf, h.mine, hos.trans h.os, hout.trans h.output, h.stay, h.low⟩

/-- An object changes within its block. -/
theorem same_store {w w' : World} {Mo : Nat → Prop} {β : Beta} {T : List SV} {B : Obs} {vs : List Value} (h : Rel P Mo β T B vs w) {d : Nat} {o : Ob} (hd : Obs.get B d = some o)
    {b c : Nat} (hβ : β d = some (b, c)) (hold : ∀ x, x ≠ b → w'.heap[x]? = w.heap[x]?) {o' : Ob}
    (hq : ∀ q off, offO P o q = some off → offO P o' q = some off) (hrow : ∀ e l, o = .row e l → ∃ l', o' = .row e l' ∧ l'.length = l.length) :
    Same P w (Mut Mo β B) β B w' (Mut Mo β (Obs.ins d o' (Obs.del d B))) β (Obs.ins d o' (Obs.del d B)) := by
  refine ⟨fun x hx _ => ⟨?_, hold x (fun hxb => hx (.inr ⟨d, o, c, hd, hxb ▸ hβ⟩))⟩, fun e ob he => ?_⟩
  · rintro (hx' | ⟨e, ob, c', he, hβ'⟩)
    · exact hx (.inl hx')
    · rw [Obs.get_ins, Obs.get_del] at he
      by_cases hde : d = e
      · subst hde; exact hx (.inr ⟨d, o, c', hd, hβ'⟩)
      · rw [if_neg hde, if_neg hde] at he
        exact hx (.inr ⟨e, ob, c', he, hβ'⟩)
  · by_cases hde : d = e
    · subst hde
      rw [hd] at he; injection he with he; subst he
      exact ⟨o', by rw [Obs.get_ins, if_pos rfl], rfl, hq, hrow⟩
    · exact ⟨ob, by rw [Obs.get_ins, if_neg hde, Obs.get_del, if_neg hde]; exact he, rfl, fun _ _ h => h, fun u l hl => ⟨l, hl, rfl⟩⟩

theorem Rel.store {w w' : World} {Mo : Nat → Prop} {β : Beta} {T : List SV} {B : Obs} {vs : List Value} (h : Rel P Mo β T B vs w) {d : Nat} {o : Ob} (hd : Obs.get B d = some o)
    {b c : Nat} (hβ : β d = some (b, c)) (hsz : w'.heap.size = w.heap.size) (hold : ∀ x, x ≠ b → w'.heap[x]? = w.heap[x]?) {o' : Ob}
    (hq : ∀ q off, offO P o q = some off → offO P o' q = some off) (hrow : ∀ e l, o = .row e l → ∃ l', o' = .row e l' ∧ l'.length = l.length)
    (hro : RO P w' (Mut Mo β (Obs.ins d o' (Obs.del d B))) β (Obs.ins d o' (Obs.del d B)) d o') :
    Rel P Mo β T (Obs.ins d o' (Obs.del d B)) vs w' := by
  have hs := same_store h hd hβ hold hq hrow
  have hg : ∀ e x, Obs.get (Obs.ins d o' (Obs.del d B)) e = some x → (d = e ∧ x = o') ∨ (d ≠ e ∧ Obs.get B e = some x) := by
    intro e x he
    rw [Obs.get_ins, Obs.get_del] at he
    by_cases hde : d = e
    · rw [if_pos hde] at he; injection he with he; exact .inl ⟨hde, he.symm⟩
    · rw [if_neg hde, if_neg hde] at he; exact .inr ⟨hde, he⟩
  have hg2 : ∀ e x, Obs.get (Obs.ins d o' (Obs.del d B)) e = some x → ∃ y, Obs.get B e = some y := by
    intro e x he
    rcases hg e x he with ⟨h1, _⟩ | ⟨_, h2⟩
    · subst h1; exact ⟨o, hd⟩
    · exact ⟨x, h2⟩
  refine ⟨h.len, fun i s v hi hv => (h.slot i s v hi hv).mono hs, fun e x he => ?_, fun e o1 e' o2 b c c' h1 h2 => ?_, fun e o1 b c h1 h2 => ?_, fun e o1 b c h1 h2 => ?_, fun b hb => by rw [hsz]; exact h.mo b hb⟩
  · rcases hg e x he with ⟨h1, h2⟩ | ⟨h1, h2⟩
    · subst h1; subst h2; exact hro
    · refine (h.ob e x h2).mono hs h2 (fun b' c' hβ' => hold b' (fun hb' => h1 ?_))
      subst hb'
      exact h.inj d o e x b' c c' hd h2 hβ hβ'
  · obtain ⟨y1, g1⟩ := hg2 e o1 h1
    obtain ⟨y2, g2⟩ := hg2 e' o2 h2
    exact h.inj e y1 e' y2 b c c' g1 g2
  · obtain ⟨y1, g1⟩ := hg2 e o1 h1
    rw [hsz]; exact h.lt e y1 b c g1 h2
  · obtain ⟨y1, g1⟩ := hg2 e o1 h1
    exact h.out e y1 b c g1 h2

theorem Kp.store {w0 w w' : World} {F : Foot} {β : Beta} {B : Obs} (h : Kp w0 F β B w) {d : Nat} {o : Ob} (hd : Obs.get B d = some o) {b c : Nat} (hβ : β d = some (b, c))
    (hsz : w.heap.size ≤ w'.heap.size) (hold : ∀ x, x ≠ b → x < w.heap.size → w'.heap[x]? = w.heap[x]?) {B' : Obs} {β' : Beta} (hB : ∀ x, Mine β' B' x → Mine β B x ∨ w.heap.size ≤ x)
    (hkin : ∀ n o', Obs.get B' n = some o' → β' n = β n ∧ ∃ o, Obs.get B n = some o ∧ ∀ t s, o = .box t s → ∃ s', o' = .box t s')
    (hos : w'.os = w.os) (hout : w'.output = w.output) : Kp w0 F β' B' w' := by
  refine ⟨Nat.le_trans h.size hsz, fun x hx hf => ?_, fun x hx => ?_, hos.trans h.os, hout.trans h.output, fun n t b o' hn ho => ?_, h.low⟩
  rotate_right
  · obtain ⟨h1, o, h2, h3⟩ := hkin n o' ho
    obtain ⟨⟨s, rfl⟩, h4⟩ := h.stay n t b o hn h2
    rw [h1]
    exact ⟨h3 t s rfl, h4⟩
  · rw [hold x ?_ (Nat.lt_of_lt_of_le hx h.size)]
    · exact h.old x hx hf
    · intro hxb
      subst hxb
      rcases h.mine x ⟨d, o, c, hd, hβ⟩ with h1 | h1
      · exact hf h1
      · omega
  · rcases hB x hx with h1 | h1
    · exact h.mine x h1
    · exact .inr (Nat.le_trans h.size h1)

/-- A row grows: in its block, or in a new one; all handles to it have died. -/
theorem samebut_grow {w w' : World} {Mo : Nat → Prop} {β : Beta} {T : List SV} {B : Obs} {vs : List Value} (h : Rel P Mo β T B vs w) {d : Nat} {o : Ob} (hd : Obs.get B d = some o)
    (hold : ∀ x, x < w.heap.size → (∀ c, β d ≠ some (x, c)) → w'.heap[x]? = w.heap[x]?) {x : Option (Nat × Nat)} (hx : ∀ b c, x = some (b, c) → w.heap.size ≤ b ∨ ∃ c', β d = some (b, c')) (o' : Ob) :
    SameBut P d w (Mut Mo β B) β B w' (Mut Mo (β.at d x) (Obs.ins d o' (Obs.del d (Obs.kill d B)))) (β.at d x) (Obs.ins d o' (Obs.del d (Obs.kill d B))) := by
  refine ⟨fun b hb hl => ⟨?_, hold b hl (fun c hc => hb (.inr ⟨d, o, c, hd, hc⟩))⟩, fun e ob hne he => ⟨ob.kill d, ?_, ?_, fun q off hq => by rw [offO_kill]; exact hq, fun u l hl => ⟨l, row_kill hl, rfl⟩⟩⟩
  · rintro (hb' | ⟨e, ob, c, he, hβ⟩)
    · exact hb (.inl hb')
    · rw [Obs.get_ins, Obs.get_del, Obs.get_kill] at he
      unfold Beta.at at hβ
      by_cases hde : d = e
      · rw [if_pos hde] at hβ
        rcases hx b c hβ with h1 | ⟨c', h1⟩
        · omega
        · exact hb (.inr ⟨d, o, c', hd, h1⟩)
      · rw [if_neg hde, if_neg hde] at he
        rw [if_neg hde] at hβ
        cases hg : Obs.get B e with
        | none => rw [hg] at he; cases he
        | some o1 => exact hb (.inr ⟨e, o1, c, hg, hβ⟩)
  · rw [Obs.get_ins, if_neg (Ne.symm hne), Obs.get_del, if_neg (Ne.symm hne), Obs.get_kill, he]; rfl
  · unfold Beta.at; rw [if_neg (Ne.symm hne)]

theorem Rel.grow {w w' : World} {Mo : Nat → Prop} {β : Beta} {T : List SV} {B : Obs} {vs : List Value} (h : Rel P Mo β T B vs w) {d : Nat} {o : Ob} (hd : Obs.get B d = some o)
    (hsz : w.heap.size ≤ w'.heap.size) (hold : ∀ x, x < w.heap.size → (∀ c, β d ≠ some (x, c)) → w'.heap[x]? = w.heap[x]?) {x : Option (Nat × Nat)}
    (hx : ∀ b c, x = some (b, c) → b < w'.heap.size ∧ (w.heap.size ≤ b ∨ ∃ c', β d = some (b, c'))) (o' : Ob)
    (hro : RO P w' (Mut Mo (β.at d x) (Obs.ins d o' (Obs.del d (Obs.kill d B)))) (β.at d x) (Obs.ins d o' (Obs.del d (Obs.kill d B))) d o') :
    Rel P Mo (β.at d x) (SV.kills d T) (Obs.ins d o' (Obs.del d (Obs.kill d B))) vs w' := by
  have hs := samebut_grow h hd hold (fun b c hb => (hx b c hb).2) o'
  have hg : ∀ e y, Obs.get (Obs.ins d o' (Obs.del d (Obs.kill d B))) e = some y → (d = e ∧ y = o') ∨ (d ≠ e ∧ ∃ z, Obs.get B e = some z ∧ z.kill d = y) := by
    intro e y he
    rw [Obs.get_ins, Obs.get_del, Obs.get_kill] at he
    by_cases hde : d = e
    · rw [if_pos hde] at he; injection he with he; exact .inl ⟨hde, he.symm⟩
    · rw [if_neg hde, if_neg hde] at he
      cases hg : Obs.get B e with
      | none => rw [hg] at he; cases he
      | some z => rw [hg] at he; injection he with he; exact .inr ⟨hde, z, rfl, he⟩
  refine ⟨by rw [SV.kills_len]; exact h.len, fun i s v hi hv => ?_, fun e y he => ?_, fun e o1 e' o2 b c c' h1 h2 h3 h4 => ?_, fun e o1 b c h1 h2 => ?_, fun e o1 b c h1 h2 => ?_, fun b hb => Nat.lt_of_lt_of_le (h.mo b hb) hsz⟩
  · rw [SV.kills_get] at hi
    cases hT : T[i]? with
    | none => rw [hT] at hi; cases hi
    | some s' => rw [hT] at hi; injection hi with hi; subst hi; exact (h.slot i s' v hT hv).kill hs
  · rcases hg e y he with ⟨h1, h2⟩ | ⟨h1, z, h2, h3⟩
    · subst h1; subst h2; exact hro
    · subst h3
      refine (h.ob e z h2).kill hs (Ne.symm h1) h2 (fun b c hβ => hold b (h.lt e z b c h2 hβ) (fun c' hc' => h1 ?_))
      exact h.inj d o e z b c' c hd h2 hc' hβ
  · unfold Beta.at at h3 h4
    rcases hg e o1 h1 with ⟨g1, _⟩ | ⟨g1, z1, g2, _⟩ <;> rcases hg e' o2 h2 with ⟨k1, _⟩ | ⟨k1, z2, k2, _⟩
    · exact g1.symm.trans k1
    · rw [if_pos g1] at h3; rw [if_neg k1] at h4
      rcases (hx b c h3).2 with h5 | ⟨c2, h5⟩
      · have := h.lt e' z2 b c' k2 h4; omega
      · exact g1.symm.trans (h.inj d o e' z2 b c2 c' hd k2 h5 h4)
    · rw [if_neg g1] at h3; rw [if_pos k1] at h4
      rcases (hx b c' h4).2 with h5 | ⟨c2, h5⟩
      · have := h.lt e z1 b c g2 h3; omega
      · exact (h.inj e z1 d o b c c2 g2 hd h3 h5).trans k1
    · rw [if_neg g1] at h3; rw [if_neg k1] at h4
      exact h.inj e z1 e' z2 b c c' g2 k2 h3 h4
  · unfold Beta.at at h2
    rcases hg e o1 h1 with ⟨g1, _⟩ | ⟨g1, z1, g2, _⟩
    · rw [if_pos g1] at h2; exact (hx b c h2).1
    · rw [if_neg g1] at h2; exact Nat.lt_of_lt_of_le (h.lt e z1 b c g2 h2) hsz
  · unfold Beta.at at h2
    rcases hg e o1 h1 with ⟨g1, _⟩ | ⟨g1, z1, g2, _⟩
    · rw [if_pos g1] at h2
      rcases (hx b c h2).2 with h5 | ⟨c2, h5⟩
      · intro hb; have := h.mo b hb; omega
      · exact h.out d o b c2 hd h5
    · rw [if_neg g1] at h2; exact h.out e z1 b c g2 h2

end
end Go.X
