/- The interpreter X, part 22: conversions. -/
import Derived.Test.YtbmhbnkejgjfdaaX21
namespace Go.X
open Go
section
variable {E : Env} {w0 : World} {F : Foot} {Mo : Nat → Prop} {st : St} {K : SV → Obs → Option Out} {r : Out} {a : Act} {w : World} {β : Beta}

theorem push_chars : ∀ (l : List Int) (s : ByteArray), (∀ n ∈ l, 0 ≤ n ∧ n < 256) → chars (l.foldl (fun r n => r.push (UInt8.ofNat n.toNat)) s) = chars s ++ l
  | [], s, _ => by simp
  | n :: l, s, h => by
    rw [List.foldl_cons, push_chars l _ (fun m hm => h m (by simp [hm]))]
    have hn := h n (by simp)
    have : chars (s.push (UInt8.ofNat n.toNat)) = chars s ++ [n] := by
      unfold chars ByteArray.push
      simp only [Array.toList_push, List.map_append, List.map_cons, List.map_nil]
      congr 2
      have : (UInt8.ofNat n.toNat).toNat = n.toNat := by rw [UInt8.toNat_ofNat']; omega
      rw [this]; omega
    rw [this, List.append_assoc]; rfl

theorem pvnum_list {l : List PV} (h : ∀ p ∈ l, ∃ n, p = .int n ∧ 0 ≤ n ∧ n < 256) : ∃ ns : List Int, l = ns.map .int ∧ l.map PV.num = ns ∧ ∀ n ∈ ns, 0 ≤ n ∧ n < 256 := by
  induction l with
  | nil => exact ⟨[], rfl, rfl, by simp⟩
  | cons p l ih =>
    obtain ⟨ns, h1, h2, h3⟩ := ih (fun q hq => h q (by simp [hq]))
    obtain ⟨n, rfl, hn⟩ := h p (by simp)
    refine ⟨n :: ns, by simp [h1], by simp [h2, PV.num], fun m hm => ?_⟩
    rcases List.mem_cons.1 hm with rfl | hm
    · exact hn
    · exact h3 m hm

/-- Bytes, read as a text. -/
theorem bytes_run (hR : Rel E.P Mo β st.T st.B a.tmps.toList w) {e : TypeId} {s : SV} {v : Value} {l : List PV} (hs : RS E.P w (Mut Mo β st.B) β st.B s v) (h : st.elems E.P e s = some l) (he : E.P.underlying e = some (.int .u8)) (hce : E.P.cellsOf e = 1) :
    ∃ (p : Option Addr) (n c : Nat) (b : ByteArray), v = .slice p n c ∧ (Conv.bytesToString v).run E.P w = .ok (.string b) w ∧ chars b = l.map PV.num ∧ b.size ≤ maxLen := by
  rcases elems_sound hR hs h with ⟨rfl, rfl⟩ | ⟨ad, c, cs, rfl, hlc, hcm, hcell, hrd⟩
  · exact ⟨none, 0, 0, ByteArray.empty, rfl, rfl, rfl, Nat.zero_le _⟩
  · have hb : ∀ i (p : PV), l[i]? = some p → ∃ n, p = .int n ∧ cs i = [.int .u8 n] ∧ 0 ≤ n ∧ n < 256 := fun i p hp => byte_cell he (hrd i p hp)
    obtain ⟨ns, n1, n2, n3⟩ := pvnum_list (l := l) (fun p hp => by
      obtain ⟨i, hi⟩ := List.getElem?_of_mem hp
      obtain ⟨n, h1, _, h2⟩ := hb i p hi
      exact ⟨n, h1, h2⟩)
    have hload : (loadCells ad l.length).run E.P w = .ok (ns.map (Value.int .u8)).toArray w := by
      have := run_loadCells_list (P := E.P) w ad (ns.map (Value.int .u8)) (fun j x hj => by
        rw [List.getElem?_map] at hj
        cases hn : ns[j]? with
        | none => rw [hn] at hj; cases hj
        | some m =>
          rw [hn] at hj
          replace hj : Value.int .u8 m = x := by injection hj
          subst hj
          have hlj : l[j]? = some (.int m) := by rw [n1, List.getElem?_map, hn]; rfl
          obtain ⟨m', k1, k2, _⟩ := hb j _ hlj
          injection k1 with k1; subst k1
          have := (hcell j (get_lt hlj)).2 0 (.int .u8 m) (by rw [k2]; rfl)
          rw [add_add, hce, Nat.mul_one, Nat.add_zero] at this
          exact this)
      rw [List.length_map] at this
      rwa [show l.length = ns.length by rw [n1, List.length_map]]
    refine ⟨some ad, l.length, c, _, rfl, run_bytesToString w ad l.length c ns hload, ?_, ?_⟩
    · rw [push_chars ns _ n3, n2]; rfl
    · rw [← chars_len, push_chars ns _ n3]
      have : ns.length = l.length := by rw [n1, List.length_map]
      rw [List.length_append, this]
      show 0 + l.length ≤ maxLen
      omega

theorem bytesRow_rows (hL : laidOutB E.P = true) {M : Nat → Prop} {e : TypeId} (he : E.P.underlying e = some (.int .u8)) (hlt : e < E.P.types.size) (s : ByteArray) (c : Nat) (hc : s.size ≤ c) :
    Rows E.P w M e ((chars s).map .int) (bytesRow s c).toList ∧ (∀ x ∈ (bytesRow s c).toList, x.oneCell' = true) ∧ (bytesRow s c).size = c * E.P.cellsOf e := by
  have hce : E.P.cellsOf e = 1 := cells1 hL hlt (by rw [he]; rfl) (by simp [isAggT, he])
  refine ⟨fun i p hi => ?_, fun x hx => ?_, ?_⟩
  · rw [hce, Nat.mul_one]
    rw [List.getElem?_map] at hi
    unfold chars at hi
    rw [List.getElem?_map] at hi
    cases hn : s.data.toList[i]? with
    | none => rw [hn] at hi; cases hi
    | some b =>
      rw [hn] at hi
      replace hi : PV.int (b.toNat : Int) = p := by injection hi
      subst hi
      have hlt' := get_lt hn
      have hb : (bytesRow s c).toList[i]? = some (.int .u8 (b.toNat : Int)) := by
        rw [Array.getElem?_toList, bytesRow_at s c i (by simpa using hlt')]
        rw [List.getElem?_eq_getElem hlt'] at hn
        injection hn with hn
        rw [← hn]; simp
      have hsub : sub (bytesRow s c).toList i 1 = [.int .u8 (b.toNat : Int)] := by
        unfold sub
        rw [List.take_one, List.head?_drop, hb]; rfl
      rw [hsub]
      refine .int he ?_
      unfold Lit.wf
      have e1 : IntKind.u8.min = 0 := by decide
      have e2 : IntKind.u8.max = 255 := by decide
      have := b.toNat_lt
      simp only [Bool.and_eq_true, decide_eq_true_eq]
      omega
  · unfold bytesRow at hx
    simp only [Array.toList_append, Array.toList_map, Array.toList_replicate, List.mem_append, List.mem_map, List.mem_replicate] at hx
    rcases hx with ⟨b, _, rfl⟩ | ⟨_, rfl⟩ <;> rfl
  · rw [hce, Nat.mul_one]
    unfold bytesRow
    have : s.data.size = s.size := rfl
    simp only [Array.size_append, Array.size_map, Array.size_replicate]; omega

theorem q_convert (hL : laidOutB E.P = true) (hR : Rel E.P Mo β st.T st.B a.tmps.toList w) (hk : Kp w0 F β st.B w) {o : Oper} {s t : TypeId} {x : Operand} (ho : o.op = .convert s t x)
    (hd : Obs.get st.B (o.dst.getD 0) = none) (hlo : o.dst.getD 0 < lowB) (h : opQ E o st K = some r) : QOk E w0 F Mo β o st K r a w := by
  have hx := get_sound hR o.type x
  unfold opQ at h
  rw [ho] at h
  simp only at h
  generalize o.dst.getD 0 = d at h hd hlo
  generalize st.get E.P o.type x = sx at h hx
  generalize hvx : a.eval x = vx at hx
  have run1 : ∀ {v : Value} {w' : World}, (convert s t vx).run E.P w = .ok v w' → (execOp a.eval o).run E.P w = .ok (.value v) w' := by
    intro v w' h
    unfold execOp; rw [ho]
    simp only
    rw [hvx, Sem.run_bind, h]; rfl
  split at h
  · -- numbers
    rename_i ks kt ki n hs ht
    cases hx with
    | int hw =>
      refine QOk.val hR hk h (run1 (v := .int kt (kt.wrap n)) ?_) (.int (wf_wrap _ _))
      simp [convert, run_underlying hs, run_underlying ht, Conv.intToInt]
  · -- a text
    rename_i l hs ht
    cases hx with
    | str hw =>
      refine QOk.val hR hk h (run1 ?_) (.str hw)
      simp [convert, run_underlying hs, run_underlying ht]
  · -- a text's bytes
    rename_i e l hs ht
    generalize hsx : SV.str l = sx' at hx
    cases hx with
    | @str b hw =>
      injection hsx with hsx
      subst hsx
      cases hue : E.P.underlying e with
      | none => rw [hue] at h; cases h
      | some de =>
        rw [hue] at h
        split at h
        · rename_i hde
          injection hde with hde; subst hde
          obtain ⟨hc, h⟩ := cond_some h
          simp only [Bool.and_eq_true, decide_eq_true_eq, roomy] at hc
          obtain ⟨he, _⟩ := hc
          have hge := grownCap_ge w b.size 0 e
          obtain ⟨r1, r2, r3⟩ := bytesRow_rows (w := w) (M := Mut Mo β st.B) hL hue he b _ hge
          have hlen : ((chars b).map PV.int).length = b.size := by rw [List.length_map, chars_len]
          have hrun := run1 (run_bytes_of_string w s t e b hs ht hue)
          rw [← hlen] at hrun hge
          have hcm := grownCap_le_maxLen w b.size 0 e hw
          rw [← hlen] at hcm r1 r2 r3
          by_cases hown : E.nilOwn d = true
          · rw [hown, cond_true] at h
            exact q_rowOwn hR hk ht he r1 r2 r3 hge hcm (fun o ho => by simp only; omega) hd hlo hrun rfl rfl rfl h
          · rw [show E.nilOwn d = false by simpa using hown, cond_false] at h
            exact q_rowVal hR hk ht r1 r3 hge hcm hrun rfl rfl rfl h
        · cases h
    | _ => cases hsx
  · -- bytes as a text
    rename_i e hs ht
    split at h
    · rename_i l hue hel
      obtain ⟨hlt', h⟩ := cond_some h
      have hlt : E.P.cellsOf e = 1 := cells1 hL (by simpa using hlt') (by rw [hue]; rfl) (by simp [isAggT, hue])
      obtain ⟨p, n, c, b, rfl, hb, hcb, hbl⟩ := bytes_run hR hx hel hue hlt
      rw [← hcb] at h
      refine QOk.val hR hk h (run1 ?_) (.str hbl)
      rw [run_convert_bytes_string w s t e p n c hs hue ht]
      exact hb
    · cases h
  · cases h

end
end Go.X
