/- The interpreter X: texts 15 to 22; no statement of the seat is proved here. -/
import Derived.Test.YtmdlhnojpcnnbaaXD
import Derived.DeepKeys
import Derived.Laws.StructEq
import Derived.Laws.BytesString
import Derived.Laws.Tables
import Derived.Laws.MakeOwn
import Derived.Laws.IdiomStrings
import Derived.Laws.AppendOwn
import Derived.Great.BuildSlice
import Derived.MapKept
set_option linter.unusedVariables false
set_option linter.unusedSimpArgs false
namespace Go.X
open Go
section
variable {E : Env} {w0 : World} {F : Foot} {Mo : Nat → Prop} {st : St} {K : SV → Obs → Option Out} {r : Out} {a : Act} {w : World} {β : Beta}

theorem elems_sound {P:Program}(hR:Rel P Mo β st.T st.B a.tmps.toList w){e:TypeId}{s:SV}{v:Value}{l:List PV}(hs:RS P w (Mut Mo β st.B) β st.B s v)(h:st.elems P e s=some l) :
  (v=.slice none 0 0∧l=[])∨∃ (ad:Addr)(c:Nat)(cs:Nat→List Value),v=.slice (some ad) l.length c∧l.length≤c∧c≤maxLen ∧
   (∀ i,i < l.length→(cs i).length=P.cellsOf e∧∀ j x,(cs i)[j]?=some x→w.cell? ((ad.add (i * P.cellsOf e)).add j)=some x) ∧
   (∀ i p,l[i]?=some p→Rd P w (Mut Mo β st.B) e p (cs i)):=by
 cases hs with
 | nils =>
  simp only [St.elems] at h;injection h with h
  exact .inl ⟨rfl,h.symm⟩
 | @val t p v cs hp hr =>
  simp only [St.elems] at h
  cases hr with
  | nilSlice hu =>
   rw [hu] at h
   obtain ⟨_,h⟩:=cond_some h
   have hpk:v=.slice none 0 0:=by
    unfold Pack at hp;rw [if_neg (by simp [isAggT,hu])] at hp;injection hp with hp;exact hp.symm
   injection h with h
   exact .inl ⟨hpk,h.symm⟩
  | @slice _ e' ad n c l' cs hu h1 h2 h3 h4 h5 =>
   rw [hu] at h
   obtain ⟨he,h9⟩:=cond_some h
   clear h
   have he:e'=e:=by simpa using he
   subst he
   have hpk:v=.slice (some ad) n c:=by
    unfold Pack at hp;rw [if_neg (by simp [isAggT,hu])] at hp;injection hp with hp;exact hp.symm
   have h:l'=l:=by injection h9
   subst h;subst h1
   exact .inr ⟨ad,c,cs,hpk,h2,h3,fun i hi=>⟨(h4 i hi).1,fun j x hj=>((h4 i hi).2 j x hj).2⟩,h5⟩
  | int hu=>rw [hu] at h;cases h
  | bool hu=>rw [hu] at h;cases h
  | str hu=>rw [hu] at h;cases h
  | flt hu=>rw [hu] at h;cases h
  | nilPtr hu=>rw [hu] at h;cases h
  | ref hu=>rw [hu] at h;cases h
  | nilIface hu=>rw [hu] at h;cases h
  | struct hu=>rw [hu] at h;cases h
  | arr hu=>rw [hu] at h;cases h
 | @own t d e' l' b c hu hg hβ hl =>
  simp only [St.elems] at h
  rw [hg] at h
  simp only at h
  obtain ⟨he,h9⟩:=cond_some h
  clear h
  have he:e'=e:=by simpa using he
  subst he
  have h:l'=l:=by injection h9
  subst h
  rcases (hR.ob d _ hg).2 with ⟨h1,_⟩|⟨b',c',cs,fr,h1,h2,h3,h4,h5,h6,h7,h8⟩
  ·rw [h1] at hβ;cases hβ
  ·rw [h1] at hβ;injection hβ with hβ;injection hβ with hb hc;subst hb;subst hc
   refine .inr ⟨⟨b',0,none⟩,c',fun i=>sub cs (i * P.cellsOf e') (P.cellsOf e'),rfl,h4,h5,fun i hi=>⟨sub_len ?_,fun j x hj=>?_⟩,h8⟩
   ·rw [h6,←Nat.succ_mul];exact Nat.mul_le_mul_right _ (by omega)
   ·rw [add_off,Nat.zero_add]
    exact cell_block h2 j _ hj
 | ownNil hu hg hβ =>
  simp only [St.elems] at h
  rw [hg] at h
  simp only at h
  obtain ⟨_,h⟩:=cond_some h
  injection h with h
  exact .inl ⟨rfl,h.symm⟩
 | _=>simp [St.elems] at h

theorem RdH.row_of {P:Program}{M:Nat→Prop}{G:Nat→Nat × Nat→Prop}{t:TypeId}{p:PV}{cs:List Value}(h:RdH P w M G t p cs)(hp:0 < p.rN) :
  ∃ i n b c e,p=.rs i n∧cs=[.slice (some ⟨b,0,none⟩) n c]∧P.underlying t=some (.slice e)∧G i (b,c)∧n≤c∧c≤maxLen:=by
 cases h with
 | sl _ hu hG h1 h2=>exact ⟨_,_,_,_,_,rfl,rfl,hu,hG,h1,h2⟩
 | leaf _ _ h=>cases h <;> simp [PV.rN] at hp
 | _=>simp [PV.rN] at hp
theorem RdH.slice_of {P:Program}{M:Nat→Prop}{G:Nat→Nat × Nat→Prop}{t:TypeId}{p:PV}{cs:List Value}(h:RdH P w M G t p cs)(hr:refT P t=true){e:TypeId}(hu:P.underlying t=some (.slice e)) :
  (p=.list []∧cs=[.slice none 0 0])∨∃ i n b c,p=.rs i n∧cs=[.slice (some ⟨b,0,none⟩) n c]∧G i (b,c)∧n≤c∧c≤maxLen:=by
 cases h with
 | sl _ hu hG h1 h2=>exact .inr ⟨_,_,_,_,rfl,rfl,hG,h1,h2⟩
 | nils=>exact .inl ⟨rfl,rfl⟩
 | leaf _ hf=>rw [hr] at hf;cases hf
 | nilp _ h=>rw [hu] at h;cases h
 | ptr _ h=>rw [hu] at h;cases h
 | struct h=>rw [hu] at h;cases h
 | arr h=>rw [hu] at h;cases h

theorem q_indexAddr (hL:laidOutB E.P=true)(hR:Rel E.P Mo β st.T st.B a.tmps.toList w)(hk:Kp w0 F β st.B w){o:Oper}{t:TypeId}{x i:Operand}(ho:o.op=.indexAddr t x i)(h:opQ0 E o st K=some r):QOk E w0 F Mo β o st K r a w:=by
 have hx:=get_sound hR o.type x
 have hi:=get_sound hR o.type i
 unfold opQ0 at h
 rw [ho] at h
 simp only at h
 generalize st.get E.P o.type x=sx at h hx
 generalize st.get E.P o.type i=si at h hi
 generalize hv:a.eval x=v at hx
 generalize hvi:a.eval i=vi at hi
 cases hu:E.P.underlying t with
 | none=>rw [hu] at h;cases h
 | some d =>
  rw [hu] at h
  cases d with
  | array m u =>
   cases hi with
   | @int k n hw =>
    simp only at h
    obtain ⟨hc,h⟩:=cond_some h
    simp only [Bool.and_eq_true,decide_eq_true_eq] at hc
    obtain ⟨⟨hdesc,c1⟩,c2⟩:=hc
    obtain ⟨du,hdu⟩:=Option.isSome_iff_exists.1 hdesc
    have hplace:∀ ad,(Instr.indexAt t (.pointer (some ad)) (.int k n)).run E.P w=.ok (.pointer (some (ad.add (n.toNat * E.P.cellsOf u)))) w:=by
     intro ad
     unfold Instr.indexAt
     simp only [asIntOf,pure_bind]
     rw [Sem.run_bind,run_underlying hu,Result.andThen_ok]
     simp only [Instr.sureAddr,pure_bind]
     rw [Sem.run_bind,run_underlying hu,Result.andThen_ok]
     simp only [if_pos (show 0≤n∧n < (m:Int) from ⟨c1,c2⟩)]
     rw [Sem.run_bind,run_sizeT hdu,Result.andThen_ok];rfl
    cases hx with
    | @ptr d q b c off ob hd hβ hq =>
     simp only at h
     rw [hd] at h
     simp only at h
     obtain ⟨h1,h2⟩:=cond_some h
     have h1:ob.typAt E.P q=some t:=by simpa using h1
     refine QOk.val hR hk h2 (v:=.pointer (some ⟨b,off+n.toNat * E.P.cellsOf u,none⟩)) ?_ (.ptr hd hβ (offO_idx hu ⟨c1,c2⟩ h1 hq))
     unfold execOp;rw [ho]
     simp only [hv,hvi]
     rw [Sem.run_bind,hplace,Result.andThen_ok,add_off];rfl
    | @hptr e i q b c off hG hoff =>
     simp only at h
     obtain ⟨h1,h2⟩:=cond_some h
     have h1:typH E.P e q=some t:=by simpa using h1
     refine QOk.val hR hk h2 (v:=.pointer (some ⟨b,off+n.toNat * E.P.cellsOf u,none⟩)) ?_ (.hptr hG (offH_idx hu ⟨c1,c2⟩ h1 hoff))
     unfold execOp;rw [ho]
     simp only [hv,hvi]
     rw [Sem.run_bind,hplace,Result.andThen_ok,add_off];rfl
    | @fro u' p ad cs hcl hat hrd =>
     simp only at h
     obtain ⟨h1,h2⟩:=cond_some h
     have h1:u'=t:=by simpa using h1
     subst h1
     refine QOk.val hR hk h2 (v:=.pointer (some (ad.add (n.toNat * E.P.cellsOf u)))) ?_ ?_
     ·unfold execOp;rw [ho]
      simp only [hv,hvi]
      rw [Sem.run_bind,hplace,Result.andThen_ok];rfl
     ·cases hrd with
      | @arr _ m' e l _ hu' ht hl hc hel =>
       rw [hu] at hu'
       injection hu' with hu';injection hu' with g1 g2
       subst g1;subst g2
       have hlt:n.toNat < l.length:=by omega
       have hg:=List.getElem?_eq_getElem hlt
       have hp:PV.fld (.agg l) n.toNat=l[n.toNat]:=by simp only [PV.fld,PV.flds];exact getD_of hg
       rw [hp]
       obtain ⟨_,hce⟩:=layA hL ht hu
       refine .fro (sub_len ?_) (hat.sub (n.toNat * E.P.cellsOf u) (E.P.cellsOf u)) (hel n.toNat _ hg)
       rw [hc,hce,←Nat.succ_mul];exact Nat.mul_le_mul_right _ (by omega)
      | int hu'=>rw [hu] at hu';cases hu'
      | bool hu'=>rw [hu] at hu';cases hu'
      | str hu'=>rw [hu] at hu';cases hu'
      | flt hu'=>rw [hu] at hu';cases hu'
      | nilSlice hu'=>rw [hu] at hu';cases hu'
      | slice hu'=>rw [hu] at hu';cases hu'
      | nilPtr hu'=>rw [hu] at hu';cases hu'
      | ref hu'=>rw [hu] at hu';cases hu'
      | nilIface hu'=>rw [hu] at hu';cases hu'
      | struct hu'=>rw [hu] at hu';cases hu'
    | _=>cases h
   | _=>cases h
  | slice u =>
   cases hi with
   | @int k n hw =>
    simp only at h
    have hplace:∀ ad (len c:Nat)(du:TypeDesc),E.P.underlying u=some du→0≤n∧n < (len:Int)→(Instr.indexAt t (.slice (some ad) len c) (.int k n)).run E.P w=.ok (.pointer (some (ad.add (n.toNat * E.P.cellsOf u)))) w:=by
     intro ad len c du hdu hc
     unfold Instr.indexAt
     simp only [asIntOf,pure_bind]
     rw [Sem.run_bind,run_underlying hu,Result.andThen_ok]
     simp only
     rw [Sem.run_bind,run_underlying hu,Result.andThen_ok]
     simp only [if_pos hc]
     rw [Sem.run_bind,run_sizeT hdu,Result.andThen_ok];rfl
    by_cases hown:∃ t' d,sx=.own t' d
    ·obtain ⟨t',d,rfl⟩:=hown
     simp only at h
     cases hx with
     | @own _ _ e' l' b c hu' hg hβ hl =>
      rw [hg] at h
      simp only at h
      obtain ⟨hc,h9⟩:=cond_some h
      clear h
      simp only [Bool.and_eq_true,decide_eq_true_eq,beq_iff_eq] at hc
      obtain ⟨⟨⟨c0,hdesc⟩,c1⟩,c2⟩:=hc
      subst c0
      obtain ⟨du,hdu⟩:=Option.isSome_iff_exists.1 hdesc
      refine QOk.val hR hk h9 (v:=.pointer (some ⟨b,n.toNat * E.P.cellsOf e',none⟩)) ?_ (.ptr hg hβ ?_)
      ·unfold execOp;rw [ho]
       simp only [hv,hvi]
       rw [Sem.run_bind,hplace _ _ _ du hdu ⟨c1,c2⟩,Result.andThen_ok,add_off,Nat.zero_add];rfl
      ·simp only [offO,if_pos (show 0≤n∧n < (l'.length:Int) from ⟨c1,c2⟩),offT,Option.map_some,Nat.add_zero]
     | ownNil hu' hg hβ =>
      rw [hg] at h
      simp only at h
      obtain ⟨hc,h⟩:=cond_some h
      simp at hc
      omega
    ·by_cases hhv:∃ t' p,sx=.hval t' p
     ·obtain ⟨t',p,rfl⟩:=hhv
      simp only at h
      obtain ⟨hc,h9⟩:=cond_some h
      simp only [Bool.and_eq_true,decide_eq_true_eq] at hc
      obtain ⟨⟨hdesc,c1⟩,c2⟩:=hc
      obtain ⟨du,hdu⟩:=Option.isSome_iff_exists.1 hdesc
      cases hx with
      | @hval _ _ _ cs hp hr =>
       obtain ⟨i,n',b,c,e,rfl,rfl,hu',hG,_,_⟩:=hr.row_of (by omega)
       replace c2:n < (n':Int):=c2
       unfold Pack at hp;rw [if_neg (by simp [isAggT,hu'])] at hp;injection hp with hp
       subst hp
       refine QOk.val hR hk h9 (v:=.pointer (some ⟨b,n.toNat * E.P.cellsOf u,none⟩)) ?_ (.hptr hG ?_)
       ·unfold execOp;rw [ho]
        simp only [hv,hvi]
        rw [Sem.run_bind,hplace _ _ _ du hdu ⟨c1,c2⟩,Result.andThen_ok,add_off,Nat.zero_add];rfl
       ·simp only [offH,if_pos c1,offT,Option.map_some,Nat.add_zero]
     have h':(match st.elems E.P u sx with
      | some l=>bif (E.P.underlying u).isSome&&decide (0≤n)&&decide (n < l.length) then K (.fro u (l.getD n.toNat .nil)) [] else none
      | none=>none)=some r:=by
      revert h
      cases sx <;> first
       | exact id
       | exact absurd ⟨_,_,rfl⟩ hown
       | exact absurd ⟨_,_,rfl⟩ hhv
     cases hel:st.elems E.P u sx with
     | none=>rw [hel] at h';cases h'
     | some l =>
      rw [hel] at h'
      simp only at h'
      obtain ⟨hc,h2⟩:=cond_some h'
      simp only [Bool.and_eq_true,decide_eq_true_eq] at hc
      obtain ⟨⟨hdesc,c1⟩,c2⟩:=hc
      obtain ⟨du,hdu⟩:=Option.isSome_iff_exists.1 hdesc
      have hlt:n.toNat < l.length:=by omega
      have hg:=List.getElem?_eq_getElem hlt
      rw [getD_of hg] at h2
      cases hx with
      | nils=>simp only [St.elems] at hel;injection hel with hel;subst hel;simp at c2;omega
      | @val t' p v cs hp hr =>
       simp only [St.elems] at hel
       cases hr with
       | nilSlice hu' =>
        rw [hu'] at hel
        obtain ⟨_,hel⟩:=cond_some hel
        injection hel with hel;subst hel;simp [PV.els] at c2;omega
       | @slice _ e' ad n' c l' cs hu' h1 h2' h3 h4 h5 =>
        rw [hu'] at hel
        obtain ⟨he,hel9⟩:=cond_some hel
        clear hel
        have he:e'=u:=by simpa using he
        subst he
        have hel:l'=l:=by injection hel9
        subst hel;subst h1
        have hpk:v=.slice (some ad) l'.length c:=by
         unfold Pack at hp;rw [if_neg (by simp [isAggT,hu'])] at hp;injection hp with hp;exact hp.symm
        subst hpk
        refine QOk.val hR hk h2 (v:=.pointer (some (ad.add (n.toNat * E.P.cellsOf e')))) ?_ (.fro (h4 _ hlt).1 (h4 _ hlt).2 (h5 _ _ hg))
        unfold execOp;rw [ho]
        simp only [hv,hvi]
        rw [Sem.run_bind,hplace _ _ _ du hdu ⟨c1,c2⟩,Result.andThen_ok];rfl
       | int hu'=>rw [hu'] at hel;cases hel
       | bool hu'=>rw [hu'] at hel;cases hel
       | str hu'=>rw [hu'] at hel;cases hel
       | flt hu'=>rw [hu'] at hel;cases hel
       | nilPtr hu'=>rw [hu'] at hel;cases hel
       | ref hu'=>rw [hu'] at hel;cases hel
       | nilIface hu'=>rw [hu'] at hel;cases hel
       | struct hu'=>rw [hu'] at hel;cases hel
       | arr hu'=>rw [hu'] at hel;cases hel
      | own=>exact absurd ⟨_,_,rfl⟩ hown
      | ownNil=>exact absurd ⟨_,_,rfl⟩ hown
      | _=>simp [St.elems] at hel
   | _=>cases h
  | _=>cases hi <;> cases h

theorem run_part {P:Program}{t:TypeId}{d:TypeDesc}{v:Value}{cs:List Value}{off:Nat}(hu:P.underlying t=some d)(hp:Pack P t v (sub cs off (P.cellsOf t))) :
  (part t cs.toArray off).run P w=.ok v w:=by
 unfold part
 rw [Sem.run_bind,run_isAggT hu,Result.andThen_ok]
 unfold Pack at hp
 by_cases ha:isAggT P t=true
 ·rw [if_pos ha] at hp ⊢
  rw [Sem.run_bind,run_sizeT hu,Result.andThen_ok,hp]
  have:cs.toArray.extract off (off+P.cellsOf t)=(sub cs off (P.cellsOf t)).toArray:=by
   simp [sub,List.take_drop]
  rw [this];rfl
 ·rw [if_neg ha] at hp ⊢
  have h0:(sub cs off (P.cellsOf t))[0]?=some v:=by rw [hp];rfl
  rw [sub_get] at h0
  have h1:cs[off]?=some v:=by
   split at h0
   ·simpa using h0
   ·cases h0
  have:cs.toArray[off]?=some v:=by simpa using h1
  rw [this];rfl

theorem q_index (hL:laidOutB E.P=true)(hR:Rel E.P Mo β st.T st.B a.tmps.toList w)(hk:Kp w0 F β st.B w){o:Oper}{t:TypeId}{x i:Operand}(ho:o.op=.index t x i)(h:opQ0 E o st K=some r):QOk E w0 F Mo β o st K r a w:=by
 have hx:=get_sound hR o.type x
 have hi:=get_sound hR o.type i
 unfold opQ0 at h
 rw [ho] at h
 simp only at h
 generalize st.get E.P o.type x=sx at h hx
 generalize st.get E.P o.type i=si at h hi
 generalize hv:a.eval x=v at hx
 generalize hvi:a.eval i=vi at hi
 split at h
 ·rename_i s k n hu
  obtain ⟨hc,h⟩:=cond_some h
  simp only [Bool.and_eq_true,decide_eq_true_eq] at hc
  cases hi with
  | int hw =>
   cases hx with
   | @str bs hsz =>
    have hlt:n.toNat < (chars bs).length:=by omega
    have hlt':n.toNat < bs.size:=by rw [←chars_len];exact hlt
    have hg:(chars bs).getD n.toNat 0=(bs[n.toNat].toNat:Int):=by
     rw [getD_of (List.getElem?_eq_getElem hlt)]
     simp [chars];rfl
    rw [hg] at h
    refine QOk.val hR hk h (v:=.int .u8 bs[n.toNat].toNat) ?_ (.int ?_)
    ·unfold execOp;rw [ho]
     simp only [hv,hvi,Instr.index,asIntOf,pure_bind]
     rw [Sem.run_bind,Sem.run_bind,run_underlying hu,Result.andThen_ok]
     have hbs:bs[n.toNat]?=some bs[n.toNat]:=getElem?_pos bs n.toNat hlt'
     simp only [if_pos hc.1,hbs]
     rfl
    ·have:=bs[n.toNat].toNat_lt
     simp only [Lit.wf,Bool.and_eq_true,decide_eq_true_eq]
     exact ⟨by simp [IntKind.min,IntKind.signed],by simp [IntKind.max,IntKind.signed,IntKind.bits];omega⟩
 ·rename_i s _ _ _ k n m u hu
  cases hi with
  | int hw =>
   cases hp:s.pvT E.P t with
   | none=>rw [hp] at h;cases h
   | some p =>
    rw [hp] at h
    simp only at h
    obtain ⟨hc,h⟩:=cond_some h
    simp only [Bool.and_eq_true,decide_eq_true_eq] at hc
    obtain ⟨⟨hdesc,c1⟩,c2⟩:=hc
    obtain ⟨du,hdu⟩:=Option.isSome_iff_exists.1 hdesc
    obtain ⟨cs,hpk,hrd⟩:=hx.pvT hp
    unfold Pack at hpk;rw [if_pos (isAggT_arr hu)] at hpk
    cases hrd with
    | @arr _ m' e l _ hu' ht hl hc hel =>
     rw [hu] at hu'
     injection hu' with hu';injection hu' with g1 g2
     subst g1;subst g2
     have hlt:n.toNat < l.length:=by omega
     have hg:=List.getElem?_eq_getElem hlt
     have hp:PV.fld (.agg l) n.toNat=l[n.toNat]:=by simp only [PV.fld,PV.flds];exact getD_of hg
     rw [hp] at h
     have hre:=hel n.toNat _ hg
     obtain ⟨v',hv'⟩:=hre.pack
     refine QOk.val hR hk h (v:=v') ?_ (RS.ofPV hv' hre)
     unfold execOp;rw [ho]
     simp only [hv,hvi,Instr.index,asIntOf,pure_bind,hpk]
     rw [Sem.run_bind,Sem.run_bind,run_underlying hu,Result.andThen_ok]
     simp only [if_pos (show 0≤n∧n < (m:Int) from ⟨c1,c2⟩)]
     rw [Sem.run_bind,run_sizeT hdu,Result.andThen_ok,run_part hdu hv'];rfl
    | int hu'=>rw [hu] at hu';cases hu'
    | bool hu'=>rw [hu] at hu';cases hu'
    | str hu'=>rw [hu] at hu';cases hu'
    | flt hu'=>rw [hu] at hu';cases hu'
    | nilSlice hu'=>rw [hu] at hu';cases hu'
    | slice hu'=>rw [hu] at hu';cases hu'
    | nilPtr hu'=>rw [hu] at hu';cases hu'
    | ref hu'=>rw [hu] at hu';cases hu'
    | nilIface hu'=>rw [hu] at hu';cases hu'
    | struct hu'=>rw [hu] at hu';cases hu'
 ·cases h

theorem q_field (hR:Rel E.P Mo β st.T st.B a.tmps.toList w)(hk:Kp w0 F β st.B w){o:Oper}{t:TypeId}{x:Operand}{f:Nat}(ho:o.op=.field t x f)(h:opQ0 E o st K=some r):QOk E w0 F Mo β o st K r a w:=by
 have hx:=get_sound hR o.type x
 unfold opQ0 at h
 rw [ho] at h
 simp only at h
 generalize st.get E.P o.type x=sx at h hx
 generalize hv:a.eval x=v at hx
 by_cases hhv:∃ u p,sx=.hval u p
 ·obtain ⟨u,p,rfl⟩:=hhv
  simp only at h
  cases hu:E.P.underlying t with
  | none=>rw [hu] at h;cases h
  | some d =>
   rw [hu] at h
   cases d with
   | struct fs =>
    simp only at h
    cases hf:fs[f]? with
    | none=>rw [hf] at h;cases h
    | some fd =>
     rw [hf] at h
     simp only at h
     obtain ⟨hc,h9⟩:=cond_some h
     clear h
     simp only [Bool.and_eq_true,beq_iff_eq] at hc
     obtain ⟨hut,hdesc⟩:=hc
     subst hut
     obtain ⟨du,hdu⟩:=Option.isSome_iff_exists.1 hdesc
     cases hx with
     | @hval _ _ _ cs hpk hrd =>
      unfold Pack at hpk;rw [if_pos (isAggT_struct hu)] at hpk
      cases hrd with
      | @struct _ gs l _ hu' ht hl hc hfl =>
       rw [hu] at hu'
       injection hu' with hu';injection hu' with hu'
       subst hu'
       have hlt:f < l.length:=by
        rw [hl]
        rcases Nat.lt_or_ge f fs.size with h|h
        ·exact h
        ·rw [Array.getElem?_eq_none h] at hf;cases hf
       have hg:=List.getElem?_eq_getElem hlt
       have hp:PV.fld (.agg l) f=l[f]:=by simp only [PV.fld,PV.flds];exact getD_of hg
       rw [hp] at h9
       have hre:=hfl f fd _ hf hg
       obtain ⟨v',hv'⟩:=hre.pack
       refine QOk.val hR hk h9 (v:=v') ?_ (RS.hv hv' hre)
       unfold execOp;rw [ho]
       simp only [hv,Instr.field,hpk]
       rw [Sem.run_bind,Sem.run_bind,run_underlying hu,Result.andThen_ok]
       simp only [hf,asAgg,pure_bind]
       rw [run_part hdu hv'];rfl
      | leaf ha=>rw [isAggT_struct hu] at ha;cases ha
      | nilp _ hu'=>rw [hu] at hu';cases hu'
      | ptr _ hu'=>rw [hu] at hu';cases hu'
      | nils _ hu'=>rw [hu] at hu';cases hu'
      | sl _ hu'=>rw [hu] at hu';cases hu'
      | arr hu'=>rw [hu] at hu';cases hu'
   | _=>cases h
 replace h:(match E.P.underlying t,sx.pvT E.P t with
   | some (.struct fs),some p=>(match fs[f]? with|some fd=>bif (E.P.underlying fd.type).isSome then K (ofPV E.P fd.type (p.fld f)) [] else none|none=>none)
   | _,_=>none)=some r:=by
  revert h
  cases sx <;> first
   | exact id
   | exact absurd ⟨_,_,rfl⟩ hhv
 cases hu:E.P.underlying t with
 | none=>rw [hu] at h;cases h
 | some d =>
  rw [hu] at h
  cases d with
  | struct fs =>
   cases hp:sx.pvT E.P t with
   | none=>rw [hp] at h;cases h
   | some p =>
    rw [hp] at h
    simp only at h
    cases hf:fs[f]? with
    | none=>rw [hf] at h;cases h
    | some fd =>
     rw [hf] at h
     simp only at h
     obtain ⟨hdesc,h⟩:=cond_some h
     obtain ⟨du,hdu⟩:=Option.isSome_iff_exists.1 hdesc
     obtain ⟨cs,hpk,hrd⟩:=hx.pvT hp
     unfold Pack at hpk;rw [if_pos (isAggT_struct hu)] at hpk
     cases hrd with
     | @struct _ gs l _ hu' ht hl hc hfl =>
      rw [hu] at hu'
      injection hu' with hu';injection hu' with hu'
      subst hu'
      have hlt:f < l.length:=by
       rw [hl]
       rcases Nat.lt_or_ge f fs.size with h|h
       ·exact h
       ·rw [Array.getElem?_eq_none h] at hf;cases hf
      have hg:=List.getElem?_eq_getElem hlt
      have hp:PV.fld (.agg l) f=l[f]:=by simp only [PV.fld,PV.flds];exact getD_of hg
      rw [hp] at h
      have hre:=hfl f fd _ hf hg
      obtain ⟨v',hv'⟩:=hre.pack
      refine QOk.val hR hk h (v:=v') ?_ (RS.ofPV hv' hre)
      unfold execOp;rw [ho]
      simp only [hv,Instr.field,hpk]
      rw [Sem.run_bind,Sem.run_bind,run_underlying hu,Result.andThen_ok]
      simp only [hf,asAgg,pure_bind]
      rw [run_part hdu hv'];rfl
     | int hu'=>rw [hu] at hu';cases hu'
     | bool hu'=>rw [hu] at hu';cases hu'
     | str hu'=>rw [hu] at hu';cases hu'
     | flt hu'=>rw [hu] at hu';cases hu'
     | nilSlice hu'=>rw [hu] at hu';cases hu'
     | slice hu'=>rw [hu] at hu';cases hu'
     | nilPtr hu'=>rw [hu] at hu';cases hu'
     | ref hu'=>rw [hu] at hu';cases hu'
     | nilIface hu'=>rw [hu] at hu';cases hu'
     | arr hu'=>rw [hu] at hu';cases hu'
  | _=>cases h

end
end Go.X
namespace Go.X
open Go
section
variable {P : Program} {w : World} {M : Nat → Prop}

theorem cmpOk_desc {n:Nat}{t:TypeId}(h:cmpOk P n t=true):∃ d,P.underlying t=some d:=by
 cases n with
 | zero=>cases h
 | succ n =>
  unfold cmpOk at h
  cases hu:P.underlying t with
  | none=>rw [hu] at h;cases h
  | some d=>exact ⟨d,rfl⟩

theorem eqItems_sound {d:Nat}{e:TypeId}{de:TypeDesc}(hde:P.underlying e=some de){xs ys:List Value}
  (IH:∀ {p q:PV}{cs ds:List Value}{v u:Value},Rd P w M e p cs→Rd P w M e q ds→Pack P e v cs→Pack P e u ds→(Op.equalIn d e v u).run P w=.ok (PV.beq p q) w) :
  ∀ (is:List Nat)(ls ms:List PV),is.length=ls.length→is.length=ms.length →
   (∀ (k i:Nat)(p q:PV),is[k]?=some i→ls[k]?=some p→ms[k]?=some q→Rd P w M e p (sub xs (i * P.cellsOf e) (P.cellsOf e))∧Rd P w M e q (sub ys (i * P.cellsOf e) (P.cellsOf e))) →
   (Op.eqItems d e (P.cellsOf e) xs.toArray ys.toArray is).run P w=.ok (PV.beqs ls ms) w
 | [],[],[],_,_,_=>rfl
 | i :: is,p :: ls,q :: ms,h1,h2,h=>by
  obtain ⟨r1,r2⟩:=h 0 i p q rfl rfl rfl
  obtain ⟨v,hv⟩:=r1.pack
  obtain ⟨u,hu⟩:=r2.pack
  have ih:=eqItems_sound hde IH is ls ms (by simpa using h1) (by simpa using h2) (fun k i' p' q' a b c=>h (k+1) i' p' q' (by simpa using a) (by simpa using b) (by simpa using c))
  simp only [Op.eqItems,Sem.run_bind,run_part hde hv,run_part hde hu,Result.andThen_ok,IH r1 r2 hv hu,PV.beqs]
  cases PV.beq p q
  ·simp
  ·simpa using ih
 | [],_ :: _,_,h1,_,_=>by simp at h1
 | [],[],_ :: _,_,h2,_=>by simp at h2
 | _ :: _,[],_,h1,_,_=>by simp at h1
 | _ :: _,_ :: _,[],_,h2,_=>by simp at h2

theorem eqFields_sound {d:Nat}{xs ys:List Value} :
  ∀ (fs:List Field)(ls ms:List PV),fs.length=ls.length→fs.length=ms.length →
   (∀ f ∈ fs,f.name≠ "_"∧(∃ de,P.underlying f.type=some de)∧∀ {p q:PV}{cs ds:List Value}{v u:Value},Rd P w M f.type p cs→Rd P w M f.type q ds→Pack P f.type v cs→Pack P f.type u ds→(Op.equalIn d f.type v u).run P w=.ok (PV.beq p q) w) →
   (∀ (k:Nat)(f:Field)(p q:PV),fs[k]?=some f→ls[k]?=some p→ms[k]?=some q→Rd P w M f.type p (sub xs f.offset (P.cellsOf f.type))∧Rd P w M f.type q (sub ys f.offset (P.cellsOf f.type))) →
   (Op.eqFields d xs.toArray ys.toArray fs).run P w=.ok (PV.beqs ls ms) w
 | [],[],[],_,_,_,_=>rfl
 | f :: fs,p :: ls,q :: ms,h1,h2,ha,h=>by
  obtain ⟨r1,r2⟩:=h 0 f p q rfl rfl rfl
  obtain ⟨hn,⟨de,hde⟩,IH⟩:=ha f (by simp)
  obtain ⟨v,hv⟩:=r1.pack
  obtain ⟨u,hu⟩:=r2.pack
  have ih:=eqFields_sound fs ls ms (by simpa using h1) (by simpa using h2) (fun g hg=>ha g (by simp [hg])) (fun k f' p' q' a b c=>h (k+1) f' p' q' (by simpa using a) (by simpa using b) (by simpa using c))
  simp only [Op.eqFields,hn,ne_eq,not_false_eq_true,if_true,Sem.run_bind,run_part hde hv,run_part hde hu,Result.andThen_ok,IH r1 r2 hv hu,PV.beqs]
  cases PV.beq p q
  ·simp
  ·simpa using ih
 | [],_ :: _,_,h1,_,_,_=>by simp at h1
 | [],[],_ :: _,_,h2,_,_=>by simp at h2
 | _ :: _,[],_,h1,_,_,_=>by simp at h1
 | _ :: _,_ :: _,[],_,h2,_,_=>by simp at h2

theorem pack_one {t:TypeId}{v x:Value}(h:Pack P t v [x])(ha:isAggT P t=false):v=x:=by
 unfold Pack at h;rw [if_neg (by simp [ha])] at h;injection h with h;exact h.symm

theorem eq_sound:∀ (n:Nat){t:TypeId}{p q:PV}{cs ds:List Value}{v u:Value},cmpOk P n t=true→Rd P w M t p cs→Rd P w M t q ds→Pack P t v cs→Pack P t u ds →
  ∀ d,(Op.equalIn (d+n) t v u).run P w=.ok (PV.beq p q) w:=by
 intro n
 induction n with
 | zero=>intro t p q cs ds v u h;cases h
 | succ n ih =>
  intro t p q cs ds v u h hp hq hv hu d
  rw [show d+(n+1)=(d+n)+1 from rfl]
  unfold cmpOk at h
  cases hp with
  | @int _ k x ht hw =>
   cases hq with
   | @int _ k' y ht' hw' =>
    rw [ht] at ht';injection ht' with ht';injection ht' with ht';subst ht'
    rw [pack_one hv (by simp [isAggT,ht]),pack_one hu (by simp [isAggT,ht]),run_equalIn_int w (d+n) t k k x y ht]
    rfl
   | bool ht'=>rw [ht] at ht';cases ht'
   | str ht'=>rw [ht] at ht';cases ht'
   | flt ht'=>rw [ht] at ht';cases ht'
   | nilSlice ht'=>rw [ht] at ht';cases ht'
   | slice ht'=>rw [ht] at ht';cases ht'
   | nilPtr ht'=>rw [ht] at ht';cases ht'
   | ref ht'=>rw [ht] at ht';cases ht'
   | nilIface ht'=>rw [ht] at ht';cases ht'
   | struct ht'=>rw [ht] at ht';cases ht'
   | arr ht'=>rw [ht] at ht';cases ht'
  | @bool _ x ht =>
   cases hq with
   | @bool _ y ht' =>
    rw [pack_one hv (by simp [isAggT,ht]),pack_one hu (by simp [isAggT,ht]),run_equalIn_bool w (d+n) t x y ht]
    rfl
   | int ht'=>rw [ht] at ht';cases ht'
   | str ht'=>rw [ht] at ht';cases ht'
   | flt ht'=>rw [ht] at ht';cases ht'
   | nilSlice ht'=>rw [ht] at ht';cases ht'
   | slice ht'=>rw [ht] at ht';cases ht'
   | nilPtr ht'=>rw [ht] at ht';cases ht'
   | ref ht'=>rw [ht] at ht';cases ht'
   | nilIface ht'=>rw [ht] at ht';cases ht'
   | struct ht'=>rw [ht] at ht';cases ht'
   | arr ht'=>rw [ht] at ht';cases ht'
  | @str _ x ht hx =>
   cases hq with
   | @str _ y ht' hy =>
    rw [pack_one hv (by simp [isAggT,ht]),pack_one hu (by simp [isAggT,ht]),run_equalIn_string w (d+n) t x y ht,chars_eq]
    rfl
   | int ht'=>rw [ht] at ht';cases ht'
   | bool ht'=>rw [ht] at ht';cases ht'
   | flt ht'=>rw [ht] at ht';cases ht'
   | nilSlice ht'=>rw [ht] at ht';cases ht'
   | slice ht'=>rw [ht] at ht';cases ht'
   | nilPtr ht'=>rw [ht] at ht';cases ht'
   | ref ht'=>rw [ht] at ht';cases ht'
   | nilIface ht'=>rw [ht] at ht';cases ht'
   | struct ht'=>rw [ht] at ht';cases ht'
   | arr ht'=>rw [ht] at ht';cases ht'
  | @arr _ m e l _ ht hs hl hc hel =>
   cases hq with
   | @arr _ m' e' l' _ ht' hs' hl' hc' hel' =>
    rw [ht] at ht';injection ht' with ht';injection ht' with g1 g2;subst g1;subst g2
    rw [ht] at h
    obtain ⟨de,hde⟩:=cmpOk_desc h
    obtain ⟨i,hi⟩:=info_of hde
    unfold Pack at hv hu;rw [if_pos (isAggT_arr ht)] at hv hu
    subst hv;subst hu
    rw [run_equalIn_array w (d+n) cs.toArray ds.toArray ht hi]
    exact eqItems_sound hde (fun a b c e'=>ih h a b c e' d) (List.range m) l l' (by simp [hl]) (by simp [hl'])
     (fun k i p q a b c=>by
      have hk:k < m:=by have:=get_lt a;simpa using this
      rw [List.getElem?_range hk] at a
      injection a with a;subst a
      exact ⟨hel _ p b,hel' _ q c⟩)
   | int ht'=>rw [ht] at ht';cases ht'
   | bool ht'=>rw [ht] at ht';cases ht'
   | str ht'=>rw [ht] at ht';cases ht'
   | flt ht'=>rw [ht] at ht';cases ht'
   | nilSlice ht'=>rw [ht] at ht';cases ht'
   | slice ht'=>rw [ht] at ht';cases ht'
   | nilPtr ht'=>rw [ht] at ht';cases ht'
   | ref ht'=>rw [ht] at ht';cases ht'
   | nilIface ht'=>rw [ht] at ht';cases ht'
   | struct ht'=>rw [ht] at ht';cases ht'
  | @struct _ fs l _ ht hs hl hc hfl =>
   cases hq with
   | @struct _ fs' l' _ ht' hs' hl' hc' hfl' =>
    rw [ht] at ht';injection ht' with ht';injection ht' with g1;subst g1
    rw [ht] at h
    simp only [Bool.and_eq_true,Bool.not_eq_true',List.all_eq_true,bne_iff_ne,ne_eq] at h
    unfold Pack at hv hu;rw [if_pos (isAggT_struct ht)] at hv hu
    subst hv;subst hu
    have hfo:P.fieldsOf t=fs:=by simp [Program.fieldsOf,ht]
    rw [run_equalIn_struct w (d+n) t cs.toArray ds.toArray (by rw [hfo];exact ht) h.1,hfo]
    exact eqFields_sound fs.toList l l' (by simp [hl]) (by simp [hl'])
     (fun f hf=>⟨(h.2 f hf).1,cmpOk_desc (h.2 f hf).2,fun a b c e'=>ih (h.2 f hf).2 a b c e' d⟩)
     (fun k f p q a b c=>⟨hfl k f p (by simpa using a) b,hfl' k f q (by simpa using a) c⟩)
   | int ht'=>rw [ht] at ht';cases ht'
   | bool ht'=>rw [ht] at ht';cases ht'
   | str ht'=>rw [ht] at ht';cases ht'
   | flt ht'=>rw [ht] at ht';cases ht'
   | nilSlice ht'=>rw [ht] at ht';cases ht'
   | slice ht'=>rw [ht] at ht';cases ht'
   | nilPtr ht'=>rw [ht] at ht';cases ht'
   | ref ht'=>rw [ht] at ht';cases ht'
   | nilIface ht'=>rw [ht] at ht';cases ht'
   | arr ht'=>rw [ht] at ht';cases ht'
  | flt ht=>rw [ht] at h;cases h
  | nilSlice ht=>rw [ht] at h;cases h
  | slice ht=>rw [ht] at h;cases h
  | nilPtr ht=>rw [ht] at h;cases h
  | ref ht=>rw [ht] at h;cases h
  | nilIface ht=>rw [ht] at h;cases h

theorem guard_none {n:Nat}{t:TypeId}(h:cmpOk P n t=true):∀ m,n≤m→P.eqGuardType m t=false:=by
 induction n generalizing t with
 | zero=>cases h
 | succ n ih =>
  intro m hm
  cases m with
  | zero=>omega
  | succ m =>
   unfold cmpOk at h
   unfold Program.eqGuardType
   cases hu:P.underlying t with
   | none=>rfl
   | some d =>
    rw [hu] at h
    cases d with
    | interface ms=>cases h
    | struct fs =>
     simp only [Bool.and_eq_true,Bool.not_eq_true',List.all_eq_true,bne_iff_ne,ne_eq] at h
     simp only
     rw [←Array.any_toList,List.any_eq_false]
     intro f hf
     simp [ih (h.2 f hf).2 m (by omega)]
    | array n e=>exact ih h m (by omega)
    | _=>rfl

end

section
variable {E : Env} {w0 : World} {F : Foot} {Mo : Nat → Prop} {st : St} {K : SV → Obs → Option Out} {r : Out} {a : Act} {w : World} {β : Beta}

theorem nilX_sound {op:BinOp}{t:TypeId}{e:TypeId}{s:SV}{v:Value}{K:SV→Option Out}(hu:E.P.underlying t=some (.pointer e)){M:Nat→Prop}{B:Obs}(hs:RS E.P w M β B s v)(h:nilX E.P op s K=some r) :
  ∃ b,K (.bool b)=some r∧(binOp op t v (.pointer none)).run E.P w=.ok (.bool b) w∧v.oneCell'=true:=by
 have key:∀ (p:Option Addr)(b:Bool),(op=.eql∧b=p.isNone)∨(op=.neq∧b=!p.isNone)→(binOp op t (.pointer p) (.pointer none)).run E.P w=.ok (.bool b) w:=by
  rintro p b (⟨h1,h2⟩|⟨h1,h2⟩)
  ·subst h1;subst h2
   unfold binOp
   simp only [Op.equal,Op.maxDepth,Sem.run_bind]
   unfold Op.equalIn
   rw [Sem.run_bind,run_underlying hu,Result.andThen_ok]
   cases p <;> rfl
  ·subst h1;subst h2
   unfold binOp
   simp only [Op.equal,Op.maxDepth,Sem.run_bind]
   unfold Op.equalIn
   rw [Sem.run_bind,run_underlying hu,Result.andThen_ok]
   cases p <;> rfl
 cases hs with
 | @val t' p v cs hp hr =>
  simp only [nilX] at h
  cases hr with
  | nilPtr hu' =>
   rw [hu'] at h
   rw [pack_one hp (by simp [isAggT,hu'])]
   cases op <;> simp only [reduceCtorEq] at h
   ·exact ⟨_,h,key none _ (.inl ⟨rfl,rfl⟩),rfl⟩
   ·exact ⟨_,h,key none _ (.inr ⟨rfl,rfl⟩),rfl⟩
  | ref hu' =>
   rw [hu'] at h
   rw [pack_one hp (by simp [isAggT,hu'])]
   cases op <;> simp only [reduceCtorEq] at h
   ·exact ⟨_,h,key (some _) _ (.inl ⟨rfl,rfl⟩),rfl⟩
   ·exact ⟨_,h,key (some _) _ (.inr ⟨rfl,rfl⟩),rfl⟩
  | int hu'=>rw [hu'] at h;cases h
  | bool hu'=>rw [hu'] at h;cases h
  | str hu'=>rw [hu'] at h;cases h
  | flt hu'=>rw [hu'] at h;cases h
  | nilSlice hu'=>rw [hu'] at h;cases h
  | slice hu'=>rw [hu'] at h;cases h
  | nilIface hu'=>rw [hu'] at h;cases h
  | struct hu'=>rw [hu'] at h;cases h
  | arr hu'=>rw [hu'] at h;cases h
 | fro =>
  simp only [nilX] at h
  cases op <;> simp only [reduceCtorEq] at h
  ·exact ⟨_,h,key (some _) _ (.inl ⟨rfl,rfl⟩),rfl⟩
  ·exact ⟨_,h,key (some _) _ (.inr ⟨rfl,rfl⟩),rfl⟩
 | ptr =>
  simp only [nilX] at h
  cases op <;> simp only [reduceCtorEq] at h
  ·exact ⟨_,h,key (some _) _ (.inl ⟨rfl,rfl⟩),rfl⟩
  ·exact ⟨_,h,key (some _) _ (.inr ⟨rfl,rfl⟩),rfl⟩
 | hptr =>
  simp only [nilX] at h
  cases op <;> simp only [reduceCtorEq] at h
  ·exact ⟨_,h,key (some _) _ (.inl ⟨rfl,rfl⟩),rfl⟩
  ·exact ⟨_,h,key (some _) _ (.inr ⟨rfl,rfl⟩),rfl⟩
 | @hval t' p v cs hp hr =>
  simp only [nilX] at h
  cases hu':E.P.underlying t' with
  | none=>rw [hu'] at h;cases h
  | some d =>
   rw [hu'] at h
   cases d with
   | pointer e' =>
    have hpk:=hp
    unfold Pack at hpk;rw [if_neg (by simp [isAggT,hu'])] at hpk
    cases hr with
    | nilp =>
     injection hpk with hpk;subst hpk
     cases op <;> simp only [reduceCtorEq] at h
     ·exact ⟨_,h,key none _ (.inl ⟨rfl,rfl⟩),rfl⟩
     ·exact ⟨_,h,key none _ (.inr ⟨rfl,rfl⟩),rfl⟩
    | ptr =>
     injection hpk with hpk;subst hpk
     cases op <;> simp only [reduceCtorEq] at h
     ·exact ⟨_,h,key (some _) _ (.inl ⟨rfl,rfl⟩),rfl⟩
     ·exact ⟨_,h,key (some _) _ (.inr ⟨rfl,rfl⟩),rfl⟩
    | leaf _ hf=>unfold refT at hf;rw [hu'] at hf;cases hf
    | nils _ h2=>rw [hu'] at h2;cases h2
    | sl _ h2=>rw [hu'] at h2;cases h2
    | struct h2=>rw [hu'] at h2;cases h2
    | arr h2=>rw [hu'] at h2;cases h2
   | _=>cases h
 | _=>cases h

theorem q_binOp (hR:Rel E.P Mo β st.T st.B a.tmps.toList w)(hk:Kp w0 F β st.B w){o:Oper}{op:BinOp}{t u:TypeId}{x y:Operand}(ho:o.op=.binOp op t x y u)(h:opQ0 E o st K=some r):QOk E w0 F Mo β o st K r a w:=by
 have hx:=get_sound hR t x
 have hy:=get_sound hR t y
 unfold opQ0 at h
 rw [ho] at h
 simp only at h
 generalize st.get E.P t x=sx at h hx
 generalize st.get E.P t y=sy at h hy
 generalize hv:a.eval x=v at hx
 generalize hvy:a.eval y=vy at hy
 have run:∀ {res:Value},(eqGuard op t x y v vy).run E.P w=.ok () w→(binOp op t v vy).run E.P w=.ok res w→(execOp a.eval o).run E.P w=.ok (.value res) w:=by
  intro res h1 h2
  unfold execOp;rw [ho]
  simp only [hv,hvy]
  rw [Sem.run_bind,Sem.run_bind,h1,Result.andThen_ok,h2];rfl
 unfold binX at h
 split at h
 ·rename_i k n k' n'
  cases hx with
  | int hw =>
   cases hy with
   | int hw' =>
    have hg:=eqGuard_plain (P:=E.P) (op:=op) (t:=t) (x:=x) (y:=y) (a:=.int k n) (b:=.int k' n') w rfl (.inl (by simp))
    split at h
    ·obtain ⟨h1,h⟩:=cond_some h
     have h1:=of_decide_eq_true h1
     refine QOk.val hR hk h (run hg (res:=.int k (k.wrap (n * 2 ^ (min n'.toNat k.bits)))) ?_) (.int (wf_wrap _ _))
     unfold binOp Op.shift
     simp only [if_neg (show ¬ n' < 0 by omega)];rfl
    ·obtain ⟨h1,h⟩:=cond_some h
     have h1:=of_decide_eq_true h1
     refine QOk.val hR hk h (run hg (res:=.int k (n.fdiv (2 ^ (min n'.toNat k.bits)))) ?_) (.int (fdiv_wf _ hw))
     unfold binOp Op.shift
     simp only [if_neg (show ¬ n' < 0 by omega)];rfl
    ·rename_i hs1 hs2
     obtain ⟨h1,h9⟩:=cond_some h
     clear h
     have h1:=of_decide_eq_true h1
     subst h1
     obtain ⟨s,v',g1,g2,g3⟩:=binI_sound (P:=E.P) (t:=t) ⟨fun e=>hs1 e,fun e=>hs2 e⟩ hw h9 w
     exact QOk.val hR hk g1 (run hg g2) (g3 _ _ _)
 ·rename_i b b'
  cases hx with
  | bool =>
   cases hy with
   | bool =>
    have hg:=eqGuard_plain (P:=E.P) (op:=op) (t:=t) (x:=x) (y:=y) (a:=.bool b) (b:=.bool b') w rfl (.inl (by simp))
    cases hu:E.P.underlying t with
    | none=>rw [hu] at h;cases h
    | some d =>
     rw [hu] at h
     cases d with
     | bool =>
      have he:=run_equalIn_bool (P:=E.P) w 9999 t b b' hu
      cases op <;> simp only [reduceCtorEq] at h
      ·refine QOk.val hR hk h (run hg (res:=.bool (b==b')) ?_) .bool
       unfold binOp
       simp only [Op.equal,Op.maxDepth,Sem.run_bind,he,Result.andThen_ok];rfl
      ·refine QOk.val hR hk h (run hg (res:=.bool (!(b==b'))) ?_) .bool
       unfold binOp
       simp only [Op.equal,Op.maxDepth,Sem.run_bind,he,Result.andThen_ok];rfl
     | _=>cases op <;> cases h
 ·rename_i l l'
  cases hx with
  | @str s hs =>
   cases hy with
   | @str s' hs' =>
    have hg:=eqGuard_plain (P:=E.P) (op:=op) (t:=t) (x:=x) (y:=y) (a:=.string s) (b:=.string s') w rfl (.inl (by simp))
    obtain ⟨s2,v',g1,g2,g3⟩:=binSt_sound (P:=E.P) (t:=t) hs hs' h w
    exact QOk.val hR hk g1 (run hg g2) (g3 _ _ _)
 ·rename_i t1 p t2 q
  generalize hpv:(SV.val t1 p).pvT E.P t=op1 at h
  generalize hqv:(SV.val t2 q).pvT E.P t=op2 at h
  generalize hck:(cmpOk E.P 20 t&&isAggT E.P t)=ck at h
  have main:∀ p' q',op1=some p'→op2=some q'→ck=true→(eqGuard op t x y v vy).run E.P w=.ok () w∧(Op.equal t v vy).run E.P w=.ok (PV.beq p' q') w∧(∃ c d,v=.agg c∧vy=.agg d):=by
   intro p' q' h1 h2 h3
   subst h1;subst h2;subst h3
   simp only [Bool.and_eq_true] at hck
   obtain ⟨cs,c1,c2⟩:=hx.pvT hpv
   obtain ⟨ds,d1,d2⟩:=hy.pvT hqv
   have he:=eq_sound 20 hck.1 c2 d2 c1 d1 9980
   unfold Pack at c1 d1;rw [if_pos hck.2] at c1 d1
   subst c1;subst d1
   refine ⟨?_,he,_,_,rfl,rfl⟩
   unfold eqGuard
   by_cases hop:op=.eql∨op=.neq
   ·have hd:20≤E.P.depth:=by unfold Program.depth Made.depth;omega
    rcases hop with hop|hop <;> subst hop <;>
     simp only [Bool.not_true,Bool.false_eq_true,if_false,Sem.run_bind,run_program,Result.andThen_ok,guard_none hck.1 _ hd,Bool.not_false,if_true,Sem.run_pure]
   ·cases op <;> first|rfl|(simp at hop;done)
  cases op <;> cases ck <;> cases op1 <;> cases op2 <;> first|(cases h;done)|skip
  ·obtain ⟨g1,g2,c,d,rfl,rfl⟩:=main _ _ rfl rfl rfl
   refine QOk.val hR hk h (run g1 (res:=.bool _) ?_) .bool
   unfold binOp
   simp only [Sem.run_bind,g2,Result.andThen_ok];rfl
  ·obtain ⟨g1,g2,c,d,rfl,rfl⟩:=main _ _ rfl rfl rfl
   refine QOk.val hR hk h (run g1 (res:=.bool _) ?_) .bool
   unfold binOp
   simp only [Sem.run_bind,g2,Result.andThen_ok];rfl
 ·rename_i t1 p
  obtain ⟨hc,h⟩:=cond_some h
  simp only [Bool.and_eq_true] at hc
  obtain ⟨hr,hs1,hs2⟩:=hc
  obtain ⟨e1,hu1⟩:∃ e,E.P.underlying t1=some (.slice e):=by
   unfold isSliceT at hs1
   split at hs1
   ·rename_i e' hu';exact ⟨e',hu'⟩
   ·cases hs1
  obtain ⟨e2,hu2⟩:∃ e,E.P.underlying t=some (.slice e):=by
   unfold isSliceT at hs2
   split at hs2
   ·rename_i e' hu';exact ⟨e',hu'⟩
   ·cases hs2
  have key:∀ (q:Option Addr)(n c:Nat)(b:Bool),(op=.eql∧b=q.isNone)∨(op=.neq∧b=!q.isNone)→(binOp op t (.slice q n c) (.slice none 0 0)).run E.P w=.ok (.bool b) w:=by
   rintro q n c b (⟨h1,h2⟩|⟨h1,h2⟩)
   ·subst h1;subst h2
    unfold binOp
    simp only [Op.equal,Op.maxDepth,Sem.run_bind]
    unfold Op.equalIn
    rw [Sem.run_bind,run_underlying hu2,Result.andThen_ok]
    cases q <;> rfl
   ·subst h1;subst h2
    unfold binOp
    simp only [Op.equal,Op.maxDepth,Sem.run_bind]
    unfold Op.equalIn
    rw [Sem.run_bind,run_underlying hu2,Result.andThen_ok]
    cases q <;> rfl
  cases hy with
  | nils =>
   cases hx with
   | @hval _ _ _ cs hp hrd =>
    unfold Pack at hp;rw [if_neg (by simp [isAggT,hu1])] at hp
    rcases hrd.slice_of hr hu1 with ⟨rfl,rfl⟩|⟨i,n,b,c,rfl,rfl,hG,h1,h2⟩
    ·injection hp with hp;subst hp
     cases op <;> simp only [reduceCtorEq] at h
     ·exact QOk.val hR hk h (run (eqGuard_plain w rfl (.inr (by simp))) (key none _ _ _ (.inl ⟨rfl,rfl⟩))) .bool
     ·exact QOk.val hR hk h (run (eqGuard_plain w rfl (.inr (by simp))) (key none _ _ _ (.inr ⟨rfl,rfl⟩))) .bool
    ·injection hp with hp;subst hp
     cases op <;> simp only [reduceCtorEq] at h
     ·exact QOk.val hR hk h (run (eqGuard_plain w rfl (.inr (by simp))) (key (some _) _ _ _ (.inl ⟨rfl,rfl⟩))) .bool
     ·exact QOk.val hR hk h (run (eqGuard_plain w rfl (.inr (by simp))) (key (some _) _ _ _ (.inr ⟨rfl,rfl⟩))) .bool
 ·cases hu:E.P.underlying t with
  | none=>rw [hu] at h;cases h
  | some d =>
   rw [hu] at h
   cases d with
   | pointer e =>
    cases hy with
    | nilp =>
     obtain ⟨b,g1,g2,g3⟩:=nilX_sound hu hx h
     exact QOk.val hR hk g1 (run (eqGuard_plain w g3 (.inr (by simp))) g2) .bool
   | _=>cases h
 ·cases h

end
end Go.X
namespace Go.X
open Go
section
variable {E : Env} {w0 : World} {F : Foot} {Mo : Nat → Prop} {st : St} {K : SV → Obs → Option Out} {r : Out} {a : Act} {w : World} {β : Beta}

theorem optInt_spec (hR:Rel E.P Mo β st.T st.B a.tmps.toList w){x:Option Operand}{l:Option Int}(h:optInt st E.P x=some l) :
  (x.map a.eval=none∧l=none)∨∃ k n,x.map a.eval=some (.int k n)∧l=some n:=by
 cases x with
 | none=>simp only [optInt] at h;injection h with h;exact .inl ⟨rfl,h.symm⟩
 | some y =>
  simp only [optInt] at h
  have hy:=get_sound hR 0 y
  generalize st.get E.P 0 y=s at h hy
  generalize hv:a.eval y=v at hy
  cases hy <;> simp only [SV.toInt,Option.map_some,Option.map_none,reduceCtorEq,Option.some.injEq] at h
  rename_i k n _
  refine .inr ⟨k,n,?_,h.symm⟩
  rw [Option.map_some,hv]

theorem bounds_spec {lo hi:Option Int}{len:Nat}{K:Nat→Nat→Option Out}(h:bounds lo hi len K=some r) :
  0≤lo.getD 0∧lo.getD 0≤hi.getD len∧hi.getD len≤len∧K (lo.getD 0).toNat (hi.getD len).toNat=some r:=by
 unfold bounds at h
 obtain ⟨h1,h2⟩:=cond_some h
 simp only [Bool.and_eq_true,decide_eq_true_eq] at h1
 exact ⟨h1.1.1,h1.1.2,h1.2,h2⟩

theorem run_sliceBounds {P:Program}{isSlice:Bool}{len cap:Nat}(hlc:len≤cap){lv hv:Option Value}{l h:Option Int}
  (hl:(lv=none∧l=none)∨∃ k n,lv=some (.int k n)∧l=some n)(hh:(hv=none∧h=none)∨∃ k n,hv=some (.int k n)∧h=some n)
  (b1:0≤l.getD 0)(b2:l.getD 0≤h.getD len)(b3:h.getD len≤len) :
  (Instr.sliceBounds isSlice len cap lv hv none).run P w=.ok ((l.getD 0).toNat,(h.getD len).toNat,cap) w:=by
 unfold Instr.sliceBounds
 rcases hl with ⟨rfl,rfl⟩|⟨k,n,rfl,rfl⟩ <;> rcases hh with ⟨rfl,rfl⟩|⟨k',n',rfl,rfl⟩
 ·simp [Option.getD]
 ·simp only [Option.getD_some,Option.getD_none] at *
  simp only [Instr.sliceBound,asIntOf,pure_bind]
  rw [if_pos (show 0≤n'∧n'≤(cap:Int) by omega)]
  simp
 ·simp only [Option.getD_some,Option.getD_none] at *
  simp only [Instr.sliceBound,asIntOf,pure_bind]
  rw [if_pos (show 0≤n∧n≤(len:Int) by omega)]
  simp
 ·simp only [Option.getD_some] at *
  simp only [Instr.sliceBound,asIntOf,pure_bind]
  rw [if_pos (show 0≤n'∧n'≤(cap:Int) by omega)]
  simp only [pure_bind]
  rw [if_pos (show 0≤n∧n≤((n'.toNat:Nat):Int) by omega)]
  simp

theorem chars_extract (s:ByteArray)(l h:Nat):chars (s.extract l h)=((chars s).take h).drop l:=by
 unfold chars
 rw [show (s.extract l h).data.toList=(s.data.toList.take h).drop l by simp [ByteArray.data_extract,List.extract_eq_take_drop,List.drop_take]]
 rw [List.map_drop,List.map_take]

theorem q_slice (hR:Rel E.P Mo β st.T st.B a.tmps.toList w)(hk:Kp w0 F β st.B w){o:Oper}{t:TypeId}{x:Operand}{lo hi:Option Operand}(ho:o.op=.slice t x lo hi none)(h:opQ0 E o st K=some r):QOk E w0 F Mo β o st K r a w:=by
 have hx:=get_sound hR o.type x
 unfold opQ0 at h
 rw [ho] at h
 simp only at h
 generalize st.get E.P o.type x=sx at h hx
 generalize hv:a.eval x=v at hx
 cases hu:E.P.underlying t with
 | none=>rw [hu] at h;cases h
 | some d =>
  rw [hu] at h
  cases hlo:optInt st E.P lo with
  | none=>rw [hlo] at h;cases d <;> cases h
  | some l =>
   cases hhi:optInt st E.P hi with
   | none=>rw [hlo,hhi] at h;cases d <;> cases h
   | some hh =>
    rw [hlo,hhi] at h
    have sl:=optInt_spec hR hlo
    have sh:=optInt_spec hR hhi
    cases d with
    | string =>
     simp only at h
     cases hx with
     | @str s hs =>
      simp only at h
      obtain ⟨b1,b2,b3,h⟩:=bounds_spec h
      rw [chars_len] at b2 b3 h
      rw [←chars_extract] at h
      refine QOk.val hR hk h (v:=.string (s.extract (l.getD 0).toNat (hh.getD s.size).toNat)) ?_ (.str ?_)
      ·unfold execOp;rw [ho]
       simp only [hv,Instr.sliceAt,Option.map_none]
       rw [Sem.run_bind,Sem.run_bind,run_underlying hu,Result.andThen_ok]
       simp only [Instr.slice]
       rw [Sem.run_bind,run_underlying hu,Result.andThen_ok]
       simp only [Option.isSome_none,Bool.false_eq_true,if_false]
       rw [Sem.run_bind]
       rw [run_sliceBounds (Nat.le_refl _) sl sh b1 b2 b3,Result.andThen_ok];rfl
      ·rw [ByteArray.size_extract];omega
     | _=>cases h
    | slice e =>
     simp only at h
     cases hx with
     | @val u p v cs hp hr =>
      simp only at h
      obtain ⟨hc,h9⟩:=cond_some h
      clear h
      simp only [Bool.and_eq_true,beq_iff_eq] at hc
      obtain ⟨hut,hdesc⟩:=hc
      subst hut
      obtain ⟨de,hde⟩:=Option.isSome_iff_exists.1 hdesc
      obtain ⟨b1,b2,b3,h⟩:=bounds_spec h9
      cases hr with
      | nilSlice hu' =>
       rw [pack_one hp (by simp [isAggT,hu'])] at hv
       simp only [PV.els,List.take_nil,List.drop_nil] at h
       simp only [PV.els,List.length_nil] at b1 b2 b3
       refine QOk.val hR hk h (v:=.slice none 0 0) ?_ (.val (pack1 (by simp [isAggT,hu'])) (.nilSlice hu'))
       unfold execOp;rw [ho]
       simp only [hv,Instr.sliceAt,Option.map_none]
       rw [Sem.run_bind,Sem.run_bind,run_underlying hu,Result.andThen_ok]
       simp only [Instr.slice]
       rw [Sem.run_bind,run_underlying hu,Result.andThen_ok]
       simp only
       rw [Sem.run_bind,run_sliceBounds (Nat.le_refl _) sl sh b1 b2 b3,Result.andThen_ok]
       simp only
       rw [Sem.run_bind,run_sizeT hde,Result.andThen_ok]
       have e1:(l.getD 0).toNat=0:=by omega
       have e2:(hh.getD ((0:Nat):Int)).toNat=0:=by omega
       rw [e1,e2];rfl
      | @slice _ e' ad n c l' cs' hu' h1 h2 h3 h4 h5 =>
       rw [hu] at hu';injection hu' with hu';injection hu' with hu';subst hu'
       rw [pack_one hp (by simp [isAggT,hu])] at hv
       simp only [PV.els] at h b1 b2 b3
       rw [h1] at h b2 b3
       refine QOk.val hR hk h (v:=.slice (some (if c=(l.getD 0).toNat then ad else ad.add ((l.getD 0).toNat * E.P.cellsOf e))) ((hh.getD n).toNat - (l.getD 0).toNat) (c - (l.getD 0).toNat)) ?_ ?_
       ·unfold execOp;rw [ho]
        simp only [hv,Instr.sliceAt,Option.map_none]
        rw [Sem.run_bind,Sem.run_bind,run_underlying hu,Result.andThen_ok]
        simp only [Instr.slice]
        rw [Sem.run_bind,run_underlying hu,Result.andThen_ok]
        simp only
        rw [Sem.run_bind,run_sliceBounds h2 sl sh b1 b2 b3,Result.andThen_ok]
        simp only
        rw [Sem.run_bind,run_sizeT hde,Result.andThen_ok]
        split <;> rfl
       ·refine .val (pack1 (by simp [isAggT,hu])) (.slice (cs:=fun i=>cs' ((l.getD 0).toNat+i)) hu ?_ (by omega) (by omega) (fun i hi=>?_) (fun i p hp'=>?_))
        ·rw [List.length_drop,List.length_take,h1];omega
        ·have:=h4 ((l.getD 0).toNat+i) (by omega)
         refine ⟨this.1,?_⟩
         rw [if_neg (by omega),add_add,←Nat.add_mul]
         exact this.2
        ·rw [List.getElem?_drop] at hp'
         have hlt:=get_lt hp'
         rw [List.length_take] at hlt
         rw [List.getElem?_take_of_lt (by omega)] at hp'
         exact h5 _ _ hp'
      | int hu'=>rw [hu] at hu';cases hu'
      | bool hu'=>rw [hu] at hu';cases hu'
      | str hu'=>rw [hu] at hu';cases hu'
      | flt hu'=>rw [hu] at hu';cases hu'
      | nilPtr hu'=>rw [hu] at hu';cases hu'
      | ref hu'=>rw [hu] at hu';cases hu'
      | nilIface hu'=>rw [hu] at hu';cases hu'
      | struct hu'=>rw [hu] at hu';cases hu'
      | arr hu'=>rw [hu] at hu';cases hu'
     | @hval u p v cs hp hrd =>
      simp only at h
      obtain ⟨hc,h9⟩:=cond_some h
      clear h
      simp only [Bool.and_eq_true,beq_iff_eq,decide_eq_true_eq] at hc
      obtain ⟨⟨⟨⟨⟨rfl,hrs⟩,hrt⟩,hce⟩,hhn⟩,hdesc⟩:=hc
      obtain ⟨de,hde⟩:=Option.isSome_iff_exists.1 hdesc
      obtain ⟨b1,b2,b3,h⟩:=bounds_spec h9
      rcases hrd.slice_of hrt hu with ⟨rfl,_⟩|⟨i,n,b,c,rfl,rfl,hG,h1,h2⟩
      ·cases hrs
      obtain rfl:hh=none:=by simpa using hhn
      unfold Pack at hp;rw [if_neg (by simp [isAggT,hu])] at hp;injection hp with hp;subst hp
      simp only [PV.rN,PV.rI,Option.getD_none] at h b1 b2 b3
      refine QOk.val hR hk h (v:=.slice (some ⟨b,if c=(l.getD 0).toNat then 0 else (l.getD 0).toNat,none⟩) (n - (l.getD 0).toNat) (c - (l.getD 0).toNat)) ?_ (.hsub hrt hu hce hG (by omega) h1 h2)
      unfold execOp;rw [ho]
      simp only [hv,Instr.sliceAt,Option.map_none]
      rw [Sem.run_bind,Sem.run_bind,run_underlying hu,Result.andThen_ok]
      simp only [Instr.slice]
      rw [Sem.run_bind,run_underlying hu,Result.andThen_ok]
      simp only
      rw [Sem.run_bind,run_sliceBounds h1 sl sh b1 b2 b3,Result.andThen_ok]
      simp only
      rw [Sem.run_bind,run_sizeT hde,Result.andThen_ok,hce]
      simp only [Option.getD_none,Int.toNat_natCast,Nat.mul_one]
      split <;> simp [Addr.add] <;> omega
     | _=>cases h
    | _=>cases h

theorem i64_wf {n:Nat}(h:n≤maxLen):(Lit.int .i64 n).wf=true:=by
 unfold maxLen at h
 simp only [Lit.wf,Bool.and_eq_true,decide_eq_true_eq]
 have h1:IntKind.i64.min=-9223372036854775808:=rfl
 have h2:IntKind.i64.max=9223372036854775807:=rfl
 rw [h1,h2];omega

theorem run_len {P:Program}{dT ty:TypeId}{v:Value}{n:Nat}{d:TypeDesc}(hu:P.underlying dT=some d)
  (h:(d=.string∧∃ s:ByteArray,v=.string s∧s.size=n)∨(∃ e a c,d=.slice e∧v=.slice a n c))(argTypes:Array TypeId)(h0:argTypes[0]?=some dT) :
  (Builtin.len_ argTypes ty #[v]).run P w=.ok (.int .i64 n) w:=by
 unfold Builtin.len_
 simp only [h0,show (#[v]:Array Value)[0]?=some v from rfl]
 rw [Sem.run_bind,run_underlying hu,Result.andThen_ok]
 rcases h with ⟨rfl,s,rfl,rfl⟩|⟨e,ad,c,rfl,rfl⟩ <;> rfl

theorem q_len (hR:Rel E.P Mo β st.T st.B a.tmps.toList w)(hk:Kp w0 F β st.B w){o:Oper}{args:Array Operand}{argTypes:Array TypeId}(ho:o.op=.call { callee:=.builtin .len,args,argTypes })(h:opQ0 E o st K=some r) :
  QOk E w0 F Mo β o st K r a w:=by
 unfold opQ0 at h
 rw [ho] at h
 simp only at h
 cases hal:args.toList with
 | nil=>rw [hal] at h;cases h
 | cons x rest =>
  cases rest with
  | cons=>rw [hal] at h;cases h
  | nil =>
   rw [hal] at h
   simp only [List.map_cons,List.map_nil] at h
   have hargs:args=#[x]:=by apply Array.ext';rw [hal]
   subst hargs
   have hx:=get_sound hR o.type x
   generalize st.get E.P o.type x=sx at h hx
   generalize hv:a.eval x=v at hx
   cases ht:argTypes[0]? with
   | none=>rw [ht] at h;cases h
   | some t =>
    rw [ht] at h
    simp only at h
    have hrun:∀ (n:Nat)(d:TypeDesc),E.P.underlying t=some d→((d=.string∧∃ s:ByteArray,v=.string s∧s.size=n)∨(∃ e a c,d=.slice e∧v=.slice a n c)) →
      (execOp a.eval o).run E.P w=.ok (.value (.int .i64 n)) w:=by
     intro n d hu hd
     unfold execOp;rw [ho]
     simp only [resolve,pure_bind,invoke,builtin]
     rw [Sem.run_bind,show (Array.map a.eval #[x])=#[v] by simp [hv],run_len hu hd argTypes ht];rfl
    cases hu:E.P.underlying t with
    | none=>rw [hu] at h;cases h
    | some d =>
     rw [hu] at h
     cases d with
     | string =>
      cases hx with
      | @str s hs =>
       simp only at h
       rw [chars_len] at h
       exact QOk.val hR hk h (hrun _ _ hu (.inl ⟨rfl,s,rfl,rfl⟩)) (.int (i64_wf hs))
      | _=>cases h
     | slice e =>
      by_cases hhv:∃ u p,sx=.hval u p
      ·obtain ⟨u,p,rfl⟩:=hhv
       simp only at h
       obtain ⟨hr,h⟩:=cond_some h
       rw [Bool.and_eq_true] at hr
       obtain ⟨hr,hsl⟩:=hr
       cases hx with
       | @hval _ _ _ cs hp hrd =>
        have hus:∃ e',E.P.underlying u=some (.slice e'):=by
         unfold isSliceT at hsl
         split at hsl
         ·rename_i e' hu';exact ⟨e',hu'⟩
         ·cases hsl
        obtain ⟨e',hu'⟩:=hus
        rcases hrd.slice_of hr hu' with ⟨rfl,rfl⟩|⟨i,n,b,c,rfl,rfl,hG,h1,h2⟩
        ·unfold Pack at hp;rw [if_neg (by simp [isAggT,hu'])] at hp;injection hp with hp
         subst hp
         exact QOk.val hR hk h (hrun 0 _ hu (.inr ⟨e,none,0,rfl,rfl⟩)) (.int (by decide))
        ·unfold Pack at hp;rw [if_neg (by simp [isAggT,hu'])] at hp;injection hp with hp
         subst hp
         exact QOk.val hR hk h (hrun n _ hu (.inr ⟨e,_,c,rfl,rfl⟩)) (.int (i64_wf (Nat.le_trans h1 h2)))
      replace h:(match st.elems E.P e sx with|some l=>K (.int .i64 l.length) []|none=>none)=some r:=by
       revert h
       cases sx <;> first
        | exact id
        | exact absurd ⟨_,_,rfl⟩ hhv
      cases he:st.elems E.P e sx with
      | none=>rw [he] at h;cases h
      | some l =>
       rw [he] at h
       rcases elems_sound hR hx he with ⟨h1,h2⟩|⟨ad,c,cs,h1,h2,h3,_⟩
       ·subst h2
        exact QOk.val hR hk h (hrun 0 _ hu (.inr ⟨e,none,0,rfl,h1⟩)) (.int (i64_wf (by simp)))
       ·exact QOk.val hR hk h (hrun _ _ hu (.inr ⟨e,some ad,c,rfl,h1⟩)) (.int (i64_wf (by omega)))
     | _=>cases h

theorem q_minmax (hR:Rel E.P Mo β st.T st.B a.tmps.toList w)(hk:Kp w0 F β st.B w){o:Oper}{args:Array Operand}{argTypes:Array TypeId}{b:Builtin}(hb:b=.min∨b=.max)
  (ho:o.op=.call { callee:=.builtin b,args,argTypes })(h:opQ0 E o st K=some r):QOk E w0 F Mo β o st K r a w:=by
 unfold opQ0 at h
 rw [ho] at h
 cases hal:args.toList with
 | nil=>rcases hb with rfl|rfl <;> (simp only [hal] at h;cases h)
 | cons x rest =>
  cases rest with
  | nil=>rcases hb with rfl|rfl <;> (simp only [hal,List.map_cons,List.map_nil] at h;cases h)
  | cons y rest =>
   cases rest with
   | cons=>rcases hb with rfl|rfl <;> (simp only [hal,List.map_cons] at h;cases h)
   | nil =>
    have hargs:args=#[x,y]:=by apply Array.ext';rw [hal]
    subst hargs
    have hx:=get_sound hR o.type x
    have hy:=get_sound hR o.type y
    rcases hb with rfl|rfl
    all_goals
     simp only [List.map_cons,List.map_nil] at h
     generalize st.get E.P o.type x=sx at h hx
     generalize st.get E.P o.type y=sy at h hy
     generalize hv:a.eval x=v at hx
     generalize hvy:a.eval y=vy at hy
     cases hx with
     | @int k n hw =>
      cases hy with
      | @int k' n' hw' =>
       simp only at h
       obtain ⟨h1,h9⟩:=cond_some h
       clear h
       have h1:=of_decide_eq_true h1
       subst h1
       refine QOk.val hR hk h9 ?_ (.int (by split <;> assumption))
       unfold execOp;rw [ho]
       simp only [resolve,pure_bind,invoke,builtin]
       rw [show (Array.map a.eval #[x,y])=#[.int k n,.int k n'] by simp [hv,hvy]]
       rfl
      | _=>cases h
     | _=>cases h

end
end Go.X
namespace Go.X
open Go
section
variable {E : Env} {w0 : World} {F : Foot} {Mo : Nat → Prop} {st : St} {K : SV → Obs → Option Out} {r : Out} {a : Act} {w : World} {β : Beta}

theorem retire_id {st:St}{d:Nat}(h:Obs.get st.B d=none):st.retire d=st:=by
 by_cases hd:d < HL
 ·rw [retire_lo hd,h]
 ·exact retire_hi hd

theorem QOk.lay {o:Oper}{s:SV}{d:Nat}{ob:Ob}{x:Option (Nat × Nat)}{v:Value}{w':World}(hR:Rel E.P Mo β st.T st.B a.tmps.toList w)(hk:Kp w0 F β st.B w)(hd:Obs.get st.B d=none)(hlo:d < lowB)
  (hK:K s [(d,ob)]=some r)(hrun:(execOp a.eval o).run E.P w=.ok (.value v) w')
  (hsz:w.heap.size≤w'.heap.size)(hold:∀ b,b < w.heap.size→w'.heap[b]?=w.heap[b]?)(hx:∀ b c,x=some (b,c)→w.heap.size≤b∧b < w'.heap.size)
  (hos:w'.os=w.os)(hout:w'.output=w.output)
  (hro:Same E.P w (Mut Mo β st.B) β st.B w' (Mut Mo (β.at d x) (Obs.ins d ob st.B)) (β.at d x) (Obs.ins d ob st.B)→RO E.P w' (Mut Mo (β.at d x) (Obs.ins d ob st.B)) (β.at d x) (Obs.ins d ob st.B) d ob)
  (hs:RS E.P w' (Mut Mo (β.at d x) (Obs.ins d ob st.B)) (β.at d x) (Obs.ins d ob st.B) s v):QOk E w0 F Mo β o st K r a w:=by
 refine ⟨s,_,hK,.inr ⟨by simp,fun next Q hn=>?_⟩⟩
 unfold Oper.wp
 rw [hrun,Oper.upon_value]
 have hB:(st.lay [(d,ob)]).B=Obs.ins d ob st.B:=by rw [lay_one st (lowHL hlo),retire_id hd]
 obtain ⟨g1,g2⟩:=Post.lay1 hR hk d hlo ob hsz hold hx hos hout (fun hsame=>by
  rw [hB] at hsame ⊢
  rw [retire_id hd] at hsame
  exact hro hsame)
 exact hn _ _ ⟨_,g1,g2,by rw [hB];exact hs⟩

theorem at_self (β:Beta)(d:Nat)(x:Option (Nat × Nat)):β.at d x d=x:=by unfold Beta.at;rw [if_pos rfl]
theorem ins_self {d:Nat}(hd:d < HL)(ob:Ob)(B:Obs):Obs.get (Obs.ins d ob B) d=some ob:=by rw [Obs.get_ins hd,if_pos rfl]

theorem push_old {w:World}{o:Obj}{b:Nat}(hb:b < w.heap.size):(w.heap.push o)[b]?=w.heap[b]?:=by
 rw [Array.getElem?_push_lt hb,Array.getElem?_eq_getElem hb]
theorem push_new {w:World}{o:Obj}:(w.heap.push o)[w.heap.size]?=some o:=by simp

theorem q_newBox (hR:Rel E.P Mo β st.T st.B a.tmps.toList w)(hk:Kp w0 F β st.B w){o:Oper}{t:TypeId}{d:Nat}{s:SV}{v:Value}{cs:List Value}(hd:Obs.get st.B d=none)(hlo:d < lowB)(ht:t < E.P.types.size)
  (hp:Pack E.P t v cs)(hl:cs.length=E.P.cellsOf t)(h1:∀ c ∈ cs,c.oneCell'=true)(hs:RS E.P w (Mut Mo β st.B) β st.B s v)(hT:s.isT E.P t)
  (hK:K (.ptr d []) [(d,.box t s)]=some r)(hrun:(execOp a.eval o).run E.P w=.ok (.value (.pointer (some ⟨w.heap.size,0,none⟩))) { w with heap:=w.heap.push (.cells v.cells t (0,0)) }) :
  QOk E w0 F Mo β o st K r a w:=by
 have hc:v.cells=cs.toArray:=by apply Array.ext';rw [hp.cells h1]
 rw [hc] at hrun
 refine QOk.lay (x:=some (w.heap.size,0)) hR hk hd hlo hK hrun (by simp) (fun b hb=>push_old hb) (fun b c hx=>?_) rfl rfl (fun hsame=>?_) ?_
 ·injection hx with hx;injection hx with h2 h3;subst h2;exact ⟨Nat.le_refl _,by simp⟩
 ·exact ⟨w.heap.size,0,cs,v,(0,0),at_self _ _ _,push_new,fun o _=>by omega,hl,h1,hp,hs.mono hsame,hT,ht⟩
 ·exact .ptr (ob:=.box t s) (ins_self (lowHL hlo) _ _) (at_self _ _ _) rfl

theorem run_newVar (P:Program)(t:TypeId)(v:Value)(w:World):(newVar t v).run P w=.ok ⟨w.heap.size,0,none⟩ { w with heap:=w.heap.push (.cells v.cells t (0,0)) }:=by
 unfold newVar newRow
 rw [Sem.run_bind,run_newObj,Result.andThen_ok];rfl

theorem RS.cellsOf (hL:laidOutB E.P=true){M:Nat→Prop}{B:Obs}{s:SV}{v:Value}{t:TypeId}(ht:t < E.P.types.size){p:PV}(hs:RS E.P w M β B s v)(hp:s.pvT E.P t=some p) :
  ∃ cs,Pack E.P t v cs∧cs.length=E.P.cellsOf t∧(∀ c ∈ cs,c.oneCell'=true)∧Rd E.P w M t p cs:=by
 obtain ⟨cs,h1,h2⟩:=hs.pvT hp
 exact ⟨cs,h1,h2.size hL ht,h2.one hL,h2⟩

theorem isT_ofPV {P:Program}{w:World}{M:Nat→Prop}{t:TypeId}{p:PV}{cs:List Value}(h:Rd P w M t p cs):(ofPV P t p).isT P t:=by
 refine .inl ?_
 unfold ofPV
 cases h with
 | int hu=>simp [hu,SV.pvT,PV.num]
 | bool hu=>simp [hu,SV.pvT,PV.tt]
 | str hu=>simp [hu,SV.pvT,PV.chars]
 | flt hu=>simp [hu,SV.pvT,PV.fbits]
 | nilSlice hu=>simp [hu,SV.pvT]
 | slice hu=>simp [hu,SV.pvT]
 | nilPtr hu=>simp [hu,SV.pvT]
 | ref hu=>simp [hu,SV.pvT]
 | nilIface hu=>simp [hu,SV.pvT]
 | struct hu=>simp [hu,SV.pvT]
 | arr hu=>simp [hu,SV.pvT]

theorem q_box (hL:laidOutB E.P=true)(hR:Rel E.P Mo β st.T st.B a.tmps.toList w)(hk:Kp w0 F β st.B w){o:Oper}{t:TypeId}{x:Operand}(ho:o.op=.box t x)(hd:Obs.get st.B (o.dst.getD 0)=none)(hlo:o.dst.getD 0 < lowB)(h:opQ0 E o st K=some r) :
  QOk E w0 F Mo β o st K r a w:=by
 have hx:=get_sound hR t x
 unfold opQ0 at h
 rw [ho] at h
 simp only at h
 obtain ⟨ht,h⟩:=cond_none h
 have ht:t < E.P.types.size:=by simpa using ht
 generalize o.dst.getD 0=d at h hd hlo
 generalize st.get E.P t x=sx at h hx
 generalize hv:a.eval x=v at hx
 have hrun:(execOp a.eval o).run E.P w=.ok (.value (.pointer (some ⟨w.heap.size,0,none⟩))) { w with heap:=w.heap.push (.cells v.cells t (0,0)) }:=by
  unfold execOp;rw [ho]
  simp only [hv,Instr.box]
  rw [Sem.run_bind,Sem.run_bind,run_newVar];rfl
 have data:∀ p,sx.pvT E.P t=some p→K (.ptr d []) [(d,.box t (ofPV E.P t p))]=some r→QOk E w0 F Mo β o st K r a w:=by
  intro p hp hK
  obtain ⟨cs,c1,c2,c3,c4⟩:=RS.cellsOf hL ht hx hp
  exact q_newBox hR hk hd hlo ht c1 c2 c3 (RS.ofPV c1 c4) (isT_ofPV c4) hK hrun
 by_cases hh:(∃ u e,sx=.own u e)∨(∃ e q,sx=.ptr e q)∨∃ f l,sx=.fn f l
 ·rcases hh with ⟨u,e,rfl⟩|⟨e,q,rfl⟩|⟨f,l,rfl⟩
  ·simp only at h
   obtain ⟨h1,h⟩:=cond_some h
   have h1:u=t:=by simpa using h1
   subst h1
   have hx':=hx
   cases hx with
   | own hu =>
    have ha:isAggT E.P u=false:=by simp [isAggT,hu]
    exact q_newBox hR hk hd hlo ht (pack1 ha) (by rw [cells1 hL ht (by rw [hu];rfl) ha];rfl) (fun c hc=>by simp at hc;subst hc;rfl) hx' (.inr (.inl (by simp [SV.isHandle]))) h hrun
   | ownNil hu =>
    have ha:isAggT E.P u=false:=by simp [isAggT,hu]
    exact q_newBox hR hk hd hlo ht (pack1 ha) (by rw [cells1 hL ht (by rw [hu];rfl) ha];rfl) (fun c hc=>by simp at hc;subst hc;rfl) hx' (.inr (.inl (by simp [SV.isHandle]))) h hrun
  ·simp only at h
   cases hu:E.P.underlying t with
   | none=>rw [hu] at h;cases h
   | some dd =>
    rw [hu] at h
    cases dd with
    | pointer el =>
     have ha:isAggT E.P t=false:=by simp [isAggT,hu]
     have hx':=hx
     cases hx with
     | ptr=>exact q_newBox hR hk hd hlo ht (pack1 ha) (by rw [cells1 hL ht (by rw [hu];rfl) ha];rfl) (fun c hc=>by simp at hc;subst hc;rfl) hx' (.inr (.inl (by simp [SV.isHandle,hu]))) h hrun
    | _=>cases h
  ·simp only at h
   cases hu:E.P.underlying t with
   | none=>rw [hu] at h;cases h
   | some dd =>
    rw [hu] at h
    cases dd with
    | func p1 p2 p3 =>
     have ha:isAggT E.P t=false:=by simp [isAggT,hu]
     have hx':=hx
     cases hx with
     | fn=>exact q_newBox hR hk hd hlo ht (pack1 ha) (by rw [cells1 hL ht (by rw [hu];rfl) ha];rfl) (fun c hc=>by simp at hc;subst hc;rfl) hx' (.inr (.inl (by simp [SV.isHandle,hu]))) h hrun
    | _=>cases h
 ·have h2:(match sx.pvT E.P t with|some p=>K (.ptr d []) [(d,.box t (ofPV E.P t p))]|none=>none)=some r:=by
   revert h
   cases sx <;> first
    | exact id
    | exact absurd (.inl ⟨_,_,rfl⟩) hh
    | exact absurd (.inr (.inl ⟨_,_,rfl⟩)) hh
    | exact absurd (.inr (.inr ⟨_,_,rfl⟩)) hh
  cases hp:sx.pvT E.P t with
  | none=>rw [hp] at h2;cases h2
  | some p=>rw [hp] at h2;exact data p hp h2

theorem zeroPV_spec {P:Program}{t:TypeId}{p:PV}(h:zeroPV P t=some p):∃ z cs,(∀ w,(zeroValue t).run P w=.ok z w)∧Pack P t z cs∧pvC P 10 t cs=some p∧z.cells=cs.toArray:=by
 unfold zeroPV at h
 cases hi:P.info? t with
 | none=>rw [hi] at h;cases h
 | some i =>
  rw [hi] at h
  simp only [Option.bind_some] at h
  have hrun:∀ z,i.zero=some z→∀ w,(zeroValue t).run P w=.ok z w:=by
   intro z hz w
   unfold zeroValue typeInfo
   simp only [Sem.run_bind,run_program,Result.andThen_ok,hi,Sem.run_pure,hz]
  cases hz:i.zero with
  | none=>rw [hz] at h;cases h
  | some z =>
   rw [hz] at h
   by_cases hag:∃ cs,z=.agg cs
   ·obtain ⟨cs,rfl⟩:=hag
    simp only at h
    obtain ⟨ha,h⟩:=cond_some h
    exact ⟨_,cs.toList,hrun _ hz,by simp [Pack,ha],h,rfl⟩
   ·have h2:(bif isAggT P t then none else pvC P 10 t [z])=some p:=by
     revert h
     cases z <;> first
      | exact id
      | exact absurd ⟨_,rfl⟩ hag
    obtain ⟨ha,h2⟩:=cond_none h2
    refine ⟨_,[z],hrun _ hz,by simp [Pack,ha],h2,?_⟩
    have hr:Rd P default (fun _=>True) t p [z]:=pvC_sound 10 h2
    obtain ⟨v,hv,_,h3⟩:=hr.len ha
    injection hv with hv
    subst hv;exact h3

theorem zeroDead_spec {P:Program}{t:TypeId}(h:zeroDead P t=true):∃ z,(∀ w,(zeroValue t).run P w=.ok z w)∧isAggT P t=false∧kindOk (P.underlying t)=true∧z.oneCell'=true∧z.cells=#[z]:=by
 have hrun:∀ z,(P.info? t).bind (·.zero)=some z→∀ w,(zeroValue t).run P w=.ok z w:=by
  intro z hz w
  cases hi:P.info? t with
  | none=>rw [hi] at hz;cases hz
  | some i =>
   rw [hi] at hz
   simp only [Option.bind_some] at hz
   unfold zeroValue typeInfo
   simp only [Sem.run_bind,run_program,Result.andThen_ok,hi,Sem.run_pure,hz]
 unfold zeroDead at h
 split at h
 ·rename_i hu hz
  exact ⟨_,hrun _ hz,by simp [isAggT,hu],by rw [hu];rfl,rfl,rfl⟩
 ·rename_i hu hz
  exact ⟨_,hrun _ hz,by simp [isAggT,hu],by rw [hu];rfl,rfl,rfl⟩
 ·cases h

theorem lay_rows (hL:laidOutB E.P=true){vs:List Value}:∀ (os:Obs)(st:St) (β:Beta),Rel E.P Mo β st.T st.B vs w→Kp w0 F β st.B w→(os.map (·.1)).Nodup→(∀ x ∈ os,x.1 < lowB∧Obs.get st.B x.1=none∧∃ e,x.2=.row e []∧e < E.P.types.size) →
  ∃ β',Rel E.P Mo β' (st.lay os).T (st.lay os).B vs w∧Kp w0 F β' (st.lay os).B w∧(∀ x ∈ os,Obs.get (st.lay os).B x.1=some x.2∧β' x.1=none) ∧
   (∀ e,e ∉ os.map (·.1)→Obs.get (st.lay os).B e=Obs.get st.B e∧β' e=β e)
 | [],st,β,hR,hk,_,_=>⟨β,hR,hk,fun x hx=>by simp at hx,fun e _=>⟨rfl,rfl⟩⟩
 | (d,o) :: os,st,β,hR,hk,hn,ho=>by
  obtain ⟨hlo,hd,e,he,hz⟩:=ho (d,o) (by simp)
  simp only at hd he hlo
  subst he
  rw [List.map_cons] at hn
  have hn':=List.nodup_cons.1 hn
  obtain ⟨g1,g2⟩:=Post.lay1 hR hk d hlo (.row e []) (x:=none) (w':=w) (Nat.le_refl _) (fun _ _=>rfl) (fun b c hb=>by cases hb) rfl rfl (fun _=>⟨hz,.inl ⟨at_self _ _ _,rfl⟩⟩)
  have hget:∀ y,Obs.get (st.lay [(d,.row e [])]).B y=if d=y then some (.row e []) else Obs.get st.B y:=by
   intro y
   rw [lay_one st (lowHL hlo)]
   show Obs.get (Obs.ins d (.row e []) (st.retire d).B) y=_
   rw [Obs.get_ins (lowHL hlo),retire_id hd]
  obtain ⟨β',k1,k2,k3,k4⟩:=lay_rows hL os (st.lay [(d,.row e [])]) (β.at d none) g1 g2 hn'.2 (fun x hx=>by
   obtain ⟨h0,h1,h2⟩:=ho x (by simp [hx])
   refine ⟨h0,?_,h2⟩
   rw [hget,if_neg,h1]
   intro hdx
   exact hn'.1 (by rw [hdx];exact List.mem_map.2 ⟨x,hx,rfl⟩))
  rw [lay_cons]
  refine ⟨β',k1,k2,fun x hx=>?_,fun y hy=>?_⟩
  ·rcases List.mem_cons.1 hx with h|h
   ·subst h
    obtain ⟨h1,h2⟩:=k4 d hn'.1
    exact ⟨by show Obs.get ((st.lay [(d,.row e [])]).lay os).B d=_;rw [h1,hget,if_pos rfl],by rw [h2,at_self]⟩
   ·exact k3 x h
  ·have hy':d≠y∧y ∉ os.map (·.1):=by
    simp only [List.map_cons,List.mem_cons,not_or] at hy
    exact ⟨fun h=>hy.1 h.symm,hy.2⟩
   obtain ⟨h1,h2⟩:=k4 y hy'.2
   refine ⟨by show Obs.get ((st.lay [(d,.row e [])]).lay os).B y=_;rw [h1,hget,if_neg hy'.1],?_⟩
   rw [h2];unfold Beta.at;rw [if_neg hy'.1]

theorem zeroRows_spec (d:Nat):∀ (i:Nat)(fs:List Field),rowsOk E d i fs=true→((zeroRows E d i fs).map (·.1)).Nodup ∧
  (∀ x ∈ zeroRows E d i fs,((d+1) * 1000+i≤x.1∧x.1 < (d+1) * 1000+i+fs.length)∧∃ e,x.2=.row e []∧e < E.P.types.size) ∧
  (∀ k f,fs[k]?=some f→E.fldOwn d (i+k)=true→∃ e,E.P.underlying f.type=some (.slice e)∧((d+1) * 1000+(i+k),.row e []) ∈ zeroRows E d i fs)
 | i,[],_=>⟨by simp [zeroRows],fun x hx=>by simp [zeroRows] at hx,fun k f hk=>by simp at hk⟩
 | i,f :: fs,h=>by
  simp only [rowsOk,Bool.and_eq_true] at h
  obtain ⟨g1,g2,g3⟩:=zeroRows_spec d (i+1) fs h.2
  by_cases ho:E.fldOwn d i=true
  ·have hz:zeroRows E d i (f :: fs)=((d+1) * 1000+i,.row (elemOf E.P f.type) []) :: zeroRows E d (i+1) fs:=by simp [zeroRows,ho]
   have h1:=h.1
   rw [ho] at h1
   cases hu:E.P.underlying f.type with
   | none=>rw [hu] at h1;cases h1
   | some dd =>
    rw [hu] at h1
    cases dd with
    | slice e =>
     have he:e < E.P.types.size:=by simpa using h1
     have hel:elemOf E.P f.type=e:=by simp [elemOf,hu]
     rw [hz,hel]
     refine ⟨?_,fun x hx=>?_,fun k g hk hown=>?_⟩
     ·rw [List.map_cons,List.nodup_cons]
      refine ⟨fun hm=>?_,g1⟩
      obtain ⟨x,hx,hx2⟩:=List.mem_map.1 hm
      have:=(g2 x hx).1.1
      simp only at hx2
      omega
     ·rcases List.mem_cons.1 hx with hx|hx
      ·subst hx;exact ⟨⟨Nat.le_refl _,by simp⟩,e,rfl,he⟩
      ·obtain ⟨a1,a2⟩:=g2 x hx
       exact ⟨by simp only [List.length_cons];omega,a2⟩
     ·cases k with
      | zero =>
       replace hk:f=g:=by simpa using hk
       subst hk
       exact ⟨e,hu,by simp⟩
      | succ k =>
       obtain ⟨e',k1,k2⟩:=g3 k g (by simpa using hk) (by rw [show i+1+k=i+(k+1) by omega];exact hown)
       exact ⟨e',k1,by rw [show i+(k+1)=i+1+k by omega];exact List.mem_cons_of_mem _ k2⟩
    | _=>cases h1
  ·have ho':E.fldOwn d i=false:=by simpa using ho
   have hz:zeroRows E d i (f :: fs)=zeroRows E d (i+1) fs:=by simp [zeroRows,ho']
   rw [hz]
   refine ⟨g1,fun x hx=>?_,fun k g hk hown=>?_⟩
   ·obtain ⟨a1,a2⟩:=g2 x hx
    exact ⟨by simp only [List.length_cons];omega,a2⟩
   ·cases k with
    | zero=>rw [Nat.add_zero,ho'] at hown;cases hown
    | succ k =>
     obtain ⟨e',k1,k2⟩:=g3 k g (by simpa using hk) (by rw [show i+1+k=i+(k+1) by omega];exact hown)
     exact ⟨e',k1,by rw [show i+(k+1)=i+1+k by omega];exact k2⟩

theorem zeroFs_len (d:Nat)(p:PV):∀ (i:Nat)(fs:List Field),(zeroFs E d p i fs).length=fs.length
 | _,[]=>rfl
 | i,f :: fs=>by simp [zeroFs,zeroFs_len d p (i+1) fs]
theorem zeroFs_get (d:Nat)(p:PV):∀ (i:Nat)(fs:List Field)(k:Nat)(f:Field),fs[k]?=some f →
  (zeroFs E d p i fs)[k]?=some (bif E.fldOwn d (i+k) then .own f.type ((d+1) * 1000+(i+k)) else ofPV E.P f.type (p.fld (i+k)))
 | i,[],k,f,h=>by simp at h
 | i,g :: fs,0,f,h=>by
  replace h:g=f:=by simpa using h
  subst h;rfl
 | i,g :: fs,k+1,f,h=>by
  have:=zeroFs_get d p (i+1) fs k f (by simpa using h)
  rw [show i+1+k=i+(k+1) by omega] at this
  simpa [zeroFs] using this

theorem pvC_slice {P:Program}{n:Nat}{t e:TypeId}{v:Value}{p:PV}(he:P.underlying t=some (.slice e))(h:pvC P n t [v]=some p):v=.slice none 0 0:=by
 cases n with
 | zero=>cases h
 | succ n =>
  unfold pvC at h
  rw [he] at h
  cases v with
  | slice p l c =>
   cases p with
   | none =>
    cases l with
    | zero=>cases c with
     | zero=>rfl
     | succ c=>cases h
    | succ l=>cases h
   | some p=>cases h
  | _=>cases h

theorem q_alloc (hL:laidOutB E.P=true)(hR:Rel E.P Mo β st.T st.B a.tmps.toList w)(hk:Kp w0 F β st.B w){o:Oper}{t:TypeId}(ho:o.op=.alloc t)(hd:Obs.get st.B (o.dst.getD 0)=none)(hlo:o.dst.getD 0 < lowB)
  (hrows:∀ x ∈ zeroRows E (o.dst.getD 0) 0 (fieldsZ E.P t),x.1 < HL→Obs.get st.B x.1=none)(h:opQ0 E o st K=some r):QOk E w0 F Mo β o st K r a w:=by
 unfold opQ0 at h
 rw [ho] at h
 simp only at h
 obtain ⟨ht,h⟩:=cond_some h
 have ht:t < E.P.types.size:=by simpa using ht
 generalize o.dst.getD 0=d at h hd hlo hrows
 unfold zeroSV at h
 cases hz:zeroPV E.P t with
 | none =>
  rw [hz] at h
  simp only at h
  obtain ⟨hzd,hK⟩:=cond_some h
  rw [Option.isNone_none,Bool.true_and] at hzd
  obtain ⟨z,z1,z2,z3,z4,z5⟩:=zeroDead_spec hzd
  have hrun:(execOp a.eval o).run E.P w=.ok (.value (.pointer (some ⟨w.heap.size,0,none⟩))) { w with heap:=w.heap.push (.cells z.cells t (0,0)) }:=by
   unfold execOp;rw [ho]
   simp only [Instr.alloc]
   rw [Sem.run_bind,Sem.run_bind,z1,Result.andThen_ok]
   rw [Sem.run_bind,run_newVar];rfl
  exact q_newBox hR hk hd hlo ht (pack1 z2) (by rw [cells1 hL ht z3 z2];rfl) (fun c hc=>by simp only [List.mem_singleton] at hc;subst hc;exact z4) .dead (.inr (.inr (.inl rfl))) hK hrun
 | some p =>
  rw [hz] at h
  simp only at h
  obtain ⟨z,cs,z1,z2,z3,z4⟩:=zeroPV_spec hz
  have hrd:∀ w M,Rd E.P w M t p cs:=fun w M=>pvC_sound 10 z3
  have hcl:=(hrd w (Mut Mo β st.B)).size hL ht
  have hone:=(hrd w (Mut Mo β st.B)).one hL
  have hrun:(execOp a.eval o).run E.P w=.ok (.value (.pointer (some ⟨w.heap.size,0,none⟩))) { w with heap:=w.heap.push (.cells z.cells t (0,0)) }:=by
   unfold execOp;rw [ho]
   simp only [Instr.alloc]
   rw [Sem.run_bind,Sem.run_bind,z1,Result.andThen_ok]
   rw [Sem.run_bind,run_newVar];rfl
  by_cases hown:hasOwn E d 0 (fieldsZ E.P t)=true
  ·rw [hown,cond_true] at h
   by_cases hok:(rowsOk E d 0 (fieldsZ E.P t)&&decide (d < 1000∧(fieldsZ E.P t).length < 1000))=true
   ·rw [hok,cond_true] at h
    simp only [Bool.and_eq_true,decide_eq_true_eq] at hok
    obtain ⟨n1,n2,n3⟩:=zeroRows_spec (E:=E) d 0 (fieldsZ E.P t) hok.1
    obtain ⟨β',k1,k2,k3,k4⟩:=lay_rows (w0:=w0) (F:=F) hL (zeroRows E d 0 (fieldsZ E.P t)) st β hR hk n1 (fun x hx=>(fun hxl=>⟨hxl,hrows x hx (lowHL hxl),(n2 x hx).2⟩) (by have h4:=(n2 x hx).1.2;have h3:@LT.lt Nat _ d 1000:=hok.2.1;have h5:=hok.2.2;unfold lowB;omega))
    have hdn:d ∉ (zeroRows E d 0 (fieldsZ E.P t)).map (·.1):=by
     intro hm
     obtain ⟨x,hx,hx2⟩:=List.mem_map.1 hm
     have hx3:=(n2 x hx).1.1
     have hx2:x.1=d:=hx2
     omega
    have hd':Obs.get (st.lay (zeroRows E d 0 (fieldsZ E.P t))).B d=none:=(k4 d hdn).1.trans hd
    refine ⟨_,_,h,.inr ⟨by simp,fun next Q hn=>?_⟩⟩
    unfold Oper.wp
    rw [hrun,Oper.upon_value]
    have hlay:∀ (l:Obs)(st:St)(x:Nat × Ob),st.lay (l++[x])=(st.lay l).lay [x]:=by
     intro l
     induction l with
     | nil=>intro st x;rfl
     | cons y l ih=>intro st x;rw [List.cons_append,lay_cons st y (l++[x]),lay_cons st y l];exact ih _ x
    rw [hlay] at hn
    generalize hst1:st.lay (zeroRows E d 0 (fieldsZ E.P t))=st1 at *
    cases hu:E.P.underlying t with
    | none=>rw [show fieldsZ E.P t=[] by simp [fieldsZ,isSliceT,fieldsOf,hu]] at hown;cases hown
    | some dd =>
     cases dd with
     | slice e =>
      have hst:isSliceT E.P t=true:=by simp [isSliceT,hu]
      rw [hst,cond_true] at hn
      have hfs:∃ f:Field,fieldsZ E.P t=[f]∧f.type=t:=by unfold fieldsZ;rw [hst];exact ⟨_,rfl,rfl⟩
      obtain ⟨f,hfs,hft⟩:=hfs
      rw [hfs] at n3 hown k3
      have ho0:E.fldOwn d (0+0)=true:=by simpa [hasOwn] using hown
      obtain ⟨e',he1,he2⟩:=n3 0 f rfl ho0
      rw [hft,hu] at he1
      injection he1 with he1;injection he1 with he1;subst he1
      obtain ⟨r1,r2⟩:=k3 _ he2
      have hagg:isAggT E.P t=false:=by simp [isAggT,hu]
      have hcs:cs=[z]:=by unfold Pack at z2;rw [if_neg (by simp [hagg])] at z2;exact z2
      have hz0:z=.slice none 0 0:=pvC_slice hu (by rw [←hcs];exact z3)
      have hcont:RS E.P w (Mut Mo β' st1.B) β' st1.B (.own t ((d+1) * 1000+0)) z:=by
       rw [hz0];exact .ownNil hu r1 r2
      rw [z4]
      have hx:∀ b c,some (w.heap.size,0)=some (b,c)→w.heap.size≤b∧b < (w.heap.push (.cells cs.toArray t (0,0))).size:=by
       intro b c hx;injection hx with hx;injection hx with h2 h3;subst h2;exact ⟨Nat.le_refl _,by simp⟩
      obtain ⟨m1,m2⟩:=Post.lay1 (w':={ w with heap:=w.heap.push (.cells cs.toArray t (0,0)) }) k1 k2 d hlo (.box t (.own t ((d+1) * 1000+0))) (by simp) (fun b hb=>push_old hb) hx rfl rfl (fun hsame=>by
       rw [retire_id hd'] at hsame
       exact ⟨w.heap.size,0,cs,z,(0,0),at_self _ _ _,push_new,fun o _=>by omega,hcl,hone,z2,hcont.mono hsame,.inr (.inl (by simp [SV.isHandle])),ht⟩)
      exact hn _ _ ⟨_,m1,m2,.ptr (ob:=.box t (.own t ((d+1) * 1000+0))) (lay_get _ (lowHL hlo) _) (at_self _ _ _) rfl⟩
     | struct fs =>
      have hfs:fieldsZ E.P t=fs.toList:=by simp [fieldsZ,isSliceT,fieldsOf,hu]
      have hst:isSliceT E.P t=false:=by simp [isSliceT,hu]
      rw [hfs] at n3 hn k3
      rw [hst,cond_false] at hn
      have hzagg:z=.agg cs.toArray:=by unfold Pack at z2;rw [if_pos (isAggT_struct hu)] at z2;exact z2
      have hcont:RS E.P w (Mut Mo β' st1.B) β' st1.B (.agg t (zeroFs E d p 0 fs.toList)) z:=by
       rw [hzagg]
       have hr:=hrd w (Mut Mo β' st1.B)
       cases hr with
       | @struct _ gs l _ hu' ht' hl hc hf =>
        rw [hu] at hu';injection hu' with hu';injection hu' with hu';subst hu'
        have hval:∀ (i:Nat)(f:Field),fs[i]?=some f→∃ v,Pack E.P f.type v (sub cs f.offset (E.P.cellsOf f.type)):=by
         intro i f hfi
         have hli:i < l.length:=by
          rw [hl]
          rcases Nat.lt_or_ge i fs.size with h|h
          ·exact h
          ·rw [Array.getElem?_eq_none h] at hfi;cases hfi
         exact (hf i f _ hfi (List.getElem?_eq_getElem hli)).pack
        have hpick:∃ vs:Nat→Value,∀ (i:Nat)(f:Field),fs[i]?=some f→Pack E.P f.type (vs i) (sub cs f.offset (E.P.cellsOf f.type)):=by
         have hall:∀ i:Nat,∃ v,∀ f:Field,fs[i]?=some f→Pack E.P f.type v (sub cs f.offset (E.P.cellsOf f.type)):=fun i=>?_
         ·exact ⟨fun i=>(hall i).choose,fun i=>(hall i).choose_spec⟩
         cases hfi:fs[i]? with
         | none=>exact ⟨undef,fun f hf=>by cases hf⟩
         | some f =>
          obtain ⟨v,hv⟩:=hval i f hfi
          exact ⟨v,fun g hg=>by injection hg with hg;subst hg;exact hv⟩
        obtain ⟨vs,hvs⟩:=hpick
        refine .agg (vs:=vs) hu ht' (by rw [zeroFs_len];simp) hc hone (fun i f s hfi hs=>?_) (fun i s hs=>?_)
        ·have hgi:=zeroFs_get (E:=E) d (.agg l) 0 fs.toList i f (by simpa using hfi)
         rw [hs] at hgi;injection hgi with hgi
         refine ⟨?_,hvs i f hfi⟩
         subst hgi
         by_cases hoi:E.fldOwn d (0+i)=true
         ·rw [hoi,cond_true];exact .inr (.inl (by simp [SV.isHandle]))
         ·rw [show E.fldOwn d (0+i)=false by simpa using hoi,cond_false]
          have hli:i < l.length:=by
           rw [hl]
           rcases Nat.lt_or_ge i fs.size with h|h
           ·exact h
           ·rw [Array.getElem?_eq_none h] at hfi;cases hfi
          have hg:=List.getElem?_eq_getElem hli
          have hp:PV.fld (.agg l) (0+i)=l[i]:=by rw [Nat.zero_add];simp only [PV.fld,PV.flds];exact getD_of hg
          rw [hp]
          exact isT_ofPV (hf i f _ hfi hg)
        ·have hil:i < fs.toList.length:=by have:=get_lt hs;rwa [zeroFs_len] at this
         have hfi':=List.getElem?_eq_getElem hil
         generalize fs.toList[i]=f at hfi'
         have hfi:fs[i]?=some f:=by simpa using hfi'
         have hgi:=zeroFs_get (E:=E) d (.agg l) 0 fs.toList i f hfi'
         rw [hs] at hgi;injection hgi with hgi
         subst hgi
         have hli:i < l.length:=by
          rw [hl]
          rcases Nat.lt_or_ge i fs.size with h|h
          ·exact h
          ·rw [Array.getElem?_eq_none h] at hfi;cases hfi
         have hg:=List.getElem?_eq_getElem hli
         by_cases hoi:E.fldOwn d (0+i)=true
         ·rw [hoi,cond_true]
          obtain ⟨e,he1,he2⟩:=n3 i f hfi' hoi
          obtain ⟨r1,r2⟩:=k3 _ he2
          have hnil:vs i=.slice none 0 0:=by
           have h10:pvC E.P 10 t cs=some (.agg l):=z3
           unfold pvC at h10
           rw [hu] at h10
           simp only [Bool.cond_eq_ite,Bool.and_eq_true,decide_eq_true_eq] at h10
           split at h10
           ·cases hm:fs.toList.mapM fun f=>pvC E.P 9 f.type ((cs.drop f.offset).take (E.P.cellsOf f.type)) with
            | none=>rw [hm] at h10;cases h10
            | some l' =>
             rw [hm] at h10
             replace h10:l'=l:=by injection h10 with h10;injection h10
             subst h10
             obtain ⟨_,hmm⟩:=mapM_some hm
             have h9:=hmm i f l'[i] hfi' hg
             have hpk:=hvs i f hfi
             change pvC E.P 9 f.type (sub cs f.offset (E.P.cellsOf f.type))=_ at h9
             generalize sub cs f.offset (E.P.cellsOf f.type)=sb at h9 hpk
             have hagg:isAggT E.P f.type=false:=by simp [isAggT,he1]
             unfold Pack at hpk
             rw [if_neg (by simp [hagg])] at hpk
             subst hpk
             exact pvC_slice he1 h9
           ·cases h10
          rw [hnil]
          exact .ownNil he1 r1 r2
         ·rw [show E.fldOwn d (0+i)=false by simpa using hoi,cond_false]
          have hp:PV.fld (.agg l) (0+i)=l[i]:=by rw [Nat.zero_add];simp only [PV.fld,PV.flds];exact getD_of hg
          rw [hp]
          exact RS.ofPV (hvs i f hfi) (hf i f _ hfi hg)
       | int hu'=>rw [hu] at hu';cases hu'
       | bool hu'=>rw [hu] at hu';cases hu'
       | str hu'=>rw [hu] at hu';cases hu'
       | flt hu'=>rw [hu] at hu';cases hu'
       | nilSlice hu'=>rw [hu] at hu';cases hu'
       | slice hu'=>rw [hu] at hu';cases hu'
       | nilPtr hu'=>rw [hu] at hu';cases hu'
       | ref hu'=>rw [hu] at hu';cases hu'
       | nilIface hu'=>rw [hu] at hu';cases hu'
       | arr hu'=>rw [hu] at hu';cases hu'
      rw [z4]
      have hx:∀ b c,some (w.heap.size,0)=some (b,c)→w.heap.size≤b∧b < (w.heap.push (.cells cs.toArray t (0,0))).size:=by
       intro b c hx;injection hx with hx;injection hx with h2 h3;subst h2;exact ⟨Nat.le_refl _,by simp⟩
      obtain ⟨m1,m2⟩:=Post.lay1 (w':={ w with heap:=w.heap.push (.cells cs.toArray t (0,0)) }) k1 k2 d hlo (.box t (.agg t (zeroFs E d p 0 fs.toList))) (by simp) (fun b hb=>push_old hb) hx rfl rfl (fun hsame=>by
       rw [retire_id hd'] at hsame
       exact ⟨w.heap.size,0,cs,z,(0,0),at_self _ _ _,push_new,fun o _=>by omega,hcl,hone,z2,hcont.mono hsame,.inr (.inr (.inr ⟨_,rfl⟩)),ht⟩)
      exact hn _ _ ⟨_,m1,m2,.ptr (ob:=.box t (.agg t (zeroFs E d p 0 fs.toList))) (lay_get _ (lowHL hlo) _) (at_self _ _ _) rfl⟩
     | _=>rw [show fieldsZ E.P t=[] by simp [fieldsZ,isSliceT,fieldsOf,hu]] at hown;cases hown
   ·rw [show (rowsOk E d 0 (fieldsZ E.P t)&&decide (d < 1000∧(fieldsZ E.P t).length < 1000))=false by simpa using hok] at h
    cases h
  ·rw [show hasOwn E d 0 (fieldsZ E.P t)=false by simpa using hown,cond_false] at h
   exact q_newBox hR hk hd hlo ht z2 hcl hone (RS.ofPV z2 (hrd _ _)) (isT_ofPV (hrd w (Mut Mo β st.B))) h hrun

end
end Go.X
namespace Go.X
open Go

theorem fold_get (off:Nat):∀ (xs:List Value)(k:Nat)(C:Array Value)(j:Nat),
  ((xs.zipIdx k).foldl (fun (cs:Array Value)(x:Value × Nat)=>cs.setIfInBounds (off+x.2) x.1) C)[j]?=if off+k≤j∧j < off+k+xs.length∧j < C.size then xs[j - off - k]? else C[j]?
 | [],k,C,j=>by
  rw [if_neg (by simp;omega)];rfl
 | x :: xs,k,C,j=>by
  rw [List.zipIdx_cons,List.foldl_cons,fold_get off xs (k+1)]
  simp only [Array.size_setIfInBounds,Array.getElem?_setIfInBounds,List.length_cons]
  by_cases h1:off+k=j
  ·rw [if_neg (by omega),if_pos h1]
   subst h1
   by_cases h2:off+k < C.size
   ·rw [if_pos h2,if_pos (by omega)]
    rw [show off+k - off - k=0 by omega];rfl
   ·rw [if_neg h2,if_neg (by omega),Array.getElem?_eq_none (by omega)]
  ·rw [if_neg h1]
   by_cases h2:off+k+1≤j∧j < off+k+1+xs.length∧j < C.size
   ·rw [if_pos (by omega),if_pos (by omega)]
    rw [show j - off - k=(j - off - (k+1))+1 by omega,List.getElem?_cons_succ]
   ·rw [if_neg (by omega),if_neg (by omega)]

theorem fill_step {v:Value}{xs:List Value}{C:Array Value}{off:Nat}(hc:v.cells.toList=xs)(ho:off+xs.length≤C.size) :
  v.cells.zipIdx.foldl (fun (cs:Array Value) (c,j)=>cs.setIfInBounds (off+j) c) C=(splice C.toList off xs).toArray:=by
 apply Array.ext_getElem?
 intro j
 rw [←Array.foldl_toList,Array.toList_zipIdx,hc]
 refine (fold_get off xs 0 C j).trans ?_
 rw [show (splice C.toList off xs).toArray[j]?=(splice C.toList off xs)[j]? by simp,splice_get (by simpa using ho),Nat.add_zero,Nat.sub_zero]
 by_cases h1:j < off
 ·rw [if_neg (by omega),if_pos h1,Array.getElem?_toList]
 ·rw [if_neg h1]
  by_cases h2:j < off+xs.length
  ·rw [if_pos (by omega),if_pos h2]
  ·rw [if_neg (by omega),if_neg h2,Array.getElem?_toList]

theorem fill_same (place:Nat→Option (Nat × Nat)):∀ (parts:List (Nat × Value))(C C':Array Value),Instr.fill place C parts=some C'→∀ j:Nat,(∀ (k i:Nat)(v:Value)(off n:Nat),parts[k]?=some (i,v)→place i=some (off,n)→¬ (off≤j∧j < off+n))→C'[j]?=C[j]?
 | [],C,C',h,j,_=>by
  rw [Instr.fill] at h
  injection h with h;subst h;rfl
 | (i,v) :: parts,C,C',h,j,hj=>by
  rw [Instr.fill] at h
  cases hp:place i with
  | none=>rw [hp] at h;cases h
  | some y =>
   obtain ⟨off,n⟩:=y
   rw [hp] at h
   simp only at h
   split at h
   ·cases h
   ·rename_i hc
    simp only [ne_eq,Bool.or_eq_true,decide_eq_true_eq,not_or,Decidable.not_not,gt_iff_lt] at hc
    have ih:=fill_same place parts _ C' h j (fun k i' v' off' n' hk hp'=>hj (k+1) i' v' off' n' (by simpa using hk) hp')
    rw [ih]
    have h0:=hj 0 i v off n rfl hp
    rw [←Array.foldl_toList,Array.toList_zipIdx]
    refine (fold_get off v.cells.toList 0 C j).trans ?_
    rw [if_neg]
    have:v.cells.toList.length=n:=by simpa using hc.1
    rw [this];omega

theorem nilFs_len {E:Env}(d:Nat)(p:PV):∀ (i:Nat)(fs:List Field),(nilFs E d p i fs).length=fs.length
 | _,[]=>rfl
 | i,f :: fs=>by simp [nilFs,nilFs_len d p (i+1) fs]
theorem nilFs_get {E:Env}(d:Nat)(p:PV):∀ (i:Nat)(fs:List Field)(k:Nat)(f:Field),fs[k]?=some f →
  (nilFs E d p i fs)[k]?=some (bif E.fldOwn d (i+k) then .nils else ofPV E.P f.type (p.fld (i+k)))
 | i,[],k,f,h=>by simp at h
 | i,g :: fs,0,f,h=>by
  have:g=f:=by simpa using h
  subst this;rfl
 | i,g :: fs,k+1,f,h=>by
  have:=nilFs_get (E:=E) d p (i+1) fs k f (by simpa using h)
  rw [show i+1+k=i+(k+1) by omega] at this
  simpa [nilFs] using this
theorem rowsOk_get {E:Env}(d:Nat):∀ (i:Nat)(fs:List Field)(k:Nat)(f:Field),rowsOk E d i fs=true→fs[k]?=some f→E.fldOwn d (i+k)=true→∃ e,E.P.underlying f.type=some (.slice e)
 | i,[],k,f,_,h,_=>by simp at h
 | i,g :: fs,0,f,hr,h,ho=>by
  have:g=f:=by simpa using h
  subst this
  simp only [rowsOk,Bool.and_eq_true,Bool.or_eq_true] at hr
  rcases hr.1 with h1|h1
  ·rw [Nat.add_zero] at ho;rw [ho] at h1;cases h1
  ·split at h1
   ·rename_i e he;exact ⟨e,he⟩
   ·cases h1
 | i,g :: fs,k+1,f,hr,h,ho=>by
  simp only [rowsOk,Bool.and_eq_true] at hr
  exact rowsOk_get d (i+1) fs k f hr.2 (by simpa using h) (by rw [show i+1+k=i+(k+1) by omega];exact ho)

section
variable {P : Program}

theorem fill_parts (hL:laidOutB P=true){w:World}{M:Nat→Prop}{t:TypeId}(ht:t < P.types.size)(place:Nat→Option (Nat × Nat))(stp:Nat→Stp) :
  ∀ (parts:List (Nat × Value))(ps:List PV)(p:PV)(C:Array Value),Rd P w M t p C.toList→parts.length=ps.length →
   (∀ (k i:Nat)(v:Value)(x:PV),parts[k]?=some (i,v)→ps[k]?=some x→∃ u xs off,typT P t [stp i]=some u∧offT P t [stp i]=some off∧place i=some (off,P.cellsOf u) ∧
    v.cells.toList=xs∧Rd P w M u x xs) →
   ∃ C',Instr.fill place C parts=some C'∧Rd P w M t (((parts.map (·.1)).zip ps).foldl (fun p x=>p.put [stp x.1] x.2) p) C'.toList
 | [],ps,p,C,hr,_,_=>by
  refine ⟨C,rfl,?_⟩
  simpa using hr
 | (i,v) :: parts,[],p,C,hr,hl,_=>by simp at hl
 | (i,v) :: parts,x :: ps,p,C,hr,hl,h=>by
  obtain ⟨u,xs,off,h1,h2,h3,h4,h5⟩:=h 0 i v x rfl rfl
  obtain ⟨g1,g2,_⟩:=hr.get hL _ ht h1 h2
  have hxl:=h5.size hL g1
  have hCl:=hr.size hL ht
  have hCs:C.size=P.cellsOf t:=by simpa using hCl
  have hvs:v.cells.size=P.cellsOf u:=by rw [←hxl,←h4];simp
  have hput:=hr.put hL _ ht h1 h2 h5
  have hstep:(v.cells.zipIdx.foldl (fun (cs:Array Value) (c,j)=>cs.setIfInBounds (off+j) c) C)=(splice C.toList off xs).toArray:=fill_step h4 (by omega)
  obtain ⟨C',k1,k2⟩:=fill_parts hL ht place stp parts ps (p.put [stp i] x) (splice C.toList off xs).toArray (by simpa using hput) (by simpa using hl)
   (fun k i' v' x' hk hx=>h (k+1) i' v' x' (by simpa using hk) (by simpa using hx))
  refine ⟨C',?_,k2⟩
  rw [Instr.fill]
  simp only [h3]
  rw [if_neg (by simp only [hvs,ne_eq,not_true_eq_false,decide_false,Bool.false_or,decide_eq_true_eq,gt_iff_lt];omega),hstep]
  exact k1

theorem filterMap_get {α γ:Type}{g:α→Option γ}:∀ {l:List α},(∀ x ∈ l,(g x).isSome=true)→∀ (k:Nat)(x:α),l[k]?=some x→(l.filterMap g)[k]?=g x
 | [],_,k,x,h=>by simp at h
 | a :: l,ha,k,x,h=>by
  obtain ⟨y,hy⟩:=Option.isSome_iff_exists.1 (ha a (by simp))
  rw [List.filterMap_cons_some hy]
  cases k with
  | zero =>
   replace h:a=x:=by simpa using h
   subst h;exact hy.symm
  | succ k=>exact filterMap_get (fun x hx=>ha x (by simp [hx])) k x (by simpa using h)

theorem run_zero_und {t:TypeId}{z:Value}(h:∀ w,(zeroValue t).run P w=.ok z w):∃ i,P.info? t=some i∧i.zero=some z:=by
 have h0:=h default
 unfold zeroValue typeInfo at h0
 simp only [Sem.run_bind,run_program,Result.andThen_ok] at h0
 cases hi:P.info? t with
 | none=>rw [hi] at h0;cases h0
 | some i =>
  rw [hi] at h0
  simp only [Sem.run_pure,Result.andThen_ok] at h0
  cases hz:i.zero with
  | none=>rw [hz] at h0;cases h0
  | some z' =>
   rw [hz] at h0
   simp only [Sem.run_pure] at h0
   injection h0 with h0
   exact ⟨i,rfl,by rw [←h0];exact hz⟩

theorem info_lt {t:TypeId}(h:t < P.types.size):∃ i,P.info? t=some i∧P.cellsOf t=i.size:=by
 have h1:P.info? t=P.types[t]?:=by unfold Tables.info?;rw [if_pos h]
 rw [Array.getElem?_eq_getElem h] at h1
 exact ⟨_,h1,by unfold Program.cellsOf;rw [h1];rfl⟩

theorem Rd.lt_of_agg {w:World}{M:Nat→Prop}{t:TypeId}{p:PV}{cs:List Value}(h:Rd P w M t p cs)(ha:isAggT P t=true):t < P.types.size:=by
 cases h with
 | struct _ h=>exact h
 | arr _ h=>exact h
 | int hu=>simp [isAggT,hu] at ha
 | bool hu=>simp [isAggT,hu] at ha
 | str hu=>simp [isAggT,hu] at ha
 | flt hu=>simp [isAggT,hu] at ha
 | nilSlice hu=>simp [isAggT,hu] at ha
 | slice hu=>simp [isAggT,hu] at ha
 | nilPtr hu=>simp [isAggT,hu] at ha
 | ref hu=>simp [isAggT,hu] at ha
 | nilIface hu=>simp [isAggT,hu] at ha

theorem mapM_places:∀ (fs:List Field),(∀ f ∈ fs,f.type < P.types.size)→∃ pl:List (Nat × Nat),fs.mapM (fun f=>(P.info? f.type).map fun i=>(f.offset,i.size))=some pl ∧
  ∀ (k:Nat)(f:Field),fs[k]?=some f→pl[k]?=some (f.offset,P.cellsOf f.type)
 | [],_=>⟨[],rfl,fun k f h=>by simp at h⟩
 | f :: fs,h=>by
  obtain ⟨pl,h1,h2⟩:=mapM_places fs (fun g hg=>h g (by simp [hg]))
  have hf:=h f (by simp)
  obtain ⟨ie,hi,hc⟩:=info_lt hf
  refine ⟨(f.offset,P.cellsOf f.type) :: pl,?_,fun k g hg=>?_⟩
  ·simp only [List.mapM_cons,hi,Option.map_some,h1,hc];rfl
  ·cases k with
   | zero=>
    replace hg:f=g:=by simpa using hg
    subst hg;rfl
   | succ k=>exact h2 k g (by simpa using hg)

end

section
variable {E : Env} {w0 : World} {F : Foot} {Mo : Nat → Prop} {st : St} {K : SV → Obs → Option Out} {r : Out} {a : Act} {w : World} {β : Beta}

theorem parts_get {α:Type}{parts:Array (Nat × Operand)}{f:Operand→α}{k i:Nat}{v:α}(h:(parts.map fun (i,x)=>(i,f x)).toList[k]?=some (i,v)) :
  ∃ x,parts.toList[k]?=some (i,x)∧v=f x:=by
 rw [Array.toList_map,List.getElem?_map] at h
 cases hp:parts.toList[k]? with
 | none=>rw [hp] at h;cases h
 | some y =>
  rw [hp] at h
  obtain ⟨j,x⟩:=y
  simp only [Option.map_some,Option.some.injEq,Prod.mk.injEq] at h
  obtain ⟨rfl,rfl⟩:=h
  exact ⟨x,rfl,rfl⟩

theorem q_build (hL:laidOutB E.P=true)(hR:Rel E.P Mo β st.T st.B a.tmps.toList w)(hk:Kp w0 F β st.B w){o:Oper}{t:TypeId}{parts:Array (Nat × Operand)}(ho:o.op=.build t parts)(h:opQ0 E o st K=some r) :
  QOk E w0 F Mo β o st K r a w:=by
 unfold opQ0 at h
 rw [ho] at h
 simp only at h
 cases hz:zeroPV E.P t with
 | none=>rw [hz] at h;cases hu:E.P.underlying t with
  | none=>rw [hu] at h;cases h
  | some d=>rw [hu] at h;cases d <;> cases h
 | some z =>
  obtain ⟨zv,zcs,z1,z2,z3,z4⟩:=zeroPV_spec hz
  obtain ⟨it,i1,i2⟩:=run_zero_und z1
  have hzr:Rd E.P w (Mut Mo β st.B) t z zv.cells.toList:=by rw [z4];exact pvC_sound 10 z3
  rw [hz] at h
  cases hu:E.P.underlying t with
  | none=>rw [hu] at h;cases h
  | some dd =>
   rw [hu] at h
   have hfst:(parts.map fun (i,x)=>(i,a.eval x)).toList.map (·.1)=parts.toList.map (·.1):=by rw [Array.toList_map,List.map_map];rfl
   have fin:∀ {C:Array Value}{p:PV},E.P.built t (parts.map fun (i,x)=>(i,a.eval x)).toList=some C→Rd E.P w (Mut Mo β st.B) t p C.toList→isAggT E.P t=true→K (.val t p) []=some r→QOk E w0 F Mo β o st K r a w:=by
    intro C p hb hr ha hK
    have hs:RS E.P w (Mut Mo β st.B) β st.B (.val t p) (.agg C):=.val (cs:=C.toList) (by simp [Pack,ha]) hr
    refine QOk.val hR hk hK ?_ hs
    unfold execOp;rw [ho]
    simp only
    rw [Sem.run_bind,run_build w t _ C hb];rfl
   cases dd with
   | struct fs =>
    simp only at h
    cases hp:plainsF E.P (parts.toList.filterMap fun x=>fs[x.1]?) (parts.toList.map fun x=>st.get E.P 0 x.2) with
    | none=>rw [hp] at h;cases h
    | some l =>
     rw [hp] at h
     simp only at h
     obtain ⟨hall,h⟩:=cond_some h
     have hall':∀ x ∈ parts.toList,∃ f,fs[x.1]?=some f∧E.P.cellsOf f.type≠0:=by
      intro x hx
      have:=List.all_eq_true.1 hall x hx
      cases hf:fs[x.1]? with
      | none=>rw [hf] at this;cases this
      | some f=>rw [hf] at this;exact ⟨f,rfl,by simpa [emptyT] using this⟩
     obtain ⟨q1,q2,q3⟩:=plainsF_spec hp
     have ht:t < E.P.types.size:=hzr.lt_of_agg (isAggT_struct hu)
     have lay:=layS hL ht hu
     obtain ⟨pl,p1,p2⟩:=mapM_places fs.toList lay.1
     obtain ⟨C,c1,c2⟩:=fill_parts hL ht (pl.toArray[·]?) (fun i=>.fld i) (parts.map fun (i,x)=>(i,a.eval x)).toList l z zv.cells hzr (by simp [q1])
      (fun k i v x hk hx=>by
       obtain ⟨y,hy,rfl⟩:=parts_get hk
       obtain ⟨f,hf,h0⟩:=hall' (i,y) (List.mem_of_getElem? hy)
       have hg:(parts.toList.filterMap fun x=>fs[x.1]?)[k]?=some f:=by
        rw [filterMap_get (fun x hx=>by obtain ⟨f,hf,_⟩:=hall' x hx;rw [hf];rfl) k (i,y) hy];exact hf
       have hs:(parts.toList.map fun x=>st.get E.P 0 x.2)[k]?=some (st.get E.P 0 y):=by rw [List.getElem?_map,hy];rfl
       have hpv:=q3 k f _ x hg hs hx
       obtain ⟨xs,x1,x2⟩:=(get_sound hR 0 y).pvT hpv
       refine ⟨f.type,xs,f.offset,?_,?_,?_,x1.cells (x2.one hL),x2⟩
       ·simp [typT,hu,hf]
       ·simp [offT,hu,hf,h0]
       ·have:=p2 i f (by simpa using hf)
        simpa using this)
     have hb:E.P.built t (parts.map fun (i,x)=>(i,a.eval x)).toList=some C:=by
      unfold Program.built
      rw [i1,hu]
      simp only [i2,p1]
      exact c1
     by_cases hown:hasOwn E (o.dst.getD 0) 0 fs.toList=true
     ·rw [hown,cond_true] at h
      obtain ⟨hok,h⟩:=cond_some h
      simp only [Bool.and_eq_true] at hok
      have hs:RS E.P w (Mut Mo β st.B) β st.B (.agg t (nilFs E (o.dst.getD 0) (((parts.toList.map (·.1)).zip l).foldl (fun p x=>p.put [.fld x.1] x.2) z) 0 fs.toList)) (.agg C):=by
       rw [hfst] at c2
       generalize ((parts.toList.map (·.1)).zip l).foldl (fun p x=>p.put [.fld x.1] x.2) z=p at c2
       have hone:=c2.one hL
       have hsz:=c2.size hL ht
       have key:∀ (fs':Array Field)(l':List PV),E.P.underlying t=some (.struct fs')→p=.agg l'→l'.length=fs'.size →
         (∀ (i:Nat)(f:Field)(x:PV),fs'[i]?=some f→l'[i]?=some x→Rd E.P w (Mut Mo β st.B) f.type x ((C.toList.drop f.offset).take (E.P.cellsOf f.type)))→RS E.P w (Mut Mo β st.B) β st.B (.agg t (nilFs E (o.dst.getD 0) p 0 fs.toList)) (.agg C):=by
        intro fs' l' hu' hp' hl' hf
        rw [hu] at hu';injection hu' with hu';injection hu' with hu';subst hu'
        subst hp'
        have hpick:∃ vs:Nat→Value,∀ (i:Nat)(f:Field),fs[i]?=some f→Pack E.P f.type (vs i) ((C.toList.drop f.offset).take (E.P.cellsOf f.type)):=by
         have hall:∀ i:Nat,∃ v,∀ f:Field,fs[i]?=some f→Pack E.P f.type v ((C.toList.drop f.offset).take (E.P.cellsOf f.type)):=fun i=>?_
         ·exact ⟨fun i=>(hall i).choose,fun i=>(hall i).choose_spec⟩
         cases hfi:fs[i]? with
         | none=>exact ⟨undef,fun f hf=>by cases hf⟩
         | some f =>
          have hli:i < l'.length:=by
           rw [hl']
           rcases Nat.lt_or_ge i fs.size with h|h
           ·exact h
           ·rw [Array.getElem?_eq_none h] at hfi;cases hfi
          obtain ⟨v,hv⟩:=(hf i f _ hfi (List.getElem?_eq_getElem hli)).pack
          exact ⟨v,fun g hg=>by injection hg with hg;subst hg;exact hv⟩
        obtain ⟨vs,hvs⟩:=hpick
        have hCC:(Value.agg C)=.agg C.toList.toArray:=by simp
        rw [hCC]
        refine .agg (vs:=vs) hu ht (by rw [nilFs_len];simp) hsz hone (fun i f s hfi hs=>?_) (fun i s hs=>?_)
        ·have hgi:=nilFs_get (E:=E) (o.dst.getD 0) (.agg l') 0 fs.toList i f (by simpa using hfi)
         rw [hs] at hgi;injection hgi with hgi
         refine ⟨?_,hvs i f hfi⟩
         subst hgi
         by_cases hoi:E.fldOwn (o.dst.getD 0) (0+i)=true
         ·rw [hoi,cond_true]
          obtain ⟨e,he⟩:=rowsOk_get _ 0 fs.toList i f hok.1 (by simpa using hfi) hoi
          exact .inl (by simp [SV.pvT,he])
         ·rw [show E.fldOwn (o.dst.getD 0) (0+i)=false by simpa using hoi,cond_false]
          have hli:i < l'.length:=by
           rw [hl']
           rcases Nat.lt_or_ge i fs.size with h|h
           ·exact h
           ·rw [Array.getElem?_eq_none h] at hfi;cases hfi
          have hg:=List.getElem?_eq_getElem hli
          have hp:PV.fld (.agg l') (0+i)=l'[i]:=by rw [Nat.zero_add];simp only [PV.fld,PV.flds];exact getD_of hg
          rw [hp]
          exact isT_ofPV (hf i f _ hfi hg)
        ·have hil:i < fs.toList.length:=by have:=get_lt hs;rwa [nilFs_len] at this
         have hfi':=List.getElem?_eq_getElem hil
         generalize fs.toList[i]=f at hfi'
         have hfi:fs[i]?=some f:=by simpa using hfi'
         have hgi:=nilFs_get (E:=E) (o.dst.getD 0) (.agg l') 0 fs.toList i f hfi'
         rw [hs] at hgi;injection hgi with hgi
         subst hgi
         have hli:i < l'.length:=by rw [hl'];simpa using hil
         have hg:=List.getElem?_eq_getElem hli
         by_cases hoi:E.fldOwn (o.dst.getD 0) (0+i)=true
         ·rw [hoi,cond_true]
          obtain ⟨e,he1⟩:=rowsOk_get _ 0 fs.toList i f hok.1 (by simpa using hfi) hoi
          have hagg:isAggT E.P f.type=false:=by simp [isAggT,he1]
          have hc1:E.P.cellsOf f.type=1:=cells1 hL (lay.1 f (by simpa using Array.mem_of_getElem? hfi)) (by rw [he1];rfl) hagg
          have hpk:=hvs i f hfi
          unfold Pack at hpk
          rw [if_neg (by simp [hagg]),hc1] at hpk
          have hCf:C[f.offset]?=some (vs i):=by
           have:((C.toList.drop f.offset).take 1)[0]?=some (vs i):=by rw [hpk];rfl
           rw [List.getElem?_take_of_lt (by omega),List.getElem?_drop,Nat.add_zero,Array.getElem?_toList] at this
           exact this
          have hsame:=fill_same _ _ _ _ c1 f.offset (fun k i2 v2 off2 n2 hk hp2=>by
           obtain ⟨y,hy,rfl⟩:=parts_get hk
           obtain ⟨g,hg2,h0⟩:=hall' (i2,y) (List.mem_of_getElem? hy)
           have hpl:=p2 i2 g (by simpa using hg2)
           have hpl':(some (g.offset,E.P.cellsOf g.type):Option (Nat × Nat))=some (off2,n2):=by
            rw [←hpl];simpa using hp2
           injection hpl' with hpl';injection hpl' with e1 e2
           subst e1;subst e2
           have hne:i2≠i:=by
            intro hh;subst hh
            have:=List.all_eq_true.1 hok.2 (i2,y) (List.mem_of_getElem? hy)
            rw [Nat.zero_add] at hoi
            simp [hoi] at this
           rcases Nat.lt_or_gt_of_ne hne with hlt|hlt
           ·have:=lay.apart hg2 hfi hlt;omega
           ·have:=lay.apart hfi hg2 hlt;rw [hc1] at this;omega)
          have hzc:zv.cells[f.offset]?=some (vs i):=by rw [←hsame];exact hCf
          have hnil:vs i=.slice none 0 0:=by
           have h10:∃ l0,pvC E.P 10 t zcs=some l0:=⟨_,z3⟩
           obtain ⟨l0,h10⟩:=h10
           unfold pvC at h10
           rw [hu] at h10
           simp only [Bool.cond_eq_ite,Bool.and_eq_true,decide_eq_true_eq] at h10
           split at h10
           ·cases hm:fs.toList.mapM fun f=>pvC E.P 9 f.type ((zcs.drop f.offset).take (E.P.cellsOf f.type)) with
            | none=>rw [hm] at h10;cases h10
            | some l1 =>
             obtain ⟨hl1,hmm⟩:=mapM_some hm
             have hil1:i < l1.length:=by rw [hl1];exact hil
             have h9:=hmm i f l1[i] hfi' (List.getElem?_eq_getElem hil1)
             rw [hc1] at h9
             rw [z4] at hzc
             have hz1:(zcs.drop f.offset).take 1=[vs i]:=by
              have hz0:zcs[f.offset]?=some (vs i):=by simpa using hzc
              have hlt:f.offset < zcs.length:=get_lt hz0
              rw [List.drop_eq_getElem_cons hlt]
              rw [List.getElem?_eq_getElem hlt] at hz0
              injection hz0 with hz0
              rw [hz0];rfl
             rw [hz1] at h9
             exact pvC_slice he1 h9
           ·cases h10
          rw [hnil]
          exact .nils
         ·rw [show E.fldOwn (o.dst.getD 0) (0+i)=false by simpa using hoi,cond_false]
          have hp:PV.fld (.agg l') (0+i)=l'[i]:=by rw [Nat.zero_add];simp only [PV.fld,PV.flds];exact getD_of hg
          rw [hp]
          exact RS.ofPV (hvs i f hfi) (hf i f _ hfi hg)
       generalize hcl:C.toList=cl at c2
       cases c2 with
       | @struct _ gs l' _ hu' ht' hl' hc' hf=>exact key gs l' hu' rfl hl' (by rw [hcl];exact hf)
       | int hu'=>rw [hu] at hu';cases hu'
       | bool hu'=>rw [hu] at hu';cases hu'
       | str hu'=>rw [hu] at hu';cases hu'
       | flt hu'=>rw [hu] at hu';cases hu'
       | nilSlice hu'=>rw [hu] at hu';cases hu'
       | slice hu'=>rw [hu] at hu';cases hu'
       | nilPtr hu'=>rw [hu] at hu';cases hu'
       | ref hu'=>rw [hu] at hu';cases hu'
       | nilIface hu'=>rw [hu] at hu';cases hu'
       | arr hu'=>rw [hu] at hu';cases hu'
      refine QOk.val hR hk h ?_ hs
      unfold execOp;rw [ho]
      simp only
      rw [Sem.run_bind,run_build w t _ C hb];rfl
     ·rw [show hasOwn E (o.dst.getD 0) 0 fs.toList=false by simpa using hown,cond_false] at h
      refine fin hb c2 (isAggT_struct hu) ?_
      rw [hfst]
      exact h
   | array n e =>
    simp only at h
    cases hp:plainsE E.P e (parts.toList.map fun x=>st.get E.P e x.2) with
    | none=>rw [hp] at h;cases h
    | some l =>
     rw [hp] at h
     simp only at h
     obtain ⟨hall,h⟩:=cond_some h
     have hall':∀ x ∈ parts.toList,x.1 < n:=by
      intro x hx
      have:=List.all_eq_true.1 hall x hx
      simpa using this
     obtain ⟨q1,q3⟩:=plainsE_spec hp
     have ht:t < E.P.types.size:=hzr.lt_of_agg (isAggT_arr hu)
     have lay:=layA hL ht hu
     obtain ⟨ie,hi,hc⟩:=info_lt lay.1
     obtain ⟨C,c1,c2⟩:=fill_parts hL ht (fun i=>some (i * ie.size,ie.size)) (fun i=>.idx i) (parts.map fun (i,x)=>(i,a.eval x)).toList l z zv.cells hzr (by simp [q1])
      (fun k i v x hk hx=>by
       obtain ⟨y,hy,rfl⟩:=parts_get hk
       have hf:=hall' (i,y) (List.mem_of_getElem? hy)
       have hs:(parts.toList.map fun x=>st.get E.P e x.2)[k]?=some (st.get E.P e y):=by rw [List.getElem?_map,hy];rfl
       have hpv:=q3 k _ x hs hx
       obtain ⟨xs,x1,x2⟩:=(get_sound hR e y).pvT hpv
       refine ⟨e,xs,i * E.P.cellsOf e,?_,?_,?_,x1.cells (x2.one hL),x2⟩
       ·simp [typT,hu]
       ·simp only [offT,hu]
        rw [if_pos ⟨by omega,by exact_mod_cast hf⟩];simp
       ·rw [hc])
     have hb:E.P.built t (parts.map fun (i,x)=>(i,a.eval x)).toList=some C:=by
      unfold Program.built
      rw [i1,hu]
      simp only [i2,hi]
      exact c1
     refine fin hb c2 (isAggT_arr hu) ?_
     rw [hfst]
     exact h
   | _=>cases h

end
end Go.X
set_option linter.unusedVariables false
set_option linter.unusedSimpArgs false
namespace Go.X
open Go
section
variable {P : Program}

def Rows (P:Program)(w:World)(M:Nat→Prop)(e:TypeId)(l:List PV)(cs:List Value):Prop :=
 ∀ (i:Nat)(p:PV),l[i]?=some p→Rd P w M e p (sub cs (i * P.cellsOf e) (P.cellsOf e))

theorem mul_apart {i j n:Nat}(h:i≠j):i * n+n≤j * n∨j * n+n≤i * n:=by
 rcases Nat.lt_or_gt_of_ne h with h|h
 ·left;have:=Nat.mul_le_mul_right n h;rw [Nat.succ_mul] at this;exact this
 ·right;have:=Nat.mul_le_mul_right n h;rw [Nat.succ_mul] at this;exact this
theorem mul_within {i m n:Nat}(h:i < m):i * n+n≤m * n:=by
 have:=Nat.mul_le_mul_right n h;rw [Nat.succ_mul] at this;exact this

theorem Rows.set (hL:laidOutB P=true){w:World}{M:Nat→Prop}{e:TypeId}(he:e < P.types.size){l:List PV}{cs xs:List Value}{x:PV}{i:Nat}(h:Rows P w M e l cs)(hl:l.length * P.cellsOf e≤cs.length)(hi:i < l.length)
  (hx:Rd P w M e x xs):Rows P w M e (l.set i x) (splice cs (i * P.cellsOf e) xs):=by
 intro j p hj
 have hxl:=hx.size hL he
 have hb:=mul_within (n:=P.cellsOf e) hi
 rw [List.getElem?_set] at hj
 by_cases hij:i=j
 ·subst hij
  rw [if_pos rfl,if_pos hi] at hj
  injection hj with hj;subst hj
  have:=sub_splice_in (cs:=cs) (xs:=xs) (o:=0) (a:=i * P.cellsOf e) (n:=P.cellsOf e) (by omega) (by omega)
  rw [Nat.add_zero] at this
  rw [this,splice_all (by rw [sub_len (by omega),hxl])]
  exact hx
 ·rw [if_neg hij] at hj
  have hjl:=get_lt hj
  rw [sub_splice_out (by omega) (by rw [hxl];have:=mul_apart (n:=P.cellsOf e) hij;omega)]
  exact h j p hj

theorem Rows.mono {w w':World}{M M':Nat→Prop}(h:Stable w M w' M'){e:TypeId}{l:List PV}{cs:List Value}(hr:Rows P w M e l cs):Rows P w' M' e l cs :=
 fun i p hi=>(hr i p hi).mono h

theorem fill_rows (hL:laidOutB P=true){w:World}{M:Nat→Prop}{e:TypeId}(he:e < P.types.size){sz:Nat}(hsz:P.cellsOf e=sz) :
  ∀ (parts:List (Nat × Value))(ps:List PV)(l:List PV)(C:Array Value),Rows P w M e l C.toList→C.size=l.length * sz→parts.length=ps.length →
   (∀ (k i:Nat)(v:Value)(x:PV),parts[k]?=some (i,v)→ps[k]?=some x→i < l.length∧∃ xs,v.cells.toList=xs∧Rd P w M e x xs) →
   (∀ c ∈ C.toList,c.oneCell'=true) →
   ∃ C',Instr.fill (fun i=>some (i * sz,sz)) C parts=some C'∧Rows P w M e (((parts.map (·.1)).zip ps).foldl (fun p x=>p.set x.1 x.2) l) C'.toList∧C'.size=C.size ∧
    (∀ c ∈ C'.toList,c.oneCell'=true)∧(((parts.map (·.1)).zip ps).foldl (fun p x=>p.set x.1 x.2) l).length=l.length
 | [],ps,l,C,hr,_,_,_,h1=>⟨C,rfl,by simpa using hr,rfl,h1,by simp⟩
 | (i,v) :: parts,[],l,C,hr,_,hl,_,_=>by simp at hl
 | (i,v) :: parts,x :: ps,l,C,hr,hC,hl,h,h1=>by
  subst hsz
  obtain ⟨hi,xs,hx1,hx2⟩:=h 0 i v x rfl rfl
  have hxl:=hx2.size hL he
  have hb:=mul_within (n:=P.cellsOf e) hi
  have hvs:v.cells.size=P.cellsOf e:=by rw [←hxl,←hx1];simp
  have hstep:(v.cells.zipIdx.foldl (fun (cs:Array Value) (c,j)=>cs.setIfInBounds (i * P.cellsOf e+j) c) C)=(splice C.toList (i * P.cellsOf e) xs).toArray:=fill_step hx1 (by omega)
  have hsl:(splice C.toList (i * P.cellsOf e) xs).length=C.size:=by rw [splice_len (by simp;omega)];simp
  obtain ⟨C',k1,k2,k3,k4,k5⟩:=fill_rows hL he rfl parts ps (l.set i x) (splice C.toList (i * P.cellsOf e) xs).toArray (by simpa using hr.set hL he (by simp;omega) hi hx2) (by simp [hsl,hC]) (by simpa using hl)
   (fun k i' v' x' hk hx=>by
    obtain ⟨g1,g2⟩:=h (k+1) i' v' x' (by simpa using hk) (by simpa using hx)
    exact ⟨by simpa using g1,g2⟩)
   (fun c hc=>by
    rcases mem_splice (by simpa using hc) with hc|hc
    ·exact h1 c hc
    ·exact hx2.one hL c hc)
  refine ⟨C',?_,k2,by rw [k3];simp [hsl],k4,by simpa using k5⟩
  rw [Instr.fill]
  simp only
  rw [if_neg (by simp only [hvs,ne_eq,not_true_eq_false,decide_false,Bool.false_or,decide_eq_true_eq,gt_iff_lt];omega),hstep]
  exact k1

theorem made_rows (hL:laidOutB P=true){w:World}{M:Nat→Prop}{e:TypeId}(he:e < P.types.size){z:PV}{zc:List Value}(hz:Rd P w M e z zc)(n:Nat) :
  Rows P w M e (List.replicate n z) (madeCells zc.toArray (n * P.cellsOf e)).toList∧∀ c ∈ (madeCells zc.toArray (n * P.cellsOf e)).toList,c.oneCell'=true:=by
 have hzl:=hz.size hL he
 have hget:∀ k,k < n * P.cellsOf e→(madeCells zc.toArray (n * P.cellsOf e)).toList[k]?=zc[k % P.cellsOf e]?:=by
  intro k hk
  have h0:0 < P.cellsOf e:=by
   rcases Nat.eq_zero_or_pos (P.cellsOf e) with h|h
   ·rw [h] at hk;simp at hk
   ·exact h
  have hm:=Nat.mod_lt k h0
  rw [Array.getElem?_toList]
  unfold madeCells
  rw [Array.getElem?_map,Array.getElem?_range,if_pos hk]
  simp only [Option.map_some,List.size_toArray,hzl]
  rw [List.getElem?_eq_getElem (by omega)]
  rw [getElem!_pos _ _ (by simp;omega)]
  simp
 constructor
 ·intro i p hi
  have hil:=get_lt hi
  rw [List.length_replicate] at hil
  have hp:p=z:=(List.mem_replicate.1 (List.mem_of_getElem? hi)).2
  subst hp
  have hb:=mul_within (n:=P.cellsOf e) hil
  have:sub (madeCells zc.toArray (n * P.cellsOf e)).toList (i * P.cellsOf e) (P.cellsOf e)=zc:=by
   apply List.ext_getElem?
   intro k
   rw [sub_get]
   by_cases hk:k < P.cellsOf e
   ·rw [if_pos hk,hget _ (by omega),Nat.mul_comm,Nat.mul_add_mod,Nat.mod_eq_of_lt hk]
   ·rw [if_neg hk,List.getElem?_eq_none (by omega)]
  rw [this];exact hz
 ·intro c hc
  obtain ⟨k,hk⟩:=List.getElem?_of_mem hc
  have hkl:=get_lt hk
  rw [Array.length_toList,size_madeCells] at hkl
  rw [hget k hkl] at hk
  exact hz.one hL c (List.mem_of_getElem? hk)

end

section
variable {E : Env} {w0 : World} {F : Foot} {Mo : Nat → Prop} {st : St} {K : SV → Obs → Option Out} {r : Out} {a : Act} {w : World} {β : Beta}

theorem q_rowOwn (hR:Rel E.P Mo β st.T st.B a.tmps.toList w)(hk:Kp w0 F β st.B w){o:Oper}{t e:TypeId}{d c:Nat}{l:List PV}{C:Array Value}{fr:Nat × Nat}{w':World}(hu:E.P.underlying t=some (.slice e))(he:e < E.P.types.size)
  (hrows:Rows E.P w (Mut Mo β st.B) e l C.toList)(h1:∀ c ∈ C.toList,c.oneCell'=true)(hC:C.size=c * E.P.cellsOf e)(hlc:l.length≤c)(hcm:c≤maxLen)(hfr:∀ o,o < C.size→fr.1=fr.2∨C.size≤fr.1)(hd:Obs.get st.B d=none)(hlo:d < lowB)
  (hrun:(execOp a.eval o).run E.P w=.ok (.value (.slice (some ⟨w.heap.size,0,none⟩) l.length c)) w')(hw:w'.heap=w.heap.push (.cells C e fr))(hos:w'.os=w.os)(hout:w'.output=w.output)
  (hK:K (.own t d) [(d,.row e l)]=some r):QOk E w0 F Mo β o st K r a w:=by
 refine QOk.lay (x:=some (w.heap.size,c)) hR hk hd hlo hK hrun (by rw [hw];simp) (fun b hb=>by rw [hw];exact push_old hb) (fun b c' hx=>?_) hos hout (fun hsame=>?_) ?_
 ·injection hx with hx;injection hx with h2 h3;subst h2;exact ⟨Nat.le_refl _,by rw [hw];simp⟩
 ·refine ⟨he,.inr ⟨w.heap.size,c,C.toList,fr,at_self _ _ _,by rw [hw];exact push_new,fun o ho=>by have:=hfr o (by simpa using ho);simpa using this,hlc,hcm,by simpa using hC,h1,fun i p hi=>(hrows i p hi).mono hsame.st⟩⟩
 ·exact .own hu (ins_self (lowHL hlo) _ _) (at_self _ _ _) hlc

theorem q_rowVal (hR:Rel E.P Mo β st.T st.B a.tmps.toList w)(hk:Kp w0 F β st.B w){o:Oper}{t e:TypeId}{c:Nat}{l:List PV}{C:Array Value}{fr:Nat × Nat}{w':World}(hu:E.P.underlying t=some (.slice e))
  (hrows:Rows E.P w (Mut Mo β st.B) e l C.toList)(hC:C.size=c * E.P.cellsOf e)(hlc:l.length≤c)(hcm:c≤maxLen)
  (hrun:(execOp a.eval o).run E.P w=.ok (.value (.slice (some ⟨w.heap.size,0,none⟩) l.length c)) w')(hw:w'.heap=w.heap.push (.cells C e fr))(hos:w'.os=w.os)(hout:w'.output=w.output)
  (hK:K (.val t (.list l)) []=some r):QOk E w0 F Mo β o st K r a w:=by
 refine ⟨_,_,hK,.inl ⟨rfl,fun next Q hn=>?_⟩⟩
 unfold Oper.wp
 rw [hrun,Oper.upon_value]
 have hsz:w.heap.size≤w'.heap.size:=by rw [hw];simp
 have hold:∀ b,b < w.heap.size→w'.heap[b]?=w.heap[b]?:=fun b hb=>by rw [hw];exact push_old hb
 have hst:Stable w (Mut Mo β st.B) w' (Mut Mo β st.B):=fun b hb hlt=>⟨hb,hold b hlt⟩
 have hnew:¬ Mut Mo β st.B w.heap.size:=by
  rintro (h|⟨d,ob,c',h1,h2⟩)
  ·have:=hR.mo _ h;omega
  ·have:=hR.lt _ _ _ _ h1 h2;omega
 refine hn _ _ ⟨hsz,hold,hos,hout,?_⟩
 have ha:isAggT E.P t=false:=by simp [isAggT,hu]
 refine .val (pack1 ha) (.slice (cs:=fun i=>sub C.toList (i * E.P.cellsOf e) (E.P.cellsOf e)) hu rfl hlc hcm (fun i hi=>?_) (fun i p hi=>(hrows i p hi).mono hst))
 have hb:=mul_within (n:=E.P.cellsOf e) hi
 have hb2:=Nat.mul_le_mul_right (E.P.cellsOf e) hlc
 refine ⟨sub_len (by simp;omega),fun j x hj=>⟨by rw [add_block];exact hnew,?_⟩⟩
 have hbl:w'.heap[w.heap.size]?=some (.cells C.toList.toArray e fr):=by rw [hw];exact push_new
 have:=cell_block hbl j _ hj
 rw [add_add,add_off,Nat.zero_add]
 rw [add_off] at this
 exact this

theorem q_buildSlice (hL:laidOutB E.P=true)(hR:Rel E.P Mo β st.T st.B a.tmps.toList w)(hk:Kp w0 F β st.B w){o:Oper}{t:TypeId}{n:Nat}{parts:Array (Nat × Operand)}(ho:o.op=.buildSlice t n parts)
  (hd:Obs.get st.B (o.dst.getD 0)=none)(hlo:o.dst.getD 0 < lowB)(h:opQ0 E o st K=some r):QOk E w0 F Mo β o st K r a w:=by
 unfold opQ0 at h
 rw [ho] at h
 simp only at h
 generalize o.dst.getD 0=d at h hd hlo
 cases hu:E.P.underlying t with
 | none=>rw [hu] at h;cases h
 | some dd =>
  rw [hu] at h
  cases dd with
  | slice e =>
   simp only at h
   cases hz:zeroPV E.P e with
   | none=>rw [hz] at h;cases h
   | some z =>
    obtain ⟨zv,zcs,z1,z2,z3,z4⟩:=zeroPV_spec hz
    obtain ⟨it,i1,i2⟩:=run_zero_und z1
    have hzr:Rd E.P w (Mut Mo β st.B) e z zcs:=pvC_sound 10 z3
    rw [hz] at h
    cases hp:plainsE E.P e (parts.toList.map fun x=>st.get E.P e x.2) with
    | none=>rw [hp] at h;cases h
    | some l =>
     rw [hp] at h
     simp only at h
     obtain ⟨hc,h⟩:=cond_some h
     simp only [Bool.and_eq_true,decide_eq_true_eq,List.all_eq_true] at hc
     obtain ⟨⟨⟨he,hsm⟩,hn⟩,hall⟩:=hc
     obtain ⟨q1,q3⟩:=plainsE_spec hp
     have hce:E.P.cellsOf e=it.size:=by unfold Program.cellsOf;rw [i1];rfl
     obtain ⟨m1,m2⟩:=made_rows hL he hzr n
     have hfst:(parts.map fun (i,x)=>(i,a.eval x)).toList.map (·.1)=parts.toList.map (·.1):=by rw [Array.toList_map,List.map_map];rfl
     obtain ⟨C,c1,c2,c3,c4,c5⟩:=fill_rows hL he hce (parts.map fun (i,x)=>(i,a.eval x)).toList l (List.replicate n z) (madeCells zcs.toArray (n * E.P.cellsOf e)) m1 (by rw [size_madeCells,List.length_replicate,hce]) (by simp [q1])
      (fun k i v x hk hx=>by
       obtain ⟨y,hy,rfl⟩:=parts_get hk
       have hf:=hall (i,y) (List.mem_of_getElem? hy)
       have hs:(parts.toList.map fun x=>st.get E.P e x.2)[k]?=some (st.get E.P e y):=by rw [List.getElem?_map,hy];rfl
       obtain ⟨xs,x1,x2⟩:=(get_sound hR e y).pvT (q3 k _ x hs hx)
       exact ⟨by simpa using hf,xs,x1.cells (x2.one hL),x2⟩) m2
     rw [hfst] at c2 c5
     rw [List.length_replicate] at c5
     rw [size_madeCells] at c3
     generalize ((parts.toList.map (·.1)).zip l).foldl (fun p x=>p.set x.1 x.2) (List.replicate n z)=rr at h c2 c5
     have hrun:(execOp a.eval o).run E.P w=.ok (.value (.slice (some ⟨w.heap.size,0,none⟩) rr.length n)) (w.alloc (.cells C e)):=by
      unfold execOp;rw [ho]
      simp only
      rw [Sem.run_bind]
      have hb:(Instr.buildSlice t n (parts.map fun (i,x)=>(i,a.eval x))).run E.P w=.ok (.slice (some ⟨w.heap.size,0,none⟩) n n) (w.alloc (.cells C e)):=by
       rw [hce] at c1 hsm
       unfold madeCells at c1
       by_cases h0:n * it.size=0
       ·rw [h0,show (Array.map (fun x=>zcs.toArray[x % zcs.toArray.size]!) (Array.range 0))=#[] by simp] at c1
        unfold Instr.buildSlice
        rw [Sem.run_bind,run_underlying hu,Result.andThen_ok]
        simp only [Sem.run_bind,sizeOf,typeInfo,run_program,Result.andThen_ok,i1,Sem.run_pure,h0,Nat.not_lt_zero,gt_iff_lt,if_false,if_true,Array.range_zero',Array.map_empty,c1]
        rfl
       ·exact run_buildSlice w t e n _ C it zv hu i1 i2 (by omega) h0 (by rw [z4];exact c1)
      rw [hb,c5];rfl
     by_cases hown:E.nilOwn d=true
     ·rw [hown,cond_true] at h
      exact q_rowOwn hR hk hu he c2 c4 c3 (by omega) (le_maxLen (by omega)) (fun o _=>by omega) hd hlo hrun rfl rfl rfl h
     ·rw [show E.nilOwn d=false by simpa using hown,cond_false] at h
      exact q_rowVal hR hk hu c2 c3 (by omega) (le_maxLen (by omega)) hrun rfl rfl rfl h
  | _=>cases h

end
end Go.X
namespace Go.X
open Go
section
variable {E : Env} {w0 : World} {F : Foot} {Mo : Nat → Prop} {st : St} {K : SV → Obs → Option Out} {r : Out} {a : Act} {w : World} {β : Beta}

theorem q_makeSlice (hL:laidOutB E.P=true)(hR:Rel E.P Mo β st.T st.B a.tmps.toList w)(hk:Kp w0 F β st.B w){o:Oper}{t:TypeId}{x y:Operand}(ho:o.op=.makeSlice t x y)
  (hd:Obs.get st.B (o.dst.getD 0)=none)(hlo:o.dst.getD 0 < lowB)(h:opQ0 E o st K=some r):QOk E w0 F Mo β o st K r a w:=by
 have hx:=get_sound hR o.type x
 have hy:=get_sound hR o.type y
 unfold opQ0 at h
 rw [ho] at h
 simp only at h
 generalize o.dst.getD 0=d at h hd hlo
 generalize st.get E.P o.type x=sx at h hx
 generalize st.get E.P o.type y=sy at h hy
 generalize hvx:a.eval x=vx at hx
 generalize hvy:a.eval y=vy at hy
 cases hu:E.P.underlying t with
 | none=>rw [hu] at h;cases h
 | some dd =>
  rw [hu] at h
  cases dd with
  | slice e =>
   cases hx with
   | @int k n _ =>
    cases hy with
    | @int k' m _ =>
     simp only at h
     cases hz:zeroPV E.P e with
     | none=>rw [hz] at h;cases h
     | some z =>
      obtain ⟨zv,zcs,z1,z2,z3,z4⟩:=zeroPV_spec hz
      obtain ⟨it,i1,i2⟩:=run_zero_und z1
      have hzr:Rd E.P w (Mut Mo β st.B) e z zcs:=pvC_sound 10 z3
      rw [hz] at h
      simp only at h
      obtain ⟨hc,h9⟩:=cond_some h
      clear h
      simp only [Bool.and_eq_true,decide_eq_true_eq,roomy] at hc
      obtain ⟨⟨⟨he,h0⟩,rfl⟩,h1,h2⟩:=hc
      have hce:E.P.cellsOf e=it.size:=by unfold Program.cellsOf;rw [i1];rfl
      have hbe:E.P.bytesOf e=it.bytes:=by unfold Program.bytesOf;rw [i1];rfl
      obtain ⟨m1,m2⟩:=made_rows hL he hzr n.toNat
      obtain ⟨k,rfl⟩:∃ k:Nat,n=k:=⟨n.toNat,by omega⟩
      rw [Int.toNat_natCast] at h9 h1 h2 m1 m2
      have hb:((it.bytes * k:Nat):Int)≤281474976710656:=by
       have:it.bytes * k≤35184372088832:=by rw [←hbe,Nat.mul_comm];exact h1
       omega
      rw [Int.natCast_mul] at hb
      have hrun:(execOp a.eval o).run E.P w=.ok (.value (.slice (some ⟨w.heap.size,0,none⟩) (List.replicate k z).length k)) (w.alloc (.cells (madeCells zcs.toArray (k * E.P.cellsOf e)) e)):=by
       unfold execOp;rw [ho]
       simp only
       rw [hvx,hvy,Sem.run_bind,run_make w t e it zv hu i1 i2 _ _ k k (by omega) (by omega) hb (by omega),z4,hce]
       rw [Int.toNat_natCast,List.length_replicate]
       rfl
      by_cases hown:E.nilOwn d=true
      ·rw [hown,cond_true] at h9
       exact q_rowOwn hR hk hu he m1 m2 (by rw [size_madeCells]) (by simp) (by unfold maxLen;omega) (fun o _=>by omega) hd hlo hrun rfl rfl rfl h9
      ·rw [show E.nilOwn d=false by simpa using hown,cond_false] at h9
       exact q_rowVal hR hk hu m1 (by rw [size_madeCells]) (by simp) (by unfold maxLen;omega) hrun rfl rfl rfl h9
    | _=>cases h
   | _=>first|(cases h;done)|(revert h;split <;> intro h <;> first|(cases h;done)|skip)
  | _=>cases h

theorem byte_cell {P:Program}{M:Nat→Prop}{e:TypeId}{p:PV}{cs:List Value}(he:P.underlying e=some (.int .u8))(hr:Rd P w M e p cs):∃ n,p=.int n∧cs=[.int .u8 n]∧0≤n∧n < 256:=by
 cases hr with
 | @int _ k n hu hw =>
  rw [he] at hu;injection hu with hu;injection hu with hu;subst hu
  refine ⟨n,rfl,rfl,?_⟩
  unfold Lit.wf at hw
  simp only [Bool.and_eq_true,decide_eq_true_eq] at hw
  have e1:IntKind.u8.min=0:=by decide
  have e2:IntKind.u8.max=255:=by decide
  omega
 | bool hu=>rw [he] at hu;cases hu
 | str hu=>rw [he] at hu;cases hu
 | flt hu=>rw [he] at hu;cases hu
 | nilSlice hu=>rw [he] at hu;cases hu
 | slice hu=>rw [he] at hu;cases hu
 | nilPtr hu=>rw [he] at hu;cases hu
 | ref hu=>rw [he] at hu;cases hu
 | nilIface hu=>rw [he] at hu;cases hu
 | struct hu=>rw [he] at hu;cases hu
 | arr hu=>rw [he] at hu;cases hu

end
end Go.X
namespace Go.X
open Go
section
variable {E : Env} {w0 : World} {F : Foot} {Mo : Nat → Prop} {st : St} {K : SV → Obs → Option Out} {r : Out} {a : Act} {w : World} {β : Beta}

theorem push_chars:∀ (l:List Int)(s:ByteArray),(∀ n ∈ l,0≤n∧n < 256)→chars (l.foldl (fun r n=>r.push (UInt8.ofNat n.toNat)) s)=chars s++l
 | [],s,_=>by simp
 | n :: l,s,h=>by
  rw [List.foldl_cons,push_chars l _ (fun m hm=>h m (by simp [hm]))]
  have hn:=h n (by simp)
  have:chars (s.push (UInt8.ofNat n.toNat))=chars s++[n]:=by
   unfold chars ByteArray.push
   simp only [Array.toList_push,List.map_append,List.map_cons,List.map_nil]
   congr 2
   have:(UInt8.ofNat n.toNat).toNat=n.toNat:=by rw [UInt8.toNat_ofNat'];omega
   rw [this];omega
  rw [this,List.append_assoc];rfl

theorem pvnum_list {l:List PV}(h:∀ p ∈ l,∃ n,p=.int n∧0≤n∧n < 256):∃ ns:List Int,l=ns.map .int∧l.map PV.num=ns∧∀ n ∈ ns,0≤n∧n < 256:=by
 induction l with
 | nil=>exact ⟨[],rfl,rfl,by simp⟩
 | cons p l ih =>
  obtain ⟨ns,h1,h2,h3⟩:=ih (fun q hq=>h q (by simp [hq]))
  obtain ⟨n,rfl,hn⟩:=h p (by simp)
  refine ⟨n :: ns,by simp [h1],by simp [h2,PV.num],fun m hm=>?_⟩
  rcases List.mem_cons.1 hm with rfl|hm
  ·exact hn
  ·exact h3 m hm

theorem bytes_run (hR:Rel E.P Mo β st.T st.B a.tmps.toList w){e:TypeId}{s:SV}{v:Value}{l:List PV}(hs:RS E.P w (Mut Mo β st.B) β st.B s v)(h:st.elems E.P e s=some l)(he:E.P.underlying e=some (.int .u8))(hce:E.P.cellsOf e=1) :
  ∃ (p:Option Addr)(n c:Nat)(b:ByteArray),v=.slice p n c∧(Conv.bytesToString v).run E.P w=.ok (.string b) w∧chars b=l.map PV.num∧b.size≤maxLen:=by
 rcases elems_sound hR hs h with ⟨rfl,rfl⟩|⟨ad,c,cs,rfl,hlc,hcm,hcell,hrd⟩
 ·exact ⟨none,0,0,ByteArray.empty,rfl,rfl,rfl,Nat.zero_le _⟩
 ·have hb:∀ i (p:PV),l[i]?=some p→∃ n,p=.int n∧cs i=[.int .u8 n]∧0≤n∧n < 256:=fun i p hp=>byte_cell he (hrd i p hp)
  obtain ⟨ns,n1,n2,n3⟩:=pvnum_list (l:=l) (fun p hp=>by
   obtain ⟨i,hi⟩:=List.getElem?_of_mem hp
   obtain ⟨n,h1,_,h2⟩:=hb i p hi
   exact ⟨n,h1,h2⟩)
  have hload:(loadCells ad l.length).run E.P w=.ok (ns.map (Value.int .u8)).toArray w:=by
   have:=run_loadCells_list (P:=E.P) w ad (ns.map (Value.int .u8)) (fun j x hj=>by
    rw [List.getElem?_map] at hj
    cases hn:ns[j]? with
    | none=>rw [hn] at hj;cases hj
    | some m =>
     rw [hn] at hj
     replace hj:Value.int .u8 m=x:=by injection hj
     subst hj
     have hlj:l[j]?=some (.int m):=by rw [n1,List.getElem?_map,hn];rfl
     obtain ⟨m',k1,k2,_⟩:=hb j _ hlj
     injection k1 with k1;subst k1
     have:=(hcell j (get_lt hlj)).2 0 (.int .u8 m) (by rw [k2];rfl)
     rw [add_add,hce,Nat.mul_one,Nat.add_zero] at this
     exact this)
   rw [List.length_map] at this
   rwa [show l.length=ns.length by rw [n1,List.length_map]]
  refine ⟨some ad,l.length,c,_,rfl,run_bytesToString w ad l.length c ns hload,?_,?_⟩
  ·rw [push_chars ns _ n3,n2];rfl
  ·rw [←chars_len,push_chars ns _ n3]
   have:ns.length=l.length:=by rw [n1,List.length_map]
   rw [List.length_append,this]
   show 0+l.length≤maxLen
   omega

theorem bytesRow_rows (hL:laidOutB E.P=true){M:Nat→Prop}{e:TypeId}(he:E.P.underlying e=some (.int .u8))(hlt:e < E.P.types.size)(s:ByteArray)(c:Nat)(hc:s.size≤c) :
  Rows E.P w M e ((chars s).map .int) (bytesRow s c).toList∧(∀ x ∈ (bytesRow s c).toList,x.oneCell'=true)∧(bytesRow s c).size=c * E.P.cellsOf e:=by
 have hce:E.P.cellsOf e=1:=cells1 hL hlt (by rw [he];rfl) (by simp [isAggT,he])
 refine ⟨fun i p hi=>?_,fun x hx=>?_,?_⟩
 ·rw [hce,Nat.mul_one]
  rw [List.getElem?_map] at hi
  unfold chars at hi
  rw [List.getElem?_map] at hi
  cases hn:s.data.toList[i]? with
  | none=>rw [hn] at hi;cases hi
  | some b =>
   rw [hn] at hi
   replace hi:PV.int (b.toNat:Int)=p:=by injection hi
   subst hi
   have hlt':=get_lt hn
   have hb:(bytesRow s c).toList[i]?=some (.int .u8 (b.toNat:Int)):=by
    rw [Array.getElem?_toList,bytesRow_at s c i (by simpa using hlt')]
    rw [List.getElem?_eq_getElem hlt'] at hn
    injection hn with hn
    rw [←hn];simp
   have hsub:sub (bytesRow s c).toList i 1=[.int .u8 (b.toNat:Int)]:=by
    unfold sub
    rw [List.take_one,List.head?_drop,hb];rfl
   rw [hsub]
   refine .int he ?_
   unfold Lit.wf
   have e1:IntKind.u8.min=0:=by decide
   have e2:IntKind.u8.max=255:=by decide
   have:=b.toNat_lt
   simp only [Bool.and_eq_true,decide_eq_true_eq]
   omega
 ·unfold bytesRow at hx
  simp only [Array.toList_append,Array.toList_map,Array.toList_replicate,List.mem_append,List.mem_map,List.mem_replicate] at hx
  rcases hx with ⟨b,_,rfl⟩|⟨_,rfl⟩ <;> rfl
 ·rw [hce,Nat.mul_one]
  unfold bytesRow
  have:s.data.size=s.size:=rfl
  simp only [Array.size_append,Array.size_map,Array.size_replicate];omega

theorem q_convert (hL:laidOutB E.P=true)(hR:Rel E.P Mo β st.T st.B a.tmps.toList w)(hk:Kp w0 F β st.B w){o:Oper}{s t:TypeId}{x:Operand}(ho:o.op=.convert s t x)
  (hd:Obs.get st.B (o.dst.getD 0)=none)(hlo:o.dst.getD 0 < lowB)(h:opQ0 E o st K=some r):QOk E w0 F Mo β o st K r a w:=by
 have hx:=get_sound hR o.type x
 unfold opQ0 at h
 rw [ho] at h
 simp only at h
 generalize o.dst.getD 0=d at h hd hlo
 generalize st.get E.P o.type x=sx at h hx
 generalize hvx:a.eval x=vx at hx
 have run1:∀ {v:Value}{w':World},(convert s t vx).run E.P w=.ok v w'→(execOp a.eval o).run E.P w=.ok (.value v) w':=by
  intro v w' h
  unfold execOp;rw [ho]
  simp only
  rw [hvx,Sem.run_bind,h];rfl
 split at h
 ·-- numbers
  rename_i ks kt ki n hs ht
  cases hx with
  | int hw =>
   refine QOk.val hR hk h (run1 (v:=.int kt (kt.wrap n)) ?_) (.int (wf_wrap _ _))
   simp [convert,run_underlying hs,run_underlying ht,Conv.intToInt]
 ·-- a text
  rename_i l hs ht
  cases hx with
  | str hw =>
   refine QOk.val hR hk h (run1 ?_) (.str hw)
   simp [convert,run_underlying hs,run_underlying ht]
 ·-- a text's bytes
  rename_i e l hs ht
  generalize hsx:SV.str l=sx' at hx
  cases hx with
  | @str b hw =>
   injection hsx with hsx
   subst hsx
   cases hue:E.P.underlying e with
   | none=>rw [hue] at h;cases h
   | some de =>
    rw [hue] at h
    split at h
    ·rename_i hde
     injection hde with hde;subst hde
     obtain ⟨hc,h⟩:=cond_some h
     simp only [Bool.and_eq_true,decide_eq_true_eq,roomy] at hc
     obtain ⟨he,_⟩:=hc
     have hge:=grownCap_ge w b.size 0 e
     obtain ⟨r1,r2,r3⟩:=bytesRow_rows (w:=w) (M:=Mut Mo β st.B) hL hue he b _ hge
     have hlen:((chars b).map PV.int).length=b.size:=by rw [List.length_map,chars_len]
     have hrun:=run1 (run_bytes_of_string w s t e b hs ht hue)
     rw [←hlen] at hrun hge
     have hcm:=grownCap_le_maxLen w b.size 0 e hw
     rw [←hlen] at hcm r1 r2 r3
     by_cases hown:E.nilOwn d=true
     ·rw [hown,cond_true] at h
      exact q_rowOwn hR hk ht he r1 r2 r3 hge hcm (fun o ho=>by simp only;omega) hd hlo hrun rfl rfl rfl h
     ·rw [show E.nilOwn d=false by simpa using hown,cond_false] at h
      exact q_rowVal hR hk ht r1 r3 hge hcm hrun rfl rfl rfl h
    ·cases h
  | _=>cases hsx
 ·-- bytes as a text
  rename_i e hs ht
  split at h
  ·rename_i l hue hel
   obtain ⟨hlt',h⟩:=cond_some h
   have hlt:E.P.cellsOf e=1:=cells1 hL (by simpa using hlt') (by rw [hue];rfl) (by simp [isAggT,hue])
   obtain ⟨p,n,c,b,rfl,hb,hcb,hbl⟩:=bytes_run hR hx hel hue hlt
   rw [←hcb] at h
   refine QOk.val hR hk h (run1 ?_) (.str hbl)
   rw [run_convert_bytes_string w s t e p n c hs hue ht]
   exact hb
  ·cases h
 ·cases h

/-! ### Maps whose keys are arrays of whole numbers -/
theorem keyOk_spec {P:Program}{k:TypeId}(h:keyOk P k=true):∃ n e q,P.underlying k=some (.array n e)∧P.underlying e=some (.int q)∧cmpOk P 20 k=true∧k < P.types.size:=by
 unfold keyOk at h
 split at h
 ·rename_i n e hk
  split at h
  ·rename_i q he
   simp only [Bool.and_eq_true,decide_eq_true_eq] at h
   exact ⟨n,e,q,hk,he,h.1,h.2⟩
  ·cases h
 ·cases h
theorem run_checkKey_num {P:Program}{w:World}{e:TypeId}{q:IntKind}(he:P.underlying e=some (.int q))(b:Bool)(n:Nat)(v:Value):(Instr.checkKey b (n+1) e v).run P w=.ok () w:=by
 rw [Instr.checkKey]
 rw [Sem.run_bind,run_underlying he,Result.andThen_ok]
 cases v <;> rfl
theorem run_checkKey_nums {P:Program}{w:World}{k e:TypeId}{n:Nat}{q:IntKind}(hu:P.underlying k=some (.array n e))(he:P.underlying e=some (.int q)){cs:List Value}
  (hp:∀ j,j < n→∃ v,Pack P e v (sub cs (j * P.cellsOf e) (P.cellsOf e)))(b:Bool)(m:Nat):(Instr.checkKey b (m+2) k (.agg cs.toArray)).run P w=.ok () w:=by
 rw [show m+2=(m+1)+1 from rfl,Instr.checkKey]
 simp only [Sem.run_bind,run_underlying hu,Result.andThen_ok]
 simp only [Std.Legacy.Range.forIn_eq_forIn_range',Std.Legacy.Range.size,Nat.sub_zero,Nat.add_one_sub_one,Nat.div_one]
 have each:∀ j ∈ List.range' 0 n,j < n:=fun j hj=>by simpa using hj
 generalize List.range' 0 n=is at each
 induction is with
 | nil=>simp
 | cons j is ih =>
  obtain ⟨v,hv⟩:=hp j (each j (by simp))
  simp only [List.forIn_cons,Sem.run_bind,run_sizeT he,Result.andThen_ok,run_part he hv,run_checkKey_num he,Sem.run_pure]
  exact ih (fun y hy=>each y (by simp [hy]))
theorem key_facts {P:Program}(hL:laidOutB P=true){w:World}{M:Nat→Prop}{k e:TypeId}{n:Nat}{q:IntKind}(hu:P.underlying k=some (.array n e))(he:P.underlying e=some (.int q))(hk:k < P.types.size)
  {p:PV}{cs:List Value}{v:Value}(hr:Rd P w M k p cs)(hv:Pack P k v cs):v=.agg cs.toArray∧∃ l,p=.agg l∧l.length=n∧cs.length=n∧∀ i,i < n→∃ x,l[i]?=some (.int x)∧cs[i]?=some (.int q x):=by
 have hag:isAggT P k=true:=by simp [isAggT,hu]
 unfold Pack at hv;rw [if_pos hag] at hv
 refine ⟨hv,?_⟩
 obtain ⟨he2,hc⟩:=layA hL hk hu
 have h1:P.cellsOf e=1:=cells1 hL he2 (by rw [he];rfl) (by simp [isAggT,he])
 rw [h1,Nat.mul_one] at hc
 cases hr with
 | @arr _ n' e' l cs hu' _ hl hcl hf =>
  rw [hu] at hu';injection hu' with hu';injection hu' with a1 a2;subst a1;subst a2
  refine ⟨l,rfl,hl,hcl.trans hc,fun i hi=>?_⟩
  have hli:l[i]?=some l[i]:=List.getElem?_eq_getElem (by omega)
  have hr:=hf i _ hli
  rw [h1,Nat.mul_one] at hr
  generalize hcs:(cs.drop i).take 1=ds at hr
  generalize l[i]=pi at hli hr
  have hci:∀ d,ds=[d]→cs[i]?=some d:=by
   intro d hd
   have:(ds)[0]?=some d:=by rw [hd];rfl
   rw [←hcs,List.getElem?_take_of_lt (by omega),List.getElem?_drop] at this
   simpa using this
  cases hr with
  | @int _ q' x hq _ =>
   rw [he] at hq;injection hq with hq;injection hq with hq;subst hq
   exact ⟨x,hli,hci _ rfl⟩
  | bool h=>rw [he] at h;cases h
  | str h=>rw [he] at h;cases h
  | flt h=>rw [he] at h;cases h
  | nilSlice h=>rw [he] at h;cases h
  | slice h=>rw [he] at h;cases h
  | nilPtr h=>rw [he] at h;cases h
  | ref h=>rw [he] at h;cases h
  | nilIface h=>rw [he] at h;cases h
  | struct h=>rw [he] at h;cases h
  | arr h=>rw [he] at h;cases h
 | int h=>rw [hu] at h;cases h
 | bool h=>rw [hu] at h;cases h
 | str h=>rw [hu] at h;cases h
 | flt h=>rw [hu] at h;cases h
 | nilSlice h=>rw [hu] at h;cases h
 | slice h=>rw [hu] at h;cases h
 | nilPtr h=>rw [hu] at h;cases h
 | ref h=>rw [hu] at h;cases h
 | nilIface h=>rw [hu] at h;cases h
 | struct h=>rw [hu] at h;cases h
theorem key_check {P:Program}(hL:laidOutB P=true){w:World}{M:Nat→Prop}{k e:TypeId}{n:Nat}{q:IntKind}(hu:P.underlying k=some (.array n e))(he:P.underlying e=some (.int q))(hk:k < P.types.size)
  {p:PV}{cs:List Value}{v:Value}(hr:Rd P w M k p cs)(hv:Pack P k v cs)(b:Bool):(Instr.checkKey b 10000 k v).run P w=.ok () w:=by
 obtain ⟨rfl,l,_,_,hcl,hf⟩:=key_facts hL hu he hk hr hv
 obtain ⟨he2,hc⟩:=layA hL hk hu
 have h1:P.cellsOf e=1:=cells1 hL he2 (by rw [he];rfl) (by simp [isAggT,he])
 refine run_checkKey_nums hu he (fun j hj=>?_) b 9998
 obtain ⟨x,_,hx⟩:=hf j hj
 refine ⟨.int q x,?_⟩
 unfold Pack
 rw [if_neg (by simp [isAggT,he]),h1,Nat.mul_one]
 apply List.ext_getElem?
 intro i
 rw [sub_get]
 match i with
 | 0=>rw [if_pos (by omega),Nat.add_zero,hx];rfl
 | i+1=>rw [if_neg (by omega)];rfl
def Ents (P:Program)(w:World)(M:Nat→Prop)(k e:TypeId)(es:List MapEntry)(l:List PV):Prop :=
 l.length=es.length∧∀ (i:Nat)(x:MapEntry),es[i]?=some x→∃ pk pv ck cv,l[i]?=some (.agg [pk,pv])∧Pack P k x.key ck∧Rd P w M k pk ck∧Pack P e x.val cv∧Rd P w M e pv cv
theorem run_findAsking {P:Program}{w:World}{M:Nat→Prop}{k e:TypeId}(hk:cmpOk P 20 k=true){kv:Value}{ck:List Value}{pk:PV}(hkv:Pack P k kv ck)(hkr:Rd P w M k pk ck) :
  ∀ (es:List MapEntry)(l:List PV)(i:Nat),Ents P w M k e es l →
  ((∀ z,mlook pk z l=z)∧(∀ v,mput pk v l=l++[.agg [pk,v]])∧(Instr.findAsking k kv es i).run P w=.ok none w) ∨
  (∃ j x pk' pv,es[j]?=some x∧l[j]?=some (.agg [pk',pv])∧PV.beq pk pk'=true∧(∀ z,mlook pk z l=pv)∧(∀ v,mput pk v l=l.set j (.agg [pk,v]))∧(Instr.findAsking k kv es i).run P w=.ok (some (i+j,x.val)) w)
 | [],[],i,_=>.inl ⟨fun _=>rfl,fun _=>rfl,rfl⟩
 | [],_ :: _,i,h=>by simp [Ents] at h
 | _ :: _,[],i,h=>by simp [Ents] at h
 | x :: es,y :: l,i,h=>by
  obtain ⟨h1,h2⟩:=h
  obtain ⟨pk',pv,ck',cv,g1,g2,g3,g4,g5⟩:=h2 0 x rfl
  have g1:y=.agg [pk',pv]:=by simpa using g1
  subst g1
  have he:(Op.equal k kv x.key).run P w=.ok (PV.beq pk pk') w:=eq_sound 20 hk hkr g3 hkv g2 9980
  have ih:=run_findAsking hk hkv hkr es l (i+1) ⟨by simpa using h1,fun j x hx=>h2 (j+1) x (by simpa using hx)⟩
  have hrun:(Instr.findAsking k kv (x :: es) i).run P w=if PV.beq pk pk'=true then .ok (some (i,x.val)) w else (Instr.findAsking k kv es (i+1)).run P w:=by
   rw [Instr.findAsking,Sem.run_bind,he,Result.andThen_ok]
   cases PV.beq pk pk' <;> rfl
  cases hb:PV.beq pk pk' with
  | true =>
   rw [hb,if_pos rfl] at hrun
   refine .inr ⟨0,x,pk',pv,rfl,rfl,hb,fun z=>?_,fun v=>?_,hrun⟩
   ·show (bif PV.beq pk pk' then pv else _)=_
    rw [hb];rfl
   ·show (bif PV.beq pk pk' then _ else _)=_
    rw [hb];rfl
  | false =>
   rw [hb,if_neg (by simp)] at hrun
   have l1:∀ z,mlook pk z (.agg [pk',pv] :: l)=mlook pk z l:=fun z=>by
    show (bif PV.beq pk pk' then pv else _)=_
    rw [hb];rfl
   have l2:∀ v,mput pk v (.agg [pk',pv] :: l)=.agg [pk',pv] :: mput pk v l:=fun v=>by
    show (bif PV.beq pk pk' then _ else _)=_
    rw [hb];rfl
   rcases ih with ⟨a1,a2,a3⟩|⟨j,x',pk2,pv2,a1,a2,a3,a4,a5,a6⟩
   ·exact .inl ⟨fun z=>(l1 z).trans (a1 z),fun v=>by rw [l2,a2];rfl,hrun.trans a3⟩
   ·refine .inr ⟨j+1,x',pk2,pv2,a1,a2,a3,fun z=>(l1 z).trans (a4 z),fun v=>by rw [l2,a5];rfl,?_⟩
    rw [hrun,a6,show i+1+j=i+(j+1) by omega]
theorem run_findKey_arr {P:Program}{w:World}{k e:TypeId}{n:Nat}(hu:P.underlying k=some (.array n e)){kv:Value}(es:List MapEntry){o:Option (Nat × Value)}(h:(Instr.findAsking k kv es 0).run P w=.ok o w):(Instr.findKey k kv es).run P w=.ok o w:=by
 unfold Instr.findKey
 rw [Sem.run_bind,run_underlying hu,Result.andThen_ok]
 cases es with
 | nil=>exact h
 | cons x es=>exact h
theorem q_makeMap (hR:Rel E.P Mo β st.T st.B a.tmps.toList w)(hk:Kp w0 F β st.B w){o:Oper}{t:TypeId}(ho:o.op=.makeMap t none)(hd:Obs.get st.B (o.dst.getD 0)=none)(hlo:o.dst.getD 0 < lowB)(h:opQ0 E o st K=some r):QOk E w0 F Mo β o st K r a w:=by
 unfold opQ0 at h
 rw [ho] at h
 simp only at h
 split at h
 ·rename_i k e hu
  have hrun:(execOp a.eval o).run E.P w=.ok (.value (.map (some w.heap.size))) { w with heap:=w.heap.push (.map #[] 0) }:=by
   unfold execOp;rw [ho];rfl
  refine QOk.lay (x:=some (w.heap.size,0)) hR hk hd hlo h hrun (by simp) (fun b hb=>push_old hb) (fun b c hx=>?_) rfl rfl (fun hsame=>?_) ?_
  ·injection hx with hx;injection hx with h2 h3;subst h2;exact ⟨Nat.le_refl _,by simp⟩
  ·exact ⟨w.heap.size,0,k,e,#[],0,at_self _ _ _,push_new,hu,rfl,fun i x hx=>by simp at hx⟩
  ·exact .mp hu (ins_self (lowHL hlo) _ _) (at_self _ _ _) (lowHL hlo)
 ·cases h
theorem q_lookup (hL:laidOutB E.P=true)(hR:Rel E.P Mo β st.T st.B a.tmps.toList w)(hk:Kp w0 F β st.B w){o:Oper}{t:TypeId}{x i:Operand}(ho:o.op=.lookup t x i false)(h:opQ0 E o st K=some r):QOk E w0 F Mo β o st K r a w:=by
 have hx:=get_sound hR t x
 unfold opQ0 at h
 rw [ho] at h
 simp only at h
 split at h
 ·rename_i k e u0 m hu hg
  split at h
  ·rename_i t' l pk z hob hpk hz
   obtain ⟨hc,hK⟩:=cond_some h
   clear h
   simp only [Bool.and_eq_true,beq_iff_eq] at hc
   obtain ⟨htt,hko⟩:=hc
   rw [htt] at hob
   rw [hg] at hx
   have hi:=get_sound hR k i
   obtain ⟨ck,c1,c2⟩:=hi.pvT hpk
   obtain ⟨n,ke,q,k1,k2,k3,k4⟩:=keyOk_spec hko
   generalize hvx:a.eval x=vx at hx
   generalize hvi:a.eval i=vi at c1
   cases hx with
   | @mp _ _ k' e' b c ob hu' hob' hβ _ =>
    rw [hob] at hob';injection hob' with hob';subst hob'
    obtain ⟨b',c',k2',e2,es,clock,h1,h2,h3,h4,h5⟩:=hR.ob m _ hob
    rw [h1] at hβ;injection hβ with hβ;injection hβ with hb hc;subst hb;subst hc
    rw [hu] at h3;injection h3 with h3;injection h3 with e1 e2';subst e1;subst e2'
    have hents:Ents E.P w (Mut Mo β st.B) k e es.toList l:=⟨by simpa using h4,fun i x hx=>h5 i x (by simpa using hx)⟩
    obtain ⟨zv,zcs,z1,z2,z3,z4⟩:=zeroPV_spec hz
    have hzr:Rd E.P w (Mut Mo β st.B) e z zcs:=pvC_sound 10 z3
    have hcheck:=key_check (w:=w) hL k1 k2 k4 c2 c1 es.isEmpty
    have run:∀ {v:Value},(Instr.lookup t (.map (some b')) vi false).run E.P w=.ok v w→(execOp a.eval o).run E.P w=.ok (.value v) w:=by
     intro v hv
     unfold execOp;rw [ho]
     simp only [hvx,hvi]
     rw [Sem.run_bind,hv];rfl
    have base:∀ {o:Option (Nat × Value)}{v:Value},(Instr.findKey k vi es.toList).run E.P w=.ok o w→(v=(match o with|some (_,v)=>v|none=>zv))→(Instr.lookup t (.map (some b')) vi false).run E.P w=.ok v w:=by
     intro o v hf hv
     unfold Instr.lookup
     simp only [Sem.run_bind,run_underlying hu,Result.andThen_ok,MapKept.run_getObj_map h2,Sem.run_pure,hcheck,hf]
     subst hv
     cases o with
     | none=>simp only [Sem.run_bind,z1,Result.andThen_ok,Sem.run_pure];rfl
     | some y=>rfl
    rcases run_findAsking (e:=e) k3 c1 c2 es.toList l 0 hents with ⟨a1,a2,a3⟩|⟨j,x',pk',pv,a1,a2,a3,a4,a5,a6⟩
    ·rw [a1] at hK
     exact QOk.val hR hk hK (run (base (run_findKey_arr k1 _ a3) rfl)) (RS.ofPV z2 hzr)
    ·rw [a4] at hK
     obtain ⟨pk2,pv2,ck2,cv2,b1,b2,b3,b4,b5⟩:=hents.2 j x' a1
     rw [a2] at b1;injection b1 with b1;injection b1 with b1;injection b1 with b1 b6;injection b6 with b6;subst b6
     exact QOk.val hR hk hK (run (base (run_findKey_arr k1 _ a6) rfl)) (RS.ofPV b4 b5)
  ·cases h
 ·cases h

end
end Go.X
set_option linter.unusedVariables false
set_option linter.unusedSimpArgs false
namespace Go.X
open Go
section
variable {P : Program}

theorem plainsFH_spec {P:Program}:∀ {fs:List Field}{l:List SV}{ps:List PV},plainsFH P fs l=some ps→ps.length=l.length∧fs.length=l.length ∧
  ∀ (i:Nat)(f:Field)(s:SV)(p:PV),fs[i]?=some f→l[i]?=some s→ps[i]?=some p→s.pvH P f.type=some p
 | [],[],ps,h=>by injection h with h;subst h;exact ⟨rfl,rfl,fun i f s p hf=>by simp at hf⟩
 | [],_ :: _,ps,h=>by cases h
 | _ :: _,[],ps,h=>by cases h
 | f :: fs,s :: l,ps,h=>by
  simp only [plainsFH] at h
  cases h1:s.pvH P f.type with
  | none=>rw [h1] at h;cases h
  | some p =>
   cases h2:plainsFH P fs l with
   | none=>rw [h1,h2] at h;cases h
   | some rs =>
    rw [h1,h2] at h
    replace h:p :: rs=ps:=by injection h
    subst h
    obtain ⟨g1,g2,g3⟩:=plainsFH_spec h2
    refine ⟨by simp [g1],by simp [g2],fun i f' s' p' hf hs hp=>?_⟩
    cases i with
    | zero =>
     replace hf:f=f':=by simpa using hf
     replace hs:s=s':=by simpa using hs
     replace hp:p=p':=by simpa using hp
     subst hf;subst hs;subst hp;exact h1
    | succ i=>exact g3 i f' s' p' (by simpa using hf) (by simpa using hs) (by simpa using hp)

theorem plainsEH_spec {P:Program}{e:TypeId}:∀ {l:List SV}{ps:List PV},plainsEH P e l=some ps→ps.length=l.length ∧
  ∀ (i:Nat)(s:SV)(p:PV),l[i]?=some s→ps[i]?=some p→s.pvH P e=some p
 | [],ps,h=>by injection h with h;subst h;exact ⟨rfl,fun i s p hf=>by simp at hf⟩
 | s :: l,ps,h=>by
  simp only [plainsEH] at h
  cases h1:s.pvH P e with
  | none=>rw [h1] at h;cases h
  | some p =>
   cases h2:plainsEH P e l with
   | none=>rw [h1,h2] at h;cases h
   | some rs =>
    rw [h1,h2] at h
    replace h:p :: rs=ps:=by injection h
    subst h
    obtain ⟨g1,g3⟩:=plainsEH_spec h2
    refine ⟨by simp [g1],fun i s' p' hs hp=>?_⟩
    cases i with
    | zero =>
     replace hs:s=s':=by simpa using hs
     replace hp:p=p':=by simpa using hp
     subst hs;subst hp;exact h1
    | succ i=>exact g3 i s' p' (by simpa using hs) (by simpa using hp)

theorem pvC_heap {w:World}{M:Nat→Prop}{G:Nat→Nat × Nat→Prop}:∀ (n:Nat){t:TypeId}{cs:List Value}{p:PV},pvC P n t cs=some p→RdH P w M G t p cs
 | 0,_,_,_,h=>by simp [pvC] at h
 | n+1,t,cs,p,h=>by
  have h0:Rd P w M t p cs:=pvC_sound (n+1) h
  have leaf:isAggT P t=false→refT P t=false→RdH P w M G t p cs:=fun a b=>.leaf a b h0
  unfold pvC at h
  split at h
  ·rename_i hu;exact leaf (by simp [isAggT,hu]) (by unfold refT;rw [hu])
  ·rename_i hu;exact leaf (by simp [isAggT,hu]) (by unfold refT;rw [hu])
  ·rename_i hu;exact leaf (by simp [isAggT,hu]) (by unfold refT;rw [hu])
  ·rename_i hu;exact leaf (by simp [isAggT,hu]) (by unfold refT;rw [hu])
  ·rename_i hu
   injection h with h;subst h
   cases hr:refT P t with
   | true=>exact .nils hr hu
   | false=>exact leaf (by simp [isAggT,hu]) hr
  ·rename_i hu
   injection h with h;subst h
   exact .nilp (by unfold refT;rw [hu]) hu
  ·rename_i hu;exact leaf (by simp [isAggT,hu]) (by unfold refT;rw [hu])
  ·rename_i cs _ _ fs hu
   simp only [Bool.cond_eq_ite,Bool.and_eq_true,decide_eq_true_eq] at h
   split at h
   ·rename_i hk
    cases hm:fs.toList.mapM fun f=>pvC P n f.type ((cs.drop f.offset).take (P.cellsOf f.type)) with
    | none=>rw [hm] at h;cases h
    | some l =>
     rw [hm] at h;injection h with h;subst h
     obtain ⟨h1,h2⟩:=mapM_some hm
     exact .struct hu hk.1 (by simpa using h1) hk.2 (fun i f p hf hp=>pvC_heap n (h2 i f p (by simpa using hf) hp))
   ·cases h
  ·rename_i cs _ _ m e hu
   simp only [Bool.cond_eq_ite,Bool.and_eq_true,decide_eq_true_eq] at h
   split at h
   ·rename_i hk
    cases hm:(List.range m).mapM fun i=>pvC P n e ((cs.drop (i * P.cellsOf e)).take (P.cellsOf e)) with
    | none=>rw [hm] at h;cases h
    | some l =>
     rw [hm] at h;injection h with h;subst h
     obtain ⟨h1,h2⟩:=mapM_some hm
     have hll:l.length=m:=by simpa using h1
     exact .arr hu hk.1 hll hk.2 (fun i p hp=>pvC_heap n (h2 i i p (by
      have:=get_lt hp
      rw [List.getElem?_range];omega) hp))
   ·cases h
  ·cases h

theorem fill_partsH (hL:laidOutB P=true){w:World}{M:Nat→Prop}{G:Nat→Nat × Nat→Prop}{t:TypeId}(ht:t < P.types.size)(place:Nat→Option (Nat × Nat))(stp:Nat→Stp) :
  ∀ (parts:List (Nat × Value))(ps:List PV)(p:PV)(C:Array Value),RdH P w M G t p C.toList→parts.length=ps.length →
   (∀ (k i:Nat)(v:Value)(x:PV),parts[k]?=some (i,v)→ps[k]?=some x→∃ u xs off,typT P t [stp i]=some u∧offT P t [stp i]=some off∧place i=some (off,P.cellsOf u) ∧
    v.cells.toList=xs∧RdH P w M G u x xs) →
   ∃ C',Instr.fill place C parts=some C'∧RdH P w M G t (((parts.map (·.1)).zip ps).foldl (fun p x=>p.put [stp x.1] x.2) p) C'.toList
 | [],ps,p,C,hr,_,_=>by
  refine ⟨C,rfl,?_⟩
  simpa using hr
 | (i,v) :: parts,[],p,C,hr,hl,_=>by simp at hl
 | (i,v) :: parts,x :: ps,p,C,hr,hl,h=>by
  obtain ⟨u,xs,off,h1,h2,h3,h4,h5⟩:=h 0 i v x rfl rfl
  obtain ⟨g1,g2,_⟩:=hr.get hL _ ht h1 h2
  have hxl:=h5.size hL g1
  have hCl:=hr.size hL ht
  have hCs:C.size=P.cellsOf t:=by simpa using hCl
  have hvs:v.cells.size=P.cellsOf u:=by rw [←hxl,←h4];simp
  have hput:=hr.put hL _ ht h1 h2 h5
  have hstep:(v.cells.zipIdx.foldl (fun (cs:Array Value) (c,j)=>cs.setIfInBounds (off+j) c) C)=(splice C.toList off xs).toArray:=fill_step h4 (by omega)
  obtain ⟨C',k1,k2⟩:=fill_partsH hL ht place stp parts ps (p.put [stp i] x) (splice C.toList off xs).toArray (by simpa using hput) (by simpa using hl)
   (fun k i' v' x' hk hx=>h (k+1) i' v' x' (by simpa using hk) (by simpa using hx))
  refine ⟨C',?_,k2⟩
  rw [Instr.fill]
  simp only [h3]
  rw [if_neg (by simp only [hvs,ne_eq,not_true_eq_false,decide_false,Bool.false_or,decide_eq_true_eq,gt_iff_lt];omega),hstep]
  exact k1

def RowsH (P:Program)(w:World)(M:Nat→Prop)(G:Nat→Nat × Nat→Prop)(e:TypeId)(l:List PV)(cs:List Value):Prop :=
 ∀ (i:Nat)(p:PV),l[i]?=some p→RdH P w M G e p (sub cs (i * P.cellsOf e) (P.cellsOf e))

theorem RowsH.set (hL:laidOutB P=true){w:World}{M:Nat→Prop}{G:Nat→Nat × Nat→Prop}{e:TypeId}(he:e < P.types.size){l:List PV}{cs xs:List Value}{x:PV}{i:Nat}(h:RowsH P w M G e l cs)(hl:l.length * P.cellsOf e≤cs.length)(hi:i < l.length)
  (hx:RdH P w M G e x xs):RowsH P w M G e (l.set i x) (splice cs (i * P.cellsOf e) xs):=by
 intro j p hj
 have hxl:=hx.size hL he
 have hb:=mul_within (n:=P.cellsOf e) hi
 rw [List.getElem?_set] at hj
 by_cases hij:i=j
 ·subst hij
  rw [if_pos rfl,if_pos hi] at hj
  injection hj with hj;subst hj
  have:=sub_splice_in (cs:=cs) (xs:=xs) (o:=0) (a:=i * P.cellsOf e) (n:=P.cellsOf e) (by omega) (by omega)
  rw [Nat.add_zero] at this
  rw [this,splice_all (by rw [sub_len (by omega),hxl])]
  exact hx
 ·rw [if_neg hij] at hj
  have hjl:=get_lt hj
  rw [sub_splice_out (by omega) (by rw [hxl];have:=mul_apart (n:=P.cellsOf e) hij;omega)]
  exact h j p hj

theorem RowsH.mono {w w':World}{M M':Nat→Prop}{G G':Nat→Nat × Nat→Prop}(h:Stable w M w' M')(hG:∀ i x,G i x→G' i x){e:TypeId}{l:List PV}{cs:List Value}(hr:RowsH P w M G e l cs):RowsH P w' M' G' e l cs :=
 fun i p hi=>(hr i p hi).mono h hG

theorem fill_rowsH (hL:laidOutB P=true){w:World}{M:Nat→Prop}{G:Nat→Nat × Nat→Prop}{e:TypeId}(he:e < P.types.size){sz:Nat}(hsz:P.cellsOf e=sz) :
  ∀ (parts:List (Nat × Value))(ps:List PV)(l:List PV)(C:Array Value),RowsH P w M G e l C.toList→C.size=l.length * sz→parts.length=ps.length →
   (∀ (k i:Nat)(v:Value)(x:PV),parts[k]?=some (i,v)→ps[k]?=some x→i < l.length∧∃ xs,v.cells.toList=xs∧RdH P w M G e x xs) →
   (∀ c ∈ C.toList,c.oneCell'=true) →
   ∃ C',Instr.fill (fun i=>some (i * sz,sz)) C parts=some C'∧RowsH P w M G e (((parts.map (·.1)).zip ps).foldl (fun p x=>p.set x.1 x.2) l) C'.toList∧C'.size=C.size ∧
    (∀ c ∈ C'.toList,c.oneCell'=true)∧(((parts.map (·.1)).zip ps).foldl (fun p x=>p.set x.1 x.2) l).length=l.length
 | [],ps,l,C,hr,_,_,_,h1=>⟨C,rfl,by simpa using hr,rfl,h1,by simp⟩
 | (i,v) :: parts,[],l,C,hr,_,hl,_,_=>by simp at hl
 | (i,v) :: parts,x :: ps,l,C,hr,hC,hl,h,h1=>by
  subst hsz
  obtain ⟨hi,xs,hx1,hx2⟩:=h 0 i v x rfl rfl
  have hxl:=hx2.size hL he
  have hb:=mul_within (n:=P.cellsOf e) hi
  have hvs:v.cells.size=P.cellsOf e:=by rw [←hxl,←hx1];simp
  have hstep:(v.cells.zipIdx.foldl (fun (cs:Array Value) (c,j)=>cs.setIfInBounds (i * P.cellsOf e+j) c) C)=(splice C.toList (i * P.cellsOf e) xs).toArray:=fill_step hx1 (by omega)
  have hsl:(splice C.toList (i * P.cellsOf e) xs).length=C.size:=by rw [splice_len (by simp;omega)];simp
  obtain ⟨C',k1,k2,k3,k4,k5⟩:=fill_rowsH hL he rfl parts ps (l.set i x) (splice C.toList (i * P.cellsOf e) xs).toArray (by simpa using hr.set hL he (by simp;omega) hi hx2) (by simp [hsl,hC]) (by simpa using hl)
   (fun k i' v' x' hk hx=>by
    obtain ⟨g1,g2⟩:=h (k+1) i' v' x' (by simpa using hk) (by simpa using hx)
    exact ⟨by simpa using g1,g2⟩)
   (fun c hc=>by
    rcases mem_splice (by simpa using hc) with hc|hc
    ·exact h1 c hc
    ·exact hx2.one hL c hc)
  refine ⟨C',?_,k2,by rw [k3];simp [hsl],k4,by simpa using k5⟩
  rw [Instr.fill]
  simp only
  rw [if_neg (by simp only [hvs,ne_eq,not_true_eq_false,decide_false,Bool.false_or,decide_eq_true_eq,gt_iff_lt];omega),hstep]
  exact k1

theorem made_rowsH (hL:laidOutB P=true){w:World}{M:Nat→Prop}{G:Nat→Nat × Nat→Prop}{e:TypeId}(he:e < P.types.size){z:PV}{zc:List Value}(hz:RdH P w M G e z zc)(n:Nat) :
  RowsH P w M G e (List.replicate n z) (madeCells zc.toArray (n * P.cellsOf e)).toList∧∀ c ∈ (madeCells zc.toArray (n * P.cellsOf e)).toList,c.oneCell'=true:=by
 have hzl:=hz.size hL he
 have hget:∀ k,k < n * P.cellsOf e→(madeCells zc.toArray (n * P.cellsOf e)).toList[k]?=zc[k % P.cellsOf e]?:=by
  intro k hk
  have h0:0 < P.cellsOf e:=by
   rcases Nat.eq_zero_or_pos (P.cellsOf e) with h|h
   ·rw [h] at hk;simp at hk
   ·exact h
  have hm:=Nat.mod_lt k h0
  rw [Array.getElem?_toList]
  unfold madeCells
  rw [Array.getElem?_map,Array.getElem?_range,if_pos hk]
  simp only [Option.map_some,List.size_toArray,hzl]
  rw [List.getElem?_eq_getElem (by omega)]
  rw [getElem!_pos _ _ (by simp;omega)]
  simp
 constructor
 ·intro i p hi
  have hil:=get_lt hi
  rw [List.length_replicate] at hil
  have hp:p=z:=(List.mem_replicate.1 (List.mem_of_getElem? hi)).2
  subst hp
  have hb:=mul_within (n:=P.cellsOf e) hil
  have:sub (madeCells zc.toArray (n * P.cellsOf e)).toList (i * P.cellsOf e) (P.cellsOf e)=zc:=by
   apply List.ext_getElem?
   intro k
   rw [sub_get]
   by_cases hk:k < P.cellsOf e
   ·rw [if_pos hk,hget _ (by omega),Nat.mul_comm,Nat.mul_add_mod,Nat.mod_eq_of_lt hk]
   ·rw [if_neg hk,List.getElem?_eq_none (by omega)]
  rw [this];exact hz
 ·intro c hc
  obtain ⟨k,hk⟩:=List.getElem?_of_mem hc
  have hkl:=get_lt hk
  rw [Array.length_toList,size_madeCells] at hkl
  rw [hget k hkl] at hk
  exact hz.one hL c (List.mem_of_getElem? hk)

/-! ### A heap changes -/

theorem hp_get {B:Obs}(h:Obs.hasH B=true):Obs.get0 B HL=some (.hp (Obs.hps B)):=by
 unfold Obs.hasH at h
 split at h
 ·rename_i l hl;unfold Obs.hps;rw [hl];rfl
 ·cases h
theorem setH_hps {B:Obs}(h:Obs.hasH B=true)(l:List HE):Obs.hps (Obs.setH l B)=l:=by
 unfold Obs.hps;rw [Obs.get0_setH,if_pos rfl,hp_get h];rfl
theorem setH_get {B:Obs}(h:Obs.hasH B=true)(l:List HE){d:Nat}{o:Ob}(hd:Obs.get (Obs.setH l B) d=some o) :
  (d < HL∧Obs.get B d=some o)∨(d=HL∧o=.hp l)∨∃ i,d=HB+i∧(l[i]?).bind HE.ob=some o:=by
 by_cases hl:d < HL
 ·rw [Obs.get_lo hl,Obs.get0_setH,if_neg (by omega),←Obs.get_lo hl] at hd
  exact .inl ⟨hl,hd⟩
 ·rw [Obs.get_hi hl] at hd
  rcases hiOf_some hd with ⟨h1,x,h2,h3⟩|⟨i,y,h1,h2,h3⟩
  ·subst h1
   rw [Obs.get0_setH,if_pos rfl,hp_get h] at h2
   injection h2 with h2;injection h2 with h2;subst h2
   exact .inr (.inl ⟨rfl,h3⟩)
  ·have e:hpsOf (Obs.get0 (Obs.setH l B) HL)=l:=setH_hps h l
   rw [e] at h2
   exact .inr (.inr ⟨i,h1,by rw [h2];exact h3⟩)
theorem heap_at {B:Obs}{i:Nat}{o:Ob}:Obs.get B (HB+i)=some o ↔ ((Obs.hps B)[i]?).bind HE.ob=some o:=by rw [get_heap]

structure HStep (w:World) (β:Beta)(B:Obs)(w':World) (β':Beta)(H':List HE):Prop where
 has:Obs.hasH B=true
 lo:∀ d,d < HB→β' d=β d
 size:w.heap.size≤w'.heap.size
 gh:∀ i x,i < (Obs.hps B).length→β (HB+i)=some x→i < H'.length∧β' (HB+i)=some x
 own:∀ i o b c,(H'[i]?).bind HE.ob=some o→β' (HB+i)=some (b,c)→(∃ j o' c',Obs.get B (HB+j)=some o'∧β (HB+j)=some (b,c'))∨(w.heap.size≤b∧b < w'.heap.size)
 inj:∀ i j o o' b c c',(H'[i]?).bind HE.ob=some o→(H'[j]?).bind HE.ob=some o'→β' (HB+i)=some (b,c)→β' (HB+j)=some (b,c')→i=j
 old:∀ b,b < w.heap.size→(∀ j o c,Obs.get B (HB+j)=some o→β (HB+j)≠some (b,c))→w'.heap[b]?=w.heap[b]?
 os:w'.os=w.os
 output:w'.output=w.output

theorem HStep.same {w w':World}{Mo:Nat→Prop} {β β':Beta}{B:Obs}{H':List HE}(h:HStep w β B w' β' H') :
  Same P w (Mut Mo β B) β B w' (Mut Mo β' (Obs.setH H' B)) β' (Obs.setH H' B):=by
 have hHB:=HL_HB
 refine ⟨fun b hb hlt=>⟨?_,h.old b hlt fun j o c h1 h2=>hb (.inr ⟨_,o,c,h1,h2⟩)⟩,fun d ob hd hg=>?_,fun i x hx=>?_⟩
 ·rintro (h1|⟨d,o,c,h1,h2⟩)
  ·exact hb (.inl h1)
  ·rcases setH_get h.has _ h1 with ⟨k1,k2⟩|⟨k1,k2⟩|⟨i,k1,k2⟩
   ·rw [h.lo d (by omega)] at h2
    exact hb (.inr ⟨d,o,c,k2,h2⟩)
   ·subst k1
    rw [h.lo _ (by omega)] at h2
    exact hb (.inr ⟨HL,_,c,Obs.get_hp (hp_get h.has),h2⟩) 
   ·subst k1
    rcases h.own i o b c k2 h2 with ⟨j,o',c',g1,g2⟩|g
    ·exact hb (.inr ⟨_,o',c',g1,g2⟩)
    ·omega
 ·by_cases hl:d < HL
  ·refine ⟨ob,?_,h.lo d hd,fun _ _ h=>h,fun e l he=>⟨l,he,rfl⟩⟩
   rw [Obs.get_lo hl,Obs.get0_setH,if_neg (by omega),←Obs.get_lo hl];exact hg
  ·rw [Obs.get_hi hl] at hg
   rcases hiOf_some hg with ⟨h1,x,h2,h3⟩|⟨i,y,h1,_,_⟩
   ·subst h1;subst h3
    refine ⟨.hp H',Obs.get_hp (by rw [Obs.get0_setH,if_pos rfl,h2];rfl),h.lo _ hd,fun q off hq=>(by cases hq),fun e l he=>(by cases he)⟩
   ·omega
 ·obtain ⟨g1,g2⟩:=h.gh i x hx.1 hx.2
  exact ⟨by rw [setH_hps h.has];exact g1,g2⟩

theorem HStep.rel {w w':World}{Mo:Nat→Prop} {β β':Beta}{T:List SV}{B:Obs}{vs:List Value}{H':List HE}(h:HStep w β B w' β' H')(hR:Rel P Mo β T B vs w)
  (hro:Same P w (Mut Mo β B) β B w' (Mut Mo β' (Obs.setH H' B)) β' (Obs.setH H' B)→∀ i o,(H'[i]?).bind HE.ob=some o →
   (Obs.get B (HB+i)=some o∧β' (HB+i)=β (HB+i)∧∀ b c,β (HB+i)=some (b,c)→w'.heap[b]?=w.heap[b]?)∨RO P w' (Mut Mo β' (Obs.setH H' B)) β' (Obs.setH H' B) (HB+i) o) :
  Rel P Mo β' T (Obs.setH H' B) vs w':=by
 have hHB:=HL_HB
 have hs:=h.same (P:=P) (Mo:=Mo)
 have hg:∀ d o,Obs.get (Obs.setH H' B) d=some o→(d < HB∧β' d=β d∧∃ o',Obs.get B d=some o'∧(d < HL→o'=o)∧(d=HL→o=.hp H'))∨∃ i,d=HB+i∧(H'[i]?).bind HE.ob=some o:=by
  intro d o hd
  rcases setH_get h.has _ hd with ⟨k1,k2⟩|⟨k1,k2⟩|k
  ·exact .inl ⟨by omega,h.lo d (by omega),o,k2,fun _=>rfl,fun h=>by omega⟩
  ·subst k1;exact .inl ⟨by omega,h.lo _ (by omega),_,Obs.get_hp (hp_get h.has),fun h=>by omega,fun _=>k2⟩
  ·exact .inr k
 have hmine:∀ i o b c,(H'[i]?).bind HE.ob=some o→β' (HB+i)=some (b,c)→(∃ j o' c',Obs.get B (HB+j)=some o'∧β (HB+j)=some (b,c'))∨(w.heap.size≤b∧b < w'.heap.size):=h.own
 refine ⟨hR.len,fun i s v hi hv=>(hR.slot i s v hi hv).mono hs,fun d o hd=>?_,fun d o d' o' b c c' h1 h2 h3 h4=>?_,fun d o b c h1 h2=>?_,fun d o b c h1 h2 hb=>?_,fun b hb=>Nat.lt_of_lt_of_le (hR.mo b hb) h.size,hR.gl.mono hs.st⟩
 ·rcases setH_get h.has _ hd with ⟨k1,k2⟩|⟨k1,k2⟩|⟨i,k1,k2⟩
  ·refine (hR.ob d o k2).mono hs k2 (fun b c hβ=>h.old b (hR.lt d o b c k2 hβ) fun j o' c' g1 g2=>?_)
   have:=hR.inj d o (HB+j) o' b c c' k2 g1 hβ g2
   omega
  ·subst k1;subst k2
   show β' HL=none
   rw [h.lo _ (by omega)]
   exact hR.ob HL _ (Obs.get_hp (hp_get h.has))
  ·subst k1
   rcases hro hs i o k2 with ⟨g1,g2,g3⟩|g
   ·exact (hR.ob _ o g1).mono hs g1 g3
   ·exact g
 ·rcases hg d o h1 with ⟨a1,a2,x,a3,_⟩|⟨i,a1,a2⟩ <;> rcases hg d' o' h2 with ⟨b1,b2,y,b3,_⟩|⟨j,b1,b2⟩
  ·rw [a2] at h3;rw [b2] at h4
   exact hR.inj d x d' y b c c' a3 b3 h3 h4
  ·rw [a2] at h3;subst b1
   rcases hmine j o' b c' b2 h4 with ⟨k,z,c2,g1,g2⟩|g
   ·have:=hR.inj d x _ z b c c2 a3 g1 h3 g2
    omega
   ·have:=hR.lt d x b c a3 h3;omega
  ·rw [b2] at h4;subst a1
   rcases hmine i o b c a2 h3 with ⟨k,z,c2,g1,g2⟩|g
   ·have:=hR.inj d' y _ z b c' c2 b3 g1 h4 g2
    omega
   ·have:=hR.lt d' y b c' b3 h4;omega
  ·subst a1;subst b1
   rw [h.inj i j o o' b c c' a2 b2 h3 h4]
 ·rcases hg d o h1 with ⟨a1,a2,x,a3,_⟩|⟨i,a1,a2⟩
  ·rw [a2] at h2;exact Nat.lt_of_lt_of_le (hR.lt d x b c a3 h2) h.size
  ·subst a1
   rcases hmine i o b c a2 h2 with ⟨k,z,c2,g1,g2⟩|g
   ·exact Nat.lt_of_lt_of_le (hR.lt _ z b c2 g1 g2) h.size
   ·exact g.2
 ·rcases hg d o h1 with ⟨a1,a2,x,a3,_⟩|⟨i,a1,a2⟩
  ·rw [a2] at h2;exact hR.out d x b c a3 h2 hb
  ·subst a1
   rcases hmine i o b c a2 h2 with ⟨k,z,c2,g1,g2⟩|g
   ·exact hR.out _ z b c2 g1 g2 hb
   ·have:=hR.mo b hb;omega

theorem HStep.kp {w0 w w':World}{F:Foot} {β β':Beta}{B:Obs}{H':List HE}(h:HStep w β B w' β' H')(hk:Kp w0 F β B w):Kp w0 F β' (Obs.setH H' B) w':=by
 have hHB:=HL_HB
 refine ⟨Nat.le_trans hk.size h.size,fun b hb hf=>?_,fun b hb=>?_,h.os.trans hk.os,h.output.trans hk.output,fun n t b o hn ho=>?_,hk.low,fun i x hx=>?_⟩
 ·rw [h.old b (Nat.lt_of_lt_of_le hb hk.size) fun j o c g1 g2=>?_]
  ·exact hk.old b hb hf
  ·rcases hk.mine b ⟨_,o,c,g1,g2⟩ with h|h
   ·exact hf h
   ·omega
 ·obtain ⟨d,o,c,h1,h2⟩:=hb
  rcases setH_get h.has _ h1 with ⟨k1,k2⟩|⟨k1,k2⟩|⟨i,k1,k2⟩
  ·rw [h.lo d (by omega)] at h2
   exact hk.mine b ⟨d,o,c,k2,h2⟩
  ·subst k1
   rw [h.lo _ (by omega)] at h2
   exact hk.mine b ⟨HL,_,c,Obs.get_hp (hp_get h.has),h2⟩
  ·subst k1
   rcases h.own i o b c k2 h2 with ⟨j,o',c',g1,g2⟩|g
   ·exact hk.mine b ⟨_,o',c',g1,g2⟩
   ·exact .inr (Nat.le_trans hk.size g.1)
 ·have hnl:n < HL:=by
   rcases Nat.lt_or_ge n HL with h|h
   ·exact h
   ·rw [hk.low n (.inr h)] at hn;cases hn
  rw [Obs.get_lo hnl,Obs.get0_setH,if_neg (by omega),←Obs.get_lo hnl] at ho
  obtain ⟨g1,g2⟩:=hk.stay n t b o hn ho
  exact ⟨g1,by rw [h.lo n (by omega)];exact g2⟩
 ·obtain ⟨g1,g2⟩:=hk.hpk i x hx
  obtain ⟨k1,k2⟩:=h.gh i x g1 g2
  exact ⟨by rw [setH_hps h.has];exact k1,k2⟩

end

section
variable {E : Env} {w0 : World} {F : Foot} {Mo : Nat → Prop} {st : St} {K : SV → Obs → Option Out} {r : Out} {a : Act} {w : World} {β : Beta}

theorem HStep.push {vs:List Value}(hH:Obs.hasH st.B=true)(hR:Rel E.P Mo β st.T st.B vs w){w':World}{c:Nat}(he:HE)
  (hsz:w'.heap.size=w.heap.size+1)(hold:∀ b,b < w.heap.size→w'.heap[b]?=w.heap[b]?)(hos:w'.os=w.os)(hout:w'.output=w.output) :
  HStep w β st.B w' (β.at (HB+(Obs.hps st.B).length) (some (w.heap.size,c))) (Obs.hps st.B++[he]):=by
 have hat:∀ i x,i≠(Obs.hps st.B).length→β.at (HB+(Obs.hps st.B).length) x (HB+i)=β (HB+i):=fun i x h=>by unfold Beta.at;rw [if_neg (by omega)]
 have hget:∀ i o,((Obs.hps st.B++[he])[i]?).bind HE.ob=some o→i≠(Obs.hps st.B).length→Obs.get st.B (HB+i)=some o:=by
  intro i o hi hne
  rw [heap_at]
  rcases Nat.lt_or_ge i (Obs.hps st.B).length with h|h
  ·rwa [List.getElem?_append_left h] at hi
  ·rw [List.getElem?_eq_none (by simp;omega)] at hi;cases hi
 refine ⟨hH,fun d hd=>by unfold Beta.at;rw [if_neg (by omega)],by omega,fun i x hi hx=>⟨by simp;omega,by rw [hat i _ (by omega)];exact hx⟩,fun i o b c' hi hb=>?_,fun i j o o' b c1 c2 hi hj hb hb'=>?_,fun b hb _=>hold b hb,hos,hout⟩
 ·by_cases hil:i=(Obs.hps st.B).length
  ·subst hil
   rw [at_self] at hb
   injection hb with hb;injection hb with hb _;subst hb
   exact .inr ⟨Nat.le_refl _,by omega⟩
  ·rw [hat i _ hil] at hb
   exact .inl ⟨i,o,c',hget i o hi hil,hb⟩
 ·by_cases hil:i=(Obs.hps st.B).length <;> by_cases hjl:j=(Obs.hps st.B).length
  ·rw [hil,hjl]
  ·subst hil
   rw [at_self] at hb
   injection hb with hb;injection hb with hb _;subst hb
   rw [hat j _ hjl] at hb'
   have:=hR.lt _ _ _ _ (hget j o' hj hjl) hb'
   omega
  ·subst hjl
   rw [at_self] at hb'
   injection hb' with hb';injection hb' with hb' _;subst hb'
   rw [hat i _ hil] at hb
   have:=hR.lt _ _ _ _ (hget i o hi hil) hb
   omega
  ·rw [hat i _ hil] at hb
   rw [hat j _ hjl] at hb'
   have:=hR.inj _ _ _ _ b c1 c2 (hget i o hi hil) (hget j o' hj hjl) hb hb'
   omega

theorem QOk.push {o:Oper}{s:SV}{ob:Ob}{he:HE}{c:Nat}{v:Value}{w':World}(hH:Obs.hasH st.B=true)(hR:Rel E.P Mo β st.T st.B a.tmps.toList w)(hk:Kp w0 F β st.B w)
  (hob:ob.he=he∧he.ob=some ob)(hK:K s [(HL,ob)]=some r)(hrun:(execOp a.eval o).run E.P w=.ok (.value v) w')
  (hsz:w'.heap.size=w.heap.size+1)(hold:∀ b,b < w.heap.size→w'.heap[b]?=w.heap[b]?)(hos:w'.os=w.os)(hout:w'.output=w.output)
  (hro:∀ β' B',β' (HB+(Obs.hps st.B).length)=some (w.heap.size,c)→Same E.P w (Mut Mo β st.B) β st.B w' (Mut Mo β' B') β' B'→RO E.P w' (Mut Mo β' B') β' B' (HB+(Obs.hps st.B).length) ob)
  (hs:∀ β' B',GH β' B' (Obs.hps st.B).length (w.heap.size,c)→RS E.P w' (Mut Mo β' B') β' B' s v):QOk E w0 F Mo β o st K r a w:=by
 refine ⟨s,_,hK,.inr ⟨by simp,fun next Q hn=>?_⟩⟩
 unfold Oper.wp
 rw [hrun,Oper.upon_value]
 have hB:st.lay [(HL,ob)]={ st with B:=Obs.setH (Obs.hps st.B++[he]) st.B }:=by
  unfold St.lay St.lay
  rw [beq_self_eq_true,cond_true,hob.1]
 have hst:=HStep.push (c:=c) hH hR he hsz hold hos hout
 refine hn _ _ ⟨β.at (HB+(Obs.hps st.B).length) (some (w.heap.size,c)),?_,?_,?_⟩
 ·rw [hB]
  refine hst.rel hR fun hsame i o' hi=>?_
  by_cases hil:i=(Obs.hps st.B).length
  ·subst hil
   rw [List.getElem?_append_right (Nat.le_refl _),Nat.sub_self] at hi
   replace hi:he.ob=some o':=hi
   rw [hob.2] at hi;injection hi with hi;subst hi
   exact .inr (hro _ _ (at_self _ _ _) hsame)
  ·left
   have hlt:i < (Obs.hps st.B).length:=by
    rcases Nat.lt_or_ge i (Obs.hps st.B).length with h|h
    ·exact h
    ·rw [List.getElem?_eq_none (by simp;omega)] at hi;cases hi
   rw [List.getElem?_append_left hlt] at hi
   have hg:=heap_at.2 hi
   exact ⟨hg,by unfold Beta.at;rw [if_neg (by omega)],fun b c hb=>hold b (hR.lt _ _ b c hg hb)⟩
 ·rw [hB];exact hst.kp hk
 ·rw [hB]
  exact hs _ _ ⟨by rw [setH_hps hH];simp,at_self _ _ _⟩


theorem h_newVar (hL:laidOutB E.P=true)(hH:Obs.hasH st.B=true)(hR:Rel E.P Mo β st.T st.B a.tmps.toList w)(hk:Kp w0 F β st.B w){o:Oper}{t:TypeId}{v:Value}{cs:List Value}{p:PV}(ht:t < E.P.types.size)
  (hp:Pack E.P t v cs)(hr:RdH E.P w (Mut Mo β st.B) (GH β st.B) t p cs)
  (hK:K (.hptr t (Obs.hps st.B).length []) [(HL,.hvar t p)]=some r)(hrun:(execOp a.eval o).run E.P w=.ok (.value (.pointer (some ⟨w.heap.size,0,none⟩))) { w with heap:=w.heap.push (.cells v.cells t (0,0)) }) :
  QOk E w0 F Mo β o st K r a w:=by
 have h1:=hr.one hL
 have hc:v.cells=cs.toArray:=by apply Array.ext';rw [hp.cells h1]
 rw [hc] at hrun
 refine QOk.push (he:=.var t p) (c:=0) hH hR hk ⟨rfl,rfl⟩ hK hrun (by simp) (fun b hb=>push_old hb) rfl rfl (fun β' B' hβ hsame=>?_) (fun β' B' hG=>.hptr hG rfl)
 exact ⟨w.heap.size,0,cs,(0,0),hβ,push_new,fun o _=>by omega,hr.size hL ht,h1,hr.mono hsame.st hsame.hp,ht⟩

theorem zero_heap {M:Nat→Prop}{G:Nat→Nat × Nat→Prop}{t:TypeId}{p:PV}(h:zeroPV E.P t=some p):∃ z cs,(∀ w,(zeroValue t).run E.P w=.ok z w)∧Pack E.P t z cs∧RdH E.P w M G t p cs∧z.cells=cs.toArray:=by
 obtain ⟨z,cs,z1,z2,z3,z4⟩:=zeroPV_spec h
 exact ⟨z,cs,z1,z2,pvC_heap 10 z3,z4⟩

theorem h_alloc (hL:laidOutB E.P=true)(hH:Obs.hasH st.B=true)(hR:Rel E.P Mo β st.T st.B a.tmps.toList w)(hk:Kp w0 F β st.B w){o:Oper}{t:TypeId}(ho:o.op=.alloc t)(h:opH E o st K=some r):QOk E w0 F Mo β o st K r a w:=by
 unfold opH at h
 rw [ho] at h
 simp only at h
 cases hz:zeroPV E.P t with
 | none=>rw [hz] at h;cases h
 | some z =>
  rw [hz] at h
  simp only at h
  obtain ⟨ht,hK⟩:=cond_some h
  have ht:t < E.P.types.size:=by simpa using ht
  obtain ⟨zv,cs,z1,z2,z3,z4⟩:=zero_heap (w:=w) (M:=Mut Mo β st.B) (G:=GH β st.B) hz
  refine h_newVar hL hH hR hk ht z2 z3 hK ?_
  unfold execOp;rw [ho]
  simp only [Instr.alloc]
  rw [Sem.run_bind,Sem.run_bind,z1,Result.andThen_ok,Sem.run_bind,run_newVar];rfl

theorem h_box (hL:laidOutB E.P=true)(hH:Obs.hasH st.B=true)(hR:Rel E.P Mo β st.T st.B a.tmps.toList w)(hk:Kp w0 F β st.B w){o:Oper}{t:TypeId}{x:Operand}(ho:o.op=.box t x)(h:opH E o st K=some r):QOk E w0 F Mo β o st K r a w:=by
 have hx:=get_sound hR t x
 unfold opH at h
 rw [ho] at h
 simp only at h
 generalize st.get E.P t x=sx at h hx
 generalize hv:a.eval x=v at hx
 cases hp:sx.pvH E.P t with
 | none=>rw [hp] at h;cases h
 | some p =>
  rw [hp] at h
  simp only at h
  obtain ⟨ht,hK⟩:=cond_some h
  have ht:t < E.P.types.size:=by simpa using ht
  obtain ⟨cs,c1,c2⟩:=hx.pvH hp
  refine h_newVar hL hH hR hk ht c1 c2 hK ?_
  unfold execOp;rw [ho]
  simp only [hv,Instr.box]
  rw [Sem.run_bind,Sem.run_bind,run_newVar];rfl

theorem RdH.lt_of_agg {M:Nat→Prop}{G:Nat→Nat × Nat→Prop}{t:TypeId}{p:PV}{cs:List Value}(h:RdH E.P w M G t p cs)(ha:isAggT E.P t=true):t < E.P.types.size:=by
 cases h with
 | struct _ h=>exact h
 | arr _ h=>exact h
 | leaf h=>rw [ha] at h;cases h
 | nilp _ hu=>simp [isAggT,hu] at ha
 | ptr _ hu=>simp [isAggT,hu] at ha
 | nils _ hu=>simp [isAggT,hu] at ha
 | sl _ hu=>simp [isAggT,hu] at ha

theorem h_build (hL:laidOutB E.P=true)(hR:Rel E.P Mo β st.T st.B a.tmps.toList w)(hk:Kp w0 F β st.B w){o:Oper}{t:TypeId}{parts:Array (Nat × Operand)}(ho:o.op=.build t parts)(h:opH E o st K=some r) :
  QOk E w0 F Mo β o st K r a w:=by
 unfold opH at h
 rw [ho] at h
 simp only at h
 cases hz:zeroPV E.P t with
 | none=>rw [hz] at h;cases hu:E.P.underlying t with
  | none=>rw [hu] at h;cases h
  | some d=>rw [hu] at h;cases d <;> cases h
 | some z =>
  obtain ⟨zv,zcs,z1,z2,z3,z4⟩:=zero_heap (w:=w) (M:=Mut Mo β st.B) (G:=GH β st.B) hz
  obtain ⟨it,i1,i2⟩:=run_zero_und z1
  have hzr:RdH E.P w (Mut Mo β st.B) (GH β st.B) t z zv.cells.toList:=by rw [z4];exact z3
  rw [hz] at h
  cases hu:E.P.underlying t with
  | none=>rw [hu] at h;cases h
  | some dd =>
   rw [hu] at h
   have hfst:(parts.map fun (i,x)=>(i,a.eval x)).toList.map (·.1)=parts.toList.map (·.1):=by rw [Array.toList_map,List.map_map];rfl
   cases dd with
   | struct fs =>
    simp only at h
    cases hp:plainsFH E.P (parts.toList.filterMap fun x=>fs[x.1]?) (parts.toList.map fun x=>st.get E.P 0 x.2) with
    | none=>rw [hp] at h;cases h
    | some l =>
     rw [hp] at h
     simp only at h
     obtain ⟨hall,h⟩:=cond_some h
     have hall':∀ x ∈ parts.toList,∃ f,fs[x.1]?=some f∧E.P.cellsOf f.type≠0:=by
      intro x hx
      have:=List.all_eq_true.1 hall x hx
      cases hf:fs[x.1]? with
      | none=>rw [hf] at this;cases this
      | some f=>rw [hf] at this;exact ⟨f,rfl,by simpa [emptyT] using this⟩
     obtain ⟨q1,q2,q3⟩:=plainsFH_spec hp
     have ht:t < E.P.types.size:=hzr.lt_of_agg (isAggT_struct hu)
     have lay:=layS hL ht hu
     obtain ⟨pl,p1,p2⟩:=mapM_places fs.toList lay.1
     obtain ⟨C,c1,c2⟩:=fill_partsH hL ht (pl.toArray[·]?) (fun i=>.fld i) (parts.map fun (i,x)=>(i,a.eval x)).toList l z zv.cells hzr (by simp [q1])
      (fun k i v x hk hx=>by
       obtain ⟨y,hy,rfl⟩:=parts_get hk
       obtain ⟨f,hf,h0⟩:=hall' (i,y) (List.mem_of_getElem? hy)
       have hg:(parts.toList.filterMap fun x=>fs[x.1]?)[k]?=some f:=by
        rw [filterMap_get (fun x hx=>by obtain ⟨f,hf,_⟩:=hall' x hx;rw [hf];rfl) k (i,y) hy];exact hf
       have hs:(parts.toList.map fun x=>st.get E.P 0 x.2)[k]?=some (st.get E.P 0 y):=by rw [List.getElem?_map,hy];rfl
       have hpv:=q3 k f _ x hg hs hx
       obtain ⟨xs,x1,x2⟩:=(get_sound hR 0 y).pvH hpv
       refine ⟨f.type,xs,f.offset,?_,?_,?_,x1.cells (x2.one hL),x2⟩
       ·simp [typT,hu,hf]
       ·simp [offT,hu,hf,h0]
       ·have:=p2 i f (by simpa using hf)
        simpa using this)
     have hb:E.P.built t (parts.map fun (i,x)=>(i,a.eval x)).toList=some C:=by
      unfold Program.built
      rw [i1,hu]
      simp only [i2,p1]
      exact c1
     have hs:RS E.P w (Mut Mo β st.B) β st.B (.hval t (((parts.toList.map (·.1)).zip l).foldl (fun p x=>p.put [.fld x.1] x.2) z)) (.agg C):=by
      rw [hfst] at c2
      exact .hval (cs:=C.toList) (by simp [Pack,isAggT_struct hu]) c2
     refine QOk.val hR hk h ?_ hs
     unfold execOp;rw [ho]
     simp only
     rw [Sem.run_bind,run_build w t _ C hb];rfl
   | _=>cases h

theorem h_newRow (hH:Obs.hasH st.B=true)(hR:Rel E.P Mo β st.T st.B a.tmps.toList w)(hk:Kp w0 F β st.B w){o:Oper}{t e:TypeId}{c n:Nat}{l:List PV}{C:Array Value}{fr:Nat × Nat}{w':World}(hrt:refT E.P t=true)(hu:E.P.underlying t=some (.slice e))(he:e < E.P.types.size)
  (hrows:RowsH E.P w (Mut Mo β st.B) (GH β st.B) e l C.toList)(h1:∀ c ∈ C.toList,c.oneCell'=true)(hC:C.size=c * E.P.cellsOf e)(hlc:l.length≤c)(hn:l.length=n)(hcm:c≤maxLen)(hfr:∀ o,o < C.size→fr.1=fr.2∨C.size≤fr.1)
  (hrun:(execOp a.eval o).run E.P w=.ok (.value (.slice (some ⟨w.heap.size,0,none⟩) l.length c)) w')(hw:w'.heap=w.heap.push (.cells C e fr))(hos:w'.os=w.os)(hout:w'.output=w.output)
  (hK:K (.hval t (.rs (Obs.hps st.B).length n)) [(HL,.hrow e l)]=some r):QOk E w0 F Mo β o st K r a w:=by
 subst hn
 refine QOk.push (he:=.row e l) (c:=c) hH hR hk ⟨rfl,rfl⟩ hK hrun (by rw [hw];simp) (fun b hb=>by rw [hw];exact push_old hb) hos hout (fun β' B' hβ hsame=>?_) (fun β' B' hG=>.hval (pack1 (by simp [isAggT,hu])) (.sl hrt hu hG hlc hcm))
 exact ⟨he,w.heap.size,c,C.toList,fr,hβ,by rw [hw];exact push_new,fun o ho=>by have:=hfr o (by simpa using ho);simpa using this,hlc,hcm,by simpa using hC,h1,fun i p hi=>(hrows i p hi).mono hsame.st hsame.hp⟩

theorem h_buildSlice (hL:laidOutB E.P=true)(hH:Obs.hasH st.B=true)(hR:Rel E.P Mo β st.T st.B a.tmps.toList w)(hk:Kp w0 F β st.B w){o:Oper}{t:TypeId}{n:Nat}{parts:Array (Nat × Operand)}(ho:o.op=.buildSlice t n parts)
  (h:opH E o st K=some r):QOk E w0 F Mo β o st K r a w:=by
 unfold opH at h
 rw [ho] at h
 simp only at h
 cases hu:E.P.underlying t with
 | none=>rw [hu] at h;cases h
 | some dd =>
  rw [hu] at h
  cases dd with
  | slice e =>
   simp only at h
   cases hz:zeroPV E.P e with
   | none=>rw [hz] at h;cases h
   | some z =>
    obtain ⟨zv,zcs,z1,z2,hzr,z4⟩:=zero_heap (w:=w) (M:=Mut Mo β st.B) (G:=GH β st.B) hz
    obtain ⟨it,i1,i2⟩:=run_zero_und z1
    rw [hz] at h
    cases hp:plainsEH E.P e (parts.toList.map fun x=>st.get E.P e x.2) with
    | none=>rw [hp] at h;cases h
    | some l =>
     rw [hp] at h
     simp only at h
     obtain ⟨hc,h⟩:=cond_some h
     simp only [Bool.and_eq_true,decide_eq_true_eq,List.all_eq_true] at hc
     obtain ⟨hrt,⟨⟨he,hsm⟩,hn⟩,hall⟩:=hc
     obtain ⟨q1,q3⟩:=plainsEH_spec hp
     have hce:E.P.cellsOf e=it.size:=by unfold Program.cellsOf;rw [i1];rfl
     obtain ⟨m1,m2⟩:=made_rowsH hL he hzr n
     have hfst:(parts.map fun (i,x)=>(i,a.eval x)).toList.map (·.1)=parts.toList.map (·.1):=by rw [Array.toList_map,List.map_map];rfl
     obtain ⟨C,c1,c2,c3,c4,c5⟩:=fill_rowsH hL he hce (parts.map fun (i,x)=>(i,a.eval x)).toList l (List.replicate n z) (madeCells zcs.toArray (n * E.P.cellsOf e)) m1 (by rw [size_madeCells,List.length_replicate,hce]) (by simp [q1])
      (fun k i v x hk hx=>by
       obtain ⟨y,hy,rfl⟩:=parts_get hk
       have hf:=hall (i,y) (List.mem_of_getElem? hy)
       have hs:(parts.toList.map fun x=>st.get E.P e x.2)[k]?=some (st.get E.P e y):=by rw [List.getElem?_map,hy];rfl
       obtain ⟨xs,x1,x2⟩:=(get_sound hR e y).pvH (q3 k _ x hs hx)
       exact ⟨by simpa using hf,xs,x1.cells (x2.one hL),x2⟩) m2
     rw [hfst] at c2 c5
     rw [List.length_replicate] at c5
     rw [size_madeCells] at c3
     generalize ((parts.toList.map (·.1)).zip l).foldl (fun p x=>p.set x.1 x.2) (List.replicate n z)=rr at h c2 c5
     have hrun:(execOp a.eval o).run E.P w=.ok (.value (.slice (some ⟨w.heap.size,0,none⟩) rr.length n)) (w.alloc (.cells C e)):=by
      unfold execOp;rw [ho]
      simp only
      rw [Sem.run_bind]
      have hb:(Instr.buildSlice t n (parts.map fun (i,x)=>(i,a.eval x))).run E.P w=.ok (.slice (some ⟨w.heap.size,0,none⟩) n n) (w.alloc (.cells C e)):=by
       rw [hce] at c1 hsm
       unfold madeCells at c1
       by_cases h0:n * it.size=0
       ·rw [h0,show (Array.map (fun x=>zcs.toArray[x % zcs.toArray.size]!) (Array.range 0))=#[] by simp] at c1
        unfold Instr.buildSlice
        rw [Sem.run_bind,run_underlying hu,Result.andThen_ok]
        simp only [Sem.run_bind,sizeOf,typeInfo,run_program,Result.andThen_ok,i1,Sem.run_pure,h0,Nat.not_lt_zero,gt_iff_lt,if_false,if_true,Array.range_zero',Array.map_empty,c1]
        rfl
       ·exact run_buildSlice w t e n _ C it zv hu i1 i2 (by omega) h0 (by rw [z4];exact c1)
      rw [hb,c5];rfl
     exact h_newRow hH hR hk hrt hu he c2 c4 c3 (by omega) c5 (le_maxLen (by omega)) (fun o _=>by omega) hrun rfl rfl rfl h
  | _=>cases h

theorem h_makeSlice (hL:laidOutB E.P=true)(hH:Obs.hasH st.B=true)(hR:Rel E.P Mo β st.T st.B a.tmps.toList w)(hk:Kp w0 F β st.B w){o:Oper}{t:TypeId}{x y:Operand}(ho:o.op=.makeSlice t x y)
  (h:opH E o st K=some r):QOk E w0 F Mo β o st K r a w:=by
 have hx:=get_sound hR o.type x
 have hy:=get_sound hR o.type y
 unfold opH at h
 rw [ho] at h
 simp only at h
 generalize st.get E.P o.type x=sx at h hx
 generalize st.get E.P o.type y=sy at h hy
 generalize hvx:a.eval x=vx at hx
 generalize hvy:a.eval y=vy at hy
 cases hu:E.P.underlying t with
 | none=>rw [hu] at h;cases h
 | some dd =>
  rw [hu] at h
  cases dd with
  | slice e =>
   cases hx with
   | @int k n _ =>
    cases hy with
    | @int k' m _ =>
     simp only at h
     cases hz:zeroPV E.P e with
     | none=>rw [hz] at h;cases h
     | some z =>
      obtain ⟨zv,zcs,z1,z2,hzr,z4⟩:=zero_heap (w:=w) (M:=Mut Mo β st.B) (G:=GH β st.B) hz
      obtain ⟨it,i1,i2⟩:=run_zero_und z1
      rw [hz] at h
      simp only at h
      obtain ⟨hc,h9⟩:=cond_some h
      clear h
      simp only [Bool.and_eq_true,decide_eq_true_eq,roomy] at hc
      obtain ⟨hrt,⟨⟨he,h0⟩,rfl⟩,h1,h2⟩:=hc
      have hce:E.P.cellsOf e=it.size:=by unfold Program.cellsOf;rw [i1];rfl
      have hbe:E.P.bytesOf e=it.bytes:=by unfold Program.bytesOf;rw [i1];rfl
      obtain ⟨m1,m2⟩:=made_rowsH hL he hzr n.toNat
      obtain ⟨k,rfl⟩:∃ k:Nat,n=k:=⟨n.toNat,by omega⟩
      rw [Int.toNat_natCast] at h9 h1 h2 m1 m2
      have hb:((it.bytes * k:Nat):Int)≤281474976710656:=by
       have:it.bytes * k≤35184372088832:=by rw [←hbe,Nat.mul_comm];exact h1
       omega
      rw [Int.natCast_mul] at hb
      have hrun:(execOp a.eval o).run E.P w=.ok (.value (.slice (some ⟨w.heap.size,0,none⟩) (List.replicate k z).length k)) (w.alloc (.cells (madeCells zcs.toArray (k * E.P.cellsOf e)) e)):=by
       unfold execOp;rw [ho]
       simp only
       rw [hvx,hvy,Sem.run_bind,run_make w t e it zv hu i1 i2 _ _ k k (by omega) (by omega) hb (by omega),z4,hce]
       rw [Int.toNat_natCast,List.length_replicate]
       rfl
      exact h_newRow hH hR hk hrt hu he m1 m2 (by rw [size_madeCells]) (by simp) (by simp) (by unfold maxLen;omega) (fun o _=>by omega) hrun rfl rfl rfl h9
    | _=>cases h
   | _=>first|(cases h;done)|(revert h;split <;> intro h <;> first|(cases h;done)|skip)
  | _=>cases h

theorem opH_sound (hL:laidOutB E.P=true)(hH:Obs.hasH st.B=true)(hR:Rel E.P Mo β st.T st.B a.tmps.toList w)(hk:Kp w0 F β st.B w){o:Oper}(h:opH E o st K=some r):QOk E w0 F Mo β o st K r a w:=by
 cases hop:o.op with
 | alloc t=>exact h_alloc hL hH hR hk hop h
 | box t x=>exact h_box hL hH hR hk hop h
 | build t ps=>exact h_build hL hR hk hop h
 | buildSlice t n ps=>exact h_buildSlice hL hH hR hk hop h
 | makeSlice t l c=>exact h_makeSlice hL hH hR hk hop h
 | _=>unfold opH at h;rw [hop] at h;cases h

end
end Go.X
