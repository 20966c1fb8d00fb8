/-
 Part TaR of the proof: EngPt.
-/
import Derived.Test.YtiefjlcakpdfeaaGreatDoorTaQ
namespace Go.Sx
open Go Go.RowKit
variable {P:Program}
theorem CV.Rel.cut {F w bs F1 w1 bs1 c x} (h:CV.Rel F1 w1 bs1 c x):∀ {v0:Value},CV.Rel F w bs c v0->CV.Rel F1 w1 (bs1.take bs.length) c x:=by
 induction h with
 | any h=>exact fun _=>.any h
 | bool b=>exact fun _=>.bool b
 | int k n=>exact fun _=>.int k n
 | str s=>exact fun _=>.str s
 | nilp=>exact fun _=>.nilp
 | nils=>exact fun _=>.nils
 | nilf=>exact fun _=>.nilf
 | nili=>exact fun _=>.nili
 | ptr h=>exact fun h0=>by cases h0 with | ptr g=>exact .ptr (qS (jo g) h)
 | os h hb=>exact fun h0=>by cases h0 with | os g _=>exact .os (qS (jo g) h) hb
 | ost h hl=>exact fun h0=>by cases h0 with | ost g _=>exact .ost (qS (jo g) h) hl
 | osh h hl h1=>exact fun h0=>by cases h0 with | osh g _ _=>exact .osh (qS (jo g) h) hl h1
 | oc h hl=>exact fun h0=>by cases h0 with | oc g _=>exact .oc (qS (jo g) h) hl
 | rowp h hi=>exact fun h0=>by cases h0 with | rowp g _=>exact .rowp (qS (jo g) h) hi
 | rop val hb hF hc hr _=>exact fun _=>.rop val hb hF hc hr
 | slnil=>exact fun _=>.slnil
 | sl val hn h0 hc hr _=>exact fun _=>.sl val hn h0 hc hr
 | fn l1 l2 r1 r2 ih1 ih2 =>
   intro v0 h0;cases h0 with
  | fn k1 k2 g1 g2 =>
    refine .fn l1 l2 (fun i x v hx hv => ?_) (fun i x v hx hv => ?_)
    ·have hlt:=jo hx;rw [k1] at hlt;exact ih1 i x v hx hv (g1 i x _ hx (by rw [jd];exact gEq hlt))
    ·have hlt:=jo hx;rw [k2] at hlt;exact ih2 i x v hx hv (g2 i x _ hx (by rw [jd];exact gEq hlt))
 | iface h ih=>exact fun h0=>by cases h0 with | iface g=>exact .iface (ih g)
 | ifa hl r ih =>
   intro v0 h0;cases h0 with
  | ifa k1 g1 =>
    refine .ifa hl (fun i x v hx hv => ?_);have hlt:=jo hx;rw [k1] at hlt;exact ih i x v hx hv (g1 i x _ hx (by rw [jd];exact gEq hlt))
 | ifx0 h=>exact fun _=>.ifx0 h
 | ifx1 h ht r _=>exact fun _=>.ifx1 h ht r
 | ifxa h ht hl r _=>exact fun _=>.ifxa h ht hl r
 | yld h=>exact fun h0=>by cases h0 with | yld g=>exact .yld (qS (jo g) h)
 | mp hp hF he hk hz hl r ih =>
   intro v0 h0;cases h0 with
  | mp hp' hF' he' hk' hz' hl' g =>
    refine .mp hp hF he hk hz hl (fun i x v hx hv => ?_);have hlt:=jo hx;rw [hl'] at hlt;exact ih i x v hx hv (g i x _ hx (by rw [jd];exact gEq hlt))
theorem All2.cut {F w bs F1 w1 bs1}:∀ {l:List CV} {vs vs0:List Value},All2 (CV.Rel F1 w1 bs1) l vs->All2 (CV.Rel F w bs) l vs0->All2 (CV.Rel F1 w1 (bs1.take bs.length)) l vs
 | _,_,_,.nil,_=>.nil
 | _,_,_,.cons h r,h0=>by cases h0 with | cons g s=>exact .cons (h.cut g) (All2.cut r s)
theorem A1.Rel.cut {F w bs F1 w1 bs1} {c:A1} {x v0:Value} (h:A1.Rel F1 w1 bs1 c x) (h0:A1.Rel F w bs c v0):A1.Rel F1 w1 (bs1.take bs.length) c x:=by
 cases c with
 | c c=>exact CV.Rel.cut h h0
 | agg l =>
   obtain ⟨vs,rfl,h⟩:=h;obtain ⟨vs0,_,h0⟩:=h0;exact ⟨vs,rfl,h.cut h0⟩
theorem All2.cut1 {F w bs F1 w1 bs1}:∀ {l:List A1} {vs vs0:List Value},All2 (A1.Rel F1 w1 bs1) l vs->All2 (A1.Rel F w bs) l vs0->All2 (A1.Rel F1 w1 (bs1.take bs.length)) l vs
 | _,_,_,.nil,_=>.nil
 | _,_,_,.cons h r,h0=>by cases h0 with | cons g s=>exact .cons (A1.Rel.cut h g) (All2.cut1 r s)
theorem AV.Rel.cut {F w bs F1 w1 bs1} {c:AV} {x v0:Value} (h:AV.Rel F1 w1 bs1 c x) (h0:AV.Rel F w bs c v0):AV.Rel F1 w1 (bs1.take bs.length) c x:=by
 cases c with
 | any=>trivial
 | one a=>exact A1.Rel.cut h h0
 | tup l =>
   obtain ⟨vs,rfl,h⟩:=h;obtain ⟨vs0,_,h0⟩:=h0;exact ⟨vs,rfl,All2.cut1 h h0⟩
theorem Vo:∀ (l:List Oper) (s:St),(s.forget l).tmps.length=s.tmps.length
 | [],_=>rfl
 | o :: r, s => by
   show ((s.put0 o.dst [] .any).forget r).tmps.length=_;rw [Vo r];cases o.dst<;>simp [St.put0,jy]
theorem Ls:∀ (l:List Oper) (s:St),(s.forget l).mem=s.mem
 | [],_=>rfl
 | o :: r, s => by
   show ((s.put0 o.dst [] .any).forget r).mem=_;rw [Ls r,zY]
theorem B3:∀ (l:List Oper) (s:St) (d:Nat),(∀ o ∈ l,o.dst ≠ some d)->nth (s.forget l).tmps d=nth s.tmps d
 | [],_,_,_=>rfl
 | o :: r, s, d, h => by
   show nth ((s.put0 o.dst [] .any).forget r).tmps d=_;rw [B3 r _ d fun o' ho=>h o' (List.mem_cons_of_mem _ ho),YO (h o List.mem_cons_self)]
theorem Li:∀ (l:List Oper) (s:St) (d:Nat) (sl:Slot),(nth s.tmps d=some ⟨[],.any⟩∨∃ o ∈ l,o.dst=some d)->nth (s.forget l).tmps d=some sl->sl=⟨[],.any⟩
 | [], s, d, sl, h, hs => by
   rcases h with h | ⟨o,ho,_⟩
   ·have hs:nth s.tmps d=some sl:=hs;rw [h] at hs;simp at hs;exact hs.symm
   ·cases ho
 | o :: r, s, d, sl, h, hs => by
   have hs:nth ((s.put0 o.dst [] .any).forget r).tmps d=some sl:=hs;refine Li r _ d sl ?_ hs;by_cases hd:o.dst=some d
   ·left;have hlt:=jo hs;rw [Vo] at hlt
    have hlt:d<s.tmps.length:=by
     have e:(s.put0 o.dst [] .any).tmps.length=s.tmps.length:=by cases o.dst<;>simp [St.put0,jy]
     rw [e] at hlt;exact hlt
    rw [hd];exact qh hlt
   ·rcases h with h | ⟨o',ho',hd'⟩
    ·left;rw [YO hd];exact h
    ·rcases List.mem_cons.1 ho' with rfl | ho'
     ·exact (hd hd').elim
     ·exact .inr ⟨o',ho',hd'⟩
theorem jd1 {H : Hd} (hpc : SumOk P H) {X : HdP} (hrx : Vg P X.rx) {call : jt} (hcall : CallOk P call) {callP : qQ} (hcallP : CallPOk P X callP) {id : Nat} {ops : Array Oper} {s s' : StP} {x : XP} (h : (Tk P H X call callP ops.toList s).sel = some (x, s'))
  {F:Nat->Prop} {w:World} {bs:List BI} {a:Act} (hs:PRel P F w bs s a) {Q:Exit->Act->World->Prop}
  (hQ:∀ F' w' bs' a' e,Ext bs.length F w bs F' w' bs'->PRel P F' w' bs' s' a'->XRel F' w' bs' x e->Q e a' w'):(Code.region id ops true).wp P Q a w:=by
 unfold Tk at h;split at h
 ·rename_i hm;obtain ⟨⟨y,is,pn⟩,h1,h2⟩:=jg h;simp only at h2;split at h2
  ·rename_i hd;have hs0:StRel P a.defers F w bs { s.s with tmps:=s.s.tmps.map unkey } a:=hs.st.unkey
   have h0:∀ sl ∈ ({ s.s with tmps:=s.s.tmps.map unkey }:St).tmps,sl.keys=[]:=by
    intro sl hsl;simp only [List.mem_map] at hsl;obtain ⟨sl0,_,rfl⟩:=hsl;unfold unkey;split
    ·rename_i he;exact List.isEmpty_iff.1 he
    ·rfl
   obtain ⟨p,e0,en,hanc,hpl,hstep⟩:=jf3 hcallP.loc h1 hd h0;have hb:Below w.heap.size w { w with drawn:=w.drawn+1 }:=Below.drew (Below.refl _ _)
   have hlen:bs.length=s.s.mem.length:=hs.st.mem.len;refine wp_region_any hm (jd3 (F0:=F) (w0:=w) (bs0:=bs) (D:=a.defers) hpc hrx hcall hcallP rfl p hanc hpl hstep (fun hn F' w' bs' a' he hs' => ?_) (fun j z m hp F1 w1 bs1 s1 a' F' w' bs' v m2 he1 hK1 hs1 hl1 hfree he2 hm2 hob hz => ?_) _ _ _ _ _ F bs (by simp) ?_ ?_ (fun j z m _ hl => ?_) ?_ (Ext.of_below hb) (lRq _) (hs0.below hb))
   ·subst hn;simp only [Tree.sel,sIq,pIq] at h2;obtain ⟨rfl,rfl⟩:=h2;exact hQ F' w' bs' a' _ he ((StRel.unkey (en▸hs')).toP (hs.ds.grow he.grow)) rfl
   ·subst hp;simp only at h2;split at h2
    ·rename_i m0 ht;split at h2
     ·rename_i hc;simp only [Tree.sel,sIq,pIq] at h2;obtain ⟨rfl,rfl⟩:=h2;rw [aTq,List.all_eq_true] at hc;obtain ⟨hu,hcz⟩:=hc;obtain ⟨rfl,hml⟩:=kW ht;have he:=he1.trans he2 hK1;have hg:=he.grow;have ex:Ext bs.length F w bs F' w' (bs'.take bs.length):=he.trans (K':=bs.length) ⟨lRq _,fun _ _ h=>h,fun _ h _ _=>h,fun _ _ _=>rfl,rfl,rfl,rfl,fun k x hk hx=>qS hk hx,fun x hx=>.inl ⟨x,List.mem_of_mem_take hx,rfl⟩⟩ (lRq _)
      have hme:m2.take s.s.mem.length=m.take s.s.mem.length:=by
       apply List.ext_getElem?;intro k;rw [List.getElem?_take,List.getElem?_take];split
       ·rename_i hk
        have:=hob k hk
        rwa [jd,jd] at this
       ·rfl
      have hmt:MemRel P F' w' (bs'.take bs.length) (m.take s.s.mem.length):=by
       rw [← hme,hlen];refine hm2.take fun k T cs hk hn => ?_
       have hn':nth (m.take s.s.mem.length) k=some (some (T,cs)):=by
        rw [← hme];exact qS hk hn
       have:=hu (some (T,cs)) (jH hn')
       simpa [ZV] using this
      refine hQ F' w' (bs'.take bs.length) a' _ ex ⟨⟨rfl,?_,fun d sl x hd' hx => ?_,?_⟩,?_⟩ ⟨v,rfl,hz.closed hcz⟩
      ·have l1:=hs1.len;rw [Vo];simp only [List.length_map];rw [← l1,hl1,e0]
       simp
      ·by_cases hdd:∃ o ∈ ops.toList,o.dst=some d
       ·have:=Li _ _ _ _ (.inr hdd) hd'
        subst this;exact ⟨fun _=>trivial,fun h=>(h jw).elim⟩
       ·have hfr:∀ o ∈ ops.toList,o.dst ≠ some d:=fun o ho e=>hdd ⟨o,ho,e⟩;rw [B3 _ _ _ hfr] at hd'
        have hs1d:nth s1.tmps d=some sl:=by
         rw [hfree d fun i o hi=>hfr o (List.mem_of_getElem? hi),e0];exact hd'
        have r1:=hs1.slots d sl x hs1d hx;have hk0:sl.keys=[]:=h0 sl (jH hd');refine ⟨fun hk => ?_,fun hn=>(hn (by rw [hk0];exact jw)).elim⟩
        have r1':=r1.1 hk
        have hlt:d<a.tmps.size:=by
         have h3:d<(s.s.tmps.map unkey).length:=jo hd';have l2:(s.s.tmps.map unkey).length=a.tmps.size:=hs0.len;omega
        have r0:=(hs0.slots d sl _ hd' (Array.getElem?_eq_getElem hlt)).1 (by rw [hk0];exact jw)
        exact (r1'.grow he2.grow).cut r0
      ·rw [Ls];exact hmt
      ·rw [hs1.defers];exact hs.ds.grow ex.grow
     ·simp [Tree.sel] at h2
    ·simp [Tree.sel] at h2
   ·simpa using List.countP_le_length (p:=fun b=>!b) (l:=List.replicate ops.size false)
   ·intro j o _ hl;unfold Lof at hl;simp [Array.getElem?_replicate] at hl;split at hl<;>simp at hl
   ·unfold Lof at hl;simp [Array.getElem?_replicate] at hl;split at hl<;>simp at hl
   ·have:=XK p 0 (Nat.zero_le _)
    rw [e0] at this;refine this.congr fun k hk=>⟨fun h=>by omega,fun hl => ?_⟩
    unfold Lof at hl;simp [Array.getElem?_replicate] at hl;split at hl<;>simp at hl
  ·simp [Tree.sel] at h2
 ·simp [Tree.sel] at h
end Go.Sx