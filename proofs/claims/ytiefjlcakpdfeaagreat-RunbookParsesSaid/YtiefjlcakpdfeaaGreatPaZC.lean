/-
 Part PaZC of the proof: RcG RcH RcI RcJ.
-/
import Derived.Test.YtiefjlcakpdfeaaGreatPaZB
namespace Go.Proofs.YtiefjlcakpdfeaaGreat
open Go Go.Sx Go.RowKit Rb
set_option maxRecDepth 100000
structure RU where
 sn:Nat
 sρ:Val
 cn:Nat
 cρ:Val
 pn:Nat
 pρ:Val
 kn:Nat
 kρ:Val
 bg:Int
 at_:Int
def rU0:RU:=⟨0,.zero,0,.zero,0,.zero,0,.zero,0,0⟩
def Ju:Bool->RU->Mem
 | false,x=>[some (102,[.sl Ro.siSh x.sn x.sρ,.sl [.int .i64] x.cn x.cρ,.os 1 1,.os 2 1,.bool false,.int .i64 x.bg,.int .i64 x.at_]),some (9,[.row false [.str] x.pn x.pρ]),some (23,[.row false [.rt 1] x.kn x.kρ])]
 | true,x=>[some (102,[.sl Ro.siSh x.sn x.sρ,.sl [.int .i64] x.cn x.cρ,.os 1 1,.any,.bool true,.int .i64 x.bg,.int .i64 x.at_]),some (9,[.row false [.str] x.pn x.pρ])]
def plC (es:List Sh):CV->Option (Nat × Val)
 | .sl es' n ρ=>if shEq.shsEq es' es then some (n,ρ) else none
 | .nils=>some (0,.zero)
 | _=>none
theorem Wc {es:List Sh} {c:CV} {n:Nat} {ρ:Val} (h:plC es c=some (n,ρ)) {F w bs v} (hv:CV.Rel F w bs c v):CV.Rel F w bs (.sl es n ρ) v:=by
 unfold plC at h;split at h
 ·split at h
  ·rename_i hs;simp only [sIq,pIq] at h;rw [← jm hs,← h.1,← h.2];exact hv
  ·cases h
 ·simp only [sIq,pIq] at h;rw [← h.1,← h.2];cases hv;exact .slnil
 ·cases h
theorem Wm {es:List Sh} {c:CV} {y:Nat × Val} (h:plC es c=some y) (r:List CV):jf (c::r)=false:=by
 cases c<;>first | rfl | (simp [plC] at h;done)
def O4:Mem->Option RU
 | [some (102, [c0, c1, .os 1 1, .os 2 1, .bool false, .int .i64 bg, .int .i64 a]), some (9, [.row false [.str] pn pρ]), some (23, [.row false [.rt 1] kn kρ])] =>
   (match plC Ro.siSh c0,plC [.int .i64] c1 with
  | some (sn,sρ),some (cn,cρ)=>some ⟨sn,sρ,cn,cρ,pn,pρ,kn,kρ,bg,a⟩
  | _,_=>none)
 | _=>none
def Rr:Mem->Option RU
 | [some (102, [c0, c1, .os 1 1, .any, .bool true, .int .i64 bg, .int .i64 a]), some (9, [.row false [.str] pn pρ])] =>
   (match plC Ro.siSh c0,plC [.int .i64] c1 with
  | some (sn,sρ),some (cn,cρ)=>some ⟨sn,sρ,cn,cρ,pn,pρ,0,.zero,bg,a⟩
  | _,_=>none)
 | _=>none
def ClR:Bool->Clus RU
 | false=>⟨Ju false,O4,fun b m=>Hs b [(2,9,[.str]),(3,23,[.rt 1])] m⟩
 | true=>⟨Ju true,Rr,fun b m=>Lx b 3 (Hs b [(2,9,[.str])] m)⟩
theorem Fl {F w bs} {c0 c1 d0 d1:CV} {r:List CV} {vs:List Value} (h0:∀ v,CV.Rel F w bs c0 v->CV.Rel F w bs d0 v) (h1:∀ v,CV.Rel F w bs c1 v->CV.Rel F w bs d1 v) (h:All2 (CV.Rel F w bs) (c0::c1::r) vs):All2 (CV.Rel F w bs) (d0::d1::r) vs:=by
 cases h with
 | cons a h=>cases h with
  | cons b h=>exact .cons (h0 _ a) (.cons (h1 _ b) h)
theorem HZ {m : Mem} {x : RU} (h : O4 m = some x) : ∃ c0 c1, plC Ro.siSh c0 = some (x.sn, x.sρ) ∧ plC [.int .i64] c1 = some (x.cn, x.cρ) ∧
  m=[some (102,[c0,c1,.os 1 1,.os 2 1,.bool false,.int .i64 x.bg,.int .i64 x.at_]),some (9,[.row false [.str] x.pn x.pρ]),some (23,[.row false [.rt 1] x.kn x.kρ])]:=by
 unfold O4 at h;split at h
 ·split at h
  ·rename_i h0 h1;cases h;exact ⟨_,_,h0,h1,rfl⟩
  ·cases h
 ·cases h
theorem Hl {m : Mem} {x : RU} (h : Rr m = some x) : ∃ c0 c1, plC Ro.siSh c0 = some (x.sn, x.sρ) ∧ plC [.int .i64] c1 = some (x.cn, x.cρ) ∧
  m=[some (102,[c0,c1,.os 1 1,.any,.bool true,.int .i64 x.bg,.int .i64 x.at_]),some (9,[.row false [.str] x.pn x.pρ])]:=by
 unfold Rr at h;split at h
 ·split at h
  ·rename_i h0 h1;cases h;exact ⟨_,_,h0,h1,rfl⟩
  ·cases h
 ·cases h
theorem Lb:∀ u,(ClR u).Ok
 | false => {
   get:=fun m x h P F w bs hm=>by
    obtain ⟨c0,c1,h0,h1,rfl⟩:=HZ h;exact hm.cellsTo (b:=0) (T:=102) rfl (Wm h0 _) (ds:=[.sl Ro.siSh x.sn x.sρ,.sl [.int .i64] x.cn x.cρ,.os 1 1,.os 2 1,.bool false,.int .i64 x.bg,.int .i64 x.at_]) rfl fun _ _ _ _ h=>Fl (fun _ hv=>Wc h0 hv) (fun _ hv=>Wc h1 hv) h
   liv:=fun m x h k y T cs hk hl=>by
    obtain ⟨c0,c1,h0,h1,rfl⟩:=HZ h
    match k,hk with
    | 0,hk=>exact ⟨_,_,rfl,qg (Wm h0 _)⟩
    | 1,hk=>cases hk;exact ⟨_,_,rfl,hl⟩
    | 2,hk=>cases hk;exact ⟨_,_,rfl,hl⟩
    | k+3,hk=>cases hk
   ok:=fun x=>rfl
   prep:=fun P F w bs b mem hm=>V5 b _ hm }
 | true => {
   get:=fun m x h P F w bs hm=>by
    obtain ⟨c0,c1,h0,h1,rfl⟩:=Hl h;exact hm.cellsTo (b:=0) (T:=102) rfl (Wm h0 _) (ds:=[.sl Ro.siSh x.sn x.sρ,.sl [.int .i64] x.cn x.cρ,.os 1 1,.any,.bool true,.int .i64 x.bg,.int .i64 x.at_]) rfl fun _ _ _ _ h=>Fl (fun _ hv=>Wc h0 hv) (fun _ hv=>Wc h1 hv) h
   liv:=fun m x h k y T cs hk hl=>by
    obtain ⟨c0,c1,h0,h1,rfl⟩:=Hl h
    match k,hk with
    | 0,hk=>exact ⟨_,_,rfl,qg (Wm h0 _)⟩
    | 1,hk=>cases hk;exact ⟨_,_,rfl,hl⟩
    | k+2,hk=>cases hk
   ok:=fun x=>rfl
   prep:=fun P F w bs b mem hm=>by
    obtain ⟨bs',h1,h2⟩:=V5 b [(2,9,[.str])] hm;exact ⟨bs',h1,jbu h2 b 3⟩ }
abbrev MSp:=Bool->List A1->RU->Tree (AV × RU)
def zB (u:MSp):List A1->Mem->Tree (AV × Mem)
 | .c (.ptr b 0)::rest,mem=>match nth mem b with
  | some (some (_,cs))=>(match nth cs 4 with
   | some (.bool true)=>clG (ClR true) (u true) (.c (.ptr b 0)::rest) mem
   | some (.bool false)=>clG (ClR false) (u false) (.c (.ptr b 0)::rest) mem
   | _=>.fail)
  | _=>.fail
 | _,_=>.fail
theorem jan {P:Program} {f:Nat} {u:MSp} (h:∀ b,qH P f (clG (ClR b) (u b))):qH P f (zB u):=by
 intro args mem r mem' hG;unfold zB at hG;split at hG
 ·split at hG
  ·split at hG
   ·exact h true _ _ _ _ hG
   ·exact h false _ _ _ _ hG
   ·simp [Tree.sel] at hG
  ·simp [Tree.sel] at hG
 ·simp [Tree.sel] at hG
def uS {β:Type} (enc:β->AV) (d:β) (sp:RU->Option (β × RU)) (x:RU):Tree (AV × RU) :=
 .need (os1 (sp x)) (.leaf (enc (ov1 (d,rU0) (sp x)).1,(ov1 (d,rU0) (sp x)).2))
theorem KB {β:Type} {enc:β->AV} {d:β} {sp:RU->Option (β × RU)} {x:RU} {z:AV × RU} (h:(uS enc d sp x).sel=some z):∃ v x',sp x=some (v,x')∧z=(enc v,x'):=by
 unfold uS at h;cases hs:sp x with
 | none=>rw [hs] at h;cases h
 | some y=>rw [hs] at h;cases h;exact ⟨_,_,rfl,rfl⟩
def SyC {β:Type} (u:Bool) (enc:β->AV) (T:Tree (AV × RU)):Option (β × RU)->Prop
 | none=>True
 | some (v,x')=>∃ y,T.sel=some y∧leA y.1 (enc v)∧Ju u y.2=Ju u x'
section
variable {β γ:Type} {u:Bool} {enc:β->AV}
theorem SyC.cond {c:Bool} {T E:Tree (AV × RU)} {a b:Option (β × RU)} (h1:c=true->SyC u enc T a) (h2:c=false->SyC u enc E b):SyC u enc (.br c T E) (bif c then a else b):=by
 cases c with
 | true =>
   have:=h1 rfl
   show SyC u enc _ a;cases a with
  | none=>exact trivial
  | some y=>exact this
 | false =>
   have:=h2 rfl
   show SyC u enc _ b;cases b with
  | none=>exact trivial
  | some y=>exact this
theorem SyC.nd {c d:Bool} {T:Tree (AV × RU)} {a:Option (β × RU)} (h:c=true->d=true) (h1:c=true->SyC u enc T a):SyC u enc (.need d T) (Go.Proofs.YtiefjlcakpdfeaaGreat.nd c a):=by
 cases c with
 | false=>exact trivial
 | true =>
   have:=h1 rfl
   show SyC u enc _ a;rw [h rfl];cases a with
  | none=>exact trivial
  | some y=>exact this
theorem SyC.need {d:Bool} {T:Tree (AV × RU)} {a:Option (β × RU)} (h:d=true) (h1:SyC u enc T a):SyC u enc (.need d T) a:=by
 subst h;cases a with
 | none=>exact trivial
 | some y=>exact h1
theorem SyC.ret {v:β} {x:RU}:SyC u enc (.leaf (enc v,x)) (some (v,x)):=⟨_,rfl,leA.refl,rfl⟩
theorem SyC.ret' {r:AV} {v:β} {x x':RU} (h:leA r (enc v)) (hx:Ju u x=Ju u x'):SyC u enc (.leaf (r,x)) (some (v,x')):=⟨_,rfl,h,hx⟩
theorem SyC.br1 {c:Bool} {T E:Tree (AV × RU)} {a:Option (β × RU)} (hc:c=true) (h:SyC u enc T a):SyC u enc (.br c T E) a:=by
 subst hc;cases a with
 | none=>exact trivial
 | some y=>exact h
theorem SyC.br0 {c:Bool} {T E:Tree (AV × RU)} {a:Option (β × RU)} (hc:c=false) (h:SyC u enc E a):SyC u enc (.br c T E) a:=by
 subst hc;cases a with
 | none=>exact trivial
 | some y=>exact h
end
theorem UJ {H : Hd} (hH : HdOk Tryz.prog H) {X : HdP} (hX : XOk Tryz.prog X) (n f : Nat) {u : MSp}
  (h:∀ b rest x z,(u b rest x).sel=some z->∃ y,(Qt (ClR b) Tryz.prog H X n f rest x).sel=some y∧leA y.1 z.1∧Ju b y.2=Ju b z.2):qH Tryz.prog f (zB u) :=
 jan fun b=>jdY (Lb b) hH hX n f fun rest x z hz=>by
  obtain ⟨y,h1,h2,h3⟩:=h b rest x z hz;refine ⟨y,h1,h2,fun F w bs hm => ?_⟩;have e:∀ x,(ClR b).lay x=Ju b x:=fun x=>by cases b<;>rfl
  rw [e] at hm ⊢;rw [← h3];exact hm
def nk:Bool->RU->RU
 | false,x=>x
 | true,x=>{ x with kn:=0,kρ:=.zero }
theorem M1 (u:Bool) (x:RU):Ju u (nk u x)=Ju u x:=by cases u<;>rfl
theorem SyC.rt {β:Type} {u:Bool} {enc:β->AV} {v:β} {x:RU}:SyC u enc (.leaf (enc v,nk u x)) (some (v,x)):=.ret' leA.refl (M1 u x)
def UU (u:Bool) (x:RU):Option (Bool × RU) :=
 bif (bif u then true else ja x.cn==0) then some (false,x)
 else nd (jc 0 x.cn) (nd (le 0 1&&le 1 (ja x.cn)) (some (((x.cρ.at 0).at 0).N [] |>.tmod 2 |> (· != 0),{ x with cn:=x.cn - 1,cρ:=x.cρ.from 1 })))
def jfl:MSp:=fun u rest x=>match rest with
 | []=>uS jF false (UU u) x
 | _=>.fail
noncomputable abbrev HE:Hd:=⟨[],[],[],[]⟩
def je2 (u:Bool) (x:RU):Tree (AV × RU) :=
 .br (bif u then true else ja x.cn==0) (.leaf (jF false,nk u x)) (.need (jc 0 x.cn) (.need (le 0 1&&le 1 (ja x.cn)) (.need true
  (.leaf (jF (((x.cρ.at 0).at 0).N [] |>.tmod 2 |> (· != 0)),nk u { x with cn:=x.cn - 1,cρ:=x.cρ.from 1 })))))
theorem jk5 (u:Bool) (x:RU):Qt (ClR u) Tryz.prog HE X3 10 173 [] x=je2 u x:=by cases u<;>kernel_rfl
theorem jqF:qH Tryz.prog 173 (zB jfl):=UJ (H:=HE) (X:=X3) HdOk.nil x3 10 173 fun u rest x z hz=>by
 unfold jfl at hz;split at hz
 rotate_left
 ·cases hz
 obtain ⟨v,x',h1,rfl⟩:=KB hz
 have h:SyC u jF (je2 u x) (UU u x):=by
  unfold je2 UU;exact SyC.cond (fun _=>SyC.rt) fun _=>SyC.nd id fun _=>SyC.nd id fun _=>SyC.need rfl SyC.rt
 rw [h1] at h;rw [jk5];exact h
def spc:ByteArray:=bs [32]
def wUndoS:ByteArray:=bs [117,110,100,111,32]
def US (x:RU) (l:ByteArray):RU:={ x with pn:=x.pn+1,pρ:=Val.cat x.pn x.pρ (zk l) }
def QF (u:Bool) (m:Nat) (σ:Val) (x:RU):Option (Unit × RU) :=
 nd (K8 m σ spc) (bif u then nd (Nat.ble (wUndoS.size+(K6 m σ spc).size) 9223372036854775807) (nd (Nat.ble ((x.pn+1)*16) 140737488355328) (some ((),US x (UB wUndoS (K6 m σ spc)))))
  else nd (Nat.ble ((x.pn+1)*16) 140737488355328) (some ((),US x (K6 m σ spc))))
def DF:MSp:=fun u rest x=>match rest with
 | [.c (.sl [.str] m σ)]=>uS kQ () (QF u m σ) x
 | _=>.fail
noncomputable abbrev H18:Hd:=⟨[],[(18,nG G18)],[],[]⟩
theorem h18:HdOk Tryz.prog H18:=HdOk.nil.ucCons p18
def jg1 (u:Bool) (m:Nat) (σ:Val) (x:RU):Tree (AV × RU) :=
 .need (K8 m σ spc) (.br u (.need (Nat.ble (wUndoS.size+(K6 m σ spc).size) 9223372036854775807) (.need (Nat.ble ((x.pn+1)*16) 140737488355328) (.leaf (kQ (),nk u (US x (UB wUndoS (K6 m σ spc)))))))
  (.need (Nat.ble ((x.pn+1)*16) 140737488355328) (.leaf (kQ (),nk u (US x (K6 m σ spc))))))
theorem jjQ (u:Bool) (m:Nat) (σ:Val) (x:RU):Qt (ClR u) Tryz.prog H18 X3 10 108 [.c (.sl [.str] m σ)] x=jg1 u m σ x:=by cases u<;>kernel_rfl
theorem jgz:qH Tryz.prog 108 (zB DF):=UJ (H:=H18) (X:=X3) h18 x3 10 108 fun u rest x z hz=>by
 unfold DF at hz;split at hz
 rotate_left
 ·cases hz
 rename_i m σ;obtain ⟨v,x',h1,rfl⟩:=KB hz
 have h:SyC u kQ (jg1 u m σ x) (QF u m σ x):=by
  unfold jg1 QF;exact SyC.nd id fun _=>SyC.cond (fun _=>SyC.nd id fun _=>SyC.nd id fun _=>SyC.rt) fun _=>SyC.nd id fun _=>SyC.rt
 rw [h1] at h;rw [jjQ];exact h
abbrev RpF:=Nat->Val->Int->Option (Nat × Val)
structure Par where
 O:OpF
 E:EvS
 R:RpF
def jau (R:RpF):List A1->Option (Bool × AV)
 | [.c (.sl [.rt 1] m κ),.c (.int .i64 c)]=>some (os1 (R m κ c),.one (.c (.sl [.rt 1] (ov1 (0,.zero) (R m κ c)).1 (ov1 (0,.zero) (R m κ c)).2)))
 | _=>none
structure ParOk (p:Par):Prop where
 op:jj Tryz.prog 174 (nG (NM p.O))
 ev:jj Tryz.prog 176 (nG (ae p.E))
 rp:jj Tryz.prog 144 (nG (jau p.R))
def jdR (x:RU) (n:Nat) (ρ:Val):RU:={ x with kn:=x.kn+1,kρ:=Val.cat x.kn x.kρ (Val.ofFlat 1 [.sl (aw 1) n ρ]) }
def B6 (x:RU) (r:Int × Val):RU:={ x with sn:=bif r.1==0 then x.sn else 0,sρ:=r.2 }
def doS (p:Par) (u:Bool) (s:RS) (x:RU):Option (Int × RU) :=
 (UU u x).bind fun y=>bif y.1 then some (29,y.2) else (p.O y.2.sn y.2.sρ s.wn s.wρ).bind fun r=>bif r.1 != 0 then some (r.1,y.2) else
  nd (Nat.ble ((1+s.wn)*16) 140737488355328) ((QF u (1+s.wn) (Val.cat 1 (zk wDo) s.wρ) (nk u (B6 y.2 r))).bind fun z=>bif !u then nd (Nat.ble ((z.2.kn+1)*24) 140737488355328) (some (0,jdR z.2 s.bn s.bρ)) else some (0,z.2))
def RR:A1->Option RS
 | .agg [.str kd,.sl [.str] wn wρ,.str o,.int .i64 v,.sl e1 cn cρ,.sl e2 bn bρ,.sl e3 en eρ,.int .i64 a]=>if shEq.shsEq e1 (aw 0)&&shEq.shsEq e2 (aw 1)&&shEq.shsEq e3 (aw 1) then some ⟨kd,wn,wρ,⟨o,v,cn,cρ⟩,bn,bρ,en,eρ,a⟩ else none
 | _=>none
theorem VY {a:A1} {s:RS} (h:RR a=some s):a=.agg s.cells:=by
 unfold RR at h;split at h
 ·split at h
  ·rename_i hs;simp only [aTq] at hs;cases h;rw [jm hs.1.1,jm hs.1.2,jm hs.2];rfl
  ·cases h
 ·cases h
def jeL (p:Par):MSp:=fun u rest x=>match rest with
 | [a]=>(match RR a with
  | some s=>uS encI 0 (doS p u s) x
  | none=>.fail)
 | _=>.fail
noncomputable abbrev jfw (p:Par):Hd:=⟨[],[(174,nG (NM p.O))],[],[(108,zB DF),(173,zB jfl)]⟩
theorem jrS {p:Par} (hp:ParOk p):HdOk Tryz.prog (jfw p):=((HdOk.nil.mcCons jqF).mcCons jgz).ucCons hp.op
def jre (s:RS) (x:RU):Bool->Tree (AV × RU)
 | false=>.need (Nat.ble ((x.kn+1)*24) 140737488355328) (.leaf (encI 0,jdR x s.bn s.bρ))
 | true=>.fail
def jeD (p:Par) (u:Bool) (s:RS) (x:RU):Tree (AV × RU) :=
 let st:=UU u x
 let y:=ov1 (false,rU0) st
 let o:=p.O y.2.sn y.2.sρ s.wn s.wρ
 let nt:=QF u (1+s.wn) (Val.cat 1 (zk wDo) s.wρ) (nk u (B6 y.2 (orV o)))
 let z:=ov1 ((),rU0) nt
 .need (os1 st) (.br y.1 (.leaf (encI 29,nk u y.2)) (.need (orB o) (.br ((orV o).1 != 0) (.leaf (encI (orV o).1,nk u y.2))
  (.need (Nat.ble ((1+s.wn)*16) 140737488355328) (.need (os1 nt) (.br (!u) (jre s z.2 u) (.leaf (encI 0,nk u z.2))))))))
theorem jkV (p:Par) (u:Bool) (s:RS) (x:RU):Qt (ClR u) Tryz.prog (jfw p) X3 10 143 [.agg s.cells] x=jeD p u s x:=by cases u<;>kernel_rfl
theorem jmD {o:OR}:orB o=os1 o:=by cases o<;>rfl
theorem jlt {o:OR}:orV o=ov1 (0,.zero) o:=by cases o<;>rfl
theorem jgW (p:Par) (u:Bool) (s:RS) (x:RU):SyC u encI (jeD p u s x) (doS p u s x):=by
 unfold jeD doS;simp only [jmD,jlt];cases UU u x with
 | none=>exact trivial
 | some y =>
 simp only [os1,ov1,Option.bind];refine SyC.need rfl (SyC.cond (fun _=>SyC.rt) fun _ => ?_);cases p.O y.2.sn y.2.sρ s.wn s.wρ with
 | none=>exact trivial
 | some r =>
 simp only;refine SyC.need rfl (SyC.cond (fun _=>SyC.rt) fun _=>SyC.nd id fun _ => ?_);cases QF u (1+s.wn) (Val.cat 1 (zk wDo) s.wρ) (nk u (B6 y.2 r)) with
 | none=>exact trivial
 | some z =>
 simp only;refine SyC.need rfl ?_;cases u with
 | false=>exact SyC.br1 rfl (SyC.nd id fun _=>SyC.ret)
 | true=>exact SyC.br0 rfl SyC.rt
theorem jqE {p:Par} (hp:ParOk p):qH Tryz.prog 143 (zB (jeL p)):=UJ (H:=jfw p) (X:=X3) (jrS hp) x3 10 143 fun u rest x z hz=>by
 unfold jeL at hz;split at hz
 rotate_left
 ·cases hz
 split at hz
 rotate_left
 ·cases hz
 rename_i a s hs;rw [VY hs,jkV];obtain ⟨v,x',h1,rfl⟩:=KB hz;have h:=jgW p u s x;rw [h1] at h;exact h
abbrev BE:=Nat × Val × Int
def Lq (x:BE):AV:=.tup [.c (.sl (aw 1) x.1 x.2.1),.c (.int .i64 x.2.2)]
def Ki (p:Par) (_:Bool) (s:RS) (x:RU):Option (BE × RU) :=
 (p.E s.cond x.sn x.sρ).bind fun v=>bif v.2 != 0 then some ((0,.zero,v.2),x) else bif v.1 != 0 then some ((s.bn,s.bρ,0),x) else bif jb s.kind qo then some ((0,.zero,12),x) else some ((s.en,s.eρ,0),x)
def jgt (p:Par):MSp:=fun u rest x=>match rest with
 | [a]=>(match RR a with
  | some s=>uS Lq (0,.zero,0) (Ki p u s) x
  | none=>.fail)
 | _=>.fail
noncomputable abbrev jgO (p:Par):Hd:=⟨[],[(176,nG (ae p.E))],[],[]⟩
theorem jqC {p:Par} (hp:ParOk p):HdOk Tryz.prog (jgO p):=HdOk.nil.ucCons hp.ev
def GF (e:Int):AV:=.tup [.c .nils,.c (.int .i64 e)]
theorem jab {e:Int}:leA (GF e) (Lq (0,.zero,e)):=ZV (.cons (.c fun _ _ _ h=>by cases h;exact .slnil) (.cons (.c leC.refl) .nil))
def jeR (p:Par) (u:Bool) (s:RS) (x:RU):Tree (AV × RU) :=
 let o:=p.E s.cond x.sn x.sρ
 let v:=ov1 (0,0) o
 .need (os1 o) (.br (v.2 != 0) (.leaf (GF v.2,nk u x)) (.br (v.1 != 0) (.leaf (Lq (s.bn,s.bρ,0),nk u x)) (.br (jb s.kind qo) (.leaf (GF 12,nk u x)) (.leaf (Lq (s.en,s.eρ,0),nk u x)))))
theorem jjC (p:Par) (u:Bool) (s:RS) (x:RU):Qt (ClR u) Tryz.prog (jgO p) X3 10 145 [.agg s.cells] x=jeR p u s x:=by cases u<;>kernel_rfl
theorem SyC.rl {β:Type} {u:Bool} {enc:β->AV} {r:AV} {v:β} {x:RU} (h:leA r (enc v)):SyC u enc (.leaf (r,nk u x)) (some (v,x)):=.ret' h (M1 u x)
theorem jq2 {p:Par} (hp:ParOk p):qH Tryz.prog 145 (zB (jgt p)):=UJ (H:=jgO p) (X:=X3) (jqC hp) x3 10 145 fun u rest x z hz=>by
 unfold jgt at hz;split at hz
 rotate_left
 ·cases hz
 split at hz
 rotate_left
 ·cases hz
 rename_i a s hs;rw [VY hs,jjC];obtain ⟨v,x',h1,rfl⟩:=KB hz
 have h:SyC u Lq (jeR p u s x) (Ki p u s x):=by
  unfold jeR Ki;cases p.E s.cond x.sn x.sρ with
  | none=>exact trivial
  | some v =>
  simp only [os1,ov1,Option.bind];exact SyC.need rfl (SyC.cond (fun _=>SyC.rl jab) fun _=>SyC.cond (fun _=>SyC.rt) fun _=>SyC.cond (fun _=>SyC.rl jab) fun _=>SyC.rt)
 rw [h1] at h;exact h
abbrev BS:=Nat × Val × Int
def Ht (x:BS):AV:=.tup [.c (.sl [.rt 1] x.1 x.2.1),.c (.int .i64 x.2.2)]
theorem Gu {e:Int}:leA (GF e) (Ht (0,.zero,e)):=ZV (.cons (.c fun _ _ _ h=>by cases h;exact .slnil) (.cons (.c leC.refl) .nil))
def FZ (n:Nat) (ρ:Val):Val:=Val.ofFlat 1 [.sl (aw 1) n ρ]
def XL (u:Bool) (x:RU):RU:=nk u { x with bg:=IntKind.wrap .i64 (x.bg+1) }
def Bt (p:Par) (u:Bool) (s:RS) (x:RU):Option (BS × RU) :=
 bif lt 4096 (XL u x).bg then some ((0,.zero,6),XL u x)
 else bif jb s.kind wDo then (doS p u s (XL u x)).bind fun d=>some ((0,.zero,d.1),d.2)
 else bif jb s.kind kx then nd (Nat.ble ((1+s.wn)*16) 140737488355328) ((QF u (1+s.wn) (Val.cat 1 (zk kx) s.wρ) (XL u x)).bind fun z=>some ((0,.zero,0),z.2))
 else bif jb s.kind qQ then (p.R 1 (FZ s.bn s.bρ) s.cond.v).bind fun r=>some ((r.1,r.2,0),XL u x)
 else (Ki p u s (XL u x)).bind fun b=>some ((1,FZ b.1.1 b.1.2.1,b.1.2.2),b.2)
def jh1 (p:Par):MSp:=fun u rest x=>match rest with
 | [a]=>(match RR a with
  | some s=>uS Ht (0,.zero,0) (Bt p u s) x
  | none=>.fail)
 | _=>.fail
noncomputable abbrev jet (p:Par):Hd:=⟨[],[(144,nG (jau p.R))],[],[(108,zB DF),(143,zB (jeL p)),(145,zB (jgt p))]⟩
theorem jrU {p:Par} (hp:ParOk p):HdOk Tryz.prog (jet p):=(((HdOk.nil.mcCons (jq2 hp)).mcCons (jqE hp)).mcCons jgz).ucCons hp.rp
def jft (p:Par) (u:Bool) (s:RS) (x:RU):Tree (AV × RU) :=
 let x1:=XL u x
 let d:=doS p u s x1
 let dv:=ov1 (0,rU0) d
 let nt:=QF u (1+s.wn) (Val.cat 1 (zk kx) s.wρ) x1
 let z:=ov1 ((),rU0) nt
 let r:=p.R 1 (FZ s.bn s.bρ) s.cond.v
 let rv:=ov1 (0,.zero) r
 let c:=Ki p u s x1
 let cv:=ov1 ((0,.zero,0),rU0) c
 .br (lt 4096 x1.bg) (.leaf (GF 6,x1)) (.br (jb s.kind wDo) (.need (os1 d) (.leaf (GF dv.1,nk u dv.2)))
  (.br (jb s.kind kx) (.need (Nat.ble ((1+s.wn)*16) 140737488355328) (.need (os1 nt) (.leaf (GF 0,nk u z.2))))
  (.br (jb s.kind qQ) (.need (os1 r) (.leaf (Ht (rv.1,rv.2,0),x1)))
   (.need (os1 c) (.leaf (Ht (1,FZ cv.1.1 cv.1.2.1,cv.1.2.2),nk u cv.2))))))
theorem jlo (p:Par) (u:Bool) (s:RS) (x:RU):Qt (ClR u) Tryz.prog (jet p) X3 10 107 [.agg s.cells] x=jft p u s x:=by cases u<;>kernel_rfl
theorem jhB (p:Par) (u:Bool) (s:RS) (x:RU):SyC u Ht (jft p u s x) (Bt p u s x):=by
 unfold jft Bt;refine SyC.cond (fun _=>.ret' Gu rfl) fun _=>SyC.cond (fun _ => ?_) fun _=>SyC.cond (fun _=>SyC.nd id fun _ => ?_) fun _=>SyC.cond (fun _ => ?_) fun _ => ?_
 ·cases doS p u s (XL u x) with
  | none=>exact trivial
  | some y=>exact SyC.need rfl (SyC.rl Gu)
 ·cases QF u (1+s.wn) (Val.cat 1 (zk kx) s.wρ) (XL u x) with
  | none=>exact trivial
  | some y=>exact SyC.need rfl (SyC.rl Gu)
 ·cases p.R 1 (FZ s.bn s.bρ) s.cond.v with
  | none=>exact trivial
  | some y=>exact SyC.need rfl SyC.ret
 ·cases Ki p u s (XL u x) with
  | none=>exact trivial
  | some y=>exact SyC.need rfl SyC.rt
theorem jrt {p:Par} (hp:ParOk p):qH Tryz.prog 107 (zB (jh1 p)):=UJ (H:=jet p) (X:=X3) (jrU hp) x3 10 107 fun u rest x z hz=>by
 unfold jh1 at hz;split at hz
 rotate_left
 ·cases hz
 split at hz
 rotate_left
 ·cases hz
 rename_i a s hs;rw [VY hs,jlo];obtain ⟨v,x',h1,rfl⟩:=KB hz;have h:=jhB p u s x;rw [h1] at h;exact h
abbrev BF:=Bool->Nat->Val->RU->Option (Int × RU)
def u52 (B:BF):MSp:=fun u rest x=>match rest with
 | [.c (.sl es n ρ)]=>if shEq.shsEq es (aw 1) then uS encI 0 (B u n ρ) x else .fail
 | _=>.fail
noncomputable abbrev H52 (p:Par) (B:BF):Hd:=⟨[],[],[],[(52,zB (u52 B)),(107,zB (jh1 p)),(108,zB DF)]⟩
theorem h52 {p:Par} (hp:ParOk p) {B:BF} (hB:qH Tryz.prog 52 (zB (u52 B))):HdOk Tryz.prog (H52 p B):=((HdOk.nil.mcCons jgz).mcCons (jrt hp)).mcCons hB
structure CO where
 r:Int
 n:Nat
 ρ:Val
 l:Int
 i:Int
 x:RU
structure CI where
 o:CO
 m:Nat
 κ:Val
 l2:Int
 j:Int
def slO (c:CO):List (Nat × AV):=[(0,.one (.c (.ptr 0 0))),(4,.one (.c (.int .i64 c.r))),(12,.one (.c (.sl (aw 1) c.n c.ρ))),(13,.one (.c (.int .i64 c.l))),(14,.one (.c (.int .i64 c.i)))]
def SO (u:Bool) (c:CO):St:=mkS 51 (slO c) (Ju u c.x)
def SIn (u:Bool) (c:CI):St:=mkS 51 (slO c.o++[(37,.one (.c (.sl [.rt 1] c.m c.κ))),(38,.one (.c (.int .i64 c.l2))),(39,.one (.c (.int .i64 c.j)))]) (Ju u c.o.x)
def jaz:Bool->Mem->Option RU
 | false=>O4
 | true=>Rr
def ja3 (u:Bool) (l:List (Nat × AV)) (m:Mem):Option CO:=match l with
 | [(0, .one (.c (.ptr 0 0))), (4, .one (.c (.int .i64 r))), (12, .one (.c (.sl es n ρ))), (13, .one (.c (.int .i64 l))), (14, .one (.c (.int .i64 i)))] =>
   if shEq.shsEq es (aw 1) then (match jaz u m with
    | some x=>some ⟨r,n,ρ,l,i,x⟩
    | none=>none) else none
 | _=>none
def jhU (u:Bool) (l:List (Nat × AV)) (m:Mem):Option CI:=match l with
 | [(0, .one (.c (.ptr 0 0))), (4, .one (.c (.int .i64 r))), (12, .one (.c (.sl es n ρ))), (13, .one (.c (.int .i64 l))), (14, .one (.c (.int .i64 i))), (37, .one (.c (.sl [.rt 1] m' κ))), (38, .one (.c (.int .i64 l2))), (39, .one (.c (.int .i64 j)))] =>
   if shEq.shsEq es (aw 1) then (match jaz u m with
    | some x=>some ⟨⟨r,n,ρ,l,i,x⟩,m',κ,l2,j⟩
    | none=>none) else none
 | _=>none
theorem LQ {u:Bool} {m:Mem} {x:RU} (h:jaz u m=some x) (P:Program) (F:Nat->Prop) (w:World) (bs:List BI) (hm:MemRel P F w bs m):MemRel P F w bs (Ju u x):=by
 cases u with
 | false=>exact (Lb false).get m x h P F w bs hm
 | true=>exact (Lb true).get m x h P F w bs hm
theorem LeSl.refl:∀ {l:List (Nat × AV)},LeSl l l
 | []=>.nil
 | _::_=>.cons leAB.refl LeSl.refl
theorem MY (u:Bool):∀ l m c,ja3 u l m=some c->StWk (mkS 51 l m) (SO u c):=by
 intro l m c h;unfold ja3 at h;split at h
 ·split at h
  ·rename_i hs;rw [jm hs];split at h
   ·rename_i hx;cases h;exact yk LeSl.refl (LQ hx)
   ·cases h
  ·cases h
 ·cases h
theorem jiE (u:Bool):∀ l m c,jhU u l m=some c->StWk (mkS 51 l m) (SIn u c):=by
 intro l m c h;unfold jhU at h;split at h
 ·split at h
  ·rename_i hs;rw [jm hs];split at h
   ·rename_i hx;cases h;exact yk LeSl.refl (LQ hx)
   ·cases h
  ·cases h
 ·cases h
def SOE (u:Bool) (d:Int × RU):St:=mkS 51 [(4,.one (.c (.int .i64 d.1)))] (Ju u d.2)
def jbk (u:Bool) (l:List (Nat × AV)) (m:Mem):Option (Int × RU):=match l with
 | [(4,.one (.c (.int .i64 r)))]=>(match jaz u m with
  | some x=>some (r,x)
  | none=>none)
 | _=>none
theorem jgj (u:Bool):∀ l m c,jbk u l m=some c->StWk (mkS 51 l m) (SOE u c):=by
 intro l m c h;unfold jbk at h;split at h
 ·split at h
  ·rename_i hx;cases h;exact yk LeSl.refl (LQ hx)
  ·cases h
 ·cases h
def AO (u:Bool):Sx.Frame CO (Int × RU):=⟨1,51,[0,4,12,13,14],ja3 u,SO u,[4],jbk u,SOE u⟩
def AI (u:Bool):Sx.Frame CI CO:=⟨1,51,[0,4,12,13,14,37,38,39],jhU u,SIn u,[0,4,12,13,14],ja3 u,SO u⟩
theorem aO (u:Bool):(AO u).Ok:=⟨MY u,jgj u⟩
theorem aI (u:Bool):(AI u).Ok:=⟨jiE u,MY u⟩
def LI (κ:Val) (j:Int):Nat:=((κ.at j.toNat).at 0).L []
def LH (κ:Val) (j:Int):Val:=(κ.at j.toNat).at 0
def rIn (u:Bool) (B:BF) (g:CI->Tree (XP × CO)) (c:CI):Tree (XP × CO) :=
 let o:=B u (LI c.κ c.j) (LH c.κ c.j) (nk u c.o.x)
 let y:=ov1 (0,rU0) o
 .br (lt c.j c.l2) (.need (jc c.j c.m) (.need (os1 o) (.br (y.1 != 0) (.leaf (.ret,{ c.o with r:=y.1,x:=nk u y.2 })) (g { c with o:={ c.o with x:=nk u y.2 },j:=IntKind.wrap .i64 (c.j+1) })))) (.leaf (.exit 2,{ c.o with x:=nk u c.o.x }))
theorem jlK (p:Par) (B:BF) (u:Bool) (g:CI->Tree (XP × CO)) (c:CI):ju (AI u) Tryz.prog (H52 p B) X0 10 52 1 g c=rIn u B g c:=by cases u<;>kernel_rfl
def Ys (u:Bool) (B:BF) (m:Nat) (κ:Val) (l:Int):Nat->Int->RU->Option (Int × RU)
 | 0,_,_=>none
 | k+1,j,x=>bif lt j l then nd (jc j m) ((B u (LI κ j) (LH κ j) (nk u x)).bind fun y=>bif y.1 != 0 then some (y.1,nk u y.2) else Ys u B m κ l k (IntKind.wrap .i64 (j+1)) (nk u y.2)) else some (0,nk u x)
def gIn (u:Bool) (B:BF) (k:Nat) (c:CI):Tree (XP × CO) :=
 let o:=Ys u B c.m c.κ c.l2 k c.j c.o.x
 let y:=ov1 (0,rU0) o
 .need (os1 o) (.br (y.1 != 0) (.leaf (.ret,{ c.o with r:=y.1,x:=y.2 })) (.leaf (.exit 2,{ c.o with x:=y.2 })))
def jg7 (c:CO):Option (Int × RU)->Option (XP × CO)
 | some y=>some (bif y.1 != 0 then (.ret,{ c with r:=y.1,x:=y.2 }) else (.exit 2,{ c with x:=y.2 }))
 | none=>none
theorem MZ (u:Bool) (B:BF) (k:Nat) (c:CI):(gIn u B k c).sel=jg7 c.o (Ys u B c.m c.κ c.l2 k c.j c.o.x):=by
 unfold gIn;cases Ys u B c.m c.κ c.l2 k c.j c.o.x with
 | none=>rfl
 | some y =>
   show (bif true then (bif y.1 != 0 then some _ else some _) else none)=_;unfold jg7;simp only [ov1];cases (y.1 != 0)<;>rfl
theorem joq (p:Par) (B:BF) (u:Bool) (k:Nat) (c:CI) (x:XP × CO) (h:(gIn u B (k+1) c).sel=some x):(ju (AI u) Tryz.prog (H52 p B) X0 10 52 1 (gIn u B k) c).sel=some x:=by
 rw [jlK];rw [MZ] at h;unfold Ys at h;unfold rIn;simp only [jK,jt,jE,MZ];revert h;cases lt c.j c.l2 with
 | false=>exact fun h=>h
 | true =>
 cases jc c.j c.m with
 | false=>exact fun h=>h
 | true =>
 simp only [nd,cond_true];cases B u (LI c.κ c.j) (LH c.κ c.j) (nk u c.o.x) with
 | none=>exact fun h=>h
 | some y =>
 simp only [Option.bind,os1,ov1,cond_true];cases hy:(y.1 != 0) with
 | true=>simp only [cond_true];intro h;rw [← h];unfold jg7;simp only [hy,cond_true]
 | false=>simp only [cond_false];exact fun h=>h
theorem jlT {p:Par} (hp:ParOk p) {B:BF} (hB:qH Tryz.prog 52 (zB (u52 B))) (u:Bool):∀ k,CoreOk Tryz.prog 52 1 1 (SIn u) (SO u) (gIn u B k) :=
 CoreOk.fuel (A:=AI u) (aI u) (h52 hp hB) Go.Proofs.YtiefjlcakpdfeaaGreat.x0 10 (fun _=>rfl) (joq p B u)
def jmZ (u:Bool) (B:BF) (c:CI):Tree (XP × CO):=gIn u B (c.m+1) c
def X52 (u:Bool) (B:BF):HdP:=⟨[],[],[],[((52,1),j4 (AI u) (jmZ u B))],[],0,[]⟩
theorem x52 {p:Par} (hp:ParOk p) {B:BF} (hB:qH Tryz.prog 52 (zB (u52 B))) (u:Bool):XOk Tryz.prog (X52 u B) :=
 XOk.lxCons XOk.nil (CoreOk.lx (g:=jmZ u B) (aI u) fun fn c b h1 h2 h3 c0 x hx=>jlT hp hB u _ fn c b h1 h2 h3 c0 x hx)
def jp1:ByteArray:=bs [102,97,105,108]
def jaS (k:ByteArray):Val:=Val.ofFlat 1 [.str jp1,.str k]
def jdE (u:Bool) (x:RU) (a:Int):RU:=nk u { x with at_:=a }
def rOu (p:Par) (u:Bool) (B:BF) (g:CO->Tree (XP × (Int × RU))) (c:CO):Tree (XP × (Int × RU)) :=
 let s:=jg c.ρ c.i.toNat
 let st:=Bt p u s (nk u c.x)
 let y:=ov1 ((0,.zero,0),rU0) st
 let nt:=QF u 2 (jaS s.kind) (nk u y.2)
 let z:=ov1 ((),rU0) nt
 let inn:=Ys u B y.1.1 y.1.2.1 (ja y.1.1) (y.1.1+1) 0 (nk u y.2)
 let w:=ov1 (0,rU0) inn
 .br (lt c.i c.l) (.need (jc c.i c.n) (.need (os1 st) (.br (y.1.2.2 != 0) (.need (os1 nt) (.leaf (.ret,(y.1.2.2,jdE u z.2 s.at_))))
  (.need (os1 inn) (.br (w.1 != 0) (.leaf (.ret,(w.1,nk u w.2))) (g { c with i:=IntKind.wrap .i64 (c.i+1),x:=nk u w.2 })))))) (.leaf (.exit 0,(c.r,nk u c.x)))
theorem jmi (p:Par) (B:BF) (u:Bool) (g:CO->Tree (XP × (Int × RU))) (c:CO):ju (AO u) Tryz.prog (H52 p B) (X52 u B) 10 52 0 g c=rOu p u B g c:=by cases u<;>kernel_rfl
def Wk (p:Par) (u:Bool) (B:BF) (n:Nat) (ρ:Val) (l:Int):Nat->Int->RU->Option (Int × RU)
 | 0,_,_=>none
 | k + 1, i, x => bif lt i l then nd (jc i n) ((Bt p u (jg ρ i.toNat) (nk u x)).bind fun y =>
   bif y.1.2.2 != 0 then (QF u 2 (jaS (jg ρ i.toNat).kind) (nk u y.2)).bind fun z=>some (y.1.2.2,jdE u z.2 (jg ρ i.toNat).at_)
   else (Ys u B y.1.1 y.1.2.1 (ja y.1.1) (y.1.1+1) 0 (nk u y.2)).bind fun w=>bif w.1 != 0 then some (w.1,nk u w.2) else Wk p u B n ρ l k (IntKind.wrap .i64 (i+1)) (nk u w.2)) else some (0,nk u x)
def gOu (p:Par) (u:Bool) (B:BF) (k:Nat) (c:CO):Tree (XP × (Int × RU)) :=
 let o:=Wk p u B c.n c.ρ c.l k c.i c.x
 let y:=ov1 (0,rU0) o
 .need (os1 o) (.br (y.1 != 0) (.leaf (.ret,y)) (.leaf (.exit 0,(c.r,y.2))))
def jbX (r:Int):Option (Int × RU)->Option (XP × (Int × RU))
 | some y=>some (bif y.1 != 0 then (.ret,y) else (.exit 0,(r,y.2)))
 | none=>none
theorem MX (p:Par) (u:Bool) (B:BF) (k:Nat) (c:CO):(gOu p u B k c).sel=jbX c.r (Wk p u B c.n c.ρ c.l k c.i c.x):=by
 unfold gOu;cases Wk p u B c.n c.ρ c.l k c.i c.x with
 | none=>rfl
 | some y =>
   show (bif true then (bif y.1 != 0 then some _ else some _) else none)=_;unfold jbX;simp only [ov1];cases (y.1 != 0)<;>rfl
theorem jnx (p:Par) (B:BF) (u:Bool) (k:Nat) (c:CO) (x:XP × (Int × RU)) (h:(gOu p u B (k+1) c).sel=some x):(ju (AO u) Tryz.prog (H52 p B) (X52 u B) 10 52 0 (gOu p u B k) c).sel=some x:=by
 rw [jmi];rw [MX] at h;unfold Wk at h;unfold rOu;simp only [jK,jt,jE,MX];revert h;cases lt c.i c.l with
 | false=>exact fun h=>h
 | true =>
 cases jc c.i c.n with
 | false=>exact fun h=>h
 | true =>
 simp only [nd,cond_true];cases Bt p u (jg c.ρ c.i.toNat) (nk u c.x) with
 | none=>exact fun h=>h
 | some y =>
 simp only [Option.bind,os1,ov1,cond_true];cases hy:(y.1.2.2 != 0) with
 | true =>
   simp only [cond_true];cases QF u 2 (jaS (jg c.ρ c.i.toNat).kind) (nk u y.2) with
  | none=>exact fun h=>h
  | some z=>intro h;rw [← h];unfold jbX;simp only [hy,cond_true]
 | false =>
   simp only [cond_false];cases Ys u B y.1.1 y.1.2.1 (ja y.1.1) (y.1.1+1) 0 (nk u y.2) with
  | none=>exact fun h=>h
  | some w =>
    simp only [cond_true];cases hw:(w.1 != 0) with
   | true=>simp only [cond_true];intro h;rw [← h];unfold jbX;simp only [hw,cond_true]
   | false=>simp only [cond_false];exact fun h=>h
theorem jlL {p:Par} (hp:ParOk p) {B:BF} (hB:qH Tryz.prog 52 (zB (u52 B))) (u:Bool):∀ k,CoreOk Tryz.prog 52 0 1 (SO u) (SOE u) (gOu p u B k) :=
 CoreOk.fuel (A:=AO u) (aO u) (h52 hp hB) (x52 hp hB u) 10 (fun _=>rfl) (jnx p B u)
def jo6 (p:Par) (u:Bool) (B:BF) (c:CO):Tree (XP × (Int × RU)):=gOu p u B (c.n+1) c
def jhI (p:Par) (u:Bool) (B:BF):HdP:=⟨[],[],[],[((52,0),j4 (AO u) (jo6 p u B))],[],0,[]⟩
theorem jro {p:Par} (hp:ParOk p) {B:BF} (hB:qH Tryz.prog 52 (zB (u52 B))) (u:Bool):XOk Tryz.prog (jhI p u B) :=
 XOk.lxCons XOk.nil (CoreOk.lx (g:=jo6 p u B) (aO u) fun fn c b h1 h2 h3 c0 x hx=>jlL hp hB u _ fn c b h1 h2 h3 c0 x hx)
def UH (p:Par) (B:BF):BF:=fun u n ρ x=>Wk p u B n ρ (ja n) (n+1) 0 x
def t52 (p:Par) (B:BF) (u:Bool) (n:Nat) (ρ:Val) (x:RU):Tree (AV × RU) :=
 let o:=UH p B u n ρ x
 let y:=ov1 (0,rU0) o
 .need (os1 o) (.br (y.1 != 0) (.leaf (encI y.1,nk u y.2)) (.leaf (encI 0,nk u y.2)))
theorem joy (p:Par) (B:BF) (u:Bool) (n:Nat) (ρ:Val) (x:RU):Qt (ClR u) Tryz.prog (H52 p B) (jhI p u B) 10 52 [.c (.sl (aw 1) n ρ)] x=t52 p B u n ρ x:=by cases u<;>kernel_rfl
theorem Md {H : Hd} (hH : HdOk Tryz.prog H) {X : Bool -> HdP} (hX : ∀ b, XOk Tryz.prog (X b)) (n f : Nat) {u : MSp}
  (h:∀ b rest x z,(u b rest x).sel=some z->∃ y,(Qt (ClR b) Tryz.prog H (X b) n f rest x).sel=some y∧leA y.1 z.1∧Ju b y.2=Ju b z.2):qH Tryz.prog f (zB u) :=
 jan fun b=>jdY (Lb b) hH (hX b) n f fun rest x z hz=>by
  obtain ⟨y,h1,h2,h3⟩:=h b rest x z hz;refine ⟨y,h1,h2,fun F w bs hm => ?_⟩;have e:∀ x,(ClR b).lay x=Ju b x:=fun x=>by cases b<;>rfl
  rw [e] at hm ⊢;rw [← h3];exact hm
theorem jjD (p:Par) (B:BF) (u:Bool) (n:Nat) (ρ:Val) (x:RU):SyC u encI (t52 p B u n ρ x) (UH p B u n ρ x):=by
 unfold t52;cases UH p B u n ρ x with
 | none=>exact trivial
 | some y =>
   refine SyC.need rfl ?_;show SyC u encI (.br (y.1 != 0) (.leaf (encI y.1,nk u y.2)) (.leaf (encI 0,nk u y.2))) (some (y.1,y.2));cases hy:(y.1 != 0) with
  | true=>exact SyC.br1 rfl SyC.rt
  | false =>
    have:y.1=0:=by simpa using hy
    refine SyC.br0 rfl ?_;rw [this];exact SyC.rt
theorem jqZ {p:Par} (hp:ParOk p) {B:BF} (hB:qH Tryz.prog 52 (zB (u52 B))):qH Tryz.prog 52 (zB (u52 (UH p B))):=Md (H:=H52 p B) (X:=fun u=>jhI p u B) (h52 hp hB) (jro hp hB) 10 52 fun u rest x z hz=>by
 unfold u52 at hz;split at hz
 rotate_left
 ·cases hz
 rename_i es n ρ;split at hz
 rotate_left
 ·cases hz
 rename_i hs;rw [jm hs,joy];obtain ⟨v,x',h1,rfl⟩:=KB hz;have h:=jjD p B u n ρ x;rw [h1] at h;exact h
def Ti (p:Par):Nat->BF
 | 0=>fun _ _ _ _=>none
 | d+1=>UH p (Ti p d)
theorem m52 {p:Par} (hp:ParOk p):∀ d,qH Tryz.prog 52 (zB (u52 (Ti p d)))
 | 0 => Md (H := HE) (X := fun _ => X3) HdOk.nil (fun _ => x3) 10 52 fun u rest x z hz => by
   unfold u52 at hz;split at hz
   ·split at hz
    ·obtain ⟨v,x',h1,_⟩:=KB hz;cases h1
    ·cases hz
   ·cases hz
 | d+1=>jqZ hp (m52 hp d)
abbrev UnF:=RX->Int->Option Bool
def VW (R:UnF):List A1->Option (Bool × AV)
 | [.agg [.str o,.int .i64 v,.sl es n ρ],.c (.int .i64 k)]=>if shEq.shsEq es (aw 0) then some (os1 (R ⟨o,v,n,ρ⟩ k),jF (ov1 false (R ⟨o,v,n,ρ⟩ k))) else none
 | _=>none
theorem ON {R:UnF} {args:List A1} {r:AV} (h:VW R args=some (true,r)):∃ o v n ρ k x,args=[.agg [.str o,.int .i64 v,.sl (aw 0) n ρ],.c (.int .i64 k)]∧R ⟨o,v,n,ρ⟩ k=some x∧r=jF x:=by
 unfold VW at h;split at h
 ·split at h
  ·rename_i o v es n ρ k hs;simp only [sIq,pIq] at h;cases hR:R ⟨o,v,n,ρ⟩ k with
   | none=>rw [hR] at h;cases h.1
   | some x=>rw [hR] at h;exact ⟨o,v,n,ρ,k,x,by rw [jm hs],hR,h.2.symm⟩
  ·cases h
 ·cases h
noncomputable abbrev jgS (R:UnF):Hd:=⟨[pF 156,pF 157,pF 179,(155,oG jcc)],[(130,nG (VW R))],[],[]⟩
theorem jqW {R:UnF} (hR:jj Tryz.prog 130 (nG (VW R))):HdOk Tryz.prog (jgS R):=((((HdOk.nil.ucCons hR).pcCons jog).pF 179).pF 157).pF 156
def jcs (R:UnF) (n:Nat) (ρ:Val) (k:Int):Nat->Nat->Tree AV
 | 0,_=>.fail
 | f+1,i=>.br (lt (i:Int) (ja n)) (.need (jc (i:Int) n) (.need (os1 (R (yd ρ i) k)) (.br (ov1 false (R (yd ρ i) k)) (.leaf (jF true)) (jcs R n ρ k f (i+1))))) (.leaf (jF false))
def jnA (R:UnF) (e:RX) (k:Int):Tree AV:=.br (bif Lf (kK e.op)==9 then le k e.v else false) (.leaf (jF true)) (jcs R e.n e.ρ k 3 0)
theorem jjO (R:UnF) (o:ByteArray) (v:Int) (n:Nat) (ρ:Val) (k:Int):jI Tryz.prog (jgS R) X3 10 130 [.agg [.str o,.int .i64 v,.sl (aw 0) n ρ],.c (.int .i64 k)]=jnA R ⟨o,v,n,ρ⟩ k:=by kernel_rfl
def jas (R:UnF) (n:Nat) (ρ:Val) (k:Int):Nat->Nat->Option Bool
 | 0,_=>none
 | f+1,i=>bif lt (i:Int) (ja n) then nd (jc (i:Int) n) ((R (yd ρ i) k).bind fun v=>bif v then some true else jas R n ρ k f (i+1)) else some false
def jgE (R:UnF):UnF:=fun e k=>bif (bif Lf (kK e.op)==9 then le k e.v else false) then some true else jas R e.n e.ρ k 3 0
theorem FP (R:UnF) (n:Nat) (ρ:Val) (k:Int):∀ f i,Sy jF (jcs R n ρ k f i) (jas R n ρ k f i)
 | 0,_=>trivial
 | f + 1, i => by
   unfold jcs jas;refine Sy.cond (fun _=>Sy.nd id fun _ => ?_) fun _=>Sy.ret;cases R (yd ρ i) k with
  | none=>exact trivial
  | some v=>exact Sy.need rfl (Sy.cond (fun _=>Sy.ret) fun _=>FP R n ρ k f (i+1))
theorem jg5 (R:UnF) (e:RX) (k:Int):Sy jF (jnA R e k) (jgE R e k):=Sy.cond (fun _=>Sy.ret) fun _=>FP R _ _ _ _ _
theorem jp0 {R:UnF} (hR:jj Tryz.prog 130 (nG (VW R))):jj Tryz.prog 130 (nG (VW (jgE R))):=by
 refine jz (H:=jgS R) (X:=X3) (jqW hR) x3 10 130 ?_;intro args r h;obtain ⟨o,v,n,ρ,k,x,e1,h1,e2⟩:=ON h;rw [e1,e2,jjO]
 have:=jg5 R ⟨o,v,n,ρ⟩ k
 rw [h1] at this;exact this
def Gl:Nat->UnF
 | 0=>fun _ _=>none
 | f+1=>jgE (Gl f)
theorem jnF:∀ f,jj Tryz.prog 130 (nG (VW (Gl f)))
 | 0 => by
   intro args r h;obtain ⟨o,v,n,ρ,k,x,_,h1,_⟩:=ON (zn h);cases h1
 | f+1=>jp0 (jnF f)
abbrev MsF:=Nat->Val->Int->Option (Int × Bool)
def Hj (x:Int × Bool):AV:=.tup [.c (.int .i64 x.1),.c (.bool x.2)]
def G80 (R:MsF):List A1->Option (Bool × AV)
 | [.c (.sl es n ρ),.c (.int .i64 k)]=>if shEq.shsEq es (aw 1) then some (os1 (R n ρ k),Hj (ov1 (0,false) (R n ρ k))) else none
 | _=>none
theorem RH {R:MsF} {args:List A1} {r:AV} (h:G80 R args=some (true,r)):∃ n ρ k x,args=[.c (.sl (aw 1) n ρ),.c (.int .i64 k)]∧R n ρ k=some x∧r=Hj x:=by
 unfold G80 at h;split at h
 ·split at h
  ·rename_i es n ρ k hs;simp only [sIq,pIq] at h;cases hR:R n ρ k with
   | none=>rw [hR] at h;cases h.1
   | some x=>rw [hR] at h;exact ⟨n,ρ,k,x,by rw [jm hs],hR,h.2.symm⟩
  ·cases h
 ·cases h
structure C80 where
 r:Int
 b:Bool
 n:Nat
 ρ:Val
 l:Int
 i:Int
 k:Int
def S80 (c:C80):St:=mkS 57 [(3,.one (.c (.ptr 0 0))),(4,.one (.c (.int .i64 c.r))),(5,.one (.c (.bool c.b))),(13,.one (.c (.sl (aw 1) c.n c.ρ))),(14,.one (.c (.int .i64 c.l))),(15,.one (.c (.int .i64 c.i)))] [some (3,[.int .i64 c.k])]
def jbP:List (Nat × AV)->Mem->Option C80
 | [(3,.one (.c (.ptr 0 0))),(4,.one (.c (.int .i64 r))),(5,.one (.c (.bool b))),(13,.one (.c (.sl es n ρ))),(14,.one (.c (.int .i64 l))),(15,.one (.c (.int .i64 i)))],[some (3,[.int .i64 k])]=>if shEq.shsEq es (aw 1) then some ⟨r,b,n,ρ,l,i,k⟩ else none
 | _,_=>none
theorem je6:∀ l m c,jbP l m=some c->mkS 57 l m=S80 c:=by
 intro l m c h;unfold jbP at h;split at h
 ·split at h
  ·rename_i hs;cases h;rw [jm hs];rfl
  ·cases h
 ·cases h
def E80 (v:Int × Bool):St:=mkS 57 [(4,.one (.c (.int .i64 v.1))),(5,.one (.c (.bool v.2)))] [some (3,[.any])]
def Is:List (Nat × AV)->Mem->Option (Int × Bool)
 | [(4,.one (.c (.int .i64 v))),(5,.one (.c (.bool u)))],[some (3,[.int .i64 _])]=>some (v,u)
 | _,_=>none
theorem jdf:∀ l m c,Is l m=some c->StWk (mkS 57 l m) (E80 c):=by
 intro l m c h;unfold Is at h;split at h
 ·cases h;exact yk LeSl.refl (yC (b:=0) rfl rfl rfl (.cons zy .nil) rfl rfl)
 ·cases h
def A80:Sx.Frame C80 (Int × Bool):=⟨1,57,[3,4,5,13,14,15],jbP,S80,[4,5],Is,E80⟩
theorem a80:A80.Ok:=⟨fun l m c h=>je6 l m c h▸StWk.refl,jdf⟩
noncomputable abbrev H80 (f:Nat) (R:MsF):Hd:=⟨[lK,pF 127,pF 128,pF 154,(86,oG G86),(129,oG jck)],[(130,nG (VW (Gl f))),(80,nG (G80 R))],[],[]⟩
theorem h80 (f:Nat) {R:MsF} (hR:jj Tryz.prog 80 (nG (G80 R))):HdOk Tryz.prog (H80 f R):=HdOk.lK ((((((((HdOk.nil.ucCons hR).ucCons (jnF f)).pcCons jnI).pcCons p86).pF 154).pF 128).pF 127))
abbrev X6:HdP:=⟨[],[],[],[],[],6,[]⟩
theorem x6:XOk Tryz.prog X6:=XOk.nil
def jgC (s:RS) (k:Int) (i:Nat):Bool:=bif (bif q8 (wd s.wρ i) then jb s.kind wDo else false) then le k (kM (wd s.wρ i)) else false
def ja0 {α:Type} (s:RS) (k:Int) (K:Bool->Tree α):Nat->Nat->Tree α
 | 0,_=>.fail
 | f+1,i=>.br (lt (i:Int) (ja s.wn)) (.need (jc (i:Int) s.wn) (.br (jgC s k i) (K true) (ja0 s k K f (i+1)))) (K false)
def r80 (f:Nat) (R:MsF) (g:C80->Tree (XP × (Int × Bool))) (c:C80):Tree (XP × (Int × Bool)) :=
 let s:=jg c.ρ c.i.toNat
 let x:=Gl f s.cond c.k
 let u:=R s.bn (YH s.bn s.bρ) c.k
 let v:=R s.en (YH s.en s.eρ) c.k
 let w:=R 0 Val.zero c.k
 let EX:=g { c with i:=IntKind.wrap .i64 (c.i+1) }
 let T:=fun (j:Int) (y:Option (Int × Bool)) (K:Tree (XP × (Int × Bool)))=>Tree.br (lt j (ja 2)) (.need (jc j 2) (.need (os1 y) (.br (ov1 (0,false) y).2 (.leaf (.ret,((ov1 (0,false) y).1,true))) K))) EX
 .br (lt c.i c.l) (.need (jc c.i c.n) (ja0 s c.k (fun nm=>.need (!((yZ s.kind==true)&&((nm==false)&&true))||os1 x)
  (.br (bif nm then true else bif yZ s.kind then ov1 false x else false) (.leaf (.ret,(s.at_,true))) (T 0 u (T 1 v (T 2 w (T 3 w (T 4 w (T 5 w .fail)))))))) 6 0)) (.leaf (.exit 0,(c.r,c.b)))
theorem jns (f:Nat) (R:MsF) (g:C80->Tree (XP × (Int × Bool))) (c:C80):ju A80 Tryz.prog (H80 f R) X6 10 80 0 g c=r80 f R g c:=by kernel_rfl
def Tr (s:RS) (k:Int):Nat->Nat->Option Bool
 | 0,_=>none
 | f+1,i=>bif lt (i:Int) (ja s.wn) then nd (jc (i:Int) s.wn) (bif jgC s k i then some true else Tr s k f (i+1)) else some false
theorem TD {α:Type} (s:RS) (k:Int) (K:Bool->Tree α):∀ f i,(ja0 s k K f i).sel=(Tr s k f i).bind fun b=>(K b).sel
 | 0,_=>rfl
 | f + 1, i => by
   simp only [ja0,Tr,jK,jt];cases lt (i:Int) (ja s.wn) with
  | false=>rfl
  | true =>
   simp only [cond_true];cases jc (i:Int) s.wn with
  | false=>rfl
  | true =>
   simp only [cond_true,nd];cases jgC s k i with
  | true=>rfl
  | false=>exact TD s k K f (i+1)
def Gp (f:Nat) (s:RS) (k:Int):Option Bool:=(Tr s k 6 0).bind fun nm=>bif nm then some true else bif yZ s.kind then Gl f s.cond k else some false
def XK (f:Nat) (R:MsF) (n:Nat) (ρ:Val) (l k:Int):Nat->Int->Option (Int × Bool)
 | 0,_=>none
 | m + 1, i => bif lt i l then nd (jc i n) ((Gp f (jg ρ i.toNat) k).bind fun c => bif c then some ((jg ρ i.toNat).at_, true) else
   (R (jg ρ i.toNat).bn (jg ρ i.toNat).bρ k).bind fun y=>bif y.2 then some (y.1,true) else (R (jg ρ i.toNat).en (jg ρ i.toNat).eρ k).bind fun z=>bif z.2 then some (z.1,true) else XK f R n ρ l k m (IntKind.wrap .i64 (i+1))) else some (0,false)
def g80 (f:Nat) (R:MsF) (m:Nat) (c:C80):Tree (XP × (Int × Bool)) :=
 let o:=XK f R c.n c.ρ c.l c.k m c.i
 let y:=ov1 (0,false) o
 .need (os1 o) (.br y.2 (.leaf (.ret,(y.1,true))) (.leaf (.exit 0,(c.r,c.b))))
def jcO (r:Int) (b:Bool):Option (Int × Bool)->Option (XP × (Int × Bool))
 | some y=>some (bif y.2 then (.ret,(y.1,true)) else (.exit 0,(r,b)))
 | none=>none
theorem Mv (f:Nat) (R:MsF) (m:Nat) (c:C80):(g80 f R m c).sel=jcO c.r c.b (XK f R c.n c.ρ c.l c.k m c.i):=by
 unfold g80;cases XK f R c.n c.ρ c.l c.k m c.i with
 | none=>rfl
 | some y =>
   obtain ⟨y1,y2⟩:=y;cases y2<;>rfl
theorem jmX (f:Nat) (R:MsF) (m:Nat) (c:C80) (x:XP × (Int × Bool)) (h:(g80 f R (m+1) c).sel=some x):(ju A80 Tryz.prog (H80 f R) X6 10 80 0 (g80 f R m) c).sel=some x:=by
 rw [jns];rw [Mv] at h;unfold XK at h;unfold r80;have eb:YH (jg c.ρ c.i.toNat).bn (jg c.ρ c.i.toNat).bρ=(jg c.ρ c.i.toNat).bρ:=Bf _;have ee:YH (jg c.ρ c.i.toNat).en (jg c.ρ c.i.toNat).eρ=(jg c.ρ c.i.toNat).eρ:=Bf _;have c0:lt 0 (ja 2)=true:=rfl;have c1:lt 1 (ja 2)=true:=rfl;have c2:lt 2 (ja 2)=false:=rfl;have d0:jc 0 2=true:=rfl;have d1:jc 1 2=true:=rfl;simp only [jK,jt,jE,TD,Mv,eb,ee,c0,c1,c2,d0,d1,cond_true,cond_false];revert h;unfold Gp;cases lt c.i c.l with
 | false=>exact fun h=>h
 | true =>
 cases jc c.i c.n with
 | false=>exact fun h=>h
 | true =>
 simp only [cond_true,nd];cases Tr (jg c.ρ c.i.toNat) c.k 6 0 with
 | none=>exact fun h=>h
 | some nm =>
 cases nm with
 | true =>
   intro h;simp only [Option.bind,cond_true] at h ⊢
   have:(!(yZ (jg c.ρ c.i.toNat).kind==true&&(true==false&&true))||os1 (Gl f (jg c.ρ c.i.toNat).cond c.k))=true:=by
    cases yZ (jg c.ρ c.i.toNat).kind<;>rfl
   rw [this];exact h
 | false =>
 simp only [Option.bind,cond_false]
 have rest : ∀ (E : Bool), jcO c.r c.b ((some E).bind fun cc => bif cc then some ((jg c.ρ c.i.toNat).at_, true) else
   (R (jg c.ρ c.i.toNat).bn (jg c.ρ c.i.toNat).bρ c.k).bind fun y=>bif y.2 then some (y.1,true) else (R (jg c.ρ c.i.toNat).en (jg c.ρ c.i.toNat).eρ c.k).bind fun z=>bif z.2 then some (z.1,true) else XK f R c.n c.ρ c.l c.k m (IntKind.wrap .i64 (c.i+1)))=some x ->
   (bif E then some (XP.ret,((jg c.ρ c.i.toNat).at_,true)) else bif os1 (R (jg c.ρ c.i.toNat).bn (jg c.ρ c.i.toNat).bρ c.k) then
    bif (ov1 (0,false) (R (jg c.ρ c.i.toNat).bn (jg c.ρ c.i.toNat).bρ c.k)).2 then some (XP.ret,((ov1 (0,false) (R (jg c.ρ c.i.toNat).bn (jg c.ρ c.i.toNat).bρ c.k)).1,true)) else
     bif os1 (R (jg c.ρ c.i.toNat).en (jg c.ρ c.i.toNat).eρ c.k) then bif (ov1 (0,false) (R (jg c.ρ c.i.toNat).en (jg c.ρ c.i.toNat).eρ c.k)).2 then some (XP.ret,((ov1 (0,false) (R (jg c.ρ c.i.toNat).en (jg c.ρ c.i.toNat).eρ c.k)).1,true)) else
      jcO c.r c.b (XK f R c.n c.ρ c.l c.k m (IntKind.wrap .i64 (c.i+1))) else none else none)=some x:=by
  intro E;cases E with
  | true=>exact fun h=>h
  | false =>
  simp only [Option.bind,cond_false];cases R (jg c.ρ c.i.toNat).bn (jg c.ρ c.i.toNat).bρ c.k with
  | none=>exact fun h=>h
  | some y =>
  obtain ⟨y1,y2⟩:=y;cases y2 with
  | true=>exact fun h=>h
  | false =>
  simp only [os1,ov1,cond_true,cond_false];cases R (jg c.ρ c.i.toNat).en (jg c.ρ c.i.toNat).eρ c.k with
  | none=>exact fun h=>h
  | some z =>
  obtain ⟨z1,z2⟩:=z;cases z2 with
  | true=>exact fun h=>h
  | false=>exact fun h=>h
 cases yZ (jg c.ρ c.i.toNat).kind with
 | false=>exact rest false
 | true =>
   simp only [cond_true];cases Gl f (jg c.ρ c.i.toNat).cond c.k with
  | none=>exact fun h=>h
  | some E=>exact rest E
theorem jm5 (f:Nat) {R:MsF} (hR:jj Tryz.prog 80 (nG (G80 R))):∀ k,CoreOk Tryz.prog 80 0 1 S80 E80 (g80 f R k) :=
 CoreOk.fuel (A:=A80) a80 (h80 f hR) x6 10 (fun _=>rfl) (jmX f R)
def jm4 (f:Nat) (R:MsF) (c:C80):Tree (XP × (Int × Bool)):=g80 f R (c.n+1) c
def X80 (f:Nat) (R:MsF):HdP:=⟨[],[],[],[((80,0),j4 A80 (jm4 f R))],[],6,[]⟩
theorem x80 (f:Nat) {R:MsF} (hR:jj Tryz.prog 80 (nG (G80 R))):XOk Tryz.prog (X80 f R):=XOk.lxCons XOk.nil (CoreOk.lx (g:=jm4 f R) a80 fun fn c b h1 h2 h3 c0 x hx=>jm5 f hR _ fn c b h1 h2 h3 c0 x hx)
def TZ (f:Nat) (R:MsF):MsF:=fun n ρ k=>XK f R n ρ (ja n) k (n+1) 0
def t80 (f:Nat) (R:MsF) (n:Nat) (ρ:Val) (k:Int):Tree AV :=
 let o:=TZ f R n ρ k
 .need (os1 o) (.br (ov1 (0,false) o).2 (.leaf (Hj ((ov1 (0,false) o).1,true))) (.leaf (Hj (0,false))))
theorem jlO (f:Nat) (R:MsF) (n:Nat) (ρ:Val) (k:Int):jI Tryz.prog (H80 f R) (X80 f R) 10 80 [.c (.sl (aw 1) n ρ),.c (.int .i64 k)]=t80 f R n ρ k:=by kernel_rfl
theorem HJ {f:Nat} {R:MsF} {n:Nat} {ρ:Val} {l k:Int}:∀ (m:Nat) (i:Int) (y:Int),XK f R n ρ l k m i=some (y,false)->y=0
 | 0,_,_,h=>by cases h
 | m + 1, i, y, h => by
   unfold XK at h;cases h1:lt i l with
  | false=>rw [h1] at h;cases h;rfl
  | true =>
   rw [h1] at h;simp only [cond_true] at h;cases h2:jc i n with
  | false=>rw [h2] at h;cases h
  | true =>
   rw [h2] at h;simp only [nd,cond_true] at h;cases h3:Gp f (jg ρ i.toNat) k with
  | none=>rw [h3] at h;cases h
  | some c =>
   rw [h3] at h;simp only [Option.bind] at h;cases c with
  | true=>cases h
  | false =>
   simp only [cond_false] at h;cases h4:R (jg ρ i.toNat).bn (jg ρ i.toNat).bρ k with
  | none=>rw [h4] at h;cases h
  | some u =>
   rw [h4] at h;obtain ⟨u1,u2⟩:=u;cases u2 with
  | true=>cases h
  | false =>
   simp only [cond_false] at h;cases h5:R (jg ρ i.toNat).en (jg ρ i.toNat).eρ k with
  | none=>rw [h5] at h;cases h
  | some v =>
   rw [h5] at h;obtain ⟨v1,v2⟩:=v;cases v2 with
  | true=>cases h
  | false=>exact HJ m _ y h
theorem ji3 (f:Nat) (R:MsF) (n:Nat) (ρ:Val) (k:Int):Sy Hj (t80 f R n ρ k) (TZ f R n ρ k):=by
 unfold t80;cases h:TZ f R n ρ k with
 | none=>exact trivial
 | some y =>
   obtain ⟨y1,y2⟩:=y;cases y2 with
  | true=>exact Sy.need rfl (Sy.br1 rfl Sy.ret)
  | false =>
    obtain rfl:=HJ _ _ _ h;exact Sy.need rfl (Sy.br0 rfl Sy.ret)
theorem jqw (f:Nat) {R:MsF} (hR:jj Tryz.prog 80 (nG (G80 R))):jj Tryz.prog 80 (nG (G80 (TZ f R))):=by
 refine jz (H:=H80 f R) (X:=X80 f R) (h80 f hR) (x80 f hR) 10 80 ?_;intro args r h;obtain ⟨n,ρ,k,x,e1,h1,e2⟩:=RH h;rw [e1,e2,jlO]
 have:=ji3 f R n ρ k
 rw [h1] at this;exact this
def NJ (f:Nat):Nat->MsF
 | 0=>fun _ _ _=>none
 | d+1=>TZ f (NJ f d)
theorem p80 (f:Nat):∀ d,jj Tryz.prog 80 (nG (G80 (NJ f d)))
 | 0 => by
   intro args r h;obtain ⟨n,ρ,k,x,_,h1,_⟩:=RH (zn h);cases h1
 | d+1=>jqw f (p80 f d)
abbrev ChF:=ByteArray->Nat->Val->Nat->Val->Option (Int × Int)
def Lv (f d:Nat):ChF:=fun name m κ n ρ =>
 nd (yW n ρ) (bif Ro.ckE ⟨n,ρ⟩ != 0 then some (0,Ro.ckE ⟨n,ρ⟩) else (jX f d name m κ).bind fun e=>bif e != 0 then some (0,e) else (NJ f d m κ (ja n)).bind fun y=>bif y.2 then some (y.1,7) else some (0,0))
def G29 (C:ChF):List A1->Option (Bool × AV)
 | [.agg [.str name,.sl es' m κ],.c (.sl es n ρ)]=>if shEq.shsEq es' (aw 1)&&shEq.shsEq es Ro.siSh then some (os1 (C name m κ n ρ),enc2 (ov1 (0,0) (C name m κ n ρ))) else none
 | _=>none
theorem jfk {C:ChF} {args:List A1} {r:AV} (h:G29 C args=some (true,r)):∃ name m κ n ρ x,args=[.agg [.str name,.sl (aw 1) m κ],.c (.sl Ro.siSh n ρ)]∧C name m κ n ρ=some x∧r=enc2 x:=by
 unfold G29 at h;split at h
 ·split at h
  ·rename_i name es' m κ es n ρ hs;rw [aTq] at hs;simp only [sIq,pIq] at h;cases hR:C name m κ n ρ with
   | none=>rw [hR] at h;cases h.1
   | some x=>rw [hR] at h;exact ⟨name,m,κ,n,ρ,x,by rw [jm hs.1,jm hs.2],hR,h.2.symm⟩
  ·cases h
 ·cases h
noncomputable abbrev H29 (f d:Nat):Hd:=⟨[(13,nG G13)],[(37,nG (G37 f d)),(80,nG (G80 (NJ f d)))],[],[]⟩
theorem h29 (f d:Nat):HdOk Tryz.prog (H29 f d):=(((HdOk.nil.ucCons (p80 f d)).ucCons (p37 f d)).tcCons p13)
noncomputable def t29 (f d:Nat) (name:ByteArray) (m:Nat) (κ:Val) (n:Nat) (ρ:Val):Tree AV :=
 let e:=jX f d name m κ
 let y:=NJ f d m κ (ja n)
 .need (yW n ρ) (.br (Ro.ckE ⟨n,ρ⟩ != 0) (lf2 0 (Ro.ckE ⟨n,ρ⟩)) (.need (opD e) (.br (opN e != 0) (lf2 0 (opN e)) (.need (os1 y) (.br (ov1 (0,false) y).2 (lf2 (ov1 (0,false) y).1 7) (lf2 0 0))))))
theorem jnT (f d:Nat) (name:ByteArray) (m:Nat) (κ:Val) (n:Nat) (ρ:Val):jT Tryz.prog (H29 f d) 10 29 [.agg [.str name,.sl (aw 1) m κ],.c (.sl Ro.siSh n ρ)]=t29 f d name m κ n ρ:=by kernel_rfl
theorem jj9 (f d:Nat) (name:ByteArray) (m:Nat) (κ:Val) (n:Nat) (ρ:Val):Sy enc2 (t29 f d name m κ n ρ) (Lv f d name m κ n ρ):=by
 unfold t29 Lv;simp only [jcV,jdh];refine Sy.nd id fun _=>Sy.cond (fun _=>Sy.ret) fun _ => ?_;cases jX f d name m κ with
 | none=>exact trivial
 | some e =>
 refine Sy.need rfl (Sy.cond (fun _=>Sy.ret) fun _ => ?_);cases NJ f d m κ (ja n) with
 | none=>exact trivial
 | some y=>exact Sy.need rfl (Sy.cond (fun _=>Sy.ret) fun _=>Sy.ret)
theorem p29 (f d:Nat):jj Tryz.prog 29 (nG (G29 (Lv f d))):=by
 refine jJ (H:=H29 f d) (h29 f d) 10 29 ?_;intro args r h;obtain ⟨name,m,κ,n,ρ,x,e1,h1,e2⟩:=jfk h;refine ⟨_,by rw [e1,jnT],?_⟩
 have:=jj9 f d name m κ n ρ
 rw [h1] at this;rw [e2];exact this
end Go.Proofs.YtiefjlcakpdfeaaGreat