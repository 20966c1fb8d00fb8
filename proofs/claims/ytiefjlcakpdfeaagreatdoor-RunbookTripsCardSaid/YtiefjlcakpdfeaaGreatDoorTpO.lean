/-
 Part TpO of the proof: RolF RolG RolH RolK RolL RolZ RolZa RolZb RolZc RolZd.
-/
import Derived.Test.YtiefjlcakpdfeaaGreatDoorTpN
namespace Go.Proofs.YtiefjlcakpdfeaaGreatDoor.Ro
open Go Go.Sx Classical
set_option maxRecDepth 100000
def chk (a r e p:Int) (l:Ln) (s:Int):Int :=
 bif !sit a then 2 else bif !(le 0 r&&le r 5) then 18 else bif (!tim e||!tim p)||(e==0&&r != 0) then 2 else bif !ZW l then 3 else bif lt e (hd l).e then 13 else bif (hd l).t != p then 22 else bif (rcv r&&!oth s a)||(!rcv r&&s != -1) then 1 else 0
theorem Y3 {α:Type} {r:α}:∀ {t:Tree α},t.sel=some r->t.All (fun z=>z=r)
 | .leaf a, h => by
   simp only [Tree.sel,sIq] at h;exact h
 | .br c t e,h=>⟨fun hc=>Y3 (by simpa [Tree.sel,hc] using h),fun hc=>Y3 (by simpa [Tree.sel,hc] using h)⟩
 | .need c t, h => by
   cases c
   ·simp [Tree.sel] at h
   ·exact ⟨rfl,Y3 (by simpa [Tree.sel] using h)⟩
 | .fail,h=>by simp [Tree.sel] at h
theorem jkd (q1 q2 te tp eo co he ht ra rb pre:Bool) (hp:pre=true):(Tree.br (!q1) (Tree.leaf (AV.one (A1.c (I 2))))
 (Tree.br (!q2) (Tree.leaf (AV.one (A1.c (I 18))))
  (Tree.br (!te)
   (Tree.br (!te) (Tree.leaf (AV.one (A1.c (I 2))))
    (Tree.need (pre)
     (Tree.br (!co) (Tree.leaf (AV.one (A1.c (I 3))))
      (Tree.need (pre)
       (Tree.br (he) (Tree.leaf (AV.one (A1.c (I 13))))
        (Tree.need (pre)
         (Tree.br (ht) (Tree.leaf (AV.one (A1.c (I 22))))
          (Tree.br (ra)
           (Tree.br (ra) (Tree.leaf (AV.one (A1.c (I 1))))
            (Tree.leaf (AV.one (A1.c (I 0)))))
           (Tree.br (rb) (Tree.leaf (AV.one (A1.c (I 1))))
            (Tree.leaf (AV.one (A1.c (I 0)))))))))))))
   (Tree.br (!tp)
    (Tree.br (!tp) (Tree.leaf (AV.one (A1.c (I 2))))
     (Tree.need (pre)
      (Tree.br (!co) (Tree.leaf (AV.one (A1.c (I 3))))
       (Tree.need (pre)
        (Tree.br (he) (Tree.leaf (AV.one (A1.c (I 13))))
         (Tree.need (pre)
          (Tree.br (ht) (Tree.leaf (AV.one (A1.c (I 22))))
           (Tree.br (ra)
            (Tree.br (ra) (Tree.leaf (AV.one (A1.c (I 1))))
             (Tree.leaf (AV.one (A1.c (I 0)))))
            (Tree.br (rb) (Tree.leaf (AV.one (A1.c (I 1))))
             (Tree.leaf (AV.one (A1.c (I 0)))))))))))))
    (Tree.br eo (Tree.leaf (AV.one (A1.c (I 2))))
     (Tree.need (pre)
      (Tree.br (!co) (Tree.leaf (AV.one (A1.c (I 3))))
       (Tree.need (pre)
        (Tree.br (he) (Tree.leaf (AV.one (A1.c (I 13))))
         (Tree.need (pre)
          (Tree.br (ht) (Tree.leaf (AV.one (A1.c (I 22))))
           (Tree.br (ra)
            (Tree.br (ra) (Tree.leaf (AV.one (A1.c (I 1))))
             (Tree.leaf (AV.one (A1.c (I 0)))))
            (Tree.br (rb) (Tree.leaf (AV.one (A1.c (I 1))))
             (Tree.leaf (AV.one (A1.c (I 0))))))))))))))))).sel=some (AV.one (.c (I (bif !q1 then 2 else bif !q2 then 18 else bif (!te||!tp)||eo then 2 else bif !co then 3 else bif he then 13 else bif ht then 22 else bif ra||rb then 1 else 0)))):=by
 subst hp;cases q1
 ·rfl
 cases q2
 ·rfl
 cases te
 ·rfl
 cases tp
 ·rfl
 cases eo
 ·cases co
  ·rfl
  cases he
  ·cases ht
   ·cases ra<;>cases rb<;>rfl
   ·rfl
  ·rfl
 ·rfl
noncomputable def jfC:List A1->Option (Bool × AV)
 | [.agg [.int .i64 a,.int .i64 r,.int .i64 e,.int .i64 p,.sl [.int .i64,.int .i64,.int .i64] n ρ,.int .i64 s,.bool _,.bool _]]=>some (dec (fewN n),.one (.c (I (chk a r e p ⟨n,ρ⟩ s))))
 | _=>none
theorem jni (a:Int):(le 0 a&&le a 3)=sit a:=by
 unfold sit;rw [Bool.eq_iff_iff];simp only [aTq,qE,Jk];omega
theorem p23:TcOne Tryz.prog 61 (nG jfC):=qv h7 10 61 fun args r h=>by
 unfold jfC at h;split at h
 ·rename_i a r e p n ρ s l c;obtain ⟨hp,rfl⟩:=Prod.mk.inj (Option.some.inj h);have ht:=jkd (le 0 a&&le a 3) (le 0 r&&le r 5) (tim e) (tim p) (e==0&&r != 0) (ZW ⟨n,ρ⟩) (lt e (hd ⟨n,ρ⟩).e) ((hd ⟨n,ρ⟩).t != p) (rcv r&&!oth s a) (!rcv r&&s != -1) (dec (fewN n)) hp;rw [jni] at ht;refine ⟨rfl,_,?_,Y3 ht⟩;rw [← jni]
  kernel_rfl
 ·cases h
noncomputable abbrev H8:Hd:=⟨(61,nG jfC)::H7.pc,[],[],H7.mc⟩
theorem h8:HdOk Tryz.prog H8:=h7.tcCons p23
structure LL where
 l:Ln
 m:Ln
def dif (ρ σ:Val) (i:Nat):Bool :=
 !(((ρ.at i).at 0).N []==((σ.at i).at 0).N []&&(((ρ.at i).at 1).N []==((σ.at i).at 1).N []&&(((ρ.at i).at 2).N []==((σ.at i).at 2).N []&&true)))
def FX (c:LL) (i:Nat):Bool:=dif c.l.ρ c.m.ρ i
def eqL (c:LL):Bool:=bif c.l.n==c.m.n then !(jU (FX c) c.l.n) else false
def TXe (c:LL) (i:Int):Tree (XE × Int) :=
 .br (lt i (ja c.l.n)) (.need (jc i c.l.n) (.need (jc i c.m.n) (.br (dif c.l.ρ c.m.ρ i.toNat) (.leaf (.ret,i)) (.leaf (.normal,IntKind.i64.wrap (i+1)))))) (.leaf (.exit 0,i))
theorem sqE (c:LL) (he:c.l.n=c.m.n) (hn:fewN c.l.n):Sq (TXe c) (fun i=>(c.l.n - i).toNat) (fun i=>(i:Int)) (fun i=>(i:Int)) c.l.n (FX c) .ret (.exit 0) where
 out:=by simp
 hit:=by simp
 meas i hi:=by
  show ((c.l.n:Int) - (i:Int)).toNat=c.l.n - i;omega
 round i hi:=by
  unfold fewN at hn;have hl:lt (i:Int) (ja c.l.n)=true:=ltF hi;have hw:IntKind.i64.wrap ((i:Int)+1)=((i+1:Nat):Int):=by rw [w64_id (by omega) (by omega)];omega
  refine ⟨fun _=>⟨inR hi,inR (he▸hi),fun hb => ?_,fun hb => ?_⟩,fun h => ?_⟩
  ·have:FX c i=true:=hb
   simp only [Tree.All,this,if_true]
  ·have:FX c i=false:=hb
   simp only [Tree.All,this,Bool.false_eq_true,if_false];rw [hw]
  ·rw [hl] at h;cases h
 stop:=by
  refine ⟨fun h => ?_,fun _=>rfl⟩;rw [ltS] at h;cases h
noncomputable def RZ (c:LL) (v:Int):Bool:=dec ((c.l.n=c.m.n∧fewN c.l.n)∧∃ i:Nat,i<=c.l.n∧v=(i:Int))
def M2 (c:LL) (v:Int):XE × Int:=fin (TXe c) (fun i=>(c.l.n - i).toNat) v
noncomputable def GE:List A1->Option (Bool × AV)
 | [.c (.sl [.int .i64,.int .i64,.int .i64] n ρ),.c (.sl [.int .i64,.int .i64,.int .i64] k σ)]=>some (dec (fewN n),.one (.c (.bool (eqL ⟨⟨n,ρ⟩,⟨k,σ⟩⟩))))
 | _=>none
theorem jpx (c : LL) (hn : fewN c.l.n) : (Tree.br (ja c.l.n != ja c.m.n) (.leaf (AV.one (.c (.bool false)))) (.need (RZ c 0) (.br (Qe (M2 c 0).1 .ret) (.leaf (AV.one (.c (.bool false))))
  (.need (Qe (M2 c 0).1 (.exit 0)) (.leaf (AV.one (.c (.bool true)))))))).All (fun z=>z=.one (.c (.bool (eqL c)))):=by
 refine ⟨fun h => ?_,fun h => ?_⟩
 ·have hne:c.l.n ≠ c.m.n:=fun e=>by rw [e] at h;simp at h
  show _=_;simp [eqL,hne]
 ·have he : c.l.n = c.m.n := by
   have h':(c.l.n:Int)=(c.m.n:Int):=by simp at h;exact h
   omega
  have hs:=sqE c he hn;have hi:RZ c 0=true:=jv.2 ⟨⟨he,hn⟩,0,Nat.zero_le _,rfl⟩;have hf:M2 c 0=_:=hs.fin0;refine ⟨hi,?_⟩;rw [hf];have hb:(c.l.n==c.m.n)=true:=by simp [he]
  unfold eqL;rw [hb];cases jU (FX c) c.l.n
  ·exact ⟨fun h=>(by cases h),fun _=>⟨rfl,rfl⟩⟩
  ·exact ⟨fun _=>rfl,fun h=>(by cases h)⟩
def S46 (c:LL) (i:Int):St:=mkS 26 [(0,.one (.c (.sl spSh c.l.n c.l.ρ))),(1,.one (.c (.sl spSh c.m.n c.m.ρ))),(4,.one (.c (.bool false))),(5,.one (.c (I i)))] []
theorem t46 (c:LL) (i:Int):((jL Tryz.prog H8 (jZ Tryz.prog H8 10) 41 0 1 (qz Tryz.prog 41 0) (S46 c i)).bind fun y=>gcT [0,1,4,5] 0 y)=(TXe c i).bind fun y=>.leaf (y.1,S46 c y.2):=by kernel_rfl
def ja2:List (Nat × AV)->Mem->Option (LL × Int)
 | [(0,.one (.c (.sl [.int .i64,.int .i64,.int .i64] n ρ))),(1,.one (.c (.sl [.int .i64,.int .i64,.int .i64] k σ))),(4,.one (.c (.bool false))),(5,.one (.c (.int .i64 i)))],[]=>some (⟨⟨n,ρ⟩,⟨k,σ⟩⟩,i)
 | _,_=>none
noncomputable def L46:Nat->St->Tree (XE × St):=YP [0,1,4,5] 0 26 ja2 RZ S46 M2 [.ret,.exit 0]
theorem l46 (fn:Func) (c b:Code) (hf:Tryz.prog.funcs[41]? = some fn) (hc:fn.body=some c) (hb:jf c 0=some b):LoopOk Tryz.prog b L46 :=
 JG h8 10 41 0 hf hc hb [0,1,4,5] 0 26 S46 TXe t46 ja2 RZ (fun c i=>(c.l.n - i).toNat) [.ret,.exit 0]
  (fun l m c v h=>by unfold ja2 at h;split at h<;>simp at h;obtain ⟨rfl,rfl⟩:=h;rfl)
  (QV fun c v hv=>by
   have h:=(jv.1 hv).1;exact (sqE c h.1 h.2).rounds fun x=>by unfold RZ;rw [jv];exact ⟨fun h=>h.2,fun k=>⟨h,k⟩⟩)
noncomputable abbrev H46:Hd:=⟨H8.pc,[],[((41,0),L46)],H8.mc⟩
theorem h46:HdOk Tryz.prog H46:=HdOk.lhCons h8 l46
theorem p46:TcOne Tryz.prog 41 (nG GE):=qv h46 10 41 fun args r h=>by
 unfold GE at h;split at h
 ·rename_i n ρ k σ;obtain ⟨hp,rfl⟩:=Prod.mk.inj (Option.some.inj h);refine ⟨rfl,_,?_,jpx ⟨⟨n,ρ⟩,⟨k,σ⟩⟩ (jv.1 hp)⟩
  kernel_rfl
 ·cases h
noncomputable def G17:List A1->Option (Bool × AV)
 | [.agg [.int .i64 a,.int .i64 r,.int .i64 e,.int .i64 p,.sl [.int .i64,.int .i64,.int .i64] n ρ,.int .i64 s,.bool l,.bool c],.agg [.int .i64 a',.int .i64 r',.int .i64 e',.int .i64 p',.sl [.int .i64,.int .i64,.int .i64] k σ,.int .i64 s',.bool l',.bool c']]=>some (dec (fewN n),.one (.c (.bool (((((((a==a'&&r==r')&&e==e')&&p==p')&&eqL ⟨⟨n,ρ⟩,⟨k,σ⟩⟩)&&s==s')&&l==l')&&c==c'))))
 | _=>none
noncomputable abbrev H9:Hd:=⟨(41,nG GE)::H8.pc,[],[],H8.mc⟩
theorem h9:HdOk Tryz.prog H9:=h8.tcCons p46
theorem p17:TcOne Tryz.prog 21 (nG G17):=qv h9 10 21 fun args r h=>by
 unfold G17 at h;split at h
 ·rename_i a r e p n ρ s l c a' r' e' p' k σ s' l' c';obtain ⟨hp,rfl⟩:=Prod.mk.inj (Option.some.inj h);refine ⟨rfl,.need (!((((((a==a'&&r==r')&&e==e')&&p==p')==true)&&true))||dec (fewN n)) (.leaf (.one (.c (.bool (((((((a==a'&&r==r')&&e==e')&&p==p')&&eqL ⟨⟨n,ρ⟩,⟨k,σ⟩⟩)&&s==s')&&l==l')&&c==c'))))),?_,by rw [hp,Bool.or_true];exact ⟨rfl,rfl⟩⟩
  kernel_rfl
 ·cases h
noncomputable abbrev H10:Hd:=⟨(21,nG G17)::H9.pc,[],[],H9.mc⟩
theorem h10:HdOk Tryz.prog H10:=h9.tcCons p17
noncomputable abbrev H11:Hd:=H10
theorem h11:HdOk Tryz.prog H11:=h10
noncomputable abbrev H12:Hd:=H11
theorem h12:HdOk Tryz.prog H12:=h11
def dmd (ok:Bool) (x e:Int):Int:=bif !ok&&e==0 then x else e
def G40:List A1->Mem->Tree (AV × Mem)
 | [.c (.ptr 5 0),.c (.bool ok),.c (.int .i64 x)],m0::m1::m2::m3::m4::some (218,[.int .i64 c0,c1,c2,c3,c4,c5,c6,c7,.int .i64 e])::r=>.leaf (.tup [],m0::m1::m2::m3::m4::some (218,[.int .i64 c0,c1,c2,c3,c4,c5,c6,c7,.int .i64 (dmd ok x e)])::r)
 | [.c (.ptr 6 0),.c (.bool ok),.c (.int .i64 x)],m0::m1::m2::m3::m4::m5::some (218,[.int .i64 c0,c1,c2,c3,c4,c5,c6,c7,.int .i64 e])::r=>.leaf (.tup [],m0::m1::m2::m3::m4::m5::some (218,[.int .i64 c0,c1,c2,c3,c4,c5,c6,c7,.int .i64 (dmd ok x e)])::r)
 | _,_=>.fail
theorem q40:js Tryz.prog 157 G40:=YF h12 10 157 fun args mem r mem' h=>by
 unfold G40 at h;split at h
 ·rename_i ok x m0 m1 m2 m3 m4 c0 c1 c2 c3 c4 c5 c6 c7 e rest;simp only [Tree.sel,sIq,pIq] at h;obtain ⟨rfl,rfl⟩:=h;refine ⟨.br (!ok&&e==0) (.leaf (.tup [],m0::m1::m2::m3::m4::some (218,[.int .i64 c0,c1,c2,c3,c4,c5,c6,c7,.int .i64 x])::rest)) (.leaf (.tup [],m0::m1::m2::m3::m4::some (218,[.int .i64 c0,c1,c2,c3,c4,c5,c6,c7,.int .i64 e])::rest)),by kernel_rfl,fun hc => ?_,fun hc => ?_⟩
  ·show _=_;unfold dmd;rw [hc];rfl
  ·show _=_;unfold dmd;rw [hc];rfl
 ·rename_i ok x m0 m1 m2 m3 m4 m5 c0 c1 c2 c3 c4 c5 c6 c7 e rest;simp only [Tree.sel,sIq,pIq] at h;obtain ⟨rfl,rfl⟩:=h;refine ⟨.br (!ok&&e==0) (.leaf (.tup [],m0::m1::m2::m3::m4::m5::some (218,[.int .i64 c0,c1,c2,c3,c4,c5,c6,c7,.int .i64 x])::rest)) (.leaf (.tup [],m0::m1::m2::m3::m4::m5::some (218,[.int .i64 c0,c1,c2,c3,c4,c5,c6,c7,.int .i64 e])::rest)),by kernel_rfl,fun hc => ?_,fun hc => ?_⟩
  ·show _=_;unfold dmd;rw [hc];rfl
  ·show _=_;unfold dmd;rw [hc];rfl
 ·simp [Tree.sel] at h
noncomputable abbrev H13:Hd:=⟨H12.pc,[],[],(157,G40)::H12.mc⟩
theorem h13:HdOk Tryz.prog H13:=h12.mcCons q40
structure Sit where
 a:Int
 r:Int
 e:Int
 p:Int
 n:Nat
 ρ:Val
 s:Int
 l:Bool
 c:Bool
def Sit.cv (x:Sit):A1:=.agg [I x.a,I x.r,I x.e,I x.p,.sl spSh x.n x.ρ,I x.s,.bool x.l,.bool x.c]
def Qd (x:Sit):Int:=chk x.a x.r x.e x.p ⟨x.n,x.ρ⟩ x.s
def Zr (k:Int):AV:=.tup [.agg [I 0,I 0,I 0,I 0,.nils,I 0,.bool false,.bool false],.c (I k)]
def Sok (x:Sit):AV:=.tup [x.cv,.c (I 0)]
def Us (k:Int) (x:Sit):AV:=.tup [.agg [I (bif k==0 then x.a else 0),I (bif k==0 then x.r else 0),I (bif k==0 then x.e else 0),I (bif k==0 then x.p else 0),.sl spSh (bif k==0 then x.n else 0) x.ρ,I (bif k==0 then x.s else 0),.bool (k==0&&x.l),.bool (k==0&&x.c)],.c (I k)]
theorem jgz {es:List Sh} {ρ:Val}:leC .nils (.sl es 0 ρ):=fun _ _ _ h=>by cases h;exact .slnil
theorem jbJ {k j:Int} {x:Sit} (hj:j=k) (hk:(j==0)=false):leA (Zr j) (Us k x):=by
 subst hj;unfold Zr Us;rw [hk];refine ZH (.cons (.agg ?_) (.cons le1.refl .nil));exact .cons leC.refl (.cons leC.refl (.cons leC.refl (.cons leC.refl (.cons jgz (.cons leC.refl (.cons leC.refl (.cons leC.refl .nil)))))))
theorem Ul {k:Int} {x y:Sit} (hk:(k==0)=true) (hy:y=x):leA (Sok y) (Us k x):=by
 have hk0:k=0:=by simpa using hk
 subst hk0;subst hy;exact leA.refl
def small (n:Nat):Prop:=n<=100000
theorem K7 {n:Nat} (h:small n):dec (fewN n)=true:=jv.2 (by unfold small at h;unfold fewN;omega)
theorem KJ {n:Nat} (h:small n):Nat.ble ((0+n)*24) 140737488355328=true:=Nat.ble_eq_true_of_le (by unfold small at h;omega)
theorem To {n:Nat} {k:Int} {x y:Sit} (hs:small n) (hy:y=x):(Tree.need (Nat.ble ((0+n)*24) 140737488355328) (.need (dec (fewN n)) (.br (k != 0) (.leaf (Zr k)) (.leaf (Sok y))))).All (fun z=>leA z (Us k x)):=by
 refine ⟨KJ hs,K7 hs,fun h=>jbJ rfl (by simpa [bne] using h),fun h=>Ul (by simpa [bne] using h) hy⟩
def chain (e:Int):List (Bool × Int)->Int
 | []=>e
 | (ok,k)::r=>chain (dmd ok k e) r
def pro (x:Sit) (y:Int):Sit:={ x with r:=1,e:=y,s:=-1 }
def proE (x:Sit) (y:Int):Int:=chain (Qd x) [(x.l,12),((x.r==0&&ja x.n==0)||x.r==2||x.r==3,18),(lt x.e y,13),(le y 1073741824,2)]
noncomputable def jeu:List A1->Option (Bool × AV)
 | [.agg [.int .i64 a,.int .i64 r,.int .i64 e,.int .i64 p,.sl [.int .i64,.int .i64,.int .i64] n ρ,.int .i64 s,.bool l,.bool c],.c (.int .i64 y)]=>some (dec (small n),Us (proE ⟨a,r,e,p,n,ρ,s,l,c⟩ y) (pro ⟨a,r,e,p,n,ρ,s,l,c⟩ y))
 | _=>none
theorem u13:jo Tryz.prog 141 (nG jeu):=jV h13 12 141 fun args r h=>by
 unfold jeu at h;split at h
 ·rename_i a r e p n ρ s l c y;obtain ⟨hp,rfl⟩:=Prod.mk.inj (Option.some.inj h);exact ⟨_,by kernel_rfl,To (jv.1 hp) rfl⟩
 ·cases h
def demo (x:Sit) (y src:Int):Sit:={ x with r:=bif src==-1 then 5 else 2,e:=y,s:=src }
def demoE (x:Sit) (y src:Int):Int:=chain (Qd x) [(x.r==1,18),(le x.e y,13),(le y 1073741824,2),(src==-1||oth src x.a,1)]
noncomputable def jek:List A1->Option (Bool × AV)
 | [.agg [.int .i64 a,.int .i64 r,.int .i64 e,.int .i64 p,.sl [.int .i64,.int .i64,.int .i64] n ρ,.int .i64 s,.bool l,.bool c],.c (.int .i64 y),.c (.int .i64 src)]=>some (dec (small n),Us (demoE ⟨a,r,e,p,n,ρ,s,l,c⟩ y src) (demo ⟨a,r,e,p,n,ρ,s,l,c⟩ y src))
 | _=>none
theorem Mo {Q : AV -> Prop} {b : Bool} {k : Int} {x1 x2 : Sit} (h1 : k = 0 -> b = true -> Q (Sok x1)) (h2 : k = 0 -> b = false -> Q (Sok x2)) (h3 : (k == 0) = false -> Q (Zr k)) :
  (Tree.br b (.br (k != 0) (.leaf (Zr k)) (.leaf (Sok x1))) (.br (k != 0) (.leaf (Zr k)) (.leaf (Sok x2)))).All Q :=
 ⟨fun hb=>⟨fun hk=>h3 (by simpa [bne] using hk),fun hk=>h1 (by simpa [bne] using hk) hb⟩,fun hb=>⟨fun hk=>h3 (by simpa [bne] using hk),fun hk=>h2 (by simpa [bne] using hk) hb⟩⟩
theorem u15:jo Tryz.prog 144 (nG jek):=jV h13 12 144 fun args r h=>by
 unfold jek at h;split at h
 ·rename_i a r e p n ρ s l c y src;obtain ⟨hp,rfl⟩:=Prod.mk.inj (Option.some.inj h);have hp:=jv.1 hp;refine ⟨.need (Nat.ble ((0+n)*24) 140737488355328) (.need (dec (fewN n)) (Tree.br (src==-1) (.br (demoE ⟨a,r,e,p,n,ρ,s,l,c⟩ y src != 0) (.leaf (Zr (demoE ⟨a,r,e,p,n,ρ,s,l,c⟩ y src))) (.leaf (Sok ⟨a,5,y,p,n,ρ,src,l,c⟩))) (.br (demoE ⟨a,r,e,p,n,ρ,s,l,c⟩ y src != 0) (.leaf (Zr (demoE ⟨a,r,e,p,n,ρ,s,l,c⟩ y src))) (.leaf (Sok ⟨a,2,y,p,n,ρ,src,l,c⟩))))),by kernel_rfl,KJ hp,K7 hp,Mo (fun hk hb => ?_) (fun hk hb => ?_) (fun hk=>jbJ rfl hk)⟩
  ·exact Ul (by rw [hk];rfl) (by unfold demo;rw [hb];rfl)
  ·exact Ul (by rw [hk];rfl) (by unfold demo;rw [hb];rfl)
 ·cases h
def iso (x:Sit):Sit:={ x with r:=3,s:=-1 }
def isoE (x:Sit):Int:=chain (Qd x) [(x.r==2,18)]
noncomputable def jgA:List A1->Option (Bool × AV)
 | [.agg [.int .i64 a,.int .i64 r,.int .i64 e,.int .i64 p,.sl [.int .i64,.int .i64,.int .i64] n ρ,.int .i64 s,.bool l,.bool c]]=>some (dec (small n),Us (isoE ⟨a,r,e,p,n,ρ,s,l,c⟩) (iso ⟨a,r,e,p,n,ρ,s,l,c⟩))
 | _=>none
theorem u24:jo Tryz.prog 143 (nG jgA):=jV h13 12 143 fun args r h=>by
 unfold jgA at h;split at h
 ·rename_i a r e p n ρ s l c;obtain ⟨hp,rfl⟩:=Prod.mk.inj (Option.some.inj h);exact ⟨_,by kernel_rfl,To (k:=isoE ⟨a,r,e,p,n,ρ,s,l,c⟩) (y:=iso ⟨a,r,e,p,n,ρ,s,l,c⟩) (jv.1 hp) rfl⟩
 ·cases h
def rej (x:Sit) (y src:Int):Sit:={ x with r:=bif x.r==3&&y==x.e then 2 else 4,e:=y,s:=src }
def rejE (x:Sit) (y src:Int):Int:=chain (Qd x) [(x.r != 1&&x.r != 2,18),(le x.e y&&y != 0,13),(le y 1073741824,2),(oth src x.a,1)]
noncomputable def jew:List A1->Option (Bool × AV)
 | [.agg [.int .i64 a,.int .i64 r,.int .i64 e,.int .i64 p,.sl [.int .i64,.int .i64,.int .i64] n ρ,.int .i64 s,.bool l,.bool c],.c (.int .i64 y),.c (.int .i64 src)]=>some (dec (small n),Us (rejE ⟨a,r,e,p,n,ρ,s,l,c⟩ y src) (rej ⟨a,r,e,p,n,ρ,s,l,c⟩ y src))
 | _=>none
theorem u26:jo Tryz.prog 146 (nG jew):=jV h13 12 146 fun args r h=>by
 unfold jew at h;split at h
 ·rename_i a r e p n ρ s l c y src;obtain ⟨hp,rfl⟩:=Prod.mk.inj (Option.some.inj h);have hp:=jv.1 hp;refine ⟨.need (Nat.ble ((0+n)*24) 140737488355328) (.need (dec (fewN n)) (Tree.br (r==3&&y==e) (.br (rejE ⟨a,r,e,p,n,ρ,s,l,c⟩ y src != 0) (.leaf (Zr (rejE ⟨a,r,e,p,n,ρ,s,l,c⟩ y src))) (.leaf (Sok ⟨a,2,y,p,n,ρ,src,l,c⟩))) (.br (rejE ⟨a,r,e,p,n,ρ,s,l,c⟩ y src != 0) (.leaf (Zr (rejE ⟨a,r,e,p,n,ρ,s,l,c⟩ y src))) (.leaf (Sok ⟨a,4,y,p,n,ρ,src,l,c⟩))))),by kernel_rfl,KJ hp,K7 hp,Mo (fun hk hb => ?_) (fun hk hb => ?_) (fun hk=>jbJ rfl hk)⟩
  ·exact Ul (by rw [hk];rfl) (by unfold rej;rw [hb];rfl)
  ·exact Ul (by rw [hk];rfl) (by unfold rej;rw [hb];rfl)
 ·cases h
noncomputable abbrev H14:Hd:=⟨H13.pc,[(141,nG jeu),(144,nG jek),(143,nG jgA),(146,nG jew)],[],H13.mc⟩
theorem h14:HdOk Tryz.prog H14:=(((h13.ucCons u26).ucCons u24).ucCons u15).ucCons u13
noncomputable abbrev H15:Hd:=H14
theorem h15:HdOk Tryz.prog H15:=h14
end Go.Proofs.YtiefjlcakpdfeaaGreatDoor.Ro
namespace Go.Proofs.YtiefjlcakpdfeaaGreatDoor.Ro
open Go Go.Sx Go.RowKit Classical
set_option maxRecDepth 100000
abbrev siSh:List Sh:=[.int .i64,.int .i64,.int .i64,.int .i64,.sl spSh,.int .i64,.bool,.bool]
structure Ses where
 n:Nat
 ρ:Val
def siAt (v:Val):Sit:=⟨(v.at 0).N [],(v.at 1).N [],(v.at 2).N [],(v.at 3).N [],(v.at 4).L [],v.at 4,(v.at 5).N [],(v.at 6).B [],(v.at 7).B []⟩
def Ses.at (l:Ses) (i:Nat):Sit:=siAt (l.ρ.at i)
structure VI where
 r:Int
 i:Int
def TXi (m:Int) (n:Nat) (bad:Nat->Bool) (v:VI):Tree (XE × VI) :=
 .br (lt v.i m) (.need (jc v.i n) (.br (bad v.i.toNat) (.leaf (.ret,⟨v.i,v.i⟩)) (.leaf (.normal,⟨v.r,IntKind.i64.wrap (v.i+1)⟩)))) (.leaf (.exit 0,v))
def stI (i:Nat):VI:=⟨0,i⟩
def sbI (i:Nat):VI:=⟨i,i⟩
def μI (n:Nat) (v:VI):Nat:=(n - v.i).toNat
theorem sqI {m:Int} {n:Nat} (bad:Nat->Bool) (hm:m=ja n) (hn:fewN n):Sq (TXi m n bad) (μI n) stI sbI n bad .ret (.exit 0) where
 out:=by simp
 hit:=by simp
 meas i hi:=by unfold μI stI;simp only;omega
 round i hi:=by
  unfold fewN at hn;have hw:IntKind.i64.wrap ((i:Int)+1)=((i+1:Nat):Int):=by rw [w64_id (by omega) (by omega)];omega
  refine ⟨fun _=>⟨inR hi,fun hb => ?_,fun hb => ?_⟩,fun h => ?_⟩
  ·have:bad i=true:=hb
   simp only [Tree.All,this,if_true];rfl
  ·have:bad i=false:=hb
   simp only [Tree.All,this,Bool.false_eq_true,if_false];show (XE.normal,(⟨0,IntKind.i64.wrap ((i:Int)+1)⟩ : VI))=_;rw [hw];rfl
  ·have:lt (i:Int) m=false:=h
   rw [hm,ltF hi] at this;cases this
 stop:=by
  refine ⟨fun h => ?_,fun _=>rfl⟩
  have:lt (n:Int) m=true:=h
  rw [hm,ltS] at this;cases this
def Zt (l:Ses) (y:Sit) (i:Nat):Bool:=(l.at i).a==y.a
def ZM (l:Ses) (y:Sit) (i:Nat):Bool:=(l.at i).r==y.r&&(l.at i).e==y.e
structure C56 where
 l:Ses
 m:Int
 y:Sit
def UC (y:Sit):Mem:=[some (53,[I y.a,I y.r,I y.e,I y.p,.sl spSh y.n y.ρ,I y.s,.bool y.l,.bool y.c])]
def jbI (c:C56) (v:VI):St:=mkS 19 [(0,.one (.c (.sl siSh c.l.n c.l.ρ))),(1,.one (.c (.fn (.func 63) [] [.ptr 0 0]))),(4,.one (.c (I v.r))),(7,.one (.c (I c.m))),(8,.one (.c (I v.i)))] (UC c.y)
def jaU (c:C56) (v:VI):St:=mkS 19 [(0,.one (.c (.sl siSh c.l.n c.l.ρ))),(1,.one (.c (.fn (.func 64) [] [.ptr 0 0]))),(4,.one (.c (I v.r))),(7,.one (.c (I c.m))),(8,.one (.c (I v.i)))] (UC c.y)
theorem joY (c:C56) (v:VI):((jL Tryz.prog H15 (jZ Tryz.prog H15 10) 91 1 1 (qz Tryz.prog 91 0) (jbI c v)).bind fun y=>gcT [0,1,4,7,8] 1 y)=(TXi c.m c.l.n (Zt c.l c.y) v).bind fun y=>.leaf (y.1,jbI c y.2):=by kernel_rfl
theorem jo8 (c:C56) (v:VI):((jL Tryz.prog H15 (jZ Tryz.prog H15 10) 91 1 1 (qz Tryz.prog 91 0) (jaU c v)).bind fun y=>gcT [0,1,4,7,8] 1 y)=(TXi c.m c.l.n (ZM c.l c.y) v).bind fun y=>.leaf (y.1,jaU c y.2):=by kernel_rfl
noncomputable def YT (c:C56) (v:VI):Bool:=dec ((c.m=ja c.l.n∧fewN c.l.n)∧∃ i,i<=c.l.n∧v=stI i)
def Fq (c:C56) (v:VI):XE × VI:=fin (TXi c.m c.l.n (Zt c.l c.y)) (μI c.l.n) v
def TY (c:C56) (v:VI):XE × VI:=fin (TXi c.m c.l.n (ZM c.l c.y)) (μI c.l.n) v
def TQ:List (Nat × AV)->Mem->Option (C56 × VI)
 | [(0, .one (.c (.sl [.int .i64, .int .i64, .int .i64, .int .i64, .sl [.int .i64, .int .i64, .int .i64], .int .i64, .bool, .bool] n ρ))), (1, .one (.c (.fn (.func 63) [] [.ptr 0 0]))), (4, .one (.c (.int .i64 r))), (7, .one (.c (.int .i64 m))), (8, .one (.c (.int .i64 i)))],
   [some (53,[.int .i64 a,.int .i64 ro,.int .i64 e,.int .i64 p,.sl [.int .i64,.int .i64,.int .i64] k σ,.int .i64 s,.bool l,.bool c])]=>some (⟨⟨n,ρ⟩,m,⟨a,ro,e,p,k,σ,s,l,c⟩⟩,⟨r,i⟩)
 | _,_=>none
def Rz:List (Nat × AV)->Mem->Option (C56 × VI)
 | [(0, .one (.c (.sl [.int .i64, .int .i64, .int .i64, .int .i64, .sl [.int .i64, .int .i64, .int .i64], .int .i64, .bool, .bool] n ρ))), (1, .one (.c (.fn (.func 64) [] [.ptr 0 0]))), (4, .one (.c (.int .i64 r))), (7, .one (.c (.int .i64 m))), (8, .one (.c (.int .i64 i)))],
   [some (53,[.int .i64 a,.int .i64 ro,.int .i64 e,.int .i64 p,.sl [.int .i64,.int .i64,.int .i64] k σ,.int .i64 s,.bool l,.bool c])]=>some (⟨⟨n,ρ⟩,m,⟨a,ro,e,p,k,σ,s,l,c⟩⟩,⟨r,i⟩)
 | _,_=>none
noncomputable def jmI:Nat->St->Tree (XE × St):=YP [0,1,4,7,8] 1 19 TQ YT jbI Fq [.ret,.exit 0]
noncomputable def jk8:Nat->St->Tree (XE × St):=YP [0,1,4,7,8] 1 19 Rz YT jaU TY [.ret,.exit 0]
theorem jo0 (fn:Func) (c b:Code) (hf:Tryz.prog.funcs[91]? = some fn) (hc:fn.body=some c) (hb:jf c 0=some b):LoopOk Tryz.prog b jmI :=
 JG h15 10 91 0 hf hc hb [0,1,4,7,8] 1 19 jbI (fun c=>TXi c.m c.l.n (Zt c.l c.y)) joY TQ YT (fun c=>μI c.l.n) [.ret,.exit 0]
  (fun l m c v h=>by unfold TQ at h;split at h<;>simp at h;obtain ⟨rfl,rfl⟩:=h;rfl)
  (QV fun c v hv=>by
   have h:=(jv.1 hv).1;exact (sqI (Zt c.l c.y) h.1 h.2).rounds fun x=>by unfold YT;rw [jv];exact ⟨fun h=>h.2,fun k=>⟨h,k⟩⟩)
theorem joT (fn:Func) (c b:Code) (hf:Tryz.prog.funcs[91]? = some fn) (hc:fn.body=some c) (hb:jf c 0=some b):LoopOk Tryz.prog b jk8 :=
 JG h15 10 91 0 hf hc hb [0,1,4,7,8] 1 19 jaU (fun c=>TXi c.m c.l.n (ZM c.l c.y)) jo8 Rz YT (fun c=>μI c.l.n) [.ret,.exit 0]
  (fun l m c v h=>by unfold Rz at h;split at h<;>simp at h;obtain ⟨rfl,rfl⟩:=h;rfl)
  (QV fun c v hv=>by
   have h:=(jv.1 hv).1;exact (sqI (ZM c.l c.y) h.1 h.2).rounds fun x=>by unfold YT;rw [jv];exact ⟨fun h=>h.2,fun k=>⟨h,k⟩⟩)
noncomputable abbrev HaB:Hd:=⟨H15.pc,H15.hc,[((91,0),jmI)],H15.mc⟩
theorem haB:HdOk Tryz.prog HaB:=HdOk.lhCons h15 jo0
noncomputable abbrev HaC:Hd:=⟨H15.pc,H15.hc,[((91,0),jk8)],H15.mc⟩
theorem haC:HdOk Tryz.prog HaC:=HdOk.lhCons h15 joT
def T30 {α:Type} (iv:Bool) (x:XE × VI) (f:Bool->α):Tree α:=.need iv (.br (Qe x.1 .ret) (.leaf (f (le 0 x.2.r))) (.need (Qe x.1 (.exit 0)) (.leaf (f false))))
theorem IE {α:Type} {iv:Bool} {x:XE × VI} {f:Bool->α} {n:Nat} {bad:Nat->Bool} (h:iv=true) (hx:x=bif jU bad n then (.ret,sbI (yn bad n)) else (.exit 0,stI n)):(T30 iv x f).All (fun z=>z=f (jU bad n)):=by
 subst h;refine ⟨rfl,fun h => ?_,fun h => ?_⟩
 ·cases hb:jU bad n
  ·rw [hb] at hx;subst hx;cases h
  ·rw [hb] at hx;subst hx
   have:le 0 ((yn bad n:Nat):Int)=true:=by rw [qE];omega
   show f (le 0 ((yn bad n:Nat):Int))=_;rw [this]
 ·cases hb:jU bad n
  ·rw [hb] at hx;subst hx;exact ⟨rfl,rfl⟩
  ·rw [hb] at hx;subst hx;cases h
theorem jm3 {c:C56} (hm:c.m=ja c.l.n) (hn:fewN c.l.n):YT c (stI 0)=true:=jv.2 ⟨⟨hm,hn⟩,0,Nat.zero_le _,rfl⟩
noncomputable def G30:List A1->Mem->Tree (AV × Mem)
 | [.c (.sl [.int .i64, .int .i64, .int .i64, .int .i64, .sl [.int .i64, .int .i64, .int .i64], .int .i64, .bool, .bool] n ρ), .c (.fn (.func 63) [] [.ptr 0 0])], [some (53, [.int .i64 a, .int .i64 ro, .int .i64 e, .int .i64 p, .sl [.int .i64, .int .i64, .int .i64] k σ, .int .i64 s, .bool l, .bool c])] =>
   .need (dec (fewN n)) (.leaf (.one (.c (.bool (jU (Zt ⟨n,ρ⟩ ⟨a,ro,e,p,k,σ,s,l,c⟩) n))),[some (53,[.int .i64 a,.int .i64 ro,.int .i64 e,.int .i64 p,.sl spSh k σ,.int .i64 s,.bool l,.bool c])]))
 | [.c (.sl [.int .i64, .int .i64, .int .i64, .int .i64, .sl [.int .i64, .int .i64, .int .i64], .int .i64, .bool, .bool] n ρ), .c (.fn (.func 64) [] [.ptr 0 0])], [some (53, [.int .i64 a, .int .i64 ro, .int .i64 e, .int .i64 p, .sl [.int .i64, .int .i64, .int .i64] k σ, .int .i64 s, .bool l, .bool c])] =>
   .need (dec (fewN n)) (.leaf (.one (.c (.bool (jU (ZM ⟨n,ρ⟩ ⟨a,ro,e,p,k,σ,s,l,c⟩) n))),[some (53,[.int .i64 a,.int .i64 ro,.int .i64 e,.int .i64 p,.sl spSh k σ,.int .i64 s,.bool l,.bool c])]))
 | _,_=>.fail
noncomputable def jmn:List A1->Mem->Tree (AV × Mem)
 | [.c (.sl [.int .i64, .int .i64, .int .i64, .int .i64, .sl [.int .i64, .int .i64, .int .i64], .int .i64, .bool, .bool] n ρ), .c (.fn (.func 63) [] [.ptr 0 0])], [some (53, [.int .i64 a, .int .i64 ro, .int .i64 e, .int .i64 p, .sl [.int .i64, .int .i64, .int .i64] k σ, .int .i64 s, .bool l, .bool c])] =>
   .need (dec (fewN n)) (.leaf (.one (.c (.bool (jU (Zt ⟨n,ρ⟩ ⟨a,ro,e,p,k,σ,s,l,c⟩) n))),[some (53,[.int .i64 a,.int .i64 ro,.int .i64 e,.int .i64 p,.sl spSh k σ,.int .i64 s,.bool l,.bool c])]))
 | _,_=>.fail
noncomputable def jmL:List A1->Mem->Tree (AV × Mem)
 | [.c (.sl [.int .i64, .int .i64, .int .i64, .int .i64, .sl [.int .i64, .int .i64, .int .i64], .int .i64, .bool, .bool] n ρ), .c (.fn (.func 64) [] [.ptr 0 0])], [some (53, [.int .i64 a, .int .i64 ro, .int .i64 e, .int .i64 p, .sl [.int .i64, .int .i64, .int .i64] k σ, .int .i64 s, .bool l, .bool c])] =>
   .need (dec (fewN n)) (.leaf (.one (.c (.bool (jU (ZM ⟨n,ρ⟩ ⟨a,ro,e,p,k,σ,s,l,c⟩) n))),[some (53,[.int .i64 a,.int .i64 ro,.int .i64 e,.int .i64 p,.sl spSh k σ,.int .i64 s,.bool l,.bool c])]))
 | _,_=>.fail
theorem joR:js Tryz.prog 62 jmn:=YF haB 10 62 fun args mem r mem' h=>by
 unfold jmn at h;split at h
 ·rename_i n ρ a ro e p k σ s l c;cases hp:dec (fewN n)
  ·rw [hp] at h;simp [Tree.sel] at h
  ·rw [hp] at h;simp only [Tree.sel,cond_true,sIq,pIq] at h;obtain ⟨rfl,rfl⟩:=h;have hf:=jv.1 hp;exact ⟨T30 (YT ⟨⟨n,ρ⟩,ja n,⟨a,ro,e,p,k,σ,s,l,c⟩⟩ (stI 0)) (Fq ⟨⟨n,ρ⟩,ja n,⟨a,ro,e,p,k,σ,s,l,c⟩⟩ (stI 0)) (fun b=>(.one (.c (.bool b)),UC ⟨a,ro,e,p,k,σ,s,l,c⟩)),by kernel_rfl,IE (f:=fun b=>(AV.one (.c (.bool b)),UC ⟨a,ro,e,p,k,σ,s,l,c⟩)) (jm3 (c:=⟨⟨n,ρ⟩,ja n,⟨a,ro,e,p,k,σ,s,l,c⟩⟩) rfl hf) (show Fq ⟨⟨n,ρ⟩,ja n,⟨a,ro,e,p,k,σ,s,l,c⟩⟩ (stI 0)=_ from (sqI (Zt ⟨n,ρ⟩ ⟨a,ro,e,p,k,σ,s,l,c⟩) rfl hf).fin0)⟩
 ·simp [Tree.sel] at h
theorem joG:js Tryz.prog 62 jmL:=YF haC 10 62 fun args mem r mem' h=>by
 unfold jmL at h;split at h
 ·rename_i n ρ a ro e p k σ s l c;cases hp:dec (fewN n)
  ·rw [hp] at h;simp [Tree.sel] at h
  ·rw [hp] at h;simp only [Tree.sel,cond_true,sIq,pIq] at h;obtain ⟨rfl,rfl⟩:=h;have hf:=jv.1 hp;exact ⟨T30 (YT ⟨⟨n,ρ⟩,ja n,⟨a,ro,e,p,k,σ,s,l,c⟩⟩ (stI 0)) (TY ⟨⟨n,ρ⟩,ja n,⟨a,ro,e,p,k,σ,s,l,c⟩⟩ (stI 0)) (fun b=>(.one (.c (.bool b)),UC ⟨a,ro,e,p,k,σ,s,l,c⟩)),by kernel_rfl,IE (f:=fun b=>(AV.one (.c (.bool b)),UC ⟨a,ro,e,p,k,σ,s,l,c⟩)) (jm3 (c:=⟨⟨n,ρ⟩,ja n,⟨a,ro,e,p,k,σ,s,l,c⟩⟩) rfl hf) (show TY ⟨⟨n,ρ⟩,ja n,⟨a,ro,e,p,k,σ,s,l,c⟩⟩ (stI 0)=_ from (sqI (ZM ⟨n,ρ⟩ ⟨a,ro,e,p,k,σ,s,l,c⟩) rfl hf).fin0)⟩
 ·simp [Tree.sel] at h
theorem q30:js Tryz.prog 62 G30:=fun args mem r mem' h=>by
 unfold G30 at h;split at h
 ·exact joR _ _ _ _ h
 ·exact joG _ _ _ _ h
 ·simp [Tree.sel] at h
noncomputable abbrev H30:Hd:=⟨H15.pc,H15.hc,[],(62,G30)::H15.mc⟩
theorem h30:HdOk Tryz.prog H30:=h15.mcCons q30
structure VJ where
 k:Int
 r:Int
 q:Int
def Gx (l:Ses) (y:Sit) (k:Nat):Bool:=((l.at k).r==1&&y.r==1)&&(l.at k).e==y.e
def stJ (k:Nat):VJ:=⟨k,0,0⟩
def fewS (l:Ses):Prop:=fewN l.n∧∀ i,i<l.n->fewN (l.at i).n
theorem M7 (l:Ses) (x:Sit) (n:Nat):(x.r==1&&jU (ZM l x) n)=jU (Gx l x) n:=by
 cases hr:(x.r==1)
 ·rw [Bool.false_and,eq_comm,← Bool.not_eq_true];intro h;obtain ⟨i,_,h⟩:=QR.1 h;unfold Gx at h;rw [hr] at h;simp at h
 ·rw [Bool.true_and];refine jbj fun i _ _ => ?_;have hx:x.r=1:=by simpa using hr
  unfold ZM Gx;rw [hr,hx,Bool.and_true]
def y4 (l:Ses) (i:Nat):Bool:=(Qd (l.at i) != 0||jU (Zt l (l.at i)) i)||jU (Gx l (l.at i)) i
def Kl (l:Ses) (i:Nat):Int:=bif Qd (l.at i) != 0 then Qd (l.at i) else bif jU (Zt l (l.at i)) i then 8 else 19
def sbS (l:Ses) (i:Nat):VJ:=⟨i,i,Kl l i⟩
def μS (n:Nat) (v:VJ):Nat:=(n - v.k).toNat
theorem jmY {l:Ses} {i:Nat} (h:(Qd (l.at i) != 0)=true):y4 l i=true∧Kl l i=Qd (l.at i):=by
 unfold y4 Kl;rw [h];exact ⟨rfl,rfl⟩
theorem jlC {l:Ses} {i:Nat} (h:(Qd (l.at i) != 0)=false) (h2:jU (Zt l (l.at i)) i=true):y4 l i=true∧Kl l i=8:=by
 unfold y4 Kl;rw [h,h2];exact ⟨rfl,rfl⟩
theorem jmG {l:Ses} {i:Nat} (h:(Qd (l.at i) != 0)=false) (h2:jU (Zt l (l.at i)) i=false) (h3:jU (Gx l (l.at i)) i=true):y4 l i=true∧Kl l i=19:=by
 unfold y4 Kl;rw [h,h2,h3];exact ⟨rfl,rfl⟩
theorem jkJ {l:Ses} {i:Nat} (h:(Qd (l.at i) != 0)=false) (h2:jU (Zt l (l.at i)) i=false) (h3:jU (Gx l (l.at i)) i=false):y4 l i=false:=by
 unfold y4;rw [h,h2,h3];rfl
structure C34 where
 l:Ses
 j:Ses
 m:Int
def S34 (c:C34) (v:VJ):St:=mkS 43 [(0,.one (.c (.sl siSh c.l.n c.l.ρ))),(2,.one (.c (I v.r))),(3,.one (.c (I v.q))),(10,.one (.c (.sl siSh c.j.n c.j.ρ))),(11,.one (.c (I c.m))),(12,.one (.c (I v.k)))] []
noncomputable def jbC (c:C34) (v:VJ):Tree (XE × VJ) :=
 let x:=c.j.at v.k.toNat
 let nx:VJ:=⟨IntKind.i64.wrap (v.k+1),v.r,v.q⟩
 let rest (b:Bool):Tree (XE × VJ):=.br (x.r==1&&b) (.leaf (.ret,⟨v.k,v.k,19⟩)) (.leaf (.normal,nx))
 .br (lt v.k c.m) (.need (jc v.k c.j.n) (.need (dec (fewN x.n)) (.br (Qd x != 0) (.leaf (.ret,⟨v.k,v.k,Qd x⟩)) (.need (le 0 v.k&&le v.k (ja c.l.n)) (.need (dec (fewN v.k.toNat)) (.br (jU (Zt ⟨v.k.toNat,c.l.ρ⟩ x) v.k.toNat) (.leaf (.ret,⟨v.k,v.k,8⟩))
  (.br ((x.r==1)==true) (.need (le 0 v.k&&le v.k (ja c.l.n)) (.br ((x.r==1)==true) (.need (dec (fewN v.k.toNat)) (rest (jU (ZM ⟨v.k.toNat,c.l.ρ⟩ x) v.k.toNat))) (rest false)))
   (.br ((x.r==1)==true) .fail (rest false))))))))) (.leaf (.exit 0,v))
theorem t34 (c:C34) (v:VJ):((jL Tryz.prog H30 (jZ Tryz.prog H30 10) 35 0 1 (qz Tryz.prog 35 0) (S34 c v)).bind fun y=>gcT [0,2,3,10,11,12] 0 y)=(jbC c v).bind fun y=>.leaf (y.1,S34 c y.2):=by kernel_rfl
theorem jmx (l:Ses) {m:Int} (hm:m=ja l.n) (hn:fewS l):Sq (jbC ⟨l,l,m⟩) (μS l.n) stJ (sbS l) l.n (y4 l) .ret (.exit 0) where
 out:=by simp
 hit:=by simp
 meas k hk:=by unfold μS stJ;simp only;omega
 round k hk:=by
  have hf:=hn.2 k hk;have hn:=hn.1;have hk':fewN k:=by unfold fewN at hn ⊢;omega
  have hkk:fewN ((k:Int).toNat):=hk';unfold fewN at hn;have hw:IntKind.i64.wrap ((k:Int)+1)=((k+1:Nat):Int):=by rw [w64_id (by omega) (by omega)];omega
  have hs:(le 0 (k:Int)&&le (k:Int) (ja l.n))=true:=by
   rw [aTq,qE,qE];exact ⟨by omega,by show (k:Int)<=(l.n:Int);omega⟩
  have nxt:∀ {r},jU (Gx l (l.at k)) k=r->(Qd (l.at k) != 0)=false->jU (Zt l (l.at k)) k=false->r=false->if y4 l k then (XE.normal,(⟨IntKind.i64.wrap ((k:Int)+1),0,0⟩ : VJ))=(.ret,sbS l k) else (XE.normal,(⟨IntKind.i64.wrap ((k:Int)+1),0,0⟩ : VJ))=(.normal,stJ (k+1)):=fun h1 h2 h3 h4=>by
   rw [jkJ h2 h3 (h1.trans h4),hw];rfl
  refine ⟨fun _=>⟨inR hk,jv.2 hf,fun h1 => ?_,fun h1=>⟨hs,jv.2 hkk,fun h2 => ?_,fun h2=>⟨fun g=>⟨hs,fun _=>⟨jv.2 hkk,fun h3 => ?_,fun h3 => ?_⟩,fun ng => ?_⟩,fun g=>⟨fun g' => ?_,fun _=>⟨fun h3 => ?_,fun _ => ?_⟩⟩⟩⟩⟩,fun h => ?_⟩
  ·obtain ⟨b,e⟩:=jmY (l:=l) (i:=k) h1;show if y4 l k then _ else _
   rw [b,if_pos rfl];show (XE.ret,(⟨k,k,Qd (l.at k)⟩ : VJ))=(.ret,⟨k,k,Kl l k⟩);rw [e]
  ·obtain ⟨b,e⟩:=jlC (l:=l) (i:=k) h1 h2;show if y4 l k then _ else _
   rw [b,if_pos rfl];show (XE.ret,(⟨k,k,8⟩ : VJ))=(.ret,⟨k,k,Kl l k⟩);rw [e]
  ·have h3:((l.at k).r==1&&jU (ZM l (l.at k)) k)=true:=h3;rw [M7] at h3;obtain ⟨b,e⟩:=jmG (l:=l) (i:=k) h1 h2 h3;show if y4 l k then _ else _
   rw [b,if_pos rfl];show (XE.ret,(⟨k,k,19⟩ : VJ))=(.ret,⟨k,k,Kl l k⟩);rw [e]
  ·have h3:((l.at k).r==1&&jU (ZM l (l.at k)) k)=false:=h3;rw [M7] at h3;exact nxt h3 h1 h2 rfl
  ·rw [g] at ng;cases ng
  ·rw [g] at g';cases g'
  ·rw [Bool.and_false] at h3;cases h3
  ·have h3 : ((l.at k).r == 1 && jU (ZM l (l.at k)) k) = false := by
    have g:(((l.at k).r==1)==true)=false:=g;have g:((l.at k).r==1)=false:=by cases hh:((l.at k).r==1)<;>simp_all
    rw [g];rfl
   rw [M7] at h3;exact nxt h3 h1 h2 rfl
  ·have:lt (k:Int) m=false:=h
   rw [hm,ltF hk] at this;cases this
 stop:=by
  refine ⟨fun h => ?_,fun _=>rfl⟩
  have:lt (l.n:Int) m=true:=h
  rw [hm,ltS] at this;cases this
noncomputable def He (c:C34) (v:VJ):Bool:=dec ((c.j=c.l∧c.m=ja c.l.n∧fewS c.l)∧∃ i,i<=c.l.n∧v=stJ i)
noncomputable def jaR (c:C34) (v:VJ):XE × VJ:=fin (jbC c) (μS c.l.n) v
def jaw:List (Nat × AV)->Mem->Option (C34 × VJ)
 | [(0,.one (.c (.sl [.int .i64,.int .i64,.int .i64,.int .i64,.sl [.int .i64,.int .i64,.int .i64],.int .i64,.bool,.bool] n ρ))),(2,.one (.c (.int .i64 r))),(3,.one (.c (.int .i64 q))),(10,.one (.c (.sl [.int .i64,.int .i64,.int .i64,.int .i64,.sl [.int .i64,.int .i64,.int .i64],.int .i64,.bool,.bool] n2 ρ2))),(11,.one (.c (.int .i64 m))),(12,.one (.c (.int .i64 k)))],[]=>some (⟨⟨n,ρ⟩,⟨n2,ρ2⟩,m⟩,⟨k,r,q⟩)
 | _,_=>none
noncomputable def L34:Nat->St->Tree (XE × St):=YP [0,2,3,10,11,12] 0 43 jaw He S34 jaR [.ret,.exit 0]
theorem l34 (fn:Func) (c b:Code) (hf:Tryz.prog.funcs[35]? = some fn) (hc:fn.body=some c) (hb:jf c 0=some b):LoopOk Tryz.prog b L34 :=
 JG h30 10 35 0 hf hc hb [0,2,3,10,11,12] 0 43 S34 jbC t34 jaw He (fun c=>μS c.l.n) [.ret,.exit 0] (Q:=fun (c:C34) y=>(∃ i,i<c.l.n∧y4 c.l i=true∧y=(.ret,sbS c.l i))∨y=(.exit 0,stJ c.l.n))
  (fun l m c v h=>by unfold jaw at h;split at h<;>simp at h;obtain ⟨rfl,rfl⟩:=h;rfl)
  (QV fun c v hv=>by
   obtain ⟨l,j,m⟩:=c;have h:=(jv.1 hv).1;have hj:j=l:=h.1;subst hj;exact (jmx j h.2.1 h.2.2).rounds (inv:=fun v=>He ⟨j,j,m⟩ v=true) fun x=>by unfold He;rw [jv];exact ⟨fun h=>h.2,fun k=>⟨h,k⟩⟩)
noncomputable abbrev H36:Hd:=⟨H30.pc,H30.hc,[((35,0),L34)],H30.mc⟩
theorem h36:HdOk Tryz.prog H36:=HdOk.lhCons h30 l34
def ckI (l:Ses):Int:=bif lt 4 (ja l.n) then 0 else bif jU (y4 l) l.n then (yn (y4 l) l.n:Nat) else 0
def ckE (l:Ses):Int:=bif lt 4 (ja l.n) then 6 else bif jU (y4 l) l.n then Kl l (yn (y4 l) l.n) else 0
def two (i e:Int):AV:=.tup [.c (I i),.c (I e)]
def T34 (n:Nat) (iv:Bool) (x:XE × VJ):Tree AV:=.br (lt 4 (ja n)) (.leaf (two 0 6)) (.need iv (.br (Qe x.1 .ret) (.leaf (two x.2.r x.2.q)) (.need (Qe x.1 (.exit 0)) (.leaf (two 0 0)))))
theorem jjQ {l:Ses} {iv:Bool} {x:XE × VJ} (h:iv=true) (hx:x=bif jU (y4 l) l.n then (.ret,sbS l (yn (y4 l) l.n)) else (.exit 0,stJ l.n)):(T34 l.n iv x).All (fun z=>z=two (ckI l) (ckE l)):=by
 subst h;refine ⟨fun h => ?_,fun h=>⟨rfl,fun h2 => ?_,fun h2 => ?_⟩⟩
 ·unfold ckI ckE;rw [h];rfl
 ·cases hb:jU (y4 l) l.n
  ·rw [hb] at hx;subst hx;cases h2
  ·rw [hb] at hx;subst hx;unfold ckI ckE;rw [h,hb];rfl
 ·cases hb:jU (y4 l) l.n
  ·rw [hb] at hx;subst hx;refine ⟨rfl,?_⟩;unfold ckI ckE;rw [h,hb];rfl
  ·rw [hb] at hx;subst hx;cases h2
noncomputable def G34:List A1->Option (Bool × AV)
 | [.c (.sl [.int .i64,.int .i64,.int .i64,.int .i64,.sl [.int .i64,.int .i64,.int .i64],.int .i64,.bool,.bool] n ρ)]=>some (dec (fewS ⟨n,ρ⟩),two (ckI ⟨n,ρ⟩) (ckE ⟨n,ρ⟩))
 | _=>none
theorem p34:TcOne Tryz.prog 35 (nG G34):=qv h36 12 35 fun args r h=>by
 unfold G34 at h;split at h
 ·rename_i n ρ;obtain ⟨hp,rfl⟩:=Prod.mk.inj (Option.some.inj h);have hf:=jv.1 hp;exact ⟨rfl,T34 n (He ⟨⟨n,ρ⟩,⟨n,ρ⟩,ja n⟩ (stJ 0)) (jaR ⟨⟨n,ρ⟩,⟨n,ρ⟩,ja n⟩ (stJ 0)),by kernel_rfl,jjQ (l:=⟨n,ρ⟩) (jv.2 ⟨⟨rfl,rfl,hf⟩,0,Nat.zero_le _,rfl⟩) (show jaR ⟨⟨n,ρ⟩,⟨n,ρ⟩,ja n⟩ (stJ 0)=_ from (jmx ⟨n,ρ⟩ rfl hf).fin0)⟩
 ·cases h
noncomputable abbrev H37:Hd:=⟨(35,nG G34)::H15.pc,H15.hc,[],H15.mc⟩
theorem h37:HdOk Tryz.prog H37:=h15.tcCons p34
end Go.Proofs.YtiefjlcakpdfeaaGreatDoor.Ro