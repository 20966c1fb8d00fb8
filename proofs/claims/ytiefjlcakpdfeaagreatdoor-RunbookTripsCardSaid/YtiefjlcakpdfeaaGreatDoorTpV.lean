/-
 Part TpV of the proof: RbM RcC RbG RbH RbI RbJ.
-/
import Derived.Test.YtiefjlcakpdfeaaGreatDoorTpU
namespace Go.Proofs.YtiefjlcakpdfeaaGreatDoor
open Go Go.Sx Go.RowKit Rb
set_option maxRecDepth 100000
variable {σ α β γ ε τ:Type}
structure Alg (ε τ:Type) where
 ex:ByteArray->Int->List ε->ε
 st:ByteArray->List ByteArray->ε->List τ->List τ->Int->τ
variable (M:Mach σ)
def KS (s:σ):PR σ α:=.pan (M.pos s)
def qC (t:ByteArray) (s:σ):PR σ Bool:=bif jb (M.tx s) t then (M.adv s).bind fun _ s'=>.ret true s' else .ret false s
def qN (t:ByteArray) (s:σ):PR σ Unit:=(qC M t s).bind fun c s'=>bif c then .ret () s' else KS M s'
def qD (ok:Bool) (s:σ):PR σ ByteArray:=bif ok then (M.adv s).bind fun _ s'=>.ret (M.tx s) s' else KS M s
def yw (most:Int) (s:σ):PR σ Int :=
 match jt (M.tx s) with
 | none=>.stuck
 | some (n,ok)=>(qD M (bif ok then le n most else false) s).bind fun _ s'=>.ret n s'
def ZY (s:σ):PR σ Int:=(qD M (zY (M.tx s)) s).bind fun _ s'=>.ret (JB (M.tx s)) s'
def kT (s:σ):PR σ ByteArray :=
 match jF (M.tx s) with
 | none=>.stuck
 | some c=>qD M c s
def k7:=bs [112,114,111,109,111,116,101]
def Q3:=bs [115,121,110,99,101,100]
def Q6:=bs [100,101,109,111,116,101]
def QZ:=bs [114,101,106,111,105,110]
def Jc:=bs [105,115,111,108,97,116,101]
def wUp:=bs [117,112]
def YS:=bs [100,111,119,110]
def yh:=bs [99,111,110,110,101,99,116]
def yk:=bs [100,105,115,99,111,110,110,101,99,116]
def kj:=bs [102,97,105,108,111,118,101,114]
def QH:=bs [114,101,115,111,108,118,101]
def O6:=bs [110,111,110,101]
def qx (w:ByteArray):Nat :=
 bif (jb w k7||jb w Q3) then 1 else bif jb w Q6 then 2 else bif jb w QZ then 3
  else bif (jb w Jc||(jb w wUp||(jb w YS||(jb w yh||(jb w yk||(jb w kj||jb w QH)))))) then 4 else 0
def qu:Nat->List Int
 | 1=>[0,1]
 | 2=>[0,1,2]
 | 3=>[0,1,0]
 | 4=>[0]
 | _=>[]
def qn (kind:Int) (w:ByteArray):Bool:=bif kind==1 then nmO (jt w) else bif kind==2 then (bif zY w then true else jb w O6) else zY w
def J5 (kind:Int) (s:σ):PR σ ByteArray:=bif nmD (jt (M.tx s)) then qD M (qn kind (M.tx s)) s else .stuck
def zU:List Int->σ->PR σ (List ByteArray)
 | [],s=>.ret [] s
 | k::r,s=>(J5 M k s).bind fun w s1=>(zU r s1).bind fun l s2=>.ret (w::l) s2
def zH (s:σ):PR σ (List ByteArray) :=
 (qD M (!(Nat.beq (qx (M.tx s)) 0)) s).bind fun w s1=>(zU M (qu (qx (M.tx s))) s1).bind fun l s2=>.ret (w::l) s2
def wOr:=bs [111,114]
def z8:=bs [97,110,100]
def jO:=bs [110,111,116]
def wEq:=bs [61]
def wLt:=bs [60]
def wGt:=bs [62]
def zZ:=bs [43]
def qJ:=bs [45]
def qK:=bs [40]
def zr:=bs [41]
def j8:=bs [110,117,109]
def jW:=bs [112,114,105,109,97,114,121]
def zg:=bs [115,105,116,101,115]
def qS:=bs [101,112,111,99,104]
def qe:=bs [97,112,112,108,105,101,100]
def zI:=bs [114,111,108,101]
def qU:=bs [97,108,105,118,101]
def qq:=bs [99,111,110,110,101,99,116,101,100]
variable (A:Alg ε τ)
def Ju (operand:σ->PR σ ε) (again:ε->σ->PR σ ε) (e:ε):List ByteArray->σ->PR σ ε
 | [],s=>.ret e s
 | o::r,s=>(qC M o s).bind fun c s1=>bif c then (operand s1).bind fun x s2=>again (A.ex o 0 [e,x]) s2 else Ju operand again e r s1
def y9 (ops:List ByteArray) (operand:σ->PR σ ε):Nat->ε->σ->PR σ ε
 | 0,_,_=>.stuck
 | k+1,e,s=>Ju M A operand (y9 ops operand k) e ops s
def Zv (expr:σ->PR σ ε) (s:σ):PR σ ε :=
 bif (jb (M.tx s) jW||jb (M.tx s) zg) then (M.adv s).bind fun _ s1=>.ret (A.ex (M.tx s) 0 []) s1
 else bif (jb (M.tx s) qS||(jb (M.tx s) qe||(jb (M.tx s) zI||(jb (M.tx s) qU||jb (M.tx s) qq)))) then (M.adv s).bind fun _ s1=>(ZY M s1).bind fun n s2=>.ret (A.ex (M.tx s) n []) s2
 else bif jb (M.tx s) qK then (M.adv s).bind fun _ s1=>(expr s1).bind fun e s2=>(qN M zr s2).bind fun _ s3=>.ret e s3
 else (yw M 1073741824 s).bind fun n s1=>.ret (A.ex j8 n []) s1
def Zm (expr:σ->PR σ ε) (k:Nat) (s:σ):PR σ ε:=(Zv M A expr s).bind fun e s1=>y9 M A [zZ,qJ] (Zv M A expr) k e s1
def Jx (one expr:σ->PR σ ε) (k:Nat) (s:σ):PR σ ε :=
 (qC M jO s).bind fun c s1=>bif c then (one s1).bind fun e s2=>.ret (A.ex jO 0 [e]) s2
  else (Zm M A expr k s1).bind fun e s2=>Ju M A (Zm M A expr k) (fun x s3=>.ret x s3) e [wEq,wLt,wGt] s2
def QE (one expr:σ->PR σ ε) (k:Nat) (s:σ):PR σ ε:=(Jx M A one expr k s).bind fun e s1=>y9 M A [z8] (Jx M A one expr k) k e s1
def Z0 (one expr:σ->PR σ ε) (k:Nat) (s:σ):PR σ ε:=(QE M A one expr k s).bind fun e s1=>y9 M A [wOr] (QE M A one expr k) k e s1
def exs (K:Nat):Nat->(σ->PR σ ε) × (σ->PR σ ε)
 | 0=>(fun _=>.stuck,fun _=>.stuck)
 | d+1=>(Jx M A (exs K d).1 (exs K d).2 K,Z0 M A (exs K d).1 (exs K d).2 K)
def wDo:=bs [100,111]
def ar:=bs [117,110,100,111]
def wIf:=bs [105,102]
def yc:=bs [101,108,115,101]
def jK:=bs [114,101,112,101,97,116]
def jT:=bs [114,101,113,117,105,114,101]
def z6:=bs [115,97,121]
def ql:=bs [59]
def JR:=bs [123]
def yD:=bs [125]
def kB:=bs [114,117,110,98,111,111,107]
def FZ:ε:=A.ex (bs []) 0 []
def ye:Nat->σ->PR σ (List ByteArray)
 | 0,_=>.stuck
 | k+1,s=>(qC M ql s).bind fun c s1=>bif c then .ret [] s1 else (kT M s1).bind fun w s2=>(ye k s2).bind fun l s3=>.ret (w::l) s3
def zW (st:σ->PR σ τ):Nat->σ->PR σ (List τ)
 | 0,_=>.stuck
 | k+1,s=>(qC M yD s).bind fun c s1=>bif c then .ret [] s1 else (st s1).bind fun x s2=>(zW st k s2).bind fun l s3=>.ret (x::l) s3
def Yk (st:σ->PR σ τ) (k:Nat) (s:σ):PR σ (List τ):=(qN M JR s).bind fun _ s1=>zW M st k s1
def qO (expr:σ->PR σ ε) (block:σ->PR σ (List τ)) (k:Nat) (s:σ):PR σ τ :=
 bif jb (M.tx s) wDo then (M.adv s).bind fun _ s1=>(zH M s1).bind fun w s2=>(qC M ar s2).bind fun c s3 =>
  bif c then (block s3).bind fun l s4=>(qN M ql s4).bind fun _ s5=>.ret (A.st (M.tx s) w (FZ A) l [] (M.pos s)) s5
  else (qN M ql s3).bind fun _ s4=>.ret (A.st (M.tx s) w (FZ A) [] [] (M.pos s)) s4
 else bif jb (M.tx s) wIf then (M.adv s).bind fun _ s1=>(expr s1).bind fun e s2=>(block s2).bind fun l s3=>(qC M yc s3).bind fun c s4 =>
  bif c then (block s4).bind fun r s5=>.ret (A.st (M.tx s) [] e l r (M.pos s)) s5 else .ret (A.st (M.tx s) [] e l [] (M.pos s)) s4
 else bif jb (M.tx s) jK then (M.adv s).bind fun _ s1=>(yw M 99 s1).bind fun n s2=>(block s2).bind fun l s3=>.ret (A.st (M.tx s) [] (A.ex j8 n []) l [] (M.pos s)) s3
 else bif jb (M.tx s) jT then (M.adv s).bind fun _ s1=>(expr s1).bind fun e s2=>(qN M ql s2).bind fun _ s3=>.ret (A.st (M.tx s) [] e [] [] (M.pos s)) s3
 else bif jb (M.tx s) z6 then (M.adv s).bind fun _ s1=>(kT M s1).bind fun w s2=>(ye M k s2).bind fun l s3=>.ret (A.st (M.tx s) (w::l) (FZ A) [] [] (M.pos s)) s3
 else KS M s
def sts (K:Nat):Nat->(σ->PR σ τ) × (σ->PR σ (List τ))
 | 0=>(fun _=>.stuck,fun _=>.stuck)
 | d+1=>(qO M A (exs M A K K).2 (sts K d).2 K,Yk M (qO M A (exs M A K K).2 (sts K d).2 K) K)
end Go.Proofs.YtiefjlcakpdfeaaGreatDoor
namespace Go.Proofs.YtiefjlcakpdfeaaGreatDoor
open Go Go.Sx Go.RowKit Rb
set_option maxRecDepth 100000
noncomputable abbrev HOa:Hd:=⟨Ro.H37.pc,Ro.H15.hc,[],Ro.H37.mc⟩
theorem hOa:HdOk Tryz.prog HOa:=⟨⟨Ro.h37.pc.pc,Ro.h15.pc.hc,Ro.h37.pc.mc⟩,Ro.h37.lh⟩
noncomputable abbrev HOb:Hd:=⟨rK::(53,oG G86)::(142,nG jdF)::(145,nG jgL)::HOa.pc,HOa.hc,[],(37,ncG Ro.Fo.Gcop)::HOa.mc⟩
theorem hOb:HdOk Tryz.prog HOb:=HdOk.rK ((((hOa.mcCons Ro.Fo.nCop.mc).tcCons jpg).tcCons jot).pcCons p86)
def fK (f:Nat):Nat × (List A1->Tree AV):=(f,fun _=>.fail)
theorem HdOk.fK {P:Program} {pc hc lh mc} (h:HdOk P ⟨pc,hc,lh,mc⟩) (f:Nat):HdOk P ⟨fK f::pc,hc,lh,mc⟩:=h.tcCons (f:=f) (fun _ _ h=>by simp [Tree.sel] at h)
noncomputable abbrev HOp:Hd:=⟨fK 132::fK 147::fK 150::HOb.pc,HOb.hc,[],HOb.mc⟩
theorem hOp:HdOk Tryz.prog HOp:=HdOk.fK (HdOk.fK (HdOk.fK hOb 150) 147) 132
def wd (σ:Val) (i:Nat):ByteArray:=((σ.at i).at 0).S []
def Tm (k:Int):Tree AV:=.leaf (.tup [.c .nils,.c (.int .i64 k)])
noncomputable def Tt (n:Nat) (ρ:Val):Tree AV:=.need (dec (Ro.fewS ⟨n,ρ⟩)) (.br (Ro.ckE ⟨n,ρ⟩ != 0) (Tm (Ro.ckE ⟨n,ρ⟩)) (.leaf (.tup [.c (.sl Ro.siSh n ρ),.c (.int .i64 0)])))
noncomputable def Nq (n:Nat) (ρ:Val) (t:Int) (k:Int) (x:Ro.Sit):Tree AV :=
 .br (k==0) (.need (jc t n) (.br (k != 0) (Tm k) (Tt n (ρ.upds t.toNat 0 (Ro.Fo.cs (Ro.Fo.okT k x)))))) (.br (k != 0) (Tm k) (Tt n ρ))
noncomputable def Bl (n:Nat) (ρ:Val) (m:Nat) (t:Int) (f:Nat) (b:Bool):Tree AV:=.need (jc 0 m) (.need (jc t n) (.br false (Tm 0) (Tt n (ρ.upds t.toNat f [.bool b]))))
noncomputable def jgS (n:Nat) (ρ:Val) (m:Nat) (σ:Val):Tree AV :=
 let t:=JB (wd σ 1)
 let x:=Ro.siAt (ρ.at t.toNat)
 let w:=wd σ 0
 let y:=nmV (jt (QN σ 2))
 let num:=jc 2 m&&nmD (jt (QN σ 2))
 let src:=F8 ρ σ 3
 let sm:=dec (Ro.small x.n)
 .need (jc 1 m) (.need (dec (Ro.Fo.smallS ⟨n,ρ⟩)) (.need (jc 0 m)
  (.br (jb w k7) (.need (jc t n) (.need num (.need sm (Nq n ρ t (Ro.proE x y) (Ro.pro x y)))))
  (.br (jb w Jc) (.need (jc t n) (.need sm (Nq n ρ t (Ro.isoE x) (Ro.iso x))))
  (.br (jb w Q6) (.need (jc t n) (.need num (.need (LK n m σ 3) (.need sm (Nq n ρ t (Ro.demoE x y src) (Ro.demo x y src))))))
  (.br (jb w QZ) (.need (jc t n) (.need num (.need (LK n m σ 3) (.need sm (Nq n ρ t (Ro.rejE x y src) (Ro.rej x y src))))))
  (.br (jb w Q3) (.need (jc t n) (.need num .fail))
  (.br (jb w wUp) (Bl n ρ m t 6 (jb w wUp))
  (.br (jb w YS) (Bl n ρ m t 6 (jb w wUp))
  (.br (jb w yh) (Bl n ρ m t 7 (jb w yh))
  (.br (jb w yk) (Bl n ρ m t 7 (jb w yh))
  (.br (jb w kj) .fail (.br (jb w QH) .fail .fail)))))))))))))
theorem jjP (n:Nat) (ρ:Val) (m:Nat) (σ:Val):qf Tryz.prog HOp 10 117 [.c (.sl Ro.siSh n ρ),.c (.sl [.str] m σ)]=jgS n ρ m σ:=by kernel_rfl
def jbW (p:Nat->Bool):Nat->Bool
 | 0=>true
 | n+1=>jbW p n&&p n
theorem IX {p:Nat->Bool}:∀ {n:Nat},jbW p n=true->∀ i,i<n->p i=true
 | 0,_,i,hi=>by omega
 | n + 1, h, i, hi => by
   simp only [jbW,aTq] at h;rcases Nat.lt_or_ge i n with h1 | h1
   ·exact IX h.1 i h1
   ·obtain rfl:i=n:=by omega
    exact h.2
def yQ (n:Nat) (ρ:Val):Bool:=Nat.ble n 1000&&jbW (fun i=>Nat.ble (((ρ.at i).at 4).L []) 100000) n
theorem KF {n:Nat} {ρ:Val} (h:yQ n ρ=true):Ro.Fo.smallS ⟨n,ρ⟩:=by
 unfold yQ at h;rw [aTq] at h;exact ⟨Nat.le_of_ble_eq_true h.1,fun i hi=>Nat.le_of_ble_eq_true (IX h.2 i hi)⟩
theorem G0 {n:Nat} {ρ:Val} (h:yQ n ρ=true):dec (Ro.fewS ⟨n,ρ⟩)=true:=jv.2 (Ro.Fo.small_fewS (KF h))
abbrev OR:=Option (Int × Val)
def jba (n:Nat) (ρ:Val):OR:=bif yQ n ρ then some (Ro.ckE ⟨n,ρ⟩,ρ) else none
def Nf (n:Nat) (ρ:Val) (t:Int) (k:Int) (x:Ro.Sit):OR:=bif k==0 then (bif jc t n then jba n (ρ.upds t.toNat 0 (Ro.Fo.cs (Ro.Fo.okT k x))) else none) else some (k,ρ)
def UJ (n:Nat) (ρ:Val) (t:Int) (f:Nat) (b:Bool):OR:=bif jc t n then jba n (ρ.upds t.toNat f [.bool b]) else none
def nd {α:Type} (c:Bool) (x:Option α):Option α:=bif c then x else none
def Kg (fo:Nat->Val->Int->OR) (n:Nat) (ρ:Val) (m:Nat) (σ:Val):OR :=
 let t:=JB (wd σ 1)
 let x:=Ro.siAt (ρ.at t.toNat)
 let w:=wd σ 0
 let y:=nmV (jt (QN σ 2))
 let num:=jc 2 m&&nmD (jt (QN σ 2))
 let src:=F8 ρ σ 3
 nd (jc 1 m) (nd (yQ n ρ) (nd (jc 0 m)
  (bif jb w k7 then nd (jc t n) (nd num (Nf n ρ t (Ro.proE x y) (Ro.pro x y)))
  else bif jb w Jc then nd (jc t n) (Nf n ρ t (Ro.isoE x) (Ro.iso x))
  else bif jb w Q6 then nd (jc t n) (nd num (nd (LK n m σ 3) (Nf n ρ t (Ro.demoE x y src) (Ro.demo x y src))))
  else bif jb w QZ then nd (jc t n) (nd num (nd (LK n m σ 3) (Nf n ρ t (Ro.rejE x y src) (Ro.rej x y src))))
  else bif jb w Q3 then none
  else bif jb w wUp then UJ n ρ t 6 (jb w wUp)
  else bif jb w YS then UJ n ρ t 6 (jb w wUp)
  else bif jb w yh then UJ n ρ t 7 (jb w yh)
  else bif jb w yk then UJ n ρ t 7 (jb w yh)
  else bif jb w kj then fo n ρ t
  else none)))
def Na (n:Nat) (x:Int × Val):AV:=.tup [.c (.sl Ro.siSh (bif x.1==0 then n else 0) x.2),.c (.int .i64 x.1)]
def SayO (n:Nat) (T:Tree AV):OR->Prop
 | none=>True
 | some x=>T.All (fun z=>leA z (Na n x))
theorem SayO.none {n:Nat} {T:Tree AV}:SayO n T none:=trivial
theorem SayO.cond {n:Nat} {c:Bool} {T E:Tree AV} {a b:OR} (h1:c=true->SayO n T a) (h2:c=false->SayO n E b):SayO n (.br c T E) (bif c then a else b):=by
 cases c with
 | true =>
   have:=h1 rfl
   show SayO n _ a;cases a with
  | none=>exact trivial
  | some y=>exact ⟨fun _=>this,(fun h=>by cases h)⟩
 | false =>
   have:=h2 rfl
   show SayO n _ b;cases b with
  | none=>exact trivial
  | some y=>exact ⟨(fun h=>by cases h),fun _=>this⟩
theorem SayO.nd {n:Nat} {c d:Bool} {T:Tree AV} {a:OR} (h:c=true->d=true) (h1:c=true->SayO n T a):SayO n (.need d T) (Go.Proofs.YtiefjlcakpdfeaaGreatDoor.nd c a):=by
 cases c with
 | false=>exact trivial
 | true =>
   have:=h1 rfl
   show SayO n _ a;cases a with
  | none=>exact trivial
  | some y=>exact ⟨h rfl,this⟩
theorem SayO.need {n:Nat} {d:Bool} {T:Tree AV} {a:OR} (h:d=true) (h1:SayO n T a):SayO n (.need d T) a:=by
 cases a with
 | none=>exact trivial
 | some y=>exact ⟨h,h1⟩
theorem ag {n:Nat} {k:Int} {ρ:Val} (hk:(k==0)=false):leA (.tup [.c .nils,.c (.int .i64 k)]) (Na n (k,ρ)):=by
 unfold Na;simp only [hk,cond_false];exact ZH (.cons (.c fun _ _ _ h=>by cases h;exact .slnil) (.cons (.c leC.refl) .nil))
theorem jf4 {n:Nat} {k:Int} {ρ:Val} (hk:(k==0)=false):SayO n (Tm k) (some (k,ρ)):=ag hk
theorem RA {n:Nat} {ρ:Val}:SayO n (Tt n ρ) (jba n ρ):=by
 unfold Tt jba;refine SayO.nd G0 fun _ => ?_;cases hk:(Ro.ckE ⟨n,ρ⟩==0) with
 | false =>
   have h1:(Ro.ckE ⟨n,ρ⟩ != 0)=true:=by simp [bne,hk]
   rw [h1];exact ⟨fun _=>ag hk,(fun h=>by cases h)⟩
 | true =>
   have h1:(Ro.ckE ⟨n,ρ⟩ != 0)=false:=by simp [bne,hk]
   rw [h1];refine ⟨(fun h=>by cases h),fun _ => ?_⟩
   unfold Na;simp only [hk,cond_true];have h0:Ro.ckE ⟨n,ρ⟩=0:=by simpa using hk
   rw [h0];exact leA.refl
theorem WK {n:Nat} {ρ:Val} {t k:Int} {x:Ro.Sit}:SayO n (Nq n ρ t k x) (Nf n ρ t k x):=by
 unfold Nq Nf;refine SayO.cond (fun hk => ?_) fun hk => ?_
 ·refine SayO.nd id fun _ => ?_;have h1:(k != 0)=false:=by simp [bne,hk]
  rw [h1];exact SayO.cond (c:=false) (a:=none) (fun h=>by cases h) fun _=>RA
 ·have h1:(k != 0)=true:=by simp [bne,hk]
  rw [h1];exact SayO.cond (c:=true) (b:=none) (fun _=>jf4 hk) (fun h=>by cases h)
theorem KN {n m:Nat} {ρ:Val} {t:Int} {f:Nat} {b:Bool} (hm:jc 0 m=true):SayO n (Bl n ρ m t f b) (UJ n ρ t f b):=by
 unfold Bl UJ;refine SayO.need hm (SayO.nd id fun _=>SayO.cond (c:=false) (a:=none) (fun h=>by cases h) fun _=>RA)
theorem WQ {n:Nat} {ρ:Val} {t:Int} (h:yQ n ρ=true) (ht:jc t n=true):dec (Ro.small (Ro.siAt (ρ.at t.toNat)).n)=true:=by
 have hs:=KF h;have hn:n<=1000:=hs.1;unfold jc le lt ja at ht;simp at ht;exact jv.2 (hs.2 t.toNat (by simp only;omega))
def jar:Nat->Val->Int->OR:=fun _ _ _=>none
theorem jd8 {n:Nat} {ρ:Val} {m:Nat} {σ:Val}:SayO n (jgS n ρ m σ) (Kg jar n ρ m σ):=by
 unfold jgS Kg;refine SayO.nd id fun _=>SayO.nd (fun h=>jv.2 (KF h)) fun hs=>SayO.nd id fun hm => ?_;refine SayO.cond (fun _=>SayO.nd id fun ht=>SayO.nd id fun _=>SayO.need (WQ hs ht) WK) fun _ => ?_;refine SayO.cond (fun _=>SayO.nd id fun ht=>SayO.need (WQ hs ht) WK) fun _ => ?_;refine SayO.cond (fun _=>SayO.nd id fun ht=>SayO.nd id fun _=>SayO.nd id fun _=>SayO.need (WQ hs ht) WK) fun _ => ?_;refine SayO.cond (fun _=>SayO.nd id fun ht=>SayO.nd id fun _=>SayO.nd id fun _=>SayO.need (WQ hs ht) WK) fun _ => ?_;refine SayO.cond (fun _=>SayO.none) fun _ => ?_;refine SayO.cond (fun _=>KN hm) fun _ => ?_;refine SayO.cond (fun _=>KN hm) fun _ => ?_;refine SayO.cond (fun _=>KN hm) fun _ => ?_;refine SayO.cond (fun _=>KN hm) fun _ => ?_;exact SayO.cond (fun _=>SayO.none) fun _=>SayO.none
def orB:OR->Bool | some _=>true | none=>false
def orV:OR->Int × Val | some x=>x | none=>(0,.zero)
abbrev OpF:=Nat->Val->Nat->Val->OR
def LR (O:OpF):List A1->Option (Bool × AV)
 | [.c (.sl es n ρ),.c (.sl [.str] m σ)]=>if shEq.shsEq es Ro.siSh then some (orB (O n ρ m σ),Na n (orV (O n ρ m σ))) else none
 | _=>none
theorem jce {O:OpF} {args:List A1} {r:AV} (h:LR O args=some (true,r)):∃ n ρ m σ x,args=[.c (.sl Ro.siSh n ρ),.c (.sl [.str] m σ)]∧O n ρ m σ=some x∧r=Na n x:=by
 unfold LR at h;split at h
 ·rename_i es n ρ m σ;split at h
  ·rename_i hs;rw [jm hs];simp only [sIq,pIq] at h;cases ho:O n ρ m σ with
   | none=>rw [ho] at h;cases h.1
   | some x=>rw [ho] at h;exact ⟨n,ρ,m,σ,x,rfl,ho,h.2.symm⟩
  ·cases h
 ·cases h
theorem jov {args:List A1} {r:AV} (h:LR (Kg jar) args=some (true,r)):(qf Tryz.prog HOp 10 117 args).All (fun x=>leA x r):=by
 obtain ⟨n,ρ,m,σ,x,e1,h1,e2⟩:=jce h;rw [e1,e2,jjP]
 have:=jd8 (n:=n) (ρ:=ρ) (m:=m) (σ:=σ)
 rw [h1] at this;exact this
theorem jos:jo Tryz.prog 117 (nG (LR (Kg jar))):=by
 refine zF (H:=HOp) hOp 10 117 ?_;intro args r h;exact jov h
def MP (s:ByteArray):Mach PS:=⟨PS.tx,PS.pos,Jd s⟩
def jfK (b:Bool):AV:=.one (.c (.bool b))
def encS (b:ByteArray):AV:=.one (.c (.str b))
def Hk (n:Int):AV:=.one (.c (.int .i64 n))
def qk (a:Int):Tree (Out × List CV):=.leaf (.pan (Qg a),Jz)
def QG (a:AV) (s:ByteArray) (p:PS):Tree (Out × List CV):=.leaf (.ret a,qM s p)
theorem Tells.bind {α β:Type} {d:α} {x:PR PS α} {K:α->PS->Tree (Out × List CV)} {enc:β->AV} {s:ByteArray} {f:α->PS->PR PS β} (h:∀ v p,Tells (K v p) enc s (f v p)):Tells (nxT d x K qk) enc s (x.bind f):=by
 cases x with
 | stuck=>exact trivial
 | pan a=>exact Tells.of_pan rfl
 | ret v p =>
   have:=h v p
   show Tells _ enc s (f v p);cases hf:f v p with
  | stuck=>exact trivial
  | ret w q=>rw [hf] at this;exact this
  | pan a=>rw [hf] at this;exact this
theorem Tells.cond {β:Type} {c:Bool} {A B:Tree (Out × List CV)} {enc:β->AV} {s:ByteArray} {x y:PR PS β} (h1:Tells A enc s x) (h2:Tells B enc s y):Tells (.br c A B) enc s (bif c then x else y):=by
 cases c
 ·show Tells _ enc s y;cases y with
  | stuck=>exact trivial
  | ret w q=>exact h2
  | pan a=>exact h2
 ·show Tells _ enc s x;cases x with
  | stuck=>exact trivial
  | ret w q=>exact h1
  | pan a=>exact h1
theorem Tells.notc {β:Type} {c:Bool} {A B:Tree (Out × List CV)} {enc:β->AV} {s:ByteArray} {x y:PR PS β} (h1:Tells A enc s x) (h2:Tells B enc s y):Tells (.br (!c) B A) enc s (bif c then x else y):=by
 cases c
 ·show Tells _ enc s y;cases y with
  | stuck=>exact trivial
  | ret w q=>exact h2
  | pan a=>exact h2
 ·show Tells _ enc s x;cases x with
  | stuck=>exact trivial
  | ret w q=>exact h1
  | pan a=>exact h1
theorem Tells.ret {β:Type} {enc:β->AV} {s:ByteArray} {v:β} {p:PS}:Tells (QG (enc v) s p) enc s (.ret v p):=Tells.of_ret rfl
theorem Tells.pan {β:Type} {enc:β->AV} {s:ByteArray} {a:Int}:Tells (qk a) enc s (.pan a:PR PS β):=Tells.of_pan rfl
theorem Tells.need {β:Type} {c:Bool} {A:Tree (Out × List CV)} {enc:β->AV} {s:ByteArray} {x:PR PS β} (h:c=true->Tells A enc s x):Tells (.need c A) enc s (bif c then x else .stuck):=by
 cases c
 ·exact trivial
 ·have:=h rfl
  show Tells _ enc s x;cases x with
  | stuck=>exact trivial
  | ret w q=>exact this
  | pan a=>exact this
def spU {α:Type} (F:ByteArray->PS->PR PS α) (rest:List A1) (s:ByteArray) (p:PS):PR PS α:=match rest with | []=>F s p | _=>.stuck
def spW {α:Type} (F:ByteArray->ByteArray->PS->PR PS α) (rest:List A1) (s:ByteArray) (p:PS):PR PS α:=match rest with | [.c (.str w)]=>F w s p | _=>.stuck
def spB {α:Type} (F:Bool->ByteArray->PS->PR PS α) (rest:List A1) (s:ByteArray) (p:PS):PR PS α:=match rest with | [.c (.bool b)]=>F b s p | _=>.stuck
def spI {α:Type} (F:Int->ByteArray->PS->PR PS α) (rest:List A1) (s:ByteArray) (p:PS):PR PS α:=match rest with | [.c (.int .i64 n)]=>F n s p | _=>.stuck
section
variable {P:Program} {α:Type} {H:Hd} {X:HdP} {d:α} {enc:α->AV}
theorem V5 (hH:HdOk P H) (hX:XOk P X) (k f:Nat) {F:ByteArray->PS->PR PS α} (h:∀ s n t a,Tells (kC P H X k f 70 [] [.str s,.int .i64 n,.str t,.int .i64 a]) enc s (F s ⟨n,t,a⟩)):jw P f (localG 70 (uOf d enc (spU F))):=Bh hH hX k f fun rest s n t a=>by
 unfold spU;split
 ·exact h s n t a
 ·exact trivial
theorem jmO (hH:HdOk P H) (hX:XOk P X) (k f:Nat) {F:ByteArray->ByteArray->PS->PR PS α} (h:∀ w s n t a,Tells (kC P H X k f 70 [.c (.str w)] [.str s,.int .i64 n,.str t,.int .i64 a]) enc s (F w s ⟨n,t,a⟩)):jw P f (localG 70 (uOf d enc (spW F))):=Bh hH hX k f fun rest s n t a=>by
 unfold spW;split
 ·exact h _ s n t a
 ·exact trivial
theorem jor (hH:HdOk P H) (hX:XOk P X) (k f:Nat) {F:Bool->ByteArray->PS->PR PS α} (h:∀ w s n t a,Tells (kC P H X k f 70 [.c (.bool w)] [.str s,.int .i64 n,.str t,.int .i64 a]) enc s (F w s ⟨n,t,a⟩)):jw P f (localG 70 (uOf d enc (spB F))):=Bh hH hX k f fun rest s n t a=>by
 unfold spB;split
 ·exact h _ s n t a
 ·exact trivial
theorem jok (hH:HdOk P H) (hX:XOk P X) (k f:Nat) {F:Int->ByteArray->PS->PR PS α} (h:∀ w s n t a,Tells (kC P H X k f 70 [.c (.int .i64 w)] [.str s,.int .i64 n,.str t,.int .i64 a]) enc s (F w s ⟨n,t,a⟩)):jw P f (localG 70 (uOf d enc (spI F))):=Bh hH hX k f fun rest s n t a=>by
 unfold spI;split
 ·exact h _ s n t a
 ·exact trivial
end
noncomputable abbrev H31:Hd:=⟨[pF 27,pF 28,pF 29,pF 32,pF 52,pF 84,pF 185,(53,oG G86)],[(54,nG G87),(113,nG FF)],[],[]⟩
theorem h31:HdOk Tryz.prog H31:=(((((((((HdOk.nil.ucCons jf0).ucCons p87).pcCons p86).pF 185).pF 84).pF 52).pF 32).pF 29).pF 28).pF 27
abbrev X31:HdP:=⟨[(27,localG 70 (uOf () Qh L1))],[],[],[],[],0,[27]⟩
theorem x31:XOk Tryz.prog X31:=XOk.nil.loCons jeq (LocFn.localG _ _)
def t85 (s w:ByteArray) (p:PS):Tree (Out × List CV) :=
 .br (!jb p.tx w) (QG (jfK false) s p) (nxT () (Jd s p) (fun _ p1=>QG (jfK true) s p1) qk)
theorem jku (s t w:ByteArray) (n a:Int):kC Tryz.prog H31 X31 10 52 70 [.c (.str w)] [.str s,.int .i64 n,.str t,.int .i64 a]=t85 s w ⟨n,t,a⟩:=by kernel_rfl
abbrev u85:=uOf false jfK (spW fun w s p=>qC (MP s) w p)
theorem jf8:jw Tryz.prog 52 (localG 70 u85):=jmO h31 x31 10 52 fun w s n t a=>by
 rw [jku];exact Tells.notc (Tells.bind fun _ p=>Tells.ret) Tells.ret
def t33 (ok:Bool) (s:ByteArray) (p:PS):Tree (Out × List CV) :=
 .br (!ok) (qk p.pos) (nxT () (Jd s p) (fun _ p1=>QG (encS p.tx) s p1) qk)
theorem jlG (s t:ByteArray) (ok:Bool) (n a:Int):kC Tryz.prog H31 X31 10 29 70 [.c (.bool ok)] [.str s,.int .i64 n,.str t,.int .i64 a]=t33 ok s ⟨n,t,a⟩:=by kernel_rfl
abbrev u33:=uOf (bs []) encS (spB fun ok s p=>qD (MP s) ok p)
theorem jdT:jw Tryz.prog 29 (localG 70 u33):=jor h31 x31 10 29 fun ok s n t a=>by
 rw [jlG];exact Tells.notc (Tells.bind fun _ p=>Tells.ret) Tells.pan
abbrev X33:HdP:=⟨[(29,localG 70 u33),(52,localG 70 u85),(27,localG 70 (uOf () Qh L1))],[],[],[],[],0,[29,52,27]⟩
theorem x33:XOk Tryz.prog X33:=(x31.loCons jf8 (LocFn.localG _ _)).loCons jdT (LocFn.localG _ _)
def t32 (s w:ByteArray) (p:PS):Tree (Out × List CV) :=
 nxT false (qC (MP s) w p) (fun c p1=>.br (!c) (qk p1.pos) (QG (Qh ()) s p1)) qk
theorem jkk (s t w:ByteArray) (n a:Int):kC Tryz.prog H31 X33 10 28 70 [.c (.str w)] [.str s,.int .i64 n,.str t,.int .i64 a]=t32 s w ⟨n,t,a⟩:=by kernel_rfl
abbrev u32:=uOf () Qh (spW fun w s p=>qN (MP s) w p)
theorem jeQ:jw Tryz.prog 28 (localG 70 u32):=jmO h31 x33 10 28 fun w s n t a=>by
 rw [jkk];exact Tells.bind fun c p=>Tells.notc Tells.ret Tells.pan
def jmR (most:Int) (s:ByteArray) (p:PS):Tree (Out × List CV) :=
 .need (nmD (jt p.tx)) (nxT (bs []) (qD (MP s) (bif nmO (jt p.tx) then le (nmV (jt p.tx)) most else false) p) (fun _ p1=>QG (Hk (nmV (jt p.tx))) s p1) qk)
theorem jiW (s t:ByteArray) (most n a:Int):kC Tryz.prog H31 X33 10 84 70 [.c (.int .i64 most)] [.str s,.int .i64 n,.str t,.int .i64 a]=jmR most s ⟨n,t,a⟩:=by kernel_rfl
abbrev jk6:=uOf 0 Hk (spI fun most s p=>yw (MP s) most p)
theorem jgZ:jw Tryz.prog 84 (localG 70 jk6):=jok h31 x33 10 84 fun most s n t a=>by
 rw [jiW];unfold jmR yw;show Tells _ _ _ (match jt t with | none=>.stuck | some (n,ok)=>_)
 simp only;cases jt t with
 | none=>exact trivial
 | some r =>
   obtain ⟨v,ok⟩:=r;exact Tells.need (c:=true) fun _=>Tells.bind fun _ p=>Tells.ret
def jpl (s:ByteArray) (p:PS):Tree (Out × List CV) :=
 nxT (bs []) (qD (MP s) (zY p.tx) p) (fun _ p1=>QG (Hk (JB p.tx)) s p1) qk
theorem jiJ (s t:ByteArray) (n a:Int):kC Tryz.prog H31 X33 10 185 70 [] [.str s,.int .i64 n,.str t,.int .i64 a]=jpl s ⟨n,t,a⟩:=by kernel_rfl
abbrev jk0:=uOf 0 Hk (spU fun s p=>ZY (MP s) p)
theorem jg1:jw Tryz.prog 185 (localG 70 jk0):=V5 h31 x33 10 185 fun s n t a=>by
 rw [jiJ];exact Tells.bind fun _ p=>Tells.ret
def lK:Nat × (List A1->Tree AV):=(4294967292,fun _=>.fail)
theorem HdOk.lK {P:Program} {pc hc lh mc} (h:HdOk P ⟨pc,hc,lh,mc⟩):HdOk P ⟨lK::pc,hc,lh,mc⟩:=h.tcCons (f:=4294967292) (fun _ _ h=>by simp [Tree.sel] at h)
noncomputable abbrev HL0:Hd:=⟨[lK],[],[],[]⟩
theorem hL0:HdOk Tryz.prog HL0:=HdOk.lK HdOk.nil
def Zg (l:List Int):Val:=Val.ofFlat 1 (l.map (.int .i64))
def FU (w:ByteArray):AV:=.tup [.c (.sl [.int .i64] (qu (qx w)).length (Zg (qu (qx w)))),.c (.bool (!(Nat.beq (qx w) 0)))]
def jbh:List A1->Option (Bool × AV)
 | [.c (.str w)]=>some (true,FU w)
 | _=>none
def jgw (w:ByteArray):Tree AV :=
 let L:=fun l:List Int=>Tree.leaf (AV.tup [.c (.sl [.int .i64] l.length (Zg l)),.c (.bool true)])
 let A:=L [0,1]
 let Z:=Tree.leaf (AV.tup [.c .nils,.c (.bool false)])
 let B:=L [0]
 let R4:=.br (jb w Jc) (.br (jb w Jc) B Z) (.br (jb w wUp) (.br (jb w wUp) B Z) (.br (jb w YS) (.br (jb w YS) B Z) (.br (jb w yh) (.br (jb w yh) B Z)
  (.br (jb w yk) (.br (jb w yk) B Z) (.br (jb w kj) (.br (jb w kj) B Z) (.br (jb w QH) B Z))))))
 let R1:=.br (jb w Q6) (L [0,1,2]) (.br (jb w QZ) (L [0,1,0]) R4)
 .br (jb w k7) (.br (jb w k7) A R1) (.br (jb w Q3) A R1)
theorem jjk (w:ByteArray):qf Tryz.prog HL0 10 109 [.c (.str w)]=jgw w:=by kernel_rfl
theorem je4 {es:List Sh} {ρ:Val} {b:Bool}:leA (.tup [.c .nils,.c (.bool b)]) (.tup [.c (.sl es 0 ρ),.c (.bool b)]) :=
 ZH (.cons (.c fun _ _ _ h=>by cases h;exact .slnil) (.cons (.c leC.refl) .nil))
theorem jeI (w:ByteArray):(jgw w).All (fun x=>leA x (FU w)):=by
 unfold jgw FU qx;cases jb w k7 with
 | true=>exact jn rfl leA.refl
 | false =>
 cases jb w Q3 with
 | true=>exact jn rfl leA.refl
 | false =>
 cases jb w Q6 with
 | true=>exact jn rfl leA.refl
 | false =>
 cases jb w QZ with
 | true=>exact jn rfl leA.refl
 | false =>
 cases jb w Jc with
 | true=>exact jn rfl leA.refl
 | false =>
 cases jb w wUp with
 | true=>exact jn rfl leA.refl
 | false =>
 cases jb w YS with
 | true=>exact jn rfl leA.refl
 | false =>
 cases jb w yh with
 | true=>exact jn rfl leA.refl
 | false =>
 cases jb w yk with
 | true=>exact jn rfl leA.refl
 | false =>
 cases jb w kj with
 | true=>exact jn rfl leA.refl
 | false =>
 cases jb w QH with
 | true=>exact jn rfl leA.refl
 | false=>exact jn rfl je4
theorem jnc:jo Tryz.prog 109 (nG jbh):=by
 refine jV (H:=HL0) hL0 10 109 ?_;intro args r h;unfold jbh at h;split at h
 ·rename_i w;simp only [sIq,pIq,true_and] at h;subst h;exact ⟨_,jjk w,jeI w⟩
 ·cases h
noncomputable abbrev HO:Hd:=⟨[(53,oG G86)],[(113,nG FF)],[],[]⟩
theorem hO:HdOk Tryz.prog HO:=(HdOk.nil.ucCons jf0).pcCons p86
def jaI:List A1->Option (Bool × AV)
 | [.c (.int .i64 k),.c (.str w)]=>some (nmD (jt w),.one (.c (.bool (qn k w))))
 | _=>none
def jkK (k:Int) (w:ByteArray):Tree AV :=
 .need (nmD (jt w)) (.br (k==1) (.leaf (.one (.c (.bool (nmO (jt w)))))) (.br (k==2) (.leaf (.one (.c (.bool (bif zY w then true else jb w O6))))) (.leaf (.one (.c (.bool (zY w)))))))
theorem jiA (k:Int) (w:ByteArray):qf Tryz.prog HO 10 110 [.c (.int .i64 k),.c (.str w)]=jkK k w:=by kernel_rfl
theorem jl0:jo Tryz.prog 110 (nG jaI):=by
 refine jV (H:=HO) hO 10 110 ?_;intro args r h;unfold jaI at h;split at h
 ·rename_i k w;simp only [sIq,pIq] at h;obtain ⟨h1,rfl⟩:=h;refine ⟨_,jiA k w,?_⟩;unfold jkK qn;refine ⟨h1,?_⟩;cases (k==1) with
  | true=>exact jn rfl leA.refl
  | false=>cases (k==2)<;>exact jn rfl leA.refl
 ·cases h
noncomputable abbrev jmq:Hd:=⟨[pF 27,pF 28,pF 29,pF 32,pF 52,(53,oG G86)],[(109,nG jbh),(110,nG jaI)],[],[]⟩
theorem jpS:HdOk Tryz.prog jmq:=((((((((HdOk.nil.ucCons jl0).ucCons jnc).pcCons p86).pF 52).pF 32).pF 29).pF 28).pF 27)
abbrev jm1:HdP:=⟨[(29,localG 70 u33),(52,localG 70 u85),(27,localG 70 (uOf () Qh L1))],[],[],[],[],4,[29,52,27]⟩
theorem jou:XOk Tryz.prog jm1:=((XOk.nil.loCons jeq (LocFn.localG _ _)).loCons jf8 (LocFn.localG _ _)).loCons jdT (LocFn.localG _ _)
def Gu (l:List ByteArray):AV:=.one (.c (.sl [.str] l.length (zj l)))
def yA (w:ByteArray):Val:=Val.ofFlat 1 [.str w]
def Rc (s:ByteArray) (n:Nat) (ρ:Val):Nat->Nat->Nat->Val->PS->Tree (Out × List CV)
 | 0,_,_,_,_=>.fail
 | k + 1, j, m, σ, p => .br (lt (j : Int) (ja n)) (.need (jc (j : Int) n) (.need (nmD (jt p.tx)) (nxT (bs []) (qD (MP s) (qn (((ρ.at j).at 0).N []) p.tx) p) (fun w p1 => .need (Nat.ble ((m + 1) * 16) 140737488355328) (Rc s n ρ k (j + 1) (m + 1) (Val.cat m σ (yA w)) p1)) qk)))
   (.leaf (.ret (.one (.c (.sl [.str] m σ))),qM s p))
def jkx (s:ByteArray) (p:PS):Tree (Out × List CV) :=
 nxT (bs []) (qD (MP s) (!(Nat.beq (qx p.tx) 0)) p) (fun w p1=>Rc s (qu (qx p.tx)).length (Zg (qu (qx p.tx))) 4 0 1 (yA w) p1) qk
theorem jh8 (s t:ByteArray) (n a:Int):kC Tryz.prog jmq jm1 10 82 70 [] [.str s,.int .i64 n,.str t,.int .i64 a]=.need true (jkx s ⟨n,t,a⟩):=by kernel_rfl
theorem BN {α β:Type} (f:α->β):∀ (l:List α) (i:Nat),nth (l.map f) i=(nth l i).map f
 | [],_=>rfl
 | _::_,0=>rfl
 | _::l,i+1=>BN f l i
theorem JW (l:List ByteArray) (i:Nat) (w:ByteArray) (h:nth l i=some w):((zj l).at i).at 0=Val.ofC (.str w):=by
 show (match nth (l.map .str) (i*1+0) with | some x=>Val.ofC x | none=>Val.zero)=_
 rw [Nat.mul_one,Nat.add_zero,BN,h];rfl
theorem yE {α:Type}:∀ (l r:List α) (i:Nat),i<l.length->nth (l++r) i=nth l i
 | [],_,_,h=>by simp at h
 | _::_,_,0,_=>rfl
 | _::l,r,i+1,h=>yE l r i (by simpa using h)
theorem Wk {α:Type}:∀ (l:List α) (x:α) (r:List α),nth (l++x::r) l.length=some x
 | [],_,_=>rfl
 | _::l,x,r=>Wk l x r
theorem qV {α:Type}:∀ (l:List α) (i:Nat),i<l.length->∃ x,nth l i=some x
 | [],_,h=>by simp at h
 | a::_,0,_=>⟨a,rfl⟩
 | _::l,i+1,h=>qV l i (by simpa using h)
def RowIs (σ:Val) (l:List ByteArray):Prop:=∀ i w,nth l i=some w->(((σ.at i).at 0).S [])=w
theorem RowIs.snoc {σ:Val} {l:List ByteArray} (h:RowIs σ l) (w:ByteArray):RowIs (Val.cat l.length σ (yA w)) (l++[w]):=by
 intro i x hx;show (bif Nat.blt i l.length then ((σ.at i).at 0).S [] else ((yA w).at (i - l.length)).S (0::[]))=x;by_cases hi:i<l.length
 ·rw [yE _ _ _ hi] at hx;rw [show Nat.blt i l.length=true from Nat.blt_eq.mpr hi];exact h i x hx
 ·have hlt:=jq hx;simp only [List.length_append,List.length_cons,List.length_nil] at hlt;have hi2:i=l.length:=by omega
  subst hi2;rw [Wk] at hx
  have hb:Nat.blt l.length l.length=false:=by
   cases hh:Nat.blt l.length l.length
   ·rfl
   ·have:=Nat.blt_eq.mp hh;omega
  rw [hb,Nat.sub_self];exact Option.some.inj hx
theorem RowIs.le {σ:Val} {l:List ByteArray} (h:RowIs σ l):leA (.one (.c (.sl [.str] l.length σ))) (Gu l):=by
 refine Y6 (.c (Nm fun i f s hi hs => ?_));obtain ⟨w,hw⟩:=qV l i hi;cases f with
 | zero =>
   simp only [nth,sIq] at hs;subst hs;have h2:=h i w hw;have h3:=JW l i w hw;rw [h3];show CV.str _=CV.str _;rw [h2];rfl
 | succ f=>simp [nth] at hs
theorem TT (l:List Int) (i:Nat) (k:Int) (h:nth l i=some k):(((Zg l).at i).at 0).N []=k:=by
 show Val.N (match nth (l.map (.int .i64)) (i*1+0) with | some x=>Val.ofC x | none=>Val.zero) []=_
 rw [Nat.mul_one,Nat.add_zero,BN,h];rfl
theorem PR.bind_assoc {σ α β γ:Type} (x:PR σ α) (f:α->σ->PR σ β) (g:β->σ->PR σ γ):(x.bind f).bind g=x.bind fun v s=>(f v s).bind g:=by cases x<;>rfl
theorem K3 {α:Type}:∀ (l:List α) (j:Nat) (x:α) (r:List α),l.drop j=x::r->nth l j=some x∧l.drop (j+1)=r
 | [],j,x,r,h=>by simp at h
 | a::l,0,x,r,h=>by simp at h;exact ⟨congrArg some h.1,h.2⟩
 | _::l,j+1,x,r,h=>K3 l j x r (by simpa using h)
theorem BA (s : ByteArray) (ks : List Int) (hks : ks.length <= 3) : ∀ (r : List Int) (j k : Nat) (σ : Val) (p : PS) (l : List ByteArray), ks.drop j = r -> j + r.length = ks.length -> r.length < k -> l.length = j + 1 -> RowIs σ l ->
  Tells (Rc s ks.length (Zg ks) k j l.length σ p) Gu s ((zU (MP s) r p).bind fun r' q=>.ret (l++r') q)
 | [], j, k, σ, p, l, hd, hj, hk, hl, hr => by
   obtain ⟨k,rfl⟩ : ∃ k',k=k'+1:=⟨k - 1,by omega⟩
   have hlt:lt (j:Int) (ja ks.length)=false:=by
    unfold lt ja;simp at hj ⊢;omega
   show Tells (.br (lt (j:Int) (ja ks.length)) _ _) Gu s (.ret (l++[]) p);rw [hlt,List.append_nil];exact ⟨_,rfl,.ret hr.le LeL.refl rfl⟩
 | c :: r, j, k, σ, p, l, hd, hj, hk, hl, hr => by
   obtain ⟨k,rfl⟩ : ∃ k',k=k'+1:=⟨k - 1,by omega⟩
   obtain ⟨h1,h2⟩:=K3 ks j c r hd;have hlen:j<ks.length:=jq h1
   have hlt:lt (j:Int) (ja ks.length)=true:=by
    unfold lt ja
    simp;omega
   have hin:jc (j:Int) ks.length=true:=by
    unfold jc le lt ja
    simp;omega
   have hkind:(((Zg ks).at j).at 0).N []=c:=TT ks j c h1;have hble:Nat.ble ((l.length+1)*16) 140737488355328=true:=Nat.ble_eq.mpr (by simp only [List.length_cons] at hj;omega)
   show Tells (.br (lt (j:Int) (ja ks.length)) (.need (jc (j:Int) ks.length) (.need (nmD (jt p.tx)) (nxT (bs []) (qD (MP s) (qn (((Zg ks).at j).at 0 |>.N []) p.tx) p) (fun w p1=>.need (Nat.ble ((l.length+1)*16) 140737488355328) (Rc s ks.length (Zg ks) k (j+1) (l.length+1) (Val.cat l.length σ (yA w)) p1)) qk))) _) Gu s (((J5 (MP s) c p).bind fun w s1=>(zU (MP s) r s1).bind fun l s2=>.ret (w::l) s2).bind fun r' q=>.ret (l++r') q);rw [hlt,hin,hkind,hble];unfold J5;show Tells _ Gu s (((bif nmD (jt p.tx) then qD (MP s) (qn c p.tx) p else .stuck).bind _).bind _);cases nmD (jt p.tx) with
  | false=>exact trivial
  | true =>
    simp only [cond_true];cases qD (MP s) (qn c p.tx) p with
   | stuck=>exact trivial
   | pan a=>exact Tells.of_pan rfl
   | ret w p1 =>
     have ih:=BA s ks hks r (j+1) k (Val.cat l.length σ (yA w)) p1 (l++[w]) h2 (by simp only [List.length_cons] at hj;omega) (by simp only [List.length_cons] at hk;omega) (by simp [hl]) (hr.snoc w)
     have e:(((PR.ret w p1).bind fun w s1=>(zU (MP s) r s1).bind fun l s2=>.ret (w::l) s2).bind fun r' q=>.ret (l++r') q)=(zU (MP s) r p1).bind fun r' q=>PR.ret (l++[w]++r') q:=by
      show ((zU (MP s) r p1).bind _).bind _=_;rw [PR.bind_assoc];congr 1;funext v q;show PR.ret (l++(w::v)) q=_;rw [List.append_assoc];rfl
     rw [e];rw [List.length_append] at ih;exact ih
theorem G3 (w:ByteArray):(qu (qx w)).length<=3:=by
 unfold qu;split<;>simp
abbrev jkV:=uOf [] Gu (spU fun s p=>zH (MP s) p)
theorem jny:jw Tryz.prog 82 (localG 70 jkV):=V5 jpS jou 10 82 fun s n t a=>by
 rw [jh8]
 have h:Tells (jkx s ⟨n,t,a⟩) Gu s (zH (MP s) ⟨n,t,a⟩):=Tells.bind fun w p1=>by
  have:=BA s (qu (qx t)) (G3 t) _ 0 4 (yA w) p1 [w] rfl (by simp) (by have:=G3 t;simp;omega) rfl (by
   intro i x hx
   match i,hx with
   | 0,hx=>exact Option.some.inj hx
   | i+1,hx=>simp [nth] at hx)
  exact this
 cases hx:zH (MP s) ⟨n,t,a⟩ with
 | stuck=>exact trivial
 | ret v q=>rw [hx] at h;exact h
 | pan a=>rw [hx] at h;exact h
structure RX where
 op:ByteArray
 v:Int
 n:Nat
 ρ:Val
def RX.cells (e:RX):List CV:=[.str e.op,.int .i64 e.v,.sl (jl 0) e.n e.ρ]
def exR (op:ByteArray) (v:Int) (l:List RX):RX:=⟨op,v,l.length,Val.ofFlat 3 (l.flatMap RX.cells)⟩
structure RS where
 kind:ByteArray
 wn:Nat
 wρ:Val
 cond:RX
 bn:Nat
 bρ:Val
 en:Nat
 eρ:Val
 at_:Int
def RS.cells (s:RS):List CV:=[.str s.kind,.sl [.str] s.wn s.wρ,.str s.cond.op,.int .i64 s.cond.v,.sl (jl 0) s.cond.n s.cond.ρ,.sl (jl 1) s.bn s.bρ,.sl (jl 1) s.en s.eρ,.int .i64 s.at_]
def jN (l:List RS):Val:=Val.ofFlat 8 (l.flatMap RS.cells)
def stR (kind:ByteArray) (words:List ByteArray) (cond:RX) (body els:List RS) (at_:Int):RS:=⟨kind,words.length,zj words,cond,body.length,jN body,els.length,jN els,at_⟩
def AR:Alg RX RS:=⟨exR,stR⟩
def dX:RX:=exR (bs []) 0 []
def Ql (e:RX):AV:=.one (.agg e.cells)
abbrev jdK (E:ByteArray->PS->PR PS RX):=uOf dX Ql (spU E)
noncomputable abbrev YH:Hd:=⟨[lK,pF 27,pF 28,pF 29,pF 32,pF 52,pF 83,pF 84,pF 111,pF 112,pF 123,pF 138,pF 155,pF 185],[],[],[]⟩
theorem Kq:HdOk Tryz.prog YH:=HdOk.lK (((((((((((((HdOk.nil.pF 185).pF 155).pF 138).pF 123).pF 112).pF 111).pF 84).pF 83).pF 52).pF 32).pF 29).pF 28).pF 27)
abbrev Ga:List (Nat × (List A1->Mem->Tree (Out × Mem))):=[(185,localG 70 jk0),(84,localG 70 jk6),(28,localG 70 u32),(29,localG 70 u33),(52,localG 70 u85),(27,localG 70 (uOf () Qh L1))]
abbrev jlq (E:ByteArray->PS->PR PS RX):HdP:=⟨(83,localG 70 (jdK E))::Ga,[],[],[],[],0,[83,185,84,28,29,52,27]⟩
theorem jpb {E:ByteArray->PS->PR PS RX} (hE:jw Tryz.prog 83 (localG 70 (jdK E))):XOk Tryz.prog (jlq E) :=
 ((((x33.loCons jeQ (LocFn.localG _ _)).loCons jgZ (LocFn.localG _ _)).loCons jg1 (LocFn.localG _ _)).loCons hE (LocFn.localG _ _))
def Rv (op:ByteArray) (v:Int) (s:ByteArray) (p:PS):Tree (Out × List CV):=.leaf (.ret (.one (.agg [.str op,.int .i64 v,.nils])),qM s p)
def jka (E:ByteArray->PS->PR PS RX) (s:ByteArray) (p:PS):Tree (Out × List CV) :=
 let A:=nxT () (Jd s p) (fun _ p1=>Rv p.tx 0 s p1) qk
 let B:=nxT () (Jd s p) (fun _ p1=>nxT 0 (ZY (MP s) p1) (fun n p2=>Rv p.tx n s p2) qk) qk
 let C:=nxT () (Jd s p) (fun _ p1=>nxT dX (E s p1) (fun e p2=>nxT () (qN (MP s) zr p2) (fun _ p3=>QG (Ql e) s p3) qk) qk) qk
 let D:=nxT 0 (yw (MP s) 1073741824 p) (fun n p1=>Rv j8 n s p1) qk
 let R2:=.br (jb p.tx qK) C D
 let R1:=.br (jb p.tx qS) (.br (jb p.tx qS) B R2) (.br (jb p.tx qe) (.br (jb p.tx qe) B R2) (.br (jb p.tx zI) (.br (jb p.tx zI) B R2)
  (.br (jb p.tx qU) (.br (jb p.tx qU) B R2) (.br (jb p.tx qq) B R2))))
 .br (jb p.tx jW) (.br (jb p.tx jW) A R1) (.br (jb p.tx zg) A R1)
theorem jiK (E:ByteArray->PS->PR PS RX) (s t:ByteArray) (n a:Int):kC Tryz.prog YH (jlq E) 10 155 70 [] [.str s,.int .i64 n,.str t,.int .i64 a]=jka E s ⟨n,t,a⟩:=by kernel_rfl
theorem Xh {op:ByteArray} {v:Int} {s:ByteArray} {p:PS}:Tells (Rv op v s p) Ql s (.ret (exR op v []) p) :=
 ⟨_,rfl,.ret (Y6 (.agg (.cons leC.refl (.cons leC.refl (.cons (fun _ _ _ h=>by cases h;exact .slnil) .nil))))) LeL.refl rfl⟩
theorem Tells.or2 {β : Type} {c1 c2 : Bool} {A B : Tree (Out × List CV)} {enc : β -> AV} {s : ByteArray} {x y : PR PS β} (h1 : Tells A enc s x) (h2 : Tells B enc s y) :
  Tells (.br c1 (.br c1 A B) (.br c2 A B)) enc s (bif (c1||c2) then x else y):=by
 have k1:∀ T:Tree (Out × List CV),T.sel=A.sel->Tells T enc s x:=fun T e=>by
  cases x with
  | stuck=>exact trivial
  | ret v p=>obtain ⟨z,hz,hl⟩:=h1;exact ⟨z,by rw [e];exact hz,hl⟩
  | pan a=>obtain ⟨z,hz,hl⟩:=h1;exact ⟨z,by rw [e];exact hz,hl⟩
 have k2:∀ T:Tree (Out × List CV),T.sel=B.sel->Tells T enc s y:=fun T e=>by
  cases y with
  | stuck=>exact trivial
  | ret v p=>obtain ⟨z,hz,hl⟩:=h2;exact ⟨z,by rw [e];exact hz,hl⟩
  | pan a=>obtain ⟨z,hz,hl⟩:=h2;exact ⟨z,by rw [e];exact hz,hl⟩
 cases c1<;>cases c2
 ·exact k2 _ rfl
 ·exact k1 _ rfl
 ·exact k1 _ rfl
 ·exact k1 _ rfl
theorem Tells.or5 {β : Type} {c1 c2 c3 c4 c5 : Bool} {A B : Tree (Out × List CV)} {enc : β -> AV} {s : ByteArray} {x y : PR PS β} (h1 : Tells A enc s x) (h2 : Tells B enc s y) :
  Tells (.br c1 (.br c1 A B) (.br c2 (.br c2 A B) (.br c3 (.br c3 A B) (.br c4 (.br c4 A B) (.br c5 A B))))) enc s (bif (c1||(c2||(c3||(c4||c5)))) then x else y):=by
 have k1:∀ T:Tree (Out × List CV),T.sel=A.sel->Tells T enc s x:=fun T e=>by
  cases x with
  | stuck=>exact trivial
  | ret v p=>obtain ⟨z,hz,hl⟩:=h1;exact ⟨z,by rw [e];exact hz,hl⟩
  | pan a=>obtain ⟨z,hz,hl⟩:=h1;exact ⟨z,by rw [e];exact hz,hl⟩
 have k2:∀ T:Tree (Out × List CV),T.sel=B.sel->Tells T enc s y:=fun T e=>by
  cases y with
  | stuck=>exact trivial
  | ret v p=>obtain ⟨z,hz,hl⟩:=h2;exact ⟨z,by rw [e];exact hz,hl⟩
  | pan a=>obtain ⟨z,hz,hl⟩:=h2;exact ⟨z,by rw [e];exact hz,hl⟩
 cases c1
 ·cases c2
  ·cases c3
   ·cases c4
    ·cases c5
     ·exact k2 _ rfl
     ·exact k1 _ rfl
    ·exact k1 _ rfl
   ·exact k1 _ rfl
  ·exact k1 _ rfl
 ·exact k1 _ rfl
abbrev joP (E:ByteArray->PS->PR PS RX):=uOf dX Ql (spU fun s p=>Zv (MP s) AR (E s) p)
theorem joa {E:ByteArray->PS->PR PS RX} (hE:jw Tryz.prog 83 (localG 70 (jdK E))):jw Tryz.prog 155 (localG 70 (joP E)):=V5 Kq (jpb hE) 10 155 fun s n t a=>by
 rw [jiK];unfold jka Zv;refine Tells.or2 (Tells.bind fun _ p1=>Xh) (Tells.or5 (Tells.bind fun _ p1=>Tells.bind fun m p2=>Xh) (Tells.cond ?_ ?_))
 ·exact Tells.bind fun _ p1=>Tells.bind fun e p2=>Tells.bind fun _ p3=>Tells.ret
 ·exact Tells.bind fun m p1=>Xh
def leAB (x y:AV):Prop:=∀ (F:Nat->Prop) (w:World) (bs:List BI) (v:Value),AV.Rel F w bs x v->AV.Rel F w bs y v
theorem leAB.refl {x:AV}:leAB x x:=fun _ _ _ _ h=>h
theorem leAB.of {x y:AV} (h:leA x y) (hc:kD x=true):leAB x y:=fun F w bs v hx =>
 AV.Rel.grow (bs:=[]) ⟨lRq _,fun _ _ h=>h,fun _ _ _=>rfl,fun k p h=>by simp [nth] at h⟩ (h F w v (hx.closed hc))
inductive LeSl:List (Nat × AV)->List (Nat × AV)->Prop
 | nil:LeSl [] []
 | cons {i x y l r}:leAB x y->LeSl l r->LeSl ((i,x)::l) ((i,y)::r)
theorem LeSl.look {l r:List (Nat × AV)} (h:LeSl l r) (i:Nat):(Qy r i=none)∨∃ x y,Qy l i=some x∧Qy r i=some y∧leAB x y:=by
 induction h with
 | nil=>exact .inl rfl
 | @cons k x y l r hxy _ ih =>
   simp only [Qy];by_cases hk:(k==i)=true
   ·rw [if_pos hk,if_pos hk];exact .inr ⟨x,y,rfl,rfl,hxy⟩
   ·rw [if_neg hk,if_neg hk];exact ih
theorem kz {n:Nat} {l r:List (Nat × AV)} {m m':Mem} (hl:LeSl l r) (hm:∀ (P:Program) F w bs,MemRel P F w bs m->MemRel P F w bs m'):StWk (mkS n l m) (mkS n r m'):=by
 intro P D F w bs a hs;refine ⟨hs.defers,?_,fun i sl x h1 h2 => ?_,hm P F w bs hs.mem⟩
 ·have:=hs.len
  simp only [mkS] at this ⊢;rw [← this]
  have key:∀ (l:List (Nat × AV)) n i,(mkL l n i).length=n:=by
   intro l n
   induction n with
   | zero=>intro i;rfl
   | succ n ih=>intro i;simp [mkL,ih]
  rw [key,key]
 ·simp only [mkS] at h1;rw [UN] at h1;split at h1
  rotate_left
  ·cases h1
  rename_i hlt;simp only [sIq,Nat.zero_add] at h1;rcases hl.look i with hn | ⟨u,v,hu,hv,hle⟩
  ·rw [hn] at h1;subst h1;exact ⟨fun _=>trivial,fun h=>(h jA).elim⟩
  ·rw [hv] at h1;subst h1
   have:=hs.slots i ⟨[],u⟩ x (by simp only [mkS];rw [UN,if_pos hlt,Nat.zero_add,hu]) h2
   exact ⟨fun hk=>hle _ _ _ _ (this.1 hk),fun h=>(h jA).elim⟩
theorem kS {T : TypeId} {cs ds : List CV} {b : Nat} {m m' : Mem} (hb : nth m b = some (some (T, cs))) (hr : je cs = false) (hc : cs.all closedC = true) (hl : LeL cs ds) (hr' : je ds = false) (hm : jk m b (some (T, ds)) = m') :
  ∀ (P:Program) F w bs,MemRel P F w bs m->MemRel P F w bs m':=fun _ _ _ _ h=>hm▸h.cellsLe hb hr hc hl hr'
abbrev CE:=CP × RX
abbrev DE:=Option (CP × RX)
def YB:List CV:=[.any,.any,.any]
def jgD (os:List ByteArray):AV:=.one (.c (.sl [.str] os.length (zj os)))
def SZ (os:List ByteArray) (fo:Nat) (c:CP):St :=
 mkS 29 [(0,.one (.c (.ptr 0 0))),(1,jgD os),(2,.one (.c (.fn (.func fo) [.ptr 0 0] []))),(6,.one (.c (.ptr 2 0)))] [some (70,qM c.1 c.2),some (94,YB),some (94,YB)]
def SL (os:List ByteArray) (fo:Nat) (c:CE):St :=
 mkS 29 [(0,.one (.c (.ptr 0 0))),(1,jgD os),(2,.one (.c (.fn (.func fo) [.ptr 0 0] []))),(6,.one (.c (.ptr 2 0))),(7,.one (.c (.ptr 3 0)))] [some (70,qM c.1.1 c.1.2),some (94,YB),some (94,YB),some (94,c.2.cells)]
def SE (c:DE):St:=match c with
 | some c=>mkS 29 [(6,.one (.c (.ptr 2 0)))] [some (70,qM c.1.1 c.1.2),some (94,YB),some (94,c.2.cells)]
 | none=>mkS 29 [(6,.one (.c (.ptr 2 0)))] [some (70,Jz),some (94,YB),some (94,YB)]
def Y0 (n:Nat) (ρ:Val):Nat->List ByteArray->Bool
 | j,[]=>Nat.beq n j
 | j,w::r=>jb (((ρ.at j).at 0).S []) w&&Y0 n ρ (j+1) r
def flat3 (cs:List CV):Bool:=cs.all closedC&&Nat.beq cs.length 3&&!je cs
def HG (cs:List CV):Bool:=cs.all closedC&&Nat.beq cs.length 4&&!je cs
def Fv:List CV->Option RX
 | [.str o,.int .i64 v,.sl es n ρ]=>if shEq.shsEq es (jl 0) then some ⟨o,v,n,ρ⟩ else none
 | _=>none
def W7:List CV->Option CP
 | [.str s,.int .i64 n,.str t,.int .i64 a]=>some (s,⟨n,t,a⟩)
 | _=>none
def jeH (os:List ByteArray) (fo:Nat):List (Nat × AV)->Mem->Option CP
 | [(0, .one (.c (.ptr 0 0))), (1, .one (.c (.sl [.str] n ρ))), (2, .one (.c (.fn (.func f) [.ptr 0 0] []))), (6, .one (.c (.ptr 2 0)))], [some (70, c0), some (94, c1), some (94, c2)] =>
   if Nat.beq f fo&&Y0 n ρ 0 os&&flat3 c1&&flat3 c2 then W7 c0 else none
 | _,_=>none
def jeA (os:List ByteArray) (fo:Nat):List (Nat × AV)->Mem->Option CE
 | [(0, .one (.c (.ptr 0 0))), (1, .one (.c (.sl [.str] n ρ))), (2, .one (.c (.fn (.func f) [.ptr 0 0] []))), (6, .one (.c (.ptr 2 0))), (7, .one (.c (.ptr 3 0)))], [some (70, c0), some (94, c1), some (94, c2), some (94, c3)] =>
   if Nat.beq f fo&&Y0 n ρ 0 os&&flat3 c1&&flat3 c2 then (match W7 c0,Fv c3 with | some p,some e=>some (p,e) | _,_=>none) else none
 | _,_=>none
def getE:List (Nat × AV)->Mem->Option DE
 | [(6, .one (.c (.ptr 2 0)))], [some (70, c0), some (94, c1), some (94, c2)] =>
   if flat3 c1 then (match W7 c0,Fv c2 with
    | some p,some e=>some (some (p,e))
    | _,_=>if HG c0&&flat3 c2 then some none else none) else none
 | _,_=>none
theorem NT {n:Nat} {ρ:Val}:∀ {os:List ByteArray} {j:Nat},Y0 n ρ j os=true->n=j+os.length
 | [],j,h=>by simpa using Nat.eq_of_beq_eq_true h
 | w :: r, j, h => by
   simp only [Y0,aTq] at h
   have:=NT h.2
   simp only [List.length_cons];omega
theorem Td {n:Nat} {ρ:Val}:∀ {os:List ByteArray} {j:Nat},Y0 n ρ j os=true->∀ i w,nth os i=some w->((ρ.at (j+i)).at 0).S []=w
 | [],_,_,i,w,h=>by simp [nth] at h
 | x :: r, j, h, 0, w, hw => by
   simp only [Y0,aTq] at h;simp only [nth,sIq] at hw;subst hw;exact QP h.1
 | x :: r, j, h, i + 1, w, hw => by
   simp only [Y0,aTq] at h
   have:=Td h.2 i w hw
   rwa [show j+1+i=j+(i+1) by omega] at this
theorem ai {n:Nat} {ρ:Val} {os:List ByteArray} (h:Y0 n ρ 0 os=true):leAB (.one (.c (.sl [.str] n ρ))) (jgD os):=by
 have hn:=NT h;rw [Nat.zero_add] at hn;subst hn;refine leAB.of (RowIs.le (l:=os) (σ:=ρ) fun i w hw => ?_) rfl
 have:=Td h i w hw
 rwa [Nat.zero_add] at this
theorem ZK {cs:List CV} (h:flat3 cs=true):cs.all closedC=true∧je cs=false∧LeL cs YB:=by
 simp only [flat3,aTq,Bool.not_eq_true'] at h;obtain ⟨⟨h1,h2⟩,h3⟩:=h;have h2:=Nat.eq_of_beq_eq_true h2;refine ⟨h1,h3,?_⟩
 match cs,h2 with
 | [a,b,c],_=>exact .cons zC (.cons zC (.cons zC .nil))
theorem BM {cs:List CV} (h:HG cs=true):cs.all closedC=true∧je cs=false∧LeL cs Jz:=by
 simp only [HG,aTq,Bool.not_eq_true'] at h;obtain ⟨⟨h1,h2⟩,h3⟩:=h;have h2:=Nat.eq_of_beq_eq_true h2;refine ⟨h1,h3,?_⟩
 match cs,h2 with
 | [a,b,c,d],_=>exact .cons zC (.cons zC (.cons zC (.cons zC .nil)))
theorem Vx {cs:List CV} {e:RX} (h:Fv cs=some e):cs=e.cells:=by
 unfold Fv at h;split at h
 ·split at h
  ·rename_i hs
   have:=jm hs
   subst this;cases h;rfl
  ·cases h
 ·cases h
theorem JF {cs:List CV} {c:CP} (h:W7 cs=some c):cs=qM c.1 c.2:=by
 unfold W7 at h;split at h
 ·cases h;rfl
 ·cases h
theorem jh9 (os:List ByteArray) (fo:Nat):∀ l m c,jeH os fo l m=some c->StWk (mkS 29 l m) (SZ os fo c):=by
 intro l m c h;unfold jeH at h;split at h
 ·rename_i n ρ f c0 c1 c2;split at h
  ·rename_i hc;simp only [aTq] at hc;obtain ⟨⟨⟨hf,ho⟩,h1⟩,h2⟩:=hc;have hf:=Nat.eq_of_beq_eq_true hf;subst hf;rw [JF h];obtain ⟨a1,a2,a3⟩:=ZK h1;obtain ⟨b1,b2,b3⟩:=ZK h2;refine kz (.cons leAB.refl (.cons (ai ho) (.cons leAB.refl (.cons leAB.refl .nil)))) fun P F w bs hm => ?_;exact kS (b:=2) (m:=[some (70,qM c.1 c.2),some (94,YB),some (94,c2)]) rfl b2 b1 b3 rfl rfl P F w bs (kS (b:=1) rfl a2 a1 a3 rfl rfl P F w bs hm)
  ·cases h
 ·cases h
theorem jjC (os:List ByteArray) (fo:Nat):∀ l m c,jeA os fo l m=some c->StWk (mkS 29 l m) (SL os fo c):=by
 intro l m c h;unfold jeA at h;split at h
 ·rename_i n ρ f c0 c1 c2 c3;split at h
  ·rename_i hc;simp only [aTq] at hc;obtain ⟨⟨⟨hf,ho⟩,h1⟩,h2⟩:=hc;have hf:=Nat.eq_of_beq_eq_true hf;subst hf;split at h
   ·rename_i p e hp he;cases h;rw [JF hp,Vx he];obtain ⟨a1,a2,a3⟩:=ZK h1;obtain ⟨b1,b2,b3⟩:=ZK h2;refine kz (.cons leAB.refl (.cons (ai ho) (.cons leAB.refl (.cons leAB.refl (.cons leAB.refl .nil))))) fun P F w bs hm => ?_;exact kS (b:=2) (m:=[some (70,qM p.1 p.2),some (94,YB),some (94,c2),some (94,e.cells)]) rfl b2 b1 b3 rfl rfl P F w bs (kS (b:=1) rfl a2 a1 a3 rfl rfl P F w bs hm)
   ·cases h
  ·cases h
 ·cases h
theorem I2:∀ l m c,getE l m=some c->StWk (mkS 29 l m) (SE c):=by
 intro l m c h;unfold getE at h;split at h
 ·rename_i c0 c1 c2;split at h
  ·rename_i h1;obtain ⟨a1,a2,a3⟩:=ZK h1;split at h
   ·rename_i p e hp he;cases h;rw [JF hp,Vx he];exact kz (.cons leAB.refl .nil) (kS (b:=1) rfl a2 a1 a3 rfl rfl)
   ·split at h
    ·rename_i h2;cases h;rw [aTq] at h2;obtain ⟨b1,b2,b3⟩:=BM h2.1;obtain ⟨d1,d2,d3⟩:=ZK h2.2;refine kz (.cons leAB.refl .nil) fun P F w bs hm => ?_;exact kS (b:=2) (m:=[some (70,Jz),some (94,YB),some (94,c2)]) rfl d2 d1 d3 rfl rfl P F w bs (kS (b:=0) (m:=[some (70,c0),some (94,YB),some (94,c2)]) rfl b2 b1 b3 rfl rfl P F w bs (kS (b:=1) rfl a2 a1 a3 rfl rfl P F w bs hm))
    ·cases h
  ·cases h
 ·cases h
def AL (os:List ByteArray) (fo:Nat):Sx.Frame CE DE:=⟨3,29,[0,1,2,6,7],jeA os fo,SL os fo,[6],getE,SE⟩
def AZ (os:List ByteArray) (fo:Nat):Sx.Frame CP DE:=⟨3,29,[0,1,2,6],jeH os fo,SZ os fo,[6],getE,SE⟩
theorem aL (os:List ByteArray) (fo:Nat):(AL os fo).Ok:=⟨jjC os fo,I2⟩
theorem aZ (os:List ByteArray) (fo:Nat):(AZ os fo).Ok:=⟨jh9 os fo,I2⟩
end Go.Proofs.YtiefjlcakpdfeaaGreatDoor