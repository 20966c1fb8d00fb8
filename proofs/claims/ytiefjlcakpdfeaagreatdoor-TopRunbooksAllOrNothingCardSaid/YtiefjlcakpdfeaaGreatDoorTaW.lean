/-
 Part TaW of the proof: RbM RcC RbG RbH RbI RbJ.
-/
import Derived.Test.YtiefjlcakpdfeaaGreatDoorTaV
namespace Go.Proofs.YtiefjlcakpdfeaaGreatDoor
open Go Go.Sx Go.RowKit Rb
set_option maxRecDepth 100000
variable {σ α β γ ε τ:Type}
structure Alg (ε τ:Type) where
 ex:ByteArray->Int->List ε->ε
 st:ByteArray->List ByteArray->ε->List τ->List τ->Int->τ
variable (M:Mach σ)
def Kx (s:σ):PR σ α:=.pan (M.pos s)
def qH (t:ByteArray) (s:σ):PR σ Bool:=bif jb (M.tx s) t then (M.adv s).bind fun _ s'=>.ret true s' else .ret false s
def qJ (t:ByteArray) (s:σ):PR σ Unit:=(qH M t s).bind fun c s'=>bif c then .ret () s' else Kx M s'
def qC (ok:Bool) (s:σ):PR σ ByteArray:=bif ok then (M.adv s).bind fun _ s'=>.ret (M.tx s) s' else Kx M s
def kC (most:Int) (s:σ):PR σ Int :=
 match jE (M.tx s) with
 | none=>.stuck
 | some (n,ok)=>(qC M (bif ok then le n most else false) s).bind fun _ s'=>.ret n s'
def Kz (s:σ):PR σ Int:=(qC M (yz (M.tx s)) s).bind fun _ s'=>.ret (J2 (M.tx s)) s'
def JN (s:σ):PR σ ByteArray :=
 match jV (M.tx s) with
 | none=>.stuck
 | some c=>qC M c s
def Zz:=bs [112,114,111,109,111,116,101]
def Xn:=bs [115,121,110,99,101,100]
def Wa:=bs [100,101,109,111,116,101]
def X7:=bs [114,101,106,111,105,110]
def Zu:=bs [105,115,111,108,97,116,101]
def wUp:=bs [117,112]
def ZR:=bs [100,111,119,110]
def zP:=bs [99,111,110,110,101,99,116]
def zJ:=bs [100,105,115,99,111,110,110,101,99,116]
def QL:=bs [102,97,105,108,111,118,101,114]
def Wt:=bs [114,101,115,111,108,118,101]
def jaz:=bs [110,111,110,101]
def zL (w:ByteArray):Nat :=
 bif (jb w Zz||jb w Xn) then 1 else bif jb w Wa then 2 else bif jb w X7 then 3
  else bif (jb w Zu||(jb w wUp||(jb w ZR||(jb w zP||(jb w zJ||(jb w QL||jb w Wt)))))) then 4 else 0
def zZ:Nat->List Int
 | 1=>[0,1]
 | 2=>[0,1,2]
 | 3=>[0,1,0]
 | 4=>[0]
 | _=>[]
def zc (kind:Int) (w:ByteArray):Bool:=bif kind==1 then nmO (jE w) else bif kind==2 then (bif yz w then true else jb w jaz) else yz w
def QU (kind:Int) (s:σ):PR σ ByteArray:=bif nmD (jE (M.tx s)) then qC M (zc kind (M.tx s)) s else .stuck
def yp:List Int->σ->PR σ (List ByteArray)
 | [],s=>.ret [] s
 | k::r,s=>(QU M k s).bind fun w s1=>(yp r s1).bind fun l s2=>.ret (w::l) s2
def z6 (s:σ):PR σ (List ByteArray) :=
 (qC M (!(Nat.beq (zL (M.tx s)) 0)) s).bind fun w s1=>(yp M (zZ (zL (M.tx s))) s1).bind fun l s2=>.ret (w::l) s2
def wOr:=bs [111,114]
def JG:=bs [97,110,100]
def zf:=bs [110,111,116]
def wEq:=bs [61]
def wLt:=bs [60]
def wGt:=bs [62]
def ZP:=bs [43]
def kg:=bs [45]
def ZI:=bs [40]
def Zc:=bs [41]
def qy:=bs [110,117,109]
def qj:=bs [112,114,105,109,97,114,121]
def zC:=bs [115,105,116,101,115]
def zy:=bs [101,112,111,99,104]
def qv:=bs [97,112,112,108,105,101,100]
def ym:=bs [114,111,108,101]
def zu:=bs [97,108,105,118,101]
def q7:=bs [99,111,110,110,101,99,116,101,100]
variable (A:Alg ε τ)
def Ya (operand:σ->PR σ ε) (again:ε->σ->PR σ ε) (e:ε):List ByteArray->σ->PR σ ε
 | [],s=>.ret e s
 | o::r,s=>(qH M o s).bind fun c s1=>bif c then (operand s1).bind fun x s2=>again (A.ex o 0 [e,x]) s2 else Ya operand again e r s1
def Jp (ops:List ByteArray) (operand:σ->PR σ ε):Nat->ε->σ->PR σ ε
 | 0,_,_=>.stuck
 | k+1,e,s=>Ya M A operand (Jp ops operand k) e ops s
def Yk (expr:σ->PR σ ε) (s:σ):PR σ ε :=
 bif (jb (M.tx s) qj||jb (M.tx s) zC) then (M.adv s).bind fun _ s1=>.ret (A.ex (M.tx s) 0 []) s1
 else bif (jb (M.tx s) zy||(jb (M.tx s) qv||(jb (M.tx s) ym||(jb (M.tx s) zu||jb (M.tx s) q7)))) then (M.adv s).bind fun _ s1=>(Kz M s1).bind fun n s2=>.ret (A.ex (M.tx s) n []) s2
 else bif jb (M.tx s) ZI then (M.adv s).bind fun _ s1=>(expr s1).bind fun e s2=>(qJ M Zc s2).bind fun _ s3=>.ret e s3
 else (kC M 1073741824 s).bind fun n s1=>.ret (A.ex qy n []) s1
def Ia (expr:σ->PR σ ε) (k:Nat) (s:σ):PR σ ε:=(Yk M A expr s).bind fun e s1=>Jp M A [ZP,kg] (Yk M A expr) k e s1
def Ui (one expr:σ->PR σ ε) (k:Nat) (s:σ):PR σ ε :=
 (qH M zf s).bind fun c s1=>bif c then (one s1).bind fun e s2=>.ret (A.ex zf 0 [e]) s2
  else (Ia M A expr k s1).bind fun e s2=>Ya M A (Ia M A expr k) (fun x s3=>.ret x s3) e [wEq,wLt,wGt] s2
def HL (one expr:σ->PR σ ε) (k:Nat) (s:σ):PR σ ε:=(Ui M A one expr k s).bind fun e s1=>Jp M A [JG] (Ui M A one expr k) k e s1
def Rl (one expr:σ->PR σ ε) (k:Nat) (s:σ):PR σ ε:=(HL M A one expr k s).bind fun e s1=>Jp M A [wOr] (HL M A one expr k) k e s1
def exs (K:Nat):Nat->(σ->PR σ ε) × (σ->PR σ ε)
 | 0=>(fun _=>.stuck,fun _=>.stuck)
 | d+1=>(Ui M A (exs K d).1 (exs K d).2 K,Rl M A (exs K d).1 (exs K d).2 K)
def wDo:=bs [100,111]
def Yn:=bs [117,110,100,111]
def wIf:=bs [105,102]
def ZT:=bs [101,108,115,101]
def qc:=bs [114,101,112,101,97,116]
def zN:=bs [114,101,113,117,105,114,101]
def kj:=bs [115,97,121]
def z8:=bs [59]
def zj:=bs [123]
def wEnd:=bs [125]
def zq:=bs [114,117,110,98,111,111,107]
def Il:ε:=A.ex (bs []) 0 []
def kL:Nat->σ->PR σ (List ByteArray)
 | 0,_=>.stuck
 | k+1,s=>(qH M z8 s).bind fun c s1=>bif c then .ret [] s1 else (JN M s1).bind fun w s2=>(kL k s2).bind fun l s3=>.ret (w::l) s3
def zO (st:σ->PR σ τ):Nat->σ->PR σ (List τ)
 | 0,_=>.stuck
 | k+1,s=>(qH M wEnd s).bind fun c s1=>bif c then .ret [] s1 else (st s1).bind fun x s2=>(zO st k s2).bind fun l s3=>.ret (x::l) s3
def Z3 (st:σ->PR σ τ) (k:Nat) (s:σ):PR σ (List τ):=(qJ M zj s).bind fun _ s1=>zO M st k s1
def yD (expr:σ->PR σ ε) (block:σ->PR σ (List τ)) (k:Nat) (s:σ):PR σ τ :=
 bif jb (M.tx s) wDo then (M.adv s).bind fun _ s1=>(z6 M s1).bind fun w s2=>(qH M Yn s2).bind fun c s3 =>
  bif c then (block s3).bind fun l s4=>(qJ M z8 s4).bind fun _ s5=>.ret (A.st (M.tx s) w (Il A) l [] (M.pos s)) s5
  else (qJ M z8 s3).bind fun _ s4=>.ret (A.st (M.tx s) w (Il A) [] [] (M.pos s)) s4
 else bif jb (M.tx s) wIf then (M.adv s).bind fun _ s1=>(expr s1).bind fun e s2=>(block s2).bind fun l s3=>(qH M ZT s3).bind fun c s4 =>
  bif c then (block s4).bind fun r s5=>.ret (A.st (M.tx s) [] e l r (M.pos s)) s5 else .ret (A.st (M.tx s) [] e l [] (M.pos s)) s4
 else bif jb (M.tx s) qc then (M.adv s).bind fun _ s1=>(kC M 99 s1).bind fun n s2=>(block s2).bind fun l s3=>.ret (A.st (M.tx s) [] (A.ex qy n []) l [] (M.pos s)) s3
 else bif jb (M.tx s) zN then (M.adv s).bind fun _ s1=>(expr s1).bind fun e s2=>(qJ M z8 s2).bind fun _ s3=>.ret (A.st (M.tx s) [] e [] [] (M.pos s)) s3
 else bif jb (M.tx s) kj then (M.adv s).bind fun _ s1=>(JN M s1).bind fun w s2=>(kL M k s2).bind fun l s3=>.ret (A.st (M.tx s) (w::l) (Il A) [] [] (M.pos s)) s3
 else Kx M s
def sts (K:Nat):Nat->(σ->PR σ τ) × (σ->PR σ (List τ))
 | 0=>(fun _=>.stuck,fun _=>.stuck)
 | d+1=>(yD M A (exs M A K K).2 (sts K d).2 K,Z3 M (yD M A (exs M A K K).2 (sts K d).2 K) K)
end Go.Proofs.YtiefjlcakpdfeaaGreatDoor
namespace Go.Proofs.YtiefjlcakpdfeaaGreatDoor
open Go Go.Sx Go.RowKit Rb
set_option maxRecDepth 100000
noncomputable abbrev HOa:Hd:=⟨Ro.H37.pc,Ro.H15.hc,[],Ro.H37.mc⟩
theorem hOa:HdOk Tryz.prog HOa:=⟨⟨Ro.h37.pc.pc,Ro.h15.pc.hc,Ro.h37.pc.mc⟩,Ro.h37.lh⟩
noncomputable abbrev HOb:Hd:=⟨rK::(53,oG G86)::(142,nG jgy)::(145,nG je2)::HOa.pc,HOa.hc,[],(37,ncG Ro.Fo.Gcop)::HOa.mc⟩
theorem hOb:HdOk Tryz.prog HOb:=HdOk.rK ((((hOa.mcCons Ro.Fo.nCop.mc).tcCons jrs).tcCons jrM).pcCons p86)
def fK (f:Nat):Nat × (List A1->Tree AV):=(f,fun _=>.fail)
theorem HdOk.fK {P:Program} {pc hc lh mc} (h:HdOk P ⟨pc,hc,lh,mc⟩) (f:Nat):HdOk P ⟨fK f::pc,hc,lh,mc⟩:=h.tcCons (f:=f) (fun _ _ h=>by simp [Tree.sel] at h)
noncomputable abbrev HOp:Hd:=⟨fK 132::fK 147::fK 150::HOb.pc,HOb.hc,[],HOb.mc⟩
theorem hOp:HdOk Tryz.prog HOp:=HdOk.fK (HdOk.fK (HdOk.fK hOb 150) 147) 132
def wd (σ:Val) (i:Nat):ByteArray:=((σ.at i).at 0).S []
def Fb (k:Int):Tree AV:=.leaf (.tup [.c .nils,.c (.int .i64 k)])
noncomputable def RI (n:Nat) (ρ:Val):Tree AV:=.need (dec (Ro.fewS ⟨n,ρ⟩)) (.br (Ro.ckE ⟨n,ρ⟩ != 0) (Fb (Ro.ckE ⟨n,ρ⟩)) (.leaf (.tup [.c (.sl Ro.siSh n ρ),.c (.int .i64 0)])))
noncomputable def NT (n:Nat) (ρ:Val) (t:Int) (k:Int) (x:Ro.Sit):Tree AV :=
 .br (k==0) (.need (jc t n) (.br (k != 0) (Fb k) (RI n (ρ.upds t.toNat 0 (Ro.Fo.cs (Ro.Fo.okT k x)))))) (.br (k != 0) (Fb k) (RI n ρ))
noncomputable def UX (n:Nat) (ρ:Val) (m:Nat) (t:Int) (f:Nat) (b:Bool):Tree AV:=.need (jc 0 m) (.need (jc t n) (.br false (Fb 0) (RI n (ρ.upds t.toNat f [.bool b]))))
noncomputable def jh2 (n:Nat) (ρ:Val) (m:Nat) (σ:Val):Tree AV :=
 let t:=J2 (wd σ 1)
 let x:=Ro.siAt (ρ.at t.toNat)
 let w:=wd σ 0
 let y:=nmV (jE (Qz σ 2))
 let num:=jc 2 m&&nmD (jE (Qz σ 2))
 let src:=FU ρ σ 3
 let sm:=dec (Ro.small x.n)
 .need (jc 1 m) (.need (dec (Ro.Fo.smallS ⟨n,ρ⟩)) (.need (jc 0 m)
  (.br (jb w Zz) (.need (jc t n) (.need num (.need sm (NT n ρ t (Ro.proE x y) (Ro.pro x y)))))
  (.br (jb w Zu) (.need (jc t n) (.need sm (NT n ρ t (Ro.isoE x) (Ro.iso x))))
  (.br (jb w Wa) (.need (jc t n) (.need num (.need (Nc n m σ 3) (.need sm (NT n ρ t (Ro.demoE x y src) (Ro.demo x y src))))))
  (.br (jb w X7) (.need (jc t n) (.need num (.need (Nc n m σ 3) (.need sm (NT n ρ t (Ro.rejE x y src) (Ro.rej x y src))))))
  (.br (jb w Xn) (.need (jc t n) (.need num .fail))
  (.br (jb w wUp) (UX n ρ m t 6 (jb w wUp))
  (.br (jb w ZR) (UX n ρ m t 6 (jb w wUp))
  (.br (jb w zP) (UX n ρ m t 7 (jb w zP))
  (.br (jb w zJ) (UX n ρ m t 7 (jb w zP))
  (.br (jb w QL) .fail (.br (jb w Wt) .fail .fail)))))))))))))
theorem jkK (n:Nat) (ρ:Val) (m:Nat) (σ:Val):j5 Tryz.prog HOp 10 117 [.c (.sl Ro.siSh n ρ),.c (.sl [.str] m σ)]=jh2 n ρ m σ:=by kernel_rfl
def Dv (p:Nat->Bool):Nat->Bool
 | 0=>true
 | n+1=>Dv p n&&p n
theorem U0 {p:Nat->Bool}:∀ {n:Nat},Dv p n=true->∀ i,i<n->p i=true
 | 0,_,i,hi=>by omega
 | n + 1, h, i, hi => by
   simp only [Dv,aTq] at h;rcases lOq i n with h1 | h1
   ·exact U0 h.1 i h1
   ·obtain rfl:i=n:=by omega
    exact h.2
def qi (n:Nat) (ρ:Val):Bool:=Nat.ble n 1000&&Dv (fun i=>Nat.ble (((ρ.at i).at 4).L []) 100000) n
theorem KB {n:Nat} {ρ:Val} (h:qi n ρ=true):Ro.Fo.smallS ⟨n,ρ⟩:=by
 unfold qi at h;rw [aTq] at h;exact ⟨Nat.le_of_ble_eq_true h.1,fun i hi=>Nat.le_of_ble_eq_true (U0 h.2 i hi)⟩
theorem LA {n:Nat} {ρ:Val} (h:qi n ρ=true):dec (Ro.fewS ⟨n,ρ⟩)=true:=js.2 (Ro.Fo.small_fewS (KB h))
abbrev OR:=Option (Int × Val)
def RB (n:Nat) (ρ:Val):OR:=bif qi n ρ then some (Ro.ckE ⟨n,ρ⟩,ρ) else none
def LZ (n:Nat) (ρ:Val) (t:Int) (k:Int) (x:Ro.Sit):OR:=bif k==0 then (bif jc t n then RB n (ρ.upds t.toNat 0 (Ro.Fo.cs (Ro.Fo.okT k x))) else none) else some (k,ρ)
def Yr (n:Nat) (ρ:Val) (t:Int) (f:Nat) (b:Bool):OR:=bif jc t n then RB n (ρ.upds t.toNat f [.bool b]) else none
def nd {α:Type} (c:Bool) (x:Option α):Option α:=bif c then x else none
def Qt (fo:Nat->Val->Int->OR) (n:Nat) (ρ:Val) (m:Nat) (σ:Val):OR :=
 let t:=J2 (wd σ 1)
 let x:=Ro.siAt (ρ.at t.toNat)
 let w:=wd σ 0
 let y:=nmV (jE (Qz σ 2))
 let num:=jc 2 m&&nmD (jE (Qz σ 2))
 let src:=FU ρ σ 3
 nd (jc 1 m) (nd (qi n ρ) (nd (jc 0 m)
  (bif jb w Zz then nd (jc t n) (nd num (LZ n ρ t (Ro.proE x y) (Ro.pro x y)))
  else bif jb w Zu then nd (jc t n) (LZ n ρ t (Ro.isoE x) (Ro.iso x))
  else bif jb w Wa then nd (jc t n) (nd num (nd (Nc n m σ 3) (LZ n ρ t (Ro.demoE x y src) (Ro.demo x y src))))
  else bif jb w X7 then nd (jc t n) (nd num (nd (Nc n m σ 3) (LZ n ρ t (Ro.rejE x y src) (Ro.rej x y src))))
  else bif jb w Xn then none
  else bif jb w wUp then Yr n ρ t 6 (jb w wUp)
  else bif jb w ZR then Yr n ρ t 6 (jb w wUp)
  else bif jb w zP then Yr n ρ t 7 (jb w zP)
  else bif jb w zJ then Yr n ρ t 7 (jb w zP)
  else bif jb w QL then fo n ρ t
  else none)))
def Nz (n:Nat) (x:Int × Val):AV:=.tup [.c (.sl Ro.siSh (bif x.1==0 then n else 0) x.2),.c (.int .i64 x.1)]
def SayO (n:Nat) (T:Tree AV):OR->Prop
 | none=>True
 | some x=>T.All (fun z=>leA z (Nz n x))
theorem SayO.none {n:Nat} {T:Tree AV}:SayO n T none:=trivial
theorem SayO.cond {n:Nat} {c:Bool} {T E:Tree AV} {a b:OR} (h1:c=true->SayO n T a) (h2:c=false->SayO n E b):SayO n (.br c T E) (bif c then a else b):=by
 cases c with
 | true =>
   have:=h1 rfl
   show SayO n _ a;cases a with
  | none=>exact trivial
  | some y=>exact ⟨fun _=>this,(fun h=>by cases h)⟩
 | false =>
   have:=h2 rfl
   show SayO n _ b;cases b with
  | none=>exact trivial
  | some y=>exact ⟨(fun h=>by cases h),fun _=>this⟩
theorem SayO.nd {n:Nat} {c d:Bool} {T:Tree AV} {a:OR} (h:c=true->d=true) (h1:c=true->SayO n T a):SayO n (.need d T) (Go.Proofs.YtiefjlcakpdfeaaGreatDoor.nd c a):=by
 cases c with
 | false=>exact trivial
 | true =>
   have:=h1 rfl
   show SayO n _ a;cases a with
  | none=>exact trivial
  | some y=>exact ⟨h rfl,this⟩
theorem SayO.need {n:Nat} {d:Bool} {T:Tree AV} {a:OR} (h:d=true) (h1:SayO n T a):SayO n (.need d T) a:=by
 cases a with
 | none=>exact trivial
 | some y=>exact ⟨h,h1⟩
theorem ML {n:Nat} {k:Int} {ρ:Val} (hk:(k==0)=false):leA (.tup [.c .nils,.c (.int .i64 k)]) (Nz n (k,ρ)):=by
 unfold Nz;simp only [hk,cond_false];exact QS (.cons (.c fun _ _ _ h=>by cases h;exact .slnil) (.cons (.c leC.refl) .nil))
theorem jfx {n:Nat} {k:Int} {ρ:Val} (hk:(k==0)=false):SayO n (Fb k) (some (k,ρ)):=ML hk
theorem T7 {n:Nat} {ρ:Val}:SayO n (RI n ρ) (RB n ρ):=by
 unfold RI RB;refine SayO.nd LA fun _ => ?_;cases hk:(Ro.ckE ⟨n,ρ⟩==0) with
 | false =>
   have h1:(Ro.ckE ⟨n,ρ⟩ != 0)=true:=by simp [bne,hk]
   rw [h1];exact ⟨fun _=>ML hk,(fun h=>by cases h)⟩
 | true =>
   have h1:(Ro.ckE ⟨n,ρ⟩ != 0)=false:=by simp [bne,hk]
   rw [h1];refine ⟨(fun h=>by cases h),fun _ => ?_⟩
   unfold Nz;simp only [hk,cond_true];have h0:Ro.ckE ⟨n,ρ⟩=0:=by simpa using hk
   rw [h0];exact leA.refl
theorem W8 {n:Nat} {ρ:Val} {t k:Int} {x:Ro.Sit}:SayO n (NT n ρ t k x) (LZ n ρ t k x):=by
 unfold NT LZ;refine SayO.cond (fun hk => ?_) fun hk => ?_
 ·refine SayO.nd id fun _ => ?_;have h1:(k != 0)=false:=by simp [bne,hk]
  rw [h1];exact SayO.cond (c:=false) (a:=none) (fun h=>by cases h) fun _=>T7
 ·have h1:(k != 0)=true:=by simp [bne,hk]
  rw [h1];exact SayO.cond (c:=true) (b:=none) (fun _=>jfx hk) (fun h=>by cases h)
theorem KO {n m:Nat} {ρ:Val} {t:Int} {f:Nat} {b:Bool} (hm:jc 0 m=true):SayO n (UX n ρ m t f b) (Yr n ρ t f b):=by
 unfold UX Yr;refine SayO.need hm (SayO.nd id fun _=>SayO.cond (c:=false) (a:=none) (fun h=>by cases h) fun _=>T7)
theorem Vm {n:Nat} {ρ:Val} {t:Int} (h:qi n ρ=true) (ht:jc t n=true):dec (Ro.small (Ro.siAt (ρ.at t.toNat)).n)=true:=by
 have hs:=KB h;have hn:n<=1000:=hs.1;unfold jc le lt ja at ht;simp at ht;exact js.2 (hs.2 t.toNat (by simp only;omega))
def NW:Nat->Val->Int->OR:=fun _ _ _=>none
theorem jgE {n:Nat} {ρ:Val} {m:Nat} {σ:Val}:SayO n (jh2 n ρ m σ) (Qt NW n ρ m σ):=by
 unfold jh2 Qt;refine SayO.nd id fun _=>SayO.nd (fun h=>js.2 (KB h)) fun hs=>SayO.nd id fun hm => ?_;refine SayO.cond (fun _=>SayO.nd id fun ht=>SayO.nd id fun _=>SayO.need (Vm hs ht) W8) fun _ => ?_;refine SayO.cond (fun _=>SayO.nd id fun ht=>SayO.need (Vm hs ht) W8) fun _ => ?_;refine SayO.cond (fun _=>SayO.nd id fun ht=>SayO.nd id fun _=>SayO.nd id fun _=>SayO.need (Vm hs ht) W8) fun _ => ?_;refine SayO.cond (fun _=>SayO.nd id fun ht=>SayO.nd id fun _=>SayO.nd id fun _=>SayO.need (Vm hs ht) W8) fun _ => ?_;refine SayO.cond (fun _=>SayO.none) fun _ => ?_;refine SayO.cond (fun _=>KO hm) fun _ => ?_;refine SayO.cond (fun _=>KO hm) fun _ => ?_;refine SayO.cond (fun _=>KO hm) fun _ => ?_;refine SayO.cond (fun _=>KO hm) fun _ => ?_;exact SayO.cond (fun _=>SayO.none) fun _=>SayO.none
def orB:OR->Bool | some _=>true | none=>false
def orV:OR->Int × Val | some x=>x | none=>(0,.zero)
abbrev OpF:=Nat->Val->Nat->Val->OR
def L4 (O:OpF):List A1->Option (Bool × AV)
 | [.c (.sl es n ρ),.c (.sl [.str] m σ)]=>if shEq.shsEq es Ro.siSh then some (orB (O n ρ m σ),Nz n (orV (O n ρ m σ))) else none
 | _=>none
theorem jcU {O:OpF} {args:List A1} {r:AV} (h:L4 O args=some (true,r)):∃ n ρ m σ x,args=[.c (.sl Ro.siSh n ρ),.c (.sl [.str] m σ)]∧O n ρ m σ=some x∧r=Nz n x:=by
 unfold L4 at h;split at h
 ·rename_i es n ρ m σ;split at h
  ·rename_i hs;rw [jj hs];simp only [sIq,pIq] at h;cases ho:O n ρ m σ with
   | none=>rw [ho] at h;cases h.1
   | some x=>rw [ho] at h;exact ⟨n,ρ,m,σ,x,rfl,ho,h.2.symm⟩
  ·cases h
 ·cases h
theorem jri {args:List A1} {r:AV} (h:L4 (Qt NW) args=some (true,r)):(j5 Tryz.prog HOp 10 117 args).All (fun x=>leA x r):=by
 obtain ⟨n,ρ,m,σ,x,e1,h1,e2⟩:=jcU h;rw [e1,e2,jkK]
 have:=jgE (n:=n) (ρ:=ρ) (m:=m) (σ:=σ)
 rw [h1] at this;exact this
theorem jpb:UcOne Tryz.prog 117 (nG (L4 (Qt NW))):=by
 refine zm (H:=HOp) hOp 10 117 ?_;intro args r h;exact jri h
def MP (s:ByteArray):Mach PS:=⟨PS.tx,PS.pos,kX s⟩
def jgS (b:Bool):AV:=.one (.c (.bool b))
def encS (b:ByteArray):AV:=.one (.c (.str b))
def HG (n:Int):AV:=.one (.c (.int .i64 n))
def qg (a:Int):Tree (Out × List CV):=.leaf (.pan (J4 a),Ji)
def Qy (a:AV) (s:ByteArray) (p:PS):Tree (Out × List CV):=.leaf (.ret a,qB s p)
theorem Tells.bind {α β:Type} {d:α} {x:PR PS α} {K:α->PS->Tree (Out × List CV)} {enc:β->AV} {s:ByteArray} {f:α->PS->PR PS β} (h:∀ v p,Tells (K v p) enc s (f v p)):Tells (nxT d x K qg) enc s (x.bind f):=by
 cases x with
 | stuck=>exact trivial
 | pan a=>exact Tells.of_pan rfl
 | ret v p =>
   have:=h v p
   show Tells _ enc s (f v p);cases hf:f v p with
  | stuck=>exact trivial
  | ret w q=>rw [hf] at this;exact this
  | pan a=>rw [hf] at this;exact this
theorem Tells.cond {β:Type} {c:Bool} {A B:Tree (Out × List CV)} {enc:β->AV} {s:ByteArray} {x y:PR PS β} (h1:Tells A enc s x) (h2:Tells B enc s y):Tells (.br c A B) enc s (bif c then x else y):=by
 cases c
 ·show Tells _ enc s y;cases y with
  | stuck=>exact trivial
  | ret w q=>exact h2
  | pan a=>exact h2
 ·show Tells _ enc s x;cases x with
  | stuck=>exact trivial
  | ret w q=>exact h1
  | pan a=>exact h1
theorem Tells.notc {β:Type} {c:Bool} {A B:Tree (Out × List CV)} {enc:β->AV} {s:ByteArray} {x y:PR PS β} (h1:Tells A enc s x) (h2:Tells B enc s y):Tells (.br (!c) B A) enc s (bif c then x else y):=by
 cases c
 ·show Tells _ enc s y;cases y with
  | stuck=>exact trivial
  | ret w q=>exact h2
  | pan a=>exact h2
 ·show Tells _ enc s x;cases x with
  | stuck=>exact trivial
  | ret w q=>exact h1
  | pan a=>exact h1
theorem Tells.ret {β:Type} {enc:β->AV} {s:ByteArray} {v:β} {p:PS}:Tells (Qy (enc v) s p) enc s (.ret v p):=Tells.of_ret rfl
theorem Tells.pan {β:Type} {enc:β->AV} {s:ByteArray} {a:Int}:Tells (qg a) enc s (.pan a:PR PS β):=Tells.of_pan rfl
theorem Tells.need {β:Type} {c:Bool} {A:Tree (Out × List CV)} {enc:β->AV} {s:ByteArray} {x:PR PS β} (h:c=true->Tells A enc s x):Tells (.need c A) enc s (bif c then x else .stuck):=by
 cases c
 ·exact trivial
 ·have:=h rfl
  show Tells _ enc s x;cases x with
  | stuck=>exact trivial
  | ret w q=>exact this
  | pan a=>exact this
def spU {α:Type} (F:ByteArray->PS->PR PS α) (rest:List A1) (s:ByteArray) (p:PS):PR PS α:=match rest with | []=>F s p | _=>.stuck
def spW {α:Type} (F:ByteArray->ByteArray->PS->PR PS α) (rest:List A1) (s:ByteArray) (p:PS):PR PS α:=match rest with | [.c (.str w)]=>F w s p | _=>.stuck
def spB {α:Type} (F:Bool->ByteArray->PS->PR PS α) (rest:List A1) (s:ByteArray) (p:PS):PR PS α:=match rest with | [.c (.bool b)]=>F b s p | _=>.stuck
def spI {α:Type} (F:Int->ByteArray->PS->PR PS α) (rest:List A1) (s:ByteArray) (p:PS):PR PS α:=match rest with | [.c (.int .i64 n)]=>F n s p | _=>.stuck
section
variable {P:Program} {α:Type} {H:Hd} {X:HdP} {d:α} {enc:α->AV}
theorem Uu (hH:HdOk P H) (hX:XOk P X) (k f:Nat) {F:ByteArray->PS->PR PS α} (h:∀ s n t a,Tells (kx P H X k f 70 [] [.str s,.int .i64 n,.str t,.int .i64 a]) enc s (F s ⟨n,t,a⟩)):ju P f (localG 70 (uOf d enc (spU F))):=Ba hH hX k f fun rest s n t a=>by
 unfold spU;split
 ·exact h s n t a
 ·exact trivial
theorem jn0 (hH:HdOk P H) (hX:XOk P X) (k f:Nat) {F:ByteArray->ByteArray->PS->PR PS α} (h:∀ w s n t a,Tells (kx P H X k f 70 [.c (.str w)] [.str s,.int .i64 n,.str t,.int .i64 a]) enc s (F w s ⟨n,t,a⟩)):ju P f (localG 70 (uOf d enc (spW F))):=Ba hH hX k f fun rest s n t a=>by
 unfold spW;split
 ·exact h _ s n t a
 ·exact trivial
theorem jqo (hH:HdOk P H) (hX:XOk P X) (k f:Nat) {F:Bool->ByteArray->PS->PR PS α} (h:∀ w s n t a,Tells (kx P H X k f 70 [.c (.bool w)] [.str s,.int .i64 n,.str t,.int .i64 a]) enc s (F w s ⟨n,t,a⟩)):ju P f (localG 70 (uOf d enc (spB F))):=Ba hH hX k f fun rest s n t a=>by
 unfold spB;split
 ·exact h _ s n t a
 ·exact trivial
theorem jrV (hH:HdOk P H) (hX:XOk P X) (k f:Nat) {F:Int->ByteArray->PS->PR PS α} (h:∀ w s n t a,Tells (kx P H X k f 70 [.c (.int .i64 w)] [.str s,.int .i64 n,.str t,.int .i64 a]) enc s (F w s ⟨n,t,a⟩)):ju P f (localG 70 (uOf d enc (spI F))):=Ba hH hX k f fun rest s n t a=>by
 unfold spI;split
 ·exact h _ s n t a
 ·exact trivial
end
noncomputable abbrev H31:Hd:=⟨[pF 27,pF 28,pF 29,pF 32,pF 52,pF 84,pF 185,(53,oG G86)],[(54,nG G87),(113,nG Tz)],[],[]⟩
theorem h31:HdOk Tryz.prog H31:=(((((((((HdOk.nil.ucCons jg2).ucCons p87).pcCons p86).pF 185).pF 84).pF 52).pF 32).pF 29).pF 28).pF 27
abbrev X31:HdP:=⟨[(27,localG 70 (uOf () Qa Nb))],[],[],[],[],0,[27]⟩
theorem x31:XOk Tryz.prog X31:=XOk.nil.loCons jhE (LocFn.localG _ _)
def t85 (s w:ByteArray) (p:PS):Tree (Out × List CV) :=
 .br (!jb p.tx w) (Qy (jgS false) s p) (nxT () (kX s p) (fun _ p1=>Qy (jgS true) s p1) qg)
theorem jl4 (s t w:ByteArray) (n a:Int):kx Tryz.prog H31 X31 10 52 70 [.c (.str w)] [.str s,.int .i64 n,.str t,.int .i64 a]=t85 s w ⟨n,t,a⟩:=by kernel_rfl
abbrev u85:=uOf false jgS (spW fun w s p=>qH (MP s) w p)
theorem jge:ju Tryz.prog 52 (localG 70 u85):=jn0 h31 x31 10 52 fun w s n t a=>by
 rw [jl4];exact Tells.notc (Tells.bind fun _ p=>Tells.ret) Tells.ret
def t33 (ok:Bool) (s:ByteArray) (p:PS):Tree (Out × List CV) :=
 .br (!ok) (qg p.pos) (nxT () (kX s p) (fun _ p1=>Qy (encS p.tx) s p1) qg)
theorem jmi (s t:ByteArray) (ok:Bool) (n a:Int):kx Tryz.prog H31 X31 10 29 70 [.c (.bool ok)] [.str s,.int .i64 n,.str t,.int .i64 a]=t33 ok s ⟨n,t,a⟩:=by kernel_rfl
abbrev u33:=uOf (bs []) encS (spB fun ok s p=>qC (MP s) ok p)
theorem jfa:ju Tryz.prog 29 (localG 70 u33):=jqo h31 x31 10 29 fun ok s n t a=>by
 rw [jmi];exact Tells.notc (Tells.bind fun _ p=>Tells.ret) Tells.pan
abbrev X33:HdP:=⟨[(29,localG 70 u33),(52,localG 70 u85),(27,localG 70 (uOf () Qa Nb))],[],[],[],[],0,[29,52,27]⟩
theorem x33:XOk Tryz.prog X33:=(x31.loCons jge (LocFn.localG _ _)).loCons jfa (LocFn.localG _ _)
def t32 (s w:ByteArray) (p:PS):Tree (Out × List CV) :=
 nxT false (qH (MP s) w p) (fun c p1=>.br (!c) (qg p1.pos) (Qy (Qa ()) s p1)) qg
theorem joh (s t w:ByteArray) (n a:Int):kx Tryz.prog H31 X33 10 28 70 [.c (.str w)] [.str s,.int .i64 n,.str t,.int .i64 a]=t32 s w ⟨n,t,a⟩:=by kernel_rfl
abbrev u32:=uOf () Qa (spW fun w s p=>qJ (MP s) w p)
theorem jfX:ju Tryz.prog 28 (localG 70 u32):=jn0 h31 x33 10 28 fun w s n t a=>by
 rw [joh];exact Tells.bind fun c p=>Tells.notc Tells.ret Tells.pan
def jol (most:Int) (s:ByteArray) (p:PS):Tree (Out × List CV) :=
 .need (nmD (jE p.tx)) (nxT (bs []) (qC (MP s) (bif nmO (jE p.tx) then le (nmV (jE p.tx)) most else false) p) (fun _ p1=>Qy (HG (nmV (jE p.tx))) s p1) qg)
theorem jiG (s t:ByteArray) (most n a:Int):kx Tryz.prog H31 X33 10 84 70 [.c (.int .i64 most)] [.str s,.int .i64 n,.str t,.int .i64 a]=jol most s ⟨n,t,a⟩:=by kernel_rfl
abbrev jmn:=uOf 0 HG (spI fun most s p=>kC (MP s) most p)
theorem jib:ju Tryz.prog 84 (localG 70 jmn):=jrV h31 x33 10 84 fun most s n t a=>by
 rw [jiG];unfold jol kC;show Tells _ _ _ (match jE t with | none=>.stuck | some (n,ok)=>_)
 simp only;cases jE t with
 | none=>exact trivial
 | some r =>
   obtain ⟨v,ok⟩:=r;exact Tells.need (c:=true) fun _=>Tells.bind fun _ p=>Tells.ret
def jrz (s:ByteArray) (p:PS):Tree (Out × List CV) :=
 nxT (bs []) (qC (MP s) (yz p.tx) p) (fun _ p1=>Qy (HG (J2 p.tx)) s p1) qg
theorem jlp (s t:ByteArray) (n a:Int):kx Tryz.prog H31 X33 10 185 70 [] [.str s,.int .i64 n,.str t,.int .i64 a]=jrz s ⟨n,t,a⟩:=by kernel_rfl
abbrev jo5:=uOf 0 HG (spU fun s p=>Kz (MP s) p)
theorem jiD:ju Tryz.prog 185 (localG 70 jo5):=Uu h31 x33 10 185 fun s n t a=>by
 rw [jlp];exact Tells.bind fun _ p=>Tells.ret
def lK:Nat × (List A1->Tree AV):=(4294967292,fun _=>.fail)
theorem HdOk.lK {P:Program} {pc hc lh mc} (h:HdOk P ⟨pc,hc,lh,mc⟩):HdOk P ⟨lK::pc,hc,lh,mc⟩:=h.tcCons (f:=4294967292) (fun _ _ h=>by simp [Tree.sel] at h)
noncomputable abbrev HL0:Hd:=⟨[lK],[],[],[]⟩
theorem hL0:HdOk Tryz.prog HL0:=HdOk.lK HdOk.nil
def Yt (l:List Int):Val:=Val.ofFlat 1 (l.map (.int .i64))
def F8 (w:ByteArray):AV:=.tup [.c (.sl [.int .i64] (zZ (zL w)).length (Yt (zZ (zL w)))),.c (.bool (!(Nat.beq (zL w) 0)))]
def jac:List A1->Option (Bool × AV)
 | [.c (.str w)]=>some (true,F8 w)
 | _=>none
def jgb (w:ByteArray):Tree AV :=
 let L:=fun l:List Int=>Tree.leaf (AV.tup [.c (.sl [.int .i64] l.length (Yt l)),.c (.bool true)])
 let A:=L [0,1]
 let Z:=Tree.leaf (AV.tup [.c .nils,.c (.bool false)])
 let B:=L [0]
 let R4:=.br (jb w Zu) (.br (jb w Zu) B Z) (.br (jb w wUp) (.br (jb w wUp) B Z) (.br (jb w ZR) (.br (jb w ZR) B Z) (.br (jb w zP) (.br (jb w zP) B Z)
  (.br (jb w zJ) (.br (jb w zJ) B Z) (.br (jb w QL) (.br (jb w QL) B Z) (.br (jb w Wt) B Z))))))
 let R1:=.br (jb w Wa) (L [0,1,2]) (.br (jb w X7) (L [0,1,0]) R4)
 .br (jb w Zz) (.br (jb w Zz) A R1) (.br (jb w Xn) A R1)
theorem jk4 (w:ByteArray):j5 Tryz.prog HL0 10 109 [.c (.str w)]=jgb w:=by kernel_rfl
theorem jhk {es:List Sh} {ρ:Val} {b:Bool}:leA (.tup [.c .nils,.c (.bool b)]) (.tup [.c (.sl es 0 ρ),.c (.bool b)]) :=
 QS (.cons (.c fun _ _ _ h=>by cases h;exact .slnil) (.cons (.c leC.refl) .nil))
theorem jgF (w:ByteArray):(jgb w).All (fun x=>leA x (F8 w)):=by
 unfold jgb F8 zL;cases jb w Zz with
 | true=>exact jl rfl leA.refl
 | false =>
 cases jb w Xn with
 | true=>exact jl rfl leA.refl
 | false =>
 cases jb w Wa with
 | true=>exact jl rfl leA.refl
 | false =>
 cases jb w X7 with
 | true=>exact jl rfl leA.refl
 | false =>
 cases jb w Zu with
 | true=>exact jl rfl leA.refl
 | false =>
 cases jb w wUp with
 | true=>exact jl rfl leA.refl
 | false =>
 cases jb w ZR with
 | true=>exact jl rfl leA.refl
 | false =>
 cases jb w zP with
 | true=>exact jl rfl leA.refl
 | false =>
 cases jb w zJ with
 | true=>exact jl rfl leA.refl
 | false =>
 cases jb w QL with
 | true=>exact jl rfl leA.refl
 | false =>
 cases jb w Wt with
 | true=>exact jl rfl leA.refl
 | false=>exact jl rfl jhk
theorem jnS:UcOne Tryz.prog 109 (nG jac):=by
 refine jX (H:=HL0) hL0 10 109 ?_;intro args r h;unfold jac at h;split at h
 ·rename_i w;simp only [sIq,pIq,true_and] at h;subst h;exact ⟨_,jk4 w,jgF w⟩
 ·cases h
noncomputable abbrev HO:Hd:=⟨[(53,oG G86)],[(113,nG Tz)],[],[]⟩
theorem hO:HdOk Tryz.prog HO:=(HdOk.nil.ucCons jg2).pcCons p86
def jb9:List A1->Option (Bool × AV)
 | [.c (.int .i64 k),.c (.str w)]=>some (nmD (jE w),.one (.c (.bool (zc k w))))
 | _=>none
def jlK (k:Int) (w:ByteArray):Tree AV :=
 .need (nmD (jE w)) (.br (k==1) (.leaf (.one (.c (.bool (nmO (jE w)))))) (.br (k==2) (.leaf (.one (.c (.bool (bif yz w then true else jb w jaz))))) (.leaf (.one (.c (.bool (yz w)))))))
theorem jlb (k:Int) (w:ByteArray):j5 Tryz.prog HO 10 110 [.c (.int .i64 k),.c (.str w)]=jlK k w:=by kernel_rfl
theorem jmP:UcOne Tryz.prog 110 (nG jb9):=by
 refine jX (H:=HO) hO 10 110 ?_;intro args r h;unfold jb9 at h;split at h
 ·rename_i k w;simp only [sIq,pIq] at h;obtain ⟨h1,rfl⟩:=h;refine ⟨_,jlb k w,?_⟩;unfold jlK zc;refine ⟨h1,?_⟩;cases (k==1) with
  | true=>exact jl rfl leA.refl
  | false=>cases (k==2)<;>exact jl rfl leA.refl
 ·cases h
noncomputable abbrev az:Hd:=⟨[pF 27,pF 28,pF 29,pF 32,pF 52,(53,oG G86)],[(109,nG jac),(110,nG jb9)],[],[]⟩
theorem jra:HdOk Tryz.prog az:=((((((((HdOk.nil.ucCons jmP).ucCons jnS).pcCons p86).pF 52).pF 32).pF 29).pF 28).pF 27)
abbrev jlJ:HdP:=⟨[(29,localG 70 u33),(52,localG 70 u85),(27,localG 70 (uOf () Qa Nb))],[],[],[],[],4,[29,52,27]⟩
theorem jrq:XOk Tryz.prog jlJ:=((XOk.nil.loCons jhE (LocFn.localG _ _)).loCons jge (LocFn.localG _ _)).loCons jfa (LocFn.localG _ _)
def Gc (l:List ByteArray):AV:=.one (.c (.sl [.str] l.length (za l)))
def qT (w:ByteArray):Val:=Val.ofFlat 1 [.str w]
def Rf (s:ByteArray) (n:Nat) (ρ:Val):Nat->Nat->Nat->Val->PS->Tree (Out × List CV)
 | 0,_,_,_,_=>.fail
 | k + 1, j, m, σ, p => .br (lt (j : Int) (ja n)) (.need (jc (j : Int) n) (.need (nmD (jE p.tx)) (nxT (bs []) (qC (MP s) (zc (((ρ.at j).at 0).N []) p.tx) p) (fun w p1 => .need (Nat.ble ((m + 1) * 16) 140737488355328) (Rf s n ρ k (j + 1) (m + 1) (Val.cat m σ (qT w)) p1)) qg)))
   (.leaf (.ret (.one (.c (.sl [.str] m σ))),qB s p))
def jme (s:ByteArray) (p:PS):Tree (Out × List CV) :=
 nxT (bs []) (qC (MP s) (!(Nat.beq (zL p.tx) 0)) p) (fun w p1=>Rf s (zZ (zL p.tx)).length (Yt (zZ (zL p.tx))) 4 0 1 (qT w) p1) qg
theorem jk2 (s t:ByteArray) (n a:Int):kx Tryz.prog az jlJ 10 82 70 [] [.str s,.int .i64 n,.str t,.int .i64 a]=.need true (jme s ⟨n,t,a⟩):=by kernel_rfl
theorem Gx {α β:Type} (f:α->β):∀ (l:List α) (i:Nat),nth (l.map f) i=(nth l i).map f
 | [],_=>rfl
 | _::_,0=>rfl
 | _::l,i+1=>Gx f l i
theorem QR (l:List ByteArray) (i:Nat) (w:ByteArray) (h:nth l i=some w):((za l).at i).at 0=Val.ofC (.str w):=by
 show (match nth (l.map .str) (i*1+0) with | some x=>Val.ofC x | none=>Val.zero)=_
 rw [Nat.mul_one,Nat.add_zero,Gx,h];rfl
theorem yr {α:Type}:∀ (l r:List α) (i:Nat),i<l.length->nth (l++r) i=nth l i
 | [],_,_,h=>by simp at h
 | _::_,_,0,_=>rfl
 | _::l,r,i+1,h=>yr l r i (by simpa using h)
theorem Xt {α:Type}:∀ (l:List α) (x:α) (r:List α),nth (l++x::r) l.length=some x
 | [],_,_=>rfl
 | _::l,x,r=>Xt l x r
theorem qX {α:Type}:∀ (l:List α) (i:Nat),i<l.length->∃ x,nth l i=some x
 | [],_,h=>by simp at h
 | a::_,0,_=>⟨a,rfl⟩
 | _::l,i+1,h=>qX l i (by simpa using h)
def RowIs (σ:Val) (l:List ByteArray):Prop:=∀ i w,nth l i=some w->(((σ.at i).at 0).S [])=w
theorem RowIs.snoc {σ:Val} {l:List ByteArray} (h:RowIs σ l) (w:ByteArray):RowIs (Val.cat l.length σ (qT w)) (l++[w]):=by
 intro i x hx;show (bif Nat.blt i l.length then ((σ.at i).at 0).S [] else ((qT w).at (i - l.length)).S (0::[]))=x;by_cases hi:i<l.length
 ·rw [yr _ _ _ hi] at hx;rw [show Nat.blt i l.length=true from Nat.blt_eq.mpr hi];exact h i x hx
 ·have hlt:=jo hx;simp only [lAq,List.length_cons,List.length_nil] at hlt;have hi2:i=l.length:=by omega
  subst hi2;rw [Xt] at hx
  have hb:Nat.blt l.length l.length=false:=by
   cases hh:Nat.blt l.length l.length
   ·rfl
   ·have:=Nat.blt_eq.mp hh;omega
  rw [hb,Nat.sub_self];exact Option.some.inj hx
theorem RowIs.le {σ:Val} {l:List ByteArray} (h:RowIs σ l):leA (.one (.c (.sl [.str] l.length σ))) (Gc l):=by
 refine YQ (.c (Br fun i f s hi hs => ?_));obtain ⟨w,hw⟩:=qX l i hi;cases f with
 | zero =>
   simp only [nth,sIq] at hs;subst hs;have h2:=h i w hw;have h3:=QR l i w hw;rw [h3];show CV.str _=CV.str _;rw [h2];rfl
 | succ f=>simp [nth] at hs
theorem jfC (l:List Int) (i:Nat) (k:Int) (h:nth l i=some k):(((Yt l).at i).at 0).N []=k:=by
 show Val.N (match nth (l.map (.int .i64)) (i*1+0) with | some x=>Val.ofC x | none=>Val.zero) []=_
 rw [Nat.mul_one,Nat.add_zero,Gx,h];rfl
theorem PR.bind_assoc {σ α β γ:Type} (x:PR σ α) (f:α->σ->PR σ β) (g:β->σ->PR σ γ):(x.bind f).bind g=x.bind fun v s=>(f v s).bind g:=by cases x<;>rfl
theorem Ks {α:Type}:∀ (l:List α) (j:Nat) (x:α) (r:List α),l.drop j=x::r->nth l j=some x∧l.drop (j+1)=r
 | [],j,x,r,h=>by simp at h
 | a::l,0,x,r,h=>by simp at h;exact ⟨congrArg some h.1,h.2⟩
 | _::l,j+1,x,r,h=>Ks l j x r (by simpa using h)
theorem B2 (s : ByteArray) (ks : List Int) (hks : ks.length <= 3) : ∀ (r : List Int) (j k : Nat) (σ : Val) (p : PS) (l : List ByteArray), ks.drop j = r -> j + r.length = ks.length -> r.length < k -> l.length = j + 1 -> RowIs σ l ->
  Tells (Rf s ks.length (Yt ks) k j l.length σ p) Gc s ((yp (MP s) r p).bind fun r' q=>.ret (l++r') q)
 | [], j, k, σ, p, l, hd, hj, hk, hl, hr => by
   obtain ⟨k,rfl⟩ : ∃ k',k=k'+1:=⟨k - 1,by omega⟩
   have hlt:lt (j:Int) (ja ks.length)=false:=by
    unfold lt ja;simp at hj ⊢;omega
   show Tells (.br (lt (j:Int) (ja ks.length)) _ _) Gc s (.ret (l++[]) p);rw [hlt,List.append_nil];exact ⟨_,rfl,.ret hr.le LeL.refl rfl⟩
 | c :: r, j, k, σ, p, l, hd, hj, hk, hl, hr => by
   obtain ⟨k,rfl⟩ : ∃ k',k=k'+1:=⟨k - 1,by omega⟩
   obtain ⟨h1,h2⟩:=Ks ks j c r hd;have hlen:j<ks.length:=jo h1
   have hlt:lt (j:Int) (ja ks.length)=true:=by
    unfold lt ja
    simp;omega
   have hin:jc (j:Int) ks.length=true:=by
    unfold jc le lt ja
    simp;omega
   have hkind:(((Yt ks).at j).at 0).N []=c:=jfC ks j c h1;have hble:Nat.ble ((l.length+1)*16) 140737488355328=true:=Nat.ble_eq.mpr (by simp only [List.length_cons] at hj;omega)
   show Tells (.br (lt (j:Int) (ja ks.length)) (.need (jc (j:Int) ks.length) (.need (nmD (jE p.tx)) (nxT (bs []) (qC (MP s) (zc (((Yt ks).at j).at 0 |>.N []) p.tx) p) (fun w p1=>.need (Nat.ble ((l.length+1)*16) 140737488355328) (Rf s ks.length (Yt ks) k (j+1) (l.length+1) (Val.cat l.length σ (qT w)) p1)) qg))) _) Gc s (((QU (MP s) c p).bind fun w s1=>(yp (MP s) r s1).bind fun l s2=>.ret (w::l) s2).bind fun r' q=>.ret (l++r') q);rw [hlt,hin,hkind,hble];unfold QU;show Tells _ Gc s (((bif nmD (jE p.tx) then qC (MP s) (zc c p.tx) p else .stuck).bind _).bind _);cases nmD (jE p.tx) with
  | false=>exact trivial
  | true =>
    simp only [cond_true];cases qC (MP s) (zc c p.tx) p with
   | stuck=>exact trivial
   | pan a=>exact Tells.of_pan rfl
   | ret w p1 =>
     have ih:=B2 s ks hks r (j+1) k (Val.cat l.length σ (qT w)) p1 (l++[w]) h2 (by simp only [List.length_cons] at hj;omega) (by simp only [List.length_cons] at hk;omega) (by simp [hl]) (hr.snoc w)
     have e:(((PR.ret w p1).bind fun w s1=>(yp (MP s) r s1).bind fun l s2=>.ret (w::l) s2).bind fun r' q=>.ret (l++r') q)=(yp (MP s) r p1).bind fun r' q=>PR.ret (l++[w]++r') q:=by
      show ((yp (MP s) r p1).bind _).bind _=_;rw [PR.bind_assoc];congr 1;funext v q;show PR.ret (l++(w::v)) q=_;rw [List.append_assoc];rfl
     rw [e];rw [lAq] at ih;exact ih
theorem LB (w:ByteArray):(zZ (zL w)).length<=3:=by
 unfold zZ;split<;>simp
abbrev jn8:=uOf [] Gc (spU fun s p=>z6 (MP s) p)
theorem jqc:ju Tryz.prog 82 (localG 70 jn8):=Uu jra jrq 10 82 fun s n t a=>by
 rw [jk2]
 have h:Tells (jme s ⟨n,t,a⟩) Gc s (z6 (MP s) ⟨n,t,a⟩):=Tells.bind fun w p1=>by
  have:=B2 s (zZ (zL t)) (LB t) _ 0 4 (qT w) p1 [w] rfl (by simp) (by have:=LB t;simp;omega) rfl (by
   intro i x hx
   match i,hx with
   | 0,hx=>exact Option.some.inj hx
   | i+1,hx=>simp [nth] at hx)
  exact this
 cases hx:z6 (MP s) ⟨n,t,a⟩ with
 | stuck=>exact trivial
 | ret v q=>rw [hx] at h;exact h
 | pan a=>rw [hx] at h;exact h
structure RX where
 op:ByteArray
 v:Int
 n:Nat
 ρ:Val
def RX.cells (e:RX):List CV:=[.str e.op,.int .i64 e.v,.sl (jm 0) e.n e.ρ]
def exR (op:ByteArray) (v:Int) (l:List RX):RX:=⟨op,v,l.length,Val.ofFlat 3 (l.flatMap RX.cells)⟩
structure RS where
 kind:ByteArray
 wn:Nat
 wρ:Val
 cond:RX
 bn:Nat
 bρ:Val
 en:Nat
 eρ:Val
 at_:Int
def RS.cells (s:RS):List CV:=[.str s.kind,.sl [.str] s.wn s.wρ,.str s.cond.op,.int .i64 s.cond.v,.sl (jm 0) s.cond.n s.cond.ρ,.sl (jm 1) s.bn s.bρ,.sl (jm 1) s.en s.eρ,.int .i64 s.at_]
def jO (l:List RS):Val:=Val.ofFlat 8 (l.flatMap RS.cells)
def stR (kind:ByteArray) (words:List ByteArray) (cond:RX) (body els:List RS) (at_:Int):RS:=⟨kind,words.length,za words,cond,body.length,jO body,els.length,jO els,at_⟩
def AR:Alg RX RS:=⟨exR,stR⟩
def dX:RX:=exR (bs []) 0 []
def J7 (e:RX):AV:=.one (.agg e.cells)
abbrev jgM (E:ByteArray->PS->PR PS RX):=uOf dX J7 (spU E)
noncomputable abbrev Yc:Hd:=⟨[lK,pF 27,pF 28,pF 29,pF 32,pF 52,pF 83,pF 84,pF 111,pF 112,pF 123,pF 138,pF 155,pF 185],[],[],[]⟩
theorem Kf:HdOk Tryz.prog Yc:=HdOk.lK (((((((((((((HdOk.nil.pF 185).pF 155).pF 138).pF 123).pF 112).pF 111).pF 84).pF 83).pF 52).pF 32).pF 29).pF 28).pF 27)
abbrev GK:List (Nat × (List A1->Mem->Tree (Out × Mem))):=[(185,localG 70 jo5),(84,localG 70 jmn),(28,localG 70 u32),(29,localG 70 u33),(52,localG 70 u85),(27,localG 70 (uOf () Qa Nb))]
abbrev joD (E:ByteArray->PS->PR PS RX):HdP:=⟨(83,localG 70 (jgM E))::GK,[],[],[],[],0,[83,185,84,28,29,52,27]⟩
theorem jrp {E:ByteArray->PS->PR PS RX} (hE:ju Tryz.prog 83 (localG 70 (jgM E))):XOk Tryz.prog (joD E) :=
 ((((x33.loCons jfX (LocFn.localG _ _)).loCons jib (LocFn.localG _ _)).loCons jiD (LocFn.localG _ _)).loCons hE (LocFn.localG _ _))
def Rs (op:ByteArray) (v:Int) (s:ByteArray) (p:PS):Tree (Out × List CV):=.leaf (.ret (.one (.agg [.str op,.int .i64 v,.nils])),qB s p)
def jms (E:ByteArray->PS->PR PS RX) (s:ByteArray) (p:PS):Tree (Out × List CV) :=
 let A:=nxT () (kX s p) (fun _ p1=>Rs p.tx 0 s p1) qg
 let B:=nxT () (kX s p) (fun _ p1=>nxT 0 (Kz (MP s) p1) (fun n p2=>Rs p.tx n s p2) qg) qg
 let C:=nxT () (kX s p) (fun _ p1=>nxT dX (E s p1) (fun e p2=>nxT () (qJ (MP s) Zc p2) (fun _ p3=>Qy (J7 e) s p3) qg) qg) qg
 let D:=nxT 0 (kC (MP s) 1073741824 p) (fun n p1=>Rs qy n s p1) qg
 let R2:=.br (jb p.tx ZI) C D
 let R1:=.br (jb p.tx zy) (.br (jb p.tx zy) B R2) (.br (jb p.tx qv) (.br (jb p.tx qv) B R2) (.br (jb p.tx ym) (.br (jb p.tx ym) B R2)
  (.br (jb p.tx zu) (.br (jb p.tx zu) B R2) (.br (jb p.tx q7) B R2))))
 .br (jb p.tx qj) (.br (jb p.tx qj) A R1) (.br (jb p.tx zC) A R1)
theorem jjG (E:ByteArray->PS->PR PS RX) (s t:ByteArray) (n a:Int):kx Tryz.prog Yc (joD E) 10 155 70 [] [.str s,.int .i64 n,.str t,.int .i64 a]=jms E s ⟨n,t,a⟩:=by kernel_rfl
theorem Xj {op:ByteArray} {v:Int} {s:ByteArray} {p:PS}:Tells (Rs op v s p) J7 s (.ret (exR op v []) p) :=
 ⟨_,rfl,.ret (YQ (.agg (.cons leC.refl (.cons leC.refl (.cons (fun _ _ _ h=>by cases h;exact .slnil) .nil))))) LeL.refl rfl⟩
theorem Tells.or2 {β : Type} {c1 c2 : Bool} {A B : Tree (Out × List CV)} {enc : β -> AV} {s : ByteArray} {x y : PR PS β} (h1 : Tells A enc s x) (h2 : Tells B enc s y) :
  Tells (.br c1 (.br c1 A B) (.br c2 A B)) enc s (bif (c1||c2) then x else y):=by
 have k1:∀ T:Tree (Out × List CV),T.sel=A.sel->Tells T enc s x:=fun T e=>by
  cases x with
  | stuck=>exact trivial
  | ret v p=>obtain ⟨z,hz,hl⟩:=h1;exact ⟨z,by rw [e];exact hz,hl⟩
  | pan a=>obtain ⟨z,hz,hl⟩:=h1;exact ⟨z,by rw [e];exact hz,hl⟩
 have k2:∀ T:Tree (Out × List CV),T.sel=B.sel->Tells T enc s y:=fun T e=>by
  cases y with
  | stuck=>exact trivial
  | ret v p=>obtain ⟨z,hz,hl⟩:=h2;exact ⟨z,by rw [e];exact hz,hl⟩
  | pan a=>obtain ⟨z,hz,hl⟩:=h2;exact ⟨z,by rw [e];exact hz,hl⟩
 cases c1<;>cases c2
 ·exact k2 _ rfl
 ·exact k1 _ rfl
 ·exact k1 _ rfl
 ·exact k1 _ rfl
theorem Tells.or5 {β : Type} {c1 c2 c3 c4 c5 : Bool} {A B : Tree (Out × List CV)} {enc : β -> AV} {s : ByteArray} {x y : PR PS β} (h1 : Tells A enc s x) (h2 : Tells B enc s y) :
  Tells (.br c1 (.br c1 A B) (.br c2 (.br c2 A B) (.br c3 (.br c3 A B) (.br c4 (.br c4 A B) (.br c5 A B))))) enc s (bif (c1||(c2||(c3||(c4||c5)))) then x else y):=by
 have k1:∀ T:Tree (Out × List CV),T.sel=A.sel->Tells T enc s x:=fun T e=>by
  cases x with
  | stuck=>exact trivial
  | ret v p=>obtain ⟨z,hz,hl⟩:=h1;exact ⟨z,by rw [e];exact hz,hl⟩
  | pan a=>obtain ⟨z,hz,hl⟩:=h1;exact ⟨z,by rw [e];exact hz,hl⟩
 have k2:∀ T:Tree (Out × List CV),T.sel=B.sel->Tells T enc s y:=fun T e=>by
  cases y with
  | stuck=>exact trivial
  | ret v p=>obtain ⟨z,hz,hl⟩:=h2;exact ⟨z,by rw [e];exact hz,hl⟩
  | pan a=>obtain ⟨z,hz,hl⟩:=h2;exact ⟨z,by rw [e];exact hz,hl⟩
 cases c1
 ·cases c2
  ·cases c3
   ·cases c4
    ·cases c5
     ·exact k2 _ rfl
     ·exact k1 _ rfl
    ·exact k1 _ rfl
   ·exact k1 _ rfl
  ·exact k1 _ rfl
 ·exact k1 _ rfl
abbrev jru (E:ByteArray->PS->PR PS RX):=uOf dX J7 (spU fun s p=>Yk (MP s) AR (E s) p)
theorem jpn {E:ByteArray->PS->PR PS RX} (hE:ju Tryz.prog 83 (localG 70 (jgM E))):ju Tryz.prog 155 (localG 70 (jru E)):=Uu Kf (jrp hE) 10 155 fun s n t a=>by
 rw [jjG];unfold jms Yk;refine Tells.or2 (Tells.bind fun _ p1=>Xj) (Tells.or5 (Tells.bind fun _ p1=>Tells.bind fun m p2=>Xj) (Tells.cond ?_ ?_))
 ·exact Tells.bind fun _ p1=>Tells.bind fun e p2=>Tells.bind fun _ p3=>Tells.ret
 ·exact Tells.bind fun m p1=>Xj
def leAB (x y:AV):Prop:=∀ (F:Nat->Prop) (w:World) (bs:List BI) (v:Value),AV.Rel F w bs x v->AV.Rel F w bs y v
theorem leAB.refl {x:AV}:leAB x x:=fun _ _ _ _ h=>h
theorem leAB.of {x y:AV} (h:leA x y) (hc:aw x=true):leAB x y:=fun F w bs v hx =>
 AV.Rel.grow (bs:=[]) ⟨lRq _,fun _ _ h=>h,fun _ _ _=>rfl,fun k p h=>by simp [nth] at h⟩ (h F w v (hx.closed hc))
inductive LeSl:List (Nat × AV)->List (Nat × AV)->Prop
 | nil:LeSl [] []
 | cons {i x y l r}:leAB x y->LeSl l r->LeSl ((i,x)::l) ((i,y)::r)
theorem LeSl.look {l r:List (Nat × AV)} (h:LeSl l r) (i:Nat):(Qs r i=none)∨∃ x y,Qs l i=some x∧Qs r i=some y∧leAB x y:=by
 induction h with
 | nil=>exact .inl rfl
 | @cons k x y l r hxy _ ih =>
   simp only [Qs];by_cases hk:(k==i)=true
   ·rw [if_pos hk,if_pos hk];exact .inr ⟨x,y,rfl,rfl,hxy⟩
   ·rw [if_neg hk,if_neg hk];exact ih
theorem yV {n:Nat} {l r:List (Nat × AV)} {m m':Mem} (hl:LeSl l r) (hm:∀ (P:Program) F w bs,MemRel P F w bs m->MemRel P F w bs m'):StWk (mkS n l m) (mkS n r m'):=by
 intro P D F w bs a hs;refine ⟨hs.defers,?_,fun i sl x h1 h2 => ?_,hm P F w bs hs.mem⟩
 ·have:=hs.len
  simp only [mkS] at this ⊢;rw [← this]
  have key:∀ (l:List (Nat × AV)) n i,(mkL l n i).length=n:=by
   intro l n
   induction n with
   | zero=>intro i;rfl
   | succ n ih=>intro i;simp [mkL,ih]
  rw [key,key]
 ·simp only [mkS] at h1;rw [UR] at h1;split at h1
  rotate_left
  ·cases h1
  rename_i hlt;simp only [sIq,Nat.zero_add] at h1;rcases hl.look i with hn | ⟨u,v,hu,hv,hle⟩
  ·rw [hn] at h1;subst h1;exact ⟨fun _=>trivial,fun h=>(h jw).elim⟩
  ·rw [hv] at h1;subst h1
   have:=hs.slots i ⟨[],u⟩ x (by simp only [mkS];rw [UR,if_pos hlt,Nat.zero_add,hu]) h2
   exact ⟨fun hk=>hle _ _ _ _ (this.1 hk),fun h=>(h jw).elim⟩
theorem kI {T : TypeId} {cs ds : List CV} {b : Nat} {m m' : Mem} (hb : nth m b = some (some (T, cs))) (hr : je cs = false) (hc : cs.all closedC = true) (hl : LeL cs ds) (hr' : je ds = false) (hm : jk m b (some (T, ds)) = m') :
  ∀ (P:Program) F w bs,MemRel P F w bs m->MemRel P F w bs m':=fun _ _ _ _ h=>hm▸h.cellsLe hb hr hc hl hr'
abbrev CE:=CP × RX
abbrev DE:=Option (CP × RX)
def Yh:List CV:=[.any,.any,.any]
def jhG (os:List ByteArray):AV:=.one (.c (.sl [.str] os.length (za os)))
def SZ (os:List ByteArray) (fo:Nat) (c:CP):St :=
 mkS 29 [(0,.one (.c (.ptr 0 0))),(1,jhG os),(2,.one (.c (.fn (.func fo) [.ptr 0 0] []))),(6,.one (.c (.ptr 2 0)))] [some (70,qB c.1 c.2),some (94,Yh),some (94,Yh)]
def SL (os:List ByteArray) (fo:Nat) (c:CE):St :=
 mkS 29 [(0,.one (.c (.ptr 0 0))),(1,jhG os),(2,.one (.c (.fn (.func fo) [.ptr 0 0] []))),(6,.one (.c (.ptr 2 0))),(7,.one (.c (.ptr 3 0)))] [some (70,qB c.1.1 c.1.2),some (94,Yh),some (94,Yh),some (94,c.2.cells)]
def SE (c:DE):St:=match c with
 | some c=>mkS 29 [(6,.one (.c (.ptr 2 0)))] [some (70,qB c.1.1 c.1.2),some (94,Yh),some (94,c.2.cells)]
 | none=>mkS 29 [(6,.one (.c (.ptr 2 0)))] [some (70,Ji),some (94,Yh),some (94,Yh)]
def Yx (n:Nat) (ρ:Val):Nat->List ByteArray->Bool
 | j,[]=>Nat.beq n j
 | j,w::r=>jb (((ρ.at j).at 0).S []) w&&Yx n ρ (j+1) r
def flat3 (cs:List CV):Bool:=cs.all closedC&&Nat.beq cs.length 3&&!je cs
def Ho (cs:List CV):Bool:=cs.all closedC&&Nat.beq cs.length 4&&!je cs
def Dh:List CV->Option RX
 | [.str o,.int .i64 v,.sl es n ρ]=>if shEq.shsEq es (jm 0) then some ⟨o,v,n,ρ⟩ else none
 | _=>none
def WE:List CV->Option CP
 | [.str s,.int .i64 n,.str t,.int .i64 a]=>some (s,⟨n,t,a⟩)
 | _=>none
def jeF (os:List ByteArray) (fo:Nat):List (Nat × AV)->Mem->Option CP
 | [(0, .one (.c (.ptr 0 0))), (1, .one (.c (.sl [.str] n ρ))), (2, .one (.c (.fn (.func f) [.ptr 0 0] []))), (6, .one (.c (.ptr 2 0)))], [some (70, c0), some (94, c1), some (94, c2)] =>
   if Nat.beq f fo&&Yx n ρ 0 os&&flat3 c1&&flat3 c2 then WE c0 else none
 | _,_=>none
def jeE (os:List ByteArray) (fo:Nat):List (Nat × AV)->Mem->Option CE
 | [(0, .one (.c (.ptr 0 0))), (1, .one (.c (.sl [.str] n ρ))), (2, .one (.c (.fn (.func f) [.ptr 0 0] []))), (6, .one (.c (.ptr 2 0))), (7, .one (.c (.ptr 3 0)))], [some (70, c0), some (94, c1), some (94, c2), some (94, c3)] =>
   if Nat.beq f fo&&Yx n ρ 0 os&&flat3 c1&&flat3 c2 then (match WE c0,Dh c3 with | some p,some e=>some (p,e) | _,_=>none) else none
 | _,_=>none
def getE:List (Nat × AV)->Mem->Option DE
 | [(6, .one (.c (.ptr 2 0)))], [some (70, c0), some (94, c1), some (94, c2)] =>
   if flat3 c1 then (match WE c0,Dh c2 with
    | some p,some e=>some (some (p,e))
    | _,_=>if Ho c0&&flat3 c2 then some none else none) else none
 | _,_=>none
theorem Oj {n:Nat} {ρ:Val}:∀ {os:List ByteArray} {j:Nat},Yx n ρ j os=true->n=j+os.length
 | [],j,h=>by simpa using eBq h
 | w :: r, j, h => by
   simp only [Yx,aTq] at h
   have:=Oj h.2
   simp only [List.length_cons];omega
theorem RR {n:Nat} {ρ:Val}:∀ {os:List ByteArray} {j:Nat},Yx n ρ j os=true->∀ i w,nth os i=some w->((ρ.at (j+i)).at 0).S []=w
 | [],_,_,i,w,h=>by simp [nth] at h
 | x :: r, j, h, 0, w, hw => by
   simp only [Yx,aTq] at h;simp only [nth,sIq] at hw;subst hw;exact Jq h.1
 | x :: r, j, h, i + 1, w, hw => by
   simp only [Yx,aTq] at h
   have:=RR h.2 i w hw
   rwa [show j+1+i=j+(i+1) by omega] at this
theorem D7 {n:Nat} {ρ:Val} {os:List ByteArray} (h:Yx n ρ 0 os=true):leAB (.one (.c (.sl [.str] n ρ))) (jhG os):=by
 have hn:=Oj h;rw [Nat.zero_add] at hn;subst hn;refine leAB.of (RowIs.le (l:=os) (σ:=ρ) fun i w hw => ?_) rfl
 have:=RR h i w hw
 rwa [Nat.zero_add] at this
theorem Zi {cs:List CV} (h:flat3 cs=true):cs.all closedC=true∧je cs=false∧LeL cs Yh:=by
 simp only [flat3,aTq,Bool.not_eq_true'] at h;obtain ⟨⟨h1,h2⟩,h3⟩:=h;have h2:=eBq h2;refine ⟨h1,h3,?_⟩
 match cs,h2 with
 | [a,b,c],_=>exact .cons qZ (.cons qZ (.cons qZ .nil))
theorem B7 {cs:List CV} (h:Ho cs=true):cs.all closedC=true∧je cs=false∧LeL cs Ji:=by
 simp only [Ho,aTq,Bool.not_eq_true'] at h;obtain ⟨⟨h1,h2⟩,h3⟩:=h;have h2:=eBq h2;refine ⟨h1,h3,?_⟩
 match cs,h2 with
 | [a,b,c,d],_=>exact .cons qZ (.cons qZ (.cons qZ (.cons qZ .nil)))
theorem VO {cs:List CV} {e:RX} (h:Dh cs=some e):cs=e.cells:=by
 unfold Dh at h;split at h
 ·split at h
  ·rename_i hs
   have:=jj hs
   subst this;cases h;rfl
  ·cases h
 ·cases h
theorem JC {cs:List CV} {c:CP} (h:WE cs=some c):cs=qB c.1 c.2:=by
 unfold WE at h;split at h
 ·cases h;rfl
 ·cases h
theorem jj3 (os:List ByteArray) (fo:Nat):∀ l m c,jeF os fo l m=some c->StWk (mkS 29 l m) (SZ os fo c):=by
 intro l m c h;unfold jeF at h;split at h
 ·rename_i n ρ f c0 c1 c2;split at h
  ·rename_i hc;simp only [aTq] at hc;obtain ⟨⟨⟨hf,ho⟩,h1⟩,h2⟩:=hc;have hf:=eBq hf;subst hf;rw [JC h];obtain ⟨a1,a2,a3⟩:=Zi h1;obtain ⟨b1,b2,b3⟩:=Zi h2;refine yV (.cons leAB.refl (.cons (D7 ho) (.cons leAB.refl (.cons leAB.refl .nil)))) fun P F w bs hm => ?_;exact kI (b:=2) (m:=[some (70,qB c.1 c.2),some (94,Yh),some (94,c2)]) rfl b2 b1 b3 rfl rfl P F w bs (kI (b:=1) rfl a2 a1 a3 rfl rfl P F w bs hm)
  ·cases h
 ·cases h
theorem jkd (os:List ByteArray) (fo:Nat):∀ l m c,jeE os fo l m=some c->StWk (mkS 29 l m) (SL os fo c):=by
 intro l m c h;unfold jeE at h;split at h
 ·rename_i n ρ f c0 c1 c2 c3;split at h
  ·rename_i hc;simp only [aTq] at hc;obtain ⟨⟨⟨hf,ho⟩,h1⟩,h2⟩:=hc;have hf:=eBq hf;subst hf;split at h
   ·rename_i p e hp he;cases h;rw [JC hp,VO he];obtain ⟨a1,a2,a3⟩:=Zi h1;obtain ⟨b1,b2,b3⟩:=Zi h2;refine yV (.cons leAB.refl (.cons (D7 ho) (.cons leAB.refl (.cons leAB.refl (.cons leAB.refl .nil))))) fun P F w bs hm => ?_;exact kI (b:=2) (m:=[some (70,qB p.1 p.2),some (94,Yh),some (94,c2),some (94,e.cells)]) rfl b2 b1 b3 rfl rfl P F w bs (kI (b:=1) rfl a2 a1 a3 rfl rfl P F w bs hm)
   ·cases h
  ·cases h
 ·cases h
theorem Me:∀ l m c,getE l m=some c->StWk (mkS 29 l m) (SE c):=by
 intro l m c h;unfold getE at h;split at h
 ·rename_i c0 c1 c2;split at h
  ·rename_i h1;obtain ⟨a1,a2,a3⟩:=Zi h1;split at h
   ·rename_i p e hp he;cases h;rw [JC hp,VO he];exact yV (.cons leAB.refl .nil) (kI (b:=1) rfl a2 a1 a3 rfl rfl)
   ·split at h
    ·rename_i h2;cases h;rw [aTq] at h2;obtain ⟨b1,b2,b3⟩:=B7 h2.1;obtain ⟨d1,d2,d3⟩:=Zi h2.2;refine yV (.cons leAB.refl .nil) fun P F w bs hm => ?_;exact kI (b:=2) (m:=[some (70,Ji),some (94,Yh),some (94,c2)]) rfl d2 d1 d3 rfl rfl P F w bs (kI (b:=0) (m:=[some (70,c0),some (94,Yh),some (94,c2)]) rfl b2 b1 b3 rfl rfl P F w bs (kI (b:=1) rfl a2 a1 a3 rfl rfl P F w bs hm))
    ·cases h
  ·cases h
 ·cases h
def AL (os:List ByteArray) (fo:Nat):Sx.Frame CE DE:=⟨3,29,[0,1,2,6,7],jeE os fo,SL os fo,[6],getE,SE⟩
def AZ (os:List ByteArray) (fo:Nat):Sx.Frame CP DE:=⟨3,29,[0,1,2,6],jeF os fo,SZ os fo,[6],getE,SE⟩
theorem aL (os:List ByteArray) (fo:Nat):(AL os fo).Ok:=⟨jkd os fo,Me⟩
theorem aZ (os:List ByteArray) (fo:Nat):(AZ os fo).Ok:=⟨jj3 os fo,Me⟩
end Go.Proofs.YtiefjlcakpdfeaaGreatDoor