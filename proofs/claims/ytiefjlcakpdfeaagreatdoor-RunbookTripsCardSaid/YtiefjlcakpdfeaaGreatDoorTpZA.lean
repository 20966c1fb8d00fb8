/-
 Part TpZA of the proof: RcH RcI RcJ RcK EngLq.
-/
import Derived.Test.YtiefjlcakpdfeaaGreatDoorTpZ
import Derived.Test.YtiefjlcakpdfeaaGreatDoorTpY
namespace Go.Proofs.YtiefjlcakpdfeaaGreatDoor
open Go Go.Sx Go.RowKit Rb
set_option maxRecDepth 100000
abbrev BS:=Nat × Val × Int
def HQ (x:BS):AV:=.tup [.c (.sl [.rt 1] x.1 x.2.1),.c (.int .i64 x.2.2)]
theorem B9 {e:Int}:leA (B0 e) (HQ (0,.zero,e)):=ZH (.cons (.c fun _ _ _ h=>by cases h;exact .slnil) (.cons (.c leC.refl) .nil))
def Fs (n:Nat) (ρ:Val):Val:=Val.ofFlat 1 [.sl (jl 1) n ρ]
def Xu (u:Bool) (x:RU):RU:=nk u { x with bg:=IntKind.wrap .i64 (x.bg+1) }
def UR (p:Par) (u:Bool) (s:RS) (x:RU):Option (BS × RU) :=
 bif lt 4096 (Xu u x).bg then some ((0,.zero,6),Xu u x)
 else bif jb s.kind wDo then (doS p u s (Xu u x)).bind fun d=>some ((0,.zero,d.1),d.2)
 else bif jb s.kind z6 then nd (Nat.ble ((1+s.wn)*16) 140737488355328) ((QA u (1+s.wn) (Val.cat 1 (yA z6) s.wρ) (Xu u x)).bind fun z=>some ((0,.zero,0),z.2))
 else bif jb s.kind jK then (p.R 1 (Fs s.bn s.bρ) s.cond.v).bind fun r=>some ((r.1,r.2,0),Xu u x)
 else (Y7 p u s (Xu u x)).bind fun b=>some ((1,Fs b.1.1 b.1.2.1,b.1.2.2),b.2)
def jfR (p:Par):MSp:=fun u rest x=>match rest with
 | [a]=>(match NG a with
  | some s=>uS HQ (0,.zero,0) (UR p u s) x
  | none=>.fail)
 | _=>.fail
noncomputable abbrev jd4 (p:Par):Hd:=⟨[],[(97,nG (jbe p.R))],[],[(72,zE Fy),(96,zE (jff p)),(98,zE (jgt p))]⟩
theorem jpo {p:Par} (hp:ParOk p):HdOk Tryz.prog (jd4 p):=(((HdOk.nil.mcCons (joD hp)).mcCons (jpV hp)).mcCons jgs).ucCons hp.rp
def jfI (p:Par) (u:Bool) (s:RS) (x:RU):Tree (AV × RU) :=
 let x1:=Xu u x
 let d:=doS p u s x1
 let dv:=ov1 (0,rU0) d
 let nt:=QA u (1+s.wn) (Val.cat 1 (yA z6) s.wρ) x1
 let z:=ov1 ((),rU0) nt
 let r:=p.R 1 (Fs s.bn s.bρ) s.cond.v
 let rv:=ov1 (0,.zero) r
 let c:=Y7 p u s x1
 let cv:=ov1 ((0,.zero,0),rU0) c
 .br (lt 4096 x1.bg) (.leaf (B0 6,x1)) (.br (jb s.kind wDo) (.need (os1 d) (.leaf (B0 dv.1,nk u dv.2)))
  (.br (jb s.kind z6) (.need (Nat.ble ((1+s.wn)*16) 140737488355328) (.need (os1 nt) (.leaf (B0 0,nk u z.2))))
  (.br (jb s.kind jK) (.need (os1 r) (.leaf (HQ (rv.1,rv.2,0),x1)))
   (.need (os1 c) (.leaf (HQ (1,Fs cv.1.1 cv.1.2.1,cv.1.2.2),nk u cv.2))))))
theorem jjx (p:Par) (u:Bool) (s:RS) (x:RU):JI (ClR u) Tryz.prog (jd4 p) X3 10 71 [.agg s.cells] x=jfI p u s x:=by cases u<;>kernel_rfl
theorem jel (p:Par) (u:Bool) (s:RS) (x:RU):SyC u HQ (jfI p u s x) (UR p u s x):=by
 unfold jfI UR;refine SyC.cond (fun _=>.ret' B9 rfl) fun _=>SyC.cond (fun _ => ?_) fun _=>SyC.cond (fun _=>SyC.nd id fun _ => ?_) fun _=>SyC.cond (fun _ => ?_) fun _ => ?_
 ·cases doS p u s (Xu u x) with
  | none=>exact trivial
  | some y=>exact SyC.need rfl (SyC.rl B9)
 ·cases QA u (1+s.wn) (Val.cat 1 (yA z6) s.wρ) (Xu u x) with
  | none=>exact trivial
  | some y=>exact SyC.need rfl (SyC.rl B9)
 ·cases p.R 1 (Fs s.bn s.bρ) s.cond.v with
  | none=>exact trivial
  | some y=>exact SyC.need rfl SyC.ret
 ·cases Y7 p u s (Xu u x) with
  | none=>exact trivial
  | some y=>exact SyC.need rfl SyC.rt
theorem jpJ {p:Par} (hp:ParOk p):js Tryz.prog 71 (zE (jfR p)):=VQ (H:=jd4 p) (X:=X3) (jpo hp) x3 10 71 fun u rest x z hz=>by
 unfold jfR at hz;split at hz
 rotate_left
 ·cases hz
 split at hz
 rotate_left
 ·cases hz
 rename_i a s hs;rw [K6 hs,jjx];obtain ⟨v,x',h1,rfl⟩:=KB hz;have h:=jel p u s x;rw [h1] at h;exact h
abbrev BF:=Bool->Nat->Val->RU->Option (Int × RU)
def u52 (B:BF):MSp:=fun u rest x=>match rest with
 | [.c (.sl es n ρ)]=>if shEq.shsEq es (jl 1) then uS encI 0 (B u n ρ) x else .fail
 | _=>.fail
noncomputable abbrev H52 (p:Par) (B:BF):Hd:=⟨[],[],[],[(38,zE (u52 B)),(71,zE (jfR p)),(72,zE Fy)]⟩
theorem h52 {p:Par} (hp:ParOk p) {B:BF} (hB:js Tryz.prog 38 (zE (u52 B))):HdOk Tryz.prog (H52 p B):=((HdOk.nil.mcCons jgs).mcCons (jpJ hp)).mcCons hB
structure CO where
 r:Int
 n:Nat
 ρ:Val
 l:Int
 i:Int
 x:RU
structure CI where
 o:CO
 m:Nat
 κ:Val
 l2:Int
 j:Int
def slO (c:CO):List (Nat × AV):=[(0,.one (.c (.ptr 0 0))),(4,.one (.c (.int .i64 c.r))),(12,.one (.c (.sl (jl 1) c.n c.ρ))),(13,.one (.c (.int .i64 c.l))),(14,.one (.c (.int .i64 c.i)))]
def SO (u:Bool) (c:CO):St:=mkS 51 (slO c) (Jw u c.x)
def SIn (u:Bool) (c:CI):St:=mkS 51 (slO c.o++[(37,.one (.c (.sl [.rt 1] c.m c.κ))),(38,.one (.c (.int .i64 c.l2))),(39,.one (.c (.int .i64 c.j)))]) (Jw u c.o.x)
def jbX:Bool->Mem->Option RU
 | false=>Rf
 | true=>Rj
def jbd (u:Bool) (l:List (Nat × AV)) (m:Mem):Option CO:=match l with
 | [(0, .one (.c (.ptr 0 0))), (4, .one (.c (.int .i64 r))), (12, .one (.c (.sl es n ρ))), (13, .one (.c (.int .i64 l))), (14, .one (.c (.int .i64 i)))] =>
   if shEq.shsEq es (jl 1) then (match jbX u m with
    | some x=>some ⟨r,n,ρ,l,i,x⟩
    | none=>none) else none
 | _=>none
def jdW (u:Bool) (l:List (Nat × AV)) (m:Mem):Option CI:=match l with
 | [(0, .one (.c (.ptr 0 0))), (4, .one (.c (.int .i64 r))), (12, .one (.c (.sl es n ρ))), (13, .one (.c (.int .i64 l))), (14, .one (.c (.int .i64 i))), (37, .one (.c (.sl [.rt 1] m' κ))), (38, .one (.c (.int .i64 l2))), (39, .one (.c (.int .i64 j)))] =>
   if shEq.shsEq es (jl 1) then (match jbX u m with
    | some x=>some ⟨⟨r,n,ρ,l,i,x⟩,m',κ,l2,j⟩
    | none=>none) else none
 | _=>none
theorem NC {u:Bool} {m:Mem} {x:RU} (h:jbX u m=some x) (P:Program) (F:Nat->Prop) (w:World) (bs:List BI) (hm:MemRel P F w bs m):MemRel P F w bs (Jw u x):=by
 cases u with
 | false=>exact (Lb false).get m x h P F w bs hm
 | true=>exact (Lb true).get m x h P F w bs hm
theorem LeSl.refl:∀ {l:List (Nat × AV)},LeSl l l
 | []=>.nil
 | _::_=>.cons leAB.refl LeSl.refl
theorem Mm (u:Bool):∀ l m c,jbd u l m=some c->StWk (mkS 51 l m) (SO u c):=by
 intro l m c h;unfold jbd at h;split at h
 ·split at h
  ·rename_i hs;rw [jm hs];split at h
   ·rename_i hx;cases h;exact kz LeSl.refl (NC hx)
   ·cases h
  ·cases h
 ·cases h
theorem jiX (u:Bool):∀ l m c,jdW u l m=some c->StWk (mkS 51 l m) (SIn u c):=by
 intro l m c h;unfold jdW at h;split at h
 ·split at h
  ·rename_i hs;rw [jm hs];split at h
   ·rename_i hx;cases h;exact kz LeSl.refl (NC hx)
   ·cases h
  ·cases h
 ·cases h
def SOE (u:Bool) (d:Int × RU):St:=mkS 51 [(4,.one (.c (.int .i64 d.1)))] (Jw u d.2)
def jbB (u:Bool) (l:List (Nat × AV)) (m:Mem):Option (Int × RU):=match l with
 | [(4,.one (.c (.int .i64 r)))]=>(match jbX u m with
  | some x=>some (r,x)
  | none=>none)
 | _=>none
theorem jdI (u:Bool):∀ l m c,jbB u l m=some c->StWk (mkS 51 l m) (SOE u c):=by
 intro l m c h;unfold jbB at h;split at h
 ·split at h
  ·rename_i hx;cases h;exact kz LeSl.refl (NC hx)
  ·cases h
 ·cases h
def AO (u:Bool):Sx.Frame CO (Int × RU):=⟨1,51,[0,4,12,13,14],jbd u,SO u,[4],jbB u,SOE u⟩
def AI (u:Bool):Sx.Frame CI CO:=⟨1,51,[0,4,12,13,14,37,38,39],jdW u,SIn u,[0,4,12,13,14],jbd u,SO u⟩
theorem aO (u:Bool):(AO u).Ok:=⟨Mm u,jdI u⟩
theorem aI (u:Bool):(AI u).Ok:=⟨jiX u,Mm u⟩
def Nj (κ:Val) (j:Int):Nat:=((κ.at j.toNat).at 0).L []
def LD (κ:Val) (j:Int):Val:=(κ.at j.toNat).at 0
def rIn (u:Bool) (B:BF) (g:CI->Tree (XP × CO)) (c:CI):Tree (XP × CO) :=
 let o:=B u (Nj c.κ c.j) (LD c.κ c.j) (nk u c.o.x)
 let y:=ov1 (0,rU0) o
 .br (lt c.j c.l2) (.need (jc c.j c.m) (.need (os1 o) (.br (y.1 != 0) (.leaf (.ret,{ c.o with r:=y.1,x:=nk u y.2 })) (g { c with o:={ c.o with x:=nk u y.2 },j:=IntKind.wrap .i64 (c.j+1) })))) (.leaf (.exit 2,{ c.o with x:=nk u c.o.x }))
theorem jkL (p:Par) (B:BF) (u:Bool) (g:CI->Tree (XP × CO)) (c:CI):jQ (AI u) Tryz.prog (H52 p B) X0 10 38 1 g c=rIn u B g c:=by cases u<;>kernel_rfl
def Ys (u:Bool) (B:BF) (m:Nat) (κ:Val) (l:Int):Nat->Int->RU->Option (Int × RU)
 | 0,_,_=>none
 | k+1,j,x=>bif lt j l then nd (jc j m) ((B u (Nj κ j) (LD κ j) (nk u x)).bind fun y=>bif y.1 != 0 then some (y.1,nk u y.2) else Ys u B m κ l k (IntKind.wrap .i64 (j+1)) (nk u y.2)) else some (0,nk u x)
def gIn (u:Bool) (B:BF) (k:Nat) (c:CI):Tree (XP × CO) :=
 let o:=Ys u B c.m c.κ c.l2 k c.j c.o.x
 let y:=ov1 (0,rU0) o
 .need (os1 o) (.br (y.1 != 0) (.leaf (.ret,{ c.o with r:=y.1,x:=y.2 })) (.leaf (.exit 2,{ c.o with x:=y.2 })))
def jea (c:CO):Option (Int × RU)->Option (XP × CO)
 | some y=>some (bif y.1 != 0 then (.ret,{ c with r:=y.1,x:=y.2 }) else (.exit 2,{ c with x:=y.2 }))
 | none=>none
theorem MB (u:Bool) (B:BF) (k:Nat) (c:CI):(gIn u B k c).sel=jea c.o (Ys u B c.m c.κ c.l2 k c.j c.o.x):=by
 unfold gIn;cases Ys u B c.m c.κ c.l2 k c.j c.o.x with
 | none=>rfl
 | some y =>
   show (bif true then (bif y.1 != 0 then some _ else some _) else none)=_;unfold jea;simp only [ov1];cases (y.1 != 0)<;>rfl
theorem jm6 (p:Par) (B:BF) (u:Bool) (k:Nat) (c:CI) (x:XP × CO) (h:(gIn u B (k+1) c).sel=some x):(jQ (AI u) Tryz.prog (H52 p B) X0 10 38 1 (gIn u B k) c).sel=some x:=by
 rw [jkL];rw [MB] at h;unfold Ys at h;unfold rIn;simp only [qg,jG,j0,MB];revert h;cases lt c.j c.l2 with
 | false=>exact fun h=>h
 | true =>
 cases jc c.j c.m with
 | false=>exact fun h=>h
 | true =>
 simp only [nd,cond_true];cases B u (Nj c.κ c.j) (LD c.κ c.j) (nk u c.o.x) with
 | none=>exact fun h=>h
 | some y =>
 simp only [Option.bind,os1,ov1,cond_true];cases hy:(y.1 != 0) with
 | true=>simp only [cond_true];intro h;rw [← h];unfold jea;simp only [hy,cond_true]
 | false=>simp only [cond_false];exact fun h=>h
theorem jkG {p:Par} (hp:ParOk p) {B:BF} (hB:js Tryz.prog 38 (zE (u52 B))) (u:Bool):∀ k,CoreOk Tryz.prog 38 1 1 (SIn u) (SO u) (gIn u B k) :=
 CoreOk.fuel (A:=AI u) (aI u) (h52 hp hB) Go.Proofs.YtiefjlcakpdfeaaGreatDoor.x0 10 (fun _=>rfl) (jm6 p B u)
def jlt (u:Bool) (B:BF) (c:CI):Tree (XP × CO):=gIn u B (c.m+1) c
def X52 (u:Bool) (B:BF):HdP:=⟨[],[],[],[((38,1),qZ (AI u) (jlt u B))],[],0,[]⟩
theorem x52 {p:Par} (hp:ParOk p) {B:BF} (hB:js Tryz.prog 38 (zE (u52 B))) (u:Bool):XOk Tryz.prog (X52 u B) :=
 XOk.lxCons XOk.nil (CoreOk.lx (g:=jlt u B) (aI u) fun fn c b h1 h2 h3 c0 x hx=>jkG hp hB u _ fn c b h1 h2 h3 c0 x hx)
def jn2:ByteArray:=bs [102,97,105,108]
def ja7 (k:ByteArray):Val:=Val.ofFlat 1 [.str jn2,.str k]
def jcN (u:Bool) (x:RU) (a:Int):RU:=nk u { x with at_:=a }
def rOu (p:Par) (u:Bool) (B:BF) (g:CO->Tree (XP × (Int × RU))) (c:CO):Tree (XP × (Int × RU)) :=
 let s:=jg c.ρ c.i.toNat
 let st:=UR p u s (nk u c.x)
 let y:=ov1 ((0,.zero,0),rU0) st
 let nt:=QA u 2 (ja7 s.kind) (nk u y.2)
 let z:=ov1 ((),rU0) nt
 let inn:=Ys u B y.1.1 y.1.2.1 (ja y.1.1) (y.1.1+1) 0 (nk u y.2)
 let w:=ov1 (0,rU0) inn
 .br (lt c.i c.l) (.need (jc c.i c.n) (.need (os1 st) (.br (y.1.2.2 != 0) (.need (os1 nt) (.leaf (.ret,(y.1.2.2,jcN u z.2 s.at_))))
  (.need (os1 inn) (.br (w.1 != 0) (.leaf (.ret,(w.1,nk u w.2))) (g { c with i:=IntKind.wrap .i64 (c.i+1),x:=nk u w.2 })))))) (.leaf (.exit 0,(c.r,nk u c.x)))
theorem jmi (p:Par) (B:BF) (u:Bool) (g:CO->Tree (XP × (Int × RU))) (c:CO):jQ (AO u) Tryz.prog (H52 p B) (X52 u B) 10 38 0 g c=rOu p u B g c:=by cases u<;>kernel_rfl
def XZ (p:Par) (u:Bool) (B:BF) (n:Nat) (ρ:Val) (l:Int):Nat->Int->RU->Option (Int × RU)
 | 0,_,_=>none
 | k + 1, i, x => bif lt i l then nd (jc i n) ((UR p u (jg ρ i.toNat) (nk u x)).bind fun y =>
   bif y.1.2.2 != 0 then (QA u 2 (ja7 (jg ρ i.toNat).kind) (nk u y.2)).bind fun z=>some (y.1.2.2,jcN u z.2 (jg ρ i.toNat).at_)
   else (Ys u B y.1.1 y.1.2.1 (ja y.1.1) (y.1.1+1) 0 (nk u y.2)).bind fun w=>bif w.1 != 0 then some (w.1,nk u w.2) else XZ p u B n ρ l k (IntKind.wrap .i64 (i+1)) (nk u w.2)) else some (0,nk u x)
def gOu (p:Par) (u:Bool) (B:BF) (k:Nat) (c:CO):Tree (XP × (Int × RU)) :=
 let o:=XZ p u B c.n c.ρ c.l k c.i c.x
 let y:=ov1 (0,rU0) o
 .need (os1 o) (.br (y.1 != 0) (.leaf (.ret,y)) (.leaf (.exit 0,(c.r,y.2))))
def jaK (r:Int):Option (Int × RU)->Option (XP × (Int × RU))
 | some y=>some (bif y.1 != 0 then (.ret,y) else (.exit 0,(r,y.2)))
 | none=>none
theorem IS (p:Par) (u:Bool) (B:BF) (k:Nat) (c:CO):(gOu p u B k c).sel=jaK c.r (XZ p u B c.n c.ρ c.l k c.i c.x):=by
 unfold gOu;cases XZ p u B c.n c.ρ c.l k c.i c.x with
 | none=>rfl
 | some y =>
   show (bif true then (bif y.1 != 0 then some _ else some _) else none)=_;unfold jaK;simp only [ov1];cases (y.1 != 0)<;>rfl
theorem jlO (p:Par) (B:BF) (u:Bool) (k:Nat) (c:CO) (x:XP × (Int × RU)) (h:(gOu p u B (k+1) c).sel=some x):(jQ (AO u) Tryz.prog (H52 p B) (X52 u B) 10 38 0 (gOu p u B k) c).sel=some x:=by
 rw [jmi];rw [IS] at h;unfold XZ at h;unfold rOu;simp only [qg,jG,j0,IS];revert h;cases lt c.i c.l with
 | false=>exact fun h=>h
 | true =>
 cases jc c.i c.n with
 | false=>exact fun h=>h
 | true =>
 simp only [nd,cond_true];cases UR p u (jg c.ρ c.i.toNat) (nk u c.x) with
 | none=>exact fun h=>h
 | some y =>
 simp only [Option.bind,os1,ov1,cond_true];cases hy:(y.1.2.2 != 0) with
 | true =>
   simp only [cond_true];cases QA u 2 (ja7 (jg c.ρ c.i.toNat).kind) (nk u y.2) with
  | none=>exact fun h=>h
  | some z=>intro h;rw [← h];unfold jaK;simp only [hy,cond_true]
 | false =>
   simp only [cond_false];cases Ys u B y.1.1 y.1.2.1 (ja y.1.1) (y.1.1+1) 0 (nk u y.2) with
  | none=>exact fun h=>h
  | some w =>
    simp only [cond_true];cases hw:(w.1 != 0) with
   | true=>simp only [cond_true];intro h;rw [← h];unfold jaK;simp only [hw,cond_true]
   | false=>simp only [cond_false];exact fun h=>h
theorem jmQ {p:Par} (hp:ParOk p) {B:BF} (hB:js Tryz.prog 38 (zE (u52 B))) (u:Bool):∀ k,CoreOk Tryz.prog 38 0 1 (SO u) (SOE u) (gOu p u B k) :=
 CoreOk.fuel (A:=AO u) (aO u) (h52 hp hB) (x52 hp hB u) 10 (fun _=>rfl) (jlO p B u)
def jl8 (p:Par) (u:Bool) (B:BF) (c:CO):Tree (XP × (Int × RU)):=gOu p u B (c.n+1) c
def jge (p:Par) (u:Bool) (B:BF):HdP:=⟨[],[],[],[((38,0),qZ (AO u) (jl8 p u B))],[],0,[]⟩
theorem jo3 {p:Par} (hp:ParOk p) {B:BF} (hB:js Tryz.prog 38 (zE (u52 B))) (u:Bool):XOk Tryz.prog (jge p u B) :=
 XOk.lxCons XOk.nil (CoreOk.lx (g:=jl8 p u B) (aO u) fun fn c b h1 h2 h3 c0 x hx=>jmQ hp hB u _ fn c b h1 h2 h3 c0 x hx)
def VS (p:Par) (B:BF):BF:=fun u n ρ x=>XZ p u B n ρ (ja n) (n+1) 0 x
def t52 (p:Par) (B:BF) (u:Bool) (n:Nat) (ρ:Val) (x:RU):Tree (AV × RU) :=
 let o:=VS p B u n ρ x
 let y:=ov1 (0,rU0) o
 .need (os1 o) (.br (y.1 != 0) (.leaf (encI y.1,nk u y.2)) (.leaf (encI 0,nk u y.2)))
theorem jmU (p:Par) (B:BF) (u:Bool) (n:Nat) (ρ:Val) (x:RU):JI (ClR u) Tryz.prog (H52 p B) (jge p u B) 10 38 [.c (.sl (jl 1) n ρ)] x=t52 p B u n ρ x:=by cases u<;>kernel_rfl
theorem IH {H : Hd} (hH : HdOk Tryz.prog H) {X : Bool -> HdP} (hX : ∀ b, XOk Tryz.prog (X b)) (n f : Nat) {u : MSp}
  (h:∀ b rest x z,(u b rest x).sel=some z->∃ y,(JI (ClR b) Tryz.prog H (X b) n f rest x).sel=some y∧leA y.1 z.1∧Jw b y.2=Jw b z.2):js Tryz.prog f (zE u) :=
 Mq fun b=>FJ (Lb b) hH (hX b) n f fun rest x z hz=>by
  obtain ⟨y,h1,h2,h3⟩:=h b rest x z hz;refine ⟨y,h1,h2,fun F w bs hm => ?_⟩;have e:∀ x,(ClR b).lay x=Jw b x:=fun x=>by cases b<;>rfl
  rw [e] at hm ⊢;rw [← h3];exact hm
theorem jiZ (p:Par) (B:BF) (u:Bool) (n:Nat) (ρ:Val) (x:RU):SyC u encI (t52 p B u n ρ x) (VS p B u n ρ x):=by
 unfold t52;cases VS p B u n ρ x with
 | none=>exact trivial
 | some y =>
   refine SyC.need rfl ?_;show SyC u encI (.br (y.1 != 0) (.leaf (encI y.1,nk u y.2)) (.leaf (encI 0,nk u y.2))) (some (y.1,y.2));cases hy:(y.1 != 0) with
  | true=>exact SyC.br1 rfl SyC.rt
  | false =>
    have:y.1=0:=by simpa using hy
    refine SyC.br0 rfl ?_;rw [this];exact SyC.rt
theorem jpf {p:Par} (hp:ParOk p) {B:BF} (hB:js Tryz.prog 38 (zE (u52 B))):js Tryz.prog 38 (zE (u52 (VS p B))):=IH (H:=H52 p B) (X:=fun u=>jge p u B) (h52 hp hB) (jo3 hp hB) 10 38 fun u rest x z hz=>by
 unfold u52 at hz;split at hz
 rotate_left
 ·cases hz
 rename_i es n ρ;split at hz
 rotate_left
 ·cases hz
 rename_i hs;rw [jm hs,jmU];obtain ⟨v,x',h1,rfl⟩:=KB hz;have h:=jiZ p B u n ρ x;rw [h1] at h;exact h
def Tz (p:Par):Nat->BF
 | 0=>fun _ _ _ _=>none
 | d+1=>VS p (Tz p d)
theorem m52 {p:Par} (hp:ParOk p):∀ d,js Tryz.prog 38 (zE (u52 (Tz p d)))
 | 0 => IH (H := HE) (X := fun _ => X3) HdOk.nil (fun _ => x3) 10 38 fun u rest x z hz => by
   unfold u52 at hz;split at hz
   ·split at hz
    ·obtain ⟨v,x',h1,_⟩:=KB hz;cases h1
    ·cases hz
   ·cases hz
 | d+1=>jpf hp (m52 hp d)
abbrev UnF:=RX->Int->Option Bool
def Uj (R:UnF):List A1->Option (Bool × AV)
 | [.agg [.str o,.int .i64 v,.sl es n ρ],.c (.int .i64 k)]=>if shEq.shsEq es (jl 0) then some (os1 (R ⟨o,v,n,ρ⟩ k),jI (ov1 false (R ⟨o,v,n,ρ⟩ k))) else none
 | _=>none
theorem Ob {R:UnF} {args:List A1} {r:AV} (h:Uj R args=some (true,r)):∃ o v n ρ k x,args=[.agg [.str o,.int .i64 v,.sl (jl 0) n ρ],.c (.int .i64 k)]∧R ⟨o,v,n,ρ⟩ k=some x∧r=jI x:=by
 unfold Uj at h;split at h
 ·split at h
  ·rename_i o v es n ρ k hs;simp only [sIq,pIq] at h;cases hR:R ⟨o,v,n,ρ⟩ k with
   | none=>rw [hR] at h;cases h.1
   | some x=>rw [hR] at h;exact ⟨o,v,n,ρ,k,x,by rw [jm hs],hR,h.2.symm⟩
  ·cases h
 ·cases h
noncomputable abbrev jdM (R:UnF):Hd:=⟨[pF 94,pF 95,pF 115,(93,oG jbn)],[(68,nG (Uj R))],[],[]⟩
theorem jpz {R:UnF} (hR:jo Tryz.prog 68 (nG (Uj R))):HdOk Tryz.prog (jdM R):=((((HdOk.nil.ucCons hR).pcCons jlW).pF 115).pF 95).pF 94
def jbf (R:UnF) (n:Nat) (ρ:Val) (k:Int):Nat->Nat->Tree AV
 | 0,_=>.fail
 | f+1,i=>.br (lt (i:Int) (ja n)) (.need (jc (i:Int) n) (.need (os1 (R (jR ρ i) k)) (.br (ov1 false (R (jR ρ i) k)) (.leaf (jI true)) (jbf R n ρ k f (i+1))))) (.leaf (jI false))
def jk9 (R:UnF) (e:RX) (k:Int):Tree AV:=.br (bif Bd (j7 e.op)==9 then le k e.v else false) (.leaf (jI true)) (jbf R e.n e.ρ k 3 0)
theorem jjH (R:UnF) (o:ByteArray) (v:Int) (n:Nat) (ρ:Val) (k:Int):qj Tryz.prog (jdM R) X3 10 68 [.agg [.str o,.int .i64 v,.sl (jl 0) n ρ],.c (.int .i64 k)]=jk9 R ⟨o,v,n,ρ⟩ k:=by kernel_rfl
def MW (R:UnF) (n:Nat) (ρ:Val) (k:Int):Nat->Nat->Option Bool
 | 0,_=>none
 | f+1,i=>bif lt (i:Int) (ja n) then nd (jc (i:Int) n) ((R (jR ρ i) k).bind fun v=>bif v then some true else MW R n ρ k f (i+1)) else some false
def jeJ (R:UnF):UnF:=fun e k=>bif (bif Bd (j7 e.op)==9 then le k e.v else false) then some true else MW R e.n e.ρ k 3 0
theorem DR (R:UnF) (n:Nat) (ρ:Val) (k:Int):∀ f i,Sy jI (jbf R n ρ k f i) (MW R n ρ k f i)
 | 0,_=>trivial
 | f + 1, i => by
   unfold jbf MW;refine Sy.cond (fun _=>Sy.nd id fun _ => ?_) fun _=>Sy.ret;cases R (jR ρ i) k with
  | none=>exact trivial
  | some v=>exact Sy.need rfl (Sy.cond (fun _=>Sy.ret) fun _=>DR R n ρ k f (i+1))
theorem jd6 (R:UnF) (e:RX) (k:Int):Sy jI (jk9 R e k) (jeJ R e k):=Sy.cond (fun _=>Sy.ret) fun _=>DR R _ _ _ _ _
theorem jnZ {R:UnF} (hR:jo Tryz.prog 68 (nG (Uj R))):jo Tryz.prog 68 (nG (Uj (jeJ R))):=by
 refine j3 (H:=jdM R) (X:=X3) (jpz hR) x3 10 68 ?_;intro args r h;obtain ⟨o,v,n,ρ,k,x,e1,h1,e2⟩:=Ob h;rw [e1,e2,jjH]
 have:=jd6 R ⟨o,v,n,ρ⟩ k
 rw [h1] at this;exact this
def Gl:Nat->UnF
 | 0=>fun _ _=>none
 | f+1=>jeJ (Gl f)
theorem jmC:∀ f,jo Tryz.prog 68 (nG (Uj (Gl f)))
 | 0 => by
   intro args r h;obtain ⟨o,v,n,ρ,k,x,_,h1,_⟩:=Ob (zG h);cases h1
 | f+1=>jnZ (jmC f)
abbrev MsF:=Nat->Val->Int->Option (Int × Bool)
def Ho (x:Int × Bool):AV:=.tup [.c (.int .i64 x.1),.c (.bool x.2)]
def G80 (R:MsF):List A1->Option (Bool × AV)
 | [.c (.sl es n ρ),.c (.int .i64 k)]=>if shEq.shsEq es (jl 1) then some (os1 (R n ρ k),Ho (ov1 (0,false) (R n ρ k))) else none
 | _=>none
theorem DI {R:MsF} {args:List A1} {r:AV} (h:G80 R args=some (true,r)):∃ n ρ k x,args=[.c (.sl (jl 1) n ρ),.c (.int .i64 k)]∧R n ρ k=some x∧r=Ho x:=by
 unfold G80 at h;split at h
 ·split at h
  ·rename_i es n ρ k hs;simp only [sIq,pIq] at h;cases hR:R n ρ k with
   | none=>rw [hR] at h;cases h.1
   | some x=>rw [hR] at h;exact ⟨n,ρ,k,x,by rw [jm hs],hR,h.2.symm⟩
  ·cases h
 ·cases h
structure C80 where
 r:Int
 b:Bool
 n:Nat
 ρ:Val
 l:Int
 i:Int
 k:Int
def S80 (c:C80):St:=mkS 57 [(3,.one (.c (.ptr 0 0))),(4,.one (.c (.int .i64 c.r))),(5,.one (.c (.bool c.b))),(13,.one (.c (.sl (jl 1) c.n c.ρ))),(14,.one (.c (.int .i64 c.l))),(15,.one (.c (.int .i64 c.i)))] [some (3,[.int .i64 c.k])]
def jai:List (Nat × AV)->Mem->Option C80
 | [(3,.one (.c (.ptr 0 0))),(4,.one (.c (.int .i64 r))),(5,.one (.c (.bool b))),(13,.one (.c (.sl es n ρ))),(14,.one (.c (.int .i64 l))),(15,.one (.c (.int .i64 i)))],[some (3,[.int .i64 k])]=>if shEq.shsEq es (jl 1) then some ⟨r,b,n,ρ,l,i,k⟩ else none
 | _,_=>none
theorem jfj:∀ l m c,jai l m=some c->mkS 57 l m=S80 c:=by
 intro l m c h;unfold jai at h;split at h
 ·split at h
  ·rename_i hs;cases h;rw [jm hs];rfl
  ·cases h
 ·cases h
def E80 (v:Int × Bool):St:=mkS 57 [(4,.one (.c (.int .i64 v.1))),(5,.one (.c (.bool v.2)))] [some (3,[.any])]
def Dj:List (Nat × AV)->Mem->Option (Int × Bool)
 | [(4,.one (.c (.int .i64 v))),(5,.one (.c (.bool u)))],[some (3,[.int .i64 _])]=>some (v,u)
 | _,_=>none
theorem jcR:∀ l m c,Dj l m=some c->StWk (mkS 57 l m) (E80 c):=by
 intro l m c h;unfold Dj at h;split at h
 ·cases h;exact kz LeSl.refl (kS (b:=0) rfl rfl rfl (.cons zC .nil) rfl rfl)
 ·cases h
def A80:Sx.Frame C80 (Int × Bool):=⟨1,57,[3,4,5,13,14,15],jai,S80,[4,5],Dj,E80⟩
theorem a80:A80.Ok:=⟨fun l m c h=>jfj l m c h▸StWk.refl,jcR⟩
noncomputable abbrev H80 (f:Nat) (R:MsF):Hd:=⟨[lK,pF 65,pF 66,pF 92,(53,oG G86),(67,oG Tf)],[(68,nG (Uj (Gl f))),(36,nG (G80 R))],[],[]⟩
theorem h80 (f:Nat) {R:MsF} (hR:jo Tryz.prog 36 (nG (G80 R))):HdOk Tryz.prog (H80 f R):=HdOk.lK ((((((((HdOk.nil.ucCons hR).ucCons (jmC f)).pcCons jeg).pcCons p86).pF 92).pF 66).pF 65))
abbrev X6:HdP:=⟨[],[],[],[],[],6,[]⟩
theorem x6:XOk Tryz.prog X6:=XOk.nil
def jeV (s:RS) (k:Int) (i:Nat):Bool:=bif (bif zY (wd s.wρ i) then jb s.kind wDo else false) then le k (JB (wd s.wρ i)) else false
def jaq {α:Type} (s:RS) (k:Int) (K:Bool->Tree α):Nat->Nat->Tree α
 | 0,_=>.fail
 | f+1,i=>.br (lt (i:Int) (ja s.wn)) (.need (jc (i:Int) s.wn) (.br (jeV s k i) (K true) (jaq s k K f (i+1)))) (K false)
def r80 (f:Nat) (R:MsF) (g:C80->Tree (XP × (Int × Bool))) (c:C80):Tree (XP × (Int × Bool)) :=
 let s:=jg c.ρ c.i.toNat
 let x:=Gl f s.cond c.k
 let u:=R s.bn (YE s.bn s.bρ) c.k
 let v:=R s.en (YE s.en s.eρ) c.k
 let w:=R 0 Val.zero c.k
 let EX:=g { c with i:=IntKind.wrap .i64 (c.i+1) }
 let T:=fun (j:Int) (y:Option (Int × Bool)) (K:Tree (XP × (Int × Bool)))=>Tree.br (lt j (ja 2)) (.need (jc j 2) (.need (os1 y) (.br (ov1 (0,false) y).2 (.leaf (.ret,((ov1 (0,false) y).1,true))) K))) EX
 .br (lt c.i c.l) (.need (jc c.i c.n) (jaq s c.k (fun nm=>.need (!((ze s.kind==true)&&((nm==false)&&true))||os1 x)
  (.br (bif nm then true else bif ze s.kind then ov1 false x else false) (.leaf (.ret,(s.at_,true))) (T 0 u (T 1 v (T 2 w (T 3 w (T 4 w (T 5 w .fail)))))))) 6 0)) (.leaf (.exit 0,(c.r,c.b)))
theorem jlg (f:Nat) (R:MsF) (g:C80->Tree (XP × (Int × Bool))) (c:C80):jQ A80 Tryz.prog (H80 f R) X6 10 36 0 g c=r80 f R g c:=by kernel_rfl
def RD (s:RS) (k:Int):Nat->Nat->Option Bool
 | 0,_=>none
 | f+1,i=>bif lt (i:Int) (ja s.wn) then nd (jc (i:Int) s.wn) (bif jeV s k i then some true else RD s k f (i+1)) else some false
theorem Fc {α:Type} (s:RS) (k:Int) (K:Bool->Tree α):∀ f i,(jaq s k K f i).sel=(RD s k f i).bind fun b=>(K b).sel
 | 0,_=>rfl
 | f + 1, i => by
   simp only [jaq,RD,qg,jG];cases lt (i:Int) (ja s.wn) with
  | false=>rfl
  | true =>
   simp only [cond_true];cases jc (i:Int) s.wn with
  | false=>rfl
  | true =>
   simp only [cond_true,nd];cases jeV s k i with
  | true=>rfl
  | false=>exact Fc s k K f (i+1)
def Gg (f:Nat) (s:RS) (k:Int):Option Bool:=(RD s k 6 0).bind fun nm=>bif nm then some true else bif ze s.kind then Gl f s.cond k else some false
def Xy (f:Nat) (R:MsF) (n:Nat) (ρ:Val) (l k:Int):Nat->Int->Option (Int × Bool)
 | 0,_=>none
 | m + 1, i => bif lt i l then nd (jc i n) ((Gg f (jg ρ i.toNat) k).bind fun c => bif c then some ((jg ρ i.toNat).at_, true) else
   (R (jg ρ i.toNat).bn (jg ρ i.toNat).bρ k).bind fun y=>bif y.2 then some (y.1,true) else (R (jg ρ i.toNat).en (jg ρ i.toNat).eρ k).bind fun z=>bif z.2 then some (z.1,true) else Xy f R n ρ l k m (IntKind.wrap .i64 (i+1))) else some (0,false)
def g80 (f:Nat) (R:MsF) (m:Nat) (c:C80):Tree (XP × (Int × Bool)) :=
 let o:=Xy f R c.n c.ρ c.l c.k m c.i
 let y:=ov1 (0,false) o
 .need (os1 o) (.br y.2 (.leaf (.ret,(y.1,true))) (.leaf (.exit 0,(c.r,c.b))))
def MH (r:Int) (b:Bool):Option (Int × Bool)->Option (XP × (Int × Bool))
 | some y=>some (bif y.2 then (.ret,(y.1,true)) else (.exit 0,(r,b)))
 | none=>none
theorem I3 (f:Nat) (R:MsF) (m:Nat) (c:C80):(g80 f R m c).sel=MH c.r c.b (Xy f R c.n c.ρ c.l c.k m c.i):=by
 unfold g80;cases Xy f R c.n c.ρ c.l c.k m c.i with
 | none=>rfl
 | some y =>
   obtain ⟨y1,y2⟩:=y;cases y2<;>rfl
theorem jkF (f:Nat) (R:MsF) (m:Nat) (c:C80) (x:XP × (Int × Bool)) (h:(g80 f R (m+1) c).sel=some x):(jQ A80 Tryz.prog (H80 f R) X6 10 36 0 (g80 f R m) c).sel=some x:=by
 rw [jlg];rw [I3] at h;unfold Xy at h;unfold r80;have eb:YE (jg c.ρ c.i.toNat).bn (jg c.ρ c.i.toNat).bρ=(jg c.ρ c.i.toNat).bρ:=U4 _;have ee:YE (jg c.ρ c.i.toNat).en (jg c.ρ c.i.toNat).eρ=(jg c.ρ c.i.toNat).eρ:=U4 _;have c0:lt 0 (ja 2)=true:=rfl;have c1:lt 1 (ja 2)=true:=rfl;have c2:lt 2 (ja 2)=false:=rfl;have d0:jc 0 2=true:=rfl;have d1:jc 1 2=true:=rfl;simp only [qg,jG,j0,Fc,I3,eb,ee,c0,c1,c2,d0,d1,cond_true,cond_false];revert h;unfold Gg;cases lt c.i c.l with
 | false=>exact fun h=>h
 | true =>
 cases jc c.i c.n with
 | false=>exact fun h=>h
 | true =>
 simp only [cond_true,nd];cases RD (jg c.ρ c.i.toNat) c.k 6 0 with
 | none=>exact fun h=>h
 | some nm =>
 cases nm with
 | true =>
   intro h;simp only [Option.bind,cond_true] at h ⊢
   have:(!(ze (jg c.ρ c.i.toNat).kind==true&&(true==false&&true))||os1 (Gl f (jg c.ρ c.i.toNat).cond c.k))=true:=by
    cases ze (jg c.ρ c.i.toNat).kind<;>rfl
   rw [this];exact h
 | false =>
 simp only [Option.bind,cond_false]
 have rest : ∀ (E : Bool), MH c.r c.b ((some E).bind fun cc => bif cc then some ((jg c.ρ c.i.toNat).at_, true) else
   (R (jg c.ρ c.i.toNat).bn (jg c.ρ c.i.toNat).bρ c.k).bind fun y=>bif y.2 then some (y.1,true) else (R (jg c.ρ c.i.toNat).en (jg c.ρ c.i.toNat).eρ c.k).bind fun z=>bif z.2 then some (z.1,true) else Xy f R c.n c.ρ c.l c.k m (IntKind.wrap .i64 (c.i+1)))=some x ->
   (bif E then some (XP.ret,((jg c.ρ c.i.toNat).at_,true)) else bif os1 (R (jg c.ρ c.i.toNat).bn (jg c.ρ c.i.toNat).bρ c.k) then
    bif (ov1 (0,false) (R (jg c.ρ c.i.toNat).bn (jg c.ρ c.i.toNat).bρ c.k)).2 then some (XP.ret,((ov1 (0,false) (R (jg c.ρ c.i.toNat).bn (jg c.ρ c.i.toNat).bρ c.k)).1,true)) else
     bif os1 (R (jg c.ρ c.i.toNat).en (jg c.ρ c.i.toNat).eρ c.k) then bif (ov1 (0,false) (R (jg c.ρ c.i.toNat).en (jg c.ρ c.i.toNat).eρ c.k)).2 then some (XP.ret,((ov1 (0,false) (R (jg c.ρ c.i.toNat).en (jg c.ρ c.i.toNat).eρ c.k)).1,true)) else
      MH c.r c.b (Xy f R c.n c.ρ c.l c.k m (IntKind.wrap .i64 (c.i+1))) else none else none)=some x:=by
  intro E;cases E with
  | true=>exact fun h=>h
  | false =>
  simp only [Option.bind,cond_false];cases R (jg c.ρ c.i.toNat).bn (jg c.ρ c.i.toNat).bρ c.k with
  | none=>exact fun h=>h
  | some y =>
  obtain ⟨y1,y2⟩:=y;cases y2 with
  | true=>exact fun h=>h
  | false =>
  simp only [os1,ov1,cond_true,cond_false];cases R (jg c.ρ c.i.toNat).en (jg c.ρ c.i.toNat).eρ c.k with
  | none=>exact fun h=>h
  | some z =>
  obtain ⟨z1,z2⟩:=z;cases z2 with
  | true=>exact fun h=>h
  | false=>exact fun h=>h
 cases ze (jg c.ρ c.i.toNat).kind with
 | false=>exact rest false
 | true =>
   simp only [cond_true];cases Gl f (jg c.ρ c.i.toNat).cond c.k with
  | none=>exact fun h=>h
  | some E=>exact rest E
theorem jld (f:Nat) {R:MsF} (hR:jo Tryz.prog 36 (nG (G80 R))):∀ k,CoreOk Tryz.prog 36 0 1 S80 E80 (g80 f R k) :=
 CoreOk.fuel (A:=A80) a80 (h80 f hR) x6 10 (fun _=>rfl) (jkF f R)
def jlv (f:Nat) (R:MsF) (c:C80):Tree (XP × (Int × Bool)):=g80 f R (c.n+1) c
def X80 (f:Nat) (R:MsF):HdP:=⟨[],[],[],[((36,0),qZ A80 (jlv f R))],[],6,[]⟩
theorem x80 (f:Nat) {R:MsF} (hR:jo Tryz.prog 36 (nG (G80 R))):XOk Tryz.prog (X80 f R):=XOk.lxCons XOk.nil (CoreOk.lx (g:=jlv f R) a80 fun fn c b h1 h2 h3 c0 x hx=>jld f hR _ fn c b h1 h2 h3 c0 x hx)
def TF (f:Nat) (R:MsF):MsF:=fun n ρ k=>Xy f R n ρ (ja n) k (n+1) 0
def t80 (f:Nat) (R:MsF) (n:Nat) (ρ:Val) (k:Int):Tree AV :=
 let o:=TF f R n ρ k
 .need (os1 o) (.br (ov1 (0,false) o).2 (.leaf (Ho ((ov1 (0,false) o).1,true))) (.leaf (Ho (0,false))))
theorem jmD (f:Nat) (R:MsF) (n:Nat) (ρ:Val) (k:Int):qj Tryz.prog (H80 f R) (X80 f R) 10 36 [.c (.sl (jl 1) n ρ),.c (.int .i64 k)]=t80 f R n ρ k:=by kernel_rfl
theorem Lg {f:Nat} {R:MsF} {n:Nat} {ρ:Val} {l k:Int}:∀ (m:Nat) (i:Int) (y:Int),Xy f R n ρ l k m i=some (y,false)->y=0
 | 0,_,_,h=>by cases h
 | m + 1, i, y, h => by
   unfold Xy at h;cases h1:lt i l with
  | false=>rw [h1] at h;cases h;rfl
  | true =>
   rw [h1] at h;simp only [cond_true] at h;cases h2:jc i n with
  | false=>rw [h2] at h;cases h
  | true =>
   rw [h2] at h;simp only [nd,cond_true] at h;cases h3:Gg f (jg ρ i.toNat) k with
  | none=>rw [h3] at h;cases h
  | some c =>
   rw [h3] at h;simp only [Option.bind] at h;cases c with
  | true=>cases h
  | false =>
   simp only [cond_false] at h;cases h4:R (jg ρ i.toNat).bn (jg ρ i.toNat).bρ k with
  | none=>rw [h4] at h;cases h
  | some u =>
   rw [h4] at h;obtain ⟨u1,u2⟩:=u;cases u2 with
  | true=>cases h
  | false =>
   simp only [cond_false] at h;cases h5:R (jg ρ i.toNat).en (jg ρ i.toNat).eρ k with
  | none=>rw [h5] at h;cases h
  | some v =>
   rw [h5] at h;obtain ⟨v1,v2⟩:=v;cases v2 with
  | true=>cases h
  | false=>exact Lg m _ y h
theorem jhx (f:Nat) (R:MsF) (n:Nat) (ρ:Val) (k:Int):Sy Ho (t80 f R n ρ k) (TF f R n ρ k):=by
 unfold t80;cases h:TF f R n ρ k with
 | none=>exact trivial
 | some y =>
   obtain ⟨y1,y2⟩:=y;cases y2 with
  | true=>exact Sy.need rfl (Sy.br1 rfl Sy.ret)
  | false =>
    obtain rfl:=Lg _ _ _ h;exact Sy.need rfl (Sy.br0 rfl Sy.ret)
theorem joX (f:Nat) {R:MsF} (hR:jo Tryz.prog 36 (nG (G80 R))):jo Tryz.prog 36 (nG (G80 (TF f R))):=by
 refine j3 (H:=H80 f R) (X:=X80 f R) (h80 f hR) (x80 f hR) 10 36 ?_;intro args r h;obtain ⟨n,ρ,k,x,e1,h1,e2⟩:=DI h;rw [e1,e2,jmD]
 have:=jhx f R n ρ k
 rw [h1] at this;exact this
def LW (f:Nat):Nat->MsF
 | 0=>fun _ _ _=>none
 | d+1=>TF f (LW f d)
theorem p80 (f:Nat):∀ d,jo Tryz.prog 36 (nG (G80 (LW f d)))
 | 0 => by
   intro args r h;obtain ⟨n,ρ,k,x,_,h1,_⟩:=DI (zG h);cases h1
 | d+1=>joX f (p80 f d)
abbrev ChF:=ByteArray->Nat->Val->Nat->Val->Option (Int × Int)
def Hb (f d:Nat):ChF:=fun name m κ n ρ =>
 nd (yQ n ρ) (bif Ro.ckE ⟨n,ρ⟩ != 0 then some (0,Ro.ckE ⟨n,ρ⟩) else (jz f d name m κ).bind fun e=>bif e != 0 then some (0,e) else (LW f d m κ (ja n)).bind fun y=>bif y.2 then some (y.1,7) else some (0,0))
def G29 (C:ChF):List A1->Option (Bool × AV)
 | [.agg [.str name,.sl es' m κ],.c (.sl es n ρ)]=>if shEq.shsEq es' (jl 1)&&shEq.shsEq es Ro.siSh then some (os1 (C name m κ n ρ),enc2 (ov1 (0,0) (C name m κ n ρ))) else none
 | _=>none
theorem jfE {C:ChF} {args:List A1} {r:AV} (h:G29 C args=some (true,r)):∃ name m κ n ρ x,args=[.agg [.str name,.sl (jl 1) m κ],.c (.sl Ro.siSh n ρ)]∧C name m κ n ρ=some x∧r=enc2 x:=by
 unfold G29 at h;split at h
 ·split at h
  ·rename_i name es' m κ es n ρ hs;rw [aTq] at hs;simp only [sIq,pIq] at h;cases hR:C name m κ n ρ with
   | none=>rw [hR] at h;cases h.1
   | some x=>rw [hR] at h;exact ⟨name,m,κ,n,ρ,x,by rw [jm hs.1,jm hs.2],hR,h.2.symm⟩
  ·cases h
 ·cases h
noncomputable abbrev H29 (f d:Nat):Hd:=⟨[(35,nG G13)],[(22,nG (G37 f d)),(36,nG (G80 (LW f d)))],[],[]⟩
theorem h29 (f d:Nat):HdOk Tryz.prog (H29 f d):=(((HdOk.nil.ucCons (p80 f d)).ucCons (p37 f d)).tcCons p13)
noncomputable def t29 (f d:Nat) (name:ByteArray) (m:Nat) (κ:Val) (n:Nat) (ρ:Val):Tree AV :=
 let e:=jz f d name m κ
 let y:=LW f d m κ (ja n)
 .need (yQ n ρ) (.br (Ro.ckE ⟨n,ρ⟩ != 0) (lf2 0 (Ro.ckE ⟨n,ρ⟩)) (.need (opD e) (.br (opN e != 0) (lf2 0 (opN e)) (.need (os1 y) (.br (ov1 (0,false) y).2 (lf2 (ov1 (0,false) y).1 7) (lf2 0 0))))))
theorem jng (f d:Nat) (name:ByteArray) (m:Nat) (κ:Val) (n:Nat) (ρ:Val):qf Tryz.prog (H29 f d) 10 14 [.agg [.str name,.sl (jl 1) m κ],.c (.sl Ro.siSh n ρ)]=t29 f d name m κ n ρ:=by kernel_rfl
theorem jjW (f d:Nat) (name:ByteArray) (m:Nat) (κ:Val) (n:Nat) (ρ:Val):Sy enc2 (t29 f d name m κ n ρ) (Hb f d name m κ n ρ):=by
 unfold t29 Hb;simp only [jc4,jcb];refine Sy.nd id fun _=>Sy.cond (fun _=>Sy.ret) fun _ => ?_;cases jz f d name m κ with
 | none=>exact trivial
 | some e =>
 refine Sy.need rfl (Sy.cond (fun _=>Sy.ret) fun _ => ?_);cases LW f d m κ (ja n) with
 | none=>exact trivial
 | some y=>exact Sy.need rfl (Sy.cond (fun _=>Sy.ret) fun _=>Sy.ret)
theorem p29 (f d:Nat):jo Tryz.prog 14 (nG (G29 (Hb f d))):=by
 refine jV (H:=H29 f d) (h29 f d) 10 14 ?_;intro args r h;obtain ⟨name,m,κ,n,ρ,x,e1,h1,e2⟩:=jfE h;refine ⟨_,by rw [e1,jng],?_⟩
 have:=jjW f d name m κ n ρ
 rw [h1] at this;rw [e2];exact this
theorem NcOne.uc {P : Program} {f : Nat} {G : List A1 -> Tree (AV × Mem)} {G' : List A1 -> Option (Bool × AV)} (h : NcOne P f G)
  (hg:∀ args r,G' args=some (true,r)->∃ v m,(G args).sel=some (v,m)∧(zu m v).2=r∧kD r=true):jo P f (nG G'):=by
 intro args r hs hcl F w vs hargs;obtain ⟨v,m,h1,h2,h3⟩:=hg args r (zG hs);refine (h args v m h1 hcl F w vs hargs).mono fun e w2 ⟨u,F',bs',he,hext,hm,hu⟩ => ?_;obtain ⟨F2,e2,_,r2⟩:=ZD hm hu;have e3:=hext.trans e2 (Nat.zero_le _);rw [h2] at r2;refine ⟨u,he,e3.below,?_⟩;exact AV.Rel.grow (bs:=[]) (bs':=[]) ⟨lRq _,fun p _ hp=>e3.F2 p hp.1 hp.2 (by simp),fun _ _ _=>rfl,fun _ _ h=>h⟩ (r2.closed h3)
def jaQ:List A1->Option (Bool × AV)
 | [.c (.sl es n ρ)]=>if shEq.shsEq es Ro.siSh then some (yQ n ρ,.one (.c (.sl Ro.siSh n ρ))) else none
 | _=>none
theorem p51:jo Tryz.prog 37 (nG jaQ):=NcOne.uc n51 fun args r h=>by
 unfold jaQ at h;split at h
 ·split at h
  ·rename_i es n ρ hs;simp only [sIq,pIq] at h;obtain ⟨h1,rfl⟩:=h;rw [jm hs];refine ⟨.one (.c (.os 0 8)),[some (53,[.row false Ro.siSh n ρ])],?_,rfl,rfl⟩;show (Tree.need (yQ n ρ) _).sel=_;rw [h1];rfl
  ·cases h
 ·cases h
noncomputable abbrev H15 (C:ChF) (B:BF):Hd:=⟨[],[(14,nG (G29 C)),(37,nG jaQ)],[],[(38,zE (u52 B))]⟩
theorem h15 {C:ChF} (hC:jo Tryz.prog 14 (nG (G29 C))) {B:BF} (hB:js Tryz.prog 38 (zE (u52 B))):HdOk Tryz.prog (H15 C B):=((HdOk.nil.mcCons hB).ucCons p51).ucCons hC
end Go.Proofs.YtiefjlcakpdfeaaGreatDoor
namespace Go.Sx
open Go Go.RowKit
variable {P:Program}
def LCore (P:Program) (f i k0:Nat) {C D:Type} (S:C->St) (E:D->St) (g:C->Tree (XE × D)):Prop :=
 ∀ fn c b,P.funcs[f]? = some fn->fn.body=some c->jf c i=some b->∀ c0 x,(g c0).sel=some x->∃ N,∀ (lr:Option Nat) (nn:Nat) (Ds:List Deferred) (F:Nat->Prop) (w:World) (bs:List BI) (a:Act),k0<=bs.length->StRel P Ds F w bs (S c0) a->∀ Q:Exit->Act->World->Prop,
  (∀ F' w' bs' a',Ext k0 F w bs F' w' bs'->StRel P Ds F' w' bs' (E x.2) a'->Q (xe x.1) a' w')->Code.roundsIn (FW lr) nn P b Q N a w
def yV {C D:Type} (A:Frame C D) (P:Program) (H:Hd) (d f i:Nat) (g:C->Tree (XE × D)) (c:C):Tree (XE × D) :=
 (jL P H (jZ P H d) f A.k0 (i+1) (qz P f i) (A.S c)).bind fun y=>match y.1 with
  | .normal=>(match J4 A.keep A.k0 A.n A.get y.2 with
   | some c'=>g c'
   | none=>.fail)
  | e=>(match J4 A.keepE A.k0 A.n A.getE y.2 with
   | some r=>.leaf (e,r)
   | none=>.fail)
theorem LCore.fail {f i k0:Nat} {C D:Type} {S:C->St} {E:D->St}:LCore P f i k0 S E fun _=>.fail:=fun _ _ _ _ _ _ _ _ h=>by simp [Tree.sel] at h
theorem LCore.le {f i k0:Nat} {C D:Type} {S:C->St} {E:D->St} {g g':C->Tree (XE × D)} (h:LCore P f i k0 S E g) (hl:∀ c x,(g' c).sel=some x->(g c).sel=some x):LCore P f i k0 S E g' :=
 fun fn c b h1 h2 h3 c0 x hx=>h fn c b h1 h2 h3 c0 x (hl c0 x hx)
theorem LCore.round {C D:Type} {A:Frame C D} (hA:A.Ok) {H:Hd} (hH:HdOk P H) (d:Nat) {f i:Nat} {g:C->Tree (XE × D)} (h:LCore P f i A.k0 A.S A.E g):LCore P f i A.k0 A.S A.E (yV A P H d f i g):=by
 intro fn c b hf hc hb c0 x hx
 have hlb:qz P f i=b:=by
  unfold qz;rw [jd];simp only [Array.getElem?_toList,hf,hc,hb]
 unfold yV at hx;rw [hlb] at hx;obtain ⟨⟨y,s'⟩,h1,h2⟩:=jh hx
 have go : ∀ N, (∀ (lr : Option Nat) (nn : Nat) (Ds : List Deferred) (F : Nat -> Prop) (w : World) (bs : List BI) (a : Act), A.k0 <= bs.length -> StRel P Ds F w bs s' a -> ∀ Q : Exit -> Act -> World -> Prop,
   (∀ F' w' bs' a',Ext A.k0 F w bs F' w' bs'->StRel P Ds F' w' bs' (A.E x.2) a'->Q (xe x.1) a' w')->Exit.then (Code.roundsIn (FW lr) nn P b Q N) Q (xe y) a w) ->
   ∃ N,∀ (lr:Option Nat) (nn:Nat) (Ds:List Deferred) (F:Nat->Prop) (w:World) (bs:List BI) (a:Act),A.k0<=bs.length->StRel P Ds F w bs (A.S c0) a->∀ Q:Exit->Act->World->Prop,
    (∀ F' w' bs' a',Ext A.k0 F w bs F' w' bs'->StRel P Ds F' w' bs' (A.E x.2) a'->Q (xe x.1) a' w')->Code.roundsIn (FW lr) nn P b Q N a w:=by
  intro N hN;refine ⟨N+1,fun lr nn Ds F w bs a hK hs Q hQ => ?_⟩;unfold Code.roundsIn;refine evCode_ok hH.pc (zD hH d) f A.k0 b (i+1) (A.S c0) h1 (fun j b' h hj hk=>hH.lh f fn c (i+1+j) b' h hf hc (qR hb hj) hk) hK hs fun F' w' bs' a' he hs' => ?_;exact hN lr nn Ds F' w' bs' a' (he.le hK) hs' Q fun F'' w'' bs'' a'' he' hs''=>hQ F'' w'' bs'' a'' (he.trans he' (lRq _)) hs''
 have stop : ∀ {r : D}, J4 A.keepE A.k0 A.n A.getE s' = some r -> x = (y, r) -> y ≠ .normal -> ∃ N, ∀ (lr : Option Nat) (nn : Nat) (Ds : List Deferred) (F : Nat -> Prop) (w : World) (bs : List BI) (a : Act), A.k0 <= bs.length -> StRel P Ds F w bs (A.S c0) a -> ∀ Q : Exit -> Act -> World -> Prop,
    (∀ F' w' bs' a',Ext A.k0 F w bs F' w' bs'->StRel P Ds F' w' bs' (A.E x.2) a'->Q (xe x.1) a' w')->Code.roundsIn (FW lr) nn P b Q N a w:=by
  intro r hr hxe hy;subst hxe;refine go 0 fun lr nn Ds F w bs a hK hs Q hQ => ?_;obtain ⟨bs1,he1,hl1,hs2⟩:=Jf hA.getE hr hs
  have:=hQ F w bs1 a he1 hs2
  cases y with
  | normal=>exact (hy rfl).elim
  | exit k=>exact this
  | ret=>exact this
 cases y with
 | normal =>
   simp only at h2;split at h2
   ·rename_i c' hc';obtain ⟨N,hN⟩:=h fn c b hf hc hb c' x h2;refine go N fun lr nn Ds F w bs a hK hs Q hQ => ?_;obtain ⟨bs1,he1,hl1,hs2⟩:=Jf hA.get hc' hs;exact hN lr nn Ds F w bs1 a hl1 hs2 Q fun F' w' bs' a' he' hs'=>hQ F' w' bs' a' (he1.trans he' (lRq _)) hs'
   ·simp [Tree.sel] at h2
 | exit k =>
   simp only at h2;split at h2
   ·rename_i r hr;simp only [Tree.sel,sIq] at h2;exact stop hr h2.symm (by simp)
   ·simp [Tree.sel] at h2
 | ret =>
   simp only at h2;split at h2
   ·rename_i r hr;simp only [Tree.sel,sIq] at h2;exact stop hr h2.symm (by simp)
   ·simp [Tree.sel] at h2
theorem LCore.fuel {C D : Type} {A : Frame C D} (hA : A.Ok) {H : Hd} (hH : HdOk P H) (d : Nat) {f i : Nat} {g : Nat -> C -> Tree (XE × D)} (h0 : ∀ c, (g 0 c).sel = none)
  (hs:∀ k c x,(g (k+1) c).sel=some x->(yV A P H d f i (g k) c).sel=some x):∀ k,LCore P f i A.k0 A.S A.E (g k)
 | 0=>LCore.fail.le fun c x h=>by rw [h0] at h;cases h
 | k+1=>(LCore.round hA hH d (LCore.fuel hA hH d h0 hs k)).le (hs k)
def K4 {C D:Type} (A:Frame C D) (g:C->Tree (XE × D)) (K:Nat) (s:St):Tree (XE × St) :=
 if Nat.ble K A.k0 then (match J4 A.keep A.k0 A.n A.get s with
  | some c=>(g c).bind fun x=>.leaf (x.1,A.E x.2)
  | none=>.fail) else .fail
theorem LCore.ok {C D:Type} {A:Frame C D} (hA:A.Ok) {f i:Nat} {g:C->Tree (XE × D)} (h:LCore P f i A.k0 A.S A.E g) (fn:Func) (c b:Code) (hf:P.funcs[f]? = some fn) (hc:fn.body=some c) (hb:jf c i=some b):LoopOk P b (K4 A g):=by
 intro K s x hx lr nn Ds F w bs a hKb hs Q hQ;unfold K4 at hx;split at hx
 rotate_left
 ·simp [Tree.sel] at hx
 rename_i hK;have hK:=Nat.ble_eq.mp hK;split at hx
 rotate_left
 ·simp [Tree.sel] at hx
 rename_i c0 hc0;obtain ⟨y,h1,h2⟩:=jh hx;simp only [Tree.sel,sIq] at h2;subst h2;obtain ⟨N,hN⟩:=h fn c b hf hc hb c0 y h1;obtain ⟨bs1,he1,hl1,hs2⟩:=Jf hA.get hc0 hs;exact wpIn_loop_rounds N (hN lr nn Ds F w bs1 a hl1 hs2 Q fun F' w' bs' a' he' hs'=>hQ F' w' bs' a' ((he1.trans he' (lRq _)).weak hK) hs')
def jgk:Option (Option (TypeId × List CV))->Option (TypeId × List Sh × Nat × Val)
 | some (some (T,[.row false es n ρ]))=>some (T,es,n,ρ)
 | _=>none
def Nb (b o:Nat) (mem:Mem):Mem :=
 match nth mem b with
 | some (some (T,cs))=>if je cs then mem else match nth cs o with
  | some (.os k sz)=>(match jgk (nth mem k) with
   | some (T',es,n,ρ)=>if je (jk cs o (.os mem.length sz))||k==b then mem else jk (jk mem k none) b (some (T,jk cs o (.os mem.length sz)))++[some (T',[.row false es n ρ])]
   | none=>mem)
  | _=>mem
 | _=>mem
theorem jdg {e:Option (Option (TypeId × List CV))} {T:TypeId} {es:List Sh} {n:Nat} {ρ:Val} (h:jgk e=some (T,es,n,ρ)):e=some (some (T,[.row false es n ρ])):=by
 unfold jgk at h;split at h
 ·cases h;rfl
 ·cases h
theorem M9 {F w bs mem} (hm:MemRel P F w bs mem) (b o:Nat):∃ bs',Ext bs.length F w bs F w bs'∧MemRel P F w bs' (Nb b o mem):=by
 have triv:∃ bs',Ext bs.length F w bs F w bs'∧MemRel P F w bs' mem:=⟨bs,Ext.refl,hm⟩;unfold Nb;split
 rotate_left
 ·exact triv
 rename_i T cs hb;split
 ·exact triv
 rename_i hrow;simp only [Bool.not_eq_true] at hrow;split
 rotate_left
 ·exact triv
 rename_i k sz ho;split
 rotate_left
 ·exact triv
 rename_i T' es n ρ hk;have hk:=jdg hk;split
 ·exact triv
 rename_i hcond;simp only [Bool.or_eq_true,not_or,Bool.not_eq_true,beq_eq_false_iff_ne,ne_eq] at hcond;obtain ⟨hrow',hkb⟩:=hcond;have hklt:=jq hk;rw [← hm.len] at hklt;obtain ⟨x,hx⟩ : ∃ x,nth bs k=some x:=⟨bs[k],by rw [jd];exact List.getElem?_eq_getElem hklt⟩
 have hblt:=jq hb;have hblt':=hblt;rw [← hm.len] at hblt';obtain ⟨y,hy⟩ : ∃ y,nth bs b=some y:=⟨bs[b],by rw [jd];exact List.getElem?_eq_getElem hblt'⟩
 have hko:=hm.row k T' false es n ρ x hk hx;have hkill:=hm.kill k
 have hpush:MemRel P F w (bs++[x]) (jk mem k none++[some (T',[.row false es n ρ])]):=by
  refine hkill.push x (fun hl=>hm.loc k x T' _ hx hk hl) (fun hl j z T1 cs1 hj hc hlz e => ?_) (fun h=>by simp [je] at h) (fun fz es' n' ρ' h => ?_)
  ·rcases jD hc with ⟨_,h⟩ | ⟨hne,hc⟩
   ·cases h
   ·exact hne (hm.inj j k z x T1 cs1 T' _ hj hx hc hk hlz hl e)
  ·simp only [List.cons.injEq,CV.row.injEq,and_true] at h;obtain ⟨rfl,rfl,rfl,rfl⟩:=h;exact hko
 have he:Ext bs.length F w bs F w (bs++[x]):=(Ext.refl (K:=bs.length)).push (.inl ⟨x,jH hx,rfl⟩);refine ⟨bs++[x],he,?_⟩
 have hb2:nth (jk mem k none++[some (T',[.row false es n ρ])]) b=some (some (T,cs)):=by
  refine j4 ?_;rw [jd,jC,List.getElem?_set_ne hkb,← jd];exact hb
 have e:jk (jk mem k none) b (some (T,jk cs o (.os mem.length sz)))++[some (T',[.row false es n ρ])]=jk (jk mem k none++[some (T',[.row false es n ρ])]) b (some (T,jk cs o (.os mem.length sz))):=by
  rw [jC (jk mem k none),jC (jk mem k none++_),List.set_append_left _ _ (by rw [jX];exact hblt)]
 rw [e];have hnew:nth (bs++[x]) mem.length=some x:=by rw [← hm.len];exact jy _ _
 refine hpush.cellsTo hb2 hrow hrow' fun z vs _ _ hr => ?_;refine All2.of_nth (by rw [jX];exact hr.length) fun i c v hc hv => ?_
 rcases jD hc with ⟨rfl,rfl⟩ | ⟨_,hc⟩
 ·obtain ⟨v',hv',hrel⟩:=hr.nth ho;rw [jd,hv'] at hv;simp at hv;subst hv;cases hrel with
  | os h0 hbase =>
    have h0':nth (bs++[x]) k=some x:=j4 hx;rw [h0'] at h0;simp only [sIq] at h0;subst h0;exact .os hnew hbase
 ·obtain ⟨v',hv',hrel⟩:=hr.nth hc;rw [jd,hv'] at hv;simp at hv;subst hv;exact hrel
def St.move (b o:Nat) (s:St):St:=⟨s.tmps,Nb b o s.mem⟩
theorem StRel.move {Ds F w bs s} {a:Act} (hs:StRel P Ds F w bs s a) (b o:Nat) {K:Nat} (hK:K<=bs.length):∃ bs',Ext K F w bs F w bs'∧K<=bs'.length∧StRel P Ds F w bs' (s.move b o) a:=by
 obtain ⟨bs',he,hm⟩:=M9 hs.mem b o;refine ⟨bs',he.weak hK,Nat.le_trans hK he.le,hs.defers,hs.len,fun i sl x h1 h2 => ?_,hm⟩
 have:=hs.slots i sl x h1 h2
 exact ⟨fun hk=>AV.Rel.grow he.grow (this.1 hk),this.2⟩
def jg4 (b o:Nat) (h:Nat->St->Tree (XE × St)) (K:Nat) (s:St):Tree (XE × St):=h K (s.move b o)
theorem jd9 {c:Code} {h:Nat->St->Tree (XE × St)} (b o:Nat) (hh:LoopOk P c h):LoopOk P c (jg4 b o h):=by
 intro K s x hx lr nn Ds F w bs a hK hs Q hQ;obtain ⟨bs',he,hK',hs'⟩:=hs.move b o hK;exact hh K (s.move b o) x hx lr nn Ds F w bs' a hK' hs' Q fun F' w' bs2 a' he' hs2=>hQ F' w' bs2 a' (he.trans he' (lRq _)) hs2
theorem MemRel.lpWk {F w bs mem} (hm : MemRel P F w bs mem) {b : Nat} {T : TypeId} {f i : Nat} {st : LpS} {cs ds : List CV} (hb : nth mem b = some (some (T, .lp f i st :: cs))) (hl : ds.length = cs.length)
  (hw:∀ j d,nth ds j=some d->yt d=true∨nth cs j=some d):MemRel P F w bs (jk mem b (some (T,.lp f i st::ds))):=by
 have key:∀ k T' es,nth (jk mem b (some (T,.lp f i st::ds))) k=some (some (T',es))->(k=b∧T'=T∧es=.lp f i st::ds)∨(k ≠ b∧nth mem k=some (some (T',es))):=by
  intro k T' es hk;rcases jD hk with ⟨rfl,e⟩ | ⟨hne,hk⟩
  ·simp only [sIq,pIq] at e;exact .inl ⟨rfl,e.1,e.2⟩
  ·exact .inr ⟨hne,hk⟩
 have live:∀ k T' es,nth (jk mem b (some (T,.lp f i st::ds))) k=some (some (T',es))->∀ x:BI,jE x es->∃ T1 cs1,nth mem k=some (some (T1,cs1))∧jE x cs1:=by
  intro k T' es hk x hv;rcases key k T' es hk with ⟨rfl,rfl,rfl⟩ | ⟨hne,hk⟩
  ·refine ⟨_,_,hb,?_⟩;cases st with
   | tab=>exact hv
   | _=>exact yS
  ·exact ⟨_,_,hk,hv⟩
 refine ⟨by rw [jX];exact hm.len,fun k x T' es hk hc' hv => ?_,fun k k' x x' T1 cs1 T2 cs2 h1 h2 h3 h4 h5 h6 h7 => ?_,fun k T' es x hc' hrr hk => ?_,fun k T' fz' es' n' ρ' x hc' hk => ?_,fun k T' f' i' st' es x hc' hk => ?_⟩
 ·obtain ⟨T1,cs1,g1,g2⟩:=live k T' es hc' x hv;exact hm.loc k x _ cs1 hk g1 g2
 ·obtain ⟨T3,cs3,g1,g2⟩:=live k T1 cs1 h3 x h5;obtain ⟨T4,cs4,g3,g4⟩:=live k' T2 cs2 h4 x' h6;exact hm.inj k k' x x' T3 cs3 T4 cs4 h1 h2 g1 g3 g2 g4 h7
 ·rcases key k T' es hc' with ⟨rfl,rfl,rfl⟩ | ⟨hne,hc'⟩
  ·simp [je] at hrr
  ·exact hm.cont k T' es x hc' hrr hk
 ·rcases key k T' _ hc' with ⟨rfl,rfl,e⟩ | ⟨hne,hc'⟩
  ·simp at e
  ·exact hm.row k T' fz' es' n' ρ' x hc' hk
 ·rcases key k T' _ hc' with ⟨rfl,rfl,e⟩ | ⟨hne,hc'⟩
  ·simp only [List.cons.injEq,CV.lp.injEq] at e;obtain ⟨⟨rfl,rfl,rfl⟩,rfl⟩:=e;refine (hm.lp k _ f' i' st' cs x hb hk).cells hl fun j c hj ha => ?_;rcases hw j c hj with h | h
   ·rw [h] at ha;cases ha
   ·exact ⟨c,h,ha,fun _ h=>h⟩
  ·exact hm.lp k T' f' i' st' es x hc' hk
end Go.Sx