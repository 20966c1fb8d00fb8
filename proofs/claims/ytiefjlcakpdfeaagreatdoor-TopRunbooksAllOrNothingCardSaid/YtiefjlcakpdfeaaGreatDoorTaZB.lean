/-
 Part TaZB of the proof: RcH RcI RcJ RcK EngLq.
-/
import Derived.Test.YtiefjlcakpdfeaaGreatDoorTaZA
import Derived.Test.YtiefjlcakpdfeaaGreatDoorTaZ
namespace Go.Proofs.YtiefjlcakpdfeaaGreatDoor
open Go Go.Sx Go.RowKit Rb
set_option maxRecDepth 100000
abbrev BS:=Nat × Val × Int
def Hs (x:BS):AV:=.tup [.c (.sl [.rt 1] x.1 x.2.1),.c (.int .i64 x.2.2)]
theorem GA {e:Int}:leA (Gv e) (Hs (0,.zero,e)):=QS (.cons (.c fun _ _ _ h=>by cases h;exact .slnil) (.cons (.c leC.refl) .nil))
def Zb (n:Nat) (ρ:Val):Val:=Val.ofFlat 1 [.sl (jm 1) n ρ]
def zr (u:Bool) (x:RU):RU:=nk u { x with bg:=IntKind.wrap .i64 (x.bg+1) }
def yC (p:Par) (u:Bool) (s:RS) (x:RU):Option (BS × RU) :=
 bif lt 4096 (zr u x).bg then some ((0,.zero,6),zr u x)
 else bif jb s.kind wDo then (doS p u s (zr u x)).bind fun d=>some ((0,.zero,d.1),d.2)
 else bif jb s.kind kj then nd (Nat.ble ((1+s.wn)*16) 140737488355328) ((yE u (1+s.wn) (Val.cat 1 (qT kj) s.wρ) (zr u x)).bind fun z=>some ((0,.zero,0),z.2))
 else bif jb s.kind qc then (p.R 1 (Zb s.bn s.bρ) s.cond.v).bind fun r=>some ((r.1,r.2,0),zr u x)
 else (Zs p u s (zr u x)).bind fun b=>some ((1,Zb b.1.1 b.1.2.1,b.1.2.2),b.2)
def jhP (p:Par):MSp:=fun u rest x=>match rest with
 | [a]=>(match UK a with
  | some s=>uS Hs (0,.zero,0) (yC p u s) x
  | none=>.fail)
 | _=>.fail
noncomputable abbrev jgR (p:Par):Hd:=⟨[],[(97,nG (al p.R))],[],[(72,zk Tw),(96,zk (jfV p)),(98,zk (jho p))]⟩
theorem jq7 {p:Par} (hp:ParOk p):HdOk Tryz.prog (jgR p):=(((HdOk.nil.mcCons (jqS hp)).mcCons (jq5 hp)).mcCons jfB).ucCons hp.rp
def jf2 (p:Par) (u:Bool) (s:RS) (x:RU):Tree (AV × RU) :=
 let x1:=zr u x
 let d:=doS p u s x1
 let dv:=ov1 (0,rU0) d
 let nt:=yE u (1+s.wn) (Val.cat 1 (qT kj) s.wρ) x1
 let z:=ov1 ((),rU0) nt
 let r:=p.R 1 (Zb s.bn s.bρ) s.cond.v
 let rv:=ov1 (0,.zero) r
 let c:=Zs p u s x1
 let cv:=ov1 ((0,.zero,0),rU0) c
 .br (lt 4096 x1.bg) (.leaf (Gv 6,x1)) (.br (jb s.kind wDo) (.need (os1 d) (.leaf (Gv dv.1,nk u dv.2)))
  (.br (jb s.kind kj) (.need (Nat.ble ((1+s.wn)*16) 140737488355328) (.need (os1 nt) (.leaf (Gv 0,nk u z.2))))
  (.br (jb s.kind qc) (.need (os1 r) (.leaf (Hs (rv.1,rv.2,0),x1)))
   (.need (os1 c) (.leaf (Hs (1,Zb cv.1.1 cv.1.2.1,cv.1.2.2),nk u cv.2))))))
theorem ji3 (p:Par) (u:Bool) (s:RS) (x:RU):JO (ClR u) Tryz.prog (jgR p) X3 10 71 [.agg s.cells] x=jf2 p u s x:=by cases u<;>kernel_rfl
theorem jgT (p:Par) (u:Bool) (s:RS) (x:RU):SyC u Hs (jf2 p u s x) (yC p u s x):=by
 unfold jf2 yC;refine SyC.cond (fun _=>.ret' GA rfl) fun _=>SyC.cond (fun _ => ?_) fun _=>SyC.cond (fun _=>SyC.nd id fun _ => ?_) fun _=>SyC.cond (fun _ => ?_) fun _ => ?_
 ·cases doS p u s (zr u x) with
  | none=>exact trivial
  | some y=>exact SyC.need rfl (SyC.rl GA)
 ·cases yE u (1+s.wn) (Val.cat 1 (qT kj) s.wρ) (zr u x) with
  | none=>exact trivial
  | some y=>exact SyC.need rfl (SyC.rl GA)
 ·cases p.R 1 (Zb s.bn s.bρ) s.cond.v with
  | none=>exact trivial
  | some y=>exact SyC.need rfl SyC.ret
 ·cases Zs p u s (zr u x) with
  | none=>exact trivial
  | some y=>exact SyC.need rfl SyC.rt
theorem jq6 {p:Par} (hp:ParOk p):jr Tryz.prog 71 (zk (jhP p)):=VX (H:=jgR p) (X:=X3) (jq7 hp) x3 10 71 fun u rest x z hz=>by
 unfold jhP at hz;split at hz
 rotate_left
 ·cases hz
 split at hz
 rotate_left
 ·cases hz
 rename_i a s hs;rw [QN hs,ji3];obtain ⟨v,x',h1,rfl⟩:=YW hz;have h:=jgT p u s x;rw [h1] at h;exact h
abbrev BF:=Bool->Nat->Val->RU->Option (Int × RU)
def u52 (B:BF):MSp:=fun u rest x=>match rest with
 | [.c (.sl es n ρ)]=>if shEq.shsEq es (jm 1) then uS encI 0 (B u n ρ) x else .fail
 | _=>.fail
noncomputable abbrev H52 (p:Par) (B:BF):Hd:=⟨[],[],[],[(38,zk (u52 B)),(71,zk (jhP p)),(72,zk Tw)]⟩
theorem h52 {p:Par} (hp:ParOk p) {B:BF} (hB:jr Tryz.prog 38 (zk (u52 B))):HdOk Tryz.prog (H52 p B):=((HdOk.nil.mcCons jfB).mcCons (jq6 hp)).mcCons hB
structure CO where
 r:Int
 n:Nat
 ρ:Val
 l:Int
 i:Int
 x:RU
structure CI where
 o:CO
 m:Nat
 κ:Val
 l2:Int
 j:Int
def slO (c:CO):List (Nat × AV):=[(0,.one (.c (.ptr 0 0))),(4,.one (.c (.int .i64 c.r))),(12,.one (.c (.sl (jm 1) c.n c.ρ))),(13,.one (.c (.int .i64 c.l))),(14,.one (.c (.int .i64 c.i)))]
def SO (u:Bool) (c:CO):St:=mkS 51 (slO c) (Jg u c.x)
def SIn (u:Bool) (c:CI):St:=mkS 51 (slO c.o++[(37,.one (.c (.sl [.rt 1] c.m c.κ))),(38,.one (.c (.int .i64 c.l2))),(39,.one (.c (.int .i64 c.j)))]) (Jg u c.o.x)
def jbV:Bool->Mem->Option RU
 | false=>Ru
 | true=>OZ
def jby (u:Bool) (l:List (Nat × AV)) (m:Mem):Option CO:=match l with
 | [(0, .one (.c (.ptr 0 0))), (4, .one (.c (.int .i64 r))), (12, .one (.c (.sl es n ρ))), (13, .one (.c (.int .i64 l))), (14, .one (.c (.int .i64 i)))] =>
   if shEq.shsEq es (jm 1) then (match jbV u m with
    | some x=>some ⟨r,n,ρ,l,i,x⟩
    | none=>none) else none
 | _=>none
def jfS (u:Bool) (l:List (Nat × AV)) (m:Mem):Option CI:=match l with
 | [(0, .one (.c (.ptr 0 0))), (4, .one (.c (.int .i64 r))), (12, .one (.c (.sl es n ρ))), (13, .one (.c (.int .i64 l))), (14, .one (.c (.int .i64 i))), (37, .one (.c (.sl [.rt 1] m' κ))), (38, .one (.c (.int .i64 l2))), (39, .one (.c (.int .i64 j)))] =>
   if shEq.shsEq es (jm 1) then (match jbV u m with
    | some x=>some ⟨⟨r,n,ρ,l,i,x⟩,m',κ,l2,j⟩
    | none=>none) else none
 | _=>none
theorem LI {u:Bool} {m:Mem} {x:RU} (h:jbV u m=some x) (P:Program) (F:Nat->Prop) (w:World) (bs:List BI) (hm:MemRel P F w bs m):MemRel P F w bs (Jg u x):=by
 cases u with
 | false=>exact (Lc false).get m x h P F w bs hm
 | true=>exact (Lc true).get m x h P F w bs hm
theorem LeSl.refl:∀ {l:List (Nat × AV)},LeSl l l
 | []=>.nil
 | _::_=>.cons leAB.refl LeSl.refl
theorem Mq (u:Bool):∀ l m c,jby u l m=some c->StWk (mkS 51 l m) (SO u c):=by
 intro l m c h;unfold jby at h;split at h
 ·split at h
  ·rename_i hs;rw [jj hs];split at h
   ·rename_i hx;cases h;exact yV LeSl.refl (LI hx)
   ·cases h
  ·cases h
 ·cases h
theorem jiF (u:Bool):∀ l m c,jfS u l m=some c->StWk (mkS 51 l m) (SIn u c):=by
 intro l m c h;unfold jfS at h;split at h
 ·split at h
  ·rename_i hs;rw [jj hs];split at h
   ·rename_i hx;cases h;exact yV LeSl.refl (LI hx)
   ·cases h
  ·cases h
 ·cases h
def SOE (u:Bool) (d:Int × RU):St:=mkS 51 [(4,.one (.c (.int .i64 d.1)))] (Jg u d.2)
def jbI (u:Bool) (l:List (Nat × AV)) (m:Mem):Option (Int × RU):=match l with
 | [(4,.one (.c (.int .i64 r)))]=>(match jbV u m with
  | some x=>some (r,x)
  | none=>none)
 | _=>none
theorem jha (u:Bool):∀ l m c,jbI u l m=some c->StWk (mkS 51 l m) (SOE u c):=by
 intro l m c h;unfold jbI at h;split at h
 ·split at h
  ·rename_i hx;cases h;exact yV LeSl.refl (LI hx)
  ·cases h
 ·cases h
def AO (u:Bool):Sx.Frame CO (Int × RU):=⟨1,51,[0,4,12,13,14],jby u,SO u,[4],jbI u,SOE u⟩
def AI (u:Bool):Sx.Frame CI CO:=⟨1,51,[0,4,12,13,14,37,38,39],jfS u,SIn u,[0,4,12,13,14],jby u,SO u⟩
theorem aO (u:Bool):(AO u).Ok:=⟨Mq u,jha u⟩
theorem aI (u:Bool):(AI u).Ok:=⟨jiF u,Mq u⟩
def J6 (κ:Val) (j:Int):Nat:=((κ.at j.toNat).at 0).L []
def Jw (κ:Val) (j:Int):Val:=(κ.at j.toNat).at 0
def rIn (u:Bool) (B:BF) (g:CI->Tree (XP × CO)) (c:CI):Tree (XP × CO) :=
 let o:=B u (J6 c.κ c.j) (Jw c.κ c.j) (nk u c.o.x)
 let y:=ov1 (0,rU0) o
 .br (lt c.j c.l2) (.need (jc c.j c.m) (.need (os1 o) (.br (y.1 != 0) (.leaf (.ret,{ c.o with r:=y.1,x:=nk u y.2 })) (g { c with o:={ c.o with x:=nk u y.2 },j:=IntKind.wrap .i64 (c.j+1) })))) (.leaf (.exit 2,{ c.o with x:=nk u c.o.x }))
theorem jpi (p:Par) (B:BF) (u:Bool) (g:CI->Tree (XP × CO)) (c:CI):jD (AI u) Tryz.prog (H52 p B) X0 10 38 1 g c=rIn u B g c:=by cases u<;>kernel_rfl
def kG (u:Bool) (B:BF) (m:Nat) (κ:Val) (l:Int):Nat->Int->RU->Option (Int × RU)
 | 0,_,_=>none
 | k+1,j,x=>bif lt j l then nd (jc j m) ((B u (J6 κ j) (Jw κ j) (nk u x)).bind fun y=>bif y.1 != 0 then some (y.1,nk u y.2) else kG u B m κ l k (IntKind.wrap .i64 (j+1)) (nk u y.2)) else some (0,nk u x)
def gIn (u:Bool) (B:BF) (k:Nat) (c:CI):Tree (XP × CO) :=
 let o:=kG u B c.m c.κ c.l2 k c.j c.o.x
 let y:=ov1 (0,rU0) o
 .need (os1 o) (.br (y.1 != 0) (.leaf (.ret,{ c.o with r:=y.1,x:=y.2 })) (.leaf (.exit 2,{ c.o with x:=y.2 })))
def jhd (c:CO):Option (Int × RU)->Option (XP × CO)
 | some y=>some (bif y.1 != 0 then (.ret,{ c with r:=y.1,x:=y.2 }) else (.exit 2,{ c with x:=y.2 }))
 | none=>none
theorem My (u:Bool) (B:BF) (k:Nat) (c:CI):(gIn u B k c).sel=jhd c.o (kG u B c.m c.κ c.l2 k c.j c.o.x):=by
 unfold gIn;cases kG u B c.m c.κ c.l2 k c.j c.o.x with
 | none=>rfl
 | some y =>
   show (bif true then (bif y.1 != 0 then some _ else some _) else none)=_;unfold jhd;simp only [ov1];cases (y.1 != 0)<;>rfl
theorem jnA (p:Par) (B:BF) (u:Bool) (k:Nat) (c:CI) (x:XP × CO) (h:(gIn u B (k+1) c).sel=some x):(jD (AI u) Tryz.prog (H52 p B) X0 10 38 1 (gIn u B k) c).sel=some x:=by
 rw [jpi];rw [My] at h;unfold kG at h;unfold rIn;simp only [j9,jG,j3,My];revert h;cases lt c.j c.l2 with
 | false=>exact fun h=>h
 | true =>
 cases jc c.j c.m with
 | false=>exact fun h=>h
 | true =>
 simp only [nd,cond_true];cases B u (J6 c.κ c.j) (Jw c.κ c.j) (nk u c.o.x) with
 | none=>exact fun h=>h
 | some y =>
 simp only [Option.bind,os1,ov1,cond_true];cases hy:(y.1 != 0) with
 | true=>simp only [cond_true];intro h;rw [← h];unfold jhd;simp only [hy,cond_true]
 | false=>simp only [cond_false];exact fun h=>h
theorem jnH {p:Par} (hp:ParOk p) {B:BF} (hB:jr Tryz.prog 38 (zk (u52 B))) (u:Bool):∀ k,CoreOk Tryz.prog 38 1 1 (SIn u) (SO u) (gIn u B k) :=
 CoreOk.fuel (A:=AI u) (aI u) (h52 hp hB) Go.Proofs.YtiefjlcakpdfeaaGreatDoor.x0 10 (fun _=>rfl) (jnA p B u)
def joX (u:Bool) (B:BF) (c:CI):Tree (XP × CO):=gIn u B (c.m+1) c
def X52 (u:Bool) (B:BF):HdP:=⟨[],[],[],[((38,1),qz (AI u) (joX u B))],[],0,[]⟩
theorem x52 {p:Par} (hp:ParOk p) {B:BF} (hB:jr Tryz.prog 38 (zk (u52 B))) (u:Bool):XOk Tryz.prog (X52 u B) :=
 XOk.lxCons XOk.nil (CoreOk.lx (g:=joX u B) (aI u) fun fn c b h1 h2 h3 c0 x hx=>jnH hp hB u _ fn c b h1 h2 h3 c0 x hx)
def jpL:ByteArray:=bs [102,97,105,108]
def YC (k:ByteArray):Val:=Val.ofFlat 1 [.str jpL,.str k]
def Ur (u:Bool) (x:RU) (a:Int):RU:=nk u { x with at_:=a }
def rOu (p:Par) (u:Bool) (B:BF) (g:CO->Tree (XP × (Int × RU))) (c:CO):Tree (XP × (Int × RU)) :=
 let s:=jh c.ρ c.i.toNat
 let st:=yC p u s (nk u c.x)
 let y:=ov1 ((0,.zero,0),rU0) st
 let nt:=yE u 2 (YC s.kind) (nk u y.2)
 let z:=ov1 ((),rU0) nt
 let inn:=kG u B y.1.1 y.1.2.1 (ja y.1.1) (y.1.1+1) 0 (nk u y.2)
 let w:=ov1 (0,rU0) inn
 .br (lt c.i c.l) (.need (jc c.i c.n) (.need (os1 st) (.br (y.1.2.2 != 0) (.need (os1 nt) (.leaf (.ret,(y.1.2.2,Ur u z.2 s.at_))))
  (.need (os1 inn) (.br (w.1 != 0) (.leaf (.ret,(w.1,nk u w.2))) (g { c with i:=IntKind.wrap .i64 (c.i+1),x:=nk u w.2 })))))) (.leaf (.exit 0,(c.r,nk u c.x)))
theorem jmL (p:Par) (B:BF) (u:Bool) (g:CO->Tree (XP × (Int × RU))) (c:CO):jD (AO u) Tryz.prog (H52 p B) (X52 u B) 10 38 0 g c=rOu p u B g c:=by cases u<;>kernel_rfl
def yd (p:Par) (u:Bool) (B:BF) (n:Nat) (ρ:Val) (l:Int):Nat->Int->RU->Option (Int × RU)
 | 0,_,_=>none
 | k + 1, i, x => bif lt i l then nd (jc i n) ((yC p u (jh ρ i.toNat) (nk u x)).bind fun y =>
   bif y.1.2.2 != 0 then (yE u 2 (YC (jh ρ i.toNat).kind) (nk u y.2)).bind fun z=>some (y.1.2.2,Ur u z.2 (jh ρ i.toNat).at_)
   else (kG u B y.1.1 y.1.2.1 (ja y.1.1) (y.1.1+1) 0 (nk u y.2)).bind fun w=>bif w.1 != 0 then some (w.1,nk u w.2) else yd p u B n ρ l k (IntKind.wrap .i64 (i+1)) (nk u w.2)) else some (0,nk u x)
def gOu (p:Par) (u:Bool) (B:BF) (k:Nat) (c:CO):Tree (XP × (Int × RU)) :=
 let o:=yd p u B c.n c.ρ c.l k c.i c.x
 let y:=ov1 (0,rU0) o
 .need (os1 o) (.br (y.1 != 0) (.leaf (.ret,y)) (.leaf (.exit 0,(c.r,y.2))))
def jb4 (r:Int):Option (Int × RU)->Option (XP × (Int × RU))
 | some y=>some (bif y.1 != 0 then (.ret,y) else (.exit 0,(r,y.2)))
 | none=>none
theorem Mm (p:Par) (u:Bool) (B:BF) (k:Nat) (c:CO):(gOu p u B k c).sel=jb4 c.r (yd p u B c.n c.ρ c.l k c.i c.x):=by
 unfold gOu;cases yd p u B c.n c.ρ c.l k c.i c.x with
 | none=>rfl
 | some y =>
   show (bif true then (bif y.1 != 0 then some _ else some _) else none)=_;unfold jb4;simp only [ov1];cases (y.1 != 0)<;>rfl
theorem jmt (p:Par) (B:BF) (u:Bool) (k:Nat) (c:CO) (x:XP × (Int × RU)) (h:(gOu p u B (k+1) c).sel=some x):(jD (AO u) Tryz.prog (H52 p B) (X52 u B) 10 38 0 (gOu p u B k) c).sel=some x:=by
 rw [jmL];rw [Mm] at h;unfold yd at h;unfold rOu;simp only [j9,jG,j3,Mm];revert h;cases lt c.i c.l with
 | false=>exact fun h=>h
 | true =>
 cases jc c.i c.n with
 | false=>exact fun h=>h
 | true =>
 simp only [nd,cond_true];cases yC p u (jh c.ρ c.i.toNat) (nk u c.x) with
 | none=>exact fun h=>h
 | some y =>
 simp only [Option.bind,os1,ov1,cond_true];cases hy:(y.1.2.2 != 0) with
 | true =>
   simp only [cond_true];cases yE u 2 (YC (jh c.ρ c.i.toNat).kind) (nk u y.2) with
  | none=>exact fun h=>h
  | some z=>intro h;rw [← h];unfold jb4;simp only [hy,cond_true]
 | false =>
   simp only [cond_false];cases kG u B y.1.1 y.1.2.1 (ja y.1.1) (y.1.1+1) 0 (nk u y.2) with
  | none=>exact fun h=>h
  | some w =>
    simp only [cond_true];cases hw:(w.1 != 0) with
   | true=>simp only [cond_true];intro h;rw [← h];unfold jb4;simp only [hw,cond_true]
   | false=>simp only [cond_false];exact fun h=>h
theorem jmE {p:Par} (hp:ParOk p) {B:BF} (hB:jr Tryz.prog 38 (zk (u52 B))) (u:Bool):∀ k,CoreOk Tryz.prog 38 0 1 (SO u) (SOE u) (gOu p u B k) :=
 CoreOk.fuel (A:=AO u) (aO u) (h52 hp hB) (x52 hp hB u) 10 (fun _=>rfl) (jmt p B u)
def jl5 (p:Par) (u:Bool) (B:BF) (c:CO):Tree (XP × (Int × RU)):=gOu p u B (c.n+1) c
def jgL (p:Par) (u:Bool) (B:BF):HdP:=⟨[],[],[],[((38,0),qz (AO u) (jl5 p u B))],[],0,[]⟩
theorem jqQ {p:Par} (hp:ParOk p) {B:BF} (hB:jr Tryz.prog 38 (zk (u52 B))) (u:Bool):XOk Tryz.prog (jgL p u B) :=
 XOk.lxCons XOk.nil (CoreOk.lx (g:=jl5 p u B) (aO u) fun fn c b h1 h2 h3 c0 x hx=>jmE hp hB u _ fn c b h1 h2 h3 c0 x hx)
def zl (p:Par) (B:BF):BF:=fun u n ρ x=>yd p u B n ρ (ja n) (n+1) 0 x
def t52 (p:Par) (B:BF) (u:Bool) (n:Nat) (ρ:Val) (x:RU):Tree (AV × RU) :=
 let o:=zl p B u n ρ x
 let y:=ov1 (0,rU0) o
 .need (os1 o) (.br (y.1 != 0) (.leaf (encI y.1,nk u y.2)) (.leaf (encI 0,nk u y.2)))
theorem jlL (p:Par) (B:BF) (u:Bool) (n:Nat) (ρ:Val) (x:RU):JO (ClR u) Tryz.prog (H52 p B) (jgL p u B) 10 38 [.c (.sl (jm 1) n ρ)] x=t52 p B u n ρ x:=by cases u<;>kernel_rfl
theorem M1 {H : Hd} (hH : HdOk Tryz.prog H) {X : Bool -> HdP} (hX : ∀ b, XOk Tryz.prog (X b)) (n f : Nat) {u : MSp}
  (h:∀ b rest x z,(u b rest x).sel=some z->∃ y,(JO (ClR b) Tryz.prog H (X b) n f rest x).sel=some y∧leA y.1 z.1∧Jg b y.2=Jg b z.2):jr Tryz.prog f (zk u) :=
 MI fun b=>Dr (Lc b) hH (hX b) n f fun rest x z hz=>by
  obtain ⟨y,h1,h2,h3⟩:=h b rest x z hz;refine ⟨y,h1,h2,fun F w bs hm => ?_⟩;have e:∀ x,(ClR b).lay x=Jg b x:=fun x=>by cases b<;>rfl
  rw [e] at hm ⊢;rw [← h3];exact hm
theorem jln (p:Par) (B:BF) (u:Bool) (n:Nat) (ρ:Val) (x:RU):SyC u encI (t52 p B u n ρ x) (zl p B u n ρ x):=by
 unfold t52;cases zl p B u n ρ x with
 | none=>exact trivial
 | some y =>
   refine SyC.need rfl ?_;show SyC u encI (.br (y.1 != 0) (.leaf (encI y.1,nk u y.2)) (.leaf (encI 0,nk u y.2))) (some (y.1,y.2));cases hy:(y.1 != 0) with
  | true=>exact SyC.br1 rfl SyC.rt
  | false =>
    have:y.1=0:=by simpa using hy
    refine SyC.br0 rfl ?_;rw [this];exact SyC.rt
theorem jqq {p:Par} (hp:ParOk p) {B:BF} (hB:jr Tryz.prog 38 (zk (u52 B))):jr Tryz.prog 38 (zk (u52 (zl p B))):=M1 (H:=H52 p B) (X:=fun u=>jgL p u B) (h52 hp hB) (jqQ hp hB) 10 38 fun u rest x z hz=>by
 unfold u52 at hz;split at hz
 rotate_left
 ·cases hz
 rename_i es n ρ;split at hz
 rotate_left
 ·cases hz
 rename_i hs;rw [jj hs,jlL];obtain ⟨v,x',h1,rfl⟩:=YW hz;have h:=jln p B u n ρ x;rw [h1] at h;exact h
def We (p:Par):Nat->BF
 | 0=>fun _ _ _ _=>none
 | d+1=>zl p (We p d)
theorem m52 {p:Par} (hp:ParOk p):∀ d,jr Tryz.prog 38 (zk (u52 (We p d)))
 | 0 => M1 (H := HE) (X := fun _ => X3) HdOk.nil (fun _ => x3) 10 38 fun u rest x z hz => by
   unfold u52 at hz;split at hz
   ·split at hz
    ·obtain ⟨v,x',h1,_⟩:=YW hz;cases h1
    ·cases hz
   ·cases hz
 | d+1=>jqq hp (m52 hp d)
abbrev UnF:=RX->Int->Option Bool
def VM (R:UnF):List A1->Option (Bool × AV)
 | [.agg [.str o,.int .i64 v,.sl es n ρ],.c (.int .i64 k)]=>if shEq.shsEq es (jm 0) then some (os1 (R ⟨o,v,n,ρ⟩ k),jF (ov1 false (R ⟨o,v,n,ρ⟩ k))) else none
 | _=>none
theorem OC {R:UnF} {args:List A1} {r:AV} (h:VM R args=some (true,r)):∃ o v n ρ k x,args=[.agg [.str o,.int .i64 v,.sl (jm 0) n ρ],.c (.int .i64 k)]∧R ⟨o,v,n,ρ⟩ k=some x∧r=jF x:=by
 unfold VM at h;split at h
 ·split at h
  ·rename_i o v es n ρ k hs;simp only [sIq,pIq] at h;cases hR:R ⟨o,v,n,ρ⟩ k with
   | none=>rw [hR] at h;cases h.1
   | some x=>rw [hR] at h;exact ⟨o,v,n,ρ,k,x,by rw [jj hs],hR,h.2.symm⟩
  ·cases h
 ·cases h
noncomputable abbrev jh3 (R:UnF):Hd:=⟨[pF 94,pF 95,pF 115,(93,oG jav)],[(68,nG (VM R))],[],[]⟩
theorem jq2 {R:UnF} (hR:UcOne Tryz.prog 68 (nG (VM R))):HdOk Tryz.prog (jh3 R):=((((HdOk.nil.ucCons hR).pcCons jmA).pF 115).pF 95).pF 94
def jcC (R:UnF) (n:Nat) (ρ:Val) (k:Int):Nat->Nat->Tree AV
 | 0,_=>.fail
 | f+1,i=>.br (lt (i:Int) (ja n)) (.need (jc (i:Int) n) (.need (os1 (R (jW ρ i) k)) (.br (ov1 false (R (jW ρ i) k)) (.leaf (jF true)) (jcC R n ρ k f (i+1))))) (.leaf (jF false))
def joV (R:UnF) (e:RX) (k:Int):Tree AV:=.br (bif Rq (zo e.op)==9 then le k e.v else false) (.leaf (jF true)) (jcC R e.n e.ρ k 3 0)
theorem jk9 (R:UnF) (o:ByteArray) (v:Int) (n:Nat) (ρ:Val) (k:Int):qf Tryz.prog (jh3 R) X3 10 68 [.agg [.str o,.int .i64 v,.sl (jm 0) n ρ],.c (.int .i64 k)]=joV R ⟨o,v,n,ρ⟩ k:=by kernel_rfl
def jbK (R:UnF) (n:Nat) (ρ:Val) (k:Int):Nat->Nat->Option Bool
 | 0,_=>none
 | f+1,i=>bif lt (i:Int) (ja n) then nd (jc (i:Int) n) ((R (jW ρ i) k).bind fun v=>bif v then some true else jbK R n ρ k f (i+1)) else some false
def jeU (R:UnF):UnF:=fun e k=>bif (bif Rq (zo e.op)==9 then le k e.v else false) then some true else jbK R e.n e.ρ k 3 0
theorem Ti (R:UnF) (n:Nat) (ρ:Val) (k:Int):∀ f i,Sy jF (jcC R n ρ k f i) (jbK R n ρ k f i)
 | 0,_=>trivial
 | f + 1, i => by
   unfold jcC jbK;refine Sy.cond (fun _=>Sy.nd id fun _ => ?_) fun _=>Sy.ret;cases R (jW ρ i) k with
  | none=>exact trivial
  | some v=>exact Sy.need rfl (Sy.cond (fun _=>Sy.ret) fun _=>Ti R n ρ k f (i+1))
theorem jfT (R:UnF) (e:RX) (k:Int):Sy jF (joV R e k) (jeU R e k):=Sy.cond (fun _=>Sy.ret) fun _=>Ti R _ _ _ _ _
theorem jpA {R:UnF} (hR:UcOne Tryz.prog 68 (nG (VM R))):UcOne Tryz.prog 68 (nG (VM (jeU R))):=by
 refine jR (H:=jh3 R) (X:=X3) (jq2 hR) x3 10 68 ?_;intro args r h;obtain ⟨o,v,n,ρ,k,x,e1,h1,e2⟩:=OC h;rw [e1,e2,jk9]
 have:=jfT R ⟨o,v,n,ρ⟩ k
 rw [h1] at this;exact this
def GB:Nat->UnF
 | 0=>fun _ _=>none
 | f+1=>jeU (GB f)
theorem jn2:∀ f,UcOne Tryz.prog 68 (nG (VM (GB f)))
 | 0 => by
   intro args r h;obtain ⟨o,v,n,ρ,k,x,_,h1,_⟩:=OC (zA h);cases h1
 | f+1=>jpA (jn2 f)
abbrev MsF:=Nat->Val->Int->Option (Int × Bool)
def Lb (x:Int × Bool):AV:=.tup [.c (.int .i64 x.1),.c (.bool x.2)]
def G80 (R:MsF):List A1->Option (Bool × AV)
 | [.c (.sl es n ρ),.c (.int .i64 k)]=>if shEq.shsEq es (jm 1) then some (os1 (R n ρ k),Lb (ov1 (0,false) (R n ρ k))) else none
 | _=>none
theorem Fs {R:MsF} {args:List A1} {r:AV} (h:G80 R args=some (true,r)):∃ n ρ k x,args=[.c (.sl (jm 1) n ρ),.c (.int .i64 k)]∧R n ρ k=some x∧r=Lb x:=by
 unfold G80 at h;split at h
 ·split at h
  ·rename_i es n ρ k hs;simp only [sIq,pIq] at h;cases hR:R n ρ k with
   | none=>rw [hR] at h;cases h.1
   | some x=>rw [hR] at h;exact ⟨n,ρ,k,x,by rw [jj hs],hR,h.2.symm⟩
  ·cases h
 ·cases h
structure C80 where
 r:Int
 b:Bool
 n:Nat
 ρ:Val
 l:Int
 i:Int
 k:Int
def S80 (c:C80):St:=mkS 57 [(3,.one (.c (.ptr 0 0))),(4,.one (.c (.int .i64 c.r))),(5,.one (.c (.bool c.b))),(13,.one (.c (.sl (jm 1) c.n c.ρ))),(14,.one (.c (.int .i64 c.l))),(15,.one (.c (.int .i64 c.i)))] [some (3,[.int .i64 c.k])]
def jay:List (Nat × AV)->Mem->Option C80
 | [(3,.one (.c (.ptr 0 0))),(4,.one (.c (.int .i64 r))),(5,.one (.c (.bool b))),(13,.one (.c (.sl es n ρ))),(14,.one (.c (.int .i64 l))),(15,.one (.c (.int .i64 i)))],[some (3,[.int .i64 k])]=>if shEq.shsEq es (jm 1) then some ⟨r,b,n,ρ,l,i,k⟩ else none
 | _,_=>none
theorem jhf:∀ l m c,jay l m=some c->mkS 57 l m=S80 c:=by
 intro l m c h;unfold jay at h;split at h
 ·split at h
  ·rename_i hs;cases h;rw [jj hs];rfl
  ·cases h
 ·cases h
def E80 (v:Int × Bool):St:=mkS 57 [(4,.one (.c (.int .i64 v.1))),(5,.one (.c (.bool v.2)))] [some (3,[.any])]
def Td:List (Nat × AV)->Mem->Option (Int × Bool)
 | [(4,.one (.c (.int .i64 v))),(5,.one (.c (.bool u)))],[some (3,[.int .i64 _])]=>some (v,u)
 | _,_=>none
theorem jdA:∀ l m c,Td l m=some c->StWk (mkS 57 l m) (E80 c):=by
 intro l m c h;unfold Td at h;split at h
 ·cases h;exact yV LeSl.refl (kI (b:=0) rfl rfl rfl (.cons qZ .nil) rfl rfl)
 ·cases h
def A80:Sx.Frame C80 (Int × Bool):=⟨1,57,[3,4,5,13,14,15],jay,S80,[4,5],Td,E80⟩
theorem a80:A80.Ok:=⟨fun l m c h=>jhf l m c h▸StWk.refl,jdA⟩
noncomputable abbrev H80 (f:Nat) (R:MsF):Hd:=⟨[lK,pF 65,pF 66,pF 92,(53,oG G86),(67,oG TN)],[(68,nG (VM (GB f))),(36,nG (G80 R))],[],[]⟩
theorem h80 (f:Nat) {R:MsF} (hR:UcOne Tryz.prog 36 (nG (G80 R))):HdOk Tryz.prog (H80 f R):=HdOk.lK ((((((((HdOk.nil.ucCons hR).ucCons (jn2 f)).pcCons je7).pcCons p86).pF 92).pF 66).pF 65))
abbrev X6:HdP:=⟨[],[],[],[],[],6,[]⟩
theorem x6:XOk Tryz.prog X6:=XOk.nil
def jhD (s:RS) (k:Int) (i:Nat):Bool:=bif (bif yz (wd s.wρ i) then jb s.kind wDo else false) then le k (J2 (wd s.wρ i)) else false
def jbE {α:Type} (s:RS) (k:Int) (K:Bool->Tree α):Nat->Nat->Tree α
 | 0,_=>.fail
 | f+1,i=>.br (lt (i:Int) (ja s.wn)) (.need (jc (i:Int) s.wn) (.br (jhD s k i) (K true) (jbE s k K f (i+1)))) (K false)
def r80 (f:Nat) (R:MsF) (g:C80->Tree (XP × (Int × Bool))) (c:C80):Tree (XP × (Int × Bool)) :=
 let s:=jh c.ρ c.i.toNat
 let x:=GB f s.cond c.k
 let u:=R s.bn (Yd s.bn s.bρ) c.k
 let v:=R s.en (Yd s.en s.eρ) c.k
 let w:=R 0 Val.zero c.k
 let EX:=g { c with i:=IntKind.wrap .i64 (c.i+1) }
 let T:=fun (j:Int) (y:Option (Int × Bool)) (K:Tree (XP × (Int × Bool)))=>Tree.br (lt j (ja 2)) (.need (jc j 2) (.need (os1 y) (.br (ov1 (0,false) y).2 (.leaf (.ret,((ov1 (0,false) y).1,true))) K))) EX
 .br (lt c.i c.l) (.need (jc c.i c.n) (jbE s c.k (fun nm=>.need (!((yf s.kind==true)&&((nm==false)&&true))||os1 x)
  (.br (bif nm then true else bif yf s.kind then ov1 false x else false) (.leaf (.ret,(s.at_,true))) (T 0 u (T 1 v (T 2 w (T 3 w (T 4 w (T 5 w .fail)))))))) 6 0)) (.leaf (.exit 0,(c.r,c.b)))
theorem jmB (f:Nat) (R:MsF) (g:C80->Tree (XP × (Int × Bool))) (c:C80):jD A80 Tryz.prog (H80 f R) X6 10 36 0 g c=r80 f R g c:=by kernel_rfl
def FR (s:RS) (k:Int):Nat->Nat->Option Bool
 | 0,_=>none
 | f+1,i=>bif lt (i:Int) (ja s.wn) then nd (jc (i:Int) s.wn) (bif jhD s k i then some true else FR s k f (i+1)) else some false
theorem RJ {α:Type} (s:RS) (k:Int) (K:Bool->Tree α):∀ f i,(jbE s k K f i).sel=(FR s k f i).bind fun b=>(K b).sel
 | 0,_=>rfl
 | f + 1, i => by
   simp only [jbE,FR,j9,jG];cases lt (i:Int) (ja s.wn) with
  | false=>rfl
  | true =>
   simp only [cond_true];cases jc (i:Int) s.wn with
  | false=>rfl
  | true =>
   simp only [cond_true,nd];cases jhD s k i with
  | true=>rfl
  | false=>exact RJ s k K f (i+1)
def VC (f:Nat) (s:RS) (k:Int):Option Bool:=(FR s k 6 0).bind fun nm=>bif nm then some true else bif yf s.kind then GB f s.cond k else some false
def Yb (f:Nat) (R:MsF) (n:Nat) (ρ:Val) (l k:Int):Nat->Int->Option (Int × Bool)
 | 0,_=>none
 | m + 1, i => bif lt i l then nd (jc i n) ((VC f (jh ρ i.toNat) k).bind fun c => bif c then some ((jh ρ i.toNat).at_, true) else
   (R (jh ρ i.toNat).bn (jh ρ i.toNat).bρ k).bind fun y=>bif y.2 then some (y.1,true) else (R (jh ρ i.toNat).en (jh ρ i.toNat).eρ k).bind fun z=>bif z.2 then some (z.1,true) else Yb f R n ρ l k m (IntKind.wrap .i64 (i+1))) else some (0,false)
def g80 (f:Nat) (R:MsF) (m:Nat) (c:C80):Tree (XP × (Int × Bool)) :=
 let o:=Yb f R c.n c.ρ c.l c.k m c.i
 let y:=ov1 (0,false) o
 .need (os1 o) (.br y.2 (.leaf (.ret,(y.1,true))) (.leaf (.exit 0,(c.r,c.b))))
def jaj (r:Int) (b:Bool):Option (Int × Bool)->Option (XP × (Int × Bool))
 | some y=>some (bif y.2 then (.ret,(y.1,true)) else (.exit 0,(r,b)))
 | none=>none
theorem Mp (f:Nat) (R:MsF) (m:Nat) (c:C80):(g80 f R m c).sel=jaj c.r c.b (Yb f R c.n c.ρ c.l c.k m c.i):=by
 unfold g80;cases Yb f R c.n c.ρ c.l c.k m c.i with
 | none=>rfl
 | some y =>
   obtain ⟨y1,y2⟩:=y;cases y2<;>rfl
theorem joa (f:Nat) (R:MsF) (m:Nat) (c:C80) (x:XP × (Int × Bool)) (h:(g80 f R (m+1) c).sel=some x):(jD A80 Tryz.prog (H80 f R) X6 10 36 0 (g80 f R m) c).sel=some x:=by
 rw [jmB];rw [Mp] at h;unfold Yb at h;unfold r80;have eb:Yd (jh c.ρ c.i.toNat).bn (jh c.ρ c.i.toNat).bρ=(jh c.ρ c.i.toNat).bρ:=BC _;have ee:Yd (jh c.ρ c.i.toNat).en (jh c.ρ c.i.toNat).eρ=(jh c.ρ c.i.toNat).eρ:=BC _;have c0:lt 0 (ja 2)=true:=rfl;have c1:lt 1 (ja 2)=true:=rfl;have c2:lt 2 (ja 2)=false:=rfl;have d0:jc 0 2=true:=rfl;have d1:jc 1 2=true:=rfl;simp only [j9,jG,j3,RJ,Mp,eb,ee,c0,c1,c2,d0,d1,cond_true,cond_false];revert h;unfold VC;cases lt c.i c.l with
 | false=>exact fun h=>h
 | true =>
 cases jc c.i c.n with
 | false=>exact fun h=>h
 | true =>
 simp only [cond_true,nd];cases FR (jh c.ρ c.i.toNat) c.k 6 0 with
 | none=>exact fun h=>h
 | some nm =>
 cases nm with
 | true =>
   intro h;simp only [Option.bind,cond_true] at h ⊢
   have:(!(yf (jh c.ρ c.i.toNat).kind==true&&(true==false&&true))||os1 (GB f (jh c.ρ c.i.toNat).cond c.k))=true:=by
    cases yf (jh c.ρ c.i.toNat).kind<;>rfl
   rw [this];exact h
 | false =>
 simp only [Option.bind,cond_false]
 have rest : ∀ (E : Bool), jaj c.r c.b ((some E).bind fun cc => bif cc then some ((jh c.ρ c.i.toNat).at_, true) else
   (R (jh c.ρ c.i.toNat).bn (jh c.ρ c.i.toNat).bρ c.k).bind fun y=>bif y.2 then some (y.1,true) else (R (jh c.ρ c.i.toNat).en (jh c.ρ c.i.toNat).eρ c.k).bind fun z=>bif z.2 then some (z.1,true) else Yb f R c.n c.ρ c.l c.k m (IntKind.wrap .i64 (c.i+1)))=some x ->
   (bif E then some (XP.ret,((jh c.ρ c.i.toNat).at_,true)) else bif os1 (R (jh c.ρ c.i.toNat).bn (jh c.ρ c.i.toNat).bρ c.k) then
    bif (ov1 (0,false) (R (jh c.ρ c.i.toNat).bn (jh c.ρ c.i.toNat).bρ c.k)).2 then some (XP.ret,((ov1 (0,false) (R (jh c.ρ c.i.toNat).bn (jh c.ρ c.i.toNat).bρ c.k)).1,true)) else
     bif os1 (R (jh c.ρ c.i.toNat).en (jh c.ρ c.i.toNat).eρ c.k) then bif (ov1 (0,false) (R (jh c.ρ c.i.toNat).en (jh c.ρ c.i.toNat).eρ c.k)).2 then some (XP.ret,((ov1 (0,false) (R (jh c.ρ c.i.toNat).en (jh c.ρ c.i.toNat).eρ c.k)).1,true)) else
      jaj c.r c.b (Yb f R c.n c.ρ c.l c.k m (IntKind.wrap .i64 (c.i+1))) else none else none)=some x:=by
  intro E;cases E with
  | true=>exact fun h=>h
  | false =>
  simp only [Option.bind,cond_false];cases R (jh c.ρ c.i.toNat).bn (jh c.ρ c.i.toNat).bρ c.k with
  | none=>exact fun h=>h
  | some y =>
  obtain ⟨y1,y2⟩:=y;cases y2 with
  | true=>exact fun h=>h
  | false =>
  simp only [os1,ov1,cond_true,cond_false];cases R (jh c.ρ c.i.toNat).en (jh c.ρ c.i.toNat).eρ c.k with
  | none=>exact fun h=>h
  | some z =>
  obtain ⟨z1,z2⟩:=z;cases z2 with
  | true=>exact fun h=>h
  | false=>exact fun h=>h
 cases yf (jh c.ρ c.i.toNat).kind with
 | false=>exact rest false
 | true =>
   simp only [cond_true];cases GB f (jh c.ρ c.i.toNat).cond c.k with
  | none=>exact fun h=>h
  | some E=>exact rest E
theorem jl2 (f:Nat) {R:MsF} (hR:UcOne Tryz.prog 36 (nG (G80 R))):∀ k,CoreOk Tryz.prog 36 0 1 S80 E80 (g80 f R k) :=
 CoreOk.fuel (A:=A80) a80 (h80 f hR) x6 10 (fun _=>rfl) (joa f R)
def jnd (f:Nat) (R:MsF) (c:C80):Tree (XP × (Int × Bool)):=g80 f R (c.n+1) c
def X80 (f:Nat) (R:MsF):HdP:=⟨[],[],[],[((36,0),qz A80 (jnd f R))],[],6,[]⟩
theorem x80 (f:Nat) {R:MsF} (hR:UcOne Tryz.prog 36 (nG (G80 R))):XOk Tryz.prog (X80 f R):=XOk.lxCons XOk.nil (CoreOk.lx (g:=jnd f R) a80 fun fn c b h1 h2 h3 c0 x hx=>jl2 f hR _ fn c b h1 h2 h3 c0 x hx)
def Fq (f:Nat) (R:MsF):MsF:=fun n ρ k=>Yb f R n ρ (ja n) k (n+1) 0
def t80 (f:Nat) (R:MsF) (n:Nat) (ρ:Val) (k:Int):Tree AV :=
 let o:=Fq f R n ρ k
 .need (os1 o) (.br (ov1 (0,false) o).2 (.leaf (Lb ((ov1 (0,false) o).1,true))) (.leaf (Lb (0,false))))
theorem jnB (f:Nat) (R:MsF) (n:Nat) (ρ:Val) (k:Int):qf Tryz.prog (H80 f R) (X80 f R) 10 36 [.c (.sl (jm 1) n ρ),.c (.int .i64 k)]=t80 f R n ρ k:=by kernel_rfl
theorem Hv {f:Nat} {R:MsF} {n:Nat} {ρ:Val} {l k:Int}:∀ (m:Nat) (i:Int) (y:Int),Yb f R n ρ l k m i=some (y,false)->y=0
 | 0,_,_,h=>by cases h
 | m + 1, i, y, h => by
   unfold Yb at h;cases h1:lt i l with
  | false=>rw [h1] at h;cases h;rfl
  | true =>
   rw [h1] at h;simp only [cond_true] at h;cases h2:jc i n with
  | false=>rw [h2] at h;cases h
  | true =>
   rw [h2] at h;simp only [nd,cond_true] at h;cases h3:VC f (jh ρ i.toNat) k with
  | none=>rw [h3] at h;cases h
  | some c =>
   rw [h3] at h;simp only [Option.bind] at h;cases c with
  | true=>cases h
  | false =>
   simp only [cond_false] at h;cases h4:R (jh ρ i.toNat).bn (jh ρ i.toNat).bρ k with
  | none=>rw [h4] at h;cases h
  | some u =>
   rw [h4] at h;obtain ⟨u1,u2⟩:=u;cases u2 with
  | true=>cases h
  | false =>
   simp only [cond_false] at h;cases h5:R (jh ρ i.toNat).en (jh ρ i.toNat).eρ k with
  | none=>rw [h5] at h;cases h
  | some v =>
   rw [h5] at h;obtain ⟨v1,v2⟩:=v;cases v2 with
  | true=>cases h
  | false=>exact Hv m _ y h
theorem jjU (f:Nat) (R:MsF) (n:Nat) (ρ:Val) (k:Int):Sy Lb (t80 f R n ρ k) (Fq f R n ρ k):=by
 unfold t80;cases h:Fq f R n ρ k with
 | none=>exact trivial
 | some y =>
   obtain ⟨y1,y2⟩:=y;cases y2 with
  | true=>exact Sy.need rfl (Sy.br1 rfl Sy.ret)
  | false =>
    obtain rfl:=Hv _ _ _ h;exact Sy.need rfl (Sy.br0 rfl Sy.ret)
theorem jqN (f:Nat) {R:MsF} (hR:UcOne Tryz.prog 36 (nG (G80 R))):UcOne Tryz.prog 36 (nG (G80 (Fq f R))):=by
 refine jR (H:=H80 f R) (X:=X80 f R) (h80 f hR) (x80 f hR) 10 36 ?_;intro args r h;obtain ⟨n,ρ,k,x,e1,h1,e2⟩:=Fs h;rw [e1,e2,jnB]
 have:=jjU f R n ρ k
 rw [h1] at this;exact this
def KW (f:Nat):Nat->MsF
 | 0=>fun _ _ _=>none
 | d+1=>Fq f (KW f d)
theorem p80 (f:Nat):∀ d,UcOne Tryz.prog 36 (nG (G80 (KW f d)))
 | 0 => by
   intro args r h;obtain ⟨n,ρ,k,x,_,h1,_⟩:=Fs (zA h);cases h1
 | d+1=>jqN f (p80 f d)
abbrev ChF:=ByteArray->Nat->Val->Nat->Val->Option (Int × Int)
def X9 (f d:Nat):ChF:=fun name m κ n ρ =>
 nd (qi n ρ) (bif Ro.ckE ⟨n,ρ⟩ != 0 then some (0,Ro.ckE ⟨n,ρ⟩) else (jz f d name m κ).bind fun e=>bif e != 0 then some (0,e) else (KW f d m κ (ja n)).bind fun y=>bif y.2 then some (y.1,7) else some (0,0))
def G29 (C:ChF):List A1->Option (Bool × AV)
 | [.agg [.str name,.sl es' m κ],.c (.sl es n ρ)]=>if shEq.shsEq es' (jm 1)&&shEq.shsEq es Ro.siSh then some (os1 (C name m κ n ρ),enc2 (ov1 (0,0) (C name m κ n ρ))) else none
 | _=>none
theorem je6 {C:ChF} {args:List A1} {r:AV} (h:G29 C args=some (true,r)):∃ name m κ n ρ x,args=[.agg [.str name,.sl (jm 1) m κ],.c (.sl Ro.siSh n ρ)]∧C name m κ n ρ=some x∧r=enc2 x:=by
 unfold G29 at h;split at h
 ·split at h
  ·rename_i name es' m κ es n ρ hs;rw [aTq] at hs;simp only [sIq,pIq] at h;cases hR:C name m κ n ρ with
   | none=>rw [hR] at h;cases h.1
   | some x=>rw [hR] at h;exact ⟨name,m,κ,n,ρ,x,by rw [jj hs.1,jj hs.2],hR,h.2.symm⟩
  ·cases h
 ·cases h
noncomputable abbrev H29 (f d:Nat):Hd:=⟨[(35,nG G13)],[(22,nG (G37 f d)),(36,nG (G80 (KW f d)))],[],[]⟩
theorem h29 (f d:Nat):HdOk Tryz.prog (H29 f d):=(((HdOk.nil.ucCons (p80 f d)).ucCons (p37 f d)).tcCons p13)
noncomputable def t29 (f d:Nat) (name:ByteArray) (m:Nat) (κ:Val) (n:Nat) (ρ:Val):Tree AV :=
 let e:=jz f d name m κ
 let y:=KW f d m κ (ja n)
 .need (qi n ρ) (.br (Ro.ckE ⟨n,ρ⟩ != 0) (lf2 0 (Ro.ckE ⟨n,ρ⟩)) (.need (opD e) (.br (opN e != 0) (lf2 0 (opN e)) (.need (os1 y) (.br (ov1 (0,false) y).2 (lf2 (ov1 (0,false) y).1 7) (lf2 0 0))))))
theorem jmd (f d:Nat) (name:ByteArray) (m:Nat) (κ:Val) (n:Nat) (ρ:Val):j5 Tryz.prog (H29 f d) 10 14 [.agg [.str name,.sl (jm 1) m κ],.c (.sl Ro.siSh n ρ)]=t29 f d name m κ n ρ:=by kernel_rfl
theorem jk1 (f d:Nat) (name:ByteArray) (m:Nat) (κ:Val) (n:Nat) (ρ:Val):Sy enc2 (t29 f d name m κ n ρ) (X9 f d name m κ n ρ):=by
 unfold t29 X9;simp only [jea,jdj];refine Sy.nd id fun _=>Sy.cond (fun _=>Sy.ret) fun _ => ?_;cases jz f d name m κ with
 | none=>exact trivial
 | some e =>
 refine Sy.need rfl (Sy.cond (fun _=>Sy.ret) fun _ => ?_);cases KW f d m κ (ja n) with
 | none=>exact trivial
 | some y=>exact Sy.need rfl (Sy.cond (fun _=>Sy.ret) fun _=>Sy.ret)
theorem p29 (f d:Nat):UcOne Tryz.prog 14 (nG (G29 (X9 f d))):=by
 refine jX (H:=H29 f d) (h29 f d) 10 14 ?_;intro args r h;obtain ⟨name,m,κ,n,ρ,x,e1,h1,e2⟩:=je6 h;refine ⟨_,by rw [e1,jmd],?_⟩
 have:=jk1 f d name m κ n ρ
 rw [h1] at this;rw [e2];exact this
theorem NcOne.uc {P : Program} {f : Nat} {G : List A1 -> Tree (AV × Mem)} {G' : List A1 -> Option (Bool × AV)} (h : NcOne P f G)
  (hg:∀ args r,G' args=some (true,r)->∃ v m,(G args).sel=some (v,m)∧(ze m v).2=r∧aw r=true):UcOne P f (nG G'):=by
 intro args r hs hcl F w vs hargs;obtain ⟨v,m,h1,h2,h3⟩:=hg args r (zA hs);refine (h args v m h1 hcl F w vs hargs).mono fun e w2 ⟨u,F',bs',he,hext,hm,hu⟩ => ?_;obtain ⟨F2,e2,_,r2⟩:=ZB hm hu;have e3:=hext.trans e2 (Nat.zero_le _);rw [h2] at r2;refine ⟨u,he,e3.below,?_⟩;exact AV.Rel.grow (bs:=[]) (bs':=[]) ⟨lRq _,fun p _ hp=>e3.F2 p hp.1 hp.2 (by simp),fun _ _ _=>rfl,fun _ _ h=>h⟩ (r2.closed h3)
def jbi:List A1->Option (Bool × AV)
 | [.c (.sl es n ρ)]=>if shEq.shsEq es Ro.siSh then some (qi n ρ,.one (.c (.sl Ro.siSh n ρ))) else none
 | _=>none
theorem p51:UcOne Tryz.prog 37 (nG jbi):=NcOne.uc n51 fun args r h=>by
 unfold jbi at h;split at h
 ·split at h
  ·rename_i es n ρ hs;simp only [sIq,pIq] at h;obtain ⟨h1,rfl⟩:=h;rw [jj hs];refine ⟨.one (.c (.os 0 8)),[some (53,[.row false Ro.siSh n ρ])],?_,rfl,rfl⟩;show (Tree.need (qi n ρ) _).sel=_;rw [h1];rfl
  ·cases h
 ·cases h
noncomputable abbrev H15 (C:ChF) (B:BF):Hd:=⟨[],[(14,nG (G29 C)),(37,nG jbi)],[],[(38,zk (u52 B))]⟩
theorem h15 {C:ChF} (hC:UcOne Tryz.prog 14 (nG (G29 C))) {B:BF} (hB:jr Tryz.prog 38 (zk (u52 B))):HdOk Tryz.prog (H15 C B):=((HdOk.nil.mcCons hB).ucCons p51).ucCons hC
end Go.Proofs.YtiefjlcakpdfeaaGreatDoor
namespace Go.Sx
open Go Go.RowKit
variable {P:Program}
def LCore (P:Program) (f i k0:Nat) {C D:Type} (S:C->St) (E:D->St) (g:C->Tree (XE × D)):Prop :=
 ∀ fn c b,P.funcs[f]? = some fn->fn.body=some c->jf c i=some b->∀ c0 x,(g c0).sel=some x->∃ N,∀ (lr:Option Nat) (nn:Nat) (Ds:List Deferred) (F:Nat->Prop) (w:World) (bs:List BI) (a:Act),k0<=bs.length->StRel P Ds F w bs (S c0) a->∀ Q:Exit->Act->World->Prop,
  (∀ F' w' bs' a',Ext k0 F w bs F' w' bs'->StRel P Ds F' w' bs' (E x.2) a'->Q (xe x.1) a' w')->Code.roundsIn (FW lr) nn P b Q N a w
def Xo {C D:Type} (A:Frame C D) (P:Program) (H:Hd) (d f i:Nat) (g:C->Tree (XE × D)) (c:C):Tree (XE × D) :=
 (jI P H (jU P H d) f A.k0 (i+1) (qd P f i) (A.S c)).bind fun y=>match y.1 with
  | .normal=>(match JU A.keep A.k0 A.n A.get y.2 with
   | some c'=>g c'
   | none=>.fail)
  | e=>(match JU A.keepE A.k0 A.n A.getE y.2 with
   | some r=>.leaf (e,r)
   | none=>.fail)
theorem LCore.fail {f i k0:Nat} {C D:Type} {S:C->St} {E:D->St}:LCore P f i k0 S E fun _=>.fail:=fun _ _ _ _ _ _ _ _ h=>by simp [Tree.sel] at h
theorem LCore.le {f i k0:Nat} {C D:Type} {S:C->St} {E:D->St} {g g':C->Tree (XE × D)} (h:LCore P f i k0 S E g) (hl:∀ c x,(g' c).sel=some x->(g c).sel=some x):LCore P f i k0 S E g' :=
 fun fn c b h1 h2 h3 c0 x hx=>h fn c b h1 h2 h3 c0 x (hl c0 x hx)
theorem LCore.round {C D:Type} {A:Frame C D} (hA:A.Ok) {H:Hd} (hH:HdOk P H) (d:Nat) {f i:Nat} {g:C->Tree (XE × D)} (h:LCore P f i A.k0 A.S A.E g):LCore P f i A.k0 A.S A.E (Xo A P H d f i g):=by
 intro fn c b hf hc hb c0 x hx
 have hlb:qd P f i=b:=by
  unfold qd;rw [jd];simp only [Array.getElem?_toList,hf,hc,hb]
 unfold Xo at hx;rw [hlb] at hx;obtain ⟨⟨y,s'⟩,h1,h2⟩:=jg hx
 have go : ∀ N, (∀ (lr : Option Nat) (nn : Nat) (Ds : List Deferred) (F : Nat -> Prop) (w : World) (bs : List BI) (a : Act), A.k0 <= bs.length -> StRel P Ds F w bs s' a -> ∀ Q : Exit -> Act -> World -> Prop,
   (∀ F' w' bs' a',Ext A.k0 F w bs F' w' bs'->StRel P Ds F' w' bs' (A.E x.2) a'->Q (xe x.1) a' w')->Exit.then (Code.roundsIn (FW lr) nn P b Q N) Q (xe y) a w) ->
   ∃ N,∀ (lr:Option Nat) (nn:Nat) (Ds:List Deferred) (F:Nat->Prop) (w:World) (bs:List BI) (a:Act),A.k0<=bs.length->StRel P Ds F w bs (A.S c0) a->∀ Q:Exit->Act->World->Prop,
    (∀ F' w' bs' a',Ext A.k0 F w bs F' w' bs'->StRel P Ds F' w' bs' (A.E x.2) a'->Q (xe x.1) a' w')->Code.roundsIn (FW lr) nn P b Q N a w:=by
  intro N hN;refine ⟨N+1,fun lr nn Ds F w bs a hK hs Q hQ => ?_⟩;unfold Code.roundsIn;refine evCode_ok hH.pc (qY hH d) f A.k0 b (i+1) (A.S c0) h1 (fun j b' h hj hk=>hH.lh f fn c (i+1+j) b' h hf hc (qt hb hj) hk) hK hs fun F' w' bs' a' he hs' => ?_;exact hN lr nn Ds F' w' bs' a' (he.le hK) hs' Q fun F'' w'' bs'' a'' he' hs''=>hQ F'' w'' bs'' a'' (he.trans he' (lRq _)) hs''
 have stop : ∀ {r : D}, JU A.keepE A.k0 A.n A.getE s' = some r -> x = (y, r) -> y ≠ .normal -> ∃ N, ∀ (lr : Option Nat) (nn : Nat) (Ds : List Deferred) (F : Nat -> Prop) (w : World) (bs : List BI) (a : Act), A.k0 <= bs.length -> StRel P Ds F w bs (A.S c0) a -> ∀ Q : Exit -> Act -> World -> Prop,
    (∀ F' w' bs' a',Ext A.k0 F w bs F' w' bs'->StRel P Ds F' w' bs' (A.E x.2) a'->Q (xe x.1) a' w')->Code.roundsIn (FW lr) nn P b Q N a w:=by
  intro r hr hxe hy;subst hxe;refine go 0 fun lr nn Ds F w bs a hK hs Q hQ => ?_;obtain ⟨bs1,he1,hl1,hs2⟩:=kR hA.getE hr hs
  have:=hQ F w bs1 a he1 hs2
  cases y with
  | normal=>exact (hy rfl).elim
  | exit k=>exact this
  | ret=>exact this
 cases y with
 | normal =>
   simp only at h2;split at h2
   ·rename_i c' hc';obtain ⟨N,hN⟩:=h fn c b hf hc hb c' x h2;refine go N fun lr nn Ds F w bs a hK hs Q hQ => ?_;obtain ⟨bs1,he1,hl1,hs2⟩:=kR hA.get hc' hs;exact hN lr nn Ds F w bs1 a hl1 hs2 Q fun F' w' bs' a' he' hs'=>hQ F' w' bs' a' (he1.trans he' (lRq _)) hs'
   ·simp [Tree.sel] at h2
 | exit k =>
   simp only at h2;split at h2
   ·rename_i r hr;simp only [Tree.sel,sIq] at h2;exact stop hr h2.symm (by simp)
   ·simp [Tree.sel] at h2
 | ret =>
   simp only at h2;split at h2
   ·rename_i r hr;simp only [Tree.sel,sIq] at h2;exact stop hr h2.symm (by simp)
   ·simp [Tree.sel] at h2
theorem LCore.fuel {C D : Type} {A : Frame C D} (hA : A.Ok) {H : Hd} (hH : HdOk P H) (d : Nat) {f i : Nat} {g : Nat -> C -> Tree (XE × D)} (h0 : ∀ c, (g 0 c).sel = none)
  (hs:∀ k c x,(g (k+1) c).sel=some x->(Xo A P H d f i (g k) c).sel=some x):∀ k,LCore P f i A.k0 A.S A.E (g k)
 | 0=>LCore.fail.le fun c x h=>by rw [h0] at h;cases h
 | k+1=>(LCore.round hA hH d (LCore.fuel hA hH d h0 hs k)).le (hs k)
def Rk {C D:Type} (A:Frame C D) (g:C->Tree (XE × D)) (K:Nat) (s:St):Tree (XE × St) :=
 if Nat.ble K A.k0 then (match JU A.keep A.k0 A.n A.get s with
  | some c=>(g c).bind fun x=>.leaf (x.1,A.E x.2)
  | none=>.fail) else .fail
theorem LCore.ok {C D:Type} {A:Frame C D} (hA:A.Ok) {f i:Nat} {g:C->Tree (XE × D)} (h:LCore P f i A.k0 A.S A.E g) (fn:Func) (c b:Code) (hf:P.funcs[f]? = some fn) (hc:fn.body=some c) (hb:jf c i=some b):LoopOk P b (Rk A g):=by
 intro K s x hx lr nn Ds F w bs a hKb hs Q hQ;unfold Rk at hx;split at hx
 rotate_left
 ·simp [Tree.sel] at hx
 rename_i hK;have hK:=Nat.ble_eq.mp hK;split at hx
 rotate_left
 ·simp [Tree.sel] at hx
 rename_i c0 hc0;obtain ⟨y,h1,h2⟩:=jg hx;simp only [Tree.sel,sIq] at h2;subst h2;obtain ⟨N,hN⟩:=h fn c b hf hc hb c0 y h1;obtain ⟨bs1,he1,hl1,hs2⟩:=kR hA.get hc0 hs;exact wpIn_loop_rounds N (hN lr nn Ds F w bs1 a hl1 hs2 Q fun F' w' bs' a' he' hs'=>hQ F' w' bs' a' ((he1.trans he' (lRq _)).weak hK) hs')
def jgx:Option (Option (TypeId × List CV))->Option (TypeId × List Sh × Nat × Val)
 | some (some (T,[.row false es n ρ]))=>some (T,es,n,ρ)
 | _=>none
def LO (b o:Nat) (mem:Mem):Mem :=
 match nth mem b with
 | some (some (T,cs))=>if je cs then mem else match nth cs o with
  | some (.os k sz)=>(match jgx (nth mem k) with
   | some (T',es,n,ρ)=>if je (jk cs o (.os mem.length sz))||k==b then mem else jk (jk mem k none) b (some (T,jk cs o (.os mem.length sz)))++[some (T',[.row false es n ρ])]
   | none=>mem)
  | _=>mem
 | _=>mem
theorem jep {e:Option (Option (TypeId × List CV))} {T:TypeId} {es:List Sh} {n:Nat} {ρ:Val} (h:jgx e=some (T,es,n,ρ)):e=some (some (T,[.row false es n ρ])):=by
 unfold jgx at h;split at h
 ·cases h;rfl
 ·cases h
theorem jbL {F w bs mem} (hm:MemRel P F w bs mem) (b o:Nat):∃ bs',Ext bs.length F w bs F w bs'∧MemRel P F w bs' (LO b o mem):=by
 have triv:∃ bs',Ext bs.length F w bs F w bs'∧MemRel P F w bs' mem:=⟨bs,Ext.refl,hm⟩;unfold LO;split
 rotate_left
 ·exact triv
 rename_i T cs hb;split
 ·exact triv
 rename_i hrow;simp only [Bool.not_eq_true] at hrow;split
 rotate_left
 ·exact triv
 rename_i k sz ho;split
 rotate_left
 ·exact triv
 rename_i T' es n ρ hk;have hk:=jep hk;split
 ·exact triv
 rename_i hcond;simp only [Bool.or_eq_true,not_or,Bool.not_eq_true,beq_eq_false_iff_ne,ne_eq] at hcond;obtain ⟨hrow',hkb⟩:=hcond;have hklt:=jo hk;rw [← hm.len] at hklt;obtain ⟨x,hx⟩ : ∃ x,nth bs k=some x:=⟨bs[k],by rw [jd];exact gEq hklt⟩
 have hblt:=jo hb;have hblt':=hblt;rw [← hm.len] at hblt';obtain ⟨y,hy⟩ : ∃ y,nth bs b=some y:=⟨bs[b],by rw [jd];exact gEq hblt'⟩
 have hko:=hm.row k T' false es n ρ x hk hx;have hkill:=hm.kill k
 have hpush:MemRel P F w (bs++[x]) (jk mem k none++[some (T',[.row false es n ρ])]):=by
  refine hkill.push x (fun hl=>hm.loc k x T' _ hx hk hl) (fun hl j z T1 cs1 hj hc hlz e => ?_) (fun h=>by simp [je] at h) (fun fz es' n' ρ' h => ?_)
  ·rcases jA hc with ⟨_,h⟩ | ⟨hne,hc⟩
   ·cases h
   ·exact hne (hm.inj j k z x T1 cs1 T' _ hj hx hc hk hlz hl e)
  ·simp only [List.cons.injEq,CV.row.injEq,and_true] at h;obtain ⟨rfl,rfl,rfl,rfl⟩:=h;exact hko
 have he:Ext bs.length F w bs F w (bs++[x]):=(Ext.refl (K:=bs.length)).push (.inl ⟨x,jH hx,rfl⟩);refine ⟨bs++[x],he,?_⟩
 have hb2:nth (jk mem k none++[some (T',[.row false es n ρ])]) b=some (some (T,cs)):=by
  refine jY ?_;rw [jd,jy,List.getElem?_set_ne hkb,← jd];exact hb
 have e:jk (jk mem k none) b (some (T,jk cs o (.os mem.length sz)))++[some (T',[.row false es n ρ])]=jk (jk mem k none++[some (T',[.row false es n ρ])]) b (some (T,jk cs o (.os mem.length sz))):=by
  rw [jy (jk mem k none),jy (jk mem k none++_),List.set_append_left _ _ (by rw [jS];exact hblt)]
 rw [e];have hnew:nth (bs++[x]) mem.length=some x:=by rw [← hm.len];exact jv _ _
 refine hpush.cellsTo hb2 hrow hrow' fun z vs _ _ hr => ?_;refine All2.of_nth (by rw [jS];exact hr.length) fun i c v hc hv => ?_
 rcases jA hc with ⟨rfl,rfl⟩ | ⟨_,hc⟩
 ·obtain ⟨v',hv',hrel⟩:=hr.nth ho;rw [jd,hv'] at hv;simp at hv;subst hv;cases hrel with
  | os h0 hbase =>
    have h0':nth (bs++[x]) k=some x:=jY hx;rw [h0'] at h0;simp only [sIq] at h0;subst h0;exact .os hnew hbase
 ·obtain ⟨v',hv',hrel⟩:=hr.nth hc;rw [jd,hv'] at hv;simp at hv;subst hv;exact hrel
def St.move (b o:Nat) (s:St):St:=⟨s.tmps,LO b o s.mem⟩
theorem StRel.move {Ds F w bs s} {a:Act} (hs:StRel P Ds F w bs s a) (b o:Nat) {K:Nat} (hK:K<=bs.length):∃ bs',Ext K F w bs F w bs'∧K<=bs'.length∧StRel P Ds F w bs' (s.move b o) a:=by
 obtain ⟨bs',he,hm⟩:=jbL hs.mem b o;refine ⟨bs',he.weak hK,Nat.le_trans hK he.le,hs.defers,hs.len,fun i sl x h1 h2 => ?_,hm⟩
 have:=hs.slots i sl x h1 h2
 exact ⟨fun hk=>AV.Rel.grow he.grow (this.1 hk),this.2⟩
def jik (b o:Nat) (h:Nat->St->Tree (XE × St)) (K:Nat) (s:St):Tree (XE × St):=h K (s.move b o)
theorem jhJ {c:Code} {h:Nat->St->Tree (XE × St)} (b o:Nat) (hh:LoopOk P c h):LoopOk P c (jik b o h):=by
 intro K s x hx lr nn Ds F w bs a hK hs Q hQ;obtain ⟨bs',he,hK',hs'⟩:=hs.move b o hK;exact hh K (s.move b o) x hx lr nn Ds F w bs' a hK' hs' Q fun F' w' bs2 a' he' hs2=>hQ F' w' bs2 a' (he.trans he' (lRq _)) hs2
theorem MemRel.lpWk {F w bs mem} (hm : MemRel P F w bs mem) {b : Nat} {T : TypeId} {f i : Nat} {st : LpS} {cs ds : List CV} (hb : nth mem b = some (some (T, .lp f i st :: cs))) (hl : ds.length = cs.length)
  (hw:∀ j d,nth ds j=some d->yj d=true∨nth cs j=some d):MemRel P F w bs (jk mem b (some (T,.lp f i st::ds))):=by
 have key:∀ k T' es,nth (jk mem b (some (T,.lp f i st::ds))) k=some (some (T',es))->(k=b∧T'=T∧es=.lp f i st::ds)∨(k ≠ b∧nth mem k=some (some (T',es))):=by
  intro k T' es hk;rcases jA hk with ⟨rfl,e⟩ | ⟨hne,hk⟩
  ·simp only [sIq,pIq] at e;exact .inl ⟨rfl,e.1,e.2⟩
  ·exact .inr ⟨hne,hk⟩
 have live:∀ k T' es,nth (jk mem b (some (T,.lp f i st::ds))) k=some (some (T',es))->∀ x:BI,jC x es->∃ T1 cs1,nth mem k=some (some (T1,cs1))∧jC x cs1:=by
  intro k T' es hk x hv;rcases key k T' es hk with ⟨rfl,rfl,rfl⟩ | ⟨hne,hk⟩
  ·refine ⟨_,_,hb,?_⟩;cases st with
   | tab=>exact hv
   | _=>exact yM
  ·exact ⟨_,_,hk,hv⟩
 refine ⟨by rw [jS];exact hm.len,fun k x T' es hk hc' hv => ?_,fun k k' x x' T1 cs1 T2 cs2 h1 h2 h3 h4 h5 h6 h7 => ?_,fun k T' es x hc' hrr hk => ?_,fun k T' fz' es' n' ρ' x hc' hk => ?_,fun k T' f' i' st' es x hc' hk => ?_⟩
 ·obtain ⟨T1,cs1,g1,g2⟩:=live k T' es hc' x hv;exact hm.loc k x _ cs1 hk g1 g2
 ·obtain ⟨T3,cs3,g1,g2⟩:=live k T1 cs1 h3 x h5;obtain ⟨T4,cs4,g3,g4⟩:=live k' T2 cs2 h4 x' h6;exact hm.inj k k' x x' T3 cs3 T4 cs4 h1 h2 g1 g3 g2 g4 h7
 ·rcases key k T' es hc' with ⟨rfl,rfl,rfl⟩ | ⟨hne,hc'⟩
  ·simp [je] at hrr
  ·exact hm.cont k T' es x hc' hrr hk
 ·rcases key k T' _ hc' with ⟨rfl,rfl,e⟩ | ⟨hne,hc'⟩
  ·simp at e
  ·exact hm.row k T' fz' es' n' ρ' x hc' hk
 ·rcases key k T' _ hc' with ⟨rfl,rfl,e⟩ | ⟨hne,hc'⟩
  ·simp only [List.cons.injEq,CV.lp.injEq] at e;obtain ⟨⟨rfl,rfl,rfl⟩,rfl⟩:=e;refine (hm.lp k _ f' i' st' cs x hb hk).cells hl fun j c hj ha => ?_;rcases hw j c hj with h | h
   ·rw [h] at ha;cases ha
   ·exact ⟨c,h,ha,fun _ h=>h⟩
  ·exact hm.lp k T' f' i' st' es x hc' hk
end Go.Sx