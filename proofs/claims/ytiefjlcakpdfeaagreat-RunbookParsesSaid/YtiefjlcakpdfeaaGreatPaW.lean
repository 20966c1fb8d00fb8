/-
 Part PaW of the proof: RqF RqG RqH RqI.
-/
import Derived.Test.YtiefjlcakpdfeaaGreatPaV
namespace Go.Proofs.YtiefjlcakpdfeaaGreat
open Go Go.Sx Go.RowKit Rb
set_option maxRecDepth 100000
theorem jaa (a b:Int):lt a b=!le b a:=by
 unfold lt le;cases h:decide (a<b) with
 | true=>have:=of_decide_eq_true h;simp;omega
 | false=>have:=of_decide_eq_false h;simp;omega
theorem OF (c:Int):(bif lt c 48 then true else lt 57 c)=!qV c:=by
 unfold qV;rw [jaa,jaa];cases le 48 c<;>cases le c 57<;>rfl
theorem Dl (s:ByteArray):jb s (bs [])=!lt 0 (ja s.size):=by
 cases h:jb s (bs []) with
 | true=>rw [(zr _ _).1 h];rfl
 | false =>
   have:s.size ≠ 0:=fun h0=>by
    have e:s=bs []:=by
     cases s with | mk a=>cases a with | mk l =>
      cases l with
      | nil=>rfl
      | cons x r=>have h0:r.length+1=0:=h0;omega
    rw [e] at h;cases h
   unfold lt ja
   simp;omega
theorem jpg (s:ByteArray) (h:jb s (bs [])=false):jc 0 s.size=true:=by
 rw [Dl] at h;unfold lt ja at h;unfold jc le lt ja;simp at h ⊢;omega
def G91:List A1->Option AV
 | [.c (.int .u8 c)]=>some (.one (.c (.bool (yE c))))
 | _=>none
def l91 (c:Int):Bool:=bif bif bif le 97 c then le c 122 else false then true else bif le 65 c then le c 90 else false then true else bif le 48 c then le c 57 else false
theorem jmE (c:Int):l91 c=yE c:=by
 unfold l91 yE kV qV;cases le 97 c<;>cases le c 122<;>cases le 65 c<;>cases le c 90<;>cases le 48 c<;>cases le c 57<;>rfl
theorem p91:PcOne Tryz.prog 91 G91:=zW (H:=h00) HdOk.nil 10 91 fun args r h=>by
 unfold G91 at h;split at h
 ·rename_i c;obtain rfl:=Option.some.inj h;exact ⟨rfl,.leaf (.one (.c (.bool (l91 c)))),by kernel_rfl,congrArg (fun b=>AV.one (.c (.bool b))) (jmE c)⟩
 ·cases h
def t93 (s:ByteArray):Tree AV :=
 let c1:=(ja s.size != 2)
 let c2:=bif c1 then true else jr s 0 != 115
 let c3:=bif c2 then true else lt (jr s 1) 48
 .need (!((c1==false)&&true)||jc 0 s.size) (.need (!((c2==false)&&true)||jc 1 s.size) (.need (!((c3==false)&&true)||jc 1 s.size)
  (.br (bif c3 then true else lt 57 (jr s 1)) (.leaf (.tup [.c (.int .i64 0),.c (.bool false)]))
   (.need (jc 1 s.size) (.leaf (.tup [.c (.int .i64 (IntKind.wrap .i64 (IntKind.wrap .u8 (jr s 1 - 48)))),.c (.bool true)]))))))
theorem jmA (s:ByteArray):(jU Tryz.prog h00 10 93 [.c (.str s)] []).vals=t93 s:=by kernel_rfl
theorem jkM (s:ByteArray):(t93 s).All (fun z=>z=.tup [.c (.int .i64 (kM s)),.c (.bool (q8 s))]):=by
 unfold t93 kM q8 Rp;have hd:=OF (jr s 1);revert hd;cases h1:(ja s.size != 2) with
 | true=>intro _;exact jk rfl rfl
 | false =>
   obtain ⟨h2,h3⟩:=M6 s h1;rw [h2,h3];cases (jr s 0 != 115) with
  | true=>intro _;exact jk rfl rfl
  | false =>
    cases lt (jr s 1) 48<;>cases lt 57 (jr s 1)<;>cases qV (jr s 1)<;>intro hd<;>first | (cases hd;done) | exact jk rfl rfl
theorem p93:PcOne Tryz.prog 93 G86:=zW (H:=h00) HdOk.nil 10 93 fun args r h=>by
 unfold G86 at h;split at h
 ·rename_i s;obtain rfl:=Option.some.inj h;exact ⟨rfl,_,jmA s,jkM s⟩
 ·cases h
noncomputable abbrev HWq:Hd:=⟨[(91,oG G91)],[],[],[]⟩
theorem hWq:HdOk Tryz.prog HWq:=HdOk.nil.pcCons p91
abbrev C94:=ByteArray × Bool × Int
def S94 (c:C94):St:=mkS 17 [(0,.one (.c (.str c.1))),(2,.one (.c (.bool c.2.1))),(3,.one (.c (.int .i64 c.2.2)))] []
def RB:List (Nat × AV)->Mem->Option C94
 | [(0,.one (.c (.str s))),(2,.one (.c (.bool b))),(3,.one (.c (.int .i64 i)))],[]=>some (s,b,i)
 | _,_=>none
theorem Dk:∀ l m c,RB l m=some c->mkS 17 l m=S94 c:=by
 intro l m c h;unfold RB at h;split at h
 ·cases h;rfl
 ·cases h
def A94:Sx.Frame C94 C94:=⟨0,17,[0,2,3],RB,S94,[0,2,3],RB,S94⟩
theorem a94:A94.Ok:=.of_eq Dk Dk
def r94 (g:C94->Tree (XP × C94)) (s:ByteArray) (b:Bool) (i:Int):Tree (XP × C94) :=
 .br (lt i (ja s.size)) (.need (jc i s.size) (.br (!yE (jr s i.toNat)) (.leaf (.ret,(s,false,i))) (g (s,b,IntKind.wrap .i64 (i+1))))) (.leaf (.exit 0,(s,b,i)))
theorem jl1 (g:C94->Tree (XP × C94)) (s:ByteArray) (b:Bool) (i:Int):ju A94 Tryz.prog HWq X0 10 94 0 g (s,b,i)=r94 g s b i:=by kernel_rfl
def g94 (k:Nat) (c:C94):Tree (XP × C94) :=
 .need (obD (z7 k c.1 (ja c.1.size) c.2.2)) (.br (obV (z7 k c.1 (ja c.1.size) c.2.2)) (.leaf (.exit 0,(c.1,c.2.1,Zz k c.1 (ja c.1.size) c.2.2))) (.leaf (.ret,(c.1,false,Zz k c.1 (ja c.1.size) c.2.2))))
theorem Mm (k : Nat) (c : C94) : (g94 k c).sel = match z7 k c.1 (ja c.1.size) c.2.2 with
  | some true=>some (.exit 0,(c.1,c.2.1,Zz k c.1 (ja c.1.size) c.2.2))
  | some false=>some (.ret,(c.1,false,Zz k c.1 (ja c.1.size) c.2.2))
  | none=>none:=by
 unfold g94;cases z7 k c.1 (ja c.1.size) c.2.2 with
 | none=>rfl
 | some b=>cases b<;>rfl
theorem jmP (k:Nat) (c:C94) (x:XP × C94) (h:(g94 (k+1) c).sel=some x):(ju A94 Tryz.prog HWq X0 10 94 0 (g94 k) c).sel=some x:=by
 obtain ⟨s,b,i⟩:=c;rw [jl1];rw [Mm] at h;simp only [z7,Zz] at h;simp only [r94,jK,jt,jE,Mm];revert h;generalize lt i (ja s.size)=c1;generalize jc i s.size=c2;generalize yE (jr s i.toNat)=c3;cases c1<;>cases c2<;>cases c3<;>exact fun h=>h
theorem jl3 (k:Nat):CoreOk Tryz.prog 94 0 0 S94 S94 (g94 k):=CoreOk.fuel a94 hWq x0 10 (fun _=>rfl) jmP k
abbrev Qk:=ByteArray × Int × Bool × Int × Int
def DK (c:Qk):St:=mkS 50 [(0,.one (.c (.str c.1))),(2,.one (.c (.int .i64 c.2.1))),(3,.one (.c (.bool c.2.2.1))),(4,.one (.c (.int .i64 c.2.2.2.1))),(5,.one (.c (.int .i64 c.2.2.2.2)))] []
def HS:List (Nat × AV)->Mem->Option Qk
 | [(0,.one (.c (.str s))),(2,.one (.c (.int .i64 v))),(3,.one (.c (.bool b))),(4,.one (.c (.int .i64 n))),(5,.one (.c (.int .i64 i)))],[]=>some (s,v,b,n,i)
 | _,_=>none
theorem OO:∀ l m c,HS l m=some c->mkS 50 l m=DK c:=by
 intro l m c h;unfold HS at h;split at h
 ·cases h;rfl
 ·cases h
def A169:Sx.Frame Qk Qk:=⟨0,50,[0,2,3,4,5],HS,DK,[0,2,3,4,5],HS,DK⟩
theorem jlY:A169.Ok:=.of_eq OO OO
def joX (g:Qk->Tree (XP × Qk)) (s:ByteArray) (v:Int) (b:Bool) (n i:Int):Tree (XP × Qk) :=
 let c:=jr s i.toNat
 .br (lt i (ja s.size)) (.need (jc i s.size) (.need (!((lt c 48==false)&&true)||jc i s.size) (.br (bif lt c 48 then true else lt 57 c) (.leaf (.ret,(s,0,false,n,i)))
  (.need (jc i s.size) (g (s,v,b,IntKind.wrap .i64 (IntKind.wrap .i64 (10*n)+IntKind.wrap .i64 (IntKind.wrap .u8 (c - 48))),IntKind.wrap .i64 (i+1))))))) (.leaf (.exit 0,(s,v,b,n,i)))
theorem jkT (g:Qk->Tree (XP × Qk)) (s:ByteArray) (v:Int) (b:Bool) (n i:Int):ju A169 Tryz.prog h00 X0 10 169 0 g (s,v,b,n,i)=joX g s v b n i:=by kernel_rfl
def N4 (k:Nat) (c:Qk):Tree (XP × Qk) :=
 let r:=kZ k c.1 (ja c.1.size) c.2.2.2.1 c.2.2.2.2
 .need (nfD r) (.br (nfB r) (.leaf (.ret,(c.1,0,false,nfN r,nfI r))) (.leaf (.exit 0,(c.1,c.2.1,c.2.2.1,nfN r,nfI r))))
theorem R9 (k : Nat) (c : Qk) : (N4 k c).sel = match kZ k c.1 (ja c.1.size) c.2.2.2.1 c.2.2.2.2 with
  | some (true,n,i)=>some (.ret,(c.1,0,false,n,i))
  | some (false,n,i)=>some (.exit 0,(c.1,c.2.1,c.2.2.1,n,i))
  | none=>none:=by
 unfold N4;cases kZ k c.1 (ja c.1.size) c.2.2.2.1 c.2.2.2.2 with
 | none=>rfl
 | some r=>obtain ⟨b,n,i⟩:=r;cases b<;>rfl
theorem jlb (k:Nat) (c:Qk) (x:XP × Qk) (h:(N4 (k+1) c).sel=some x):(ju A169 Tryz.prog h00 X0 10 169 0 (N4 k) c).sel=some x:=by
 obtain ⟨s,v,b,n,i⟩:=c;rw [jkT];rw [R9] at h;simp only [kZ] at h;simp only [joX,jK,jt,jE,R9,OF];revert h;generalize lt i (ja s.size)=c1;generalize jc i s.size=c2;generalize qV (jr s i.toNat)=c4;generalize lt (jr s i.toNat) 48=c5;cases c1<;>cases c2<;>cases c4<;>cases c5<;>exact fun h=>h
theorem jjk (k:Nat):CoreOk Tryz.prog 169 0 0 DK DK (N4 k):=CoreOk.fuel jlY HdOk.nil x0 10 (fun _=>rfl) jlb k
def jpq (c:C94):Tree (XP × C94):=g94 (c.1.size+1) c
def jij (c:Qk):Tree (XP × Qk):=N4 (c.1.size+1) c
def X1q:HdP:=⟨[],[],[],[((94,0),j4 A94 jpq),((169,0),j4 A169 jij)],[],0,[]⟩
theorem x1q:XOk Tryz.prog X1q:=(XOk.nil.lxCons (CoreOk.lx (g:=jij) jlY fun fn c b h1 h2 h3 c0 x hx=>jjk _ fn c b h1 h2 h3 c0 x hx)).lxCons (CoreOk.lx (g:=jpq) a94 fun fn c b h1 h2 h3 c0 x hx=>jl3 _ fn c b h1 h2 h3 c0 x hx)
def t94 (s:ByteArray):Tree AV :=
 let r:=z7 (s.size+1) s (ja s.size) 0
 .need (obD r) (.br (obV r) (.leaf (.one (.c (.bool (!jb s (bs [])))))) (.leaf (.one (.c (.bool false)))))
theorem jon (s:ByteArray):jI Tryz.prog HWq X1q 10 94 [.c (.str s)]=t94 s:=by kernel_rfl
theorem p94:jj Tryz.prog 94 (nG G87):=by
 refine jz (H:=HWq) (X:=X1q) hWq x1q 10 94 ?_;intro args r h;unfold G87 at h;split at h
 ·rename_i s;rw [jon];simp only [sIq,pIq] at h;obtain ⟨h1,rfl⟩:=h;unfold jB at h1 ⊢;unfold t94;rw [Dl,Bool.not_not];revert h1;cases z7 (s.size+1) s (ja s.size) 0 with
  | none=>exact fun h=>by cases h
  | some b=>cases b<;>exact fun _=>jk rfl leA.refl
 ·cases h
def jn0 (s:ByteArray):Tree AV :=
 let c3:=bif jb s (bs []) then true else lt 10 (ja s.size)
 let r:=kZ (s.size+1) s (ja s.size) 0 0
 .need (!((c3==false)&&true)||jc 0 s.size)
  (.br (bif c3 then true else bif jr s 0==48 then lt 1 (ja s.size) else false) (.leaf (.tup [.c (.int .i64 0),.c (.bool false)]))
   (.need (nfD r) (.br (nfB r) (.leaf (.tup [.c (.int .i64 0),.c (.bool false)])) (.leaf (.tup [.c (.int .i64 (nfN r)),.c (.bool (le (nfN r) 1073741824))])))))
theorem jjG (s:ByteArray):jI Tryz.prog h00 X1q 10 169 [.c (.str s)]=jn0 s:=by kernel_rfl
theorem jgN:jj Tryz.prog 169 (nG Xv):=by
 refine jz (H:=h00) (X:=X1q) HdOk.nil x1q 10 169 ?_;intro args r h;unfold Xv at h;split at h
 ·rename_i s;rw [jjG];simp only [sIq,pIq] at h;obtain ⟨h1,rfl⟩:=h
  have hn:(!(((bif jb s (bs []) then true else lt 10 (ja s.size))==false)&&true)||jc 0 s.size)=true:=by
   cases h2:jb s (bs []) with
   | true=>rfl
   | false=>rw [jpg s h2];simp
  have he : (bif (bif jb s (bs []) then true else lt 10 (ja s.size)) then true else bif jr s 0 == 48 then lt 1 (ja s.size) else false)
    = (bif bif jb s (bs []) then true else bif lt 1 (ja s.size) then jr s 0==48 else false then true else lt 10 (ja s.size)):=by
   cases jb s (bs [])<;>cases lt 10 (ja s.size)<;>cases (jr s 0==48)<;>cases lt 1 (ja s.size)<;>rfl
  unfold jn0;unfold jq at h1 ⊢;refine ⟨hn,?_⟩;rw [he];revert h1;cases (bif bif jb s (bs []) then true else bif lt 1 (ja s.size) then jr s 0==48 else false then true else lt 10 (ja s.size)) with
  | true=>exact fun _=>jk rfl leA.refl
  | false =>
    cases kZ (s.size+1) s (ja s.size) 0 0 with
   | none=>exact fun h=>by cases h
   | some r=>obtain ⟨b,n,i⟩:=r;cases b<;>exact fun _=>jk rfl leA.refl
 ·cases h
noncomputable abbrev jhh:Hd:=⟨[(93,oG G86)],[(94,nG G87)],[],[]⟩
theorem jrd:HdOk Tryz.prog jhh:=(HdOk.nil.pcCons p93).ucCons p94
theorem jmR (s:ByteArray):jT Tryz.prog jhh 10 40 [.c (.str s)]=t34 s:=by kernel_rfl
theorem p40:jj Tryz.prog 40 (nG G34):=by
 refine jJ (H:=jhh) jrd 10 40 ?_;intro args r h;unfold G34 at h;split at h
 ·rename_i s;refine ⟨_,jmR s,?_⟩;simp only [sIq,pIq] at h;obtain ⟨h1,rfl⟩:=h;unfold yg at h1;simp only [aTq] at h1;unfold t34 qk;exact ⟨h1.1,by simpa using h1.2.1,by simpa using h1.2.2,leA.refl⟩
 ·cases h
def orT {α:Type}:List Bool->Tree α->Tree α->Tree α
 | [],_,B=>B
 | [c],A,B=>.br c A B
 | c::r,A,B=>.br c (.br c A B) (orT r A B)
def Zm:List Bool->Bool
 | []=>false
 | [c]=>c
 | c::r=>c||Zm r
theorem NC {α:Type}:∀ (l:List Bool) (A B:Tree α),(orT l A B).sel=bif Zm l then A.sel else B.sel
 | [],_,_=>rfl
 | [c],_,_=>rfl
 | c :: d :: r, A, B => by
   show (Tree.br c (.br c A B) (orT (d::r) A B)).sel=bif (c||Zm (d::r)) then A.sel else B.sel;rw [jK,NC (d::r)];cases c<;>rfl
def eqs (w:ByteArray) (l:List ByteArray):List Bool:=l.map (jb w)
def w4q:List ByteArray:=[JP,wUp,KG,yv,yL,k6,ZW]
def WO:Nat->ByteArray
 | 1=>bs [115,110]
 | 2=>bs [115,110,111]
 | 3=>bs [115,110,115]
 | 4=>bs [115]
 | _=>bs []
def jbf (k:Nat):AV:=.tup [.c (.str (WO k)),.c (.bool (!(Nat.beq k 0)))]
def TQ:List A1->Option (Bool × AV)
 | [.c (.str w)]=>some (true,jbf (jZ w))
 | _=>none
def jfb (w:ByteArray):Tree AV :=
 let L:=fun k=>Tree.leaf (jbf k)
 orT (eqs w [kz,Qb]) (L 1) (orT (eqs w w4q) (L 4) (.br (jb w J5) (L 2) (.br (jb w J4) (L 3) (L 0))))
theorem jju (w:ByteArray):jT Tryz.prog h00 10 166 [.c (.str w)]=jfb w:=by kernel_rfl
theorem GA {w:ByteArray}:∀ {l:List ByteArray},Zm (eqs w l)=true->w ∈ l
 | [],h=>by cases h
 | [x], h => by
   have h:jb w x=true:=h;rw [(zr _ _).1 h];exact List.mem_cons_self
 | x :: y :: r, h => by
   have h:(jb w x||Zm (eqs w (y::r)))=true:=h;rw [Bool.or_eq_true] at h;rcases h with h | h
   ·rw [(zr _ _).1 h];exact List.mem_cons_self
   ·exact List.mem_cons_of_mem _ (GA h)
theorem jhg (w:ByteArray):(jfb w).sel=some (jbf (jZ w)):=by
 cases h4:Zm (eqs w w4q) with
 | true =>
   have:=GA h4
   simp only [w4q,List.mem_cons,List.not_mem_nil,or_false] at this;rcases this with rfl | rfl | rfl | rfl | rfl | rfl | rfl<;>exact rfl
 | false =>
   unfold jfb;simp only [NC,jK,jE];rw [h4];have e:jZ w=bif Zm (eqs w [kz,Qb]) then 1 else bif jb w J5 then 2 else bif jb w J4 then 3 else bif Zm (eqs w w4q) then 4 else 0:=rfl;rw [e,h4];cases Zm (eqs w [kz,Qb])<;>cases jb w J5<;>cases jb w J4<;>rfl
theorem jf7:jj Tryz.prog 166 (nG TQ):=by
 refine jJ (H:=h00) HdOk.nil 10 166 ?_;intro args r h;unfold TQ at h;split at h
 ·rename_i w;simp only [sIq,pIq,true_and] at h;subst h;exact ⟨_,jju w,jk (jhg w) leA.refl⟩
 ·cases h
def Kn (kind:Int) (w:ByteArray):Bool:=bif kind==115 then q8 w else bif kind==110 then nmO (jq w) else (bif q8 w then true else jb w an)
noncomputable abbrev HOq:Hd:=⟨[(93,oG G86)],[(169,nG Xv)],[],[]⟩
theorem hOq:HdOk Tryz.prog HOq:=(HdOk.nil.ucCons jgN).pcCons p93
def TH:List A1->Option (Bool × AV)
 | [.c (.int .u8 k),.c (.str w)]=>some (nmD (jq w),.one (.c (.bool (Kn k w))))
 | _=>none
def joR (k:Int) (w:ByteArray):Tree AV :=
 .need (nmD (jq w)) (.br (k==115) (.leaf (.one (.c (.bool (q8 w))))) (.br (k==110) (.leaf (.one (.c (.bool (nmO (jq w)))))) (.leaf (.one (.c (.bool (bif q8 w then true else jb w an)))))))
theorem jiS (k:Int) (w:ByteArray):jT Tryz.prog HOq 10 167 [.c (.int .u8 k),.c (.str w)]=joR k w:=by kernel_rfl
theorem jhu:jj Tryz.prog 167 (nG TH):=by
 refine jJ (H:=HOq) hOq 10 167 ?_;intro args r h;unfold TH at h;split at h
 ·rename_i k w;simp only [sIq,pIq] at h;obtain ⟨h1,rfl⟩:=h;refine ⟨_,jiS k w,?_⟩;unfold joR Kn;refine ⟨h1,?_⟩;cases (k==115) with
  | true=>exact jk rfl leA.refl
  | false=>cases (k==110)<;>exact jk rfl leA.refl
 ·cases h
def DI:List A1->Option (Bool × AV)
 | [.c (.str w)]=>some (true,kS (zO w))
 | _=>none
def jeI (w:ByteArray):Tree AV :=
 orT (eqs w [qW,qT,yA,zA,qq,yh,zD,qB]) (.leaf (kS 0)) (.br (jb w yy) (.leaf (kS 1)) (orT (eqs w [wOr,yw,wEq,wLt,wGt,yD,zc]) (.leaf (kS 2)) (.leaf (kS (-1)))))
theorem jkQ (w:ByteArray):jT Tryz.prog h00 10 170 [.c (.str w)]=jeI w:=by kernel_rfl
theorem je0 (w:ByteArray):(jeI w).sel=some (kS (zO w)):=by
 unfold jeI;simp only [NC,jK,jE];have e:zO w=bif Zm (eqs w [qW,qT,yA,zA,qq,yh,zD,qB]) then 0 else bif jb w yy then 1 else bif Zm (eqs w [wOr,yw,wEq,wLt,wGt,yD,zc]) then 2 else -1:=rfl;rw [e];cases Zm (eqs w [qW,qT,yA,zA,qq,yh,zD,qB])<;>cases jb w yy<;>cases Zm (eqs w [wOr,yw,wEq,wLt,wGt,yD,zc])<;>rfl
theorem jfW:jj Tryz.prog 170 (nG DI):=by
 refine jJ (H:=h00) HdOk.nil 10 170 ?_;intro args r h;unfold DI at h;split at h
 ·rename_i w;simp only [sIq,pIq,true_and] at h;subst h;exact ⟨_,jkQ w,jk (je0 w) leA.refl⟩
 ·cases h
def Fq:List A1->Option AV
 | [.c (.str w)]=>some (.one (.c (.bool (yr w))))
 | _=>none
def jf3 (w:ByteArray):Bool:=bif bif bif bif jb w zA then true else jb w qq then true else jb w yh then true else jb w zD then true else jb w qB
theorem jjF (w:ByteArray):jf3 w=yr w:=by
 unfold jf3 yr;cases jb w zA<;>cases jb w qq<;>cases jb w yh<;>cases jb w zD<;>rfl
theorem jgV:PcOne Tryz.prog 171 Fq:=zW (H:=h00) HdOk.nil 10 171 fun args r h=>by
 unfold Fq at h;split at h
 ·rename_i w;obtain rfl:=Option.some.inj h;exact ⟨rfl,.leaf (.one (.c (.bool (jf3 w)))),by kernel_rfl,congrArg (fun b=>AV.one (.c (.bool b))) (jjF w)⟩
 ·cases h
abbrev CN:=(ByteArray × QS) × Int
def SN (c:CN):St:=mkS 133 [(0,.one (.c (.ptr 0 0))),(2,.one (.c (.int .i64 c.2)))] [some (89,yB c.1.1 c.1.2)]
def jbo:List (Nat × AV)->Mem->Option CN
 | [(0,.one (.c (.ptr 0 0))),(2,.one (.c (.int .i64 i)))],[some (89,[.str s,.str t,.int .i64 a,.int .i64 e,.bool b])]=>some ((s,⟨t,a,e,b⟩),i)
 | _,_=>none
theorem I9:∀ l m c,jbo l m=some c->mkS 133 l m=SN c:=by
 intro l m c h;unfold jbo at h;split at h
 ·cases h;rfl
 ·cases h
def AN:Sx.Frame CN CN:=⟨1,133,[0,2],jbo,SN,[0,2],jbo,SN⟩
theorem aN:AN.Ok:=.of_eq I9 I9
def rCm (g:CN->Tree (XP × CN)) (c:CN):Tree (XP × CN) :=
 let d:=lt c.2 (ja c.1.1.size)
 .need (!((d==true)&&true)||jc c.2 c.1.1.size) (.br (bif d then jr c.1.1 c.2.toNat != 10 else false) (g (c.1,IntKind.wrap .i64 (c.2+1))) (.leaf (.exit 2,c)))
theorem jno (g:CN->Tree (XP × CN)) (s t:ByteArray) (a e i:Int) (b:Bool):ju AN Tryz.prog HWq X0 10 38 1 g ((s,⟨t,a,e,b⟩),i)=rCm g ((s,⟨t,a,e,b⟩),i):=by kernel_rfl
def gCm (k:Nat) (c:CN):Tree (XP × CN):=.need (opD (Zw k c.1.1 c.2)) (.leaf (.exit 2,(c.1,opN (Zw k c.1.1 c.2))))
theorem Mi (k:Nat) (c:CN):(gCm k c).sel=match Zw k c.1.1 c.2 with | some n=>some (.exit 2,(c.1,n)) | none=>none:=by
 unfold gCm;cases Zw k c.1.1 c.2<;>rfl
theorem jnH (k:Nat) (c:CN) (x:XP × CN) (h:(gCm (k+1) c).sel=some x):(ju AN Tryz.prog HWq X0 10 38 1 (gCm k) c).sel=some x:=by
 obtain ⟨⟨s,⟨t,a,e,b⟩⟩,i⟩:=c;rw [jno];rw [Mi] at h;simp only [Zw] at h;simp only [rCm,jK,jt,jE,Mi];revert h;generalize lt i (ja s.size)=c1;generalize jc i s.size=c2;generalize (jr s i.toNat != 10)=c3;cases c1<;>cases c2<;>cases c3<;>exact fun h=>h
theorem joe (k:Nat):CoreOk Tryz.prog 38 1 1 SN SN (gCm k):=CoreOk.fuel aN hWq x0 10 (fun _=>rfl) jnH k
def jmM (c:CN):Tree (XP × CN):=gCm (c.1.1.size+1) c
def XCm:HdP:=⟨[],[],[],[((38,1),j4 AN jmM)],[],0,[]⟩
theorem xCm:XOk Tryz.prog XCm:=XOk.nil.lxCons (CoreOk.lx (g:=jmM) aN fun fn c b h1 h2 h3 c0 x hx=>joe _ fn c b h1 h2 h3 c0 x hx)
def joo (g:CN->Tree (XP × CN)) (c:CN):Tree (XP × CN) :=
 let s:=c.1.1
 let i:=c.2
 let d:=lt i (ja s.size)
 let b:=jr s i.toNat
 let v2:=bif b==32 then true else b==9
 let v3:=bif v2 then true else b==10
 let r:=jc i s.size
 .need (!((d==true)&&true)||r) (.need (!(((b==32)==false)&&((d==true)&&true))||r) (.need (!((v2==false)&&((d==true)&&true))||r) (.need (!((v3==false)&&((d==true)&&true))||r)
  (.br (bif d then (bif v3 then true else b==35) else false)
   (.need r (.br (b==35) (.need (opD (Zw (s.size+1) s i)) (g (c.1,opN (Zw (s.size+1) s i)))) (g (c.1,IntKind.wrap .i64 (i+1)))))
   (.leaf (.exit 0,c))))))
theorem jlr (g:CN->Tree (XP × CN)) (s t:ByteArray) (a e i:Int) (b:Bool):ju AN Tryz.prog HWq XCm 10 38 0 g ((s,⟨t,a,e,b⟩),i)=joo g ((s,⟨t,a,e,b⟩),i):=by kernel_rfl
def Nw (k:Nat) (c:CN):Tree (XP × CN):=.need (opD (ZO k c.1.1 c.2)) (.leaf (.exit 0,(c.1,opN (ZO k c.1.1 c.2))))
theorem Ts (k:Nat) (c:CN):(Nw k c).sel=match ZO k c.1.1 c.2 with | some n=>some (.exit 0,(c.1,n)) | none=>none:=by
 unfold Nw;cases ZO k c.1.1 c.2<;>rfl
theorem jkF (k:Nat) (c:CN) (x:XP × CN) (h:(Nw (k+1) c).sel=some x):(ju AN Tryz.prog HWq XCm 10 38 0 (Nw k) c).sel=some x:=by
 obtain ⟨⟨s,⟨t,a,e,b⟩⟩,i⟩:=c;rw [jlr];rw [Ts] at h;simp only [ZO,Ry] at h;simp only [joo,jK,jt,jE,Ts];revert h;generalize lt i (ja s.size)=c1;generalize jc i s.size=c2;generalize (jr s i.toNat==32)=c3;generalize (jr s i.toNat==9)=c4;generalize (jr s i.toNat==10)=c5;generalize (jr s i.toNat==35)=c6;generalize Zw (s.size+1) s i=c7;cases c1<;>cases c2<;>cases c3<;>cases c4<;>cases c5<;>cases c6<;>cases c7<;>exact fun h=>h
theorem jkE (k:Nat):CoreOk Tryz.prog 38 0 1 SN SN (Nw k):=CoreOk.fuel aN hWq xCm 10 (fun _=>rfl) jkF k
def jiy (c:CN):Tree (XP × CN):=Nw (c.1.1.size+1) c
def rLq (g:CN->Tree (XP × CN)) (c:CN):Tree (XP × CN) :=
 let d:=lt c.2 (ja c.1.1.size)
 .need (!((d==true)&&true)||jc c.2 c.1.1.size) (.br (bif d then yE (jr c.1.1 c.2.toNat) else false) (g (c.1,IntKind.wrap .i64 (c.2+1))) (.leaf (.exit 4,c)))
theorem jpb (g:CN->Tree (XP × CN)) (s t:ByteArray) (a e i:Int) (b:Bool):ju AN Tryz.prog HWq X0 10 38 2 g ((s,⟨t,a,e,b⟩),i)=rLq g ((s,⟨t,a,e,b⟩),i):=by kernel_rfl
def gLq (k:Nat) (c:CN):Tree (XP × CN):=.need (opD (Jw k c.1.1 c.2)) (.leaf (.exit 4,(c.1,opN (Jw k c.1.1 c.2))))
theorem Mx (k:Nat) (c:CN):(gLq k c).sel=match Jw k c.1.1 c.2 with | some n=>some (.exit 4,(c.1,n)) | none=>none:=by
 unfold gLq;cases Jw k c.1.1 c.2<;>rfl
theorem jnX (k:Nat) (c:CN) (x:XP × CN) (h:(gLq (k+1) c).sel=some x):(ju AN Tryz.prog HWq X0 10 38 2 (gLq k) c).sel=some x:=by
 obtain ⟨⟨s,⟨t,a,e,b⟩⟩,i⟩:=c;rw [jpb];rw [Mx] at h;simp only [Jw] at h;simp only [rLq,jK,jt,jE,Mx];revert h;generalize lt i (ja s.size)=c1;generalize jc i s.size=c2;generalize yE (jr s i.toNat)=c3;cases c1<;>cases c2<;>cases c3<;>exact fun h=>h
theorem jmF (k:Nat):CoreOk Tryz.prog 38 2 1 SN SN (gLq k):=CoreOk.fuel aN hWq x0 10 (fun _=>rfl) jnX k
def jph (c:CN):Tree (XP × CN):=gLq (c.1.1.size+1) c
def X38:HdP:=⟨[],[],[],[((38,0),j4 AN jiy),((38,2),j4 AN jph)],[],0,[]⟩
theorem x38:XOk Tryz.prog X38:=(XOk.nil.lxCons (CoreOk.lx (g:=jph) aN fun fn c b h1 h2 h3 c0 x hx=>jmF _ fn c b h1 h2 h3 c0 x hx)).lxCons (CoreOk.lx (g:=jiy) aN fun fn c b h1 h2 h3 c0 x hx=>jkE _ fn c b h1 h2 h3 c0 x hx)
def t38 (s:ByteArray) (p:QS):Tree (Out × List CV) :=
 let a:=opN (ZO (s.size+1) s p.en)
 let i:=opN (Jw (s.size+1) s a)
 let fin:=fun e:Int=>Tree.need (kJ s a e) (Z3 (.tup []) s ⟨zm s a.toNat e.toNat,a,e,p.bad⟩)
 .need (opD (ZO (s.size+1) s p.en)) (.need (opD (Jw (s.size+1) s a)) (.br (bif i==a then lt i (ja s.size) else false) (fin (IntKind.wrap .i64 (i+1))) (fin i)))
theorem jlA (s t:ByteArray) (a e:Int) (b:Bool):qX Tryz.prog HWq X38 10 38 89 [] [.str s,.str t,.int .i64 a,.int .i64 e,.bool b]=t38 s ⟨t,a,e,b⟩:=by kernel_rfl
abbrev u38:=yz () kQ (Je jo)
theorem jo1:jn Tryz.prog 38 (localG 89 u38):=Xj hWq x38 10 38 fun s t a e b=>by
 rw [jlA];unfold t38 jo;simp only;cases ZO (s.size+1) s e with
 | none=>exact trivial
 | some k =>
   simp only [opN];cases Jw (s.size+1) s k with
  | none=>exact trivial
  | some i =>
    simp only;refine TellQ.nd rfl (TellQ.nd rfl ?_);cases (bif i==k then lt i (ja s.size) else false) with
   | true=>exact TellQ.sel rfl (TellQ.need fun _=>TellQ.ret)
   | false=>exact TellQ.sel rfl (TellQ.need fun _=>TellQ.ret)
noncomputable abbrev H92:Hd:=⟨[pF 38,pF 92,pF 39,pF 138,(93,oG G86),(171,oG Fq)],[(169,nG Xv),(94,nG G87),(170,nG DI),(166,nG TQ),(167,nG TH)],[],[]⟩
theorem h92:HdOk Tryz.prog H92:=((((((((((HdOk.nil.ucCons jhu).ucCons jf7).ucCons jfW).ucCons p94).ucCons jgN).pcCons jgV).pcCons p93).pF 138).pF 39).pF 92).pF 38
abbrev X92:HdP:=⟨[(38,localG 89 u38)],[],[],[],[],0,[38]⟩
theorem x92:XOk Tryz.prog X92:=XOk.nil.loCons jo1 (LocFn.localG _ _)
def t92 (s w:ByteArray) (p:QS):Tree (Out × List CV) :=
 .br (bif p.bad then true else !jb p.tx w) (Z3 (YL false) s p) (nxQ () (jo s p) fun _ p1=>Z3 (YL true) s p1)
theorem jmS (s t w:ByteArray) (a e:Int) (b:Bool):qX Tryz.prog H92 X92 10 92 89 [.c (.str w)] [.str s,.str t,.int .i64 a,.int .i64 e,.bool b]=t92 s w ⟨t,a,e,b⟩:=by kernel_rfl
abbrev u92:=yz false YL (jcg fun w s p=>zE (jo s) w p)
theorem jpr:jn Tryz.prog 92 (localG 89 u92):=jh2 h92 x92 10 92 fun w s t a e b=>by
 rw [jmS];exact TellQ.cond TellQ.ret (TellQ.bind fun _ p=>TellQ.ret)
abbrev X39:HdP:=⟨[(92,localG 89 u92),(38,localG 89 u38)],[],[],[],[],0,[92,38]⟩
theorem x39:XOk Tryz.prog X39:=x92.loCons jpr (LocFn.localG _ _)
def t39 (s w:ByteArray) (p:QS):Tree (Out × List CV) :=
 nxQ false (zE (jo s) w p) fun c p1=>.br (!c) (Z3 (.tup []) s (jW p1)) (Z3 (.tup []) s p1)
theorem jlV (s t w:ByteArray) (a e:Int) (b:Bool):qX Tryz.prog H92 X39 10 39 89 [.c (.str w)] [.str s,.str t,.int .i64 a,.int .i64 e,.bool b]=t39 s w ⟨t,a,e,b⟩:=by kernel_rfl
abbrev u39:=yz () kQ (jcg fun w s p=>jN (jo s) w p)
theorem jqz:jn Tryz.prog 39 (localG 89 u39):=jh2 h92 x39 10 39 fun w s t a e b=>by
 rw [jlV];exact TellQ.bind fun c p=>TellQ.notc (TellQ.ret (enc:=kQ)) (TellQ.ret (enc:=kQ))
def jlI (most:Int) (s:ByteArray) (p:QS):Tree (Out × List CV) :=
 .need (nmD (jq p.tx)) (.br (bif (bif p.bad then true else !nmO (jq p.tx)) then true else lt most (nmV (jq p.tx))) (Z3 (kS 0) s (jW p)) (nxQ () (jo s p) fun _ p1=>Z3 (kS (nmV (jq p.tx))) s p1))
theorem jjY (s t:ByteArray) (most a e:Int) (b:Bool):qX Tryz.prog H92 X92 10 138 89 [.c (.int .i64 most)] [.str s,.str t,.int .i64 a,.int .i64 e,.bool b]=jlI most s ⟨t,a,e,b⟩:=by kernel_rfl
abbrev jmC:=yz 0 kS (jfp fun most s p=>Jr (jo s) most p)
theorem jqh:jn Tryz.prog 138 (localG 89 jmC):=jqk h92 x92 10 138 fun most s t a e b=>by
 rw [jjY];unfold jlI Jr;simp only;cases jq t with
 | none=>exact trivial
 | some r =>
   obtain ⟨v,ok⟩:=r;exact TellQ.nd rfl (TellQ.cond TellQ.ret (TellQ.bind fun _ p=>TellQ.ret))
abbrev UOq (O:ByteArray->QS->PR QS RX):=yz dX yF (Je O)
noncomputable abbrev Vu:Hd:=⟨[lK,pF 38,pF 92,pF 39,pF 138,pF 205,pF 198,pF 183,pF 168,pF 137,(93,oG G86),(171,oG Fq)],[(169,nG Xv),(94,nG G87),(170,nG DI),(166,nG TQ),(167,nG TH)],[],[]⟩
theorem VQ:HdOk Tryz.prog Vu:=HdOk.lK ((((((((((((((((HdOk.nil.ucCons jhu).ucCons jf7).ucCons jfW).ucCons p94).ucCons jgN).pcCons jgV).pcCons p93).pF 137).pF 168).pF 183).pF 198).pF 205).pF 138).pF 39).pF 92).pF 38)
abbrev Xx:List (Nat × (List A1->Mem->Tree (Out × Mem))):=[(138,localG 89 jmC),(39,localG 89 u39),(92,localG 89 u92),(38,localG 89 u38)]
theorem Ka (r:Nat):XOk Tryz.prog ⟨Xx,[],[],[],[],r,[138,39,92,38]⟩:=(((XOk.nil.loCons jo1 (LocFn.localG _ _)).loCons jpr (LocFn.localG _ _)).loCons jqz (LocFn.localG _ _)).loCons jqh (LocFn.localG _ _)
abbrev XOq (fo r:Nat) (O:ByteArray->QS->PR QS RX):HdP:=⟨(fo,localG 89 (UOq O))::Xx,[],[],[],[],r,fo::[138,39,92,38]⟩
theorem xOq {fo r:Nat} {O:ByteArray->QS->PR QS RX} (hO:jn Tryz.prog fo (localG 89 (UOq O))):XOk Tryz.prog (XOq fo r O):=(Ka r).loCons hO (LocFn.localG _ _)
def Wt (op:ByteArray) (v:Int) (s:ByteArray) (p:QS):Tree (Out × List CV):=.leaf (.ret (.one (.agg [.str op,.int .i64 v,.nils])),yB s p)
theorem J0 {op:ByteArray} {v:Int} {s:ByteArray} {p:QS}:TellQ (Wt op v s p) yF s (.ret (exR op v []) p) :=
 ⟨_,rfl,.ret (Jq (.agg (.cons leC.refl (.cons leC.refl (.cons (fun _ _ _ h=>by cases h;exact .slnil) .nil))))) LeL.refl rfl⟩
def jpi (E:ByteArray->QS->PR QS RX) (s:ByteArray) (p0:QS):Tree (Out × List CV) :=
 nxQ false (zE (jo s) Y0 p0) fun c p=>.br c (nxQ dX (E s p) fun e p2=>nxQ () (jN (jo s) GR p2) fun _ p3=>Z3 (yF e) s p3)
  (.need (nmD (jq p.tx)) (.br (bif nmO (jq p.tx) then !p.bad else false) (nxQ 0 (Jr (jo s) 1073741824 p) fun n p2=>Wt qW n s p2)
   (.need (!(((bif p.bad then true else jb p.tx qW)==false)&&true)||true) (.br (bif (bif p.bad then true else jb p.tx qW) then true else zO p.tx != 0) (Wt (bs []) 0 s (jW p))
    (nxQ () (jo s p) fun _ p2=>.br (!yr p.tx) (Wt p.tx 0 s p2) (.br (!q8 p2.tx) (Wt (bs []) 0 s (jW p2)) (nxQ () (jo s p2) fun _ p3=>Wt p.tx (kM p2.tx) s p3)))))))
theorem jiY (E:ByteArray->QS->PR QS RX) (s t:ByteArray) (a e:Int) (b:Bool):qX Tryz.prog Vu (XOq 137 0 E) 10 205 89 [] [.str s,.str t,.int .i64 a,.int .i64 e,.bool b]=jpi E s ⟨t,a,e,b⟩:=by kernel_rfl
abbrev jiB (E:ByteArray->QS->PR QS RX) (s:ByteArray) (p:QS):PR QS RX:=Y6 (jo s) AR (E s) p
theorem jp5 {E:ByteArray->QS->PR QS RX} (hE:jn Tryz.prog 137 (localG 89 (UOq E))):jn Tryz.prog 205 (localG 89 (UOq (jiB E))):=Xj VQ (xOq hE) 10 205 fun s t a e b=>by
 rw [jiY];unfold jpi jiB Y6;refine TellQ.bind fun c p=>TellQ.cond (TellQ.bind fun e p2=>TellQ.bind fun _ p3=>TellQ.ret) (TellQ.need fun _=>TellQ.cond (TellQ.bind fun n p2=>J0) (TellQ.nd (by simp) (TellQ.cond J0 (TellQ.bind fun _ p2=>TellQ.notc ?_ J0))))
 exact TellQ.notc (TellQ.bind fun _ p3=>J0) J0
abbrev CEq:=(ByteArray × QS) × RX
def SLq (n:Nat) (c:CEq):St:=mkS n [(0,.one (.c (.ptr 0 0))),(2,.one (.c (.ptr 1 0))),(3,.one (.c (.ptr 2 0)))] [some (89,yB c.1.1 c.1.2),some (50,Zu),some (50,c.2.cells)]
def Fi:List CV->Option (ByteArray × QS)
 | [.str s,.str t,.int .i64 a,.int .i64 e,.bool b]=>some (s,⟨t,a,e,b⟩)
 | _=>none
theorem Uk {cs:List CV} {c:ByteArray × QS} (h:Fi cs=some c):cs=yB c.1 c.2:=by
 unfold Fi at h;split at h
 ·cases h;rfl
 ·cases h
def RF:List (Nat × AV)->Mem->Option CEq
 | [(0, .one (.c (.ptr 0 0))), (2, .one (.c (.ptr 1 0))), (3, .one (.c (.ptr 2 0)))], [some (89, c0), some (50, c1), some (50, c2)] =>
   if flat3 c1 then (match Fi c0,GK c2 with | some p,some e=>some (p,e) | _,_=>none) else none
 | _,_=>none
theorem TU (n:Nat):∀ l m c,RF l m=some c->StWk (mkS n l m) (SLq n c):=by
 intro l m c h;unfold RF at h;split at h
 ·rename_i c0 c1 c2;split at h
  ·rename_i h1;split at h
   ·rename_i p e hp he;cases h;rw [Uk hp,Yu he];obtain ⟨a1,a2,a3⟩:=JO h1;exact yk (.cons leAB.refl (.cons leAB.refl (.cons leAB.refl .nil))) (yC (b:=1) rfl a2 a1 a3 rfl rfl)
   ·cases h
  ·cases h
 ·cases h
def ALq (n:Nat):Sx.Frame CEq CEq:=⟨3,n,[0,2,3],RF,SLq n,[0,2,3],RF,SLq n⟩
theorem aLq (n:Nat):(ALq n).Ok:=⟨TU n,TU n⟩
def TellE (T:Tree (XP × CEq)) (s:ByteArray):PR QS RX->Prop
 | .ret v p=>T.sel=some (.exit 0,((s,p),v))
 | _=>True
theorem TellE.sel {T T':Tree (XP × CEq)} {s:ByteArray} {x:PR QS RX} (h:T.sel=T'.sel) (ht:TellE T' s x):TellE T s x:=by
 cases x with
 | stuck=>exact trivial
 | pan a=>exact trivial
 | ret v p=>exact h.trans ht
theorem TellE.bind {α:Type} {d:α} {x:PR QS α} {K:α->QS->Tree (XP × CEq)} {s:ByteArray} {f:α->QS->PR QS RX} (h:∀ v p,TellE (K v p) s (f v p)):TellE (nxQ d x K) s (x.bind f):=by
 cases x with
 | stuck=>exact trivial
 | pan a=>exact trivial
 | ret v p=>exact TellE.sel rfl (h v p)
theorem TellE.cond {c:Bool} {A B:Tree (XP × CEq)} {s:ByteArray} {x y:PR QS RX} (h1:TellE A s x) (h2:TellE B s y):TellE (.br c A B) s (bif c then x else y):=by
 cases c
 ·exact TellE.sel rfl h2
 ·exact TellE.sel rfl h1
def exE (s:ByteArray) (e:RX) (p:QS):Tree (XP × CEq):=.leaf (.exit 0,((s,p),e))
def chE (s:ByteArray) (r:PR QS RX):Tree (XP × CEq):=nxQ dX r fun e p=>exE s e p
theorem L6 {s:ByteArray} {r:PR QS RX} {x:XP × CEq} {T:Tree (XP × CEq)} (h:(chE s r).sel=some x) (ht:TellE T s r):T.sel=some x:=by
 cases r with
 | stuck=>cases h
 | pan a=>cases h
 | ret v p=>rw [← h];exact ht
theorem V6 {s:ByteArray} {r:PR QS RX}:TellE (chE s r) s r:=by cases r<;>first | exact trivial | rfl
def jcq (p:QS):Bool:=bif !p.bad then (bif jb p.tx yD then true else jb p.tx zc) else false
theorem jgx (p:QS):jcq p=opQ [yD,zc] p:=by
 unfold jcq opQ ZL ZL ZL;cases p.bad<;>cases jb p.tx yD<;>cases jb p.tx zc<;>rfl
def jpd (O:ByteArray->QS->PR QS RX) (g:CEq->Tree (XP × CEq)) (s:ByteArray) (p:QS) (e:RX):Tree (XP × CEq) :=
 .br (jcq p) (nxQ () (jo s p) fun _ p1=>nxQ dX (O s p1) fun x p2=>g ((s,p2),exR p.tx 0 [e,x])) (exE s e p)
theorem jiQ (O : ByteArray -> QS -> PR QS RX) (g : CEq -> Tree (XP × CEq)) (s t o : ByteArray) (a e v : Int) (b : Bool) (m : Nat) (ρ : Val) :
  ju (ALq 39) Tryz.prog Vu (XOq 205 0 O) 10 198 0 g ((s,⟨t,a,e,b⟩),⟨o,v,m,ρ⟩)=jpd O g s ⟨t,a,e,b⟩ ⟨o,v,m,ρ⟩:=by kernel_rfl
abbrev jbG (O:ByteArray->QS->PR QS RX) (k:Nat) (e:RX) (s:ByteArray) (p:QS):PR QS RX:=WU (jo s) AR (O s) k e p
def jlu (O:ByteArray->QS->PR QS RX) (k:Nat) (c:CEq):Tree (XP × CEq):=chE c.1.1 (jbG O k c.2 c.1.1 c.1.2)
theorem ji9 {O:ByteArray->QS->PR QS RX} (hO:jn Tryz.prog 205 (localG 89 (UOq O))):∀ k,CoreOk Tryz.prog 198 0 3 (SLq 39) (SLq 39) (jlu O k) :=
 CoreOk.fuel (A:=ALq 39) (aLq 39) VQ (xOq hO) 10 (fun _=>rfl) fun k c x h=>by
  obtain ⟨⟨s,⟨t,a,e,b⟩⟩,⟨o,v,m,ρ⟩⟩:=c;rw [jiQ];refine L6 h ?_;unfold jpd;rw [jgx];exact TellE.cond (TellE.bind fun _ p1=>TellE.bind fun x p2=>V6) rfl
abbrev jna (O:ByteArray->QS->PR QS RX) (k:Nat):HdP:=⟨(205,localG 89 (UOq O))::Xx,[],[],[((198,0),j4 (ALq 39) (jlu O k))],[],0,205::[138,39,92,38]⟩
theorem jq6 {O:ByteArray->QS->PR QS RX} (hO:jn Tryz.prog 205 (localG 89 (UOq O))) (k:Nat):XOk Tryz.prog (jna O k):=(xOq hO).lxCons ((ji9 hO k).lx (aLq 39))
def Hv (O:ByteArray->QS->PR QS RX) (L:RX->ByteArray->QS->PR QS RX) (s:ByteArray) (p:QS):Tree (Out × List CV):=nxQ dX (O s p) fun e p1=>nxQ dX (L e s p1) fun e p2=>Z3 (yF e) s p2
theorem jk2 (O:ByteArray->QS->PR QS RX) (k:Nat) (s t:ByteArray) (a e:Int) (b:Bool):qX Tryz.prog Vu (jna O k) 10 198 89 [] [.str s,.str t,.int .i64 a,.int .i64 e,.bool b]=Hv O (jbG O k) s ⟨t,a,e,b⟩:=by kernel_rfl
abbrev jqI (O:ByteArray->QS->PR QS RX) (k:Nat) (s:ByteArray) (p:QS):PR QS RX:=(O s p).bind fun e p1=>jbG O k e s p1
theorem XT {O:ByteArray->QS->PR QS RX} {L:RX->ByteArray->QS->PR QS RX} {s:ByteArray} {p:QS}:TellQ (Hv O L s p) yF s ((O s p).bind fun e p1=>L e s p1):=by
 unfold Hv;refine TellQ.bind fun e p1 => ?_;cases h:L e s p1 with
 | stuck=>exact trivial
 | pan a=>exact trivial
 | ret v q=>exact TellQ.of_ret rfl
theorem jqg {O:ByteArray->QS->PR QS RX} (hO:jn Tryz.prog 205 (localG 89 (UOq O))) (k:Nat):jn Tryz.prog 198 (localG 89 (UOq (jqI O k))):=Xj VQ (jq6 hO k) 10 198 fun s t a e b=>by
 rw [jk2];exact XT
def jh4 (w:ByteArray) (O:ByteArray->QS->PR QS RX) (g:CEq->Tree (XP × CEq)) (s:ByteArray) (p:QS) (e:RX):Tree (XP × CEq) :=
 nxQ false (zE (jo s) w p) fun c p1=>.br c (nxQ dX (O s p1) fun x p2=>g ((s,p2),exR w 0 [e,x])) (exE s e p1)
abbrev Lc (w:ByteArray) (O:ByteArray->QS->PR QS RX) (k:Nat) (e:RX) (s:ByteArray) (p:QS):PR QS RX:=Yx (jo s) AR w (O s) k e p
def Rm (w:ByteArray) (O:ByteArray->QS->PR QS RX) (k:Nat) (c:CEq):Tree (XP × CEq):=chE c.1.1 (Lc w O k c.2 c.1.1 c.1.2)
abbrev jd5 (w:ByteArray) (O:ByteArray->QS->PR QS RX) (k:Nat) (s:ByteArray) (p:QS):PR QS RX:=(O s p).bind fun e p1=>Lc w O k e s p1
theorem jj2 (O : ByteArray -> QS -> PR QS RX) (g : CEq -> Tree (XP × CEq)) (s t o : ByteArray) (a e v : Int) (b : Bool) (m : Nat) (ρ : Val) :
  ju (ALq 14) Tryz.prog Vu (XOq 183 0 O) 10 168 0 g ((s,⟨t,a,e,b⟩),⟨o,v,m,ρ⟩)=jh4 yw O g s ⟨t,a,e,b⟩ ⟨o,v,m,ρ⟩:=by kernel_rfl
theorem jji {O:ByteArray->QS->PR QS RX} (hO:jn Tryz.prog 183 (localG 89 (UOq O))):∀ k,CoreOk Tryz.prog 168 0 3 (SLq 14) (SLq 14) (Rm yw O k) :=
 CoreOk.fuel (A:=ALq 14) (aLq 14) VQ (xOq hO) 10 (fun _=>rfl) fun k c x h=>by
  obtain ⟨⟨s,⟨t,a,e,b⟩⟩,⟨o,v,m,ρ⟩⟩:=c;rw [jj2];refine L6 h ?_;exact TellE.bind fun c p1=>TellE.cond (TellE.bind fun x p2=>V6) rfl
abbrev joS (O:ByteArray->QS->PR QS RX) (k:Nat):HdP:=⟨(183,localG 89 (UOq O))::Xx,[],[],[((168,0),j4 (ALq 14) (Rm yw O k))],[],0,183::[138,39,92,38]⟩
theorem jqs {O:ByteArray->QS->PR QS RX} (hO:jn Tryz.prog 183 (localG 89 (UOq O))) (k:Nat):XOk Tryz.prog (joS O k):=(xOq hO).lxCons ((jji hO k).lx (aLq 14))
theorem jke (O:ByteArray->QS->PR QS RX) (k:Nat) (s t:ByteArray) (a e:Int) (b:Bool):qX Tryz.prog Vu (joS O k) 10 168 89 [] [.str s,.str t,.int .i64 a,.int .i64 e,.bool b]=Hv O (Lc yw O k) s ⟨t,a,e,b⟩:=by kernel_rfl
theorem jqj {O:ByteArray->QS->PR QS RX} (hO:jn Tryz.prog 183 (localG 89 (UOq O))) (k:Nat):jn Tryz.prog 168 (localG 89 (UOq (jd5 yw O k))):=Xj VQ (jqs hO k) 10 168 fun s t a e b=>by
 rw [jke];exact XT
theorem jjt (O : ByteArray -> QS -> PR QS RX) (g : CEq -> Tree (XP × CEq)) (s t o : ByteArray) (a e v : Int) (b : Bool) (m : Nat) (ρ : Val) :
  ju (ALq 14) Tryz.prog Vu (XOq 168 0 O) 10 137 0 g ((s,⟨t,a,e,b⟩),⟨o,v,m,ρ⟩)=jh4 wOr O g s ⟨t,a,e,b⟩ ⟨o,v,m,ρ⟩:=by kernel_rfl
theorem jkz {O:ByteArray->QS->PR QS RX} (hO:jn Tryz.prog 168 (localG 89 (UOq O))):∀ k,CoreOk Tryz.prog 137 0 3 (SLq 14) (SLq 14) (Rm wOr O k) :=
 CoreOk.fuel (A:=ALq 14) (aLq 14) VQ (xOq hO) 10 (fun _=>rfl) fun k c x h=>by
  obtain ⟨⟨s,⟨t,a,e,b⟩⟩,⟨o,v,m,ρ⟩⟩:=c;rw [jjt];refine L6 h ?_;exact TellE.bind fun c p1=>TellE.cond (TellE.bind fun x p2=>V6) rfl
abbrev joz (O:ByteArray->QS->PR QS RX) (k:Nat):HdP:=⟨(168,localG 89 (UOq O))::Xx,[],[],[((137,0),j4 (ALq 14) (Rm wOr O k))],[],0,168::[138,39,92,38]⟩
theorem jrn {O:ByteArray->QS->PR QS RX} (hO:jn Tryz.prog 168 (localG 89 (UOq O))) (k:Nat):XOk Tryz.prog (joz O k):=(xOq hO).lxCons ((jkz hO k).lx (aLq 14))
theorem jiK (O:ByteArray->QS->PR QS RX) (k:Nat) (s t:ByteArray) (a e:Int) (b:Bool):qX Tryz.prog Vu (joz O k) 10 137 89 [] [.str s,.str t,.int .i64 a,.int .i64 e,.bool b]=Hv O (Lc wOr O k) s ⟨t,a,e,b⟩:=by kernel_rfl
theorem jpP {O:ByteArray->QS->PR QS RX} (hO:jn Tryz.prog 168 (localG 89 (UOq O))) (k:Nat):jn Tryz.prog 137 (localG 89 (UOq (jd5 wOr O k))):=Xj VQ (jrn hO k) 10 137 fun s t a e b=>by
 rw [jiK];exact XT
theorem K3 {P:Program} {α:Type} {d:α} {enc:α->AV} (f:Nat):jn P f (localG 89 (yz d enc (Je fun _ _=>.stuck))):=by
 intro args mem r mem' h
 exfalso
 unfold localG at h;split at h
 ·split at h
  ·split at h
   ·obtain ⟨y,h1,_⟩:=jh h;unfold yz Je at h1;split at h1
    ·split at h1<;>cases h1
    ·cases h1
   ·cases h
  ·cases h
 ·cases h
theorem jlH {P:Program} {α:Type} {H:Hd} {X:HdP} {d:α} {enc:α->AV} (hH:HdOk P H) (hX:XOk P X) (k f:Nat) {F:ByteArray->QS->PR QS α} (h:∀ s t a e b,TellQ (jaO P H X k f 89 [] [.str s,.str t,.int .i64 a,.int .i64 e,.bool b]) enc s (F s ⟨t,a,e,b⟩)):jn P f (localG 89 (yz d enc (Je F))) :=
 OC 89 (Fz hH hX k f) fun rest cs r hr=>by
  unfold yz at hr;split at hr
  ·rename_i s t a e b;unfold Je at hr;split at hr
   ·have ht:=h s t a e b;obtain ⟨v,p,hx,rfl⟩:=ME hr;rw [hx] at ht;exact ht
   ·cases hr
  ·cases hr
def jap (p:QS):Bool:=bif !p.bad then (bif (bif jb p.tx wEq then true else jb p.tx wLt) then true else jb p.tx wGt) else false
theorem je8 (p:QS):jap p=opQ [wEq,wLt,wGt] p:=by
 unfold jap opQ ZL ZL ZL ZL;cases p.bad<;>cases jb p.tx wEq<;>cases jb p.tx wLt<;>cases jb p.tx wGt<;>rfl
abbrev jov (One Sum:ByteArray->QS->PR QS RX):HdP:=⟨(183,localG 89 (UOq One))::(198,localG 89 (UOq Sum))::Xx,[],[],[],[],0,183::198::[138,39,92,38]⟩
theorem jqR {One Sum:ByteArray->QS->PR QS RX} (h1:jn Tryz.prog 183 (localG 89 (UOq One))) (h2:jn Tryz.prog 198 (localG 89 (UOq Sum))):XOk Tryz.prog (jov One Sum):=((Ka 0).loCons h2 (LocFn.localG _ _)).loCons h1 (LocFn.localG _ _)
def jnJ (One Sum:ByteArray->QS->PR QS RX) (s:ByteArray) (p:QS):Tree (Out × List CV) :=
 nxQ false (zE (jo s) yy p) fun c p1=>.br c (nxQ dX (One s p1) fun e p2=>Z3 (yF (exR yy 0 [e])) s p2)
  (nxQ dX (Sum s p1) fun e p2=>.br (jap p2) (nxQ () (jo s p2) fun _ p3=>nxQ dX (Sum s p3) fun x p4=>Z3 (yF (exR p2.tx 0 [e,x])) s p4) (Z3 (yF e) s p2))
theorem jjh (One Sum:ByteArray->QS->PR QS RX) (s t:ByteArray) (a e:Int) (b:Bool):jaO Tryz.prog Vu (jov One Sum) 10 183 89 [] [.str s,.str t,.int .i64 a,.int .i64 e,.bool b]=jnJ One Sum s ⟨t,a,e,b⟩:=by kernel_rfl
abbrev jif (One Sum:ByteArray->QS->PR QS RX) (s:ByteArray) (p0:QS):PR QS RX:=(zE (jo s) yy p0).bind fun c p =>
 bif c then (One s p).bind fun e p2=>.ret (AR.ex yy 0 [e]) p2
 else (Sum s p).bind fun e p2=>bif opQ [wEq,wLt,wGt] p2 then (jo s p2).bind fun _ p3=>(Sum s p3).bind fun x p4=>.ret (AR.ex p2.tx 0 [e,x]) p4 else .ret e p2
theorem jqc {One Sum:ByteArray->QS->PR QS RX} (h1:jn Tryz.prog 183 (localG 89 (UOq One))) (h2:jn Tryz.prog 198 (localG 89 (UOq Sum))):jn Tryz.prog 183 (localG 89 (UOq (jif One Sum))):=jlH VQ (jqR h1 h2) 10 183 fun s t a e b=>by
 rw [jjh];unfold jnJ jif;refine TellQ.bind fun c p=>TellQ.cond (TellQ.bind fun e p2=>TellQ.ret) (TellQ.bind fun e p2 => ?_);rw [je8];exact TellQ.cond (TellQ.bind fun _ p3=>TellQ.bind fun x p4=>TellQ.ret) TellQ.ret
abbrev jh3 (K d:Nat) (s:ByteArray) (p:QS):PR QS RX:=(QP (jo s) AR K d).1 p
abbrev jmJ (K d:Nat) (s:ByteArray) (p:QS):PR QS RX:=(QP (jo s) AR K d).2 p
theorem jid (K:Nat):∀ d,jn Tryz.prog 183 (localG 89 (UOq (jh3 K d)))∧jn Tryz.prog 137 (localG 89 (UOq (jmJ K d)))
 | 0=>⟨K3 183,K3 137⟩
 | d + 1 => by
   obtain ⟨h1,h2⟩:=jid K d;have ha:=jp5 h2;have hs:=jqg ha K;have ho:jn Tryz.prog 183 (localG 89 (UOq (jh3 K (d+1)))):=jqc h1 hs;have hb:=jqj ho K;exact ⟨ho,jpP hb K⟩
end Go.Proofs.YtiefjlcakpdfeaaGreat