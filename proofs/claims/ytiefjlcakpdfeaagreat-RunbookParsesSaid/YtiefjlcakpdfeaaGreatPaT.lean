/-
 Part PaT of the proof: RbC RbS RbD RbE RbF RbM RbG.
-/
import Derived.Test.YtiefjlcakpdfeaaGreatPaS
namespace Go.Proofs.YtiefjlcakpdfeaaGreat
open Go Go.Sx Go.RowKit Rb
set_option maxRecDepth 100000
abbrev CP:=ByteArray × PS
def SP (n:Nat) (c:CP):St:=mkS n [(0,.one (.c (.ptr 0 0)))] [some (82,qK c.1 c.2)]
def jbg:List (Nat × AV)->Mem->Option CP
 | [(0,.one (.c (.ptr 0 0)))],[some (82,[.str s,.int .i64 n,.str t,.int .i64 a])]=>some (s,⟨n,t,a⟩)
 | _,_=>none
theorem jaf (n:Nat):∀ l m c,jbg l m=some c->mkS n l m=SP n c:=by
 intro l m c h;unfold jbg at h;split at h
 ·cases h;rfl
 ·cases h
noncomputable abbrev HA:Hd:=⟨[(82,oG G82),(83,oG G83),(113,oG Nr)],[],[],[]⟩
theorem hA:HdOk Tryz.prog HA:=((HdOk.nil.pcCons jn7).pcCons p83).pcCons p82
abbrev XA:HdP:=⟨[],[],[],[],[],0,[]⟩
theorem xA:XOk Tryz.prog XA:=XOk.nil
def A81:Sx.Frame CP CP:=⟨1,65,[0],jbg,SP 65,[0],jbg,SP 65⟩
theorem a81:A81.Ok:=.of_eq (jaf 65) (jaf 65)
def B8 (s:ByteArray) (n:Int):Int:=Lib.indexByte (zm s n.toNat s.size).data.toList 10
def L9 (s:ByteArray) (n:Int):Int:=bif lt (B8 s n) 0 then IntKind.wrap .i64 (n+IntKind.wrap .i64 (ja s.size - n)) else IntKind.wrap .i64 (n+B8 s n)
def isSp (c:Int):Bool:=c==32||(c==9||c==10)
def QD:Nat->ByteArray->Int->Option (Bool × Int)
 | 0,_,_=>none
 | k + 1, s, n =>
   bif lt n (ja s.size) then
    bif jc n s.size then
     bif isSp (jr s n.toNat) then QD k s (IntKind.wrap .i64 (n+1))
     else bif jr s n.toNat==35 then
      bif (le 0 n&&le n (ja s.size)&&le (ja s.size) (ja s.size)) then QD k s (L9 s n) else none
     else some (true,n)
    else none
   else some (false,n)
def skD:Option (Bool × Int)->Bool | some _=>true | none=>false
def skB:Option (Bool × Int)->Bool | some (b,_)=>b | none=>false
def skN:Option (Bool × Int)->Int | some (_,n)=>n | none=>0
def Bo (k:Nat) (c:CP):Tree (XP × CP) :=
 .need (skD (QD k c.1 c.2.nx)) (.br (skB (QD k c.1 c.2.nx)) (.leaf (.ret,(c.1,⟨skN (QD k c.1 c.2.nx),c.2.tx,c.2.pos⟩))) (.leaf (.exit 0,(c.1,⟨skN (QD k c.1 c.2.nx),c.2.tx,c.2.pos⟩))))
theorem Ob (k:Nat) (c:CP):(Bo k c).sel=match QD k c.1 c.2.nx with | some (b,n)=>some (bif b then (.ret,(c.1,⟨n,c.2.tx,c.2.pos⟩)) else (.exit 0,(c.1,⟨n,c.2.tx,c.2.pos⟩))) | none=>none:=by
 unfold Bo;cases QD k c.1 c.2.nx with
 | none=>rfl
 | some r=>obtain ⟨b,n⟩:=r;cases b<;>rfl
def jiu (g:CP->Tree (XP × CP)) (s:ByteArray) (p:PS):Tree (XP × CP) :=
 let A:=g (s,⟨IntKind.wrap .i64 (p.nx+1),p.tx,p.pos⟩)
 let B:=.br (jr s p.nx.toNat==35) (.need (le 0 p.nx&&le p.nx (ja s.size)&&le (ja s.size) (ja s.size))
  (.br (lt (B8 s p.nx) 0) (g (s,⟨IntKind.wrap .i64 (p.nx+IntKind.wrap .i64 (ja s.size - p.nx)),p.tx,p.pos⟩)) (g (s,⟨IntKind.wrap .i64 (p.nx+B8 s p.nx),p.tx,p.pos⟩)))) (.leaf (.ret,(s,p)))
 .br (lt p.nx (ja s.size)) (.need (jc p.nx s.size)
  (.br (jr s p.nx.toNat==32) (.br (jr s p.nx.toNat==32) A B) (.br (jr s p.nx.toNat==9) (.br (jr s p.nx.toNat==9) A B) (.br (jr s p.nx.toNat==10) A B)))) (.leaf (.exit 0,(s,p)))
theorem jhr (g:CP->Tree (XP × CP)) (s t:ByteArray) (n a:Int):ju A81 Tryz.prog HA XA 10 81 0 g (s,⟨n,t,a⟩)=jiu g s ⟨n,t,a⟩:=by kernel_rfl
theorem jK {α:Type} (c:Bool) (t e:Tree α):(Tree.br c t e).sel=bif c then t.sel else e.sel:=rfl
theorem jt {α:Type} (c:Bool) (t:Tree α):(Tree.need c t).sel=bif c then t.sel else none:=rfl
theorem jE {α:Type} (a:α):(Tree.leaf a).sel=some a:=rfl
theorem jdA (k:Nat) (c:CP) (x:XP × CP) (h:(Bo (k+1) c).sel=some x):(ju A81 Tryz.prog HA XA 10 81 0 (Bo k) c).sel=some x:=by
 obtain ⟨s,n,t,a⟩:=c;rw [jhr];rw [Ob] at h;simp only [QD] at h;simp only [jiu,jK,jt,jE,Ob];revert h;generalize lt n (ja s.size)=c1;cases c1
 ·exact fun h=>h
 generalize jc n s.size=c2;cases c2
 ·exact fun h=>h
 simp only [cond_true,isSp];generalize (jr s n.toNat==32)=c3;generalize (jr s n.toNat==9)=c4;generalize (jr s n.toNat==10)=c5;generalize (jr s n.toNat==35)=c6;generalize (le 0 n&&le n (ja s.size)&&le (ja s.size) (ja s.size))=c7;unfold L9;generalize lt (B8 s n) 0=c8;cases c3<;>cases c4<;>cases c5<;>cases c6<;>cases c7<;>cases c8<;>exact fun h=>h
theorem jdC (k:Nat):CoreOk Tryz.prog 81 0 1 (SP 65) (SP 65) (Bo k) :=
 CoreOk.fuel a81 hA xA 10 (fun _=>rfl) jdA k
def Z7 (s:ByteArray) (n:Int):Option (Bool × Int):=QD (s.size+1) s n
def g81 (c:CP):Tree (XP × CP):=Bo (c.1.size+1) c
theorem core81:CoreOk Tryz.prog 81 0 1 (SP 65) (SP 65) g81:=fun fn c b h1 h2 h3 c0 x hx=>jdC _ fn c b h1 h2 h3 c0 x hx
def XB:HdP:=⟨[],[],[],[((81,0),j4 A81 g81)],[],0,[]⟩
theorem xB:XOk Tryz.prog XB:=XOk.nil.lxCons (core81.lx a81)
def kQ (_:Unit):AV:=.tup []
def Hq (s:ByteArray) (p:PS):PR PS Unit:=match Z7 s p.nx with | some (_,n)=>.ret () ⟨n,p.tx,p.pos⟩ | none=>.stuck
def jfq:List A1->ByteArray->PS->PR PS Unit
 | [],s,p=>Hq s p
 | _,_,_=>.stuck
theorem jqx:jn Tryz.prog 81 (localG 82 (uOf () kQ jfq)):=Ba hA xB 10 81 fun rest s n t a=>by
 cases rest with
 | nil =>
   show Tells _ _ _ (Hq s ⟨n,t,a⟩);have e:qX Tryz.prog HA XB 10 81 82 [] [.str s,.int .i64 n,.str t,.int .i64 a]=.need (skD (Z7 s n)) (.br (skB (Z7 s n)) (.leaf (.ret (.tup []),qK s ⟨skN (Z7 s n),t,a⟩)) (.leaf (.ret (.tup []),qK s ⟨skN (Z7 s n),t,a⟩))):=by kernel_rfl
   rw [e];clear e;unfold Hq;cases Z7 s n with
  | none=>exact trivial
  | some r=>obtain ⟨b,m⟩:=r;cases b<;>exact Tells.of_ret rfl
 | cons _ _=>exact trivial
def Tx:List A1->Option (Bool × AV)
 | [.c (.str s),.c (.int .i32 r)]=>if s=signs∧128<=r∧r<256 then some (true,.one (.c (.bool (kL r)))) else none
 | _=>none
theorem jek {args:List A1} {r:AV} (h:Tx args=some (true,r)):∃ n,args=[.c (.str signs),.c (.int .i32 n)]∧128<=n∧n<256∧r=.one (.c (.bool (kL n))):=by
 unfold Tx at h;split at h
 ·rename_i s n;split at h
  ·rename_i hc;exact ⟨n,by rw [hc.1],hc.2.1,hc.2.2,(congrArg Prod.snd (Option.some.inj h)).symm⟩
  ·cases h
 ·cases h
theorem jqU {args:List A1} {r:AV} (h:Tx args=some (true,r)):(jI Tryz.prog HC0 XR 20 84 args).All (fun x=>leA x r):=by
 obtain ⟨n,e1,h0,h1,e2⟩:=jek h;have hs:=jki n h0 h1;unfold t84 at hs;rw [← e1,← e2] at hs;exact jk hs leA.refl
theorem jq4:jj Tryz.prog 84 (nG Tx):=by
 refine jz (H:=HC0) (X:=XR) hC0 XOk.nil 20 84 ?_;intro args r h;exact jqU h
theorem Jc {a b:ByteArray} (h:jb a b=true):a=b:=by
 have key:∀ l r:List UInt8,kO l r=true->l=r:=by
  intro l
  induction l with
  | nil=>intro r h;cases r with | nil=>rfl | cons _ _=>simp [kO] at h
  | cons x l ih =>
    intro r h;cases r with
   | nil=>simp [kO] at h
   | cons y r =>
     simp only [kO,aTq] at h;rw [ih r h.2,UInt8.toNat_inj.1 (Nat.eq_of_beq_eq_true h.1)]
 unfold jb at h
 have:=key _ _ h
 cases a with | mk a=>cases b with | mk b =>
  congr 1;exact Array.ext' this
theorem jdu (r:Int) (h0:0<=r) (h1:r<256):decide (0<=Lib.indexByte signs.data.toList r.toNat.toUInt8)=kL r:=by
 have:∀ k:Fin 256,decide (0<=Lib.indexByte signs.data.toList ((k.val:Int)).toNat.toUInt8)=kL (k.val:Int):=by decide +kernel
 have:=this ⟨r.toNat,by omega⟩
 simp only [Int.toNat_of_nonneg h0] at this;exact this
theorem p84:jj Tryz.prog 84 (nG G84):=by
 intro args r hG hcl F w vs hargs;have h:=zn hG;unfold G84 at h;split at h
 ·rename_i s n;simp only [sIq,pIq,aTq] at h;obtain ⟨⟨h1,h2,h3⟩,rfl⟩:=h;have h1:=Jc h1;subst h1;unfold le at h2;unfold lt at h3;have h2:=of_decide_eq_true h2;have h3:=of_decide_eq_true h3;by_cases hn:n<128
  ·cases hargs with
   | cons a1 a2=>cases a2 with
    | cons a2 a3 =>
      cases a3;cases a1;cases a2;refine (Tryz.strings_ContainsRune_ascii signs n w h2 hn).mono fun e w2 ⟨he,hw⟩ => ?_;subst hw;rw [jdu n h2 h3] at he;exact ⟨.bool (kL n),he,Below.refl _ _,CV.Rel.bool _⟩
  ·refine jq4 _ _ ?_ hcl F w vs hargs;have e:Tx [.c (.str signs),.c (.int .i32 n)]=some (true,.one (.c (.bool (kL n)))):=if_pos ⟨rfl,by omega,h3⟩
   unfold nG;rw [e];rfl
 ·cases h
noncomputable abbrev HB:Hd:=⟨[pF 81,(82,oG G82),(83,oG G83),(113,oG Nr)],[],[],[]⟩
theorem hB:HdOk Tryz.prog HB:=hA.pF 81
abbrev XC:HdP:=⟨[(81,localG 82 (uOf () kQ jfq))],[],[],[],[],0,[81]⟩
theorem xC:XOk Tryz.prog XC:=XOk.nil.loCons jqx (LocFn.localG _ _)
abbrev CQ:=CP × Int
def SQ (c:CQ):St:=mkS 105 [(0,.one (.c (.ptr 0 0))),(2,.one (.c (.int .i64 c.2)))] [some (82,qK c.1.1 c.1.2)]
def jb6:List (Nat × AV)->Mem->Option CQ
 | [(0,.one (.c (.ptr 0 0))),(2,.one (.c (.int .i64 b)))],[some (82,[.str s,.int .i64 n,.str t,.int .i64 a])]=>some ((s,⟨n,t,a⟩),b)
 | _,_=>none
theorem MD:∀ l m c,jb6 l m=some c->mkS 105 l m=SQ c:=by
 intro l m c h;unfold jb6 at h;split at h
 ·cases h;rfl
 ·cases h
def A31:Sx.Frame CQ CQ:=⟨1,105,[0,2],jb6,SQ,[0,2],jb6,SQ⟩
theorem a31:A31.Ok:=.of_eq MD MD
def jny (g:CQ->Tree (XP × CQ)) (s:ByteArray) (p:PS) (b:Int):Tree (XP × CQ) :=
 let c0:=lt p.nx (ja s.size)
 let c:=jr s p.nx.toNat
 .need (!((c0==true)&&true)||jc p.nx s.size) (.need (!((kV c==false)&&((c0==true)&&true))||jc p.nx s.size)
  (.br (bif c0 then bif kV c then true else qV c else false) (g ((s,⟨IntKind.wrap .i64 (p.nx+1),p.tx,p.pos⟩),b)) (.leaf (.exit 0,((s,p),b)))))
theorem jiU (g:CQ->Tree (XP × CQ)) (s t:ByteArray) (n a b:Int):ju A31 Tryz.prog HB XC 10 31 0 g ((s,⟨n,t,a⟩),b)=jny g s ⟨n,t,a⟩ b:=by kernel_rfl
def Jw:Nat->ByteArray->Int->Option Int
 | 0,_,_=>none
 | k + 1, s, n =>
   bif lt n (ja s.size) then
    bif jc n s.size then
     bif yE (jr s n.toNat) then Jw k s (IntKind.wrap .i64 (n+1)) else some n
    else none
   else some n
def opD:Option Int->Bool | some _=>true | none=>false
def opN:Option Int->Int | some n=>n | none=>0
def Nm (k:Nat) (c:CQ):Tree (XP × CQ) :=
 .need (opD (Jw k c.1.1 c.1.2.nx)) (.leaf (.exit 0,((c.1.1,⟨opN (Jw k c.1.1 c.1.2.nx),c.1.2.tx,c.1.2.pos⟩),c.2)))
theorem RI (k:Nat) (c:CQ):(Nm k c).sel=match Jw k c.1.1 c.1.2.nx with | some n=>some (.exit 0,((c.1.1,⟨n,c.1.2.tx,c.1.2.pos⟩),c.2)) | none=>none:=by
 unfold Nm;cases Jw k c.1.1 c.1.2.nx<;>rfl
theorem jfD (k:Nat) (c:CQ) (x:XP × CQ) (h:(Nm (k+1) c).sel=some x):(ju A31 Tryz.prog HB XC 10 31 0 (Nm k) c).sel=some x:=by
 obtain ⟨⟨s,⟨n,t,a⟩⟩,b⟩:=c;rw [jiU];rw [RI] at h;simp only [Jw] at h;simp only [jny,jK,jt,jE,RI];revert h;unfold yE;generalize lt n (ja s.size)=c1;generalize jc n s.size=c2;generalize kV (jr s n.toNat)=c3;generalize qV (jr s n.toNat)=c4;cases c1<;>cases c2<;>cases c3<;>cases c4<;>exact fun h=>h
theorem jhp (k:Nat):CoreOk Tryz.prog 31 0 1 SQ SQ (Nm k) :=
 CoreOk.fuel a31 hB xC 10 (fun _=>rfl) jfD k
def Fs (s:ByteArray) (n:Int):Option Int:=Jw (s.size+1) s n
def g31 (c:CQ):Tree (XP × CQ):=Nm (c.1.1.size+1) c
theorem core31:CoreOk Tryz.prog 31 0 1 SQ SQ g31:=fun fn c b h1 h2 h3 c0 x hx=>jhp _ fn c b h1 h2 h3 c0 x hx
def kJ (s:ByteArray) (a b:Int):Bool:=le 0 a&&le a b&&le b (ja s.size)
def jg6 (s:ByteArray) (st:Int):PR Int Unit :=
 match Fs s st with
 | none=>.stuck
 | some n => bif (bif n == st then lt n (ja s.size) else false) then
   bif jc n s.size&&(le 0 (IntKind.wrap .i32 (jr s n.toNat))&&lt (IntKind.wrap .i32 (jr s n.toNat)) 256) then
    bif kL (IntKind.wrap .i32 (jr s n.toNat)) then .ret () (IntKind.wrap .i64 (n+1)) else .pan st
   else .stuck
   else .ret () n
def k9 (s:ByteArray) (p:PS):PR PS Unit :=
 match Z7 s p.nx with
 | none=>.stuck
 | some (_,st)=>match jg6 s st with
  | .stuck=>.stuck
  | .pan a=>.pan a
  | .ret _ n=>bif kJ s st n then .ret () ⟨n,zm s st.toNat n.toNat,st⟩ else .stuck
def N2:List A1->ByteArray->PS->PR PS Unit
 | [],s,p=>k9 s p
 | _,_,_=>.stuck
noncomputable abbrev HC:Hd:=⟨[pF 81,(82,oG G82),(83,oG G83),(113,oG Nr)],[(84,nG G84)],[],[]⟩
theorem hC:HdOk Tryz.prog HC:=hB.ucCons p84
def XD:HdP:=⟨[(81,localG 82 (uOf () kQ jfq))],[],[],[((31,0),j4 A31 g31)],[],0,[81]⟩
theorem xD:XOk Tryz.prog XD:=xC.lxCons (core31.lx a31)
def jhX (s:ByteArray) (p:PS):Tree (Out × List CV) :=
 nxT () (Hq s p) (fun _ p1 =>
  let st:=p1.nx
  let n:=opN (Fs s st)
  let fin:=fun m:Int=>Tree.need (kJ s st m) (.leaf (.ret (.tup []),[.str s,.int .i64 m,.str (zm s st.toNat m.toNat),.int .i64 st]))
  .need (opD (Fs s st)) (.br (bif n==st then lt n (ja s.size) else false)
   (.need (jc n s.size) (.need (jb signs signs&&(le 0 (IntKind.wrap .i32 (jr s n.toNat))&&lt (IntKind.wrap .i32 (jr s n.toNat)) 256))
    (.br (!kL (IntKind.wrap .i32 (jr s n.toNat))) (.leaf (.pan (Ql st),JB)) (fin (IntKind.wrap .i64 (n+1)))))) (fin n)))
  fun a=>.leaf (.pan (Ql a),JB)
theorem jko (s t:ByteArray) (n a:Int):qX Tryz.prog HC XD 10 31 82 [] [.str s,.int .i64 n,.str t,.int .i64 a]=jhX s ⟨n,t,a⟩:=by kernel_rfl
theorem jdz (s:ByteArray) (p:PS):Tells (jhX s p) kQ s (k9 s p):=by
 unfold jhX k9 Hq;cases hsk:Z7 s p.nx with
 | none=>exact trivial
 | some r =>
   obtain ⟨b,st⟩:=r;simp only;unfold jg6;cases hl:Fs s st with
  | none=>exact trivial
  | some n =>
    simp only;cases h1:(bif n==st then lt n (ja s.size) else false) with
   | false =>
     simp only [cond_false];cases h2:kJ s st n with
    | false=>exact trivial
    | true =>
      refine Tells.of_ret ?_;rw [Z2];simp only [hl,opD,opN,jt,jK,jE,h1,h2,cond_true,cond_false];rfl
   | true =>
     simp only [cond_true];cases h2:jc n s.size with
    | false=>simp only [Bool.false_and,cond_false];exact trivial
    | true =>
      cases h3:(le 0 (IntKind.wrap .i32 (jr s n.toNat))&&lt (IntKind.wrap .i32 (jr s n.toNat)) 256) with
     | false=>simp only [Bool.and_false,cond_false];exact trivial
     | true =>
       simp only [Bool.and_true,cond_true];have h4:jb signs signs=true:=rfl;cases h5:kL (IntKind.wrap .i32 (jr s n.toNat)) with
      | false =>
        simp only [cond_false];refine Tells.of_pan ?_;rw [Z2];simp only [hl,opD,opN,jt,jK,jE,h1,h2,h3,h4,h5,cond_true,Bool.not_false,Bool.and_true]
      | true =>
        simp only [cond_true];cases h6:kJ s st (IntKind.wrap .i64 (n+1)) with
       | false=>exact trivial
       | true =>
         refine Tells.of_ret ?_;rw [Z2];simp only [hl,opD,opN,jt,jK,jE,h1,h2,h3,h4,h5,h6,cond_true,cond_false,Bool.not_true,Bool.and_true];rfl
theorem jgA:jn Tryz.prog 31 (localG 82 (uOf () kQ N2)):=Ba hC xD 10 31 fun rest s n t a=>by
 cases rest with
 | nil =>
   show Tells _ _ _ (k9 s ⟨n,t,a⟩);rw [jko];exact jdz s ⟨n,t,a⟩
 | cons _ _=>exact trivial
noncomputable abbrev HW:Hd:=⟨[(82,oG G82),(83,oG G83)],[],[],[]⟩
theorem hW:HdOk Tryz.prog HW:=(HdOk.nil.pcCons p83).pcCons p82
abbrev X0:HdP:=⟨[],[],[],[],[],0,[]⟩
theorem x0:XOk Tryz.prog X0:=XOk.nil
abbrev C87:=ByteArray × Bool × Int × Int
def S87 (c:C87):St:=mkS 25 [(0,.one (.c (.str c.1))),(2,.one (.c (.bool c.2.1))),(5,.one (.c (.int .i64 c.2.2.1))),(6,.one (.c (.int .i64 c.2.2.2)))] []
def Rs:List (Nat × AV)->Mem->Option C87
 | [(0,.one (.c (.str s))),(2,.one (.c (.bool b))),(5,.one (.c (.int .i64 l))),(6,.one (.c (.int .i64 i)))],[]=>some (s,b,l,i)
 | _,_=>none
theorem FN:∀ l m c,Rs l m=some c->mkS 25 l m=S87 c:=by
 intro l m c h;unfold Rs at h;split at h
 ·cases h;rfl
 ·cases h
def A87:Sx.Frame C87 C87:=⟨0,25,[0,2,5,6],Rs,S87,[0,2,5,6],Rs,S87⟩
theorem a87:A87.Ok:=.of_eq FN FN
def r87 (g:C87->Tree (XP × C87)) (s:ByteArray) (b:Bool) (l i:Int):Tree (XP × C87) :=
 let c:=jr s i.toNat
 .br (lt i l) (.need (jc i s.size) (.need (!(((!kV c)==true)&&true)||jc i s.size) (.br (bif !kV c then !qV c else false) (.leaf (.ret,(s,false,l,i))) (g (s,b,l,IntKind.wrap .i64 (i+1)))))) (.leaf (.exit 0,(s,b,l,i)))
theorem jnf (g:C87->Tree (XP × C87)) (s:ByteArray) (b:Bool) (l i:Int):ju A87 Tryz.prog HW X0 10 87 0 g (s,b,l,i)=r87 g s b l i:=by kernel_rfl
def z7:Nat->ByteArray->Int->Int->Option Bool
 | 0,_,_,_=>none
 | k+1,s,l,i=>bif lt i l then (bif jc i s.size then (bif yE (jr s i.toNat) then z7 k s l (IntKind.wrap .i64 (i+1)) else some false) else none) else some true
def Zz:Nat->ByteArray->Int->Int->Int
 | 0,_,_,i=>i
 | k+1,s,l,i=>bif lt i l then (bif yE (jr s i.toNat) then Zz k s l (IntKind.wrap .i64 (i+1)) else i) else i
def obD:Option Bool->Bool | some _=>true | none=>false
def obV:Option Bool->Bool | some b=>b | none=>false
def g87 (k:Nat) (c:C87):Tree (XP × C87) :=
 .need (obD (z7 k c.1 c.2.2.1 c.2.2.2)) (.br (obV (z7 k c.1 c.2.2.1 c.2.2.2)) (.leaf (.exit 0,(c.1,c.2.1,c.2.2.1,Zz k c.1 c.2.2.1 c.2.2.2))) (.leaf (.ret,(c.1,false,c.2.2.1,Zz k c.1 c.2.2.1 c.2.2.2))))
theorem MF (k : Nat) (c : C87) : (g87 k c).sel = match z7 k c.1 c.2.2.1 c.2.2.2 with
  | some true=>some (.exit 0,(c.1,c.2.1,c.2.2.1,Zz k c.1 c.2.2.1 c.2.2.2))
  | some false=>some (.ret,(c.1,false,c.2.2.1,Zz k c.1 c.2.2.1 c.2.2.2))
  | none=>none:=by
 unfold g87;cases z7 k c.1 c.2.2.1 c.2.2.2 with
 | none=>rfl
 | some b=>cases b<;>rfl
theorem jl8 (k:Nat) (c:C87) (x:XP × C87) (h:(g87 (k+1) c).sel=some x):(ju A87 Tryz.prog HW X0 10 87 0 (g87 k) c).sel=some x:=by
 obtain ⟨s,b,l,i⟩:=c;rw [jnf];rw [MF] at h;simp only [z7,Zz] at h;simp only [r87,jK,jt,jE,MF];revert h;unfold yE;generalize lt i l=c1;generalize jc i s.size=c2;generalize kV (jr s i.toNat)=c3;generalize qV (jr s i.toNat)=c4;cases c1<;>cases c2<;>cases c3<;>cases c4<;>exact fun h=>h
theorem jmf (k:Nat):CoreOk Tryz.prog 87 0 0 S87 S87 (g87 k):=CoreOk.fuel a87 hW x0 10 (fun _=>rfl) jl8 k
abbrev Qs:=ByteArray × Int × Bool × Int × Int × Int
def FV (c:Qs):St:=mkS 45 [(0,.one (.c (.str c.1))),(2,.one (.c (.int .i64 c.2.1))),(3,.one (.c (.bool c.2.2.1))),(4,.one (.c (.int .i64 c.2.2.2.1))),(24,.one (.c (.int .i64 c.2.2.2.2.1))),(25,.one (.c (.int .i64 c.2.2.2.2.2)))] []
def Li:List (Nat × AV)->Mem->Option Qs
 | [(0,.one (.c (.str s))),(2,.one (.c (.int .i64 v))),(3,.one (.c (.bool b))),(4,.one (.c (.int .i64 n))),(24,.one (.c (.int .i64 l))),(25,.one (.c (.int .i64 i)))],[]=>some (s,v,b,n,l,i)
 | _,_=>none
theorem On:∀ l m c,Li l m=some c->mkS 45 l m=FV c:=by
 intro l m c h;unfold Li at h;split at h
 ·cases h;rfl
 ·cases h
def A162:Sx.Frame Qs Qs:=⟨0,45,[0,2,3,4,24,25],Li,FV,[0,2,3,4,24,25],Li,FV⟩
theorem jlF:A162.Ok:=.of_eq On On
def jpc (g:Qs->Tree (XP × Qs)) (s:ByteArray) (v:Int) (b:Bool) (n l i:Int):Tree (XP × Qs) :=
 let c:=jr s i.toNat
 .br (lt i l) (.need (jc i s.size) (.br (!qV c) (.leaf (.ret,(s,0,false,n,l,i))) (.need (jc i s.size) (g (s,v,b,IntKind.wrap .i64 (IntKind.wrap .i64 (10*n)+IntKind.wrap .i64 (IntKind.wrap .u8 (c - 48))),l,IntKind.wrap .i64 (i+1)))))) (.leaf (.exit 0,(s,v,b,n,l,i)))
theorem jlg (g:Qs->Tree (XP × Qs)) (s:ByteArray) (v:Int) (b:Bool) (n l i:Int):ju A162 Tryz.prog HW X0 10 162 0 g (s,v,b,n,l,i)=jpc g s v b n l i:=by kernel_rfl
def kZ:Nat->ByteArray->Int->Int->Int->Option (Bool × Int × Int)
 | 0,_,_,_,_=>none
 | k+1,s,l,n,i=>bif lt i l then (bif jc i s.size then (bif qV (jr s i.toNat) then kZ k s l (IntKind.wrap .i64 (IntKind.wrap .i64 (10*n)+IntKind.wrap .i64 (IntKind.wrap .u8 (jr s i.toNat - 48)))) (IntKind.wrap .i64 (i+1)) else some (true,n,i)) else none) else some (false,n,i)
def nfD:Option (Bool × Int × Int)->Bool | some _=>true | none=>false
def nfB:Option (Bool × Int × Int)->Bool | some (b,_)=>b | none=>false
def nfN:Option (Bool × Int × Int)->Int | some (_,n,_)=>n | none=>0
def nfI:Option (Bool × Int × Int)->Int | some (_,_,i)=>i | none=>0
def LF (k:Nat) (c:Qs):Tree (XP × Qs) :=
 let r:=kZ k c.1 c.2.2.2.2.1 c.2.2.2.1 c.2.2.2.2.2
 .need (nfD r) (.br (nfB r) (.leaf (.ret,(c.1,0,false,nfN r,c.2.2.2.2.1,nfI r))) (.leaf (.exit 0,(c.1,c.2.1,c.2.2.1,nfN r,c.2.2.2.2.1,nfI r))))
theorem Tt (k : Nat) (c : Qs) : (LF k c).sel = match kZ k c.1 c.2.2.2.2.1 c.2.2.2.1 c.2.2.2.2.2 with
  | some (true,n,i)=>some (.ret,(c.1,0,false,n,c.2.2.2.2.1,i))
  | some (false,n,i)=>some (.exit 0,(c.1,c.2.1,c.2.2.1,n,c.2.2.2.2.1,i))
  | none=>none:=by
 unfold LF;cases kZ k c.1 c.2.2.2.2.1 c.2.2.2.1 c.2.2.2.2.2 with
 | none=>rfl
 | some r=>obtain ⟨b,n,i⟩:=r;cases b<;>rfl
theorem jjl (k:Nat) (c:Qs) (x:XP × Qs) (h:(LF (k+1) c).sel=some x):(ju A162 Tryz.prog HW X0 10 162 0 (LF k) c).sel=some x:=by
 obtain ⟨s,v,b,n,l,i⟩:=c;rw [jlg];rw [Tt] at h;simp only [kZ] at h;simp only [jpc,jK,jt,jE,Tt];revert h;generalize lt i l=c1;generalize jc i s.size=c2;generalize qV (jr s i.toNat)=c4;cases c1<;>cases c2<;>cases c4<;>exact fun h=>h
theorem jky (k:Nat):CoreOk Tryz.prog 162 0 0 FV FV (LF k):=CoreOk.fuel jlF hW x0 10 (fun _=>rfl) jjl k
def jpj (c:C87):Tree (XP × C87):=g87 (c.1.size+1) c
def jix (c:Qs):Tree (XP × Qs):=LF (c.1.size+1) c
def X1:HdP:=⟨[],[],[],[((87,0),j4 A87 jpj),((162,0),j4 A162 jix)],[],0,[]⟩
theorem x1:XOk Tryz.prog X1:=(XOk.nil.lxCons (CoreOk.lx (g:=jix) jlF fun fn c b h1 h2 h3 c0 x hx=>jky _ fn c b h1 h2 h3 c0 x hx)).lxCons (CoreOk.lx (g:=jpj) a87 fun fn c b h1 h2 h3 c0 x hx=>jmf _ fn c b h1 h2 h3 c0 x hx)
def jB (s:ByteArray):Option Bool:=match z7 (s.size+1) s (ja s.size) 0 with
 | some b=>some (bif b then lt 0 (ja s.size) else false)
 | none=>none
def G87:List A1->Option (Bool × AV)
 | [.c (.str s)]=>some (obD (jB s),.one (.c (.bool (obV (jB s)))))
 | _=>none
def t87 (s:ByteArray):Tree AV :=
 let r:=z7 (s.size+1) s (ja s.size) 0
 .need (obD r) (.br (obV r) (.leaf (.one (.c (.bool (lt 0 (ja s.size)))))) (.leaf (.one (.c (.bool false)))))
theorem jm9 (s:ByteArray):jI Tryz.prog HW X1 10 87 [.c (.str s)]=t87 s:=by kernel_rfl
theorem p87:jj Tryz.prog 87 (nG G87):=by
 refine jz (H:=HW) (X:=X1) hW x1 10 87 ?_;intro args r h;unfold G87 at h;split at h
 ·rename_i s;rw [jm9];simp only [sIq,pIq] at h;obtain ⟨h1,rfl⟩:=h;unfold jB at h1 ⊢;unfold t87;revert h1;cases z7 (s.size+1) s (ja s.size) 0 with
  | none=>exact fun h=>by cases h
  | some b=>cases b<;>exact fun _=>jk rfl leA.refl
 ·cases h
theorem jjn (s:ByteArray) (h:lt 1 (ja s.size)=true):jc 0 s.size=true:=by
 unfold lt ja at h
 have:=of_decide_eq_true h
 unfold jc le lt ja;simp only [aTq,decide_eq_true_eq];simp at this ⊢;omega
def jq (s:ByteArray):Option (Int × Bool) :=
 bif bif bif jb s (bs []) then true else bif lt 1 (ja s.size) then jr s 0==48 else false then true else lt 10 (ja s.size) then some (0,false)
 else match kZ (s.size+1) s (ja s.size) 0 0 with
  | some (true,_,_)=>some (0,false)
  | some (false,n,_)=>some (n,le n 1073741824)
  | none=>none
def nmD:Option (Int × Bool)->Bool | some _=>true | none=>false
def nmV:Option (Int × Bool)->Int | some (n,_)=>n | none=>0
def nmO:Option (Int × Bool)->Bool | some (_,b)=>b | none=>false
def Xv:List A1->Option (Bool × AV)
 | [.c (.str s)]=>some (nmD (jq s),.tup [.c (.int .i64 (nmV (jq s))),.c (.bool (nmO (jq s)))])
 | _=>none
def joQ (s:ByteArray):Tree AV :=
 let c1:=jb s (bs [])
 let c2:=lt 1 (ja s.size)
 let r:=kZ (s.size+1) s (ja s.size) 0 0
 .need (!((c2==true)&&((c1==false)&&true))||jc 0 s.size)
  (.br (bif bif c1 then true else bif c2 then jr s 0==48 else false then true else lt 10 (ja s.size)) (.leaf (.tup [.c (.int .i64 0),.c (.bool false)]))
   (.need (nfD r) (.br (nfB r) (.leaf (.tup [.c (.int .i64 0),.c (.bool false)])) (.leaf (.tup [.c (.int .i64 (nfN r)),.c (.bool (le (nfN r) 1073741824))])))))
theorem jkN (s:ByteArray):jI Tryz.prog HW X1 10 162 [.c (.str s)]=joQ s:=by kernel_rfl
theorem jgL:jj Tryz.prog 162 (nG Xv):=by
 refine jz (H:=HW) (X:=X1) hW x1 10 162 ?_;intro args r h;unfold Xv at h;split at h
 ·rename_i s;rw [jkN];simp only [sIq,pIq] at h;obtain ⟨h1,rfl⟩:=h
  have hn:(!((lt 1 (ja s.size)==true)&&((jb s (bs [])==false)&&true))||jc 0 s.size)=true:=by
   cases h2:lt 1 (ja s.size) with
   | false=>rfl
   | true=>rw [jjn s h2];simp
  unfold joQ;unfold jq at h1 ⊢;refine ⟨hn,?_⟩;revert h1;cases (bif bif jb s (bs []) then true else bif lt 1 (ja s.size) then jr s 0==48 else false then true else lt 10 (ja s.size)) with
  | true=>exact fun _=>jk rfl leA.refl
  | false =>
    cases kZ (s.size+1) s (ja s.size) 0 0 with
   | none=>exact fun h=>by cases h
   | some r=>obtain ⟨b,n,i⟩:=r;cases b<;>exact fun _=>jk rfl leA.refl
 ·cases h
theorem M6 (s:ByteArray) (h:(ja s.size != 2)=false):jc 0 s.size=true∧jc 1 s.size=true:=by
 unfold ja at h;simp at h;unfold jc le lt ja;simp only [aTq,decide_eq_true_eq]
 simp;omega
def Rp (s:ByteArray):Bool:=bif bif (ja s.size != 2) then true else jr s 0 != 115 then true else !qV (jr s 1)
def kM (s:ByteArray):Int:=bif Rp s then 0 else IntKind.wrap .i64 (IntKind.wrap .u8 (jr s 1 - 48))
def q8 (s:ByteArray):Bool:=!Rp s
def G86:List A1->Option AV
 | [.c (.str s)]=>some (.tup [.c (.int .i64 (kM s)),.c (.bool (q8 s))])
 | _=>none
def t86 (s:ByteArray):Tree AV :=
 let c1:=(ja s.size != 2)
 let c2:=bif c1 then true else jr s 0 != 115
 .need (!((c1==false)&&true)||jc 0 s.size) (.need (!((c2==false)&&true)||jc 1 s.size)
  (.br (bif c2 then true else !qV (jr s 1)) (.leaf (.tup [.c (.int .i64 0),.c (.bool false)]))
   (.need (jc 1 s.size) (.leaf (.tup [.c (.int .i64 (IntKind.wrap .i64 (IntKind.wrap .u8 (jr s 1 - 48)))),.c (.bool true)])))))
theorem jmw (s:ByteArray):(jU Tryz.prog HW 10 86 [.c (.str s)] []).vals=t86 s:=by kernel_rfl
theorem jk4 (s:ByteArray):(t86 s).All (fun z=>z=.tup [.c (.int .i64 (kM s)),.c (.bool (q8 s))]):=by
 unfold t86 kM q8 Rp;cases h1:(ja s.size != 2) with
 | true=>exact jk rfl rfl
 | false =>
   obtain ⟨h2,h3⟩:=M6 s h1;rw [h2,h3];cases (jr s 0 != 115) with
  | true=>exact jk rfl rfl
  | false=>cases qV (jr s 1)<;>exact jk rfl rfl
theorem p86:PcOne Tryz.prog 86 G86:=zW hW 10 86 fun args r h=>by
 unfold G86 at h;split at h
 ·rename_i s;obtain rfl:=Option.some.inj h;exact ⟨rfl,_,jmw s,jk4 s⟩
 ·cases h
noncomputable abbrev HN0:Hd:=⟨[(86,oG G86)],[(87,nG G87)],[],[]⟩
theorem hN0:HdOk Tryz.prog HN0:=(HdOk.nil.pcCons p86).ucCons p87
def qk (s:ByteArray):Bool :=
 bif bif bif bif obV (jB s) then le (ja s.size) 32 else false then le 97 (jr s 0) else false then le (jr s 0) 122 else false then !q8 s else false
def yg (s:ByteArray):Bool :=
 let b1:=bif obV (jB s) then le (ja s.size) 32 else false
 let b2:=bif b1 then le 97 (jr s 0) else false
 obD (jB s)&&((!((b1==true)&&true)||jc 0 s.size)&&(!((b2==true)&&true)||jc 0 s.size))
def G34:List A1->Option (Bool × AV)
 | [.c (.str s)]=>some (yg s,.one (.c (.bool (qk s))))
 | _=>none
def t34 (s:ByteArray):Tree AV :=
 let b1:=bif obV (jB s) then le (ja s.size) 32 else false
 let b2:=bif b1 then le 97 (jr s 0) else false
 let b3:=bif b2 then le (jr s 0) 122 else false
 .need (obD (jB s)) (.need (!((b1==true)&&true)||jc 0 s.size) (.need (!((b2==true)&&true)||jc 0 s.size)
  (.leaf (.one (.c (.bool (bif b3 then !q8 s else false)))))))
theorem jmt (s:ByteArray):jT Tryz.prog HN0 10 34 [.c (.str s)]=t34 s:=by kernel_rfl
theorem p34:jj Tryz.prog 34 (nG G34):=by
 refine jJ (H:=HN0) hN0 10 34 ?_;intro args r h;unfold G34 at h;split at h
 ·rename_i s;refine ⟨_,jmt s,?_⟩;simp only [sIq,pIq] at h;obtain ⟨h1,rfl⟩:=h;unfold yg at h1;simp only [aTq] at h1;unfold t34 qk;exact ⟨h1.1,by simpa using h1.2.1,by simpa using h1.2.2,leA.refl⟩
 ·cases h
end Go.Proofs.YtiefjlcakpdfeaaGreat
namespace Go.Proofs.YtiefjlcakpdfeaaGreat
open Go Go.Sx Go.RowKit Rb
set_option maxRecDepth 100000
variable {σ α β γ ε τ:Type}
structure Alg (ε τ:Type) where
 ex:ByteArray->Int->List ε->ε
 st:ByteArray->List ByteArray->ε->List τ->List τ->Int->τ
variable (M:Mach σ)
def YY (s:σ):PR σ α:=.pan (M.pos s)
def qJ (t:ByteArray) (s:σ):PR σ Bool:=bif jb (M.tx s) t then (M.adv s).bind fun _ s'=>.ret true s' else .ret false s
def qR (t:ByteArray) (s:σ):PR σ Unit:=(qJ M t s).bind fun c s'=>bif c then .ret () s' else YY M s'
def qy (ok:Bool) (s:σ):PR σ ByteArray:=bif ok then (M.adv s).bind fun _ s'=>.ret (M.tx s) s' else YY M s
def yp (most:Int) (s:σ):PR σ Int :=
 match jq (M.tx s) with
 | none=>.stuck
 | some (n,ok)=>(qy M (bif ok then le n most else false) s).bind fun _ s'=>.ret n s'
def YV (s:σ):PR σ Int:=(qy M (q8 (M.tx s)) s).bind fun _ s'=>.ret (kM (M.tx s)) s'
def kp (s:σ):PR σ ByteArray :=
 match jB (M.tx s) with
 | none=>.stuck
 | some c=>qy M c s
def kz:=bs [112,114,111,109,111,116,101]
def Qb:=bs [115,121,110,99,101,100]
def J5:=bs [100,101,109,111,116,101]
def J4:=bs [114,101,106,111,105,110]
def JP:=bs [105,115,111,108,97,116,101]
def wUp:=bs [117,112]
def KG:=bs [100,111,119,110]
def yv:=bs [99,111,110,110,101,99,116]
def yL:=bs [100,105,115,99,111,110,110,101,99,116]
def k6:=bs [102,97,105,108,111,118,101,114]
def ZW:=bs [114,101,115,111,108,118,101]
def an:=bs [110,111,110,101]
def jZ (w:ByteArray):Nat :=
 bif (jb w kz||jb w Qb) then 1 else bif jb w J5 then 2 else bif jb w J4 then 3
  else bif (jb w JP||(jb w wUp||(jb w KG||(jb w yv||(jb w yL||(jb w k6||jb w ZW)))))) then 4 else 0
def j8:Nat->List Int
 | 1=>[0,1]
 | 2=>[0,1,2]
 | 3=>[0,1,0]
 | 4=>[0]
 | _=>[]
def qp (kind:Int) (w:ByteArray):Bool:=bif kind==1 then nmO (jq w) else bif kind==2 then (bif q8 w then true else jb w an) else q8 w
def J9 (kind:Int) (s:σ):PR σ ByteArray:=bif nmD (jq (M.tx s)) then qy M (qp kind (M.tx s)) s else .stuck
def zo:List Int->σ->PR σ (List ByteArray)
 | [],s=>.ret [] s
 | k::r,s=>(J9 M k s).bind fun w s1=>(zo r s1).bind fun l s2=>.ret (w::l) s2
def zG (s:σ):PR σ (List ByteArray) :=
 (qy M (!(Nat.beq (jZ (M.tx s)) 0)) s).bind fun w s1=>(zo M (j8 (jZ (M.tx s))) s1).bind fun l s2=>.ret (w::l) s2
def wOr:=bs [111,114]
def yw:=bs [97,110,100]
def yy:=bs [110,111,116]
def wEq:=bs [61]
def wLt:=bs [60]
def wGt:=bs [62]
def yD:=bs [43]
def zc:=bs [45]
def Y0:=bs [40]
def GR:=bs [41]
def qW:=bs [110,117,109]
def qT:=bs [112,114,105,109,97,114,121]
def yA:=bs [115,105,116,101,115]
def zA:=bs [101,112,111,99,104]
def qq:=bs [97,112,112,108,105,101,100]
def yh:=bs [114,111,108,101]
def zD:=bs [97,108,105,118,101]
def qB:=bs [99,111,110,110,101,99,116,101,100]
variable (A:Alg ε τ)
def Zs (operand:σ->PR σ ε) (again:ε->σ->PR σ ε) (e:ε):List ByteArray->σ->PR σ ε
 | [],s=>.ret e s
 | o::r,s=>(qJ M o s).bind fun c s1=>bif c then (operand s1).bind fun x s2=>again (A.ex o 0 [e,x]) s2 else Zs operand again e r s1
def yP (ops:List ByteArray) (operand:σ->PR σ ε):Nat->ε->σ->PR σ ε
 | 0,_,_=>.stuck
 | k+1,e,s=>Zs M A operand (yP ops operand k) e ops s
def Zh (expr:σ->PR σ ε) (s:σ):PR σ ε :=
 bif (jb (M.tx s) qT||jb (M.tx s) yA) then (M.adv s).bind fun _ s1=>.ret (A.ex (M.tx s) 0 []) s1
 else bif (jb (M.tx s) zA||(jb (M.tx s) qq||(jb (M.tx s) yh||(jb (M.tx s) zD||jb (M.tx s) qB)))) then (M.adv s).bind fun _ s1=>(YV M s1).bind fun n s2=>.ret (A.ex (M.tx s) n []) s2
 else bif jb (M.tx s) Y0 then (M.adv s).bind fun _ s1=>(expr s1).bind fun e s2=>(qR M GR s2).bind fun _ s3=>.ret e s3
 else (yp M 1073741824 s).bind fun n s1=>.ret (A.ex qW n []) s1
def Gc (expr:σ->PR σ ε) (k:Nat) (s:σ):PR σ ε:=(Zh M A expr s).bind fun e s1=>yP M A [yD,zc] (Zh M A expr) k e s1
def Xo (one expr:σ->PR σ ε) (k:Nat) (s:σ):PR σ ε :=
 (qJ M yy s).bind fun c s1=>bif c then (one s1).bind fun e s2=>.ret (A.ex yy 0 [e]) s2
  else (Gc M A expr k s1).bind fun e s2=>Zs M A (Gc M A expr k) (fun x s3=>.ret x s3) e [wEq,wLt,wGt] s2
def W8 (one expr:σ->PR σ ε) (k:Nat) (s:σ):PR σ ε:=(Xo M A one expr k s).bind fun e s1=>yP M A [yw] (Xo M A one expr k) k e s1
def U3 (one expr:σ->PR σ ε) (k:Nat) (s:σ):PR σ ε:=(W8 M A one expr k s).bind fun e s1=>yP M A [wOr] (W8 M A one expr k) k e s1
def exs (K:Nat):Nat->(σ->PR σ ε) × (σ->PR σ ε)
 | 0=>(fun _=>.stuck,fun _=>.stuck)
 | d+1=>(Xo M A (exs K d).1 (exs K d).2 K,U3 M A (exs K d).1 (exs K d).2 K)
def wDo:=bs [100,111]
def Ha:=bs [117,110,100,111]
def wIf:=bs [105,102]
def O9:=bs [101,108,115,101]
def qQ:=bs [114,101,112,101,97,116]
def qo:=bs [114,101,113,117,105,114,101]
def kx:=bs [115,97,121]
def j9:=bs [59]
def Uo:=bs [123]
def Jx:=bs [125]
def ZD:=bs [114,117,110,98,111,111,107]
def Zy:ε:=A.ex (bs []) 0 []
def yX:Nat->σ->PR σ (List ByteArray)
 | 0,_=>.stuck
 | k+1,s=>(qJ M j9 s).bind fun c s1=>bif c then .ret [] s1 else (kp M s1).bind fun w s2=>(yX k s2).bind fun l s3=>.ret (w::l) s3
def zU (st:σ->PR σ τ):Nat->σ->PR σ (List τ)
 | 0,_=>.stuck
 | k+1,s=>(qJ M Jx s).bind fun c s1=>bif c then .ret [] s1 else (st s1).bind fun x s2=>(zU st k s2).bind fun l s3=>.ret (x::l) s3
def QC (st:σ->PR σ τ) (k:Nat) (s:σ):PR σ (List τ):=(qR M Uo s).bind fun _ s1=>zU M st k s1
def zj (expr:σ->PR σ ε) (block:σ->PR σ (List τ)) (k:Nat) (s:σ):PR σ τ :=
 bif jb (M.tx s) wDo then (M.adv s).bind fun _ s1=>(zG M s1).bind fun w s2=>(qJ M Ha s2).bind fun c s3 =>
  bif c then (block s3).bind fun l s4=>(qR M j9 s4).bind fun _ s5=>.ret (A.st (M.tx s) w (Zy A) l [] (M.pos s)) s5
  else (qR M j9 s3).bind fun _ s4=>.ret (A.st (M.tx s) w (Zy A) [] [] (M.pos s)) s4
 else bif jb (M.tx s) wIf then (M.adv s).bind fun _ s1=>(expr s1).bind fun e s2=>(block s2).bind fun l s3=>(qJ M O9 s3).bind fun c s4 =>
  bif c then (block s4).bind fun r s5=>.ret (A.st (M.tx s) [] e l r (M.pos s)) s5 else .ret (A.st (M.tx s) [] e l [] (M.pos s)) s4
 else bif jb (M.tx s) qQ then (M.adv s).bind fun _ s1=>(yp M 99 s1).bind fun n s2=>(block s2).bind fun l s3=>.ret (A.st (M.tx s) [] (A.ex qW n []) l [] (M.pos s)) s3
 else bif jb (M.tx s) qo then (M.adv s).bind fun _ s1=>(expr s1).bind fun e s2=>(qR M j9 s2).bind fun _ s3=>.ret (A.st (M.tx s) [] e [] [] (M.pos s)) s3
 else bif jb (M.tx s) kx then (M.adv s).bind fun _ s1=>(kp M s1).bind fun w s2=>(yX M k s2).bind fun l s3=>.ret (A.st (M.tx s) (w::l) (Zy A) [] [] (M.pos s)) s3
 else YY M s
def sts (K:Nat):Nat->(σ->PR σ τ) × (σ->PR σ (List τ))
 | 0=>(fun _=>.stuck,fun _=>.stuck)
 | d+1=>(zj M A (exs M A K K).2 (sts K d).2 K,QC M (zj M A (exs M A K K).2 (sts K d).2 K) K)
end Go.Proofs.YtiefjlcakpdfeaaGreat
namespace Go.Proofs.YtiefjlcakpdfeaaGreat
open Go Go.Sx Go.RowKit Rb
set_option maxRecDepth 100000
def MP (s:ByteArray):Mach PS:=⟨PS.tx,PS.pos,k9 s⟩
def YL (b:Bool):AV:=.one (.c (.bool b))
def encS (b:ByteArray):AV:=.one (.c (.str b))
def kS (n:Int):AV:=.one (.c (.int .i64 n))
def qc (a:Int):Tree (Out × List CV):=.leaf (.pan (Ql a),JB)
def QR (a:AV) (s:ByteArray) (p:PS):Tree (Out × List CV):=.leaf (.ret a,qK s p)
theorem Tells.bind {α β:Type} {d:α} {x:PR PS α} {K:α->PS->Tree (Out × List CV)} {enc:β->AV} {s:ByteArray} {f:α->PS->PR PS β} (h:∀ v p,Tells (K v p) enc s (f v p)):Tells (nxT d x K qc) enc s (x.bind f):=by
 cases x with
 | stuck=>exact trivial
 | pan a=>exact Tells.of_pan rfl
 | ret v p =>
   have:=h v p
   show Tells _ enc s (f v p);cases hf:f v p with
  | stuck=>exact trivial
  | ret w q=>rw [hf] at this;exact this
  | pan a=>rw [hf] at this;exact this
theorem Tells.cond {β:Type} {c:Bool} {A B:Tree (Out × List CV)} {enc:β->AV} {s:ByteArray} {x y:PR PS β} (h1:Tells A enc s x) (h2:Tells B enc s y):Tells (.br c A B) enc s (bif c then x else y):=by
 cases c
 ·show Tells _ enc s y;cases y with
  | stuck=>exact trivial
  | ret w q=>exact h2
  | pan a=>exact h2
 ·show Tells _ enc s x;cases x with
  | stuck=>exact trivial
  | ret w q=>exact h1
  | pan a=>exact h1
theorem Tells.notc {β:Type} {c:Bool} {A B:Tree (Out × List CV)} {enc:β->AV} {s:ByteArray} {x y:PR PS β} (h1:Tells A enc s x) (h2:Tells B enc s y):Tells (.br (!c) B A) enc s (bif c then x else y):=by
 cases c
 ·show Tells _ enc s y;cases y with
  | stuck=>exact trivial
  | ret w q=>exact h2
  | pan a=>exact h2
 ·show Tells _ enc s x;cases x with
  | stuck=>exact trivial
  | ret w q=>exact h1
  | pan a=>exact h1
theorem Tells.ret {β:Type} {enc:β->AV} {s:ByteArray} {v:β} {p:PS}:Tells (QR (enc v) s p) enc s (.ret v p):=Tells.of_ret rfl
theorem Tells.pan {β:Type} {enc:β->AV} {s:ByteArray} {a:Int}:Tells (qc a) enc s (.pan a:PR PS β):=Tells.of_pan rfl
theorem Tells.need {β:Type} {c:Bool} {A:Tree (Out × List CV)} {enc:β->AV} {s:ByteArray} {x:PR PS β} (h:c=true->Tells A enc s x):Tells (.need c A) enc s (bif c then x else .stuck):=by
 cases c
 ·exact trivial
 ·have:=h rfl
  show Tells _ enc s x;cases x with
  | stuck=>exact trivial
  | ret w q=>exact this
  | pan a=>exact this
def spU {α:Type} (F:ByteArray->PS->PR PS α) (rest:List A1) (s:ByteArray) (p:PS):PR PS α:=match rest with | []=>F s p | _=>.stuck
def spW {α:Type} (F:ByteArray->ByteArray->PS->PR PS α) (rest:List A1) (s:ByteArray) (p:PS):PR PS α:=match rest with | [.c (.str w)]=>F w s p | _=>.stuck
def spB {α:Type} (F:Bool->ByteArray->PS->PR PS α) (rest:List A1) (s:ByteArray) (p:PS):PR PS α:=match rest with | [.c (.bool b)]=>F b s p | _=>.stuck
def spI {α:Type} (F:Int->ByteArray->PS->PR PS α) (rest:List A1) (s:ByteArray) (p:PS):PR PS α:=match rest with | [.c (.int .i64 n)]=>F n s p | _=>.stuck
section
variable {P:Program} {α:Type} {H:Hd} {X:HdP} {d:α} {enc:α->AV}
theorem Uq (hH:HdOk P H) (hX:XOk P X) (k f:Nat) {F:ByteArray->PS->PR PS α} (h:∀ s n t a,Tells (qX P H X k f 82 [] [.str s,.int .i64 n,.str t,.int .i64 a]) enc s (F s ⟨n,t,a⟩)):jn P f (localG 82 (uOf d enc (spU F))):=Ba hH hX k f fun rest s n t a=>by
 unfold spU;split
 ·exact h s n t a
 ·exact trivial
theorem jpl (hH:HdOk P H) (hX:XOk P X) (k f:Nat) {F:ByteArray->ByteArray->PS->PR PS α} (h:∀ w s n t a,Tells (qX P H X k f 82 [.c (.str w)] [.str s,.int .i64 n,.str t,.int .i64 a]) enc s (F w s ⟨n,t,a⟩)):jn P f (localG 82 (uOf d enc (spW F))):=Ba hH hX k f fun rest s n t a=>by
 unfold spW;split
 ·exact h _ s n t a
 ·exact trivial
theorem jq8 (hH:HdOk P H) (hX:XOk P X) (k f:Nat) {F:Bool->ByteArray->PS->PR PS α} (h:∀ w s n t a,Tells (qX P H X k f 82 [.c (.bool w)] [.str s,.int .i64 n,.str t,.int .i64 a]) enc s (F w s ⟨n,t,a⟩)):jn P f (localG 82 (uOf d enc (spB F))):=Ba hH hX k f fun rest s n t a=>by
 unfold spB;split
 ·exact h _ s n t a
 ·exact trivial
theorem jqK (hH:HdOk P H) (hX:XOk P X) (k f:Nat) {F:Int->ByteArray->PS->PR PS α} (h:∀ w s n t a,Tells (qX P H X k f 82 [.c (.int .i64 w)] [.str s,.int .i64 n,.str t,.int .i64 a]) enc s (F w s ⟨n,t,a⟩)):jn P f (localG 82 (uOf d enc (spI F))):=Ba hH hX k f fun rest s n t a=>by
 unfold spI;split
 ·exact h _ s n t a
 ·exact trivial
end
noncomputable abbrev H31:Hd:=⟨[pF 31,pF 32,pF 33,pF 36,pF 85,pF 133,pF 211,(86,oG G86)],[(87,nG G87),(162,nG Xv)],[],[]⟩
theorem h31:HdOk Tryz.prog H31:=(((((((((HdOk.nil.ucCons jgL).ucCons p87).pcCons p86).pF 211).pF 133).pF 85).pF 36).pF 33).pF 32).pF 31
abbrev X31:HdP:=⟨[(31,localG 82 (uOf () kQ N2))],[],[],[],[],0,[31]⟩
theorem x31:XOk Tryz.prog X31:=XOk.nil.loCons jgA (LocFn.localG _ _)
def t85 (s w:ByteArray) (p:PS):Tree (Out × List CV) :=
 .br (!jb p.tx w) (QR (YL false) s p) (nxT () (k9 s p) (fun _ p1=>QR (YL true) s p1) qc)
theorem jnO (s t w:ByteArray) (n a:Int):qX Tryz.prog H31 X31 10 85 82 [.c (.str w)] [.str s,.int .i64 n,.str t,.int .i64 a]=t85 s w ⟨n,t,a⟩:=by kernel_rfl
abbrev u85:=uOf false YL (spW fun w s p=>qJ (MP s) w p)
theorem je4:jn Tryz.prog 85 (localG 82 u85):=jpl h31 x31 10 85 fun w s n t a=>by
 rw [jnO];exact Tells.notc (Tells.bind fun _ p=>Tells.ret) Tells.ret
def t33 (ok:Bool) (s:ByteArray) (p:PS):Tree (Out × List CV) :=
 .br (!ok) (qc p.pos) (nxT () (k9 s p) (fun _ p1=>QR (encS p.tx) s p1) qc)
theorem jmW (s t:ByteArray) (ok:Bool) (n a:Int):qX Tryz.prog H31 X31 10 33 82 [.c (.bool ok)] [.str s,.int .i64 n,.str t,.int .i64 a]=t33 ok s ⟨n,t,a⟩:=by kernel_rfl
abbrev u33:=uOf (bs []) encS (spB fun ok s p=>qy (MP s) ok p)
theorem jgn:jn Tryz.prog 33 (localG 82 u33):=jq8 h31 x31 10 33 fun ok s n t a=>by
 rw [jmW];exact Tells.notc (Tells.bind fun _ p=>Tells.ret) Tells.pan
abbrev X33:HdP:=⟨[(33,localG 82 u33),(85,localG 82 u85),(31,localG 82 (uOf () kQ N2))],[],[],[],[],0,[33,85,31]⟩
theorem x33:XOk Tryz.prog X33:=(x31.loCons je4 (LocFn.localG _ _)).loCons jgn (LocFn.localG _ _)
def t32 (s w:ByteArray) (p:PS):Tree (Out × List CV) :=
 nxT false (qJ (MP s) w p) (fun c p1=>.br (!c) (qc p1.pos) (QR (kQ ()) s p1)) qc
theorem jmV (s t w:ByteArray) (n a:Int):qX Tryz.prog H31 X33 10 32 82 [.c (.str w)] [.str s,.int .i64 n,.str t,.int .i64 a]=t32 s w ⟨n,t,a⟩:=by kernel_rfl
abbrev u32:=uOf () kQ (spW fun w s p=>qR (MP s) w p)
theorem jhy:jn Tryz.prog 32 (localG 82 u32):=jpl h31 x33 10 32 fun w s n t a=>by
 rw [jmV];exact Tells.bind fun c p=>Tells.notc Tells.ret Tells.pan
def jms (most:Int) (s:ByteArray) (p:PS):Tree (Out × List CV) :=
 .need (nmD (jq p.tx)) (nxT (bs []) (qy (MP s) (bif nmO (jq p.tx) then le (nmV (jq p.tx)) most else false) p) (fun _ p1=>QR (kS (nmV (jq p.tx))) s p1) qc)
theorem jjL (s t:ByteArray) (most n a:Int):qX Tryz.prog H31 X33 10 133 82 [.c (.int .i64 most)] [.str s,.int .i64 n,.str t,.int .i64 a]=jms most s ⟨n,t,a⟩:=by kernel_rfl
abbrev joh:=uOf 0 kS (spI fun most s p=>yp (MP s) most p)
theorem jh5:jn Tryz.prog 133 (localG 82 joh):=jqK h31 x33 10 133 fun most s n t a=>by
 rw [jjL];unfold jms yp;show Tells _ _ _ (match jq t with | none=>.stuck | some (n,ok)=>_)
 simp only;cases jq t with
 | none=>exact trivial
 | some r =>
   obtain ⟨v,ok⟩:=r;exact Tells.need (c:=true) fun _=>Tells.bind fun _ p=>Tells.ret
def jr0 (s:ByteArray) (p:PS):Tree (Out × List CV) :=
 nxT (bs []) (qy (MP s) (q8 p.tx) p) (fun _ p1=>QR (kS (kM p.tx)) s p1) qc
theorem jjJ (s t:ByteArray) (n a:Int):qX Tryz.prog H31 X33 10 211 82 [] [.str s,.int .i64 n,.str t,.int .i64 a]=jr0 s ⟨n,t,a⟩:=by kernel_rfl
abbrev jm2:=uOf 0 kS (spU fun s p=>YV (MP s) p)
theorem jik:jn Tryz.prog 211 (localG 82 jm2):=Uq h31 x33 10 211 fun s n t a=>by
 rw [jjJ];exact Tells.bind fun _ p=>Tells.ret
end Go.Proofs.YtiefjlcakpdfeaaGreat