/-
 Part TaZ of the proof: RbZb RbZc RcE EngCl.
-/
import Derived.Test.YtiefjlcakpdfeaaGreatDoorTaY
import Derived.Test.YtiefjlcakpdfeaaGreatDoorTaX
import Derived.Test.YtiefjlcakpdfeaaGreatDoorTaN
namespace Go.Proofs.YtiefjlcakpdfeaaGreatDoor
open Go Go.Sx Go.RowKit Rb
set_option maxRecDepth 100000
abbrev RBl:=Nat->Val->Option Int
def G90 (R:RBl):List A1->Option (Bool × AV)
 | [.c (.sl es n ρ)]=>if shEq.shsEq es (jm 1) then some (opD (R n ρ),.one (.c (.int .i64 (opN (R n ρ))))) else none
 | _=>none
theorem ae {R:RBl} {args:List A1} {r:AV} (h:G90 R args=some (true,r)):∃ n ρ,args=[.c (.sl (jm 1) n ρ)]∧opD (R n ρ)=true∧r=.one (.c (.int .i64 (opN (R n ρ)))):=by
 unfold G90 at h;split at h
 ·split at h
  ·rename_i es n ρ hs;simp only [sIq,pIq] at h;exact ⟨n,ρ,by rw [jj hs],h.1,h.2.symm⟩
  ·cases h
 ·cases h
def jh (ρ:Val) (i:Nat):RS:=⟨((ρ.at i).at 0).S [],((ρ.at i).at 1).L [],(ρ.at i).at 1,⟨((ρ.at i).at 2).S [],((ρ.at i).at 3).N [],((ρ.at i).at 4).L [],(ρ.at i).at 4⟩,((ρ.at i).at 5).L [],(ρ.at i).at 5,((ρ.at i).at 6).L [],(ρ.at i).at 6,((ρ.at i).at 7).N []⟩
abbrev C90:=Int × (Nat × Val) × Int × Int
def S90 (c:C90):St:=mkS 44 [(2,.one (.c (.int .i64 c.1))),(9,.one (.c (.sl (jm 1) c.2.1.1 c.2.1.2))),(10,.one (.c (.int .i64 c.2.2.1))),(11,.one (.c (.int .i64 c.2.2.2)))] []
def jbe:List (Nat × AV)->Mem->Option C90
 | [(2,.one (.c (.int .i64 r))),(9,.one (.c (.sl es n ρ))),(10,.one (.c (.int .i64 l))),(11,.one (.c (.int .i64 i)))],[]=>if shEq.shsEq es (jm 1) then some (r,(n,ρ),l,i) else none
 | _,_=>none
theorem je0:∀ l m c,jbe l m=some c->mkS 44 l m=S90 c:=by
 intro l m c h;unfold jbe at h;split at h
 ·split at h
  ·rename_i hs;cases h;rw [jj hs];rfl
  ·cases h
 ·cases h
def E90 (v:Int):St:=mkS 44 [(2,.one (.c (.int .i64 v)))] []
def T5:List (Nat × AV)->Mem->Option Int
 | [(2,.one (.c (.int .i64 v)))],[]=>some v
 | _,_=>none
theorem jel:∀ l m c,T5 l m=some c->mkS 44 l m=E90 c:=by
 intro l m c h;unfold T5 at h;split at h
 ·cases h;rfl
 ·cases h
def A90:Sx.Frame C90 Int:=⟨0,44,[2,9,10,11],jbe,S90,[2],T5,E90⟩
theorem a90:A90.Ok:=.of_eq je0 jel
noncomputable abbrev H90 (f:Nat) (R:RBl):Hd:=⟨[lK,(67,oG TN)],[(74,nG TF),(75,nG (Yg (QD f))),(43,nG (G90 R))],[],[]⟩
theorem h90 (f:Nat) {R:RBl} (hR:UcOne Tryz.prog 43 (nG (G90 R))):HdOk Tryz.prog (H90 f R):=HdOk.lK ((((HdOk.nil.ucCons hR).ucCons (jfK f)).ucCons jrA).pcCons je7)
abbrev X03:HdP:=⟨[],[],[],[],[],3,[]⟩
def yf (kd:ByteArray):Bool:=bif bif jb kd wIf then true else jb kd qc then true else jb kd zN
def Yd (n:Nat) (ρ:Val):Val:=Val.ofC (.sl (jm 1) n ρ)
theorem BC (ρ:Val):Yd (ρ.L []) ρ=ρ:=by
 cases ρ with
 | mk B N S L =>
   show Val.mk B N S _=_;congr 1;funext p;cases p<;>rfl
def r90 (f:Nat) (R:RBl) (g:C90->Tree (XP × Int)) (c:C90):Tree (XP × Int) :=
 let i:=c.2.2.2
 let s:=jh c.2.1.2 i.toNat
 let x:=QD f s.cond 1
 let u:=R s.bn (Yd s.bn s.bρ)
 let v:=R s.en (Yd s.en s.eρ)
 let w:=R 0 Val.zero
 let EX:=g (c.1,c.2.1,c.2.2.1,IntKind.wrap .i64 (i+1))
 let T:=fun (j:Int) (y:Option Int) (K:Tree (XP × Int))=>Tree.br (lt j (ja 2)) (.need (jc j 2) (.need (opD y) (.br (opN y != 0) (.leaf (.ret,opN y)) K))) EX
 let REST:=T 0 u (T 1 v (T 2 w .fail))
 .br (lt i c.2.2.1) (.need (jc i c.2.1.1) (.need (Ye s) (.br (!Q1 s) (.leaf (.ret,3))
  (.br (yf s.kind) (.need (opD x) (.br (opN x != 0) (.leaf (.ret,opN x)) REST)) REST)))) (.leaf (.exit 0,c.1))
theorem joG (f:Nat) (R:RBl) (g:C90->Tree (XP × Int)) (r:Int) (n:Nat) (ρ:Val) (l i:Int):jD A90 Tryz.prog (H90 f R) X03 10 43 0 g (r,(n,ρ),l,i)=r90 f R g (r,(n,ρ),l,i):=by kernel_rfl
def Jn (f:Nat) (R:RBl) (n:Nat) (ρ:Val) (l:Int):Nat->Int->Option Int
 | 0,_=>none
 | k + 1, i => bif lt i l then (bif jc i n then (bif Ye (jh ρ i.toNat) then (bif !Q1 (jh ρ i.toNat) then some 3 else
   match (bif yf (jh ρ i.toNat).kind then QD f (jh ρ i.toNat).cond 1 else some 0) with
   | none=>none
   | some x=>bif x != 0 then some x else match R (jh ρ i.toNat).bn (jh ρ i.toNat).bρ with
    | none=>none
    | some y=>bif y != 0 then some y else match R (jh ρ i.toNat).en (jh ρ i.toNat).eρ with
     | none=>none
     | some z=>bif z != 0 then some z else Jn f R n ρ l k (IntKind.wrap .i64 (i+1))) else none) else none) else some 0
def g90 (f:Nat) (R:RBl) (k:Nat) (c:C90):Tree (XP × Int) :=
 let x:=Jn f R c.2.1.1 c.2.1.2 c.2.2.1 k c.2.2.2
 .need (opD x) (.br (opN x != 0) (.leaf (.ret,opN x)) (.leaf (.exit 0,c.1)))
def Wy (r:Int):Option Int->Option (XP × Int)
 | some x=>some (bif x != 0 then (.ret,x) else (.exit 0,r))
 | none=>none
theorem MU (f:Nat) (R:RBl) (k:Nat) (c:C90):(g90 f R k c).sel=Wy c.1 (Jn f R c.2.1.1 c.2.1.2 c.2.2.1 k c.2.2.2):=by
 unfold g90;cases Jn f R c.2.1.1 c.2.1.2 c.2.2.1 k c.2.2.2 with
 | none=>rfl
 | some x =>
   show (bif true then (bif x != 0 then some _ else some _) else none)=_;unfold Wy;simp only;cases (x != 0)<;>rfl
theorem joR (f:Nat) (R:RBl) (k:Nat) (c:C90) (x:XP × Int) (h:(g90 f R (k+1) c).sel=some x):(jD A90 Tryz.prog (H90 f R) X03 10 43 0 (g90 f R k) c).sel=some x:=by
 obtain ⟨r,⟨n,ρ⟩,l,i⟩:=c;rw [joG];rw [MU] at h;unfold Jn at h;unfold r90;have eb:Yd (jh ρ i.toNat).bn (jh ρ i.toNat).bρ=(jh ρ i.toNat).bρ:=BC _;have ee:Yd (jh ρ i.toNat).en (jh ρ i.toNat).eρ=(jh ρ i.toNat).eρ:=BC _;have c0:lt 0 (ja 2)=true:=rfl;have c1:lt 1 (ja 2)=true:=rfl;have c2:lt 2 (ja 2)=false:=rfl;have d0:jc 0 2=true:=rfl;have d1:jc 1 2=true:=rfl;simp only [j9,jG,j3,MU,eb,ee,c0,c1,c2,d0,d1,cond_true,cond_false];simp only at h;revert h;cases lt i l with
 | false=>exact fun h=>h
 | true =>
 cases jc i n with
 | false=>exact fun h=>by simp [Wy] at h
 | true =>
 cases Ye (jh ρ i.toNat) with
 | false=>exact fun h=>by simp [Wy] at h
 | true =>
 cases Q1 (jh ρ i.toNat) with
 | false=>exact fun h=>h
 | true =>
 simp only [cond_true,Bool.not_true,cond_false]
 have rest : Wy r (match R (jh ρ i.toNat).bn (jh ρ i.toNat).bρ with
    | none=>none
    | some y=>bif y != 0 then some y else match R (jh ρ i.toNat).en (jh ρ i.toNat).eρ with
     | none=>none
     | some z=>bif z != 0 then some z else Jn f R n ρ l k (IntKind.wrap .i64 (i+1)))=some x ->
   (bif opD (R (jh ρ i.toNat).bn (jh ρ i.toNat).bρ) then bif opN (R (jh ρ i.toNat).bn (jh ρ i.toNat).bρ) != 0 then some (XP.ret,opN (R (jh ρ i.toNat).bn (jh ρ i.toNat).bρ)) else
    bif opD (R (jh ρ i.toNat).en (jh ρ i.toNat).eρ) then bif opN (R (jh ρ i.toNat).en (jh ρ i.toNat).eρ) != 0 then some (XP.ret,opN (R (jh ρ i.toNat).en (jh ρ i.toNat).eρ)) else
     Wy r (Jn f R n ρ l k (IntKind.wrap .i64 (i+1))) else none else none)=some x:=by
  cases R (jh ρ i.toNat).bn (jh ρ i.toNat).bρ with
  | none=>exact fun h=>h
  | some y =>
    simp only [opD,opN,cond_true];cases hy:(y != 0) with
   | true=>simp only [cond_true];intro h;rw [← h];unfold Wy;simp only [hy,cond_true]
   | false =>
     simp only [cond_false];cases R (jh ρ i.toNat).en (jh ρ i.toNat).eρ with
    | none=>exact fun h=>h
    | some z =>
      simp only [cond_true];cases hz:(z != 0) with
     | true=>simp only [cond_true];intro h;rw [← h];unfold Wy;simp only [hz,cond_true]
     | false=>simp only [cond_false];exact fun h=>h
 cases yf (jh ρ i.toNat).kind with
 | false=>simp only [cond_false];exact rest
 | true =>
   simp only [cond_true];cases QD f (jh ρ i.toNat).cond 1 with
  | none=>exact fun h=>h
  | some y =>
    simp only [opD,opN,cond_true];cases hy:(y != 0) with
   | true=>simp only [cond_true];intro h;rw [← h];unfold Wy;simp only [hy,cond_true]
   | false=>simp only [cond_false];exact rest
theorem jnk (f:Nat) {R:RBl} (hR:UcOne Tryz.prog 43 (nG (G90 R))):∀ k,CoreOk Tryz.prog 43 0 0 S90 E90 (g90 f R k) :=
 CoreOk.fuel (A:=A90) a90 (h90 f hR) (XOk.nil (r:=3)) 10 (fun _=>rfl) (joR f R)
def joS (f:Nat) (R:RBl) (c:C90):Tree (XP × Int):=g90 f R (c.2.1.1+1) c
def X90 (f:Nat) (R:RBl):HdP:=⟨[],[],[],[((43,0),qz A90 (joS f R))],[],3,[]⟩
theorem x90 (f:Nat) {R:RBl} (hR:UcOne Tryz.prog 43 (nG (G90 R))):XOk Tryz.prog (X90 f R):=XOk.lxCons XOk.nil (CoreOk.lx (g:=joS f R) a90 fun fn c b h1 h2 h3 c0 x hx=>jnk f hR _ fn c b h1 h2 h3 c0 x hx)
def Gs (f:Nat) (R:RBl) (n:Nat) (ρ:Val):Option Int:=Jn f R n ρ (ja n) (n+1) 0
def t90 (f:Nat) (R:RBl) (n:Nat) (ρ:Val):Tree AV:=.need (opD (Gs f R n ρ)) (.br (opN (Gs f R n ρ) != 0) (.leaf (.one (.c (.int .i64 (opN (Gs f R n ρ)))))) (.leaf (.one (.c (.int .i64 0)))))
theorem jnO (f:Nat) (R:RBl) (n:Nat) (ρ:Val):qf Tryz.prog (H90 f R) (X90 f R) 10 43 [.c (.sl (jm 1) n ρ)]=t90 f R n ρ:=by kernel_rfl
theorem u90 {f:Nat} {R:RBl} {args:List A1} {r:AV} (h:G90 (Gs f R) args=some (true,r)):(qf Tryz.prog (H90 f R) (X90 f R) 10 43 args).All (fun x=>leA x r):=by
 obtain ⟨n,ρ,e1,h1,e2⟩:=ae h;rw [e1,e2,jnO];refine ⟨h1,(fun _=>leA.refl),fun h => ?_⟩
 have:opN (Gs f R n ρ)=0:=by simpa using h
 rw [this];exact leA.refl
theorem jqE (f:Nat) {R:RBl} (hR:UcOne Tryz.prog 43 (nG (G90 R))):UcOne Tryz.prog 43 (nG (G90 (Gs f R))):=by
 refine jR (H:=H90 f R) (X:=X90 f R) (h90 f hR) (x90 f hR) 10 43 ?_;intro args r h;exact u90 h
def JD (f:Nat):Nat->RBl
 | 0=>fun _ _=>none
 | d+1=>Gs f (JD f d)
theorem p90 (f:Nat):∀ d,UcOne Tryz.prog 43 (nG (G90 (JD f d)))
 | 0 => by
   intro args r h;obtain ⟨n,ρ,_,h1,_⟩:=ae (zA h);cases h1
 | d+1=>jqE f (p90 f d)
noncomputable abbrev H37 (f d:Nat):Hd:=⟨[],[(30,nG G34),(42,nG (G89 (cntF d))),(43,nG (G90 (JD f d)))],[],[]⟩
theorem h37 (f d:Nat):HdOk Tryz.prog (H37 f d):=((HdOk.nil.ucCons (p90 f d)).ucCons (p89 d)).ucCons p34
def jz (f d:Nat) (name:ByteArray) (n:Nat) (ρ:Val):Option Int :=
 bif Jj name then (bif !yg name then some 23 else match cntF d n ρ with
  | none=>none
  | some (a,b)=>bif lt 4096 a then some 6 else bif lt 16 b then some 28 else JD f d n ρ) else none
def G37 (f d:Nat):List A1->Option (Bool × AV)
 | [.agg [.str name,.sl es n ρ]]=>if shEq.shsEq es (jm 1) then some (opD (jz f d name n ρ),.one (.c (.int .i64 (opN (jz f d name n ρ))))) else none
 | _=>none
def t37 (f d:Nat) (name:ByteArray) (n:Nat) (ρ:Val):Tree AV :=
 let c:=cntF d n ρ
 let L:=fun x:Int=>Tree.leaf (AV.one (.c (.int .i64 x)))
 .need (Jj name) (.br (!yg name) (L 23) (.need (cD c) (.br (lt 4096 (cA c)) (L 6) (.br (lt 16 (cB c)) (L 28) (.need (opD (JD f d n ρ)) (L (opN (JD f d n ρ))))))))
theorem jn7 (f d:Nat) (name:ByteArray) (n:Nat) (ρ:Val):j5 Tryz.prog (H37 f d) 10 22 [.agg [.str name,.sl (jm 1) n ρ]]=t37 f d name n ρ:=by kernel_rfl
theorem jhB {f d:Nat} {args:List A1} {r:AV} (h:G37 f d args=some (true,r)):∃ name n ρ,args=[.agg [.str name,.sl (jm 1) n ρ]]∧opD (jz f d name n ρ)=true∧r=.one (.c (.int .i64 (opN (jz f d name n ρ)))):=by
 unfold G37 at h;split at h
 ·split at h
  ·rename_i name es n ρ hs;simp only [sIq,pIq] at h;exact ⟨name,n,ρ,by rw [jj hs],h.1,h.2.symm⟩
  ·cases h
 ·cases h
theorem jjs (f d:Nat) (name:ByteArray) (n:Nat) (ρ:Val) (h:opD (jz f d name n ρ)=true):(t37 f d name n ρ).All (fun x=>leA x (.one (.c (.int .i64 (opN (jz f d name n ρ)))))):=by
 unfold t37;unfold jz at h ⊢;revert h;cases Jj name with
 | false=>exact fun h=>by cases h
 | true =>
 cases yg name with
 | false=>exact fun _=>jl rfl leA.refl
 | true =>
 simp only [cond_true,Bool.not_true,cond_false];cases cntF d n ρ with
 | none=>exact fun h=>by cases h
 | some c =>
 obtain ⟨a,b⟩:=c;simp only [cD,cA,cB];cases lt 4096 a with
 | true=>exact fun _=>jl rfl leA.refl
 | false =>
 cases lt 16 b with
 | true=>exact fun _=>jl rfl leA.refl
 | false =>
 simp only [cond_false];cases JD f d n ρ with
 | none=>exact fun h=>by cases h
 | some y=>exact fun _=>jl rfl leA.refl
theorem u37 {f d:Nat} {args:List A1} {r:AV} (h:G37 f d args=some (true,r)):(j5 Tryz.prog (H37 f d) 10 22 args).All (fun x=>leA x r):=by
 obtain ⟨name,n,ρ,e1,h1,e2⟩:=jhB h;rw [e1,e2,jn7];exact jjs f d name n ρ h1
theorem p37 (f d:Nat):UcOne Tryz.prog 22 (nG (G37 f d)):=by
 refine zm (H:=H37 f d) (h37 f d) 10 22 ?_;intro args r h;exact u37 h
noncomputable abbrev H8 (f d:Nat):Hd:=⟨[pF 27,pF 28,pF 29,pF 31,pF 32],[(30,nG G34),(22,nG (G37 f d))],[],[]⟩
theorem h8 (f d:Nat):HdOk Tryz.prog (H8 f d):=(((((((HdOk.nil.ucCons (p37 f d)).ucCons p34).pF 32).pF 31).pF 29).pF 28).pF 27)
abbrev X8 (B:ByteArray->PS->PR PS (List RS)):HdP:=⟨(31,localG 70 (UBk B))::(28,localG 70 u32)::(29,localG 70 u33)::(52,localG 70 u85)::(27,localG 70 (uOf () Qa Nb))::[],[],[],[],[],0,[31,28,29,52,27]⟩
theorem x8 {B:ByteArray->PS->PR PS (List RS)} (hB:ju Tryz.prog 31 (localG 70 (UBk B))):XOk Tryz.prog (X8 B):=(x33.loCons jfX (LocFn.localG _ _)).loCons hB (LocFn.localG _ _)
def Vh (name:ByteArray) (n:Nat) (ρ:Val) (at_ e:Int):AV:=.tup [.agg [.str name,.sl (jm 1) n ρ],.c (.int .i64 at_),.c (.int .i64 e)]
def YA (at_ e:Int):AV:=.tup [.agg [.str (bs []),.nils],.c (.int .i64 at_),.c (.int .i64 e)]
def Hm (a:AV):Tree AV:=.br false .fail (.leaf a)
def lfN (at_ e:Int):Tree AV:=Hm (YA at_ e)
def Zm (dead:AV) (a:Int):Tree AV:=.br true (.br true (.leaf (YA a 4)) (.leaf (YA 0 4))) (.leaf dead)
def t8 (f d:Nat) (B:ByteArray->PS->PR PS (List RS)) (s:ByteArray):Tree AV :=
 let pt:=Zm (YA 0 0)
 .br (lt 8192 (ja s.size)) (lfN 0 5)
  (nxT () (kX s ⟨0,bs [],0⟩) (fun _ p1=>nxT () (qJ (MP s) zq p1) (fun _ p2=>.need (Jj p2.tx) (nxT (bs []) (qC (MP s) (yg p2.tx) p2) (fun w p3 =>
   nxT [] (B s p3) (fun l p4=>.br (!jb p4.tx (bs [])) (Zm (Vh w l.length (jO l) 0 0) p4.pos)
    (.need (opD (jz f d w l.length (jO l))) (.br (opN (jz f d w l.length (jO l)) != 0) (lfN 0 (opN (jz f d w l.length (jO l)))) (Hm (Vh w l.length (jO l) 0 0)))))
    (Zm (.tup [.agg [.str w,.nils],.c (.int .i64 0),.c (.int .i64 0)]))) pt)) pt) pt)
theorem jpO (f d:Nat) (B:ByteArray->PS->PR PS (List RS)) (s:ByteArray):qf Tryz.prog (H8 f d) (X8 B) 10 8 [.c (.str s)]=t8 f d B s:=by kernel_rfl
def yv {σ τ:Type} (M:Mach σ) (blk:σ->PR σ (List τ)) (s0:σ):PR σ (ByteArray × List τ) :=
 (M.adv s0).bind fun _ p1=>(qJ M zq p1).bind fun _ p2=>bif Jj (M.tx p2) then (qC M (yg (M.tx p2)) p2).bind fun w p3=>(blk p3).bind fun l p4 =>
  bif !jb (M.tx p4) (bs []) then Kx M p4 else .ret (w,l) p4 else .stuck
abbrev Kj:=ByteArray × List RS × Int × Int
def zX (f d:Nat):PR PS (ByteArray × List RS)->Option Kj
 | .stuck=>none
 | .pan a=>some (bs [],[],a,4)
 | .ret x _=>match jz f d x.1 x.2.length (jO x.2) with
  | none=>none
  | some e=>bif e != 0 then some (bs [],[],0,e) else some (x.1,x.2,0,0)
def QZ (f d:Nat) (B:ByteArray->PS->PR PS (List RS)) (s:ByteArray):Option Kj :=
 bif lt 8192 (ja s.size) then some (bs [],[],0,5) else zX f d (yv (MP s) (B s) ⟨0,bs [],0⟩)
def F4 (x:Kj):AV:=.tup [.agg [.str x.1,.sl (jm 1) x.2.1.length (jO x.2.1)],.c (.int .i64 x.2.2.1),.c (.int .i64 x.2.2.2)]
def oB:Option Kj->Bool | some _=>true | none=>false
def oV:Option Kj->Kj | some x=>x | none=>(bs [],[],0,0)
def G8 (f d:Nat) (B:ByteArray->PS->PR PS (List RS)):List A1->Option (Bool × AV)
 | [.c (.str s)]=>some (oB (QZ f d B s),F4 (oV (QZ f d B s)))
 | _=>none
theorem Gp {a e:Int}:leA (YA a e) (F4 (bs [],[],a,e)):=QS (.cons (.agg (.cons leC.refl (.cons zi .nil))) (.cons (.c leC.refl) (.cons (.c leC.refl) .nil)))
def Says (T:Tree AV):Option Kj->Prop
 | none=>True
 | some x=>T.All (fun z=>leA z (F4 x))
theorem Says.pan {f d:Nat} {a:Int} {dead:AV}:Says (Zm dead a) (zX f d (.pan a)):=jl rfl Gp
theorem Says.bind {f d:Nat} {α:Type} {v0:α} {x:PR PS α} {K:α->PS->Tree AV} {F:α->PS->PR PS (ByteArray × List RS)} {dead:AV} (h:∀ v p,Says (K v p) (zX f d (F v p))):Says (nxT v0 x K (Zm dead)) (zX f d (x.bind F)):=by
 cases x with
 | stuck=>exact trivial
 | pan a =>
   show Tree.All _ _;exact ⟨rfl,(fun h=>by cases h),fun _=>Says.pan (f:=f) (d:=d)⟩
 | ret v p =>
   have:=h v p
   show Says (.need true (.br true (K v p) _)) (zX f d (F v p));cases he:zX f d (F v p) with
  | none=>exact trivial
  | some y=>rw [he] at this;exact ⟨rfl,fun _=>this,(fun h=>by cases h)⟩
theorem Says.cond {f d:Nat} {c:Bool} {T E:Tree AV} {t e:PR PS (ByteArray × List RS)} (h1:c=true->Says T (zX f d t)) (h2:c=false->Says E (zX f d e)):Says (.br c T E) (zX f d (bif c then t else e)):=by
 cases c with
 | true =>
   have:=h1 rfl
   show Says _ (zX f d t);cases he:zX f d t with
  | none=>exact trivial
  | some y=>rw [he] at this;exact ⟨fun _=>this,(fun h=>by cases h)⟩
 | false =>
   have:=h2 rfl
   show Says _ (zX f d e);cases he:zX f d e with
  | none=>exact trivial
  | some y=>rw [he] at this;exact ⟨(fun h=>by cases h),fun _=>this⟩
theorem Says.ret {f d:Nat} {w:ByteArray} {l:List RS} {p:PS}:Says (.need (opD (jz f d w l.length (jO l))) (.br (opN (jz f d w l.length (jO l)) != 0) (lfN 0 (opN (jz f d w l.length (jO l)))) (Hm (Vh w l.length (jO l) 0 0)))) (zX f d (.ret (w,l) p)):=by
 unfold zX;simp only;cases jz f d w l.length (jO l) with
 | none=>exact trivial
 | some e =>
 simp only [opD,opN];cases e != 0 with
 | true=>exact jl rfl Gp
 | false=>exact jl rfl leA.refl
theorem jj1 (f d:Nat) (B:ByteArray->PS->PR PS (List RS)) (s:ByteArray):Says (t8 f d B s) (QZ f d B s):=by
 unfold t8 QZ;cases lt 8192 (ja s.size) with
 | true=>exact jl rfl Gp
 | false =>
 show Says (.br false _ _) (zX f d (yv (MP s) (B s) ⟨0,bs [],0⟩))
 have h:Says (nxT () (kX s ⟨0,bs [],0⟩) (fun _ p1=>nxT () (qJ (MP s) zq p1) (fun _ p2=>.need (Jj p2.tx) (nxT (bs []) (qC (MP s) (yg p2.tx) p2) (fun w p3 =>
  nxT [] (B s p3) (fun l p4=>.br (!jb p4.tx (bs [])) (Zm (Vh w l.length (jO l) 0 0) p4.pos)
   (.need (opD (jz f d w l.length (jO l))) (.br (opN (jz f d w l.length (jO l)) != 0) (lfN 0 (opN (jz f d w l.length (jO l)))) (Hm (Vh w l.length (jO l) 0 0)))))
   (Zm (.tup [.agg [.str w,.nils],.c (.int .i64 0),.c (.int .i64 0)]))) (Zm (YA 0 0)))) (Zm (YA 0 0))) (Zm (YA 0 0))) (zX f d (yv (MP s) (B s) ⟨0,bs [],0⟩)):=by
  unfold yv;refine Says.bind fun _ p1=>Says.bind fun _ p2 => ?_;show Says _ (zX f d (bif Jj p2.tx then _ else _));cases Jj p2.tx with
  | false=>exact trivial
  | true =>
  simp only [cond_true]
  have h2:Says (nxT (bs []) (qC (MP s) (yg p2.tx) p2) (fun w p3 =>
   nxT [] (B s p3) (fun l p4=>.br (!jb p4.tx (bs [])) (Zm (Vh w l.length (jO l) 0 0) p4.pos)
   (.need (opD (jz f d w l.length (jO l))) (.br (opN (jz f d w l.length (jO l)) != 0) (lfN 0 (opN (jz f d w l.length (jO l)))) (Hm (Vh w l.length (jO l) 0 0)))))
   (Zm (.tup [.agg [.str w,.nils],.c (.int .i64 0),.c (.int .i64 0)]))) (Zm (YA 0 0))) (zX f d ((qC (MP s) (yg p2.tx) p2).bind fun w p3=>(B s p3).bind fun l p4 =>
    bif !jb p4.tx (bs []) then Kx (MP s) p4 else .ret (w,l) p4)) :=
   Says.bind fun w p3=>Says.bind fun l p4=>Says.cond (fun _=>Says.pan) fun _=>Says.ret
  revert h2;show Says _ (zX f d _)->Says _ (zX f d _);intro h2;cases he:zX f d ((qC (MP s) (yg p2.tx) p2).bind fun w p3=>(B s p3).bind fun l p4=>bif !jb p4.tx (bs []) then Kx (MP s) p4 else .ret (w,l) p4) with
  | none=>show Says _ (zX f d _);erw [he];exact trivial
  | some y=>show Says _ (zX f d _);erw [he];rw [he] at h2;exact ⟨rfl,h2⟩
 cases he:zX f d (yv (MP s) (B s) ⟨0,bs [],0⟩) with
 | none=>exact trivial
 | some y=>rw [he] at h;exact ⟨(fun h=>by cases h),fun _=>h⟩
theorem jiJ {f d:Nat} {B:ByteArray->PS->PR PS (List RS)} {args:List A1} {r:AV} (h:G8 f d B args=some (true,r)):∃ s x,args=[.c (.str s)]∧QZ f d B s=some x∧r=F4 x:=by
 unfold G8 at h;split at h
 ·rename_i s;simp only [sIq,pIq] at h;cases hp:QZ f d B s with
  | none=>rw [hp] at h;cases h.1
  | some x=>rw [hp] at h;exact ⟨s,x,rfl,hp,h.2.symm⟩
 ·cases h
theorem u8 {f d:Nat} {B:ByteArray->PS->PR PS (List RS)} {args:List A1} {r:AV} (h:G8 f d B args=some (true,r)):(qf Tryz.prog (H8 f d) (X8 B) 10 8 args).All (fun x=>leA x r):=by
 obtain ⟨s,x,e1,h1,e2⟩:=jiJ h;rw [e1,e2,jpO]
 have:=jj1 f d B s
 rw [h1] at this;exact this
theorem p8 (f d:Nat) {B:ByteArray->PS->PR PS (List RS)} (hB:ju Tryz.prog 31 (localG 70 (UBk B))):UcOne Tryz.prog 8 (nG (G8 f d B)):=by
 refine jR (H:=H8 f d) (X:=X8 B) (h8 f d) (x8 hB) 10 8 ?_;intro args r h;exact u8 h
theorem p8F (k d f e:Nat) (hk:k+2<=yR):UcOne Tryz.prog 8 (nG (G8 f e (blK (k+1) d))):=p8 f e (jnQ k hk d).2
def Bf (P:Program) (H:Hd) (n:Nat):List (Nat × Nat)->List ((Nat × Nat) × (Nat->St->Tree (XE × St)))
 | []=>[]
 | p::r=>((p.1,p.2),YS P H 60 p.1 p.2 n)::Bf P H n r
theorem UJ {P:Program} {pc hc mc} (hb:HdOk P ⟨pc,hc,[],mc⟩) {H:Hd} (hH:HdOk P H) (n:Nat):∀ fs:List (Nat × Nat),HdOk P ⟨pc,hc,Bf P H n fs,mc⟩
 | []=>hb
 | p::r=>HdOk.lhCons (UJ hb hH n r) fun _ _ _ hf hc hb=>jcR hH 60 p.1 p.2 hf hc hb n
theorem TcOne.le {P:Program} {f:Nat} {G G':List A1->Option (Bool × AV)} (h:TcOne P f (nG G)) (hg:∀ args r,G' args=some (true,r)->G args=some (true,r)):TcOne P f (nG G'):=by
 intro args r hs;refine h args r ?_
 have:=hg args r (zA hs)
 unfold nG;rw [this];rfl
def G13:List A1->Option (Bool × AV)
 | [.c (.sl es n ρ)]=>if shEq.shsEq es Ro.siSh then some (qi n ρ,Ro.two (Ro.ckI ⟨n,ρ⟩) (Ro.ckE ⟨n,ρ⟩)) else none
 | _=>none
theorem p13:TcOne Tryz.prog 35 (nG G13):=TcOne.le Ro.p34 fun args r h=>by
 unfold G13 at h;split at h
 ·split at h
  ·rename_i es n ρ hs;rw [jj hs];simp only [sIq,pIq] at h;obtain ⟨h1,rfl⟩:=h;show some (dec (Ro.fewS ⟨n,ρ⟩),_)=some (true,_);rw [LA h1]
  ·cases h
 ·cases h
def G51:List A1->Tree (AV × Mem)
 | [.c (.sl es n ρ)]=>if shEq.shsEq es Ro.siSh then .need (qi n ρ) (.leaf (.one (.c (.os 0 8)),[some (53,[.row false Ro.siSh n ρ])])) else .fail
 | _=>.fail
theorem n51:NcOne Tryz.prog 37 G51:=by
 intro args r m h;refine Ro.Fo.nCop args r m ?_;unfold G51 at h;split at h
 ·split at h
  ·rename_i es n ρ hs;rw [jj hs];simp only [Tree.sel] at h;cases hb:qi n ρ with
   | false=>rw [hb] at h;cases h
   | true =>
     rw [hb] at h;simp only [cond_true,sIq] at h;show (Tree.need (dec (Ro.Fo.smallS ⟨n,ρ⟩)) _).sel=_;rw [js.2 (KB hb)];simp only [Tree.sel,cond_true,h]
  ·cases h
 ·cases h
abbrev G8F:=G8 20 20 (blK 101 20)
end Go.Proofs.YtiefjlcakpdfeaaGreatDoor
namespace Go.Sx
open Go Go.RowKit
variable {P:Program}
def GP (P:Program) (H:Hd) (X:HdP) (n f K:Nat) (args:List A1) (mem:Mem):Tree (Out × Mem) :=
 match nth P.funcs.toList f with
 | some fn=>match fn.body with
  | some c => if Nat.ble args.length fn.ntmps then
    (jZ P H X (jU P H n) (zD P H X n) f K 0 c ⟨⟨args.map (fun a=>⟨[],.one a⟩)++List.replicate (fn.ntmps - args.length) ⟨[],.any⟩,mem⟩,[]⟩).bind fun x=>match x.1 with
     | .exit _=>.fail
     | .goto _=>.fail
     | .pan y=>y7 P H X (jU P H n) (zD P H X n) fn x.2.s x.2.dl (some y) x.2.s.mem
     | _=>y7 P H X (jU P H n) (zD P H X n) fn x.2.s x.2.dl none x.2.s.mem
    else .fail
  | none=>.fail
 | none=>.fail
theorem Ge {H : Hd} (hH : HdOk P H) {X : HdP} (hX : XOk P X) (n f K : Nat) {args : List A1} {mem : Mem} {r : Out} {mem' : Mem} (h : (GP P H X n f K args mem).sel = some (r, mem')) (hK : K <= mem.length)
  {F:Nat->Prop} {w:World} {bs:List BI} {vs:List Value} (hm:MemRel P F w bs mem) (hargs:All2 (A1.Rel F w bs) args vs) :
  Calls P f vs.toArray w (fun e w'=>∃ F' bs',Ext K F w bs F' w' bs'∧MemRel P F' w' bs' mem'∧r.Ends F' w' bs' e):=by
 unfold GP at h;split at h
 rotate_left
 ·simp [Tree.sel] at h
 rename_i fn hfn;split at h
 rotate_left
 ·simp [Tree.sel] at h
 rename_i c hb;split at h
 rotate_left
 ·simp [Tree.sel] at h
 rename_i hle;obtain ⟨⟨x,s1⟩,h1,h2⟩:=jg h;rw [jd,Array.getElem?_toList] at hfn;have hst:=Wi (nt:=fn.ntmps) hm hargs (by simpa using hle)
 have hKb:K<=bs.length:=by rw [hm.len];exact hK
 refine calls_of_wp_defers hfn hb (yU hH.pc hX.rx hX.nc (qY hH n) (yn hH hX n) f K c 0 _ h1 (fun i b hh hi hk=>hH.lh f fn c i b hh hfn hb hi (by simpa using hk)) (fun i b hh hi hk=>hX.lx f fn c i b hh hfn hb hi (by simpa using hk)) (fun b hh hi hk=>hX.sx f fn c b hh hfn hb hi hk) hKb (hst.toP .nil) fun F' w' bs' a' e he hs' hx => ?_)
 have key:∀ (pan:Option CV) (u:FrameMode),(y7 P H X (jU P H n) (zD P H X n) fn s1.s s1.dl pan s1.s.mem).sel=some (r,mem')->UMode F' w' bs' pan u->Leaves P fn a'.tmps (fun e w'=>∃ F' bs',Ext K F w bs F' w' bs'∧MemRel P F' w' bs' mem'∧r.Ends F' w' bs' e) a'.defers u w':=by
  intro pan u hl hu
  have:=leaveP_ok hH hX.xs (qY hH n) (yn hH hX n) s1.dl pan s1.s.mem hl hs'.st hs'.ds hu
  exact leaveP_ok.leaves_mono (fun e w2 ⟨F2,bs2,he2,hm2,hr2⟩=>⟨F2,bs2,he.trans he2 (he.le hKb),hm2,hr2⟩) _ _ _ this
 cases x with
 | normal=>cases hx;exact key none .returning h2 rfl
 | ret=>cases hx;exact key none .returning h2 rfl
 | pan y=>obtain ⟨v,rfl,hv⟩:=hx;exact key (some y) _ h2 ⟨v,rfl,hv⟩
 | exit k=>simp [Tree.sel] at h2
 | goto k=>simp [Tree.sel] at h2
def I3 (b o:Nat) (T:TypeId) (es:List Sh) (mem:Mem):Mem:=((⟨[],mem⟩ : St).ownM b o T es).mem
theorem jbD {F w bs mem} (hm : MemRel P F w bs mem) (b o : Nat) (T : TypeId) (es : List Sh) :
  ∃ bs',Ext bs.length F w bs F w bs'∧MemRel P F w bs' (I3 b o T es mem):=by
 have hs:StRel P [] F w bs ⟨[],mem⟩ { tmps:=#[],defers:=[] }:=⟨rfl,rfl,fun i sl x h=>by simp [nth] at h,hm⟩
 obtain ⟨bs',he,_,hs'⟩:=hs.place (.ownM b o T es) (lRq _);exact ⟨bs',he,hs'.mem⟩
def Qe:Option (TypeId × List CV)->Bool
 | some (_,[.row false _ _ _])=>true
 | _=>false
def KP:Mem->Bool
 | some (_,cs)::r=>cs.all (fun x=>closedC x||z7 x)&&!je cs&&r.all Qe
 | _=>false
def Np (p:Nat) (x:BI) (e:Option (TypeId × List CV)):BI:=bif Qe e&&Nat.beq x.cap 0 then ⟨p,x.n,x.cap⟩ else x
def yw (p:Nat):List BI->Mem->List BI
 | x::l,e::m=>Np p x e::yw p l m
 | l,_=>l
theorem QV (p:Nat):∀ (l:List BI) (m:Mem),(yw p l m).length=l.length
 | [],[]=>rfl
 | [],_::_=>rfl
 | _::_,[]=>rfl
 | x::l,e::m=>by simp [yw,QV p l m]
theorem QQ (p : Nat) : ∀ (l : List BI) (m : Mem) (k : Nat) (y : BI), nth (yw p l m) k = some y -> ∃ x, nth l k = some x ∧ y.n = x.n ∧ y.cap = x.cap ∧ (0 < x.cap -> y = x) ∧
  (∀ T cs,nth m k=some (some (T,cs))->je cs=false->y=x)∧(Qe ((nth m k).getD none)=true->x.cap=0->y.p=p)
 | [],m,k,y,h=>by cases m<;>simp [yw,nth] at h
 | x::l,[],k,y,h=>⟨y,h,rfl,rfl,fun _=>rfl,fun _ _ _ _=>rfl,fun hr=>by simp [nth,Qe] at hr⟩
 | x :: l, e :: m, 0, y, h => by
   simp only [yw,nth,sIq] at h;subst h;refine ⟨x,rfl,?_,?_,fun h0 => ?_,fun T cs hc hr => ?_,fun hr h0 => ?_⟩
   ·unfold Np;cases (Qe e&&Nat.beq x.cap 0)<;>rfl
   ·unfold Np;cases (Qe e&&Nat.beq x.cap 0)<;>rfl
   ·have : Nat.beq x.cap 0 = false := by
     cases hb:Nat.beq x.cap 0
     ·rfl
     ·have:=eBq hb;omega
    unfold Np;rw [this,Bool.and_false];rfl
   ·simp only [nth,sIq] at hc;subst hc
    have:Qe (some (T,cs))=false:=by
     unfold Qe;split
     ·rename_i he;simp only [sIq,pIq] at he;rw [he.2] at hr;simp [je] at hr
     ·rfl
    unfold Np;rw [this,Bool.false_and];rfl
   ·simp only [nth,Option.getD_some] at hr;unfold Np;rw [hr,h0];rfl
 | x::l,e::m,k+1,y,h=>QQ p l m k y h
theorem JK {m : Mem} (h : KP m = true) {k : Nat} {T : TypeId} {cs : List CV} (hk : nth m k = some (some (T, cs))) :
  (k=0∧je cs=false∧∀ x ∈ cs,closedC x=true∨z7 x=true)∨(0<k∧∃ es n ρ,cs=[.row false es n ρ]):=by
 unfold KP at h;split at h
 ·rename_i T' cs' r;simp only [aTq,Bool.not_eq_true',List.all_eq_true,Bool.or_eq_true] at h;obtain ⟨⟨h1,h2⟩,h3⟩:=h;cases k with
  | zero =>
    simp only [nth,sIq,pIq] at hk;obtain ⟨rfl,rfl⟩:=hk;exact .inl ⟨rfl,h2,h1⟩
  | succ k =>
    have:=h3 _ (jH (l:=r) (k:=k) hk)
    unfold Qe at this;split at this
    ·rename_i es n ρ he;simp only [sIq,pIq] at he;obtain ⟨rfl,rfl⟩:=he;exact .inr ⟨by omega,_,_,_,rfl⟩
    ·cases this
 ·cases h
theorem MemRel.fix {F w bs m} (hm : MemRel P F w bs m) (ho : KP m = true) (hall : ∀ k, k < m.length -> ∃ T cs, nth m k = some (some (T, cs))) : MemRel P F w (yw w.heap.size bs m) m ∧ (∀ x, nth bs 0 = some x -> nth (yw w.heap.size bs m) 0 = some x) ∧
  ∀ y ∈ yw w.heap.size bs m,(∃ k T cs,nth m k=some (some (T,cs))∧jC y cs∧nth bs k=some y)∨y.p=w.heap.size:=by
 have hl:(yw w.heap.size bs m).length=m.length:=by rw [QV];exact hm.len
 have live:∀ k y T cs,nth (yw w.heap.size bs m) k=some y->nth m k=some (some (T,cs))->jC y cs->nth bs k=some y:=by
  intro k y T cs hk hc hv;obtain ⟨x,hx,h1,h2,h3,h4,h5⟩:=QQ _ _ _ _ _ hk;rcases JK ho hc with ⟨_,hr,_⟩ | ⟨_,es,n,ρ,rfl⟩
  ·rw [h4 T cs hc hr];exact hx
  ·rw [h3 (by rw [← h2];exact hv.2)];exact hx
 refine ⟨⟨hl,fun k x T cs hk hc hv=>hm.loc k x T cs (live k x T cs hk hc hv) hc hv,fun k k' x x' T cs T' cs' a1 a2 a3 a4 a5 a6 a7=>hm.inj k k' x x' T cs T' cs' (live _ _ _ _ a1 a3 a5) (live _ _ _ _ a2 a4 a6) a3 a4 a5 a6 a7,
  fun k T cs x hc hr hk => ?_,fun k T fz es n ρ x hc hk => ?_,fun k T f i st cs x hc hk => ?_⟩,fun x hx => ?_,fun y hy => ?_⟩
 ·have hb:=live k x T cs hk hc (j7 hr);obtain ⟨vs,g1,g2⟩:=hm.cont k T cs x hc hr hb;refine ⟨vs,g1,?_⟩;rcases JK ho hc with ⟨_,_,hcl⟩ | ⟨_,es,n,ρ,rfl⟩
  ·have one : ∀ c v, (closedC c = true ∨ z7 c = true) -> CV.Rel F w bs c v -> CV.Rel F w (yw w.heap.size bs m) c v := by
    intro c v hc hd;rcases hc with h1 | h1
    ·exact hd.closed h1
    ·cases c with
     | os b sz =>
       cases hd with
      | os hb0 hbase =>
        rename_i x0 base;have hlt:=jo hb0;rw [← QV w.heap.size bs m] at hlt;have hy:nth (yw w.heap.size bs m) b=some (yw w.heap.size bs m)[b]:=by rw [jd];exact gEq hlt
        obtain ⟨x2,hx2,e1,e2,e3,_,_⟩:=QQ _ _ _ _ _ hy;rw [hb0] at hx2;simp only [sIq] at hx2;subst hx2;rw [← e1,← e2];exact .os hy fun h0=>by rw [e2] at h0;rw [e3 h0];exact hbase h0
     | _=>simp [z7] at h1
   have all:∀ {l:List CV} {vs:List Value},All2 (CV.Rel F w bs) l vs->(∀ x ∈ l,closedC x=true∨z7 x=true)->All2 (CV.Rel F w (yw w.heap.size bs m)) l vs:=by
    intro l vs h
    induction h with
    | nil=>intro _;exact .nil
    | cons hd _ ih=>intro hl;exact .cons (one _ _ (hl _ (by simp)) hd) (ih fun x hx=>hl x (List.mem_cons_of_mem _ hx))
   exact all g2 hcl
  ·simp [je] at hr
 ·obtain ⟨y,hy,e1,e2,e3,_,_⟩:=QQ _ _ _ _ _ hk;have h:=hm.row k T fz es n ρ y hc hy;refine ⟨by rw [e1];exact h.len,by rw [e2];exact h.le,by rw [e2];exact h.mx,fun h0 => ?_,fun h0 => ?_⟩
  ·rw [e2] at h0;rw [e3 h0];exact h.blk h0
  ·rw [e2] at h0;rw [e3 h0];exact h.frz h0
 ·rcases JK ho hc with ⟨_,hr,_⟩ | ⟨_,es,n,ρ,e⟩
  ·simp [je] at hr
  ·simp at e
 ·have hlt:=jo hx;rw [← QV w.heap.size bs m] at hlt;have hy:nth (yw w.heap.size bs m) 0=some (yw w.heap.size bs m)[0]:=by rw [jd];exact gEq hlt
  obtain ⟨x2,hx2,_,_,_,e4,_⟩:=QQ _ _ _ _ _ hy;rw [hx] at hx2;simp only [sIq] at hx2;subst hx2;rw [QV,hm.len] at hlt;obtain ⟨T,cs,hc⟩:=hall 0 hlt;rcases JK ho hc with ⟨_,hr,_⟩ | ⟨h0,_⟩
  ·rw [hy,e4 T cs hc hr]
  ·omega
 ·obtain ⟨k,hk⟩:=YN hy;have hlt:=jo hk;rw [QV,hm.len] at hlt;obtain ⟨T,cs,hc⟩:=hall k hlt;obtain ⟨x2,hx2,_,e2,e3,e4,e5⟩:=QQ _ _ _ _ _ hk;rcases JK ho hc with ⟨_,hr,_⟩ | ⟨h0,es,n,ρ,rfl⟩
  ·exact .inl ⟨k,T,cs,hc,j7 hr,live k y T cs hk hc (j7 hr)⟩
  ·rcases Nat.eq_zero_or_pos x2.cap with h0 | h0
   ·exact .inr (e5 (by rw [hc];rfl) h0)
   ·have hv:jC y [.row false es n ρ]:=⟨rfl,by rw [e2];exact h0⟩
    exact .inl ⟨k,T,_,hc,hv,live k y T _ hk hc hv⟩
structure Clus (X:Type) where
 lay:X->Mem
 get:Mem->Option X
 prep:Nat->Mem->Mem
structure Clus.Ok {X:Type} (C:Clus X):Prop where
 get:∀ m x,C.get m=some x->∀ (P:Program) F w bs,MemRel P F w bs m->MemRel P F w bs (C.lay x)
 liv:∀ m x,C.get m=some x->∀ k y T cs,nth (C.lay x) k=some (some (T,cs))->jC y cs->∃ T' cs',nth m k=some (some (T',cs'))∧jC y cs'
 ok:∀ x,KP (C.lay x)=true
 prep:∀ (P:Program) F w bs b mem,MemRel P F w bs mem->∃ bs',Ext bs.length F w bs F w bs'∧MemRel P F w bs' (C.prep b mem)
theorem Kp {m:Mem} (h:KP m=true):∀ k,k<m.length->∃ T cs,nth m k=some (some (T,cs)):=by
 unfold KP at h;split at h
 ·rename_i T' cs' r;simp only [aTq,List.all_eq_true] at h;intro k hk;cases k with
  | zero=>exact ⟨T',cs',rfl⟩
  | succ k =>
    have hlt:k<r.length:=by simpa using hk
    have hn:nth r k=some r[k]:=by rw [jd];exact gEq hlt
    have:=h.2 _ (jH hn)
    unfold Qe at this;split at this
    ·rename_i T es n ρ he;exact ⟨T,_,by show nth r k=_;rw [hn,he]⟩
    ·cases this
 ·cases h
def V5 (b:Nat):List (Nat × TypeId × List Sh)->Mem->Mem
 | [],m=>m
 | (o,T,es)::r,m=>V5 b r (I3 b o T es m)
theorem Kw {F w} (b:Nat):∀ (l:List (Nat × TypeId × List Sh)) {bs mem},MemRel P F w bs mem->∃ bs',Ext bs.length F w bs F w bs'∧MemRel P F w bs' (V5 b l mem)
 | [],bs,_,hm=>⟨bs,Ext.refl,hm⟩
 | (o, T, es) :: r, bs, _, hm => by
   obtain ⟨bs1,e1,h1⟩:=jbD hm b o T es;obtain ⟨bs2,e2,h2⟩:=Kw b r h1;exact ⟨bs2,e1.trans e2 e1.le,h2⟩
def NQ (b o:Nat) (mem:Mem):Mem :=
 match nth mem b with
 | some (some (T,cs))=>if je cs||je (jk cs o .any) then mem else jk mem b (some (T,jk cs o .any))
 | _=>mem
theorem All2.setAny {F w bs} {l:List CV} {vs:List Value} (h:All2 (CV.Rel F w bs) l vs):∀ (o:Nat),All2 (CV.Rel F w bs) (jk l o .any) vs:=by
 induction h with
 | nil=>intro o;exact .nil
 | cons hd h' ih =>
   intro o;cases o with
  | zero=>exact .cons (.any hd.one) h'
  | succ o=>exact .cons hd (ih o)
theorem jbS {F w bs mem} (hm:MemRel P F w bs mem) (b o:Nat):MemRel P F w bs (NQ b o mem):=by
 unfold NQ;split
 ·rename_i T cs hb;split
  ·exact hm
  ·rename_i hr;simp only [Bool.or_eq_true,not_or,Bool.not_eq_true] at hr;exact hm.cellsTo hb hr.1 hr.2 fun x vs _ _ h=>h.setAny o
 ·exact hm
def jM (b:Nat) (mem:Mem):List Nat:=b::jf5 mem b
def U7 {X:Type} (C:Clus X) (b:Nat) (mem:Mem):Option X :=
 if Z2 (jM b mem)&&(jM b mem).all (fun k=>Nat.blt k mem.length) then C.get ((jM b mem).map (W4 (jM b mem) mem)) else none
theorem Yl {X : Type} {C : Clus X} (hC : C.Ok) {b : Nat} {mem : Mem} {x : X} (h : U7 C b mem = some x) {F w bs} (hm : MemRel P F w bs mem) :
  Z2 (jM b mem)=true∧(∀ k ∈ jM b mem,k<mem.length)∧C.get ((jM b mem).map (W4 (jM b mem) mem))=some x∧MemRel P F w (yq (jM b mem) bs) (C.lay x):=by
 unfold U7 at h;split at h
 ·rename_i hc;rw [aTq,List.all_eq_true] at hc;have hlt:∀ k ∈ jM b mem,k<mem.length:=fun k hk=>Nat.blt_eq.mp (hc.2 k hk);exact ⟨hc.1,hlt,h,hC.get _ _ h _ _ _ _ (hm.ren hc.1 hlt)⟩
 ·cases h
def yS:List Nat->Mem->Mem
 | [],m=>m
 | k::r,m=>yS r (jk m k none)
theorem Qc:∀ (l:List Nat) (m:Mem),(yS l m).length=m.length
 | [],_=>rfl
 | k::r,m=>by unfold yS;rw [Qc r,jS]
theorem Wn {F w bs}:∀ (l:List Nat) {mem:Mem},MemRel P F w bs mem->MemRel P F w bs (yS l mem)
 | [],_,h=>h
 | k::r,_,h=>Wn r (h.kill k)
theorem ku:∀ (l:List Nat) {m:Mem} {k:Nat} {T:TypeId} {cs:List CV},nth (yS l m) k=some (some (T,cs))->k ∉ l∧nth m k=some (some (T,cs))
 | [],_,_,_,_,h=>⟨by simp,h⟩
 | j :: r, m, k, T, cs, h => by
   obtain ⟨h1,h2⟩:=ku r (m:=jk m j none) h;rcases jA h2 with ⟨_,e⟩ | ⟨hne,h2⟩
   ·cases e
   ·exact ⟨by simp only [List.mem_cons,not_or];exact ⟨hne,h1⟩,h2⟩
def XS (b:Nat) (mem m':Mem):Mem :=
 let J:=yS (jM b mem) mem++m'.map (shE mem.length)
 match nth J mem.length with
 | some e=>jk (jk J mem.length none) b e
 | none=>J
def clG {X:Type} (C:Clus X) (u:List A1->X->Tree (AV × X)):List A1->Mem->Tree (AV × Mem)
 | .c (.ptr b 0) :: rest, mem => if (zg mem rest).2.all jx then
   let m:=C.prep b (zg mem rest).1
   match U7 C b m with
   | some x=>(u (zg mem rest).2 x).bind fun z=>if aw z.1 then .leaf (z.1,XS b m (C.lay z.2)) else .fail
   | none=>.fail
   else .fail
 | _,_=>.fail
def UM {X:Type} (C:Clus X) (y:Out × Mem):Tree (AV × X) :=
 match y.1 with
 | .ret a=>if aw (ze y.2 a).2 then (match U7 C 0 (ze y.2 a).1 with
  | some x=>.leaf ((ze y.2 a).2,x)
  | none=>.fail) else .fail
 | .pan _=>.fail
def JO {X:Type} (C:Clus X) (P:Program) (H:Hd) (Xp:HdP) (n f:Nat) (rest:List A1) (x:X):Tree (AV × X) :=
 (GP P H Xp n f 1 (.c (.ptr 0 0)::rest) (C.lay x)).bind (UM C)
theorem Ig {pm:List Nat} {bs:List BI} (hl:∀ k ∈ pm,k<bs.length) {y:BI} (hy:y ∈ yq pm bs):y ∈ bs:=by
 simp only [yq,List.mem_map] at hy;obtain ⟨k,hk,rfl⟩:=hy;obtain ⟨x,hb⟩ : ∃ x,nth bs k=some x:=⟨bs[k]'(hl k hk),by rw [jd];exact gEq (hl k hk)⟩
 rw [hb];exact jH hb
theorem Bq {pm:List Nat} {bs:List BI} (hl:∀ k ∈ pm,k<bs.length) {i:Nat} {y:BI} (hy:nth (yq pm bs) i=some y):∃ j,nth pm i=some j∧nth bs j=some y:=by
 have hi:=jo hy;simp only [yq,List.length_map] at hi;obtain ⟨j,hp⟩ : ∃ j,nth pm i=some j:=⟨pm[i],by rw [jd];exact gEq hi⟩
 obtain ⟨x,hb⟩ : ∃ x,nth bs j=some x:=⟨bs[j]'(hl j (jH hp)),by rw [jd];exact gEq (hl j (jH hp))⟩
 refine ⟨_,hp,?_⟩;rw [yo hp hb] at hy;rw [hb];exact hy
theorem Dr {X : Type} {C : Clus X} (hC : C.Ok) {H : Hd} (hH : HdOk P H) {Xp : HdP} (hX : XOk P Xp) (n f : Nat) {u : List A1 -> X -> Tree (AV × X)}
  (hu:∀ rest x z,(u rest x).sel=some z->∃ y,(JO C P H Xp n f rest x).sel=some y∧leA y.1 z.1∧∀ F w bs,MemRel P F w bs (C.lay y.2)->MemRel P F w bs (C.lay z.2)):jr P f (clG C u):=by
 intro args mem r mem' h F w bs vs hm hargs;unfold clG at h;split at h
 rotate_left
 ·simp [Tree.sel] at h
 rename_i b rest;split at h
 rotate_left
 ·simp [Tree.sel] at h
 rename_i hrest;cases hargs with
 | cons hp hvs =>
 rename_i v0 vs;obtain ⟨F1,ef,hmf,hvs⟩:=Jr hm hvs;generalize (zg mem rest).2=rest at h hrest hvs;generalize (zg mem _).1=memf at h hmf;have hp:=A1.Rel.grow ef.grow hp
 suffices key:Calls P f (v0::vs).toArray w (fun e w'=>∃ v F' bs',e=.returned v∧Ext bs.length F1 w bs F' w' bs'∧MemRel P F' w' bs' mem'∧AV.Rel F' w' bs' r v) from
  key.mono fun e w' ⟨v,F',bs',h1,h2,h3,h4⟩=>⟨v,F',bs',h1,ef.trans h2 (lRq _),h3,h4⟩
 clear hm ef;have hm:=hmf;obtain ⟨bs1,e1,hm1⟩:=hC.prep P F1 w bs b memf hm;simp only at h;generalize C.prep b memf=m at h hm1;split at h
 rotate_left
 ·simp [Tree.sel] at h
 rename_i x hx;obtain ⟨z,hz,h2⟩:=jg h;split at h2
 rotate_left
 ·simp [Tree.sel] at h2
 rename_i hcz;simp only [Tree.sel,sIq,pIq] at h2;obtain ⟨rfl,rfl⟩:=h2;obtain ⟨hnd,hlt,hget,hsub⟩:=Yl hC hx hm1;obtain ⟨hfix,hfix0,hfixm⟩:=hsub.fix (hC.ok x) (Kp (hC.ok x));have hltb:∀ k ∈ jM b m,k<bs1.length:=fun k hk=>by rw [hm1.len];exact hlt k hk
 have hpos:∀ x:X,1<=(C.lay x).length:=fun x=>by
  have:=hC.ok x
  cases hl:C.lay x with
  | nil=>rw [hl] at this;simp [KP] at this
  | cons _ _=>simp
 generalize hbsS:yw w.heap.size (yq (jM b m) bs1) (C.lay x)=bsS at hfix hfix0 hfixm
 have away:∀ k y T cs,nth bs1 k=some y->nth m k=some (some (T,cs))->jC y cs->k ∉ jM b m->∀ z ∈ bsS,z.p ≠ y.p:=by
  intro k y T cs hk hc hl hn z hz e;rcases hfixm z hz with ⟨i,T1,cs1,g1,g2,g3⟩ | g
  ·obtain ⟨T2,cs2,k1,k2⟩:=hC.liv _ _ hget i z T1 cs1 g1 g2;obtain ⟨j,j1,j2⟩:=Bq hltb g3;rw [jd,List.getElem?_map] at k1;simp only [Option.map_eq_some_iff] at k1;obtain ⟨j',hj',k1⟩:=k1;rw [← jd,j1] at hj';simp only [sIq] at hj';subst hj';unfold W4 at k1;split at k1
   ·rename_i T3 cs3 hm3;simp only [sIq,pIq] at k1;obtain ⟨rfl,rfl⟩:=k1
    have:=hm1.inj j k z y _ cs3 T cs j2 hk hm3 hc (YV k2) hl e
    subst this;exact hn (jH j1)
   ·cases k1
  ·have:=(hm1.loc k y T cs hk hc hl).2
   omega
 have inbs:∀ z ∈ bsS,z ∈ bs1∨z.p=w.heap.size:=by
  intro z hz;rcases hfixm z hz with ⟨i,T1,cs1,g1,g2,g3⟩ | g
  ·obtain ⟨j,_,j2⟩:=Bq hltb g3;exact .inl (jH j2)
  ·exact .inr g
 cases hp with
 | ptr hx0 =>
 rename_i x0;have hb1:nth bs1 b=some x0:=e1.pre b x0 (jo hx0) hx0;have hS0:nth bsS 0=some x0:=hfix0 x0 (yo (pm:=jM b m) (b':=0) rfl hb1);have hargs1:All2 (A1.Rel F1 w bsS) (.c (.ptr 0 0)::rest) (.pointer (some ⟨x0.p,0,none⟩)::vs):=.cons (CV.Rel.ptr (x:=x0) hS0) (Jc hvs hrest);obtain ⟨y,hy1,hy2,hy3⟩:=hu rest x z hz;unfold JO at hy1;obtain ⟨⟨o,m1⟩,h4,h5⟩:=jg hy1;refine (Ge hH hX n f 1 h4 (hpos x) hfix hargs1).mono fun e w' ⟨F1',bs',hext,hm',hend⟩ => ?_;unfold UM at h5;split at h5
 rotate_left
 ·simp [Tree.sel] at h5
 rename_i a hoa;simp only at hoa;subst hoa;split at h5
 rotate_left
 ·simp [Tree.sel] at h5
 rename_i hca;split at h5
 rotate_left
 ·simp [Tree.sel] at h5
 rename_i x' hx';simp only [Tree.sel,sIq] at h5;subst h5;obtain ⟨v,rfl,hv⟩:=hend;obtain ⟨F2,e2,hm2,r2⟩:=ZB hm' hv;have hS1:1<=bsS.length:=jo hS0;have e3:=hext.trans e2 (hext.le hS1);obtain ⟨hnd2,hlt2,_,hsub2⟩:=Yl hC hx' hm2;have hlt2b:∀ k ∈ jM 0 (ze m1 a).1,k<bs'.length:=fun k hk=>by rw [hm2.len];exact hlt2 k hk
 have hsub3:=hy3 _ _ _ hsub2;have hb0:nth bs' 0=some x0:=e3.pre 0 x0 (by omega) hS0
 have hB0:nth (yq (jM 0 (ze m1 a).1) bs') 0=some x0:=yo (pm:=jM 0 (ze m1 a).1) (b':=0) rfl hb0;have hBm:∀ z ∈ yq (jM 0 (ze m1 a).1) bs',z ∈ bs':=fun z hz=>Ig hlt2b hz;generalize yq (jM 0 (ze m1 a).1) bs'=bs2 at hsub3 hB0 hBm
 have he1:Ext bs1.length F1 w bs1 F2 w' bs1:=by
  refine ⟨e3.size,e3.F1,fun p hF hps hb=>e3.F2 p hF hps fun z hz => ?_,fun p hp hb=>e3.same p hp (hb.imp id fun hb z hz => ?_),e3.os,e3.tape,e3.output,fun _ _ _ h=>h,fun z hz=>.inl ⟨z,hz,rfl⟩⟩
  ·rcases inbs z hz with h | h
   ·exact hb z h
   ·omega
  ·rcases inbs z hz with h | h
   ·exact hb z h
   ·omega
 have hkm:MemRel P F2 w' bs1 (yS (jM b m) m):=(Wn (jM b m) hm1).move he1 fun k y T cs hk hc hl=>by
  obtain ⟨hn,hc⟩:=ku _ hc;obtain ⟨g1,g2⟩:=hm1.loc k y T cs hk hc hl;have ha:=away k y T cs hk hc hl hn;exact ⟨e3.F2 y.p g1 g2 ha,e3.same y.p g2 (.inr ha)⟩
 have hj:=hkm.join hsub3 fun k y T cs hk hc hl z hz e=>by
  obtain ⟨hn,hc⟩:=ku _ hc;obtain ⟨g1,g2⟩:=hm1.loc k y T cs hk hc hl;rcases e3.mem z (hBm z hz) with ⟨z',hz',e'⟩ | hs
  ·exact away k y T cs hk hc hl hn z' hz' (e'.trans e.symm)
  ·omega
 have hL:bs1.length=m.length:=hm1.len;rw [hL] at hj;obtain ⟨T0,cs0,h00⟩:=Kp (hC.ok z.2) 0 (hpos z.2)
 have hr0:je cs0=false:=by
  rcases JK (hC.ok z.2) h00 with ⟨_,h,_⟩ | ⟨h,_⟩
  ·exact h
  ·omega
 have hJL:nth (yS (jM b m) m++(C.lay z.2).map (shE m.length)) m.length=some (some (T0,cs0.map (shC m.length))):=by
  have:=yb (yS (jM b m) m) ((C.lay z.2).map (shE m.length)) 0
  rw [Qc,Nat.add_zero] at this;rw [this,jd,List.getElem?_map,← jd,h00];rfl
 have hbL:b<m.length:=by rw [← hL];exact jo hb1
 have hBL:nth (bs1++bs2) m.length=some x0:=by
  have:=yb bs1 bs2 0
  rw [Nat.add_zero,hL] at this;rw [this];exact hB0
 have hBb:nth (bs1++bs2) b=some x0:=jY hb1
 have hrs:je (cs0.map (shC m.length))=false:=by
  cases hh:je (cs0.map (shC m.length)) with
  | false=>rfl
  | true =>
    exfalso
    unfold je at hh;split at hh
    ·rename_i he;rw [Fl he] at hr0;simp [je] at hr0
    ·rename_i he;obtain ⟨ds,e,_⟩:=jbv he;rw [e] at hr0;simp [je] at hr0
    ·cases hh
 have hfin:MemRel P F2 w' (bs1++bs2) (XS b m (C.lay z.2)):=by
  unfold XS;simp only [hJL];have hk:=hj.kill m.length;obtain ⟨g1,g2⟩:=hj.loc m.length x0 T0 _ hBL hJL (j7 hrs);refine hk.put hBb (fun T cs h => ?_) (fun _=>⟨g1,g2⟩) (fun _ k y T' cs' hk' hc hl e => ?_) (fun _=>hj.cont m.length T0 _ x0 hJL hrs hBL) (fun fz es n ρ h => ?_) (fun f i st cs' h => ?_)
  ·rcases jA h with ⟨_,h⟩ | ⟨_,h⟩
   ·cases h
   ·rcases UU h with ⟨_,h⟩ | ⟨h1,_⟩
    ·exact (ku _ h).1 (by simp [jM])
    ·rw [Qc] at h1;omega
  ·rcases jA hc with ⟨_,h⟩ | ⟨hne,hc⟩
   ·cases h
   ·exact hne (hj.inj k m.length y x0 T' cs' T0 _ hk' hBL hc hJL hl (j7 hrs) e)
  ·rw [h] at hrs;simp [je] at hrs
  ·rw [h] at hrs;simp [je] at hrs
 have eF:Ext bs1.length F1 w bs1 F2 w' (bs1++bs2):=by
  refine ⟨he1.size,he1.F1,he1.F2,he1.same,he1.os,he1.tape,he1.output,fun k y hk hy=>jY hy,fun y hy => ?_⟩;rcases List.mem_append.1 hy with h | h
  ·exact .inl ⟨y,h,rfl⟩
  ·rcases e3.mem y (hBm y h) with ⟨z',hz',e'⟩ | hs
   ·rcases inbs z' hz' with h | h
    ·exact .inl ⟨z',h,e'⟩
    ·exact .inr (by omega)
   ·exact .inr hs
 refine ⟨v,F2,_,rfl,e1.trans eF e1.le,hfin,?_⟩;have hv0:AV.Rel F2 w' [] z.1 v:=hy2 _ _ _ (r2.closed hca);exact hv0.closed hcz
end Go.Sx