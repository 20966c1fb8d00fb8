/-
 Part PaZF of the proof: RpF RqN RqO RqP.
-/
import Derived.Test.YtiefjlcakpdfeaaGreatPaZE
import Derived.Test.YtiefjlcakpdfeaaGreatPaX
namespace Go.Proofs.YtiefjlcakpdfeaaGreat
open Go Go.Sx Go.RowKit Rb
set_option maxRecDepth 100000
theorem FA {f : Nat} {R : RBl} {n : Nat} {ρ ρ' : Val} (hn : n <= 10000)
  (h:∀ i,i<n->YF (jg ρ i)=true∧YF (jg ρ' i)=true∧Qp (jg ρ i)=Qp (jg ρ' i)∧(jg ρ i).kind=(jg ρ' i).kind∧(jg ρ i).cond=(jg ρ' i).cond∧opD (yb f (jg ρ i).cond 1)=true ∧
   R (jg ρ i).bn (jg ρ i).bρ=R (jg ρ' i).bn (jg ρ' i).bρ∧R (jg ρ i).en (jg ρ i).eρ=R (jg ρ' i).en (jg ρ' i).eρ∧opD (R (jg ρ i).bn (jg ρ i).bρ)=true∧opD (R (jg ρ i).en (jg ρ i).eρ)=true) :
  ∀ g (k:Nat),k<=n->n+1<=g+k->Jy f R n ρ (ja n) g (k:Int)=Jy f R n ρ' (ja n) g (k:Int)∧opD (Jy f R n ρ (ja n) g (k:Int))=true
 | 0,k,h1,h2=>by omega
 | g + 1, k, h1, h2 => by
   unfold Jy;rcases Nat.lt_or_ge k n with hk | hk
   ·have e1:lt (k:Int) (ja n)=true:=by unfold lt ja;simp;exact hk
    obtain ⟨g1,g2,g3,g4,g5,g6,g7,g8,g9,g10⟩:=h k hk;rw [e1,inR hk,Int.toNat_natCast,zF (by omega),g1,g2,← g3,← g4,← g5,← g7,← g8]
    simp only [cond_true];cases !Qp (jg ρ k) with
    | true=>exact ⟨rfl,rfl⟩
    | false =>
      simp only [cond_false]
      have hx:∃ x,(bif yZ (jg ρ k).kind then yb f (jg ρ k).cond 1 else some 0)=some x:=by
       cases yZ (jg ρ k).kind with
       | false=>exact ⟨0,rfl⟩
       | true =>
         cases he:yb f (jg ρ k).cond 1 with
        | none=>rw [he] at g6;cases g6
        | some x=>exact ⟨x,rfl⟩
      obtain ⟨x,hx⟩:=hx;rw [hx];simp only;cases x != 0 with
     | true=>exact ⟨rfl,rfl⟩
     | false =>
       simp only [cond_false];cases hb:R (jg ρ k).bn (jg ρ k).bρ with
      | none=>rw [hb] at g9;cases g9
      | some y =>
        simp only;cases y != 0 with
       | true=>exact ⟨rfl,rfl⟩
       | false =>
         simp only [cond_false];cases he:R (jg ρ k).en (jg ρ k).eρ with
        | none=>rw [he] at g10;cases g10
        | some z =>
          simp only;cases z != 0 with
         | true=>exact ⟨rfl,rfl⟩
         | false=>exact FA hn h g (k+1) (by omega) (by omega)
   ·have e1:lt (k:Int) (ja n)=false:=by unfold lt ja;simp;omega
    rw [e1];exact ⟨rfl,rfl⟩
theorem jjp {s s':RS} (h1:s.kind=s'.kind) (h2:s.wn=s'.wn) (h3:s.wρ=s'.wρ) (h4:s.cond=s'.cond) (h5:s.bn=s'.bn) (h6:s.en=s'.en):Qp s=Qp s':=by
 unfold Qp;rw [h1,h2,h3,h4,h5,h6]
theorem NZ {f:Nat} (hf:40<=f):∀ (d k:Nat) (l l':List AstS) (ρ ρ':Val),k<d->All2 SR l l'->l.length<=10000->(∀ t ∈ l,DS k t)->k<=10000->LieL l ρ->LieL l' ρ'->QO f d l.length ρ=QO f d l'.length ρ'∧opD (QO f d l.length ρ)=true
 | 0,k,_,_,_,_,h,_,_,_,_,_,_=>by omega
 | d + 1, k, l, l', ρ, ρ', hk, hr, hl, hd, hk1, h1, h2 => by
   have hll:l'.length=l.length:=hr.length.symm;rw [hll];show Jy f (QO f d) l.length ρ (ja l.length) (l.length+1) 0=Jy f (QO f d) l.length ρ' (ja l.length) (l.length+1) 0∧opD (Jy f (QO f d) l.length ρ (ja l.length) (l.length+1) 0)=true;refine FA hl (fun i hi => ?_) (l.length+1) 0 (by omega) (by omega)
   obtain ⟨t,t',e1,e2,hs⟩:=ao hr hi;have hdt:=hd t (kG e1);cases hs with
  | mk hb hx =>
   cases hdt with
  | mk hw hu hb1 hb2 hx1 hx2 =>
   obtain ⟨a1,a2,a3,a4,a5,a6,a7,a8,a9⟩:=JJ h1 e1;obtain ⟨b1,b2,b3,b4,b5,b6,b7,b8,b9⟩:=JJ h2 e2;have hlb:=hb.length;have hlx:=hx.length;obtain ⟨g1,g2⟩:=NZ hf d _ _ _ (jg ρ i).bρ (jg ρ' i).bρ (by omega) hb (by omega) hb2 (by omega) a6 b6
   obtain ⟨g3,g4⟩:=NZ hf d _ _ _ (jg ρ i).eρ (jg ρ' i).eρ (by omega) hx (by omega) hx2 (by omega) a8 b8
   refine ⟨?_,?_,?_,a1.trans b1.symm,a4.trans b4.symm,V3 f _ 1 (by omega) (by omega),?_,?_,?_,?_⟩
   ·refine Uy (by rw [a2];omega) fun j hj => ?_
    rw [a2] at hj;rw [a3];exact Xm hu j hj
   ·refine Uy (by rw [b2];omega) fun j hj => ?_
    rw [b2] at hj;rw [b3];exact Xm hu j hj
   ·exact jjp (a1.trans b1.symm) (a2.trans b2.symm) (a3.trans b3.symm) (a4.trans b4.symm) (by rw [a5,b5,hlb]) (by rw [a7,b7,hlx])
   ·rw [a5,b5];exact g1
   ·rw [a7,b7];exact g3
   ·rw [a5];exact g2
   ·rw [a7];exact g4
theorem HM {f d k : Nat} (hf : 40 <= f) (hk : k < d) (hk1 : k <= 10000) {name : ByteArray} (hn : name.size <= 10000) {l l' : List AstS} (hr : All2 SR l l') (hl : l.length <= 10000) (hd : ∀ t ∈ l, DS k t) :
  jX f d name l.length (jR (AstS.dens l))=jX f d name l'.length (jR (AstS.dens l'))∧opD (jX f d name l.length (jR (AstS.dens l)))=true:=by
 unfold jX;obtain ⟨g1,g2⟩:=Nu d k l l' _ _ hk hr hl hd hk1 (fun _=>rfl) (fun _=>rfl);obtain ⟨g3,g4⟩:=NZ hf d k l l' _ _ hk hr hl hd hk1 (fun _=>rfl) (fun _=>rfl);rw [Ym hn,← g1,← g3];simp only [cond_true];cases !qk name with
 | true=>exact ⟨trivial,rfl⟩
 | false =>
   simp only [cond_false];cases hc:cntF d l.length (jR (AstS.dens l)) with
  | none=>rw [hc] at g2;cases g2
  | some y =>
    obtain ⟨a,b⟩:=y;simp only;cases lt 4096 a with
   | true=>exact ⟨trivial,rfl⟩
   | false =>
     simp only [cond_false];cases lt 16 b with
    | true=>exact ⟨trivial,rfl⟩
    | false=>exact ⟨trivial,g4⟩
theorem SR.refl:∀ t:AstS,SR t t:=by
 suffices h:∀ n (t:AstS),SizeOf.sizeOf t<=n->SR t t from fun t=>h (SizeOf.sizeOf t) t (lRq _)
 intro n
 induction n with
 | zero=>intro t ht;cases t;simp at ht
 | succ n ih =>
   intro t ht;cases t with
  | mk kd w e b x p =>
    have hL:∀ l:List AstS,SizeOf.sizeOf l<=n->All2 SR l l:=by
     intro l
     induction l with
     | nil=>exact fun _=>.nil
     | cons a r ihr =>
       intro hl;simp at hl;exact .cons (ih a (by omega)) (ihr (by omega))
    simp at ht;exact .mk (hL b (by omega)) (hL x (by omega))
theorem SR.reflL:∀ l:List AstS,All2 SR l l
 | []=>.nil
 | a::r=>.cons (SR.refl a) (SR.reflL r)
theorem jco (w : ByteArray) : (kK w = 0 ∧ zO w = -1) ∨ (kK w = 1 ∧ zO w = 0 ∧ yr w = false ∧ jb w qW = true) ∨ (kK w = 2 ∧ zO w = 0 ∧ yr w = true ∧ jb w qW = false)
  ∨ (kK w=3∧zO w=0∧yr w=false∧jb w qW=false)∨(kK w=4∧zO w=1∧yr w=false∧jb w qW=false)∨(kK w=5∧zO w=2∧yr w=false∧jb w qW=false):=by
 cases h:Zm (eqs w [qW,qT,yA,zA,qq,yh,zD,qB,yy,wOr,yw,wEq,wLt,wGt,yD,zc]) with
 | true =>
   have:=GA h
   simp only [List.mem_cons,List.not_mem_nil,or_false] at this;rcases this with rfl | rfl | rfl | rfl | rfl | rfl | rfl | rfl | rfl | rfl | rfl | rfl | rfl | rfl | rfl | rfl
   ·exact .inr (.inl ⟨rfl,rfl,rfl,rfl⟩)
   ·exact .inr (.inr (.inr (.inl ⟨rfl,rfl,rfl,rfl⟩)))
   ·exact .inr (.inr (.inr (.inl ⟨rfl,rfl,rfl,rfl⟩)))
   ·exact .inr (.inr (.inl ⟨rfl,rfl,rfl,rfl⟩))
   ·exact .inr (.inr (.inl ⟨rfl,rfl,rfl,rfl⟩))
   ·exact .inr (.inr (.inl ⟨rfl,rfl,rfl,rfl⟩))
   ·exact .inr (.inr (.inl ⟨rfl,rfl,rfl,rfl⟩))
   ·exact .inr (.inr (.inl ⟨rfl,rfl,rfl,rfl⟩))
   ·exact .inr (.inr (.inr (.inr (.inl ⟨rfl,rfl,rfl,rfl⟩))))
   ·exact .inr (.inr (.inr (.inr (.inr ⟨rfl,rfl,rfl,rfl⟩))))
   ·exact .inr (.inr (.inr (.inr (.inr ⟨rfl,rfl,rfl,rfl⟩))))
   ·exact .inr (.inr (.inr (.inr (.inr ⟨rfl,rfl,rfl,rfl⟩))))
   ·exact .inr (.inr (.inr (.inr (.inr ⟨rfl,rfl,rfl,rfl⟩))))
   ·exact .inr (.inr (.inr (.inr (.inr ⟨rfl,rfl,rfl,rfl⟩))))
   ·exact .inr (.inr (.inr (.inr (.inr ⟨rfl,rfl,rfl,rfl⟩))))
   ·exact .inr (.inr (.inr (.inr (.inr ⟨rfl,rfl,rfl,rfl⟩))))
 | false =>
   have h:(jb w qW||(jb w qT||(jb w yA||(jb w zA||(jb w qq||(jb w yh||(jb w zD||(jb w qB||(jb w yy||(jb w wOr||(jb w yw||(jb w wEq||(jb w wLt||(jb w wGt||(jb w yD||jb w zc)))))))))))))))=false:=h;simp only [Bool.or_eq_false_iff] at h;obtain ⟨h1,h2,h3,h4,h5,h6,h7,h8,h9,h10,h11,h12,h13,h14,h15,h16⟩:=h;refine .inl ⟨?_,?_⟩
   ·unfold kK;rw [h1,h2,h3,h4,h5,h6,h7,h8,h9,h10,h11,h12,h13,h14,h15,h16];rfl
   ·unfold zO;rw [h1,h2,h3,h4,h5,h6,h7,h8,h9,h10,h11,h12,h13,h14,h15,h16];rfl
noncomputable abbrev L3 (R:RE):Hd:=⟨[(171,oG Fq)],[(170,nG DI),(141,nG (kA R))],[],[]⟩
theorem joH {R:RE} (hR:jj Tryz.prog 141 (nG (kA R))):HdOk Tryz.prog (L3 R):=((HdOk.nil.ucCons hR).ucCons jfW).pcCons jgV
abbrev XN:=RX × Int × Int × Int × Int
def jgY (c:XN):St:=mkS 82 [(1,.one (.c (.int .i64 c.2.1))),(2,.one (.c (.ptr 0 0))),(4,.one (.c (.int .i64 c.2.2.1))),(5,.one (.c (.int .i64 c.2.2.2.1))),(6,.one (.c (.int .i64 c.2.2.2.2)))] [some (50,c.1.cells)]
def D7:List (Nat × AV)->Mem->Option XN
 | [(1,.one (.c (.int .i64 d))),(2,.one (.c (.ptr 0 0))),(4,.one (.c (.int .i64 r))),(5,.one (.c (.int .i64 n))),(6,.one (.c (.int .i64 i)))],[some (50,c)]=>match GK c with
  | some e=>some (e,d,r,n,i)
  | none=>none
 | _,_=>none
theorem jc8:∀ l m c,D7 l m=some c->StWk (mkS 82 l m) (jgY c):=by
 intro l m c h;unfold D7 at h;split at h
 ·split at h
  ·rename_i e he;cases h;rw [Yu he];exact StWk.refl
  ·cases h
 ·cases h
def jew (v:Int):St:=mkS 82 [(4,.one (.c (.int .i64 v)))] [some (50,Zu)]
def Ng:List (Nat × AV)->Mem->Option Int
 | [(4,.one (.c (.int .i64 v)))],[some (50,c)]=>if flat3 c then some v else none
 | _,_=>none
theorem jcF:∀ l m c,Ng l m=some c->StWk (mkS 82 l m) (jew c):=by
 intro l m c h;unfold Ng at h;split at h
 ·split at h
  ·rename_i h1;cases h;obtain ⟨a1,a2,a3⟩:=JO h1;exact yk (.cons leAB.refl .nil) (yC (b:=0) rfl a2 a1 a3 rfl rfl)
  ·cases h
 ·cases h
def A141:Sx.Frame XN Int:=⟨1,82,[1,2,4,5,6],D7,jgY,[4],Ng,jew⟩
theorem jmv:A141.Ok:=⟨jc8,jcF⟩
def jnD (R:RE) (g:XN->Tree (XP × Int)) (c:XN):Tree (XP × Int) :=
 let x:=R (yd c.1.ρ c.2.2.2.2.toNat) (IntKind.wrap .i64 (c.2.1+1))
 .br (lt c.2.2.2.2 c.2.2.2.1) (.need (jc c.2.2.2.2 c.1.n) (.need (opD x) (.br (opN x != 0) (.leaf (.ret,opN x)) (g (c.1,c.2.1,c.2.2.1,c.2.2.2.1,IntKind.wrap .i64 (c.2.2.2.2+1)))))) (.leaf (.exit 0,c.2.2.1))
theorem jlk (R:RE) (g:XN->Tree (XP × Int)) (o:ByteArray) (v:Int) (m:Nat) (ρ:Val) (d r n i:Int):ju A141 Tryz.prog (L3 R) X0 10 141 0 g (⟨o,v,m,ρ⟩,d,r,n,i)=jnD R g (⟨o,v,m,ρ⟩,d,r,n,i):=by kernel_rfl
def LR (R:RE) (k:Nat) (c:XN):Tree (XP × Int) :=
 let x:=Qi R c.1.n c.1.ρ c.2.2.2.1 c.2.1 k c.2.2.2.2
 .need (opD x) (.br (opN x != 0) (.leaf (.ret,opN x)) (.leaf (.exit 0,c.2.2.1)))
theorem RO (R : RE) (k : Nat) (c : XN) : (LR R k c).sel = match Qi R c.1.n c.1.ρ c.2.2.2.1 c.2.1 k c.2.2.2.2 with
  | some x=>some (bif x != 0 then (.ret,x) else (.exit 0,c.2.2.1))
  | none=>none:=by
 unfold LR;cases Qi R c.1.n c.1.ρ c.2.2.2.1 c.2.1 k c.2.2.2.2 with
 | none=>rfl
 | some x =>
   show (bif true then (bif x != 0 then some _ else some _) else none)=_;simp only;cases (x != 0)<;>rfl
theorem jkw (R:RE) (k:Nat) (c:XN) (x:XP × Int) (h:(LR R (k+1) c).sel=some x):(ju A141 Tryz.prog (L3 R) X0 10 141 0 (LR R k) c).sel=some x:=by
 obtain ⟨⟨o,v,m,ρ⟩,d,r,n,i⟩:=c;rw [jlk];rw [RO] at h;unfold Qi at h;unfold jnD;simp only [jK,jt,jE,RO];revert h;cases lt i n with
 | false=>exact fun h=>h
 | true =>
   cases jc i m with
  | false=>exact fun h=>h
  | true =>
    simp only;cases R (yd ρ i.toNat) (IntKind.wrap .i64 (d+1)) with
   | none=>exact fun h=>h
   | some y =>
     simp only [cond_true,opD,opN];cases hy:(y != 0) with
    | true=>simp only [cond_true,hy];exact fun h=>h
    | false=>simp only [cond_false];exact fun h=>h
theorem jkc {R:RE} (hR:jj Tryz.prog 141 (nG (kA R))):∀ k,CoreOk Tryz.prog 141 0 1 jgY jew (LR R k) :=
 CoreOk.fuel (A:=A141) jmv (joH hR) x0 10 (fun _=>rfl) (jkw R)
def jic (R:RE) (c:XN):Tree (XP × Int):=LR R (c.1.n+1) c
def jaR (R:RE):HdP:=⟨[],[],[],[((141,0),j4 A141 (jic R))],[],0,[]⟩
theorem jrN {R:RE} (hR:jj Tryz.prog 141 (nG (kA R))):XOk Tryz.prog (jaR R):=XOk.nil.lxCons (CoreOk.lx (g:=jic R) jmv fun fn c b h1 h2 h3 c0 x hx=>jkc hR _ fn c b h1 h2 h3 c0 x hx)
def It (o:ByteArray) (v:Int):Bool :=
 bif (bif (bif jb o qW then (bif lt v 0 then true else lt 1073741824 v) else false) then true else (bif yr o then (bif lt v 0 then true else lt 9 v) else false)) then true
  else (bif (bif !jb o qW then !yr o else false) then v != 0 else false)
def jht (R:RE) (e:RX) (d:Int):Tree AV :=
 let L:=fun x:Int=>Tree.leaf (AV.one (.c (.int .i64 x)))
 let x:=Qi R e.n e.ρ (zO e.op) d (e.n+1) 0
 .need true (.br (bif lt (zO e.op) 0 then true else ja e.n != zO e.op) (L 3) (.br (It e.op e.v) (L 3) (.br (lt 32 d) (L 28) (.need (opD x) (.br (opN x != 0) (L (opN x)) (L 0))))))
theorem jjH (R:RE) (o:ByteArray) (v:Int) (n:Nat) (ρ:Val) (d:Int):jI Tryz.prog (L3 R) (jaR R) 10 141 [.agg [.str o,.int .i64 v,.sl (aw 0) n ρ],.c (.int .i64 d)]=jht R ⟨o,v,n,ρ⟩ d:=by kernel_rfl
theorem jnQ (v:Int):(bif lt v 0 then true else lt 0 v)=(v != 0):=by
 unfold lt;cases h:(v != 0) with
 | true =>
   have:v ≠ 0:=bne_iff_ne.1 h
   cases h1:decide (v<0) with
  | true=>rfl
  | false=>have:=of_decide_eq_false h1;simp;omega
 | false =>
   have:v=0:=by simpa using h
   subst this;rfl
theorem jkr {x k:Int} {A B:Bool} (h:(bif bif x != k then true else A then true else B)=false):k=x:=by
 cases hh:(x != k) with
 | false =>
   have:x=k:=by simpa using hh
   exact this.symm
 | true=>rw [hh] at h;cases h
theorem jgD (e:RX):(bif (bif lt (zO e.op) 0 then true else ja e.n != zO e.op) then true else It e.op e.v)=WV e∧(WV e=false->zO e.op=ja e.n):=by
 unfold WV It;rcases jco e.op with ⟨h1,h2⟩ | ⟨h1,h2,h3,h4⟩ | ⟨h1,h2,h3,h4⟩ | ⟨h1,h2,h3,h4⟩ | ⟨h1,h2,h3,h4⟩ | ⟨h1,h2,h3,h4⟩
 ·rw [h1,h2];exact ⟨rfl,fun h=>by cases h⟩
 all_goals
  rw [h1,h2,h3,h4];have hn:=jnQ e.v;simp only [W5,Lf,show lt 0 0=false from rfl,show lt 1 0=false from rfl,show lt 2 0=false from rfl,Bool.not_false,Bool.not_true,cond_true,cond_false,show Nat.beq 1 0=false from rfl,show Nat.beq 2 0=false from rfl,show Nat.beq 3 0=false from rfl,show Nat.beq 4 0=false from rfl,show Nat.beq 5 0=false from rfl];refine ⟨?_,fun h => ?_⟩
  ·first
    | (rw [← hn]
       cases (ja e.n != 0)<;>cases lt e.v 0<;>cases lt 0 e.v<;>rfl)
    | (rw [← hn]
       cases (ja e.n != 1)<;>cases lt e.v 0<;>cases lt 0 e.v<;>rfl)
    | (rw [← hn]
       cases (ja e.n != 2)<;>cases lt e.v 0<;>cases lt 0 e.v<;>rfl)
    | (cases (ja e.n != 0)<;>cases lt e.v 0<;>cases lt 1073741824 e.v<;>rfl)
    | (cases (ja e.n != 0)<;>cases lt e.v 0<;>cases lt 9 e.v<;>rfl)
  ·exact jkr h
theorem jfg (R:RE) (e:RX) (d:Int) (h:opD (ZS R e d)=true):(jht R e d).sel=some (.one (.c (.int .i64 (opN (ZS R e d))))):=by
 obtain ⟨e1,e2⟩:=jgD e;unfold jht;unfold ZS at h ⊢;simp only [jK,jt,jE,cond_true];cases hb:WV e with
 | true =>
   rw [hb] at e1;revert e1;cases (bif lt (zO e.op) 0 then true else ja e.n != zO e.op) with
  | true=>exact fun _=>rfl
  | false =>
    intro e1;have e1:It e.op e.v=true:=e1;rw [e1];rfl
 | false =>
   rw [hb] at e1 h;rw [e2 hb] at e1 ⊢;revert e1;cases (bif lt (ja e.n) 0 then true else ja e.n != ja e.n) with
  | true=>exact fun h=>by cases h
  | false =>
    intro e1;have e1:It e.op e.v=false:=e1;rw [e1];revert h;cases lt 32 d with
   | true=>exact fun _=>rfl
   | false =>
     simp only [cond_false];cases Qi R e.n e.ρ (ja e.n) d (e.n+1) 0 with
    | none=>exact fun h=>by cases h
    | some x =>
      intro _;simp only [opD,opN,cond_true];cases hx:(x != 0) with
     | true=>rfl
     | false =>
       have:x=0:=by simpa using hx
       subst this;rfl
theorem jri {R:RE} {args:List A1} {r:AV} (h:kA (ZS R) args=some (true,r)):(jI Tryz.prog (L3 R) (jaR R) 10 141 args).All (fun x=>leA x r):=by
 obtain ⟨o,v,n,ρ,d,e1,h1,e2⟩:=KN h;rw [e1,e2,jjH];exact jk (jfg R ⟨o,v,n,ρ⟩ d h1) leA.refl
theorem jpB {R:RE} (hR:jj Tryz.prog 141 (nG (kA R))):jj Tryz.prog 141 (nG (kA (ZS R))):=by
 refine jz (H:=L3 R) (X:=jaR R) (joH hR) (jrN hR) 10 141 ?_;intro args r h;exact jri h
theorem joa:∀ f,jj Tryz.prog 141 (nG (kA (yb f)))
 | 0 => by
   intro args r h;obtain ⟨o,v,n,ρ,d,_,h1,_⟩:=KN (zn h);cases h1
 | f+1=>jpB (joa f)
def jfZ (e:RX):Bool:=bif bif jb e.op (bs []) then e.v==0 else false then ja e.n==0 else false
theorem jiN (e:RX):jfZ e=yR e:=by
 unfold jfZ yR
 have:(ja e.n==0)=Nat.beq e.n 0:=by
  unfold ja;cases e.n with
  | zero=>rfl
  | succ n=>exact beq_eq_false_iff_ne.2 (by intro h;have:((n+1:Nat):Int)=0:=h;omega)
 rw [this]
def DL:List A1->Option (Bool × AV)
 | [.agg [.str o,.int .i64 v,.sl es n ρ]]=>if shEq.shsEq es (aw 0) then some (true,.one (.c (.bool (yR ⟨o,v,n,ρ⟩)))) else none
 | _=>none
theorem jkZ (o:ByteArray) (v:Int) (n:Nat) (ρ:Val):jT Tryz.prog h00 10 140 [.agg [.str o,.int .i64 v,.sl (aw 0) n ρ]]=.leaf (.one (.c (.bool (jfZ ⟨o,v,n,ρ⟩)))):=by kernel_rfl
theorem jd2 {args:List A1} {r:AV} (h:DL args=some (true,r)):∃ o v n ρ,args=[.agg [.str o,.int .i64 v,.sl (aw 0) n ρ]]∧r=.one (.c (.bool (yR ⟨o,v,n,ρ⟩))):=by
 unfold DL at h;split at h
 ·split at h
  ·rename_i o v es n ρ hs;simp only [sIq,pIq,true_and] at h;exact ⟨o,v,n,ρ,by rw [jm hs],h.symm⟩
  ·cases h
 ·cases h
theorem jrl {args:List A1} {r:AV} (h:DL args=some (true,r)):(jT Tryz.prog h00 10 140 args).All (fun x=>leA x r):=by
 obtain ⟨o,v,n,ρ,e1,e2⟩:=jd2 h;rw [e1,e2,jkZ,jiN];exact leA.refl
theorem jrB:jj Tryz.prog 140 (nG DL):=by
 refine qO (H:=h00) HdOk.nil 10 140 ?_;intro args r h;exact jrl h
noncomputable abbrev jbn:Hd:=⟨[],[(166,nG TQ),(167,nG TH)],[],[]⟩
theorem jrh:HdOk Tryz.prog jbn:=(HdOk.nil.ucCons jhu).ucCons jf7
abbrev X04:HdP:=⟨[],[],[],[],[],4,[]⟩
def Rx (n:Nat) (ρ:Val) (f:ByteArray):Nat->Nat->Tree AV
 | 0,_=>.fail
 | k + 1, j => .br (lt (j : Int) (ja f.size)) (.need (jc (j : Int) f.size) (.need (jc ((j + 1 : Nat) : Int) n) (.need (nmD (jq (wAt ρ (j + 1)))) (.br (!Kn (jr f j) (wAt ρ (j + 1))) (.leaf (YL false)) (Rx n ρ f k (j + 1))))))
   (.leaf (YL true))
def jg2 (n:Nat) (ρ:Val):Tree AV :=
 let f:=WO (jZ (wAt ρ 0))
 .br (ja n==0) (.leaf (YL false)) (.need (jc 0 n) (.need true (.br (bif !XH ρ then true else ja n != IntKind.wrap .i64 (ja f.size+1)) (.leaf (YL false)) (Rx n ρ f 4 0))))
theorem jkm (n:Nat) (ρ:Val):jI Tryz.prog jbn X04 10 139 [.c (.sl [.str] n ρ)]=jg2 n ρ:=by kernel_rfl
theorem jfS (ρ:Val) (j:Nat):wAt (ρ.from 1) j=wAt ρ (j+1):=by
 rw [Nat.add_comm];rfl
theorem Oa {n : Nat} {ρ : Val} {f : ByteArray} {ks : List Int} (hf : f.size = ks.length) (h3 : ks.length <= 3) (hk : ∀ j k, nth ks j = some k -> jr f j = kB k) (hn : n = ks.length + 1) {b : Bool} :
  ∀ (k2 k j:Nat),j<=ks.length->ks.length<k+j->eqL ks.length (Zk ks) ks.length (ρ.from 1) (ja ks.length) k2 (j:Int)=some b->(Rx n ρ f k j).sel=some (YL b)
 | 0,k,j,_,_,h=>by cases h
 | k2+1,0,j,hj,hlt,h=>by omega
 | k2 + 1, k + 1, j, hj, hlt, h => by
   unfold eqL at h;unfold Rx;rw [hf];simp only [jK,jt,jE];rcases Nat.lt_or_ge j ks.length with hjl | hjl
   ·have c1:lt (j:Int) (ja ks.length)=true:=by unfold lt ja;simp;omega
    have c2:jc (j:Int) ks.length=true:=by unfold jc le lt ja;simp;omega
    have c3:jc ((j+1:Nat):Int) n=true:=by unfold jc le lt ja;simp;omega
    obtain ⟨c,hc⟩:=qF ks j hjl;have c4:nAt (Zk ks) j=c:=FH ks j c hc;rw [c1,c2,Int.toNat_natCast,jfS,c4] at h;rw [c1,c2,c3,hk j c hc,GZ];simp only [cond_true] at h ⊢;revert h;cases nmD (jq (wAt ρ (j+1))) with
    | false=>exact fun h=>by cases h
    | true =>
      simp only [cond_true];cases qp c (wAt ρ (j+1)) with
     | false =>
       intro h;simp only [Bool.not_false,cond_true,sIq] at h ⊢;rw [← h]
     | true =>
       simp only [Bool.not_true,cond_false];intro h;rw [zF (by omega)] at h
       exact Oa hf h3 hk hn k2 k (j+1) (by omega) (by omega) h
   ·have c1:lt (j:Int) (ja ks.length)=false:=by unfold lt ja;simp;omega
    rw [c1] at h ⊢;simp only [cond_false,sIq] at h ⊢;rw [← h]
theorem jeS {n:Nat} {ρ:Val} {b:Bool} (h:yq n ρ=some b):(jg2 n ρ).sel=some (YL b):=by
 unfold yq at h;unfold jg2;simp only [jK,jt,jE];revert h;cases hz:(ja n==0) with
 | true=>intro h;simp only [cond_true,sIq] at h ⊢;rw [← h]
 | false =>
   have hn:0<n:=by
    rcases Nat.eq_zero_or_pos n with rfl | h
    ·cases hz
    ·exact h
   have h1:jc 0 n=true:=by unfold jc le lt ja;simp;omega
   rw [h1];simp only [cond_true,cond_false];cases XH ρ with
  | false=>intro h;simp only [cond_false,Bool.not_false,cond_true,sIq] at h ⊢;rw [← h]
  | true =>
    simp only [Bool.not_true,cond_true,cond_false];obtain ⟨f1,f2,f3⟩:=HK (jZ (wAt ρ 0));intro h;unfold NX eqS at h
    have e1:(ja n != IntKind.wrap .i64 (ja (WO (jZ (wAt ρ 0))).size+1))=(ja (j8 (jZ (wAt ρ 0))).length != ja (n - 1)):=by
     rw [f1];show (((n:Nat):Int) != IntKind.wrap .i64 (((j8 (jZ (wAt ρ 0))).length:Nat)+1))=((((j8 (jZ (wAt ρ 0))).length:Nat):Int) != ((n - 1:Nat):Int));rw [zF (by omega)]
     cases hh:((((j8 (jZ (wAt ρ 0))).length:Nat):Int) != ((n - 1:Nat):Int)) with
     | true =>
       have:=bne_iff_ne.1 hh
       exact bne_iff_ne.2 (by omega)
     | false =>
       have:(((j8 (jZ (wAt ρ 0))).length:Nat):Int)=((n - 1:Nat):Int):=by simpa using hh
       have e:((n:Nat):Int)=(((j8 (jZ (wAt ρ 0))).length+1:Nat):Int):=by omega
       rw [e]
       simp
    rw [e1];revert h;cases hh:(ja (j8 (jZ (wAt ρ 0))).length != ja (n - 1)) with
   | true=>intro h;simp only [cond_true,sIq] at h ⊢;rw [← h]
   | false =>
     have hl:(j8 (jZ (wAt ρ 0))).length=n - 1:=by
      have:(((j8 (jZ (wAt ρ 0))).length:Nat):Int)=((n - 1:Nat):Int):=by simpa [ja] using hh
      omega
     simp only [cond_false];intro h;rw [← hl] at h;exact Oa f1 f2 f3 (by omega) _ 4 0 (Nat.zero_le _) (by omega) h
theorem jrA {args:List A1} {r:AV} (h:UP args=some (true,r)):(jI Tryz.prog jbn X04 10 139 args).All (fun x=>leA x r):=by
 unfold UP at h;split at h
 ·rename_i n ρ;rw [jkm];simp only [sIq,pIq] at h;obtain ⟨h1,h2⟩:=h;rw [← h2];cases hs:yq n ρ with
  | none=>rw [hs] at h1;cases h1
  | some b=>exact jk (jeS hs) leA.refl
 ·cases h
theorem jqT:jj Tryz.prog 139 (nG UP):=by
 refine jz (H:=jbn) (X:=X04) jrh XOk.nil 10 139 ?_;intro args r h;exact jrA h
abbrev RCq:=Nat->Val->Int->Option (Int × Int)
def jgP (x:Option (Int × Int)):AV:=.tup [.c (.int .i64 (cA x)),.c (.int .i64 (cB x))]
def G96 (R:RCq):List A1->Option (Bool × AV)
 | [.c (.sl es n ρ),.c (.int .i64 d)]=>if shEq.shsEq es (aw 1) then some (cD (R n ρ d),jgP (R n ρ d)) else none
 | _=>none
theorem R8 {R:RCq} {args:List A1} {r:AV} (h:G96 R args=some (true,r)):∃ n ρ d,args=[.c (.sl (aw 1) n ρ),.c (.int .i64 d)]∧cD (R n ρ d)=true∧r=jgP (R n ρ d):=by
 unfold G96 at h;split at h
 ·split at h
  ·rename_i es n ρ d hs;simp only [sIq,pIq] at h;exact ⟨n,ρ,d,by rw [jm hs],h.1,h.2.symm⟩
  ·cases h
 ·cases h
abbrev C96:=(Nat × Val) × Int × Int × Int × Int
def S96 (c:C96):St:=mkS 76 [(0,.one (.c (.sl (aw 1) c.1.1 c.1.2))),(1,.one (.c (.int .i64 c.2.1))),(6,.one (.c (.int .i64 c.2.2.1))),(7,.one (.c (.int .i64 c.2.2.2.1))),(8,.one (.c (.int .i64 c.2.2.2.2)))] []
def jaW:List (Nat × AV)->Mem->Option C96
 | [(0,.one (.c (.sl es n ρ))),(1,.one (.c (.int .i64 d))),(6,.one (.c (.int .i64 a))),(7,.one (.c (.int .i64 b))),(8,.one (.c (.int .i64 i)))],[]=>if shEq.shsEq es (aw 1) then some ((n,ρ),d,a,b,i) else none
 | _,_=>none
theorem jeU:∀ l m c,jaW l m=some c->mkS 76 l m=S96 c:=by
 intro l m c h;unfold jaW at h;split at h
 ·split at h
  ·rename_i hs;cases h;rw [jm hs];rfl
  ·cases h
 ·cases h
def E96 (v:Int × Int):St:=mkS 76 [(6,.one (.c (.int .i64 v.1))),(7,.one (.c (.int .i64 v.2)))] []
def IA:List (Nat × AV)->Mem->Option (Int × Int)
 | [(6,.one (.c (.int .i64 v))),(7,.one (.c (.int .i64 u)))],[]=>some (v,u)
 | _,_=>none
theorem jee:∀ l m c,IA l m=some c->mkS 76 l m=E96 c:=by
 intro l m c h;unfold IA at h;split at h
 ·cases h;rfl
 ·cases h
def A96:Sx.Frame C96 (Int × Int):=⟨0,76,[0,1,6,7,8],jaW,S96,[6,7],IA,E96⟩
theorem a96:A96.Ok:=.of_eq jeU jee
noncomputable abbrev H96 (R:RCq):Hd:=⟨[],[(96,nG (G96 R))],[],[]⟩
theorem h96 {R:RCq} (hR:jj Tryz.prog 96 (nG (G96 R))):HdOk Tryz.prog (H96 R):=HdOk.nil.ucCons hR
def jbl (R:RCq) (c:C96) (m:Nat) (ρ:Val) (a b:Int) (K:Int->Int->Tree (XP × (Int × Int))):Tree (XP × (Int × Int)) :=
 .need (jc c.2.2.2.2 c.1.1) (.br (lt 0 (ja m)) (.need (jc c.2.2.2.2 c.1.1) (.need (cD (R m ρ (IntKind.wrap .i64 (c.2.1+1)))) (K (IntKind.wrap .i64 (a+cA (R m ρ (IntKind.wrap .i64 (c.2.1+1))))) (Vj b (cB (R m ρ (IntKind.wrap .i64 (c.2.1+1)))))))) (K a b))
def r96 (R:RCq) (g:C96->Tree (XP × (Int × Int))) (c:C96):Tree (XP × (Int × Int)) :=
 let ρ:=c.1.2
 let i:=c.2.2.2.2
 .br (bif lt i (ja c.1.1) then le c.2.2.1 4096 else false)
  (jbl R c (Jz ρ i.toNat) (JI ρ i.toNat) (IntKind.wrap .i64 (c.2.2.1+1)) c.2.2.2.1 fun a b=>jbl R c (Jv ρ i.toNat) (JV ρ i.toNat) a b fun a b=>g (c.1,c.2.1,a,b,IntKind.wrap .i64 (i+1)))
  (.leaf (.exit 0,(c.2.2.1,c.2.2.2.1)))
theorem jlQ (R:RCq) (g:C96->Tree (XP × (Int × Int))) (n:Nat) (ρ:Val) (d a b i:Int):ju A96 Tryz.prog (H96 R) X0 10 96 0 g ((n,ρ),d,a,b,i)=r96 R g ((n,ρ),d,a,b,i):=by kernel_rfl
def Gr (c:Bool) (x:Option (Int × Int)) (a b:Int):Option (Int × Int):=bif c then (match x with | some (u,v)=>some (IntKind.wrap .i64 (a+u),Vj b v) | none=>none) else some (a,b)
def Vo (R:RCq) (n:Nat) (ρ:Val) (d:Int):Nat->Int->Int->Int->Option (Int × Int)
 | 0,_,_,_=>none
 | k + 1, i, a, b => bif (bif lt i (ja n) then le a 4096 else false) then (bif jc i n then
   (match Gr (lt 0 (ja (Jz ρ i.toNat))) (R (Jz ρ i.toNat) (JI ρ i.toNat) (IntKind.wrap .i64 (d+1))) (IntKind.wrap .i64 (a+1)) b with
   | none=>none
   | some (a1,b1)=>match Gr (lt 0 (ja (Jv ρ i.toNat))) (R (Jv ρ i.toNat) (JV ρ i.toNat) (IntKind.wrap .i64 (d+1))) a1 b1 with
    | none=>none
    | some (a2,b2)=>Vo R n ρ d k (IntKind.wrap .i64 (i+1)) a2 b2) else none) else some (a,b)
def g96 (R:RCq) (k:Nat) (c:C96):Tree (XP × (Int × Int)) :=
 let x:=Vo R c.1.1 c.1.2 c.2.1 k c.2.2.2.2 c.2.2.1 c.2.2.2.1
 .need (cD x) (.leaf (.exit 0,(cA x,cB x)))
theorem MM (R : RCq) (k : Nat) (c : C96) : (g96 R k c).sel = match Vo R c.1.1 c.1.2 c.2.1 k c.2.2.2.2 c.2.2.1 c.2.2.2.1 with
  | some (a,b)=>some (.exit 0,(a,b))
  | none=>none:=by
 unfold g96;cases Vo R c.1.1 c.1.2 c.2.1 k c.2.2.2.2 c.2.2.1 c.2.2.2.1 with
 | none=>rfl
 | some x=>obtain ⟨a,b⟩:=x;rfl
theorem DV {R : RCq} {c : C96} {m : Nat} {ρ : Val} {a b : Int} {K : Int -> Int -> Tree (XP × (Int × Int))} (hi : jc c.2.2.2.2 c.1.1 = true) : (jbl R c m ρ a b K).sel = match Gr (lt 0 (ja m)) (R m ρ (IntKind.wrap .i64 (c.2.1 + 1))) a b with
  | some (a,b)=>(K a b).sel
  | none=>none:=by
 unfold jbl Gr;simp only [jK,jt];rw [hi];cases lt 0 (ja m) with
 | false=>rfl
 | true =>
   cases R m ρ (IntKind.wrap .i64 (c.2.1+1)) with
  | none=>rfl
  | some x=>obtain ⟨u,v⟩:=x;rfl
theorem jnE (R:RCq) (k:Nat) (c:C96) (x:XP × (Int × Int)) (h:(g96 R (k+1) c).sel=some x):(ju A96 Tryz.prog (H96 R) X0 10 96 0 (g96 R k) c).sel=some x:=by
 obtain ⟨⟨n,ρ⟩,d,a,b,i⟩:=c;rw [jlQ];rw [MM] at h;unfold Vo at h;unfold r96;rw [jK];revert h;simp only;cases (bif lt i (ja n) then le a 4096 else false) with
 | false=>exact fun h=>h
 | true =>
   cases hi:jc i n with
  | false=>exact fun h=>by cases h
  | true =>
    simp only [cond_true];rw [DV hi];simp only;cases Gr (lt 0 (ja (Jz ρ i.toNat))) (R (Jz ρ i.toNat) (JI ρ i.toNat) (IntKind.wrap .i64 (d+1))) (IntKind.wrap .i64 (a+1)) b with
   | none=>exact fun h=>h
   | some y =>
     obtain ⟨a1,b1⟩:=y;simp only;rw [DV hi];simp only;cases Gr (lt 0 (ja (Jv ρ i.toNat))) (R (Jv ρ i.toNat) (JV ρ i.toNat) (IntKind.wrap .i64 (d+1))) a1 b1 with
    | none=>exact fun h=>h
    | some z =>
      obtain ⟨a2,b2⟩:=z;simp only;rw [MM];exact fun h=>h
theorem jlU {R:RCq} (hR:jj Tryz.prog 96 (nG (G96 R))):∀ k,CoreOk Tryz.prog 96 0 0 S96 E96 (g96 R k) :=
 CoreOk.fuel (A:=A96) a96 (h96 hR) x0 10 (fun _=>rfl) (jnE R)
def jnU (R:RCq) (c:C96):Tree (XP × (Int × Int)):=g96 R (c.1.1+1) c
def X96 (R:RCq):HdP:=⟨[],[],[],[((96,0),j4 A96 (jnU R))],[],0,[]⟩
theorem x96 {R:RCq} (hR:jj Tryz.prog 96 (nG (G96 R))):XOk Tryz.prog (X96 R):=XOk.nil.lxCons (CoreOk.lx (g:=jnU R) a96 fun fn c b h1 h2 h3 c0 x hx=>jlU hR _ fn c b h1 h2 h3 c0 x hx)
def D3 (R:RCq) (n:Nat) (ρ:Val) (d:Int):Option (Int × Int):=Vo R n ρ d (n+1) 0 0 d
def t96 (R:RCq) (n:Nat) (ρ:Val) (d:Int):Tree AV:=.need (cD (D3 R n ρ d)) (.leaf (jgP (D3 R n ρ d)))
theorem joG (R:RCq) (n:Nat) (ρ:Val) (d:Int):jI Tryz.prog (H96 R) (X96 R) 10 96 [.c (.sl (aw 1) n ρ),.c (.int .i64 d)]=t96 R n ρ d:=by kernel_rfl
theorem u96 {R:RCq} {args:List A1} {r:AV} (h:G96 (D3 R) args=some (true,r)):(jI Tryz.prog (H96 R) (X96 R) 10 96 args).All (fun x=>leA x r):=by
 obtain ⟨n,ρ,d,e1,h1,e2⟩:=R8 h;rw [e1,e2,joG];exact ⟨h1,leA.refl⟩
theorem jqM {R:RCq} (hR:jj Tryz.prog 96 (nG (G96 R))):jj Tryz.prog 96 (nG (G96 (D3 R))):=by
 refine jz (H:=H96 R) (X:=X96 R) (h96 hR) (x96 hR) 10 96 ?_;intro args r h;exact u96 h
def YG:Nat->RCq
 | 0=>fun _ _ _=>none
 | f+1=>D3 (YG f)
theorem p96:∀ f,jj Tryz.prog 96 (nG (G96 (YG f)))
 | 0 => by
   intro args r h;obtain ⟨n,ρ,d,_,h1,_⟩:=R8 (zn h);cases h1
 | f+1=>jqM (p96 f)
abbrev K97:=(Nat × Val) × Int × Int × RS × Int
abbrev JW:=K97 × Bool × Int
def Fb (c:JW):St:=mkS 151 [(0,.one (.c (.sl (aw 1) c.1.1.1 c.1.1.2))),(2,.one (.c (.int .i64 c.1.2.1))),(3,.one (.c (.int .i64 c.1.2.2.1))),(4,.one (.c (.ptr 0 0))),(5,.one (.c (.int .i64 c.1.2.2.2.2))),(6,.one (.c (.bool c.2.1))),(7,.one (.c (.int .i64 c.2.2)))] [some (52,c.1.2.2.2.1.cells)]
def Hw:List (Nat × AV)->Mem->Option JW
 | [(0, .one (.c (.sl es n ρ))), (2, .one (.c (.int .i64 r))), (3, .one (.c (.int .i64 i))), (4, .one (.c (.ptr 0 0))), (5, .one (.c (.int .i64 e))), (6, .one (.c (.bool b))), (7, .one (.c (.int .i64 k)))], [some (52, cs)] =>
   if shEq.shsEq es (aw 1) then (match LK cs with | some s=>some (((n,ρ),r,i,s,e),b,k) | none=>none) else none
 | _,_=>none
theorem Ow:∀ l m c,Hw l m=some c->mkS 151 l m=Fb c:=by
 intro l m c h;unfold Hw at h;split at h
 ·split at h
  ·rename_i hs;split at h
   ·rename_i s hc;cases h;rw [jm hs,KI hc];rfl
   ·cases h
  ·cases h
 ·cases h
def A97i:Sx.Frame JW JW:=⟨1,151,[0,2,3,4,5,6,7],Hw,Fb,[0,2,3,4,5,6,7],Hw,Fb⟩
theorem jo4:A97i.Ok:=.of_eq Ow Ow
noncomputable abbrev H97 (f:Nat) (R:RBl):Hd:=⟨[],[(94,nG G87),(139,nG UP),(140,nG DL),(141,nG (kA (yb f))),(97,nG (G90 R))],[],[]⟩
theorem h97 (f:Nat) {R:RBl} (hR:jj Tryz.prog 97 (nG (G90 R))):HdOk Tryz.prog (H97 f R):=((((HdOk.nil.ucCons hR).ucCons (joa f)).ucCons jrB).ucCons jqT).ucCons p94
def jmh (g:JW->Tree (XP × JW)) (c:JW):Tree (XP × JW) :=
 let s:=c.1.2.2.2.1
 let x:=jB (wAt s.wρ c.2.2.toNat)
 .br (lt c.2.2 (ja s.wn)) (.need (!((c.2.1==true)&&true)||jc c.2.2 s.wn) (.need (!((c.2.1==true)&&true)||obD x) (g (c.1,bif c.2.1 then obV x else false,IntKind.wrap .i64 (c.2.2+1))))) (.leaf (.exit 3,c))
theorem jlc (f : Nat) (R : RBl) (g : JW -> Tree (XP × JW)) (n : Nat) (ρ : Val) (r i : Int) (s : RS) (e : Int) (b : Bool) (k : Int) :
  ju A97i Tryz.prog (H97 f R) X0 10 97 1 g (((n,ρ),r,i,s,e),b,k)=jmh g (((n,ρ),r,i,s,e),b,k):=by kernel_rfl
def wkL (n:Nat) (ρ:Val):Nat->Bool->Int->Option (Bool × Int)
 | 0,_,_=>none
 | m+1,b,k=>bif lt k (ja n) then (bif b then (bif jc k n then (match jB (wAt ρ k.toNat) with | some w=>wkL n ρ m w (IntKind.wrap .i64 (k+1)) | none=>none) else none) else wkL n ρ m false (IntKind.wrap .i64 (k+1))) else some (b,k)
def wkD:Option (Bool × Int)->Bool | some _=>true | none=>false
def wkB:Option (Bool × Int)->Bool | some (b,_)=>b | none=>false
def wkK:Option (Bool × Int)->Int | some (_,k)=>k | none=>0
def Ni (m:Nat) (c:JW):Tree (XP × JW) :=
 let x:=wkL c.1.2.2.2.1.wn c.1.2.2.2.1.wρ m c.2.1 c.2.2
 .need (wkD x) (.leaf (.exit 3,(c.1,wkB x,wkK x)))
theorem TF (m : Nat) (c : JW) : (Ni m c).sel = match wkL c.1.2.2.2.1.wn c.1.2.2.2.1.wρ m c.2.1 c.2.2 with
  | some (b,k)=>some (.exit 3,(c.1,b,k))
  | none=>none:=by
 unfold Ni;cases wkL c.1.2.2.2.1.wn c.1.2.2.2.1.wρ m c.2.1 c.2.2 with
 | none=>rfl
 | some x=>obtain ⟨b,k⟩:=x;rfl
theorem ji2 (f:Nat) (R:RBl) (m:Nat) (c:JW) (x:XP × JW) (h:(Ni (m+1) c).sel=some x):(ju A97i Tryz.prog (H97 f R) X0 10 97 1 (Ni m) c).sel=some x:=by
 obtain ⟨⟨⟨n,ρ⟩,r,i,s,e⟩,b,k⟩:=c;rw [jlc];rw [TF] at h;unfold wkL at h;unfold jmh;simp only [jK,jt,jE,TF];revert h;simp only;cases lt k (ja s.wn) with
 | false=>exact fun h=>h
 | true =>
   cases b with
  | false=>exact fun h=>h
  | true =>
    cases jc k s.wn with
   | false=>exact fun h=>by cases h
   | true =>
     cases jB (wAt s.wρ k.toNat) with
    | none=>exact fun h=>by cases h
    | some w=>exact fun h=>h
theorem jjf (f:Nat) {R:RBl} (hR:jj Tryz.prog 97 (nG (G90 R))):∀ k,CoreOk Tryz.prog 97 1 1 Fb Fb (Ni k) :=
 CoreOk.fuel (A:=A97i) jo4 (h97 f hR) x0 10 (fun _=>rfl) (ji2 f R)
def jin (c:JW):Tree (XP × JW):=Ni (c.1.2.2.2.1.wn+1) c
def jfT:HdP:=⟨[],[],[],[((97,1),j4 A97i jin)],[],0,[]⟩
theorem jqp (f:Nat) {R:RBl} (hR:jj Tryz.prog 97 (nG (G90 R))):XOk Tryz.prog jfT:=XOk.nil.lxCons (CoreOk.lx (g:=jin) jo4 fun fn c b h1 h2 h3 c0 x hx=>jjf f hR _ fn c b h1 h2 h3 c0 x hx)
abbrev C97:=(Nat × Val) × Int × Int
def S97 (c:C97):St:=mkS 151 [(0,.one (.c (.sl (aw 1) c.1.1 c.1.2))),(2,.one (.c (.int .i64 c.2.1))),(3,.one (.c (.int .i64 c.2.2)))] []
def jbL:List (Nat × AV)->Mem->Option C97
 | [(0,.one (.c (.sl es n ρ))),(2,.one (.c (.int .i64 r))),(3,.one (.c (.int .i64 i)))],[]=>if shEq.shsEq es (aw 1) then some ((n,ρ),r,i) else none
 | _,_=>none
theorem jhe:∀ l m c,jbL l m=some c->mkS 151 l m=S97 c:=by
 intro l m c h;unfold jbL at h;split at h
 ·split at h
  ·rename_i hs;cases h;rw [jm hs];rfl
  ·cases h
 ·cases h
def E97 (v:Int):St:=mkS 151 [(2,.one (.c (.int .i64 v)))] []
def Dy:List (Nat × AV)->Mem->Option Int
 | [(2,.one (.c (.int .i64 v)))],[]=>some v
 | _,_=>none
theorem jdb:∀ l m c,Dy l m=some c->mkS 151 l m=E97 c:=by
 intro l m c h;unfold Dy at h;split at h
 ·cases h;rfl
 ·cases h
def A97:Sx.Frame C97 Int:=⟨0,151,[0,2,3],jbL,S97,[2],Dy,E97⟩
theorem a97:A97.Ok:=.of_eq jhe jdb
def Xb (R:RBl) (s:RS) (ok:Bool) (e:Int) (K:Tree (XP × Int)):Tree (XP × Int) :=
 .br (!ok) (.leaf (.ret,3)) (.br (e != 0) (.leaf (.ret,e)) (.need (opD (R s.bn s.bρ)) (.br (opN (R s.bn s.bρ) != 0) (.leaf (.ret,opN (R s.bn s.bρ))) (.need (opD (R s.en s.eρ)) (.br (opN (R s.en s.eρ) != 0) (.leaf (.ret,opN (R s.en s.eρ))) K)))))
def Br (s:RS):Bool:=bif bif bif lt 0 (ja s.wn) then yR s.cond else false then ja s.bn==0 else false then ja s.en==0 else false
def joF (s:RS) (b:Bool):Bool:=bif bif b then yR s.cond else false then ja s.en==0 else false
def jig (s:RS):Bool:=bif bif bif ja s.wn==0 then ja s.en==0 else false then jb s.cond.op qW else false then le s.cond.v 99 else false
def jh8 (s:RS):Bool:=bif bif ja s.wn==0 then ja s.bn==0 else false then ja s.en==0 else false
def r97 (f:Nat) (R:RBl) (g:C97->Tree (XP × Int)) (c:C97):Tree (XP × Int) :=
 let i:=c.2.2
 let s:=jg c.1.2 i.toNat
 let K:=g (c.1,c.2.1,IntKind.wrap .i64 (i+1))
 let x:=yb f s.cond 1
 let y:=wkL s.wn s.wρ (s.wn+1) (Br s) 0
 .br (lt i (ja c.1.1)) (.need (jc i c.1.1)
  (.br (jb s.kind wDo) (.need (obD (yq s.wn s.wρ)) (.need (!((obV (yq s.wn s.wρ)==true)&&true)||true) (Xb R s (joF s (obV (yq s.wn s.wρ))) 0 K)))
  (.br (jb s.kind wIf) (.need (opD x) (Xb R s (ja s.wn==0) (opN x) K))
  (.br (jb s.kind qQ) (.need (opD x) (Xb R s (jig s) (opN x) K))
  (.br (jb s.kind qo) (.need (opD x) (Xb R s (jh8 s) (opN x) K))
  (.br (jb s.kind kx) (.need (!((lt 0 (ja s.wn)==true)&&true)||true) (.need (wkD y) (Xb R s (wkB y) 0 K)))
  (Xb R s false 0 K)))))))
  (.leaf (.exit 0,c.2.1))
theorem jnh (f:Nat) (R:RBl) (g:C97->Tree (XP × Int)) (n:Nat) (ρ:Val) (r i:Int):ju A97 Tryz.prog (H97 f R) jfT 10 97 0 g ((n,ρ),r,i)=r97 f R g ((n,ρ),r,i):=by kernel_rfl
def okE (f:Nat) (s:RS):Option (Bool × Int) :=
 bif jb s.kind wDo then (match yq s.wn s.wρ with | some b=>some (joF s b,0) | none=>none)
 else bif jb s.kind wIf then (match yb f s.cond 1 with | some x=>some (ja s.wn==0,x) | none=>none)
 else bif jb s.kind qQ then (match yb f s.cond 1 with | some x=>some (jig s,x) | none=>none)
 else bif jb s.kind qo then (match yb f s.cond 1 with | some x=>some (jh8 s,x) | none=>none)
 else bif jb s.kind kx then (match wkL s.wn s.wρ (s.wn+1) (Br s) 0 with | some (b,_)=>some (b,0) | none=>none)
 else some (false,0)
def jbJ (R:RBl) (s:RS) (ok:Bool) (e:Int) (k:Option Int):Option Int :=
 bif !ok then some 3 else bif e != 0 then some e else match R s.bn s.bρ with
  | none=>none
  | some y=>bif y != 0 then some y else match R s.en s.eρ with
   | none=>none
   | some z=>bif z != 0 then some z else k
def W2 (f:Nat) (R:RBl) (n:Nat) (ρ:Val):Nat->Int->Option Int
 | 0,_=>none
 | k + 1, i => bif lt i (ja n) then (bif jc i n then (match okE f (jg ρ i.toNat) with
   | none=>none
   | some (ok,e)=>jbJ R (jg ρ i.toNat) ok e (W2 f R n ρ k (IntKind.wrap .i64 (i+1)))) else none) else some 0
def g97 (f:Nat) (R:RBl) (k:Nat) (c:C97):Tree (XP × Int) :=
 let x:=W2 f R c.1.1 c.1.2 k c.2.2
 .need (opD x) (.br (opN x != 0) (.leaf (.ret,opN x)) (.leaf (.exit 0,c.2.1)))
theorem MC (f:Nat) (R:RBl) (k:Nat) (c:C97):(g97 f R k c).sel=y4 c.2.1 (W2 f R c.1.1 c.1.2 k c.2.2):=by
 unfold g97;cases W2 f R c.1.1 c.1.2 k c.2.2 with
 | none=>rfl
 | some x =>
   show (bif true then (bif x != 0 then some _ else some _) else none)=_;unfold y4;simp only;cases (x != 0)<;>rfl
theorem Kg {R:RBl} {s:RS} {ok:Bool} {e r:Int} {K:Tree (XP × Int)} {k:Option Int} (hK:K.sel=y4 r k) {x:XP × Int} (h:y4 r (jbJ R s ok e k)=some x):(Xb R s ok e K).sel=some x:=by
 unfold Xb;unfold jbJ at h;simp only [jK,jt,jE,hK];revert h;cases ok with
 | false=>exact fun h=>h
 | true =>
   simp only [Bool.not_true,cond_false];cases he:(e != 0) with
  | true=>simp only [cond_true];intro h;rw [← h];unfold y4;simp only [he,cond_true]
  | false =>
    simp only [cond_false];cases R s.bn s.bρ with
   | none=>exact fun h=>h
   | some y =>
     simp only [opD,opN,cond_true];cases hy:(y != 0) with
    | true=>simp only [cond_true];intro h;rw [← h];unfold y4;simp only [hy,cond_true]
    | false =>
      simp only [cond_false];cases R s.en s.eρ with
     | none=>exact fun h=>h
     | some z =>
       simp only [cond_true];cases hz:(z != 0) with
      | true=>simp only [cond_true];intro h;rw [← h];unfold y4;simp only [hz,cond_true]
      | false=>simp only [cond_false];exact fun h=>h
theorem jne (f:Nat) (R:RBl) (k:Nat) (c:C97) (x:XP × Int) (h:(g97 f R (k+1) c).sel=some x):(ju A97 Tryz.prog (H97 f R) jfT 10 97 0 (g97 f R k) c).sel=some x:=by
 obtain ⟨⟨n,ρ⟩,r,i⟩:=c;rw [jnh];rw [MC] at h;unfold W2 at h;unfold r97;rw [jK];revert h;simp only;cases lt i (ja n) with
 | false=>exact fun h=>h
 | true =>
   simp only [cond_true];rw [jt];cases jc i n with
  | false=>exact fun h=>by simp [y4] at h
  | true =>
    simp only [cond_true];have hK:=MC f R k ((n,ρ),r,IntKind.wrap .i64 (i+1));unfold okE;simp only [jK];cases jb (jg ρ i.toNat).kind wDo with
   | true =>
     simp only [cond_true,jt];cases yq (jg ρ i.toNat).wn (jg ρ i.toNat).wρ with
    | none=>exact fun h=>by simp [y4] at h
    | some b =>
      intro h;simp only [obD,cond_true,Bool.or_true];exact Kg hK h
   | false =>
    simp only [cond_false];cases jb (jg ρ i.toNat).kind wIf with
   | true =>
     simp only [cond_true,jt];cases yb f (jg ρ i.toNat).cond 1 with
    | none=>exact fun h=>by simp [y4] at h
    | some y =>
      intro h;simp only [opD,cond_true];exact Kg hK h
   | false =>
    simp only [cond_false];cases jb (jg ρ i.toNat).kind qQ with
   | true =>
     simp only [cond_true,jt];cases yb f (jg ρ i.toNat).cond 1 with
    | none=>exact fun h=>by simp [y4] at h
    | some y =>
      intro h;simp only [opD,cond_true];exact Kg hK h
   | false =>
    simp only [cond_false];cases jb (jg ρ i.toNat).kind qo with
   | true =>
     simp only [cond_true,jt];cases yb f (jg ρ i.toNat).cond 1 with
    | none=>exact fun h=>by simp [y4] at h
    | some y =>
      intro h;simp only [opD,cond_true];exact Kg hK h
   | false =>
    simp only [cond_false];cases jb (jg ρ i.toNat).kind kx with
   | true =>
     simp only [cond_true,jt];cases wkL (jg ρ i.toNat).wn (jg ρ i.toNat).wρ ((jg ρ i.toNat).wn+1) (Br (jg ρ i.toNat)) 0 with
    | none=>exact fun h=>by simp [y4] at h
    | some y =>
      obtain ⟨b,j⟩:=y;intro h;simp only [wkD,cond_true,Bool.or_true];exact Kg hK h
   | false =>
     simp only [cond_false];intro h;exact Kg hK h
theorem jl6 (f:Nat) {R:RBl} (hR:jj Tryz.prog 97 (nG (G90 R))):∀ k,CoreOk Tryz.prog 97 0 0 S97 E97 (g97 f R k) :=
 CoreOk.fuel (A:=A97) a97 (h97 f hR) (jqp f hR) 10 (fun _=>rfl) (jne f R)
def jmb (f:Nat) (R:RBl) (c:C97):Tree (XP × Int):=g97 f R (c.1.1+1) c
def X97 (f:Nat) (R:RBl):HdP:=⟨[],[],[],[((97,0),j4 A97 (jmb f R))],[],0,[]⟩
theorem x97 (f:Nat) {R:RBl} (hR:jj Tryz.prog 97 (nG (G90 R))):XOk Tryz.prog (X97 f R):=XOk.nil.lxCons (CoreOk.lx (g:=jmb f R) a97 fun fn c b h1 h2 h3 c0 x hx=>jl6 f hR _ fn c b h1 h2 h3 c0 x hx)
def B5 (f:Nat) (R:RBl) (n:Nat) (ρ:Val):Option Int:=W2 f R n ρ (n+1) 0
def t97 (f:Nat) (R:RBl) (n:Nat) (ρ:Val):Tree AV:=.need (opD (B5 f R n ρ)) (.br (opN (B5 f R n ρ) != 0) (.leaf (.one (.c (.int .i64 (opN (B5 f R n ρ)))))) (.leaf (.one (.c (.int .i64 0)))))
theorem jo2 (f:Nat) (R:RBl) (n:Nat) (ρ:Val):jI Tryz.prog (H97 f R) (X97 f R) 10 97 [.c (.sl (aw 1) n ρ)]=t97 f R n ρ:=by kernel_rfl
theorem u97 {f:Nat} {R:RBl} {args:List A1} {r:AV} (h:G90 (B5 f R) args=some (true,r)):(jI Tryz.prog (H97 f R) (X97 f R) 10 97 args).All (fun x=>leA x r):=by
 obtain ⟨n,ρ,e1,h1,e2⟩:=Vi h;rw [e1,e2,jo2];refine ⟨h1,(fun _=>leA.refl),fun h => ?_⟩
 have:opN (B5 f R n ρ)=0:=by simpa using h
 rw [this];exact leA.refl
theorem jrF (f:Nat) {R:RBl} (hR:jj Tryz.prog 97 (nG (G90 R))):jj Tryz.prog 97 (nG (G90 (B5 f R))):=by
 refine jz (H:=H97 f R) (X:=X97 f R) (h97 f hR) (x97 f hR) 10 97 ?_;intro args r h;exact u97 h
def WE (f:Nat):Nat->RBl
 | 0=>fun _ _=>none
 | d+1=>B5 f (WE f d)
theorem p97 (f:Nat):∀ d,jj Tryz.prog 97 (nG (G90 (WE f d)))
 | 0 => by
   intro args r h;obtain ⟨n,ρ,_,h1,_⟩:=Vi (zn h);cases h1
 | d+1=>jrF f (p97 f d)
noncomputable abbrev H42 (f d:Nat):Hd:=⟨[],[(40,nG G34),(96,nG (G96 (YG d))),(97,nG (G90 (WE f d)))],[],[]⟩
theorem h42 (f d:Nat):HdOk Tryz.prog (H42 f d):=((HdOk.nil.ucCons (p97 f d)).ucCons (p96 d)).ucCons p40
def JC (f d:Nat) (name:ByteArray) (n:Nat) (ρ:Val):Option Int :=
 bif yg name then (bif !qk name then some 23 else match YG d n ρ 1 with
  | none=>none
  | some (a,b)=>bif lt 4096 a then some 6 else bif lt 16 b then some 28 else WE f d n ρ) else none
def G42 (f d:Nat):List A1->Option (Bool × AV)
 | [.agg [.str name,.sl es n ρ]]=>if shEq.shsEq es (aw 1) then some (opD (JC f d name n ρ),.one (.c (.int .i64 (opN (JC f d name n ρ))))) else none
 | _=>none
def t42 (f d:Nat) (name:ByteArray) (n:Nat) (ρ:Val):Tree AV :=
 let c:=YG d n ρ 1
 let L:=fun x:Int=>Tree.leaf (AV.one (.c (.int .i64 x)))
 .need (yg name) (.br (!qk name) (L 23) (.need (cD c) (.br (lt 4096 (cA c)) (L 6) (.br (lt 16 (cB c)) (L 28) (.need (opD (WE f d n ρ)) (L (opN (WE f d n ρ))))))))
theorem jou (f d:Nat) (name:ByteArray) (n:Nat) (ρ:Val):jT Tryz.prog (H42 f d) 10 42 [.agg [.str name,.sl (aw 1) n ρ]]=t42 f d name n ρ:=by kernel_rfl
theorem jfv {f d:Nat} {args:List A1} {r:AV} (h:G42 f d args=some (true,r)):∃ name n ρ,args=[.agg [.str name,.sl (aw 1) n ρ]]∧opD (JC f d name n ρ)=true∧r=.one (.c (.int .i64 (opN (JC f d name n ρ)))):=by
 unfold G42 at h;split at h
 ·split at h
  ·rename_i name es n ρ hs;simp only [sIq,pIq] at h;exact ⟨name,n,ρ,by rw [jm hs],h.1,h.2.symm⟩
  ·cases h
 ·cases h
theorem jjx (f d:Nat) (name:ByteArray) (n:Nat) (ρ:Val) (h:opD (JC f d name n ρ)=true):(t42 f d name n ρ).All (fun x=>leA x (.one (.c (.int .i64 (opN (JC f d name n ρ)))))):=by
 unfold t42;unfold JC at h ⊢;revert h;cases yg name with
 | false=>exact fun h=>by cases h
 | true =>
 cases qk name with
 | false=>exact fun _=>jk rfl leA.refl
 | true =>
 simp only [cond_true,Bool.not_true,cond_false];cases YG d n ρ 1 with
 | none=>exact fun h=>by cases h
 | some c =>
 obtain ⟨a,b⟩:=c;simp only [cD,cA,cB];cases lt 4096 a with
 | true=>exact fun _=>jk rfl leA.refl
 | false =>
 cases lt 16 b with
 | true=>exact fun _=>jk rfl leA.refl
 | false =>
 simp only [cond_false];cases WE f d n ρ with
 | none=>exact fun h=>by cases h
 | some y=>exact fun _=>jk rfl leA.refl
theorem u42 {f d:Nat} {args:List A1} {r:AV} (h:G42 f d args=some (true,r)):(jT Tryz.prog (H42 f d) 10 42 args).All (fun x=>leA x r):=by
 obtain ⟨name,n,ρ,e1,h1,e2⟩:=jfv h;rw [e1,e2,jou];exact jjx f d name n ρ h1
theorem p42 (f d:Nat):jj Tryz.prog 42 (nG (G42 f d)):=by
 refine qO (H:=H42 f d) (h42 f d) 10 42 ?_;intro args r h;exact u42 h
end Go.Proofs.YtiefjlcakpdfeaaGreat