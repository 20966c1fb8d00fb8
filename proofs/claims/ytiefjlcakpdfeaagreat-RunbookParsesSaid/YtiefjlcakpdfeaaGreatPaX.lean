/-
 Part PaX of the proof: RqJ RqK RqL RbU RbV RbW.
-/
import Derived.Test.YtiefjlcakpdfeaaGreatPaW
import Derived.Test.YtiefjlcakpdfeaaGreatPaV
namespace Go.Proofs.YtiefjlcakpdfeaaGreat
open Go Go.Sx Go.RowKit Rb
set_option maxRecDepth 100000
def kB (k:Int):Int:=bif k==1 then 110 else bif k==2 then 111 else 115
theorem GZ (k:Int) (w:ByteArray):Kn (kB k) w=qp k w:=by
 unfold kB qp;cases (k==1) with
 | true=>rfl
 | false=>cases (k==2)<;>rfl
theorem HK (c:Nat):(WO c).size=(j8 c).length∧(j8 c).length<=3∧∀ j k,nth (j8 c) j=some k->jr (WO c) j=kB k:=by
 have key:∀ (l:List Int) (f:ByteArray),f.data.toList.map (fun b=>(b.toNat:Int))=l.map kB->∀ j k,nth l j=some k->jr f j=kB k:=by
  intro l f h j k hj;have h1:=congrArg (fun l=>nth l j) h;simp only [Vs] at h1;rw [hj] at h1;unfold jr;cases hn:nth f.data.toList j with
  | none=>rw [hn] at h1;cases h1
  | some b=>rw [hn] at h1;simpa using h1
 match c with
 | 1=>exact ⟨rfl,by decide,key _ _ rfl⟩
 | 2=>exact ⟨rfl,by decide,key _ _ rfl⟩
 | 3=>exact ⟨rfl,by decide,key _ _ rfl⟩
 | 4=>exact ⟨rfl,by decide,key _ _ rfl⟩
 | 0=>exact ⟨rfl,by decide,key _ _ rfl⟩
 | n+5=>exact ⟨rfl,by simp [j8],key _ _ rfl⟩
abbrev jqL:HdP:=⟨Xx,[],[],[],[],4,[138,39,92,38]⟩
def LD (s:ByteArray) (p:QS):Tree (Out × List CV):=.leaf (.ret (.one (.c .nils)),yB s p)
def HX (s f:ByteArray):Nat->Nat->Nat->Val->QS->Tree (Out × List CV)
 | 0,_,_,_,_=>.fail
 | k + 1, j, m, σ, p => .br (lt (j : Int) (ja f.size)) (.need (jc (j : Int) f.size) (.need (nmD (jq p.tx)) (.br (!Kn (jr f j) p.tx) (LD s (jW p))
   (.need (Nat.ble ((m+1)*16) 140737488355328) (nxQ () (jo s p) fun _ p1=>HX s f k (j+1) (m+1) (Val.cat m σ (zk p.tx)) p1)))))
   (.leaf (.ret (.one (.c (.sl [.str] m σ))),yB s p))
def joc (s:ByteArray) (p:QS):Tree (Out × List CV) :=
 .br (bif p.bad then true else !(!(Nat.beq (jZ p.tx) 0))) (LD s (jW p)) (nxQ () (jo s p) fun _ p1=>HX s (WO (jZ p.tx)) 4 0 1 (zk p.tx) p1)
theorem ji4 (s t:ByteArray) (a e:Int) (b:Bool):qX Tryz.prog H92 jqL 10 136 89 [] [.str s,.str t,.int .i64 a,.int .i64 e,.bool b]=.need true (joc s ⟨t,a,e,b⟩):=by kernel_rfl
theorem Hn {s:ByteArray} {p:QS}:TellQ (LD s p) Kz s (.ret [] p):=⟨_,rfl,.ret (Jq (.c jC)) LeL.refl rfl⟩
theorem BA (s f : ByteArray) (ks : List Int) (h1 : f.size = ks.length) (h3 : ks.length <= 3) (h2 : ∀ j k, nth ks j = some k -> jr f j = kB k) : ∀ (r : List Int) (j k : Nat) (σ : Val) (p : QS) (l : List ByteArray), ks.drop j = r -> j + r.length = ks.length -> r.length < k -> l.length = j + 1 -> RowIs σ l ->
  TellQ (HX s f k j l.length σ p) Kz s (XV (jo s) r l p)
 | [], j, k, σ, p, l, hd, hj, hk, hl, hr => by
   obtain ⟨k,rfl⟩ : ∃ k',k=k'+1:=⟨k - 1,by omega⟩
   have hlt:lt (j:Int) (ja f.size)=false:=by
    rw [h1];unfold lt ja;simp at hj ⊢;omega
   show TellQ (.br (lt (j:Int) (ja f.size)) _ _) Kz s (.ret l p);rw [hlt];exact ⟨_,rfl,.ret hr.le LeL.refl rfl⟩
 | c :: r, j, k, σ, p, l, hd, hj, hk, hl, hr => by
   obtain ⟨k,rfl⟩ : ∃ k',k=k'+1:=⟨k - 1,by omega⟩
   obtain ⟨g1,g2⟩:=YE ks j c r hd;have hlen:j<ks.length:=js g1
   have hlt:lt (j:Int) (ja f.size)=true:=by
    rw [h1];unfold lt ja
    simp;omega
   have hin:jc (j:Int) f.size=true:=by
    rw [h1];unfold jc le lt ja
    simp;omega
   have hble:Nat.ble ((l.length+1)*16) 140737488355328=true:=Nat.ble_eq.mpr (by simp only [List.length_cons] at hj;omega)
   unfold HX XV;rw [hlt,hin,h2 j c g1,GZ,hble];refine TellQ.sel (T':=.need (nmD (jq p.tx)) (.br (!qp c p.tx) (LD s (jW p)) (nxQ () (jo s p) fun _ p1=>HX s f k (j+1) (l.length+1) (Val.cat l.length σ (zk p.tx)) p1))) rfl (TellQ.need fun _=>TellQ.notc (TellQ.bind fun _ p1 => ?_) Hn);have ih:=BA s f ks h1 h3 h2 r (j+1) k (Val.cat l.length σ (zk p.tx)) p1 (l++[p.tx]) g2 (by simp only [List.length_cons] at hj;omega) (by simp only [List.length_cons] at hk;omega) (by simp [hl]) (hr.snoc p.tx)
   rw [List.length_append] at ih;exact ih
abbrev opS (s:ByteArray) (p:QS):PR QS (List ByteArray):=kj (jo s) p
abbrev joO:=yz [] Kz (Je opS)
theorem jpO:jn Tryz.prog 136 (localG 89 joO):=Xj h92 (Ka 4) 10 136 fun s t a e b=>by
 rw [ji4];refine TellQ.nd rfl ?_;unfold joc opS kj;rw [Bool.not_not];refine TellQ.cond Hn (TellQ.bind fun _ p1 => ?_);obtain ⟨f1,f2,f3⟩:=HK (jZ t)
 have:=BA s (WO (jZ t)) (j8 (jZ t)) f1 f2 f3 _ 0 4 (zk t) p1 [t] rfl (by simp) (by simp;omega) rfl (by
  intro i x hx
  match i,hx with
  | 0,hx=>exact Option.some.inj hx
  | i+1,hx=>simp [nth] at hx)
 exact this
abbrev CBq:=(ByteArray × QS) × Row
def SBq (c:CBq):St:=mkS 26 [(0,.one (.c (.ptr 0 0))),(3,slR c.2)] (some (89,yB c.1.1 c.1.2)::meR c.2)
def jcJ:List (Nat × AV)->Mem->Option (List CV × Row)
 | [(0,.one (.c (.ptr 0 0))),(3,.one (.c .nils))],[some (89,c0)]=>some (c0,none)
 | [(0,.one (.c (.ptr 0 0))),(3,.one (.c (.os 1 8)))],[some (89,c0),some (52,[.row false es n ρ])]=>if shEq.shsEq es (aw 1) then some (c0,some (n,ρ)) else none
 | _,_=>none
def Ri (l:List (Nat × AV)) (m:Mem):Option CBq:=match jcJ l m with
 | some (c0,r)=>(match Fi c0 with | some p=>some (p,r) | none=>none)
 | none=>none
theorem jch {l:List (Nat × AV)} {m:Mem} {c0:List CV} {r:Row} (h:jcJ l m=some (c0,r)):l=[(0,.one (.c (.ptr 0 0))),(3,slR r)]∧m=some (89,c0)::meR r:=by
 unfold jcJ at h;split at h
 ·cases h;exact ⟨rfl,rfl⟩
 ·split at h
  ·rename_i hs;cases h;rw [jm hs];exact ⟨rfl,rfl⟩
  ·cases h
 ·cases h
theorem FK:∀ l m c,Ri l m=some c->StWk (mkS 26 l m) (SBq c):=by
 intro l m c h;unfold Ri at h;split at h
 ·rename_i c0 r hr;obtain ⟨rfl,rfl⟩:=jch hr;split at h
  ·rename_i p hp;cases h;rw [Uk hp];exact StWk.refl
  ·cases h
 ·cases h
def ABq:Sx.Frame CBq CBq:=⟨1,26,[0,3],Ri,SBq,[0,3],Ri,SBq⟩
theorem aBq:ABq.Ok:=⟨FK,FK⟩
def jiD (s:ByteArray) (r:Row) (l:List RS) (p:QS):Tree (XP × CBq):=match r with
 | none=>.br l.isEmpty (.leaf (.exit 0,((s,p),none))) (.leaf (.exit 0,((s,p),some (l.length,match l with | []=>Val.zero | x::l'=>kb 1 (Val.ofFlat 8 x.cells) l'))))
 | some (n,ρ)=>.leaf (.exit 0,((s,p),some (n+l.length,kb n ρ l)))
theorem jdU (s:ByteArray) (r:Row) (l:List RS) (p:QS):(jiD s r l p).sel=some (.exit 0,((s,p),JN r l)):=by
 cases r with
 | none =>
   cases l with
  | nil=>rfl
  | cons x l=>show some _=some _;simp only [JN,List.length_cons];rw [Nat.add_comm]
 | some q=>rfl
def gBq (St:ByteArray->QS->PR QS RS) (k:Nat) (c:CBq):Tree (XP × CBq) :=
 .need (Nat.ble (kR c.2+k) qu) (nxQ [] (yt (St c.1.1) k c.1.2) (jiD c.1.1 c.2))
noncomputable abbrev HBq:Hd:=⟨[lK,pF 39,pF 95,pF 41],[],[],[]⟩
theorem hBq:HdOk Tryz.prog HBq:=HdOk.lK (((HdOk.nil.pF 41).pF 95).pF 39)
abbrev XBq (Sm:ByteArray->QS->PR QS RS) (lx:List ((Nat × Nat) × (Nat->St->Tree (XP × St)))):HdP:=⟨(95,localG 89 (yz dS encR (Je Sm)))::Xx,[],[],lx,[],0,95::[138,39,92,38]⟩
theorem xBq {St:ByteArray->QS->PR QS RS} (hS:jn Tryz.prog 95 (localG 89 (yz dS encR (Je St)))):XOk Tryz.prog (XBq St []):=(Ka 0).loCons hS (LocFn.localG _ _)
def rBq (s:ByteArray) (St:ByteArray->QS->PR QS RS) (g:CBq->Tree (XP × CBq)) (r:Row) (p:QS):Tree (XP × CBq) :=
 .br (bif !p.bad then !jb p.tx Jx else false) (nxQ dS (St s p) fun x p2=>.need (Nat.ble ((kR r+1)*144) 140737488355328) (g ((s,p2),Wi r x))) (.leaf (.exit 0,((s,p),r)))
theorem jfu (St:ByteArray->QS->PR QS RS) (g:CBq->Tree (XP × CBq)) (s t:ByteArray) (a e:Int) (b:Bool):ju ABq Tryz.prog HBq (XBq St []) 10 41 0 g ((s,⟨t,a,e,b⟩),none)=rBq s St g none ⟨t,a,e,b⟩:=by kernel_rfl
theorem jha (St:ByteArray->QS->PR QS RS) (g:CBq->Tree (XP × CBq)) (s t:ByteArray) (a e:Int) (b:Bool) (m:Nat) (ρ:Val):ju ABq Tryz.prog HBq (XBq St []) 10 41 0 g ((s,⟨t,a,e,b⟩),some (m,ρ))=rBq s St g (some (m,ρ)) ⟨t,a,e,b⟩:=by kernel_rfl
theorem jlJ (St:ByteArray->QS->PR QS RS) (g:CBq->Tree (XP × CBq)) (s:ByteArray) (p:QS) (r:Row):ju ABq Tryz.prog HBq (XBq St []) 10 41 0 g ((s,p),r)=rBq s St g r p:=by
 obtain ⟨t,a,e,b⟩:=p;cases r with
 | none=>exact jfu St g s t a e b
 | some q=>obtain ⟨m,ρ⟩:=q;exact jha St g s t a e b m ρ
theorem Nx (St : ByteArray -> QS -> PR QS RS) (k : Nat) (s : ByteArray) (p : QS) (r : Row) : (gBq St k ((s, p), r)).sel = bif Nat.ble (kR r + k) qu then (match yt (St s) k p with
  | .ret l q=>some (.exit 0,((s,q),JN r l))
  | _=>none) else none:=by
 unfold gBq;rw [jt];simp only;cases Nat.ble (kR r+k) qu with
 | false=>rfl
 | true =>
   simp only [cond_true];cases yt (St s) k p with
  | stuck=>rfl
  | ret l q=>exact jdU s r l q
  | pan a=>rfl
theorem joE (St:ByteArray->QS->PR QS RS) (k:Nat) (c:CBq) (x:XP × CBq) (h:(gBq St (k+1) c).sel=some x):(ju ABq Tryz.prog HBq (XBq St []) 10 41 0 (gBq St k) c).sel=some x:=by
 obtain ⟨⟨s,p⟩,r⟩:=c;rw [jlJ];rw [Nx] at h
 have hb:Nat.ble (kR r+(k+1)) qu=true:=by
  cases hh:Nat.ble (kR r+(k+1)) qu with
  | true=>rfl
  | false=>rw [hh] at h;cases h
 rw [hb] at h;simp only [cond_true] at h;have hle:=Nat.le_of_ble_eq_true hb;have hb1:Nat.ble ((kR r+1)*144) 140737488355328=true:=Nat.ble_eq.mpr (by unfold qu at hle;omega)
 unfold rBq;unfold yt at h;rw [jK];revert h;cases (bif !p.bad then !jb p.tx Jx else false) with
 | false =>
   intro h;simp only [cond_false,Y3] at h;exact h
 | true =>
   intro h;simp only [cond_true] at h ⊢;cases e2:St s p with
  | stuck=>rw [e2] at h;cases h
  | pan a=>rw [e2] at h;cases h
  | ret y p2 =>
    rw [e2] at h;rw [MA,jt,hb1];simp only [cond_true];rw [Nx];have hb2:Nat.ble (kR (Wi r y)+k) qu=true:=Nat.ble_eq.mpr (by rw [Ia];omega)
    rw [hb2];simp only [cond_true];simp only [PR.bind] at h;cases e3:yt (St s) k p2 with
   | stuck=>rw [e3] at h;cases h
   | pan a=>rw [e3] at h;cases h
   | ret l q =>
     rw [e3] at h;simp only [XJ] at h;exact h
theorem jlG {St:ByteArray->QS->PR QS RS} (hS:jn Tryz.prog 95 (localG 89 (yz dS encR (Je St)))):∀ k,CoreOk Tryz.prog 41 0 1 SBq SBq (gBq St k) :=
 CoreOk.fuel (A:=ABq) aBq hBq (xBq hS) 10 (fun c=>by
  obtain ⟨⟨s,p⟩,r⟩:=c;rw [Nx];cases Nat.ble (kR r+0) qu<;>rfl) (joE St)
theorem jrs {St:ByteArray->QS->PR QS RS} (hS:jn Tryz.prog 95 (localG 89 (yz dS encR (Je St)))) (k:Nat):XOk Tryz.prog (XBq St [((41,0),j4 ABq (gBq St k))]):=(xBq hS).lxCons ((jlG hS k).lx aBq)
def t41 (St:ByteArray->QS->PR QS RS) (k:Nat) (s:ByteArray) (p:QS):Tree (Out × List CV) :=
 nxQ () (jN (jo s) Uo p) fun _ p1=>.need (Nat.ble (0+k) qu) (nxQ [] (yt (St s) k p1) fun l p2 =>
  .br l.isEmpty (nxQ () (jN (jo s) Jx p2) fun _ p3=>LD s p3) (nxQ () (jN (jo s) Jx p2) fun _ p3=>.leaf (.ret (.one (.c (.sl (aw 1) l.length (Tp l)))),yB s p3)))
theorem joW (St:ByteArray->QS->PR QS RS) (k:Nat) (s t:ByteArray) (a e:Int) (b:Bool):qX Tryz.prog HBq (XBq St [((41,0),j4 ABq (gBq St k))]) 10 41 89 [] [.str s,.str t,.int .i64 a,.int .i64 e,.bool b]=t41 St k s ⟨t,a,e,b⟩:=by kernel_rfl
abbrev Mf (St:ByteArray->QS->PR QS RS) (k:Nat) (s:ByteArray) (p:QS):PR QS (List RS):=We (jo s) (St s) k p
theorem jqV {St:ByteArray->QS->PR QS RS} (hS:jn Tryz.prog 95 (localG 89 (yz dS encR (Je St)))) (k:Nat) (hk:k<=qu):jn Tryz.prog 41 (localG 89 (yz [] L2 (Je (Mf St k)))):=Xj hBq (jrs hS k) 10 41 fun s t a e b=>by
 rw [joW];unfold t41 Mf We;refine TellQ.bind fun _ p1=>TellQ.nd (Nat.ble_eq.mpr (by omega)) (TellQ.bind fun l p2 => ?_)
 cases l with
 | nil=>exact TellQ.sel rfl (TellQ.bind (K:=fun _ p3=>LD s p3) (d:=()) fun _ p3=>⟨_,rfl,.ret (Jq (.c jC)) LeL.refl rfl⟩)
 | cons x l=>exact TellQ.sel rfl (TellQ.bind (d:=()) (K:=fun _ p3=>.leaf (.ret (.one (.c (.sl (aw 1) (x::l).length (Tp (x::l))))),yB s p3)) fun _ p3=>⟨_,rfl,.ret (Mq (x::l)) LeL.refl rfl⟩)
noncomputable abbrev H95:Hd:=⟨[pF 38,pF 39,pF 41,pF 92,pF 136,pF 137,pF 138],[(94,nG G87)],[],[]⟩
theorem h95:HdOk Tryz.prog H95:=(((((((HdOk.nil.ucCons p94).pF 138).pF 137).pF 136).pF 92).pF 41).pF 39).pF 38
abbrev UBq (B:ByteArray->QS->PR QS (List RS)):=yz [] L2 (Je B)
abbrev X95 (E:ByteArray->QS->PR QS RX) (B:ByteArray->QS->PR QS (List RS)) (lx:List ((Nat × Nat) × (Nat->St->Tree (XP × St)))):HdP :=
 ⟨(137,localG 89 (UOq E))::(41,localG 89 (UBq B))::(136,localG 89 joO)::Xx,[],[],lx,[],0,137::41::136::[138,39,92,38]⟩
theorem x95 {E:ByteArray->QS->PR QS RX} {B:ByteArray->QS->PR QS (List RS)} (hE:jn Tryz.prog 137 (localG 89 (UOq E))) (hB:jn Tryz.prog 41 (localG 89 (UBq B))):XOk Tryz.prog (X95 E B []) :=
 (((Ka 0).loCons jpO (LocFn.localG _ _)).loCons hB (LocFn.localG _ _)).loCons hE (LocFn.localG _ _)
abbrev YI:=Option (Nat × Val)
abbrev WQ:=(ByteArray × Int) × YI
abbrev CWq:=(ByteArray × QS) × WQ
def cellW:YI->CV
 | none=>.nils
 | some _=>.os 3 1
def meW:YI->Mem
 | none=>[]
 | some (n,ρ)=>[some (9,[.row false [.str] n ρ])]
def jnr (kd:ByteArray) (at_:Int) (r:YI):List CV:=[.str kd,cellW r,.str (bs []),.int .i64 0,.nils,.nils,.nils,.int .i64 at_]
def jqi (c0:List CV) (w:WQ):Mem:=some (89,c0)::some (52,jfE)::some (52,jnr w.1.1 w.1.2 w.2)::meW w.2
def SWq (c:CWq):St:=mkS 106 slW (jqi (yB c.1.1 c.1.2) c.2)
def Ir:List (Nat × AV)->Mem->Option (List CV × List CV × WQ)
 | [(0, .one (.c (.ptr 0 0))), (2, .one (.c (.ptr 1 0))), (3, .one (.c (.ptr 2 0)))], [some (89, c0), some (52, c1), some (52, [.str kd, .nils, .str z, .int .i64 zz, .nils, .nils, .nils, .int .i64 a])] =>
   if KL c1&&jb z (bs [])&&decide (zz=0) then some (c0,c1,(kd,a),none) else none
 | [(0, .one (.c (.ptr 0 0))), (2, .one (.c (.ptr 1 0))), (3, .one (.c (.ptr 2 0)))], [some (89, c0), some (52, c1), some (52, [.str kd, .os 3 1, .str z, .int .i64 zz, .nils, .nils, .nils, .int .i64 a]), some (9, [.row false [.str] n ρ])] =>
   if KL c1&&jb z (bs [])&&decide (zz=0) then some (c0,c1,(kd,a),some (n,ρ)) else none
 | _,_=>none
def Ru (l:List (Nat × AV)) (m:Mem):Option CWq:=match Ir l m with
 | some (c0,_,w)=>(match Fi c0 with | some p=>some (p,w) | none=>none)
 | none=>none
theorem IY {l:List (Nat × AV)} {m:Mem} {c0 c1:List CV} {w:WQ} (h:Ir l m=some (c0,c1,w)):l=slW∧KL c1=true∧m=some (89,c0)::some (52,c1)::some (52,jnr w.1.1 w.1.2 w.2)::meW w.2:=by
 unfold Ir at h;split at h
 ·split at h
  ·rename_i hc;simp only [aTq,decide_eq_true_eq] at hc;obtain ⟨⟨h1,h2⟩,h3⟩:=hc;have h2:=Jc h2;subst h2;subst h3;cases h;exact ⟨rfl,h1,rfl⟩
  ·cases h
 ·split at h
  ·rename_i hc;simp only [aTq,decide_eq_true_eq] at hc;obtain ⟨⟨h1,h2⟩,h3⟩:=hc;have h2:=Jc h2;subst h2;subst h3;cases h;exact ⟨rfl,h1,rfl⟩
  ·cases h
 ·cases h
theorem FJ:∀ l m c,Ru l m=some c->StWk (mkS 106 l m) (SWq c):=by
 intro l m c h;unfold Ru at h;split at h
 ·rename_i c0 c1 w hw;obtain ⟨rfl,h1,rfl⟩:=IY hw;split at h
  ·rename_i p hp;cases h;rw [Uk hp];obtain ⟨a1,a2,a3⟩:=Tc h1;exact yk (.cons leAB.refl (.cons leAB.refl (.cons leAB.refl .nil))) (yC (b:=1) rfl a2 a1 a3 rfl rfl)
  ·cases h
 ·cases h
def AWq:Sx.Frame CWq CWq:=⟨3,106,[0,2,3],Ru,SWq,[0,2,3],Ru,SWq⟩
theorem aWq:AWq.Ok:=⟨FJ,FJ⟩
def wNq:YI->Nat
 | none=>0
 | some (n,_)=>n
def Ff:YI->ByteArray->YI
 | none,x=>some (1,zk x)
 | some (n,ρ),x=>some (n+1,Val.cat n ρ (zk x))
def NO:YI->List ByteArray->YI
 | some (n,ρ),l=>some (n+l.length,QJ n ρ l)
 | none,[]=>none
 | none,x::l=>some (1+l.length,QJ 1 (zk x) l)
theorem Du (r:YI):NO r []=r:=by
 cases r with
 | none=>rfl
 | some q=>rfl
theorem jdr (r:YI) (x:ByteArray) (l:List ByteArray):NO r (x::l)=NO (Ff r x) l:=by
 cases r with
 | none=>rfl
 | some q =>
   obtain ⟨n,ρ⟩:=q;show some _=some _;simp only [QJ,List.length_cons];rw [show n+(l.length+1)=n+1+l.length by omega]
theorem joj (r:YI) (x:ByteArray):wNq (Ff r x)=wNq r+1:=by
 cases r with
 | none=>rfl
 | some q=>rfl
def rWq (s:ByteArray) (g:CWq->Tree (XP × CWq)) (w:WQ) (p:QS):Tree (XP × CWq) :=
 .need (!(((!p.bad)==true)&&true)||obD (jB p.tx)) (.br (bif !p.bad then obV (jB p.tx) else false)
  (.need (Nat.ble ((wNq w.2+1)*16) 140737488355328) (nxQ () (jo s p) fun _ p1=>g ((s,p1),w.1,Ff w.2 p.tx))) (.leaf (.exit 1,((s,p),w))))
theorem jer (E : ByteArray -> QS -> PR QS RX) (B : ByteArray -> QS -> PR QS (List RS)) (g : CWq -> Tree (XP × CWq)) (s t kd : ByteArray) (a e at_ : Int) (b : Bool) :
  ju AWq Tryz.prog H95 (X95 E B []) 10 95 0 g ((s,⟨t,a,e,b⟩),(kd,at_),none)=rWq s g ((kd,at_),none) ⟨t,a,e,b⟩:=by kernel_rfl
theorem jgH (E : ByteArray -> QS -> PR QS RX) (B : ByteArray -> QS -> PR QS (List RS)) (g : CWq -> Tree (XP × CWq)) (s t kd : ByteArray) (a e at_ : Int) (b : Bool) (m : Nat) (ρ : Val) :
  ju AWq Tryz.prog H95 (X95 E B []) 10 95 0 g ((s,⟨t,a,e,b⟩),(kd,at_),some (m,ρ))=rWq s g ((kd,at_),some (m,ρ)) ⟨t,a,e,b⟩:=by kernel_rfl
theorem jnk (E : ByteArray -> QS -> PR QS RX) (B : ByteArray -> QS -> PR QS (List RS)) (g : CWq -> Tree (XP × CWq)) (s : ByteArray) (p : QS) (w : WQ) :
  ju AWq Tryz.prog H95 (X95 E B []) 10 95 0 g ((s,p),w)=rWq s g w p:=by
 obtain ⟨t,a,e,b⟩:=p;obtain ⟨⟨kd,at_⟩,r⟩:=w;cases r with
 | none=>exact jer E B g s t kd a e at_ b
 | some q=>obtain ⟨m,ρ⟩:=q;exact jgH E B g s t kd a e at_ b m ρ
def jip (s:ByteArray) (w:WQ) (l:List ByteArray) (p:QS):Tree (XP × CWq):=match w.2 with
 | none=>.br l.isEmpty (.leaf (.exit 1,((s,p),w.1,none))) (.leaf (.exit 1,((s,p),w.1,some (l.length,match l with | []=>Val.zero | x::l'=>QJ 1 (zk x) l'))))
 | some (n,ρ)=>.leaf (.exit 1,((s,p),w.1,some (n+l.length,QJ n ρ l)))
theorem jem (s:ByteArray) (w:WQ) (l:List ByteArray) (p:QS):(jip s w l p).sel=some (.exit 1,((s,p),w.1,NO w.2 l)):=by
 obtain ⟨w1,r⟩:=w;cases r with
 | none =>
   cases l with
  | nil=>rfl
  | cons x l=>show some _=some _;simp only [NO,List.length_cons];rw [Nat.add_comm]
 | some q=>rfl
def gWq (k:Nat) (c:CWq):Tree (XP × CWq):=.need (Nat.ble (wNq c.2.2+k) qu) (nxQ [] (yj (jo c.1.1) k c.1.2) (jip c.1.1 c.2))
theorem Ny (k : Nat) (s : ByteArray) (p : QS) (w : WQ) : (gWq k ((s, p), w)).sel = bif Nat.ble (wNq w.2 + k) qu then (match yj (jo s) k p with
  | .ret l q=>some (.exit 1,((s,q),w.1,NO w.2 l))
  | _=>none) else none:=by
 unfold gWq;rw [jt];simp only;cases Nat.ble (wNq w.2+k) qu with
 | false=>rfl
 | true =>
   simp only [cond_true];cases yj (jo s) k p with
  | stuck=>rfl
  | ret l q=>exact jem s w l q
  | pan a=>rfl
theorem jlM (E:ByteArray->QS->PR QS RX) (B:ByteArray->QS->PR QS (List RS)) (k:Nat) (c:CWq) (x:XP × CWq) (h:(gWq (k+1) c).sel=some x):(ju AWq Tryz.prog H95 (X95 E B []) 10 95 0 (gWq k) c).sel=some x:=by
 obtain ⟨⟨s,p⟩,w⟩:=c;rw [jnk];rw [Ny] at h
 have hb:Nat.ble (wNq w.2+(k+1)) qu=true:=by
  cases hh:Nat.ble (wNq w.2+(k+1)) qu with
  | true=>rfl
  | false=>rw [hh] at h;cases h
 rw [hb] at h;simp only [cond_true] at h;have hle:=Nat.le_of_ble_eq_true hb;have hb1:Nat.ble ((wNq w.2+1)*16) 140737488355328=true:=Nat.ble_eq.mpr (by unfold qu at hle;omega)
 unfold rWq;unfold yj at h;rw [jt,jK,jt,hb1];revert h;cases p.bad with
 | true =>
   intro h;simp only [cond_true,Du] at h;exact h
 | false =>
   simp only [cond_false,Bool.not_false,cond_true];cases jB p.tx with
  | none=>intro h;cases h
  | some ok =>
    cases ok with
   | false =>
     intro h;simp only [cond_false,Du] at h;exact h
   | true =>
     intro h;simp only [cond_true] at h;show (nxQ () (jo s p) fun _ p1=>gWq k ((s,p1),w.1,Ff w.2 p.tx)).sel=some x;cases e2:jo s p with
    | stuck=>rw [e2] at h;cases h
    | pan a=>rw [e2] at h;cases h
    | ret y p2 =>
      rw [e2] at h;rw [MA,Ny];have hb2:Nat.ble (wNq (Ff w.2 p.tx)+k) qu=true:=Nat.ble_eq.mpr (by rw [joj];omega)
      simp only;rw [hb2];simp only [cond_true];simp only [PR.bind] at h;cases e3:yj (jo s) k p2 with
     | stuck=>rw [e3] at h;cases h
     | pan a=>rw [e3] at h;cases h
     | ret l q =>
       rw [e3] at h;simp only [jdr] at h;exact h
theorem jnY {E:ByteArray->QS->PR QS RX} {B:ByteArray->QS->PR QS (List RS)} (hE:jn Tryz.prog 137 (localG 89 (UOq E))) (hB:jn Tryz.prog 41 (localG 89 (UBq B))):∀ k,CoreOk Tryz.prog 95 0 3 SWq SWq (gWq k) :=
 CoreOk.fuel (A:=AWq) aWq h95 (x95 hE hB) 10 (fun c=>by
  obtain ⟨⟨s,p⟩,w⟩:=c;rw [Ny];cases Nat.ble (wNq w.2+0) qu<;>rfl) (jlM E B)
theorem jrm {E:ByteArray->QS->PR QS RX} {B:ByteArray->QS->PR QS (List RS)} (hE:jn Tryz.prog 137 (localG 89 (UOq E))) (hB:jn Tryz.prog 41 (localG 89 (UBq B))) (k:Nat):XOk Tryz.prog (X95 E B [((95,0),j4 AWq (gWq k))]) :=
 (x95 hE hB).lxCons ((jnY hE hB k).lx aWq)
def lfQ (cs:List CV) (s:ByteArray) (p:QS):Tree (Out × List CV):=.leaf (.ret (.one (.agg cs)),yB s p)
def Bd:List ByteArray->Val
 | []=>Val.zero
 | x::l'=>QJ 1 (zk x) l'
def t95 (E:ByteArray->QS->PR QS RX) (B:ByteArray->QS->PR QS (List RS)) (k:Nat) (s:ByteArray) (p:QS):Tree (Out × List CV) :=
 let nx:=jo s
 let K:CV:=.str p.tx
 let A:CV:=.int .i64 p.pos
 let z:List CV:=[.str (bs []),.int .i64 0,.nils]
 let wC:=fun w:List ByteArray=>CV.sl [.str] w.length (zK w)
 let DO:=nxQ () (nx p) fun _ p1=>nxQ [] (kj nx p1) fun w p2=>nxQ false (zE nx Ha p2) fun c p3 =>
  .br c (nxQ [] (B s p3) fun l p4=>nxQ () (jN nx j9 p4) fun _ p5=>lfQ ([K,wC w]++z++[blC l,.nils,A]) s p5)
   (nxQ () (jN nx j9 p3) fun _ p4=>lfQ ([K,wC w]++z++[.nils,.nils,A]) s p4)
 let IF:=nxQ () (nx p) fun _ p1=>nxQ dX (E s p1) fun e p2=>nxQ [] (B s p2) fun l p3=>nxQ false (zE nx O9 p3) fun c p4 =>
  .br c (nxQ [] (B s p4) fun r p5=>lfQ ([K,.nils]++e.cells++[blC l,blC r,A]) s p5) (lfQ ([K,.nils]++e.cells++[blC l,.nils,A]) s p4)
 let REP:=nxQ () (nx p) fun _ p1=>nxQ 0 (Jr nx 99 p1) fun n p2=>nxQ [] (B s p2) fun l p3=>lfQ [K,.nils,.str qW,.int .i64 n,.nils,blC l,.nils,A] s p3
 let REQ:=nxQ () (nx p) fun _ p1=>nxQ dX (E s p1) fun e p2=>nxQ () (jN nx j9 p2) fun _ p3=>lfQ ([K,.nils]++e.cells++[.nils,.nils,A]) s p3
 let SAY:=nxQ () (nx p) fun _ p1=>.need (Nat.ble (0+k) qu) (nxQ [] (yj nx k p1) fun l p2 =>
  .br l.isEmpty (.br true (nxQ () (jN nx j9 (jW p2)) fun _ p3=>lfQ ([K,.nils]++z++[.nils,.nils,A]) s p3) (nxQ () (jN nx j9 p2) fun _ p3=>lfQ ([K,.nils]++z++[.nils,.nils,A]) s p3))
   (.br (ja l.length==0) (nxQ () (jN nx j9 (jW p2)) fun _ p3=>lfQ ([K,.sl [.str] l.length (Bd l)]++z++[.nils,.nils,A]) s p3)
    (nxQ () (jN nx j9 p2) fun _ p3=>lfQ ([K,.sl [.str] l.length (Bd l)]++z++[.nils,.nils,A]) s p3)))
 .br (jb p.tx wDo) DO (.br (jb p.tx wIf) IF (.br (jb p.tx qQ) REP (.br (jb p.tx qo) REQ (.br (jb p.tx kx) SAY (lfQ ([K,.nils]++z++[.nils,.nils,A]) s (jW p))))))
theorem jpf (E : ByteArray -> QS -> PR QS RX) (B : ByteArray -> QS -> PR QS (List RS)) (k : Nat) (s t : ByteArray) (a e : Int) (b : Bool) :
  qX Tryz.prog H95 (X95 E B [((95,0),j4 AWq (gWq k))]) 10 95 89 [] [.str s,.str t,.int .i64 a,.int .i64 e,.bool b]=t95 E B k s ⟨t,a,e,b⟩:=by kernel_rfl
theorem ke {cs:List CV} {s:ByteArray} {p:QS} {x:RS} (h:LeL cs x.cells):TellQ (lfQ cs s p) encR s (.ret x p):=⟨_,rfl,.ret (Jq (.agg h)) LeL.refl rfl⟩
theorem jgm (x:ByteArray) (l:List ByteArray):leC (.sl [.str] (x::l).length (Bd (x::l))) (.sl [.str] (x::l).length (zK (x::l))):=by
 have h1:RowIs (zk x) [x]:=by
  intro i y hy
  match i,hy with
  | 0,hy=>exact Option.some.inj hy
  | i+1,hy=>simp [nth] at hy
 exact (GJ l [x] (zk x) h1).leC
abbrev jii (E:ByteArray->QS->PR QS RX) (B:ByteArray->QS->PR QS (List RS)) (k:Nat) (s:ByteArray) (p:QS):PR QS RS:=ko (jo s) AR (E s) (B s) k p
theorem jrb {E : ByteArray -> QS -> PR QS RX} {B : ByteArray -> QS -> PR QS (List RS)} (hE : jn Tryz.prog 137 (localG 89 (UOq E))) (hB : jn Tryz.prog 41 (localG 89 (UBq B))) (k : Nat) (hk : k <= qu) :
  jn Tryz.prog 95 (localG 89 (yz dS encR (Je (jii E B k)))):=Xj h95 (jrm hE hB k) 10 95 fun s t a e b=>by
 rw [jpf];unfold t95 jii ko;refine TellQ.cond ?_ (TellQ.cond ?_ (TellQ.cond ?_ (TellQ.cond ?_ (TellQ.cond ?_ (ke ?_)))))
 ·refine TellQ.bind fun _ p1=>TellQ.bind fun w p2=>TellQ.bind fun c p3=>TellQ.cond (TellQ.bind fun l p4=>TellQ.bind fun _ p5=>ke ?_) (TellQ.bind fun _ p4=>ke ?_)
  ·exact le8 leC.refl leC.refl leC.refl leC.refl jC leC.refl jC leC.refl
  ·exact le8 leC.refl leC.refl leC.refl leC.refl jC jC jC leC.refl
 ·refine TellQ.bind fun _ p1=>TellQ.bind fun e p2=>TellQ.bind fun l p3=>TellQ.bind fun c p4=>TellQ.cond (TellQ.bind fun r p5=>ke ?_) (ke ?_)
  ·exact le8 leC.refl jC leC.refl leC.refl leC.refl leC.refl leC.refl leC.refl
  ·exact le8 leC.refl jC leC.refl leC.refl leC.refl leC.refl jC leC.refl
 ·refine TellQ.bind fun _ p1=>TellQ.bind fun n p2=>TellQ.bind fun l p3=>ke ?_;exact le8 leC.refl jC leC.refl leC.refl jC leC.refl jC leC.refl
 ·refine TellQ.bind fun _ p1=>TellQ.bind fun e p2=>TellQ.bind fun _ p3=>ke ?_;exact le8 leC.refl jC leC.refl leC.refl leC.refl jC jC leC.refl
 ·refine TellQ.bind fun _ p1=>TellQ.nd (Nat.ble_eq.mpr (by omega)) (TellQ.bind fun l p2 => ?_)
  cases l with
  | nil =>
    refine TellQ.sel (T':=nxQ () (jN (jo s) j9 (jW p2)) fun _ p3=>lfQ ([.str t,.nils]++[.str (bs []),.int .i64 0,.nils]++[.nils,.nils,.int .i64 a]) s p3) rfl (TellQ.bind (x:=jN (jo s) j9 (jW p2)) fun _ p3=>ke ?_);exact le8 leC.refl jC leC.refl leC.refl jC jC jC leC.refl
  | cons x l =>
    have h0:(ja (x::l).length==0)=false:=by
     unfold ja;simp only [List.length_cons];exact beq_eq_false_iff_ne.2 (by intro h;have:((l.length+1:Nat):Int)=0:=h;omega)
    refine TellQ.sel (T':=.br (ja (x::l).length==0) (nxQ () (jN (jo s) j9 (jW p2)) fun _ p3=>lfQ ([.str t,.sl [.str] (x::l).length (Bd (x::l))]++[.str (bs []),.int .i64 0,.nils]++[.nils,.nils,.int .i64 a]) s p3)
     (nxQ () (jN (jo s) j9 p2) fun _ p3=>lfQ ([.str t,.sl [.str] (x::l).length (Bd (x::l))]++[.str (bs []),.int .i64 0,.nils]++[.nils,.nils,.int .i64 a]) s p3)) rfl ?_
    rw [h0];refine TellQ.sel (T':=nxQ () (jN (jo s) j9 p2) fun _ p3=>lfQ ([.str t,.sl [.str] (x::l).length (Bd (x::l))]++[.str (bs []),.int .i64 0,.nils]++[.nils,.nils,.int .i64 a]) s p3) rfl (TellQ.bind (x:=jN (jo s) j9 p2) fun _ p3=>ke ?_);exact le8 leC.refl (jgm x l) leC.refl leC.refl jC jC jC leC.refl
 ·exact le8 leC.refl jC leC.refl leC.refl jC jC jC leC.refl
abbrev jmn (K d:Nat) (s:ByteArray) (p:QS):PR QS RS:=(Gx (jo s) AR K d).1 p
abbrev Nl (K d:Nat) (s:ByteArray) (p:QS):PR QS (List RS):=(Gx (jo s) AR K d).2 p
theorem jis (K:Nat) (hk:K<=qu):∀ d,jn Tryz.prog 95 (localG 89 (yz dS encR (Je (jmn K d))))∧jn Tryz.prog 41 (localG 89 (UBq (Nl K d)))
 | 0=>⟨K3 95,K3 41⟩
 | d + 1 => by
   obtain ⟨_,h2⟩:=jis K hk d;have hE:=(jid K K).2;have hs:jn Tryz.prog 95 (localG 89 (yz dS encR (Je (jmn K (d+1))))):=jrb hE h2 K hk;exact ⟨hs,jqV hs K hk⟩
def kK (w:ByteArray):Nat :=
 bif jb w qW then 1 else bif (jb w zA||(jb w qq||(jb w yh||(jb w zD||jb w qB)))) then 2
  else bif (jb w qT||jb w yA) then 3 else bif jb w yy then 4
   else bif (jb w wOr||(jb w yw||(jb w wEq||(jb w wLt||(jb w wGt||(jb w yD||jb w zc)))))) then 5 else 0
def W5:Nat->Int
 | 4=>1
 | 5=>2
 | _=>0
def Lf:Nat->Int
 | 1=>1073741824
 | 2=>9
 | _=>0
def jie (c:Nat):AV:=.tup [.c (.int .i64 (W5 c)),.c (.int .i64 (Lf c)),.c (.bool (!(Nat.beq c 0)))]
def jcc:List A1->Option AV
 | [.c (.str w)]=>some (jie (kK w))
 | _=>none
def jfU (w:ByteArray):Tree AV :=
 let L:=fun (a b:Int) (c:Bool)=>Tree.leaf (AV.tup [.c (.int .i64 a),.c (.int .i64 b),.c (.bool c)])
 let Z:=L 0 0 false
 let A5:=L 2 0 true
 let R5:=.br (jb w wOr) (.br (jb w wOr) A5 Z) (.br (jb w yw) (.br (jb w yw) A5 Z) (.br (jb w wEq) (.br (jb w wEq) A5 Z) (.br (jb w wLt) (.br (jb w wLt) A5 Z)
  (.br (jb w wGt) (.br (jb w wGt) A5 Z) (.br (jb w yD) (.br (jb w yD) A5 Z) (.br (jb w zc) A5 Z))))))
 let R4:=.br (jb w yy) (L 1 0 true) R5
 let R3:=.br (jb w qT) (.br (jb w qT) (L 0 0 true) R4) (.br (jb w yA) (L 0 0 true) R4)
 let B:=L 0 9 true
 let R2:=.br (jb w zA) (.br (jb w zA) B R3) (.br (jb w qq) (.br (jb w qq) B R3) (.br (jb w yh) (.br (jb w yh) B R3) (.br (jb w zD) (.br (jb w zD) B R3) (.br (jb w qB) B R3))))
 .br (jb w qW) (L 0 1073741824 true) R2
theorem jj3 (w:ByteArray):(jU Tryz.prog h00 10 155 [.c (.str w)] []).vals=jfU w:=by kernel_rfl
theorem jf9 (w:ByteArray):(jfU w).All (fun z=>z=jie (kK w)):=by
 unfold jfU kK;cases jb w qW with
 | true=>exact jk rfl rfl
 | false =>
 cases jb w zA with
 | true=>exact jk rfl rfl
 | false =>
 cases jb w qq with
 | true=>exact jk rfl rfl
 | false =>
 cases jb w yh with
 | true=>exact jk rfl rfl
 | false =>
 cases jb w zD with
 | true=>exact jk rfl rfl
 | false =>
 cases jb w qB with
 | true=>exact jk rfl rfl
 | false =>
 cases jb w qT with
 | true=>exact jk rfl rfl
 | false =>
 cases jb w yA with
 | true=>exact jk rfl rfl
 | false =>
 cases jb w yy with
 | true=>exact jk rfl rfl
 | false =>
 cases jb w wOr with
 | true=>exact jk rfl rfl
 | false =>
 cases jb w yw with
 | true=>exact jk rfl rfl
 | false =>
 cases jb w wEq with
 | true=>exact jk rfl rfl
 | false =>
 cases jb w wLt with
 | true=>exact jk rfl rfl
 | false =>
 cases jb w wGt with
 | true=>exact jk rfl rfl
 | false =>
 cases jb w yD with
 | true=>exact jk rfl rfl
 | false =>
 cases jb w zc with
 | true=>exact jk rfl rfl
 | false=>exact jk rfl rfl
theorem jog:PcOne Tryz.prog 155 jcc:=zW (H:=h00) HdOk.nil 10 155 fun args r h=>by
 unfold jcc at h;split at h
 ·rename_i w;have hr:=Option.some.inj h;refine ⟨by rw [← hr];rfl,_,jj3 w,?_⟩
  rw [← hr];exact jf9 w
 ·cases h
def yd (ρ:Val) (i:Nat):RX:=⟨((ρ.at i).at 0).S [],((ρ.at i).at 1).N [],((ρ.at i).at 2).L [],(ρ.at i).at 2⟩
abbrev RE:=RX->Int->Option Int
def kA (R:RE):List A1->Option (Bool × AV)
 | [.agg [.str o,.int .i64 v,.sl es n ρ],.c (.int .i64 d)]=>if shEq.shsEq es (aw 0) then some (opD (R ⟨o,v,n,ρ⟩ d),.one (.c (.int .i64 (opN (R ⟨o,v,n,ρ⟩ d))))) else none
 | _=>none
abbrev Xw:=Int × Int × (Nat × Val) × Int × Int
def jf8 (c:Xw):St:=mkS 57 [(1,.one (.c (.int .i64 c.1))),(4,.one (.c (.int .i64 c.2.1))),(43,.one (.c (.sl (aw 0) c.2.2.1.1 c.2.2.1.2))),(44,.one (.c (.int .i64 c.2.2.2.1))),(45,.one (.c (.int .i64 c.2.2.2.2)))] []
def Dc:List (Nat × AV)->Mem->Option Xw
 | [(1,.one (.c (.int .i64 d))),(4,.one (.c (.int .i64 r))),(43,.one (.c (.sl es n ρ))),(44,.one (.c (.int .i64 l))),(45,.one (.c (.int .i64 i)))],[]=>if shEq.shsEq es (aw 0) then some (d,r,(n,ρ),l,i) else none
 | _,_=>none
theorem jel:∀ l m c,Dc l m=some c->mkS 57 l m=jf8 c:=by
 intro l m c h;unfold Dc at h;split at h
 ·split at h
  ·rename_i hs;cases h;rw [jm hs];rfl
  ·cases h
 ·cases h
def jfm (v:Int):St:=mkS 57 [(4,.one (.c (.int .i64 v)))] []
def NY:List (Nat × AV)->Mem->Option Int
 | [(4,.one (.c (.int .i64 v)))],[]=>some v
 | _,_=>none
theorem jaI:∀ l m c,NY l m=some c->mkS 57 l m=jfm c:=by
 intro l m c h;unfold NY at h;split at h
 ·cases h;rfl
 ·cases h
def A135:Sx.Frame Xw Int:=⟨0,57,[1,4,43,44,45],Dc,jf8,[4],NY,jfm⟩
theorem job:A135.Ok:=.of_eq jel jaI
noncomputable abbrev LN (R:RE):Hd:=⟨[(155,oG jcc)],[(135,nG (kA R))],[],[]⟩
theorem jn1 {R:RE} (hR:jj Tryz.prog 135 (nG (kA R))):HdOk Tryz.prog (LN R):=(HdOk.nil.ucCons hR).pcCons jog
def jpt (R:RE) (g:Xw->Tree (XP × Int)) (c:Xw):Tree (XP × Int) :=
 let x:=R (yd c.2.2.1.2 c.2.2.2.2.toNat) (IntKind.wrap .i64 (c.1+1))
 .br (lt c.2.2.2.2 c.2.2.2.1) (.need (jc c.2.2.2.2 c.2.2.1.1) (.need (opD x) (.br (opN x != 0) (.leaf (.ret,opN x)) (g (c.1,c.2.1,c.2.2.1,c.2.2.2.1,IntKind.wrap .i64 (c.2.2.2.2+1)))))) (.leaf (.exit 1,c.2.1))
theorem jkg (R:RE) (g:Xw->Tree (XP × Int)) (d r:Int) (n:Nat) (ρ:Val) (l i:Int):ju A135 Tryz.prog (LN R) X0 10 135 0 g (d,r,(n,ρ),l,i)=jpt R g (d,r,(n,ρ),l,i):=by kernel_rfl
def Qi (R:RE) (n:Nat) (ρ:Val) (l d:Int):Nat->Int->Option Int
 | 0,_=>none
 | k + 1, i => bif lt i l then (bif jc i n then (match R (yd ρ i.toNat) (IntKind.wrap .i64 (d + 1)) with
   | some x=>bif x != 0 then some x else Qi R n ρ l d k (IntKind.wrap .i64 (i+1))
   | none=>none) else none) else some 0
def L5 (R:RE) (k:Nat) (c:Xw):Tree (XP × Int) :=
 let x:=Qi R c.2.2.1.1 c.2.2.1.2 c.2.2.2.1 c.1 k c.2.2.2.2
 .need (opD x) (.br (opN x != 0) (.leaf (.ret,opN x)) (.leaf (.exit 1,c.2.1)))
theorem D2 (R : RE) (k : Nat) (c : Xw) : (L5 R k c).sel = match Qi R c.2.2.1.1 c.2.2.1.2 c.2.2.2.1 c.1 k c.2.2.2.2 with
  | some x=>some (bif x != 0 then (.ret,x) else (.exit 1,c.2.1))
  | none=>none:=by
 unfold L5;cases Qi R c.2.2.1.1 c.2.2.1.2 c.2.2.2.1 c.1 k c.2.2.2.2 with
 | none=>rfl
 | some x =>
   show (bif true then (bif x != 0 then some _ else some _) else none)=_;simp only;cases (x != 0)<;>rfl
theorem jkn (R:RE) (k:Nat) (c:Xw) (x:XP × Int) (h:(L5 R (k+1) c).sel=some x):(ju A135 Tryz.prog (LN R) X0 10 135 0 (L5 R k) c).sel=some x:=by
 obtain ⟨d,r,⟨n,ρ⟩,l,i⟩:=c;rw [jkg];rw [D2] at h;unfold Qi at h;unfold jpt;simp only [jK,jt,jE,D2];revert h;cases lt i l with
 | false=>exact fun h=>h
 | true =>
   cases jc i n with
  | false=>exact fun h=>h
  | true =>
    cases R (yd ρ i.toNat) (IntKind.wrap .i64 (d+1)) with
   | none=>exact fun h=>h
   | some y =>
     simp only [cond_true,opD,opN];cases hy:(y != 0) with
    | true=>simp only [cond_true,hy];exact fun h=>h
    | false=>simp only [cond_false];exact fun h=>h
theorem jkv {R:RE} (hR:jj Tryz.prog 135 (nG (kA R))):∀ k,CoreOk Tryz.prog 135 0 0 jf8 jfm (L5 R k) :=
 CoreOk.fuel (A:=A135) job (jn1 hR) x0 10 (fun _=>rfl) (jkn R)
def jiz (R:RE) (c:Xw):Tree (XP × Int):=L5 R (c.2.2.1.1+1) c
def jcD (R:RE):HdP:=⟨[],[],[],[((135,0),j4 A135 (jiz R))],[],0,[]⟩
theorem jrH {R:RE} (hR:jj Tryz.prog 135 (nG (kA R))):XOk Tryz.prog (jcD R):=XOk.nil.lxCons (CoreOk.lx (g:=jiz R) job fun fn c b h1 h2 h3 c0 x hx=>jkv hR _ fn c b h1 h2 h3 c0 x hx)
def WV (e:RX):Bool :=
 let c:=kK e.op
 bif bif bif !(!(Nat.beq c 0)) then true else ja e.n != W5 c then true else lt e.v 0 then true else lt (Lf c) e.v
def ZS (R:RE) (e:RX) (d:Int):Option Int:=bif WV e then some 3 else bif lt 32 d then some 28 else Qi R e.n e.ρ (ja e.n) d (e.n+1) 0
def jgi (R:RE) (e:RX) (d:Int):Tree AV :=
 let x:=Qi R e.n e.ρ (ja e.n) d (e.n+1) 0
 .br (WV e) (.leaf (.one (.c (.int .i64 3)))) (.br (lt 32 d) (.leaf (.one (.c (.int .i64 28)))) (.need (opD x) (.br (opN x != 0) (.leaf (.one (.c (.int .i64 (opN x))))) (.leaf (.one (.c (.int .i64 0)))))))
theorem jkt (R:RE) (o:ByteArray) (v:Int) (n:Nat) (ρ:Val) (d:Int):jI Tryz.prog (LN R) (jcD R) 10 135 [.agg [.str o,.int .i64 v,.sl (aw 0) n ρ],.c (.int .i64 d)]=jgi R ⟨o,v,n,ρ⟩ d:=by kernel_rfl
theorem KN {R:RE} {args:List A1} {r:AV} (h:kA R args=some (true,r)):∃ o v n ρ d,args=[.agg [.str o,.int .i64 v,.sl (aw 0) n ρ],.c (.int .i64 d)]∧opD (R ⟨o,v,n,ρ⟩ d)=true∧r=.one (.c (.int .i64 (opN (R ⟨o,v,n,ρ⟩ d)))):=by
 unfold kA at h;split at h
 ·split at h
  ·rename_i o v es n ρ d hs;simp only [sIq,pIq] at h;exact ⟨o,v,n,ρ,d,by rw [jm hs],h.1,h.2.symm⟩
  ·cases h
 ·cases h
theorem jfa (R:RE) (e:RX) (d:Int) (h:opD (ZS R e d)=true):(jgi R e d).All (fun x=>leA x (.one (.c (.int .i64 (opN (ZS R e d)))))):=by
 unfold jgi;unfold ZS at h ⊢;revert h;cases WV e with
 | true=>exact fun _=>jk rfl leA.refl
 | false =>
   cases lt 32 d with
  | true=>exact fun _=>jk rfl leA.refl
  | false =>
    simp only [cond_false];cases Qi R e.n e.ρ (ja e.n) d (e.n+1) 0 with
   | none=>exact fun h=>by cases h
   | some x =>
     intro _;refine ⟨fun h=>(by cases h),fun _=>⟨fun h=>(by cases h),fun _=>⟨rfl,?_⟩⟩⟩
     show Tree.All _ (Tree.br (x != 0) (.leaf (AV.one (.c (.int .i64 x)))) (.leaf (AV.one (.c (.int .i64 0)))));refine ⟨fun _=>leA.refl,fun h => ?_⟩
     have:x=0:=by simpa using h
     subst this;exact leA.refl
theorem jq9 {R:RE} {args:List A1} {r:AV} (h:kA (ZS R) args=some (true,r)):(jI Tryz.prog (LN R) (jcD R) 10 135 args).All (fun x=>leA x r):=by
 obtain ⟨o,v,n,ρ,d,e1,h1,e2⟩:=KN h;rw [e1,e2,jkt];exact jfa R ⟨o,v,n,ρ⟩ d h1
theorem jpJ {R:RE} (hR:jj Tryz.prog 135 (nG (kA R))):jj Tryz.prog 135 (nG (kA (ZS R))):=by
 refine jz (H:=LN R) (X:=jcD R) (jn1 hR) (jrH hR) 10 135 ?_;intro args r h;exact jq9 h
def yb:Nat->RE
 | 0=>fun _ _=>none
 | f+1=>ZS (yb f)
theorem jhS:∀ f,jj Tryz.prog 135 (nG (kA (yb f)))
 | 0 => by
   intro args r h;obtain ⟨o,v,n,ρ,d,_,h1,_⟩:=KN (zn h);cases h1
 | f+1=>jpJ (jhS f)
abbrev RC:=Nat->Val->Option (Int × Int)
def cD:Option (Int × Int)->Bool | some _=>true | none=>false
def cA:Option (Int × Int)->Int | some (a,_)=>a | none=>0
def cB:Option (Int × Int)->Int | some (_,b)=>b | none=>0
def G89 (R:RC):List A1->Option (Bool × AV)
 | [.c (.sl es n ρ)]=>if shEq.shsEq es (aw 1) then some (cD (R n ρ),.tup [.c (.int .i64 (cA (R n ρ))),.c (.int .i64 (cB (R n ρ)))]) else none
 | _=>none
theorem Il {R:RC} {args:List A1} {r:AV} (h:G89 R args=some (true,r)):∃ n ρ,args=[.c (.sl (aw 1) n ρ)]∧cD (R n ρ)=true∧r=.tup [.c (.int .i64 (cA (R n ρ))),.c (.int .i64 (cB (R n ρ)))]:=by
 unfold G89 at h;split at h
 ·split at h
  ·rename_i es n ρ hs;simp only [sIq,pIq] at h;exact ⟨n,ρ,by rw [jm hs],h.1,h.2.symm⟩
  ·cases h
 ·cases h
abbrev C89:=Int × Int × (Nat × Val) × Int × Int
def S89 (c:C89):St:=mkS 45 [(4,.one (.c (.int .i64 c.1))),(5,.one (.c (.int .i64 c.2.1))),(12,.one (.c (.sl (aw 1) c.2.2.1.1 c.2.2.1.2))),(13,.one (.c (.int .i64 c.2.2.2.1))),(14,.one (.c (.int .i64 c.2.2.2.2)))] []
def ja7:List (Nat × AV)->Mem->Option C89
 | [(4,.one (.c (.int .i64 a))),(5,.one (.c (.int .i64 b))),(12,.one (.c (.sl es n ρ))),(13,.one (.c (.int .i64 l))),(14,.one (.c (.int .i64 i)))],[]=>if shEq.shsEq es (aw 1) then some (a,b,(n,ρ),l,i) else none
 | _,_=>none
theorem jfr:∀ l m c,ja7 l m=some c->mkS 45 l m=S89 c:=by
 intro l m c h;unfold ja7 at h;split at h
 ·split at h
  ·rename_i hs;cases h;rw [jm hs];rfl
  ·cases h
 ·cases h
def E89 (v:Int × Int):St:=mkS 45 [(4,.one (.c (.int .i64 v.1))),(5,.one (.c (.int .i64 v.2)))] []
def Dq:List (Nat × AV)->Mem->Option (Int × Int)
 | [(4,.one (.c (.int .i64 v))),(5,.one (.c (.int .i64 u)))],[]=>some (v,u)
 | _,_=>none
theorem jej:∀ l m c,Dq l m=some c->mkS 45 l m=E89 c:=by
 intro l m c h;unfold Dq at h;split at h
 ·cases h;rfl
 ·cases h
def A89:Sx.Frame C89 (Int × Int):=⟨0,45,[4,5,12,13,14],ja7,S89,[4,5],Dq,E89⟩
theorem a89:A89.Ok:=.of_eq jfr jej
noncomputable abbrev H89 (R:RC):Hd:=⟨[],[(89,nG (G89 R))],[],[]⟩
theorem h89 {R:RC} (hR:jj Tryz.prog 89 (nG (G89 R))):HdOk Tryz.prog (H89 R):=HdOk.nil.ucCons hR
def Jz (ρ:Val) (i:Nat):Nat:=((ρ.at i).at 5).L []
def JI (ρ:Val) (i:Nat):Val:=(ρ.at i).at 5
def Jv (ρ:Val) (i:Nat):Nat:=((ρ.at i).at 6).L []
def JV (ρ:Val) (i:Nat):Val:=(ρ.at i).at 6
def jbN (a a1 b1:Int):Int:=IntKind.wrap .i64 (IntKind.wrap .i64 (IntKind.wrap .i64 (a+1)+a1)+b1)
def jbs (b x y:Int):Int:=Vj b (IntKind.wrap .i64 (1+Vj x y))
def r89 (R:RC) (g:C89->Tree (XP × (Int × Int))) (c:C89):Tree (XP × (Int × Int)) :=
 let ρ:=c.2.2.1.2
 let i:=c.2.2.2.2
 let u:=R (Jz ρ i.toNat) (JI ρ i.toNat)
 let v:=R (Jv ρ i.toNat) (JV ρ i.toNat)
 .br (lt i c.2.2.2.1) (.need (jc i c.2.2.1.1) (.need (cD u) (.need (cD v) (g (jbN c.1 (cA u) (cA v),jbs c.2.1 (cB u) (cB v),c.2.2.1,c.2.2.2.1,IntKind.wrap .i64 (i+1)))))) (.leaf (.exit 0,(c.1,c.2.1)))
theorem jnZ (R:RC) (g:C89->Tree (XP × (Int × Int))) (a b:Int) (n:Nat) (ρ:Val) (l i:Int):ju A89 Tryz.prog (H89 R) X0 10 89 0 g (a,b,(n,ρ),l,i)=r89 R g (a,b,(n,ρ),l,i):=by kernel_rfl
def JY (R:RC) (n:Nat) (ρ:Val) (l:Int):Nat->Int->Int->Int->Option (Int × Int)
 | 0,_,_,_=>none
 | k + 1, i, a, b => bif lt i l then (bif jc i n then (match R (Jz ρ i.toNat) (JI ρ i.toNat), R (Jv ρ i.toNat) (JV ρ i.toNat) with
   | some (a1,x),some (b1,y)=>JY R n ρ l k (IntKind.wrap .i64 (i+1)) (jbN a a1 b1) (jbs b x y)
   | _,_=>none) else none) else some (a,b)
def g89 (R:RC) (k:Nat) (c:C89):Tree (XP × (Int × Int)) :=
 let x:=JY R c.2.2.1.1 c.2.2.1.2 c.2.2.2.1 k c.2.2.2.2 c.1 c.2.1
 .need (cD x) (.leaf (.exit 0,(cA x,cB x)))
theorem jam (R : RC) (k : Nat) (c : C89) : (g89 R k c).sel = match JY R c.2.2.1.1 c.2.2.1.2 c.2.2.2.1 k c.2.2.2.2 c.1 c.2.1 with
  | some (a,b)=>some (.exit 0,(a,b))
  | none=>none:=by
 unfold g89;cases JY R c.2.2.1.1 c.2.2.1.2 c.2.2.2.1 k c.2.2.2.2 c.1 c.2.1 with
 | none=>rfl
 | some x=>obtain ⟨a,b⟩:=x;rfl
theorem jmu (R:RC) (k:Nat) (c:C89) (x:XP × (Int × Int)) (h:(g89 R (k+1) c).sel=some x):(ju A89 Tryz.prog (H89 R) X0 10 89 0 (g89 R k) c).sel=some x:=by
 obtain ⟨a,b,⟨n,ρ⟩,l,i⟩:=c;rw [jnZ];rw [jam] at h;unfold JY at h;unfold r89;simp only [jK,jt,jE,jam];revert h;cases lt i l with
 | false=>exact fun h=>h
 | true =>
   cases jc i n with
  | false=>exact fun h=>h
  | true =>
    simp only;cases R (Jz ρ i.toNat) (JI ρ i.toNat) with
   | none=>exact fun h=>h
   | some u =>
     cases R (Jv ρ i.toNat) (JV ρ i.toNat) with
    | none=>exact fun h=>h
    | some v=>exact fun h=>h
theorem jlx {R:RC} (hR:jj Tryz.prog 89 (nG (G89 R))):∀ k,CoreOk Tryz.prog 89 0 0 S89 E89 (g89 R k) :=
 CoreOk.fuel (A:=A89) a89 (h89 hR) x0 10 (fun _=>rfl) (jmu R)
def jlZ (R:RC) (c:C89):Tree (XP × (Int × Int)):=g89 R (c.2.2.1.1+1) c
def X89 (R:RC):HdP:=⟨[],[],[],[((89,0),j4 A89 (jlZ R))],[],0,[]⟩
theorem x89 {R:RC} (hR:jj Tryz.prog 89 (nG (G89 R))):XOk Tryz.prog (X89 R):=XOk.nil.lxCons (CoreOk.lx (g:=jlZ R) a89 fun fn c b h1 h2 h3 c0 x hx=>jlx hR _ fn c b h1 h2 h3 c0 x hx)
def Nt (R:RC) (n:Nat) (ρ:Val):Option (Int × Int):=JY R n ρ (ja n) (n+1) 0 0 0
def t89 (R:RC) (n:Nat) (ρ:Val):Tree AV:=.need (cD (Nt R n ρ)) (.leaf (.tup [.c (.int .i64 (cA (Nt R n ρ))),.c (.int .i64 (cB (Nt R n ρ)))]))
theorem jor (R:RC) (n:Nat) (ρ:Val):jI Tryz.prog (H89 R) (X89 R) 10 89 [.c (.sl (aw 1) n ρ)]=t89 R n ρ:=by kernel_rfl
theorem u89 {R:RC} {args:List A1} {r:AV} (h:G89 (Nt R) args=some (true,r)):(jI Tryz.prog (H89 R) (X89 R) 10 89 args).All (fun x=>leA x r):=by
 obtain ⟨n,ρ,e1,h1,e2⟩:=Il h;rw [e1,e2,jor];exact ⟨h1,leA.refl⟩
theorem jqt {R:RC} (hR:jj Tryz.prog 89 (nG (G89 R))):jj Tryz.prog 89 (nG (G89 (Nt R))):=by
 refine jz (H:=H89 R) (X:=X89 R) (h89 hR) (x89 hR) 10 89 ?_;intro args r h;exact u89 h
def cntF:Nat->RC
 | 0=>fun _ _=>none
 | f+1=>Nt (cntF f)
theorem p89:∀ f,jj Tryz.prog 89 (nG (G89 (cntF f)))
 | 0 => by
   intro args r h;obtain ⟨n,ρ,_,h1,_⟩:=Il (zn h);cases h1
 | f+1=>jqt (p89 f)
end Go.Proofs.YtiefjlcakpdfeaaGreat