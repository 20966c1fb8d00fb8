/-
 Part PaV of the proof: RbO RbP RbQ RqA RqB.
-/
import Derived.Test.YtiefjlcakpdfeaaGreatPaU
namespace Go.Proofs.YtiefjlcakpdfeaaGreat
open Go Go.Sx Go.RowKit Rb
set_option maxRecDepth 100000
def L2 (l:List RS):AV:=.one (.c (.sl (aw 1) l.length (jR l)))
def encR (x:RS):AV:=.one (.agg x.cells)
def dS:RS:=stR (bs []) [] dX [] [] 0
abbrev Row:=Option (Nat × Val)
def slR:Row->AV
 | none=>.one (.c .nils)
 | some _=>.one (.c (.os 1 8))
def meR:Row->Mem
 | none=>[]
 | some (n,ρ)=>[some (52,[.row false (aw 1) n ρ])]
abbrev CB:=CP × Row
abbrev DB:=CB ⊕ Row
def SB (c:CB):St:=mkS 15 [(0,.one (.c (.ptr 0 0))),(3,slR c.2)] (some (82,qK c.1.1 c.1.2)::meR c.2)
def SBP:DB->St
 | .inl c=>SB c
 | .inr r=>mkS 15 [(0,.one (.c (.ptr 0 0))),(3,slR r)] (some (82,JB)::meR r)
def jbT:List (Nat × AV)->Mem->Option (List CV × Row)
 | [(0,.one (.c (.ptr 0 0))),(3,.one (.c .nils))],[some (82,c0)]=>some (c0,none)
 | [(0,.one (.c (.ptr 0 0))),(3,.one (.c (.os 1 8)))],[some (82,c0),some (52,[.row false es n ρ])]=>if shEq.shsEq es (aw 1) then some (c0,some (n,ρ)) else none
 | _,_=>none
def jgJ (l:List (Nat × AV)) (m:Mem):Option CB:=match jbT l m with
 | some (c0,r)=>(match WY c0 with | some p=>some (p,r) | none=>none)
 | none=>none
def getD (l:List (Nat × AV)) (m:Mem):Option DB:=match jbT l m with
 | some (c0,r)=>(match WY c0 with | some p=>some (.inl (p,r)) | none=>if Hz c0 then some (.inr r) else none)
 | none=>none
theorem OM {l:List (Nat × AV)} {m:Mem} {c0:List CV} {r:Row} (h:jbT l m=some (c0,r)):l=[(0,.one (.c (.ptr 0 0))),(3,slR r)]∧m=some (82,c0)::meR r:=by
 unfold jbT at h;split at h
 ·cases h;exact ⟨rfl,rfl⟩
 ·split at h
  ·rename_i hs;cases h;rw [jm hs];exact ⟨rfl,rfl⟩
  ·cases h
 ·cases h
theorem jjA:∀ l m c,jgJ l m=some c->StWk (mkS 15 l m) (SB c):=by
 intro l m c h;unfold jgJ at h;split at h
 ·rename_i c0 r hr;obtain ⟨rfl,rfl⟩:=OM hr;split at h
  ·rename_i p hp;cases h;rw [JX hp];exact StWk.refl
  ·cases h
 ·cases h
theorem jkU:∀ l m c,getD l m=some c->StWk (mkS 15 l m) (SBP c):=by
 intro l m c h;unfold getD at h;split at h
 ·rename_i c0 r hr;obtain ⟨rfl,rfl⟩:=OM hr;split at h
  ·rename_i p hp;cases h;rw [JX hp];exact StWk.refl
  ·split at h
   ·rename_i h2;cases h;obtain ⟨b1,b2,b3⟩:=Gm h2;exact yk (.cons leAB.refl (.cons leAB.refl .nil)) (yC (b:=0) rfl b2 b1 b3 rfl rfl)
   ·cases h
 ·cases h
def AB:Sx.Frame CB DB:=⟨1,15,[0,3],jgJ,SB,[0,3],getD,SBP⟩
theorem aB:AB.Ok:=⟨jjA,jkU⟩
def NI (n:Nat) (ρ:Val) (x:RS):Val:=Val.cat n ρ (Val.ofFlat 8 x.cells)
def kb:Nat->Val->List RS->Val
 | _,ρ,[]=>ρ
 | n,ρ,x::l=>kb (n+1) (NI n ρ x) l
def JN:Row->List RS->Row
 | some (n,ρ),l=>some (n+l.length,kb n ρ l)
 | none,[]=>none
 | none,x::l=>some (1+l.length,kb 1 (Val.ofFlat 8 x.cells) l)
def kR:Row->Nat
 | none=>0
 | some (n,_)=>n
def Wi:Row->RS->Row
 | some (n,ρ),x=>some (n+1,NI n ρ x)
 | none,x=>some (1,Val.ofFlat 8 x.cells)
theorem XJ (r:Row) (x:RS) (l:List RS):JN r (x::l)=JN (Wi r x) l:=by
 cases r with
 | none=>rfl
 | some q =>
   obtain ⟨n,ρ⟩:=q;show some _=some _;simp only [kb,List.length_cons];rw [show n+(l.length+1)=n+1+l.length by omega]
theorem Y3 (r:Row):JN r []=r:=by
 cases r with
 | none=>rfl
 | some q=>rfl
theorem Ia (r:Row) (x:RS):kR (Wi r x)=kR r+1:=by
 cases r with
 | none=>rfl
 | some q=>rfl
def HL (s:ByteArray) (St:ByteArray->PS->PR PS RS):Nat->PS->List RS
 | 0,_=>[]
 | k+1,p=>match qJ (MP s) Jx p with
  | .ret false p1=>(match St s p1 with
   | .ret x p2=>x::HL s St k p2
   | _=>[])
  | _=>[]
def jpu (s:ByteArray) (r:Row) (l:List RS) (p:PS):Tree (XP × DB):=match r with
 | none=>.br l.isEmpty (.leaf (.exit 0,.inl ((s,p),none))) (.leaf (.exit 0,.inl ((s,p),some (l.length,match l with | []=>Val.zero | x::l'=>kb 1 (Val.ofFlat 8 x.cells) l'))))
 | some (n,ρ)=>.leaf (.exit 0,.inl ((s,p),some (n+l.length,kb n ρ l)))
theorem jfP (s:ByteArray) (r:Row) (l:List RS) (p:PS):(jpu s r l p).sel=some (.exit 0,.inl ((s,p),JN r l)):=by
 cases r with
 | none =>
   cases l with
  | nil=>rfl
  | cons x l=>show some _=some _;simp only [JN,List.length_cons];rw [Nat.add_comm]
 | some q=>rfl
def qu:Nat:=549755813888
def gB (St:ByteArray->PS->PR PS RS) (k:Nat) (c:CB):Tree (XP × DB) :=
 .need (Nat.ble (kR c.2+k) qu) (nxT [] (zU (MP c.1.1) (St c.1.1) k c.1.2) (jpu c.1.1 c.2) (fun a=>.leaf (.pan (Ql a),.inr (JN c.2 (HL c.1.1 St k c.1.2)))))
noncomputable abbrev HBk:Hd:=⟨[lK,pF 32,pF 85,pF 88,pF 35],[],[],[]⟩
theorem hBk:HdOk Tryz.prog HBk:=HdOk.lK ((((HdOk.nil.pF 35).pF 88).pF 85).pF 32)
abbrev XBk (St:ByteArray->PS->PR PS RS):HdP:=⟨(88,localG 82 (uOf dS encR (spU St)))::Gn,[],[],[],[],0,88::[211,133,32,33,85,31]⟩
theorem xBk {St:ByteArray->PS->PR PS RS} (hS:jn Tryz.prog 88 (localG 82 (uOf dS encR (spU St)))):XOk Tryz.prog (XBk St):=(U9 0).loCons hS (LocFn.localG _ _)
def rB (s:ByteArray) (St:ByteArray->PS->PR PS RS) (g:CB->Tree (XP × DB)) (r:Row) (p:PS):Tree (XP × DB) :=
 nxT false (qJ (MP s) Jx p) (fun c p1=>.br (!c) (nxT dS (St s p1) (fun x p2=>.need (Nat.ble ((kR r+1)*144) 140737488355328) (g ((s,p2),Wi r x))) (fun a=>.leaf (.pan (Ql a),.inr r)))
  (.leaf (.exit 0,.inl ((s,p1),r)))) (fun a=>.leaf (.pan (Ql a),.inr r))
theorem jiT (St:ByteArray->PS->PR PS RS) (g:CB->Tree (XP × DB)) (s t:ByteArray) (n a:Int):ju AB Tryz.prog HBk (XBk St) 10 35 0 g ((s,⟨n,t,a⟩),none)=rB s St g none ⟨n,t,a⟩:=by kernel_rfl
theorem jiJ (St:ByteArray->PS->PR PS RS) (g:CB->Tree (XP × DB)) (s t:ByteArray) (n a:Int) (m:Nat) (ρ:Val):ju AB Tryz.prog HBk (XBk St) 10 35 0 g ((s,⟨n,t,a⟩),some (m,ρ))=rB s St g (some (m,ρ)) ⟨n,t,a⟩:=by kernel_rfl
theorem jpG (St:ByteArray->PS->PR PS RS) (g:CB->Tree (XP × DB)) (s:ByteArray) (p:PS) (r:Row):ju AB Tryz.prog HBk (XBk St) 10 35 0 g ((s,p),r)=rB s St g r p:=by
 obtain ⟨n,t,a⟩:=p;cases r with
 | none=>exact jiT St g s t n a
 | some q=>obtain ⟨m,ρ⟩:=q;exact jiJ St g s t n a m ρ
theorem D8 (St : ByteArray -> PS -> PR PS RS) (k : Nat) (s : ByteArray) (p : PS) (r : Row) : (gB St k ((s, p), r)).sel = bif Nat.ble (kR r + k) qu then (match zU (MP s) (St s) k p with
  | .stuck=>none
  | .ret l q=>some (.exit 0,.inl ((s,q),JN r l))
  | .pan a=>some (.pan (Ql a),.inr (JN r (HL s St k p)))) else none:=by
 unfold gB;rw [jt];simp only;cases Nat.ble (kR r+k) qu with
 | false=>rfl
 | true =>
   simp only [cond_true];cases zU (MP s) (St s) k p with
  | stuck=>rfl
  | ret l q=>exact jfP s r l q
  | pan a=>rfl
theorem jp8 (St:ByteArray->PS->PR PS RS) (k:Nat) (c:CB) (x:XP × DB) (h:(gB St (k+1) c).sel=some x):(ju AB Tryz.prog HBk (XBk St) 10 35 0 (gB St k) c).sel=some x:=by
 obtain ⟨⟨s,p⟩,r⟩:=c;rw [jpG];rw [D8] at h
 have hb:Nat.ble (kR r+(k+1)) qu=true:=by
  cases hh:Nat.ble (kR r+(k+1)) qu with
  | true=>rfl
  | false=>rw [hh] at h;cases h
 rw [hb] at h;simp only [cond_true] at h;have hle:=Nat.le_of_ble_eq_true hb;have hb1:Nat.ble ((kR r+1)*144) 140737488355328=true:=Nat.ble_eq.mpr (by unfold qu at hle;omega)
 unfold rB;unfold zU at h;simp only [HL] at h;cases e1:qJ (MP s) Jx p with
 | stuck=>rw [e1] at h;cases h
 | pan a =>
   rw [e1] at h;simp only [PR.bind,Y3] at h;exact h
 | ret c p1 =>
   rw [e1] at h;rw [Z2];cases c with
  | true =>
    simp only [PR.bind,cond_true,Y3] at h;exact h
  | false =>
    simp only [PR.bind,cond_false] at h;rw [jK];simp only [Bool.not_false,cond_true];cases e2:St s p1 with
   | stuck=>rw [e2] at h;cases h
   | pan a =>
     rw [e2] at h;simp only [Y3] at h;exact h
   | ret y p2 =>
     rw [e2] at h;rw [Z2,jt,hb1];simp only [cond_true];rw [D8];have hb2:Nat.ble (kR (Wi r y)+k) qu=true:=Nat.ble_eq.mpr (by rw [Ia];omega)
     rw [hb2];simp only [cond_true];simp only [XJ] at h;cases e3:zU (MP s) (St s) k p2 with
    | stuck=>rw [e3] at h;cases h
    | pan a=>rw [e3] at h;exact h
    | ret l q =>
      rw [e3] at h;simp only [XJ] at h;exact h
theorem jpz {St:ByteArray->PS->PR PS RS} (hS:jn Tryz.prog 88 (localG 82 (uOf dS encR (spU St)))):∀ k,CoreOk Tryz.prog 35 0 1 SB SBP (gB St k) :=
 CoreOk.fuel (A:=AB) aB hBk (xBk hS) 10 (fun c=>by
  obtain ⟨⟨s,p⟩,r⟩:=c;rw [D8];cases Nat.ble (kR r+0) qu<;>rfl) (jp8 St)
abbrev XBl (St:ByteArray->PS->PR PS RS) (k:Nat):HdP:=⟨(88,localG 82 (uOf dS encR (spU St)))::Gn,[],[],[((35,0),j4 AB (gB St k))],[],0,88::[211,133,32,33,85,31]⟩
theorem xBl {St:ByteArray->PS->PR PS RS} (hS:jn Tryz.prog 88 (localG 82 (uOf dS encR (spU St)))) (k:Nat):XOk Tryz.prog (XBl St k):=(xBk hS).lxCons ((jpz hS k).lx aB)
def Tp:List RS->Val
 | []=>Val.zero
 | x::l'=>kb 1 (Val.ofFlat 8 x.cells) l'
def t35 (St:ByteArray->PS->PR PS RS) (k:Nat) (s:ByteArray) (p:PS):Tree (Out × List CV) :=
 nxT () (qR (MP s) Uo p) (fun _ p1=>.need (Nat.ble (0+k) qu) (nxT [] (zU (MP s) (St s) k p1) (fun l p2=>.br l.isEmpty (.leaf (.ret (.one (.c .nils)),qK s p2)) (.leaf (.ret (.one (.c (.sl (aw 1) l.length (Tp l)))),qK s p2))) qc)) qc
theorem joV (St:ByteArray->PS->PR PS RS) (k:Nat) (s t:ByteArray) (n a:Int):qX Tryz.prog HBk (XBl St k) 10 35 82 [] [.str s,.int .i64 n,.str t,.int .i64 a]=t35 St k s ⟨n,t,a⟩:=by kernel_rfl
theorem Ou:∀ (l:List RS) (n:Nat) (ρ:Val) (i:Nat),(i<n->(kb n ρ l).at i=ρ.at i)∧(∀ x,n<=i->nth l (i - n)=some x->(kb n ρ l).at i=(Val.ofFlat 8 x.cells).at 0)
 | [],n,ρ,i=>⟨fun _=>rfl,fun x _ h=>by simp [nth] at h⟩
 | y :: l, n, ρ, i => by
   obtain ⟨h1,h2⟩:=Ou l (n+1) (NI n ρ y) i;have hcat:∀ j,(NI n ρ y).at j=yI (Nat.blt j n) (ρ.at j) ((Val.ofFlat 8 y.cells).at (j - n)):=fun _=>rfl;refine ⟨fun hi => ?_,fun x hi hx => ?_⟩
   ·show (kb (n+1) (NI n ρ y) l).at i=_;rw [h1 (by omega),hcat,show Nat.blt i n=true from Nat.blt_eq.mpr hi]
    rfl
   ·show (kb (n+1) (NI n ρ y) l).at i=_;by_cases he:i=n
    ·subst he;rw [h1 (by omega),hcat]
     rw [Nat.sub_self] at hx ⊢;cases hx
     have hb:Nat.blt i i=false:=by
      cases hh:Nat.blt i i
      ·rfl
      ·have:=Nat.blt_eq.mp hh;omega
     rw [hb];rfl
    ·refine h2 x (by omega) ?_
     rw [show i - n=(i - (n+1))+1 by omega] at hx
     exact hx
theorem Fa {α β:Type} (f:α->List β) (m:Nat) (hf:∀ x,(f x).length=m):∀ (l:List α) (i k:Nat) (x:α),nth l i=some x->k<m->nth (l.flatMap f) (i*m+k)=nth (f x) k
 | [],i,k,x,h,_=>by simp [nth] at h
 | y :: l, 0, k, x, h, hk => by
   simp only [nth,sIq] at h;subst h;rw [List.flatMap_cons,Nat.zero_mul,Nat.zero_add];exact y6 _ _ _ (by rw [hf];exact hk)
 | y :: l, i + 1, k, x, h, hk => by
   rw [List.flatMap_cons,jd,List.getElem?_append_right (by rw [hf];rw [Nat.succ_mul];omega),hf,← jd]
   rw [show (i+1)*m+k - m=i*m+k by rw [Nat.succ_mul];omega]
   exact Fa f m hf l i k x h hk
theorem jk7 (l:List RS) (i k:Nat) (x:RS) (h:nth l i=some x) (hk:k<8):((jR l).at i).at k=((Val.ofFlat 8 x.cells).at 0).at k:=by
 show (match nth (l.flatMap RS.cells) (i*8+k) with | some x=>Val.ofC x | none=>Val.zero)=(match nth x.cells (0*8+k) with | some x=>Val.ofC x | none=>Val.zero)
 rw [Fa RS.cells 8 (fun _=>rfl) l i k x h hk,Nat.zero_mul,Nat.zero_add]
theorem Mq (l:List RS):leA (.one (.c (.sl (aw 1) l.length (Tp l)))) (L2 l):=by
 refine Jq (.c (Lz fun i f s hi hs => ?_));obtain ⟨x,hx⟩:=qF l i hi;have hf:f<8:=js hs;rw [jk7 l i f x hx hf];cases l with
 | nil=>simp [nth] at hx
 | cons y l =>
   show cellOf s (((kb 1 (Val.ofFlat 8 y.cells) l).at i).at f)=_;obtain ⟨h1,h2⟩:=Ou l 1 (Val.ofFlat 8 y.cells) i;cases i with
  | zero =>
    cases hx;rw [h1 (by omega)]
  | succ i=>rw [h2 x (by omega) hx]
abbrev jnV (St:ByteArray->PS->PR PS RS) (k:Nat) (s:ByteArray) (p:PS):PR PS (List RS):=QC (MP s) (St s) k p
theorem jr2 {St:ByteArray->PS->PR PS RS} (hS:jn Tryz.prog 88 (localG 82 (uOf dS encR (spU St)))) (k:Nat) (hk:k<=qu):jn Tryz.prog 35 (localG 82 (uOf [] L2 (spU (jnV St k)))):=Uq hBk (xBl hS k) 10 35 fun s n t a=>by
 rw [joV];refine Tells.bind fun _ p1=>Tells.nd (Nat.ble_eq.mpr (by omega)) ?_
 have:=Tells.bind (d:=([]:List RS)) (enc:=L2) (s:=s) (x:=zU (MP s) (St s) k p1) (K:=fun l p2=>.br l.isEmpty (.leaf (.ret (.one (.c .nils)),qK s p2)) (.leaf (.ret (.one (.c (.sl (aw 1) l.length (Tp l)))),qK s p2))) (f:=fun l p2=>.ret l p2) fun l p2=>by
  cases l with
  | nil=>exact ⟨_,rfl,.ret (Jq (.c fun _ _ _ h=>by cases h;exact .slnil)) LeL.refl rfl⟩
  | cons x l=>exact ⟨_,rfl,.ret (Mq (x::l)) LeL.refl rfl⟩
 cases hx:zU (MP s) (St s) k p1 with
 | stuck=>exact trivial
 | ret v q=>rw [hx] at this;exact this
 | pan b=>rw [hx] at this;exact this
noncomputable abbrev H88:Hd:=⟨[pF 31,pF 32,pF 33,pF 35,pF 36,pF 85,pF 131,pF 132,pF 133],[(87,nG G87)],[],[]⟩
theorem h88:HdOk Tryz.prog H88:=((((((((((HdOk.nil.ucCons p87).pF 133).pF 132).pF 131).pF 85).pF 36).pF 35).pF 33).pF 32).pF 31)
abbrev UBk (B:ByteArray->PS->PR PS (List RS)):=uOf [] L2 (spU B)
abbrev X88 (E:ByteArray->PS->PR PS RX) (B:ByteArray->PS->PR PS (List RS)) (lx:List ((Nat × Nat) × (Nat->St->Tree (XP × St)))):HdP :=
 ⟨(132,localG 82 (UO E))::(35,localG 82 (UBk B))::(131,localG 82 jl9)::Gn,[],[],lx,[],0,132::35::131::[211,133,32,33,85,31]⟩
theorem x88 {E:ByteArray->PS->PR PS RX} {B:ByteArray->PS->PR PS (List RS)} (hE:jn Tryz.prog 132 (localG 82 (UO E))) (hB:jn Tryz.prog 35 (localG 82 (UBk B))):XOk Tryz.prog (X88 E B []) :=
 (((U9 0).loCons jqe (LocFn.localG _ _)).loCons hB (LocFn.localG _ _)).loCons hE (LocFn.localG _ _)
def jfE:List CV:=[.any,.any,.any,.any,.any,.any,.any,.any]
def KL (cs:List CV):Bool:=cs.all closedC&&Nat.beq cs.length 8&&!jf cs
theorem Tc {cs:List CV} (h:KL cs=true):cs.all closedC=true∧jf cs=false∧LeL cs jfE:=by
 simp only [KL,aTq,Bool.not_eq_true'] at h;obtain ⟨⟨h1,h2⟩,h3⟩:=h;have h2:=Nat.eq_of_beq_eq_true h2;refine ⟨h1,h3,?_⟩
 match cs,h2 with
 | [a,b,c,d,e,f,g,i],_=>exact .cons zy (.cons zy (.cons zy (.cons zy (.cons zy (.cons zy (.cons zy (.cons zy .nil)))))))
abbrev WW:=(ByteArray × Int) × (Nat × Val)
abbrev CW:=CP × WW
abbrev DW:=CW ⊕ WW
def jeK (kd:ByteArray) (at_:Int):List CV:=[.str kd,.os 3 1,.str (bs []),.int .i64 0,.nils,.nils,.nils,.int .i64 at_]
def jcB (c0:List CV) (w:WW):Mem:=[some (82,c0),some (52,jfE),some (52,jeK w.1.1 w.1.2),some (9,[.row false [.str] w.2.1 w.2.2])]
def slW:List (Nat × AV):=[(0,.one (.c (.ptr 0 0))),(2,.one (.c (.ptr 1 0))),(3,.one (.c (.ptr 2 0)))]
def SW (c:CW):St:=mkS 99 slW (jcB (qK c.1.1 c.1.2) c.2)
def SWE:DW->St
 | .inl c=>SW c
 | .inr w=>mkS 99 slW (jcB JB w)
def Rf:List (Nat × AV)->Mem->Option (List CV × WW)
 | [(0, .one (.c (.ptr 0 0))), (2, .one (.c (.ptr 1 0))), (3, .one (.c (.ptr 2 0)))], [some (82, c0), some (52, c1), some (52, [.str kd, .os 3 1, .str z, .int .i64 zz, .nils, .nils, .nils, .int .i64 a]), some (9, [.row false [.str] n ρ])] =>
   if KL c1&&jb z (bs [])&&decide (zz=0) then some (c0,(kd,a),(n,ρ)) else none
 | _,_=>none
def jhJ (l:List (Nat × AV)) (m:Mem):Option CW:=match Rf l m with
 | some (c0,w)=>(match WY c0 with | some p=>some (p,w) | none=>none)
 | none=>none
def jbh (l:List (Nat × AV)) (m:Mem):Option DW:=match Rf l m with
 | some (c0,w)=>(match WY c0 with | some p=>some (.inl (p,w)) | none=>if Hz c0 then some (.inr w) else none)
 | none=>none
theorem GM {l:List (Nat × AV)} {m:Mem} {c0:List CV} {w:WW} (h:Rf l m=some (c0,w)):l=slW∧∃ c1,KL c1=true∧m=[some (82,c0),some (52,c1),some (52,jeK w.1.1 w.1.2),some (9,[.row false [.str] w.2.1 w.2.2])]:=by
 unfold Rf at h;split at h
 ·split at h
  ·rename_i hc;simp only [aTq,decide_eq_true_eq] at hc;obtain ⟨⟨h1,h2⟩,h3⟩:=hc;have h2:=Jc h2;subst h2;subst h3;cases h;exact ⟨rfl,_,h1,rfl⟩
  ·cases h
 ·cases h
theorem LO {c0 c1:List CV} {w:WW} (h1:KL c1=true):∀ (P:Program) F W bs,MemRel P F W bs [some (82,c0),some (52,c1),some (52,jeK w.1.1 w.1.2),some (9,[.row false [.str] w.2.1 w.2.2])]->MemRel P F W bs (jcB c0 w):=by
 obtain ⟨a1,a2,a3⟩:=Tc h1;exact yC (b:=1) rfl a2 a1 a3 rfl rfl
theorem jjN:∀ l m c,jhJ l m=some c->StWk (mkS 99 l m) (SW c):=by
 intro l m c h;unfold jhJ at h;split at h
 ·rename_i c0 w hw;obtain ⟨rfl,c1,h1,rfl⟩:=GM hw;split at h
  ·rename_i p hp;cases h;rw [JX hp];exact yk (.cons leAB.refl (.cons leAB.refl (.cons leAB.refl .nil))) (LO h1)
  ·cases h
 ·cases h
theorem jes:∀ l m c,jbh l m=some c->StWk (mkS 99 l m) (SWE c):=by
 intro l m c h;unfold jbh at h;split at h
 ·rename_i c0 w hw;obtain ⟨rfl,c1,h1,rfl⟩:=GM hw;split at h
  ·rename_i p hp;cases h;rw [JX hp];exact yk (.cons leAB.refl (.cons leAB.refl (.cons leAB.refl .nil))) (LO h1)
  ·split at h
   ·rename_i h2;cases h;obtain ⟨b1,b2,b3⟩:=Gm h2;refine yk (.cons leAB.refl (.cons leAB.refl (.cons leAB.refl .nil))) fun P F W bs hm => ?_;exact yC (b:=0) (m:=jcB c0 w) rfl b2 b1 b3 rfl rfl P F W bs (LO h1 P F W bs hm)
   ·cases h
 ·cases h
def AW:Sx.Frame CW DW:=⟨3,99,[0,2,3],jhJ,SW,[0,2,3],jbh,SWE⟩
theorem aW:AW.Ok:=⟨jjN,jes⟩
def rW (s:ByteArray) (g:CW->Tree (XP × DW)) (w:WW) (p:PS):Tree (XP × DW) :=
 let pn:=fun a=>Tree.leaf (XP.pan (Ql a),Sum.inr w)
 nxT false (qJ (MP s) j9 p) (fun c p1=>.br (!c) (.need (obD (jB p1.tx)) (nxT (bs []) (qy (MP s) (obV (jB p1.tx)) p1)
  (fun x p2=>.need (Nat.ble ((w.2.1+1)*16) 140737488355328) (g ((s,p2),w.1,(w.2.1+1,Val.cat w.2.1 w.2.2 (zk x))))) pn)) (.leaf (.exit 1,.inl ((s,p1),w)))) pn
theorem jpE (E : ByteArray -> PS -> PR PS RX) (B : ByteArray -> PS -> PR PS (List RS)) (g : CW -> Tree (XP × DW)) (s t kd : ByteArray) (n a at_ : Int) (m : Nat) (ρ : Val) :
  ju AW Tryz.prog H88 (X88 E B []) 10 88 0 g ((s,⟨n,t,a⟩),(kd,at_),(m,ρ))=rW s g ((kd,at_),(m,ρ)) ⟨n,t,a⟩:=by kernel_rfl
def QJ:Nat->Val->List ByteArray->Val
 | _,ρ,[]=>ρ
 | n,ρ,w::l=>QJ (n+1) (Val.cat n ρ (zk w)) l
def Bj (w:WW) (l:List ByteArray):WW:=(w.1,(w.2.1+l.length,QJ w.2.1 w.2.2 l))
def jia (w:WW) (x:ByteArray):WW:=(w.1,(w.2.1+1,Val.cat w.2.1 w.2.2 (zk x)))
theorem Lp (w:WW) (x:ByteArray) (l:List ByteArray):Bj w (x::l)=Bj (jia w x) l:=by
 obtain ⟨w1,n,ρ⟩:=w;show (_,(_,_))=(_,(_,_));simp only [QJ,List.length_cons,jia];rw [show n+(l.length+1)=n+1+l.length by omega]
def HI (s:ByteArray):Nat->PS->List ByteArray
 | 0,_=>[]
 | k+1,p=>match qJ (MP s) j9 p with
  | .ret false p1=>(match kp (MP s) p1 with
   | .ret x p2=>x::HI s k p2
   | _=>[])
  | _=>[]
def gW (k:Nat) (c:CW):Tree (XP × DW) :=
 .need (Nat.ble (c.2.2.1+k) qu) (nxT [] (yX (MP c.1.1) k c.1.2) (fun l p1=>.leaf (.exit 1,.inl ((c.1.1,p1),Bj c.2 l))) (fun a=>.leaf (.pan (Ql a),.inr (Bj c.2 (HI c.1.1 k c.1.2)))))
theorem Iw (k : Nat) (s : ByteArray) (p : PS) (w : WW) : (gW k ((s, p), w)).sel = bif Nat.ble (w.2.1 + k) qu then (match yX (MP s) k p with
  | .stuck=>none
  | .ret l q=>some (.exit 1,.inl ((s,q),Bj w l))
  | .pan a=>some (.pan (Ql a),.inr (Bj w (HI s k p)))) else none:=by
 unfold gW;rw [jt];simp only;cases Nat.ble (w.2.1+k) qu with
 | false=>rfl
 | true =>
   simp only [cond_true];cases yX (MP s) k p<;>rfl
theorem stepW (E:ByteArray->PS->PR PS RX) (B:ByteArray->PS->PR PS (List RS)) (k:Nat) (c:CW) (x:XP × DW) (h:(gW (k+1) c).sel=some x):(ju AW Tryz.prog H88 (X88 E B []) 10 88 0 (gW k) c).sel=some x:=by
 obtain ⟨⟨s,⟨n,t,a⟩⟩,⟨⟨kd,at_⟩,⟨m,ρ⟩⟩⟩:=c;rw [jpE];rw [Iw] at h
 have hb:Nat.ble (m+(k+1)) qu=true:=by
  cases hh:Nat.ble (m+(k+1)) qu with
  | true=>rfl
  | false=>simp only at h;rw [hh] at h;cases h
 simp only at h;rw [hb] at h;simp only [cond_true] at h;have hle:=Nat.le_of_ble_eq_true hb;have hb1:Nat.ble ((m+1)*16) 140737488355328=true:=Nat.ble_eq.mpr (by unfold qu at hle;omega)
 unfold rW;unfold yX at h;simp only [HI] at h;cases e1:qJ (MP s) j9 ⟨n,t,a⟩ with
 | stuck=>rw [e1] at h;cases h
 | pan b=>rw [e1] at h;exact h
 | ret c p1 =>
   rw [e1] at h;rw [Z2];cases c with
  | true=>exact h
  | false =>
    simp only [PR.bind,cond_false] at h;rw [jK];simp only [Bool.not_false,cond_true];have hpl:kp (MP s) p1=match jB p1.tx with | none=>.stuck | some c=>qy (MP s) c p1:=rfl
    rw [hpl] at h;cases e0:jB p1.tx with
   | none=>rw [e0] at h;cases h
   | some ok =>
     rw [e0] at h;simp only at h;rw [jt];show (bif true then _ else _)=_;simp only [cond_true,obV];cases e2:qy (MP s) ok p1 with
    | stuck=>rw [e2] at h;cases h
    | pan b=>rw [e2] at h;exact h
    | ret y p2 =>
      rw [e2] at h;rw [Z2,jt,hb1];simp only [cond_true];rw [Iw];have hb2:Nat.ble (m+1+k) qu=true:=Nat.ble_eq.mpr (by omega)
      simp only;rw [hb2];simp only [cond_true];simp only [Lp] at h;cases e3:yX (MP s) k p2 with
     | stuck=>rw [e3] at h;cases h
     | pan b=>rw [e3] at h;exact h
     | ret l q =>
       rw [e3] at h;simp only [Lp] at h;exact h
theorem jqf {E:ByteArray->PS->PR PS RX} {B:ByteArray->PS->PR PS (List RS)} (hE:jn Tryz.prog 132 (localG 82 (UO E))) (hB:jn Tryz.prog 35 (localG 82 (UBk B))):∀ k,CoreOk Tryz.prog 88 0 3 SW SWE (gW k) :=
 CoreOk.fuel (A:=AW) aW h88 (x88 hE hB) 10 (fun c=>by
  obtain ⟨⟨s,p⟩,w⟩:=c;rw [Iw];cases Nat.ble (w.2.1+0) qu<;>rfl) (stepW E B)
theorem jrY {E:ByteArray->PS->PR PS RX} {B:ByteArray->PS->PR PS (List RS)} (hE:jn Tryz.prog 132 (localG 82 (UO E))) (hB:jn Tryz.prog 35 (localG 82 (UBk B))) (k:Nat):XOk Tryz.prog (X88 E B [((88,0),j4 AW (gW k))]) :=
 (x88 hE hB).lxCons ((jqf hE hB k).lx aW)
def lfS (cs:List CV) (s:ByteArray) (p:PS):Tree (Out × List CV):=.leaf (.ret (.one (.agg cs)),qK s p)
def blC (l:List RS):CV:=.sl (aw 1) l.length (jR l)
def t88 (E:ByteArray->PS->PR PS RX) (B:ByteArray->PS->PR PS (List RS)) (k:Nat) (s:ByteArray) (p:PS):Tree (Out × List CV) :=
 let K:CV:=.str p.tx
 let A:CV:=.int .i64 p.pos
 let z:List CV:=[.str (bs []),.int .i64 0,.nils]
 let DO:=nxT () (k9 s p) (fun _ p1=>nxT [] (zG (MP s) p1) (fun w p2=>nxT false (qJ (MP s) Ha p2) (fun c p3 =>
  .br c (nxT [] (B s p3) (fun l p4=>nxT () (qR (MP s) j9 p4) (fun _ p5=>lfS ([K,.sl [.str] w.length (zK w)]++z++[blC l,.nils,A]) s p5) qc) qc)
   (nxT () (qR (MP s) j9 p3) (fun _ p4=>lfS ([K,.sl [.str] w.length (zK w)]++z++[.nils,.nils,A]) s p4) qc)) qc) qc) qc
 let IF:=nxT () (k9 s p) (fun _ p1=>nxT dX (E s p1) (fun e p2=>nxT [] (B s p2) (fun l p3=>nxT false (qJ (MP s) O9 p3) (fun c p4 =>
  .br c (nxT [] (B s p4) (fun r p5=>lfS ([K,.nils]++e.cells++[blC l,blC r,A]) s p5) qc) (lfS ([K,.nils]++e.cells++[blC l,.nils,A]) s p4)) qc) qc) qc) qc
 let REP:=nxT () (k9 s p) (fun _ p1=>nxT 0 (yp (MP s) 99 p1) (fun n p2=>nxT [] (B s p2) (fun l p3=>lfS [K,.nils,.str qW,.int .i64 n,.nils,blC l,.nils,A] s p3) qc) qc) qc
 let REQ:=nxT () (k9 s p) (fun _ p1=>nxT dX (E s p1) (fun e p2=>nxT () (qR (MP s) j9 p2) (fun _ p3=>lfS ([K,.nils]++e.cells++[.nils,.nils,A]) s p3) qc) qc) qc
 let SAY:=nxT () (k9 s p) (fun _ p1=>.need (obD (jB p1.tx)) (nxT (bs []) (qy (MP s) (obV (jB p1.tx)) p1) (fun w p2=>.need (Nat.ble (1+k) qu) (nxT [] (yX (MP s) k p2)
  (fun l p3=>lfS ([K,.sl [.str] (1+l.length) (QJ 1 (zk w) l)]++z++[.nils,.nils,A]) s p3) qc)) qc)) qc
 .br (jb p.tx wDo) DO (.br (jb p.tx wIf) IF (.br (jb p.tx qQ) REP (.br (jb p.tx qo) REQ (.br (jb p.tx kx) SAY (qc p.pos)))))
theorem joY (E : ByteArray -> PS -> PR PS RX) (B : ByteArray -> PS -> PR PS (List RS)) (k : Nat) (s t : ByteArray) (n a : Int) :
  qX Tryz.prog H88 (X88 E B [((88,0),j4 AW (gW k))]) 10 88 82 [] [.str s,.int .i64 n,.str t,.int .i64 a]=t88 E B k s ⟨n,t,a⟩:=by kernel_rfl
theorem jC {es:List Sh} {ρ:Val}:leC .nils (.sl es 0 ρ):=fun _ _ _ h=>by cases h;exact .slnil
theorem GJ:∀ (l:List ByteArray) (l0:List ByteArray) (ρ:Val),RowIs ρ l0->RowIs (QJ l0.length ρ l) (l0++l)
 | [],l0,ρ,h=>by rw [List.append_nil];exact h
 | w :: l, l0, ρ, h => by
   have:=GJ l (l0++[w]) (Val.cat l0.length ρ (zk w)) (h.snoc w)
   rw [List.length_append,List.append_assoc] at this;exact this
theorem RowIs.leC {σ:Val} {l:List ByteArray} (h:RowIs σ l):leC (.sl [.str] l.length σ) (.sl [.str] l.length (zK l)):=Lz fun i f s hi hs=>by
 obtain ⟨w,hw⟩:=qF l i hi;cases f with
 | zero =>
   simp only [nth,sIq] at hs;subst hs;have h2:=h i w hw;have h3:=Yw l i w hw;rw [h3];show CV.str _=CV.str _;rw [h2];rfl
 | succ f=>simp [nth] at hs
theorem IT (w:ByteArray) (l:List ByteArray):leC (.sl [.str] (1+l.length) (QJ 1 (zk w) l)) (.sl [.str] (w::l).length (zK (w::l))):=by
 have h1:RowIs (zk w) [w]:=by
  intro i x hx
  match i,hx with
  | 0,hx=>exact Option.some.inj hx
  | i+1,hx=>simp [nth] at hx
 have:=(GJ l [w] (zk w) h1).leC
 have e:([w]++l).length=1+l.length:=by simp;omega
 rw [e] at this;have e2:(w::l).length=1+l.length:=by simp;omega
 rw [e2];exact this
theorem le8 {a1 a2 a3 a4 a5 a6 a7 a8 b1 b2 b3 b4 b5 b6 b7 b8 : CV} (h1 : leC a1 b1) (h2 : leC a2 b2) (h3 : leC a3 b3) (h4 : leC a4 b4) (h5 : leC a5 b5) (h6 : leC a6 b6) (h7 : leC a7 b7) (h8 : leC a8 b8) :
  LeL [a1,a2,a3,a4,a5,a6,a7,a8] [b1,b2,b3,b4,b5,b6,b7,b8]:=.cons h1 (.cons h2 (.cons h3 (.cons h4 (.cons h5 (.cons h6 (.cons h7 (.cons h8 .nil)))))))
theorem JL {cs:List CV} {s:ByteArray} {p:PS} {x:RS} (h:LeL cs x.cells):Tells (lfS cs s p) encR s (.ret x p):=⟨_,rfl,.ret (Jq (.agg h)) LeL.refl rfl⟩
abbrev jnn (E:ByteArray->PS->PR PS RX) (B:ByteArray->PS->PR PS (List RS)) (k:Nat) (s:ByteArray) (p:PS):PR PS RS:=zj (MP s) AR (E s) (B s) k p
theorem jqQ {E : ByteArray -> PS -> PR PS RX} {B : ByteArray -> PS -> PR PS (List RS)} (hE : jn Tryz.prog 132 (localG 82 (UO E))) (hB : jn Tryz.prog 35 (localG 82 (UBk B))) (k : Nat) (hk : k + 1 <= qu) :
  jn Tryz.prog 88 (localG 82 (uOf dS encR (spU (jnn E B k)))):=Uq h88 (jrY hE hB k) 10 88 fun s n t a=>by
 rw [joY];unfold t88 jnn zj;refine Tells.cond ?_ (Tells.cond ?_ (Tells.cond ?_ (Tells.cond ?_ (Tells.cond ?_ Tells.pan))))
 ·refine Tells.bind fun _ p1=>Tells.bind fun w p2=>Tells.bind fun c p3=>Tells.cond (Tells.bind fun l p4=>Tells.bind fun _ p5=>JL ?_) (Tells.bind fun _ p4=>JL ?_)
  ·exact le8 leC.refl leC.refl leC.refl leC.refl jC leC.refl jC leC.refl
  ·exact le8 leC.refl leC.refl leC.refl leC.refl jC jC jC leC.refl
 ·refine Tells.bind fun _ p1=>Tells.bind fun e p2=>Tells.bind fun l p3=>Tells.bind fun c p4=>Tells.cond (Tells.bind fun r p5=>JL ?_) (JL ?_)
  ·exact le8 leC.refl jC leC.refl leC.refl leC.refl leC.refl leC.refl leC.refl
  ·exact le8 leC.refl jC leC.refl leC.refl leC.refl leC.refl jC leC.refl
 ·refine Tells.bind fun _ p1=>Tells.bind fun n p2=>Tells.bind fun l p3=>JL ?_;exact le8 leC.refl jC leC.refl leC.refl jC leC.refl jC leC.refl
 ·refine Tells.bind fun _ p1=>Tells.bind fun e p2=>Tells.bind fun _ p3=>JL ?_;exact le8 leC.refl jC leC.refl leC.refl leC.refl jC jC leC.refl
 ·refine Tells.bind fun _ p1 => ?_;have hpl:kp (MP s) p1=match jB p1.tx with | none=>(PR.stuck:PR PS ByteArray) | some c=>qy (MP s) c p1:=rfl
  show Tells _ _ _ ((kp (MP s) p1).bind _);rw [hpl];cases jB p1.tx with
  | none=>exact trivial
  | some ok =>
    refine Tells.nd rfl (Tells.bind fun w p2=>Tells.nd (Nat.ble_eq.mpr (by omega)) (Tells.bind fun l p3=>JL ?_))
    exact le8 leC.refl (IT w l) leC.refl leC.refl jC jC jC leC.refl
abbrev stK (K d:Nat) (s:ByteArray) (p:PS):PR PS RS:=(sts (MP s) AR K d).1 p
abbrev blK (K d:Nat) (s:ByteArray) (p:PS):PR PS (List RS):=(sts (MP s) AR K d).2 p
theorem ay (k:Nat) (hk:k+2<=qu):∀ d,jn Tryz.prog 88 (localG 82 (uOf dS encR (spU (stK (k+1) d))))∧jn Tryz.prog 35 (localG 82 (UBk (blK (k+1) d)))
 | 0=>⟨Vq 88,Vq 35⟩
 | d + 1 => by
   obtain ⟨_,h2⟩:=ay k hk d;have hE:=(jol k (k+1)).2;have hs:jn Tryz.prog 88 (localG 82 (uOf dS encR (spU (stK (k+1) (d+1))))):=jqQ hE h2 (k+1) (by omega)
   exact ⟨hs,jr2 hs (k+1) (by omega)⟩
end Go.Proofs.YtiefjlcakpdfeaaGreat
namespace Go.Proofs.YtiefjlcakpdfeaaGreat
open Go Go.Sx Go.RowKit Rb
set_option maxRecDepth 100000
structure QS where
 tx:ByteArray
 pos:Int
 en:Int
 bad:Bool
def PR.qd {α:Type}:PR QS α->Bool | .ret _ _=>true | _=>false
def PR.qs {α:Type}:PR QS α->QS | .ret _ s=>s | _=>⟨bs [],0,0,false⟩
def PR.qv {α:Type} (d:α):PR QS α->α | .ret v _=>v | _=>d
def yB (s:ByteArray) (p:QS):List CV:=[.str s,.str p.tx,.int .i64 p.pos,.int .i64 p.en,.bool p.bad]
def asQ {α:Type} (d:α) (enc:α->AV) (s:ByteArray) (x:PR QS α):Tree (Out × List CV):=.need (PR.qd x) (.leaf (.ret (enc (PR.qv d x)),yB s (PR.qs x)))
def nxQ {α β:Type} (d:α) (x:PR QS α) (K:α->QS->Tree β):Tree β:=.need (PR.qd x) (K (PR.qv d x) (PR.qs x))
theorem ME {α:Type} {d:α} {enc:α->AV} {s:ByteArray} {x:PR QS α} {r:Out × List CV} (h:(asQ d enc s x).sel=some r):∃ v p,x=.ret v p∧r=(.ret (enc v),yB s p):=by
 cases x with
 | stuck=>simp [asQ,PR.qd,Tree.sel] at h
 | pan a=>simp [asQ,PR.qd,Tree.sel] at h
 | ret v p=>simp only [asQ,PR.qd,Tree.sel,cond_true,sIq] at h;exact ⟨v,p,rfl,h.symm⟩
theorem MA {α β:Type} {d:α} {v:α} {p:QS} {K:α->QS->Tree β}:(nxQ d (.ret v p) K).sel=(K v p).sel:=rfl
def TellQ {α:Type} (T:Tree (Out × List CV)) (enc:α->AV) (s:ByteArray):PR QS α->Prop
 | .ret v p=>∃ z,T.sel=some z∧LeOut z (.ret (enc v),yB s p)
 | _=>True
theorem TellQ.of_ret {α:Type} {T:Tree (Out × List CV)} {enc:α->AV} {s:ByteArray} {v:α} {p:QS} (h:T.sel=some (.ret (enc v),yB s p)):TellQ T enc s (.ret v p):=⟨_,h,.ret leA.refl LeL.refl rfl⟩
theorem TellQ.sel {α:Type} {T T':Tree (Out × List CV)} {enc:α->AV} {s:ByteArray} {x:PR QS α} (h:T.sel=T'.sel) (ht:TellQ T' enc s x):TellQ T enc s x:=by
 cases x with
 | stuck=>exact trivial
 | pan a=>exact trivial
 | ret v p=>obtain ⟨z,hz,hl⟩:=ht;exact ⟨z,by rw [h];exact hz,hl⟩
theorem TellQ.bind {α β:Type} {d:α} {x:PR QS α} {K:α->QS->Tree (Out × List CV)} {enc:β->AV} {s:ByteArray} {f:α->QS->PR QS β} (h:∀ v p,TellQ (K v p) enc s (f v p)):TellQ (nxQ d x K) enc s (x.bind f):=by
 cases x with
 | stuck=>exact trivial
 | pan a=>exact trivial
 | ret v p=>exact TellQ.sel rfl (h v p)
theorem TellQ.cond {β:Type} {c:Bool} {A B:Tree (Out × List CV)} {enc:β->AV} {s:ByteArray} {x y:PR QS β} (h1:TellQ A enc s x) (h2:TellQ B enc s y):TellQ (.br c A B) enc s (bif c then x else y):=by
 cases c
 ·exact TellQ.sel rfl h2
 ·exact TellQ.sel rfl h1
theorem TellQ.notc {β:Type} {c:Bool} {A B:Tree (Out × List CV)} {enc:β->AV} {s:ByteArray} {x y:PR QS β} (h1:TellQ A enc s x) (h2:TellQ B enc s y):TellQ (.br (!c) B A) enc s (bif c then x else y):=by
 cases c
 ·exact TellQ.sel rfl h2
 ·exact TellQ.sel rfl h1
theorem TellQ.need {β:Type} {c:Bool} {A:Tree (Out × List CV)} {enc:β->AV} {s:ByteArray} {x:PR QS β} (h:c=true->TellQ A enc s x):TellQ (.need c A) enc s (bif c then x else .stuck):=by
 cases c
 ·exact trivial
 ·exact TellQ.sel rfl (h rfl)
theorem TellQ.nd {β:Type} {c:Bool} {A:Tree (Out × List CV)} {enc:β->AV} {s:ByteArray} {x:PR QS β} (hc:c=true) (h:TellQ A enc s x):TellQ (.need c A) enc s x:=by
 subst hc;exact TellQ.sel rfl h
def Z3 (a:AV) (s:ByteArray) (p:QS):Tree (Out × List CV):=.leaf (.ret a,yB s p)
theorem TellQ.ret {β:Type} {enc:β->AV} {s:ByteArray} {v:β} {p:QS}:TellQ (Z3 (enc v) s p) enc s (.ret v p):=TellQ.of_ret rfl
def yz {α:Type} (d:α) (enc:α->AV) (sp:List A1->ByteArray->QS->PR QS α) (rest:List A1):List CV->Tree (Out × List CV)
 | [.str s,.str t,.int .i64 a,.int .i64 e,.bool b]=>asQ d enc s (sp rest s ⟨t,a,e,b⟩)
 | _=>.fail
def Je {α:Type} (F:ByteArray->QS->PR QS α) (rest:List A1) (s:ByteArray) (p:QS):PR QS α:=match rest with | []=>F s p | _=>.stuck
def jcg {α:Type} (F:ByteArray->ByteArray->QS->PR QS α) (rest:List A1) (s:ByteArray) (p:QS):PR QS α:=match rest with | [.c (.str w)]=>F w s p | _=>.stuck
def jfp {α:Type} (F:Int->ByteArray->QS->PR QS α) (rest:List A1) (s:ByteArray) (p:QS):PR QS α:=match rest with | [.c (.int .i64 n)]=>F n s p | _=>.stuck
section
variable {P:Program} {α:Type} {H:Hd} {X:HdP} {d:α} {enc:α->AV}
theorem Tf (hH : HdOk P H) (hX : XOk P X) (k f : Nat) {sp : List A1 -> ByteArray -> QS -> PR QS α}
  (h:∀ rest s t a e b,TellQ (qX P H X k f 89 rest [.str s,.str t,.int .i64 a,.int .i64 e,.bool b]) enc s (sp rest s ⟨t,a,e,b⟩)):jn P f (localG 89 (yz d enc sp)) :=
 Oi hH hX k f 89 fun rest cs r hr=>by
  unfold yz at hr;split at hr
  ·rename_i s t a e b;have ht:=h rest s t a e b;obtain ⟨v,p,hx,rfl⟩:=ME hr;rw [hx] at ht;exact ht
  ·simp [Tree.sel] at hr
theorem Xj (hH:HdOk P H) (hX:XOk P X) (k f:Nat) {F:ByteArray->QS->PR QS α} (h:∀ s t a e b,TellQ (qX P H X k f 89 [] [.str s,.str t,.int .i64 a,.int .i64 e,.bool b]) enc s (F s ⟨t,a,e,b⟩)):jn P f (localG 89 (yz d enc (Je F))):=Tf hH hX k f fun rest s t a e b=>by
 unfold Je;split
 ·exact h s t a e b
 ·exact trivial
theorem jh2 (hH:HdOk P H) (hX:XOk P X) (k f:Nat) {F:ByteArray->ByteArray->QS->PR QS α} (h:∀ w s t a e b,TellQ (qX P H X k f 89 [.c (.str w)] [.str s,.str t,.int .i64 a,.int .i64 e,.bool b]) enc s (F w s ⟨t,a,e,b⟩)):jn P f (localG 89 (yz d enc (jcg F))):=Tf hH hX k f fun rest s t a e b=>by
 unfold jcg;split
 ·exact h _ s t a e b
 ·exact trivial
theorem jqk (hH:HdOk P H) (hX:XOk P X) (k f:Nat) {F:Int->ByteArray->QS->PR QS α} (h:∀ w s t a e b,TellQ (qX P H X k f 89 [.c (.int .i64 w)] [.str s,.str t,.int .i64 a,.int .i64 e,.bool b]) enc s (F w s ⟨t,a,e,b⟩)):jn P f (localG 89 (yz d enc (jfp F))):=Tf hH hX k f fun rest s t a e b=>by
 unfold jfp;split
 ·exact h _ s t a e b
 ·exact trivial
end
end Go.Proofs.YtiefjlcakpdfeaaGreat
namespace Go.Proofs.YtiefjlcakpdfeaaGreat
open Go Go.Sx Go.RowKit Rb
set_option maxRecDepth 100000
def Ry (c:Int):Bool:=c==32||(c==9||(c==10||c==35))
def Zw:Nat->ByteArray->Int->Option Int
 | 0,_,_=>none
 | k+1,s,i=>bif lt i (ja s.size) then (bif jc i s.size then (bif jr s i.toNat != 10 then Zw k s (IntKind.wrap .i64 (i+1)) else some i) else none) else some i
def ZO:Nat->ByteArray->Int->Option Int
 | 0,_,_=>none
 | k+1,s,i=>bif lt i (ja s.size) then (bif jc i s.size then (bif Ry (jr s i.toNat) then (bif jr s i.toNat==35 then (match Zw (s.size+1) s i with | some j=>ZO k s j | none=>none) else ZO k s (IntKind.wrap .i64 (i+1))) else some i) else none) else some i
def jo (s:ByteArray) (p:QS):PR QS Unit :=
 match ZO (s.size+1) s p.en with
 | none=>.stuck
 | some a=>match Jw (s.size+1) s a with
  | none=>.stuck
  | some i => let e := bif (bif i == a then lt i (ja s.size) else false) then IntKind.wrap .i64 (i + 1) else i
    bif kJ s a e then .ret () ⟨zm s a.toNat e.toNat,a,e,p.bad⟩ else .stuck
section
variable {ε τ:Type} (nx:QS->PR QS Unit) (A:Alg ε τ)
def jW (p:QS):QS:=⟨p.tx,p.pos,p.en,true⟩
def zE (w:ByteArray) (p:QS):PR QS Bool:=bif (bif p.bad then true else !jb p.tx w) then .ret false p else (nx p).bind fun _ q=>.ret true q
def jN (w:ByteArray) (p:QS):PR QS Unit:=(zE nx w p).bind fun c q=>bif c then .ret () q else .ret () (jW q)
def Jr (most:Int) (p:QS):PR QS Int :=
 match jq p.tx with
 | none=>.stuck
 | some (n,ok)=>bif (bif (bif p.bad then true else !ok) then true else lt most n) then .ret 0 (jW p) else (nx p).bind fun _ q=>.ret n q
def zO (w:ByteArray):Int :=
 bif (jb w qW||(jb w qT||(jb w yA||(jb w zA||(jb w qq||(jb w yh||(jb w zD||jb w qB))))))) then 0
 else bif jb w yy then 1
 else bif (jb w wOr||(jb w yw||(jb w wEq||(jb w wLt||(jb w wGt||(jb w yD||jb w zc)))))) then 2 else -1
def yr (w:ByteArray):Bool:=bif jb w zA then true else bif jb w qq then true else bif jb w yh then true else bif jb w zD then true else jb w qB
def Y6 (expr:QS->PR QS ε) (p0:QS):PR QS ε:=(zE nx Y0 p0).bind fun c p =>
 bif c then (expr p).bind fun e p2=>(jN nx GR p2).bind fun _ p3=>.ret e p3
 else bif nmD (jq p.tx) then
  bif (bif nmO (jq p.tx) then !p.bad else false) then (Jr nx 1073741824 p).bind fun n p2=>.ret (A.ex qW n []) p2
  else bif (bif (bif p.bad then true else jb p.tx qW) then true else zO p.tx != 0) then .ret (Zy A) (jW p)
  else (nx p).bind fun _ p2 => bif yr p.tx then
    (bif q8 p2.tx then (nx p2).bind fun _ p3=>.ret (A.ex p.tx (kM p2.tx) []) p3 else .ret (Zy A) (jW p2))
   else .ret (A.ex p.tx 0 []) p2
 else .stuck
def ZL (p:QS):List ByteArray->Bool
 | []=>false
 | w::r=>bif jb p.tx w then true else ZL p r
def opQ (ws:List ByteArray) (p:QS):Bool:=bif !p.bad then ZL p ws else false
def WU (atom:QS->PR QS ε):Nat->ε->QS->PR QS ε
 | 0,_,_=>.stuck
 | k+1,e,p=>bif opQ [yD,zc] p then (nx p).bind fun _ p1=>(atom p1).bind fun x p2=>WU atom k (A.ex p.tx 0 [e,x]) p2 else .ret e p
def Gq (expr:QS->PR QS ε) (k:Nat) (p:QS):PR QS ε:=(Y6 nx A expr p).bind fun e p1=>WU nx A (Y6 nx A expr) k e p1
def Gg (one expr:QS->PR QS ε) (k:Nat) (p0:QS):PR QS ε:=(zE nx yy p0).bind fun c p =>
 bif c then (one p).bind fun e p2=>.ret (A.ex yy 0 [e]) p2
 else (Gq nx A expr k p).bind fun e p2=>bif opQ [wEq,wLt,wGt] p2 then (nx p2).bind fun _ p3=>(Gq nx A expr k p3).bind fun x p4=>.ret (A.ex p2.tx 0 [e,x]) p4 else .ret e p2
def Yx (w:ByteArray) (operand:QS->PR QS ε):Nat->ε->QS->PR QS ε
 | 0,_,_=>.stuck
 | k+1,e,p=>(zE nx w p).bind fun c p1=>bif c then (operand p1).bind fun x p2=>Yx w operand k (A.ex w 0 [e,x]) p2 else .ret e p1
def Bi (one expr:QS->PR QS ε) (k:Nat) (p:QS):PR QS ε:=(Gg nx A one expr k p).bind fun e p1=>Yx nx A yw (Gg nx A one expr k) k e p1
def Lu (one expr:QS->PR QS ε) (k:Nat) (p:QS):PR QS ε:=(Bi nx A one expr k p).bind fun e p1=>Yx nx A wOr (Bi nx A one expr k) k e p1
def QP (K:Nat):Nat->(QS->PR QS ε) × (QS->PR QS ε)
 | 0=>(fun _=>.stuck,fun _=>.stuck)
 | d+1=>(Gg nx A (QP K d).1 (QP K d).2 K,Lu nx A (QP K d).1 (QP K d).2 K)
def XV:List Int->List ByteArray->QS->PR QS (List ByteArray)
 | [],l,p=>.ret l p
 | k::r,l,p=>bif nmD (jq p.tx) then (bif qp k p.tx then (nx p).bind fun _ q=>XV r (l++[p.tx]) q else .ret [] (jW p)) else .stuck
def kj (p:QS):PR QS (List ByteArray) :=
 bif (bif p.bad then true else Nat.beq (jZ p.tx) 0) then .ret [] (jW p) else (nx p).bind fun _ q=>XV nx (j8 (jZ p.tx)) [p.tx] q
def yj:Nat->QS->PR QS (List ByteArray)
 | 0,_=>.stuck
 | k+1,p=>bif p.bad then .ret [] p else match jB p.tx with
  | none=>.stuck
  | some ok=>bif ok then (nx p).bind fun _ q=>(yj k q).bind fun l q2=>.ret (p.tx::l) q2 else .ret [] p
def yt (st:QS->PR QS τ):Nat->QS->PR QS (List τ)
 | 0,_=>.stuck
 | k+1,p=>bif (bif !p.bad then !jb p.tx Jx else false) then (st p).bind fun x p1=>(yt st k p1).bind fun l p2=>.ret (x::l) p2 else .ret [] p
def We (st:QS->PR QS τ) (k:Nat) (p:QS):PR QS (List τ):=(jN nx Uo p).bind fun _ p1=>(yt st k p1).bind fun l p2=>(jN nx Jx p2).bind fun _ p3=>.ret l p3
def ko (expr:QS->PR QS ε) (block:QS->PR QS (List τ)) (k:Nat) (p:QS):PR QS τ :=
 bif jb p.tx wDo then (nx p).bind fun _ p1=>(kj nx p1).bind fun w p2=>(zE nx Ha p2).bind fun c p3 =>
  bif c then (block p3).bind fun l p4=>(jN nx j9 p4).bind fun _ p5=>.ret (A.st p.tx w (Zy A) l [] p.pos) p5
  else (jN nx j9 p3).bind fun _ p4=>.ret (A.st p.tx w (Zy A) [] [] p.pos) p4
 else bif jb p.tx wIf then (nx p).bind fun _ p1=>(expr p1).bind fun e p2=>(block p2).bind fun l p3=>(zE nx O9 p3).bind fun c p4 =>
  bif c then (block p4).bind fun r p5=>.ret (A.st p.tx [] e l r p.pos) p5 else .ret (A.st p.tx [] e l [] p.pos) p4
 else bif jb p.tx qQ then (nx p).bind fun _ p1=>(Jr nx 99 p1).bind fun n p2=>(block p2).bind fun l p3=>.ret (A.st p.tx [] (A.ex qW n []) l [] p.pos) p3
 else bif jb p.tx qo then (nx p).bind fun _ p1=>(expr p1).bind fun e p2=>(jN nx j9 p2).bind fun _ p3=>.ret (A.st p.tx [] e [] [] p.pos) p3
 else bif jb p.tx kx then (nx p).bind fun _ p1=>(yj nx k p1).bind fun w p2 =>
  (jN nx j9 (bif w.isEmpty then jW p2 else p2)).bind fun _ p3=>.ret (A.st p.tx w (Zy A) [] [] p.pos) p3
 else .ret (A.st p.tx [] (Zy A) [] [] p.pos) (jW p)
def Gx (K:Nat):Nat->(QS->PR QS τ) × (QS->PR QS (List τ))
 | 0=>(fun _=>.stuck,fun _=>.stuck)
 | d+1=>(ko nx A (QP nx A K K).2 (Gx K d).2 K,We nx (ko nx A (QP nx A K K).2 (Gx K d).2 K) K)
end
end Go.Proofs.YtiefjlcakpdfeaaGreat