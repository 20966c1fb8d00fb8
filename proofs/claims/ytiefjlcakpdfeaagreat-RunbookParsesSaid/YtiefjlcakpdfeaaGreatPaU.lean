/-
 Part PaU of the proof: RbH RbI RbJ RbK EngPv RbN.
-/
import Derived.Test.YtiefjlcakpdfeaaGreatPaT
import Derived.Test.YtiefjlcakpdfeaaGreatPaS
namespace Go.Proofs.YtiefjlcakpdfeaaGreat
open Go Go.Sx Go.RowKit Rb
set_option maxRecDepth 100000
def lK:Nat × (List A1->Tree AV):=(4294967292,fun _=>.fail)
theorem HdOk.lK {P:Program} {pc hc lh mc} (h:HdOk P ⟨pc,hc,lh,mc⟩):HdOk P ⟨lK::pc,hc,lh,mc⟩:=h.tcCons (f:=4294967292) (fun _ _ h=>by simp [Tree.sel] at h)
noncomputable abbrev HL0:Hd:=⟨[lK],[],[],[]⟩
theorem hL0:HdOk Tryz.prog HL0:=HdOk.lK HdOk.nil
def Zk (l:List Int):Val:=Val.ofFlat 1 (l.map (.int .i64))
def Fy (w:ByteArray):AV:=.tup [.c (.sl [.int .i64] (j8 (jZ w)).length (Zk (j8 (jZ w)))),.c (.bool (!(Nat.beq (jZ w) 0)))]
def jcP:List A1->Option (Bool × AV)
 | [.c (.str w)]=>some (true,Fy w)
 | _=>none
def jgp (w:ByteArray):Tree AV :=
 let L:=fun l:List Int=>Tree.leaf (AV.tup [.c (.sl [.int .i64] l.length (Zk l)),.c (.bool true)])
 let A:=L [0,1]
 let Z:=Tree.leaf (AV.tup [.c .nils,.c (.bool false)])
 let B:=L [0]
 let R4:=.br (jb w JP) (.br (jb w JP) B Z) (.br (jb w wUp) (.br (jb w wUp) B Z) (.br (jb w KG) (.br (jb w KG) B Z) (.br (jb w yv) (.br (jb w yv) B Z)
  (.br (jb w yL) (.br (jb w yL) B Z) (.br (jb w k6) (.br (jb w k6) B Z) (.br (jb w ZW) B Z))))))
 let R1:=.br (jb w J5) (L [0,1,2]) (.br (jb w J4) (L [0,1,0]) R4)
 .br (jb w kz) (.br (jb w kz) A R1) (.br (jb w Qb) A R1)
theorem jiH (w:ByteArray):jT Tryz.prog HL0 10 158 [.c (.str w)]=jgp w:=by kernel_rfl
theorem jgy {es:List Sh} {ρ:Val} {b:Bool}:leA (.tup [.c .nils,.c (.bool b)]) (.tup [.c (.sl es 0 ρ),.c (.bool b)]) :=
 ZV (.cons (.c fun _ _ _ h=>by cases h;exact .slnil) (.cons (.c leC.refl) .nil))
theorem jhD (w:ByteArray):(jgp w).All (fun x=>leA x (Fy w)):=by
 unfold jgp Fy jZ;cases jb w kz with
 | true=>exact jk rfl leA.refl
 | false =>
 cases jb w Qb with
 | true=>exact jk rfl leA.refl
 | false =>
 cases jb w J5 with
 | true=>exact jk rfl leA.refl
 | false =>
 cases jb w J4 with
 | true=>exact jk rfl leA.refl
 | false =>
 cases jb w JP with
 | true=>exact jk rfl leA.refl
 | false =>
 cases jb w wUp with
 | true=>exact jk rfl leA.refl
 | false =>
 cases jb w KG with
 | true=>exact jk rfl leA.refl
 | false =>
 cases jb w yv with
 | true=>exact jk rfl leA.refl
 | false =>
 cases jb w yL with
 | true=>exact jk rfl leA.refl
 | false =>
 cases jb w k6 with
 | true=>exact jk rfl leA.refl
 | false =>
 cases jb w ZW with
 | true=>exact jk rfl leA.refl
 | false=>exact jk rfl jgy
theorem jnb:jj Tryz.prog 158 (nG jcP):=by
 refine jJ (H:=HL0) hL0 10 158 ?_;intro args r h;unfold jcP at h;split at h
 ·rename_i w;simp only [sIq,pIq,true_and] at h;subst h;exact ⟨_,jiH w,jhD w⟩
 ·cases h
noncomputable abbrev HO:Hd:=⟨[(86,oG G86)],[(162,nG Xv)],[],[]⟩
theorem hO:HdOk Tryz.prog HO:=(HdOk.nil.ucCons jgL).pcCons p86
def jb1:List A1->Option (Bool × AV)
 | [.c (.int .i64 k),.c (.str w)]=>some (nmD (jq w),.one (.c (.bool (qp k w))))
 | _=>none
def jmc (k:Int) (w:ByteArray):Tree AV :=
 .need (nmD (jq w)) (.br (k==1) (.leaf (.one (.c (.bool (nmO (jq w)))))) (.br (k==2) (.leaf (.one (.c (.bool (bif q8 w then true else jb w an))))) (.leaf (.one (.c (.bool (q8 w)))))))
theorem jjw (k:Int) (w:ByteArray):jT Tryz.prog HO 10 159 [.c (.int .i64 k),.c (.str w)]=jmc k w:=by kernel_rfl
theorem jok:jj Tryz.prog 159 (nG jb1):=by
 refine jJ (H:=HO) hO 10 159 ?_;intro args r h;unfold jb1 at h;split at h
 ·rename_i k w;simp only [sIq,pIq] at h;obtain ⟨h1,rfl⟩:=h;refine ⟨_,jjw k w,?_⟩;unfold jmc qp;refine ⟨h1,?_⟩;cases (k==1) with
  | true=>exact jk rfl leA.refl
  | false=>cases (k==2)<;>exact jk rfl leA.refl
 ·cases h
noncomputable abbrev jl7:Hd:=⟨[pF 31,pF 32,pF 33,pF 36,pF 85,(86,oG G86)],[(158,nG jcP),(159,nG jb1)],[],[]⟩
theorem jrL:HdOk Tryz.prog jl7:=((((((((HdOk.nil.ucCons jok).ucCons jnb).pcCons p86).pF 85).pF 36).pF 33).pF 32).pF 31)
abbrev jm7:HdP:=⟨[(33,localG 82 u33),(85,localG 82 u85),(31,localG 82 (uOf () kQ N2))],[],[],[],[],4,[33,85,31]⟩
theorem jrC:XOk Tryz.prog jm7:=((XOk.nil.loCons jgA (LocFn.localG _ _)).loCons je4 (LocFn.localG _ _)).loCons jgn (LocFn.localG _ _)
def Kz (l:List ByteArray):AV:=.one (.c (.sl [.str] l.length (zK l)))
def zk (w:ByteArray):Val:=Val.ofFlat 1 [.str w]
def O8 (s:ByteArray) (n:Nat) (ρ:Val):Nat->Nat->Nat->Val->PS->Tree (Out × List CV)
 | 0,_,_,_,_=>.fail
 | k + 1, j, m, σ, p => .br (lt (j : Int) (ja n)) (.need (jc (j : Int) n) (.need (nmD (jq p.tx)) (nxT (bs []) (qy (MP s) (qp (((ρ.at j).at 0).N []) p.tx) p) (fun w p1 => .need (Nat.ble ((m + 1) * 16) 140737488355328) (O8 s n ρ k (j + 1) (m + 1) (Val.cat m σ (zk w)) p1)) qc)))
   (.leaf (.ret (.one (.c (.sl [.str] m σ))),qK s p))
def jnG (s:ByteArray) (p:PS):Tree (Out × List CV) :=
 nxT (bs []) (qy (MP s) (!(Nat.beq (jZ p.tx) 0)) p) (fun w p1=>O8 s (j8 (jZ p.tx)).length (Zk (j8 (jZ p.tx))) 4 0 1 (zk w) p1) qc
theorem jka (s t:ByteArray) (n a:Int):qX Tryz.prog jl7 jm7 10 131 82 [] [.str s,.int .i64 n,.str t,.int .i64 a]=.need true (jnG s ⟨n,t,a⟩):=by kernel_rfl
theorem Vs {α β:Type} (f:α->β):∀ (l:List α) (i:Nat),nth (l.map f) i=(nth l i).map f
 | [],_=>rfl
 | _::_,0=>rfl
 | _::l,i+1=>Vs f l i
theorem Yw (l:List ByteArray) (i:Nat) (w:ByteArray) (h:nth l i=some w):((zK l).at i).at 0=Val.ofC (.str w):=by
 show (match nth (l.map .str) (i*1+0) with | some x=>Val.ofC x | none=>Val.zero)=_
 rw [Nat.mul_one,Nat.add_zero,Vs,h];rfl
theorem y6 {α:Type}:∀ (l r:List α) (i:Nat),i<l.length->nth (l++r) i=nth l i
 | [],_,_,h=>by simp at h
 | _::_,_,0,_=>rfl
 | _::l,r,i+1,h=>y6 l r i (by simpa using h)
theorem Wr {α:Type}:∀ (l:List α) (x:α) (r:List α),nth (l++x::r) l.length=some x
 | [],_,_=>rfl
 | _::l,x,r=>Wr l x r
theorem qF {α:Type}:∀ (l:List α) (i:Nat),i<l.length->∃ x,nth l i=some x
 | [],_,h=>by simp at h
 | a::_,0,_=>⟨a,rfl⟩
 | _::l,i+1,h=>qF l i (by simpa using h)
def RowIs (σ:Val) (l:List ByteArray):Prop:=∀ i w,nth l i=some w->(((σ.at i).at 0).S [])=w
theorem RowIs.snoc {σ:Val} {l:List ByteArray} (h:RowIs σ l) (w:ByteArray):RowIs (Val.cat l.length σ (zk w)) (l++[w]):=by
 intro i x hx;show (bif Nat.blt i l.length then ((σ.at i).at 0).S [] else ((zk w).at (i - l.length)).S (0::[]))=x;by_cases hi:i<l.length
 ·rw [y6 _ _ _ hi] at hx;rw [show Nat.blt i l.length=true from Nat.blt_eq.mpr hi];exact h i x hx
 ·have hlt:=js hx;simp only [List.length_append,List.length_cons,List.length_nil] at hlt;have hi2:i=l.length:=by omega
  subst hi2;rw [Wr] at hx
  have hb:Nat.blt l.length l.length=false:=by
   cases hh:Nat.blt l.length l.length
   ·rfl
   ·have:=Nat.blt_eq.mp hh;omega
  rw [hb,Nat.sub_self];exact Option.some.inj hx
theorem RowIs.le {σ:Val} {l:List ByteArray} (h:RowIs σ l):leA (.one (.c (.sl [.str] l.length σ))) (Kz l):=by
 refine Jq (.c (Lz fun i f s hi hs => ?_));obtain ⟨w,hw⟩:=qF l i hi;cases f with
 | zero =>
   simp only [nth,sIq] at hs;subst hs;have h2:=h i w hw;have h3:=Yw l i w hw;rw [h3];show CV.str _=CV.str _;rw [h2];rfl
 | succ f=>simp [nth] at hs
theorem FH (l:List Int) (i:Nat) (k:Int) (h:nth l i=some k):(((Zk l).at i).at 0).N []=k:=by
 show Val.N (match nth (l.map (.int .i64)) (i*1+0) with | some x=>Val.ofC x | none=>Val.zero) []=_
 rw [Nat.mul_one,Nat.add_zero,Vs,h];rfl
theorem PR.bind_assoc {σ α β γ:Type} (x:PR σ α) (f:α->σ->PR σ β) (g:β->σ->PR σ γ):(x.bind f).bind g=x.bind fun v s=>(f v s).bind g:=by cases x<;>rfl
theorem YE {α:Type}:∀ (l:List α) (j:Nat) (x:α) (r:List α),l.drop j=x::r->nth l j=some x∧l.drop (j+1)=r
 | [],j,x,r,h=>by simp at h
 | a::l,0,x,r,h=>by simp at h;exact ⟨congrArg some h.1,h.2⟩
 | _::l,j+1,x,r,h=>YE l j x r (by simpa using h)
theorem BP (s : ByteArray) (ks : List Int) (hks : ks.length <= 3) : ∀ (r : List Int) (j k : Nat) (σ : Val) (p : PS) (l : List ByteArray), ks.drop j = r -> j + r.length = ks.length -> r.length < k -> l.length = j + 1 -> RowIs σ l ->
  Tells (O8 s ks.length (Zk ks) k j l.length σ p) Kz s ((zo (MP s) r p).bind fun r' q=>.ret (l++r') q)
 | [], j, k, σ, p, l, hd, hj, hk, hl, hr => by
   obtain ⟨k,rfl⟩ : ∃ k',k=k'+1:=⟨k - 1,by omega⟩
   have hlt:lt (j:Int) (ja ks.length)=false:=by
    unfold lt ja;simp at hj ⊢;omega
   show Tells (.br (lt (j:Int) (ja ks.length)) _ _) Kz s (.ret (l++[]) p);rw [hlt,List.append_nil];exact ⟨_,rfl,.ret hr.le LeL.refl rfl⟩
 | c :: r, j, k, σ, p, l, hd, hj, hk, hl, hr => by
   obtain ⟨k,rfl⟩ : ∃ k',k=k'+1:=⟨k - 1,by omega⟩
   obtain ⟨h1,h2⟩:=YE ks j c r hd;have hlen:j<ks.length:=js h1
   have hlt:lt (j:Int) (ja ks.length)=true:=by
    unfold lt ja
    simp;omega
   have hin:jc (j:Int) ks.length=true:=by
    unfold jc le lt ja
    simp;omega
   have hkind:(((Zk ks).at j).at 0).N []=c:=FH ks j c h1;have hble:Nat.ble ((l.length+1)*16) 140737488355328=true:=Nat.ble_eq.mpr (by simp only [List.length_cons] at hj;omega)
   show Tells (.br (lt (j:Int) (ja ks.length)) (.need (jc (j:Int) ks.length) (.need (nmD (jq p.tx)) (nxT (bs []) (qy (MP s) (qp (((Zk ks).at j).at 0 |>.N []) p.tx) p) (fun w p1=>.need (Nat.ble ((l.length+1)*16) 140737488355328) (O8 s ks.length (Zk ks) k (j+1) (l.length+1) (Val.cat l.length σ (zk w)) p1)) qc))) _) Kz s (((J9 (MP s) c p).bind fun w s1=>(zo (MP s) r s1).bind fun l s2=>.ret (w::l) s2).bind fun r' q=>.ret (l++r') q);rw [hlt,hin,hkind,hble];unfold J9;show Tells _ Kz s (((bif nmD (jq p.tx) then qy (MP s) (qp c p.tx) p else .stuck).bind _).bind _);cases nmD (jq p.tx) with
  | false=>exact trivial
  | true =>
    simp only [cond_true];cases qy (MP s) (qp c p.tx) p with
   | stuck=>exact trivial
   | pan a=>exact Tells.of_pan rfl
   | ret w p1 =>
     have ih:=BP s ks hks r (j+1) k (Val.cat l.length σ (zk w)) p1 (l++[w]) h2 (by simp only [List.length_cons] at hj;omega) (by simp only [List.length_cons] at hk;omega) (by simp [hl]) (hr.snoc w)
     have e:(((PR.ret w p1).bind fun w s1=>(zo (MP s) r s1).bind fun l s2=>.ret (w::l) s2).bind fun r' q=>.ret (l++r') q)=(zo (MP s) r p1).bind fun r' q=>PR.ret (l++[w]++r') q:=by
      show ((zo (MP s) r p1).bind _).bind _=_;rw [PR.bind_assoc];congr 1;funext v q;show PR.ret (l++(w::v)) q=_;rw [List.append_assoc];rfl
     rw [e];rw [List.length_append] at ih;exact ih
theorem Hc (w:ByteArray):(j8 (jZ w)).length<=3:=by
 unfold j8;split<;>simp
abbrev jl9:=uOf [] Kz (spU fun s p=>zG (MP s) p)
theorem jqe:jn Tryz.prog 131 (localG 82 jl9):=Uq jrL jrC 10 131 fun s n t a=>by
 rw [jka]
 have h:Tells (jnG s ⟨n,t,a⟩) Kz s (zG (MP s) ⟨n,t,a⟩):=Tells.bind fun w p1=>by
  have:=BP s (j8 (jZ t)) (Hc t) _ 0 4 (zk w) p1 [w] rfl (by simp) (by have:=Hc t;simp;omega) rfl (by
   intro i x hx
   match i,hx with
   | 0,hx=>exact Option.some.inj hx
   | i+1,hx=>simp [nth] at hx)
  exact this
 cases hx:zG (MP s) ⟨n,t,a⟩ with
 | stuck=>exact trivial
 | ret v q=>rw [hx] at h;exact h
 | pan a=>rw [hx] at h;exact h
structure RX where
 op:ByteArray
 v:Int
 n:Nat
 ρ:Val
def RX.cells (e:RX):List CV:=[.str e.op,.int .i64 e.v,.sl (aw 0) e.n e.ρ]
def exR (op:ByteArray) (v:Int) (l:List RX):RX:=⟨op,v,l.length,Val.ofFlat 3 (l.flatMap RX.cells)⟩
structure RS where
 kind:ByteArray
 wn:Nat
 wρ:Val
 cond:RX
 bn:Nat
 bρ:Val
 en:Nat
 eρ:Val
 at_:Int
def RS.cells (s:RS):List CV:=[.str s.kind,.sl [.str] s.wn s.wρ,.str s.cond.op,.int .i64 s.cond.v,.sl (aw 0) s.cond.n s.cond.ρ,.sl (aw 1) s.bn s.bρ,.sl (aw 1) s.en s.eρ,.int .i64 s.at_]
def jR (l:List RS):Val:=Val.ofFlat 8 (l.flatMap RS.cells)
def stR (kind:ByteArray) (words:List ByteArray) (cond:RX) (body els:List RS) (at_:Int):RS:=⟨kind,words.length,zK words,cond,body.length,jR body,els.length,jR els,at_⟩
def AR:Alg RX RS:=⟨exR,stR⟩
def dX:RX:=exR (bs []) 0 []
def yF (e:RX):AV:=.one (.agg e.cells)
abbrev jfY (E:ByteArray->PS->PR PS RX):=uOf dX yF (spU E)
noncomputable abbrev YM:Hd:=⟨[lK,pF 31,pF 32,pF 33,pF 36,pF 85,pF 132,pF 133,pF 160,pF 161,pF 180,pF 197,pF 204,pF 211],[],[],[]⟩
theorem Ko:HdOk Tryz.prog YM:=HdOk.lK (((((((((((((HdOk.nil.pF 211).pF 204).pF 197).pF 180).pF 161).pF 160).pF 133).pF 132).pF 85).pF 36).pF 33).pF 32).pF 31)
abbrev Gn:List (Nat × (List A1->Mem->Tree (Out × Mem))):=[(211,localG 82 jm2),(133,localG 82 joh),(32,localG 82 u32),(33,localG 82 u33),(85,localG 82 u85),(31,localG 82 (uOf () kQ N2))]
abbrev jma (E:ByteArray->PS->PR PS RX):HdP:=⟨(132,localG 82 (jfY E))::Gn,[],[],[],[],0,[132,211,133,32,33,85,31]⟩
theorem jqm {E:ByteArray->PS->PR PS RX} (hE:jn Tryz.prog 132 (localG 82 (jfY E))):XOk Tryz.prog (jma E) :=
 ((((x33.loCons jhy (LocFn.localG _ _)).loCons jh5 (LocFn.localG _ _)).loCons jik (LocFn.localG _ _)).loCons hE (LocFn.localG _ _))
def O2 (op:ByteArray) (v:Int) (s:ByteArray) (p:PS):Tree (Out × List CV):=.leaf (.ret (.one (.agg [.str op,.int .i64 v,.nils])),qK s p)
def jof (E:ByteArray->PS->PR PS RX) (s:ByteArray) (p:PS):Tree (Out × List CV) :=
 let A:=nxT () (k9 s p) (fun _ p1=>O2 p.tx 0 s p1) qc
 let B:=nxT () (k9 s p) (fun _ p1=>nxT 0 (YV (MP s) p1) (fun n p2=>O2 p.tx n s p2) qc) qc
 let C:=nxT () (k9 s p) (fun _ p1=>nxT dX (E s p1) (fun e p2=>nxT () (qR (MP s) GR p2) (fun _ p3=>QR (yF e) s p3) qc) qc) qc
 let D:=nxT 0 (yp (MP s) 1073741824 p) (fun n p1=>O2 qW n s p1) qc
 let R2:=.br (jb p.tx Y0) C D
 let R1:=.br (jb p.tx zA) (.br (jb p.tx zA) B R2) (.br (jb p.tx qq) (.br (jb p.tx qq) B R2) (.br (jb p.tx yh) (.br (jb p.tx yh) B R2)
  (.br (jb p.tx zD) (.br (jb p.tx zD) B R2) (.br (jb p.tx qB) B R2))))
 .br (jb p.tx qT) (.br (jb p.tx qT) A R1) (.br (jb p.tx yA) A R1)
theorem jkd (E:ByteArray->PS->PR PS RX) (s t:ByteArray) (n a:Int):qX Tryz.prog YM (jma E) 10 204 82 [] [.str s,.int .i64 n,.str t,.int .i64 a]=jof E s ⟨n,t,a⟩:=by kernel_rfl
theorem Xy {op:ByteArray} {v:Int} {s:ByteArray} {p:PS}:Tells (O2 op v s p) yF s (.ret (exR op v []) p) :=
 ⟨_,rfl,.ret (Jq (.agg (.cons leC.refl (.cons leC.refl (.cons (fun _ _ _ h=>by cases h;exact .slnil) .nil))))) LeL.refl rfl⟩
theorem Tells.or2 {β : Type} {c1 c2 : Bool} {A B : Tree (Out × List CV)} {enc : β -> AV} {s : ByteArray} {x y : PR PS β} (h1 : Tells A enc s x) (h2 : Tells B enc s y) :
  Tells (.br c1 (.br c1 A B) (.br c2 A B)) enc s (bif (c1||c2) then x else y):=by
 have k1:∀ T:Tree (Out × List CV),T.sel=A.sel->Tells T enc s x:=fun T e=>by
  cases x with
  | stuck=>exact trivial
  | ret v p=>obtain ⟨z,hz,hl⟩:=h1;exact ⟨z,by rw [e];exact hz,hl⟩
  | pan a=>obtain ⟨z,hz,hl⟩:=h1;exact ⟨z,by rw [e];exact hz,hl⟩
 have k2:∀ T:Tree (Out × List CV),T.sel=B.sel->Tells T enc s y:=fun T e=>by
  cases y with
  | stuck=>exact trivial
  | ret v p=>obtain ⟨z,hz,hl⟩:=h2;exact ⟨z,by rw [e];exact hz,hl⟩
  | pan a=>obtain ⟨z,hz,hl⟩:=h2;exact ⟨z,by rw [e];exact hz,hl⟩
 cases c1<;>cases c2
 ·exact k2 _ rfl
 ·exact k1 _ rfl
 ·exact k1 _ rfl
 ·exact k1 _ rfl
theorem Tells.or5 {β : Type} {c1 c2 c3 c4 c5 : Bool} {A B : Tree (Out × List CV)} {enc : β -> AV} {s : ByteArray} {x y : PR PS β} (h1 : Tells A enc s x) (h2 : Tells B enc s y) :
  Tells (.br c1 (.br c1 A B) (.br c2 (.br c2 A B) (.br c3 (.br c3 A B) (.br c4 (.br c4 A B) (.br c5 A B))))) enc s (bif (c1||(c2||(c3||(c4||c5)))) then x else y):=by
 have k1:∀ T:Tree (Out × List CV),T.sel=A.sel->Tells T enc s x:=fun T e=>by
  cases x with
  | stuck=>exact trivial
  | ret v p=>obtain ⟨z,hz,hl⟩:=h1;exact ⟨z,by rw [e];exact hz,hl⟩
  | pan a=>obtain ⟨z,hz,hl⟩:=h1;exact ⟨z,by rw [e];exact hz,hl⟩
 have k2:∀ T:Tree (Out × List CV),T.sel=B.sel->Tells T enc s y:=fun T e=>by
  cases y with
  | stuck=>exact trivial
  | ret v p=>obtain ⟨z,hz,hl⟩:=h2;exact ⟨z,by rw [e];exact hz,hl⟩
  | pan a=>obtain ⟨z,hz,hl⟩:=h2;exact ⟨z,by rw [e];exact hz,hl⟩
 cases c1
 ·cases c2
  ·cases c3
   ·cases c4
    ·cases c5
     ·exact k2 _ rfl
     ·exact k1 _ rfl
    ·exact k1 _ rfl
   ·exact k1 _ rfl
  ·exact k1 _ rfl
 ·exact k1 _ rfl
abbrev jql (E:ByteArray->PS->PR PS RX):=uOf dX yF (spU fun s p=>Zh (MP s) AR (E s) p)
theorem jpx {E:ByteArray->PS->PR PS RX} (hE:jn Tryz.prog 132 (localG 82 (jfY E))):jn Tryz.prog 204 (localG 82 (jql E)):=Uq Ko (jqm hE) 10 204 fun s n t a=>by
 rw [jkd];unfold jof Zh;refine Tells.or2 (Tells.bind fun _ p1=>Xy) (Tells.or5 (Tells.bind fun _ p1=>Tells.bind fun m p2=>Xy) (Tells.cond ?_ ?_))
 ·exact Tells.bind fun _ p1=>Tells.bind fun e p2=>Tells.bind fun _ p3=>Tells.ret
 ·exact Tells.bind fun m p1=>Xy
def leAB (x y:AV):Prop:=∀ (F:Nat->Prop) (w:World) (bs:List BI) (v:Value),AV.Rel F w bs x v->AV.Rel F w bs y v
theorem leAB.refl {x:AV}:leAB x x:=fun _ _ _ _ h=>h
theorem leAB.of {x y:AV} (h:leA x y) (hc:JM x=true):leAB x y:=fun F w bs v hx =>
 AV.Rel.grow (bs:=[]) ⟨lRq _,fun _ _ h=>h,fun _ _ _=>rfl,fun k p h=>by simp [nth] at h⟩ (h F w v (hx.closed hc))
inductive LeSl:List (Nat × AV)->List (Nat × AV)->Prop
 | nil:LeSl [] []
 | cons {i x y l r}:leAB x y->LeSl l r->LeSl ((i,x)::l) ((i,y)::r)
theorem LeSl.look {l r:List (Nat × AV)} (h:LeSl l r) (i:Nat):(QK r i=none)∨∃ x y,QK l i=some x∧QK r i=some y∧leAB x y:=by
 induction h with
 | nil=>exact .inl rfl
 | @cons k x y l r hxy _ ih =>
   simp only [QK];by_cases hk:(k==i)=true
   ·rw [if_pos hk,if_pos hk];exact .inr ⟨x,y,rfl,rfl,hxy⟩
   ·rw [if_neg hk,if_neg hk];exact ih
theorem yk {n:Nat} {l r:List (Nat × AV)} {m m':Mem} (hl:LeSl l r) (hm:∀ (P:Program) F w bs,MemRel P F w bs m->MemRel P F w bs m'):StWk (mkS n l m) (mkS n r m'):=by
 intro P D F w bs a hs;refine ⟨hs.defers,?_,fun i sl x h1 h2 => ?_,hm P F w bs hs.mem⟩
 ·have:=hs.len
  simp only [mkS] at this ⊢;rw [← this]
  have key:∀ (l:List (Nat × AV)) n i,(mkL l n i).length=n:=by
   intro l n
   induction n with
   | zero=>intro i;rfl
   | succ n ih=>intro i;simp [mkL,ih]
  rw [key,key]
 ·simp only [mkS] at h1;rw [Bm] at h1;split at h1
  rotate_left
  ·cases h1
  rename_i hlt;simp only [sIq,Nat.zero_add] at h1;rcases hl.look i with hn | ⟨u,v,hu,hv,hle⟩
  ·rw [hn] at h1;subst h1;exact ⟨fun _=>trivial,fun h=>(h jA).elim⟩
  ·rw [hv] at h1;subst h1
   have:=hs.slots i ⟨[],u⟩ x (by simp only [mkS];rw [Bm,if_pos hlt,Nat.zero_add,hu]) h2
   exact ⟨fun hk=>hle _ _ _ _ (this.1 hk),fun h=>(h jA).elim⟩
theorem yC {T : TypeId} {cs ds : List CV} {b : Nat} {m m' : Mem} (hb : nth m b = some (some (T, cs))) (hr : jf cs = false) (hc : cs.all closedC = true) (hl : LeL cs ds) (hr' : jf ds = false) (hm : jl m b (some (T, ds)) = m') :
  ∀ (P:Program) F w bs,MemRel P F w bs m->MemRel P F w bs m':=fun _ _ _ _ h=>hm▸h.cellsLe hb hr hc hl hr'
abbrev CE:=CP × RX
abbrev DE:=Option (CP × RX)
def Zu:List CV:=[.any,.any,.any]
def jgw (os:List ByteArray):AV:=.one (.c (.sl [.str] os.length (zK os)))
def SZ (os:List ByteArray) (fo:Nat) (c:CP):St :=
 mkS 29 [(0,.one (.c (.ptr 0 0))),(1,jgw os),(2,.one (.c (.fn (.func fo) [.ptr 0 0] []))),(6,.one (.c (.ptr 2 0)))] [some (82,qK c.1 c.2),some (50,Zu),some (50,Zu)]
def SL (os:List ByteArray) (fo:Nat) (c:CE):St :=
 mkS 29 [(0,.one (.c (.ptr 0 0))),(1,jgw os),(2,.one (.c (.fn (.func fo) [.ptr 0 0] []))),(6,.one (.c (.ptr 2 0))),(7,.one (.c (.ptr 3 0)))] [some (82,qK c.1.1 c.1.2),some (50,Zu),some (50,Zu),some (50,c.2.cells)]
def SE (c:DE):St:=match c with
 | some c=>mkS 29 [(6,.one (.c (.ptr 2 0)))] [some (82,qK c.1.1 c.1.2),some (50,Zu),some (50,c.2.cells)]
 | none=>mkS 29 [(6,.one (.c (.ptr 2 0)))] [some (82,JB),some (50,Zu),some (50,Zu)]
def YX (n:Nat) (ρ:Val):Nat->List ByteArray->Bool
 | j,[]=>Nat.beq n j
 | j,w::r=>jb (((ρ.at j).at 0).S []) w&&YX n ρ (j+1) r
def flat3 (cs:List CV):Bool:=cs.all closedC&&Nat.beq cs.length 3&&!jf cs
def Hz (cs:List CV):Bool:=cs.all closedC&&Nat.beq cs.length 4&&!jf cs
def GK:List CV->Option RX
 | [.str o,.int .i64 v,.sl es n ρ]=>if shEq.shsEq es (aw 0) then some ⟨o,v,n,ρ⟩ else none
 | _=>none
def WY:List CV->Option CP
 | [.str s,.int .i64 n,.str t,.int .i64 a]=>some (s,⟨n,t,a⟩)
 | _=>none
def jf0 (os:List ByteArray) (fo:Nat):List (Nat × AV)->Mem->Option CP
 | [(0, .one (.c (.ptr 0 0))), (1, .one (.c (.sl [.str] n ρ))), (2, .one (.c (.fn (.func f) [.ptr 0 0] []))), (6, .one (.c (.ptr 2 0)))], [some (82, c0), some (50, c1), some (50, c2)] =>
   if Nat.beq f fo&&YX n ρ 0 os&&flat3 c1&&flat3 c2 then WY c0 else none
 | _,_=>none
def jgG (os:List ByteArray) (fo:Nat):List (Nat × AV)->Mem->Option CE
 | [(0, .one (.c (.ptr 0 0))), (1, .one (.c (.sl [.str] n ρ))), (2, .one (.c (.fn (.func f) [.ptr 0 0] []))), (6, .one (.c (.ptr 2 0))), (7, .one (.c (.ptr 3 0)))], [some (82, c0), some (50, c1), some (50, c2), some (50, c3)] =>
   if Nat.beq f fo&&YX n ρ 0 os&&flat3 c1&&flat3 c2 then (match WY c0,GK c3 with | some p,some e=>some (p,e) | _,_=>none) else none
 | _,_=>none
def getE:List (Nat × AV)->Mem->Option DE
 | [(6, .one (.c (.ptr 2 0)))], [some (82, c0), some (50, c1), some (50, c2)] =>
   if flat3 c1 then (match WY c0,GK c2 with
    | some p,some e=>some (some (p,e))
    | _,_=>if Hz c0&&flat3 c2 then some none else none) else none
 | _,_=>none
theorem Ol {n:Nat} {ρ:Val}:∀ {os:List ByteArray} {j:Nat},YX n ρ j os=true->n=j+os.length
 | [],j,h=>by simpa using Nat.eq_of_beq_eq_true h
 | w :: r, j, h => by
   simp only [YX,aTq] at h
   have:=Ol h.2
   simp only [List.length_cons];omega
theorem RV {n:Nat} {ρ:Val}:∀ {os:List ByteArray} {j:Nat},YX n ρ j os=true->∀ i w,nth os i=some w->((ρ.at (j+i)).at 0).S []=w
 | [],_,_,i,w,h=>by simp [nth] at h
 | x :: r, j, h, 0, w, hw => by
   simp only [YX,aTq] at h;simp only [nth,sIq] at hw;subst hw;exact Jc h.1
 | x :: r, j, h, i + 1, w, hw => by
   simp only [YX,aTq] at h
   have:=RV h.2 i w hw
   rwa [show j+1+i=j+(i+1) by omega] at this
theorem TL {n:Nat} {ρ:Val} {os:List ByteArray} (h:YX n ρ 0 os=true):leAB (.one (.c (.sl [.str] n ρ))) (jgw os):=by
 have hn:=Ol h;rw [Nat.zero_add] at hn;subst hn;refine leAB.of (RowIs.le (l:=os) (σ:=ρ) fun i w hw => ?_) rfl
 have:=RV h i w hw
 rwa [Nat.zero_add] at this
theorem JO {cs:List CV} (h:flat3 cs=true):cs.all closedC=true∧jf cs=false∧LeL cs Zu:=by
 simp only [flat3,aTq,Bool.not_eq_true'] at h;obtain ⟨⟨h1,h2⟩,h3⟩:=h;have h2:=Nat.eq_of_beq_eq_true h2;refine ⟨h1,h3,?_⟩
 match cs,h2 with
 | [a,b,c],_=>exact .cons zy (.cons zy (.cons zy .nil))
theorem Gm {cs:List CV} (h:Hz cs=true):cs.all closedC=true∧jf cs=false∧LeL cs JB:=by
 simp only [Hz,aTq,Bool.not_eq_true'] at h;obtain ⟨⟨h1,h2⟩,h3⟩:=h;have h2:=Nat.eq_of_beq_eq_true h2;refine ⟨h1,h3,?_⟩
 match cs,h2 with
 | [a,b,c,d],_=>exact .cons zy (.cons zy (.cons zy (.cons zy .nil)))
theorem Yu {cs:List CV} {e:RX} (h:GK cs=some e):cs=e.cells:=by
 unfold GK at h;split at h
 ·split at h
  ·rename_i hs
   have:=jm hs
   subst this;cases h;rfl
  ·cases h
 ·cases h
theorem JX {cs:List CV} {c:CP} (h:WY cs=some c):cs=qK c.1 c.2:=by
 unfold WY at h;split at h
 ·cases h;rfl
 ·cases h
theorem jjV (os:List ByteArray) (fo:Nat):∀ l m c,jf0 os fo l m=some c->StWk (mkS 29 l m) (SZ os fo c):=by
 intro l m c h;unfold jf0 at h;split at h
 ·rename_i n ρ f c0 c1 c2;split at h
  ·rename_i hc;simp only [aTq] at hc;obtain ⟨⟨⟨hf,ho⟩,h1⟩,h2⟩:=hc;have hf:=Nat.eq_of_beq_eq_true hf;subst hf;rw [JX h];obtain ⟨a1,a2,a3⟩:=JO h1;obtain ⟨b1,b2,b3⟩:=JO h2;refine yk (.cons leAB.refl (.cons (TL ho) (.cons leAB.refl (.cons leAB.refl .nil)))) fun P F w bs hm => ?_;exact yC (b:=2) (m:=[some (82,qK c.1 c.2),some (50,Zu),some (50,c2)]) rfl b2 b1 b3 rfl rfl P F w bs (yC (b:=1) rfl a2 a1 a3 rfl rfl P F w bs hm)
  ·cases h
 ·cases h
theorem jiL (os:List ByteArray) (fo:Nat):∀ l m c,jgG os fo l m=some c->StWk (mkS 29 l m) (SL os fo c):=by
 intro l m c h;unfold jgG at h;split at h
 ·rename_i n ρ f c0 c1 c2 c3;split at h
  ·rename_i hc;simp only [aTq] at hc;obtain ⟨⟨⟨hf,ho⟩,h1⟩,h2⟩:=hc;have hf:=Nat.eq_of_beq_eq_true hf;subst hf;split at h
   ·rename_i p e hp he;cases h;rw [JX hp,Yu he];obtain ⟨a1,a2,a3⟩:=JO h1;obtain ⟨b1,b2,b3⟩:=JO h2;refine yk (.cons leAB.refl (.cons (TL ho) (.cons leAB.refl (.cons leAB.refl (.cons leAB.refl .nil))))) fun P F w bs hm => ?_;exact yC (b:=2) (m:=[some (82,qK p.1 p.2),some (50,Zu),some (50,c2),some (50,e.cells)]) rfl b2 b1 b3 rfl rfl P F w bs (yC (b:=1) rfl a2 a1 a3 rfl rfl P F w bs hm)
   ·cases h
  ·cases h
 ·cases h
theorem Mp:∀ l m c,getE l m=some c->StWk (mkS 29 l m) (SE c):=by
 intro l m c h;unfold getE at h;split at h
 ·rename_i c0 c1 c2;split at h
  ·rename_i h1;obtain ⟨a1,a2,a3⟩:=JO h1;split at h
   ·rename_i p e hp he;cases h;rw [JX hp,Yu he];exact yk (.cons leAB.refl .nil) (yC (b:=1) rfl a2 a1 a3 rfl rfl)
   ·split at h
    ·rename_i h2;cases h;rw [aTq] at h2;obtain ⟨b1,b2,b3⟩:=Gm h2.1;obtain ⟨d1,d2,d3⟩:=JO h2.2;refine yk (.cons leAB.refl .nil) fun P F w bs hm => ?_;exact yC (b:=2) (m:=[some (82,JB),some (50,Zu),some (50,c2)]) rfl d2 d1 d3 rfl rfl P F w bs (yC (b:=0) (m:=[some (82,c0),some (50,Zu),some (50,c2)]) rfl b2 b1 b3 rfl rfl P F w bs (yC (b:=1) rfl a2 a1 a3 rfl rfl P F w bs hm))
    ·cases h
  ·cases h
 ·cases h
def AL (os:List ByteArray) (fo:Nat):Sx.Frame CE DE:=⟨3,29,[0,1,2,6,7],jgG os fo,SL os fo,[6],getE,SE⟩
def AZ (os:List ByteArray) (fo:Nat):Sx.Frame CP DE:=⟨3,29,[0,1,2,6],jf0 os fo,SZ os fo,[6],getE,SE⟩
theorem aL (os:List ByteArray) (fo:Nat):(AL os fo).Ok:=⟨jiL os fo,Mp⟩
theorem aZ (os:List ByteArray) (fo:Nat):(AZ os fo).Ok:=⟨jjV os fo,Mp⟩
def B2 (a:Int):Tree (XP × DE):=.leaf (.pan (Ql a),none)
def jmB (s:ByteArray) (e:RX) (p:PS):Tree (XP × DE):=.leaf (.ret,some ((s,p),e))
def TellsC (T:Tree (XP × DE)) (s:ByteArray):PR PS RX->Prop
 | .stuck=>True
 | .ret v p=>T.sel=some (.ret,some ((s,p),v))
 | .pan a=>T.sel=some (.pan (Ql a),none)
theorem TellsC.bind {α:Type} {d:α} {x:PR PS α} {K:α->PS->Tree (XP × DE)} {s:ByteArray} {f:α->PS->PR PS RX} (h:∀ v p,TellsC (K v p) s (f v p)):TellsC (nxT d x K B2) s (x.bind f):=by
 cases x with
 | stuck=>exact trivial
 | pan a=>rfl
 | ret v p =>
   have:=h v p
   show TellsC _ s (f v p);cases hf:f v p with
  | stuck=>exact trivial
  | ret w q=>rw [hf] at this;exact this
  | pan a=>rw [hf] at this;exact this
theorem TellsC.cond {c:Bool} {A B:Tree (XP × DE)} {s:ByteArray} {x y:PR PS RX} (h1:TellsC A s x) (h2:TellsC B s y):TellsC (.br c A B) s (bif c then x else y):=by
 cases c
 ·show TellsC _ s y;cases y<;>exact h2
 ·show TellsC _ s x;cases x<;>exact h1
theorem TellsC.br1 {c:Bool} {A B:Tree (XP × DE)} {s:ByteArray} {x:PR PS RX} (hc:c=true) (h:TellsC A s x):TellsC (.br c A B) s x:=by
 subst hc;cases x<;>exact h
theorem TellsC.br0 {c:Bool} {A B:Tree (XP × DE)} {s:ByteArray} {x:PR PS RX} (hc:c=false) (h:TellsC B s x):TellsC (.br c A B) s x:=by
 subst hc;cases x<;>exact h
theorem TellsC.nd {c:Bool} {A:Tree (XP × DE)} {s:ByteArray} {x:PR PS RX} (hc:c=true) (h:TellsC A s x):TellsC (.need c A) s x:=by
 subst hc;cases x<;>exact h
def rCh (s:ByteArray) (os:List ByteArray) (O:ByteArray->PS->PR PS RX) (g:CE->Tree (XP × DE)) (e:RX):Nat->Nat->PS->Tree (XP × DE)
 | 0,_,_=>.fail
 | k + 1, j, p => .br (lt (j : Int) (ja os.length)) (.need (jc (j : Int) os.length) (nxT false (qJ (MP s) ((((zK os).at j).at 0).S []) p)
   (fun c p1=>.br c (nxT dX (O s p1) (fun x p2=>g ((s,p2),exR ((((zK os).at j).at 0).S []) 0 [e,x])) B2) (rCh s os O g e k (j+1) p1)) B2)) (jmB s e p)
theorem JD {s : ByteArray} {os : List ByteArray} (hos : os.length <= 100) {O : ByteArray -> PS -> PR PS RX} {g : CE -> Tree (XP × DE)} {G : RX -> PS -> PR PS RX} (hg : ∀ e p, TellsC (g ((s, p), e)) s (G e p)) (e : RX) :
  ∀ (r:List ByteArray) (j k:Nat) (p:PS),os.drop j=r->j+r.length=os.length->r.length<k->TellsC (rCh s os O g e k j p) s (Zs (MP s) AR (O s) G e r p)
 | [], j, k, p, hd, hj, hk => by
   obtain ⟨k,rfl⟩ : ∃ k',k=k'+1:=⟨k - 1,by omega⟩
   refine TellsC.br0 ?_ rfl;unfold lt ja;simp at hj ⊢;omega
 | o :: r, j, k, p, hd, hj, hk => by
   obtain ⟨k,rfl⟩ : ∃ k',k=k'+1:=⟨k - 1,by omega⟩
   obtain ⟨h1,h2⟩:=YE os j o r hd;have hlen:j<os.length:=js h1;have hw:(((zK os).at j).at 0).S []=o:=by rw [Yw os j o h1];rfl
   refine TellsC.br1 (by unfold lt ja;simp;omega) (TellsC.nd (by unfold jc le lt ja;simp;omega) ?_)
   rw [hw];refine TellsC.bind fun c p1=>TellsC.cond (TellsC.bind fun x p2=>hg _ _) ?_;exact JD hos hg e r (j+1) k p1 h2 (by simp only [List.length_cons] at hj;omega) (by simp only [List.length_cons] at hk;omega)
def chT (s:ByteArray) (r:PR PS RX):Tree (XP × DE):=nxT dX r (fun e p=>jmB s e p) B2
theorem Kb {s:ByteArray} {r:PR PS RX} {x:XP × DE} {T:Tree (XP × DE)} (h:(chT s r).sel=some x) (ht:TellsC T s r):T.sel=some x:=by
 cases r with
 | stuck=>cases h
 | ret v p=>rw [← h];exact ht
 | pan a=>rw [← h];exact ht
theorem Zd {s:ByteArray} {r:PR PS RX}:TellsC (chT s r) s r:=by cases r<;>first | exact trivial | rfl
abbrev UO (O:ByteArray->PS->PR PS RX):=uOf dX yF (spU O)
abbrev XF (fo:Nat) (O:ByteArray->PS->PR PS RX) (sx:List (Nat × (Nat->St->Tree (XP × St)))):HdP:=⟨(fo,localG 82 (UO O))::Gn,[],[],[],sx,3,fo::[211,133,32,33,85,31]⟩
theorem U9 (r:Nat):XOk Tryz.prog ⟨Gn,[],[],[],[],r,[211,133,32,33,85,31]⟩ :=
 ((((((XOk.nil.loCons jgA (LocFn.localG _ _)).loCons je4 (LocFn.localG _ _)).loCons jgn (LocFn.localG _ _)).loCons jhy (LocFn.localG _ _)).loCons jh5 (LocFn.localG _ _)).loCons jik (LocFn.localG _ _))
theorem xF {fo:Nat} {O:ByteArray->PS->PR PS RX} (hO:jn Tryz.prog fo (localG 82 (UO O))):XOk Tryz.prog (XF fo O []):=(U9 3).loCons hO (LocFn.localG _ _)
def chS (os:List ByteArray) (O:ByteArray->PS->PR PS RX) (k:Nat) (s:ByteArray) (p:PS):PR PS RX:=(O s p).bind fun e p1=>yP (MP s) AR os (O s) k e p1
def gCh (os:List ByteArray) (O:ByteArray->PS->PR PS RX) (k:Nat) (c:CE):Tree (XP × DE):=chT c.1.1 (yP (MP c.1.1) AR os (O c.1.1) k c.2 c.1.2)
def uCh (os:List ByteArray) (O:ByteArray->PS->PR PS RX) (k:Nat) (c:CP):Tree (XP × DE):=chT c.1 (chS os O k c.1 c.2)
def tCh (S:ByteArray->PS->PR PS RX) (s:ByteArray) (p:PS):Tree (Out × List CV):=nxT dX (S s p) (fun e p1=>QR (yF e) s p1) qc
theorem T6:((nth Tryz.prog.funcs.toList 160).bind fun fn=>fn.body.map fun c=>(jv c).length)=some 1:=by kernel_rfl
theorem Ty:(findLabel (zL Tryz.prog 160).1 0).isSome=true:=by kernel_rfl
abbrev zZ:List ByteArray:=[yD,zc]
theorem jaT (O : ByteArray -> PS -> PR PS RX) (g : CE -> Tree (XP × DE)) (s t o : ByteArray) (n a v : Int) (m : Nat) (ρ : Val) :
  U6 (AL zZ 204) Tryz.prog YM (XF 204 O []) 10 160 0 g ((s,⟨n,t,a⟩),⟨o,v,m,ρ⟩)=rCh s zZ O g ⟨o,v,m,ρ⟩ 3 0 ⟨n,t,a⟩:=by kernel_rfl
theorem IU (O : ByteArray -> PS -> PR PS RX) (g : CE -> Tree (XP × DE)) (s t : ByteArray) (n a : Int) :
  Uc (AL zZ 204) (AZ zZ 204) Tryz.prog YM (XF 204 O []) 10 160 0 g (s,⟨n,t,a⟩)=nxT dX (O s ⟨n,t,a⟩) (fun e p1=>rCh s zZ O g e 3 0 p1) B2:=by kernel_rfl
theorem jjj {O:ByteArray->PS->PR PS RX} (hO:jn Tryz.prog 204 (localG 82 (UO O))):∀ k,PassCore Tryz.prog 160 0 3 (SL zZ 204) SE (gCh zZ O k) :=
 PassCore.fuel (A:=AL zZ 204) (aL zZ 204) Ko (xF hO) 10 (fun _=>rfl) fun k c x h=>by
  obtain ⟨⟨s,⟨n,t,a⟩⟩,⟨o,v,m,ρ⟩⟩:=c;rw [jaT];exact Kb h (JD (by decide) (fun e p=>Zd) _ zZ 0 3 _ rfl rfl (by decide))
theorem jqd {O:ByteArray->PS->PR PS RX} (hO:jn Tryz.prog 204 (localG 82 (UO O))) (k:Nat):SxOne Tryz.prog 160 (j4 (AZ zZ 204) (uCh zZ O (k+1))) :=
 SxOne.core (A:=AL zZ 204) (aL zZ 204) (aZ zZ 204) rfl rfl Ko (xF hO) 10 (jjj hO k) (fun b x h=>by
  obtain ⟨s,⟨n,t,a⟩⟩:=b;rw [IU];refine Kb h ?_;exact TellsC.bind fun e p1=>JD (by decide) (fun e p=>Zd) _ zZ 0 3 _ rfl rfl (by decide)) T6 Ty
abbrev jh9 (O:ByteArray->PS->PR PS RX) (k:Nat):HdP:=XF 204 O [(160,j4 (AZ zZ 204) (uCh zZ O (k+1)))]
theorem jpZ {O:ByteArray->PS->PR PS RX} (hO:jn Tryz.prog 204 (localG 82 (UO O))) (k:Nat):XOk Tryz.prog (jh9 O k):=(xF hO).sxCons (jqd hO k)
theorem jkX (O:ByteArray->PS->PR PS RX) (k:Nat) (s t:ByteArray) (n a:Int):qX Tryz.prog YM (jh9 O k) 10 197 82 [] [.str s,.int .i64 n,.str t,.int .i64 a]=tCh (chS zZ O (k+1)) s ⟨n,t,a⟩:=by kernel_rfl
theorem jpT {O:ByteArray->PS->PR PS RX} (hO:jn Tryz.prog 204 (localG 82 (UO O))) (k:Nat):jn Tryz.prog 197 (localG 82 (UO (chS zZ O (k+1)))):=Uq Ko (jpZ hO k) 10 197 fun s n t a=>by
 rw [jkX]
 have:=Tells.bind (enc:=yF) (s:=s) (d:=dX) (x:=chS zZ O (k+1) s ⟨n,t,a⟩) (K:=fun e p1=>QR (yF e) s p1) (f:=fun e p1=>.ret e p1) fun e p1=>Tells.ret
 cases hx:chS zZ O (k+1) s ⟨n,t,a⟩ with
 | stuck=>exact trivial
 | ret v q=>rw [hx] at this;unfold tCh;rw [hx];exact this
 | pan b=>rw [hx] at this;unfold tCh;rw [hx];exact this
abbrev z6:List ByteArray:=[yw]
theorem jbB (O : ByteArray -> PS -> PR PS RX) (g : CE -> Tree (XP × DE)) (s t o : ByteArray) (n a v : Int) (m : Nat) (ρ : Val) :
  U6 (AL z6 180) Tryz.prog YM (XF 180 O []) 10 160 0 g ((s,⟨n,t,a⟩),⟨o,v,m,ρ⟩)=rCh s z6 O g ⟨o,v,m,ρ⟩ 3 0 ⟨n,t,a⟩:=by kernel_rfl
theorem IN (O : ByteArray -> PS -> PR PS RX) (g : CE -> Tree (XP × DE)) (s t : ByteArray) (n a : Int) :
  Uc (AL z6 180) (AZ z6 180) Tryz.prog YM (XF 180 O []) 10 160 0 g (s,⟨n,t,a⟩)=nxT dX (O s ⟨n,t,a⟩) (fun e p1=>rCh s z6 O g e 3 0 p1) B2:=by kernel_rfl
theorem jkp {O:ByteArray->PS->PR PS RX} (hO:jn Tryz.prog 180 (localG 82 (UO O))):∀ k,PassCore Tryz.prog 160 0 3 (SL z6 180) SE (gCh z6 O k) :=
 PassCore.fuel (A:=AL z6 180) (aL z6 180) Ko (xF hO) 10 (fun _=>rfl) fun k c x h=>by
  obtain ⟨⟨s,⟨n,t,a⟩⟩,⟨o,v,m,ρ⟩⟩:=c;rw [jbB];exact Kb h (JD (by decide) (fun e p=>Zd) _ z6 0 3 _ rfl rfl (by decide))
theorem jpY {O:ByteArray->PS->PR PS RX} (hO:jn Tryz.prog 180 (localG 82 (UO O))) (k:Nat):SxOne Tryz.prog 160 (j4 (AZ z6 180) (uCh z6 O (k+1))) :=
 SxOne.core (A:=AL z6 180) (aL z6 180) (aZ z6 180) rfl rfl Ko (xF hO) 10 (jkp hO k) (fun b x h=>by
  obtain ⟨s,⟨n,t,a⟩⟩:=b;rw [IN];refine Kb h ?_;exact TellsC.bind fun e p1=>JD (by decide) (fun e p=>Zd) _ z6 0 3 _ rfl rfl (by decide)) T6 Ty
abbrev jit (O:ByteArray->PS->PR PS RX) (k:Nat):HdP:=XF 180 O [(160,j4 (AZ z6 180) (uCh z6 O (k+1)))]
theorem jpH {O:ByteArray->PS->PR PS RX} (hO:jn Tryz.prog 180 (localG 82 (UO O))) (k:Nat):XOk Tryz.prog (jit O k):=(xF hO).sxCons (jpY hO k)
theorem jj4 (O:ByteArray->PS->PR PS RX) (k:Nat) (s t:ByteArray) (n a:Int):qX Tryz.prog YM (jit O k) 10 161 82 [] [.str s,.int .i64 n,.str t,.int .i64 a]=tCh (chS z6 O (k+1)) s ⟨n,t,a⟩:=by kernel_rfl
theorem jp6 {O:ByteArray->PS->PR PS RX} (hO:jn Tryz.prog 180 (localG 82 (UO O))) (k:Nat):jn Tryz.prog 161 (localG 82 (UO (chS z6 O (k+1)))):=Uq Ko (jpH hO k) 10 161 fun s n t a=>by
 rw [jj4]
 have:=Tells.bind (enc:=yF) (s:=s) (d:=dX) (x:=chS z6 O (k+1) s ⟨n,t,a⟩) (K:=fun e p1=>QR (yF e) s p1) (f:=fun e p1=>.ret e p1) fun e p1=>Tells.ret
 cases hx:chS z6 O (k+1) s ⟨n,t,a⟩ with
 | stuck=>exact trivial
 | ret v q=>rw [hx] at this;unfold tCh;rw [hx];exact this
 | pan b=>rw [hx] at this;unfold tCh;rw [hx];exact this
abbrev zY:List ByteArray:=[wOr]
theorem jcA (O : ByteArray -> PS -> PR PS RX) (g : CE -> Tree (XP × DE)) (s t o : ByteArray) (n a v : Int) (m : Nat) (ρ : Val) :
  U6 (AL zY 161) Tryz.prog YM (XF 161 O []) 10 160 0 g ((s,⟨n,t,a⟩),⟨o,v,m,ρ⟩)=rCh s zY O g ⟨o,v,m,ρ⟩ 3 0 ⟨n,t,a⟩:=by kernel_rfl
theorem I1 (O : ByteArray -> PS -> PR PS RX) (g : CE -> Tree (XP × DE)) (s t : ByteArray) (n a : Int) :
  Uc (AL zY 161) (AZ zY 161) Tryz.prog YM (XF 161 O []) 10 160 0 g (s,⟨n,t,a⟩)=nxT dX (O s ⟨n,t,a⟩) (fun e p1=>rCh s zY O g e 3 0 p1) B2:=by kernel_rfl
theorem jkq {O:ByteArray->PS->PR PS RX} (hO:jn Tryz.prog 161 (localG 82 (UO O))):∀ k,PassCore Tryz.prog 160 0 3 (SL zY 161) SE (gCh zY O k) :=
 PassCore.fuel (A:=AL zY 161) (aL zY 161) Ko (xF hO) 10 (fun _=>rfl) fun k c x h=>by
  obtain ⟨⟨s,⟨n,t,a⟩⟩,⟨o,v,m,ρ⟩⟩:=c;rw [jcA];exact Kb h (JD (by decide) (fun e p=>Zd) _ zY 0 3 _ rfl rfl (by decide))
theorem jpC {O:ByteArray->PS->PR PS RX} (hO:jn Tryz.prog 161 (localG 82 (UO O))) (k:Nat):SxOne Tryz.prog 160 (j4 (AZ zY 161) (uCh zY O (k+1))) :=
 SxOne.core (A:=AL zY 161) (aL zY 161) (aZ zY 161) rfl rfl Ko (xF hO) 10 (jkq hO k) (fun b x h=>by
  obtain ⟨s,⟨n,t,a⟩⟩:=b;rw [I1];refine Kb h ?_;exact TellsC.bind fun e p1=>JD (by decide) (fun e p=>Zd) _ zY 0 3 _ rfl rfl (by decide)) T6 Ty
abbrev jio (O:ByteArray->PS->PR PS RX) (k:Nat):HdP:=XF 161 O [(160,j4 (AZ zY 161) (uCh zY O (k+1)))]
theorem jqa {O:ByteArray->PS->PR PS RX} (hO:jn Tryz.prog 161 (localG 82 (UO O))) (k:Nat):XOk Tryz.prog (jio O k):=(xF hO).sxCons (jpC hO k)
theorem jkD (O:ByteArray->PS->PR PS RX) (k:Nat) (s t:ByteArray) (n a:Int):qX Tryz.prog YM (jio O k) 10 132 82 [] [.str s,.int .i64 n,.str t,.int .i64 a]=tCh (chS zY O (k+1)) s ⟨n,t,a⟩:=by kernel_rfl
theorem jpL {O:ByteArray->PS->PR PS RX} (hO:jn Tryz.prog 161 (localG 82 (UO O))) (k:Nat):jn Tryz.prog 132 (localG 82 (UO (chS zY O (k+1)))):=Uq Ko (jqa hO k) 10 132 fun s n t a=>by
 rw [jkD]
 have:=Tells.bind (enc:=yF) (s:=s) (d:=dX) (x:=chS zY O (k+1) s ⟨n,t,a⟩) (K:=fun e p1=>QR (yF e) s p1) (f:=fun e p1=>.ret e p1) fun e p1=>Tells.ret
 cases hx:chS zY O (k+1) s ⟨n,t,a⟩ with
 | stuck=>exact trivial
 | ret v q=>rw [hx] at this;unfold tCh;rw [hx];exact this
 | pan b=>rw [hx] at this;unfold tCh;rw [hx];exact this
end Go.Proofs.YtiefjlcakpdfeaaGreat
namespace Go.Sx
open Go Go.RowKit
variable {P:Program}
def jcl (P:Program) (H:Hd) (X:HdP) (n f:Nat) (args:List A1) (mem:Mem):Tree (Out × Mem) :=
 match nth P.funcs.toList f with
 | some fn=>match fn.body with
  | some c => if Nat.ble args.length fn.ntmps then
    (j5 P H X (jU P H n) (zM P H X n) f mem.length 0 c ⟨⟨args.map (fun a=>⟨[],.one a⟩)++List.replicate (fn.ntmps - args.length) ⟨[],.any⟩,mem⟩,[]⟩).bind fun x=>match x.1 with
     | .exit _=>.fail
     | .goto _=>.fail
     | .pan y=>ku P H X (jU P H n) (zM P H X n) fn x.2.s x.2.dl (some y) x.2.s.mem
     | _=>ku P H X (jU P H n) (zM P H X n) fn x.2.s x.2.dl none x.2.s.mem
    else .fail
  | none=>.fail
 | none=>.fail
theorem Fz {H:Hd} (hH:HdOk P H) {X:HdP} (hX:XOk P X) (n f:Nat):jn P f (jcl P H X n f):=by
 intro args mem r mem' h F w bs vs hm hargs;unfold jcl at h;split at h
 rotate_left
 ·simp [Tree.sel] at h
 rename_i fn hfn;split at h
 rotate_left
 ·simp [Tree.sel] at h
 rename_i c hb;split at h
 rotate_left
 ·simp [Tree.sel] at h
 rename_i hle;obtain ⟨⟨x,s1⟩,h1,h2⟩:=jh h;rw [jd,Array.getElem?_toList] at hfn;have hst:=Wp (nt:=fn.ntmps) hm hargs (by simpa using hle)
 refine calls_of_wp_defers hfn hb (ki hH.pc hX.rx hX.nc (zu hH n) (yu hH hX n) f mem.length c 0 _ h1 (fun i b hh hi hk=>hH.lh f fn c i b hh hfn hb hi (by simpa using hk)) (fun i b hh hi hk=>hX.lx f fn c i b hh hfn hb hi (by simpa using hk)) (fun b hh hi hk=>hX.sx f fn c b hh hfn hb hi hk) (Nat.le_of_eq hm.len.symm) (hst.toP .nil) fun F' w' bs' a' e he hs' hx => ?_)
 have hext:Ext bs.length F w bs F' w' bs':=he.weak (Nat.le_of_eq hm.len)
 have key:∀ (pan:Option CV) (u:FrameMode),(ku P H X (jU P H n) (zM P H X n) fn s1.s s1.dl pan s1.s.mem).sel=some (r,mem')->UMode F' w' bs' pan u->Leaves P fn a'.tmps (fun e w'=>∃ F' bs',Ext bs.length F w bs F' w' bs'∧MemRel P F' w' bs' mem'∧r.Ends F' w' bs' e) a'.defers u w':=by
  intro pan u hl hu
  have:=leaveP_ok hH hX.xs (zu hH n) (yu hH hX n) s1.dl pan s1.s.mem hl hs'.st hs'.ds hu
  exact leaveP_ok.leaves_mono (fun e w2 ⟨F2,bs2,he2,hm2,hr2⟩=>⟨F2,bs2,hext.trans he2 hext.le,hm2,hr2⟩) _ _ _ this
 cases x with
 | normal=>cases hx;exact key none .returning h2 rfl
 | ret=>cases hx;exact key none .returning h2 rfl
 | pan y=>obtain ⟨v,rfl,hv⟩:=hx;exact key (some y) _ h2 ⟨v,rfl,hv⟩
 | exit k=>simp [Tree.sel] at h2
 | goto k=>simp [Tree.sel] at h2
theorem OC {f : Nat} (T : TypeId) {ev : List A1 -> Mem -> Tree (Out × Mem)} (hev : jn P f ev) {u : List A1 -> List CV -> Tree (Out × List CV)}
  (hu:∀ rest cs r,(u rest cs).sel=some r->∃ z,((ev (.c (.ptr 0 0)::rest) [some (T,cs)]).bind (Dg T)).sel=some z∧LeOut z r):jn P f (localG T u):=by
 intro args mem r mem' h F w bs vs hm hargs;unfold localG at h;split at h
 rotate_left
 ·simp [Tree.sel] at h
 rename_i b rest;split at h
 rotate_left
 ·simp [Tree.sel] at h
 rename_i T' cs hb;split at h
 rotate_left
 ·simp [Tree.sel] at h
 rename_i hcond;simp only [aTq,beq_iff_eq,Bool.not_eq_true'] at hcond;obtain ⟨⟨⟨rfl,hr⟩,hcs⟩,hrest⟩:=hcond;obtain ⟨⟨o,ds⟩,h1,h2⟩:=jh h;simp only [Tree.sel,sIq,pIq] at h2;obtain ⟨rfl,rfl⟩:=h2;obtain ⟨⟨o',cs'⟩,h3,hle⟩:=hu rest cs _ h1;obtain ⟨⟨o1,m1⟩,h4,h5⟩:=jh h3;cases hargs with
 | cons hp hvs =>
   rename_i v0 vs;cases hp with
  | ptr hx =>
    rename_i x;have hm1:=hm.lone hb hr hcs hx;have hargs1:All2 (A1.Rel F w [x]) (.c (.ptr 0 0)::rest) (.pointer (some ⟨x.p,0,none⟩)::vs):=.cons (CV.Rel.ptr (bs:=[x]) (b:=0) (x:=x) rfl) (XO hvs hrest)
    have hbs:nth (jl mem b (some (T',cs'))) b=some (some (T',cs')):=by
     have hlt:=js hb;rw [jd,jD];simp [hlt]
    refine (hev _ _ o1 m1 h4 F w [x] _ hm1 hargs1).mono fun e w' ⟨F',bs',hext,hm',hend⟩ => ?_;unfold Dg at h5;split at h5
    ·rename_i a hoa;simp only at hoa;subst hoa;split at h5
     ·rename_i T2 cs2 hz;split at h5
      ·rename_i hc;simp only [aTq,beq_iff_eq,Bool.not_eq_true'] at hc;obtain ⟨⟨⟨⟨rfl,c1⟩,c2⟩,c3⟩,c4⟩:=hc;simp only [Tree.sel,sIq,pIq] at h5;obtain ⟨rfl,rfl⟩:=h5;obtain ⟨v,rfl,hv⟩:=hend;obtain ⟨F2,e2,hm2,r2⟩:=Wz hm' hv;have e3:=hext.trans e2 (hext.le);have hx0:nth bs' 0=some x:=hext.pre 0 x (by simp) rfl
       obtain ⟨F3,e4,hm3⟩:=hm2.frzBlock hz c1 c2 hx0
       have hz3:nth (jl (qI (yx m1 a).1 cs2).1 0 (some (T2,(qI (yx m1 a).1 cs2).2))) 0=some (some (T2,(qI (yx m1 a).1 cs2).2)):=by
        have hlt:=js (K9 (l:=cs2) hz c1);rw [jd,jD];simp [hlt]
       have e5:=e3.trans e4 (hext.le);obtain ⟨he,hmm⟩:=hm.unlone hb hr hx e5 hm3 hz3 c2 c3;cases hle with
       | ret hla hl hr' =>
         have hmm2:=hmm.cellsLe hbs c2 c3 hl hr';rw [YA] at hmm2;exact ⟨F3,bs,he,hmm2,v,rfl,AV.Rel.grow ⟨lRq _,fun _ _ h=>h,fun _ _ _=>rfl,fun k p h=>by simp [nth] at h⟩ (hla _ _ _ ((AV.Rel.grow e4.grow r2).closed c4))⟩
      ·simp [Tree.sel] at h5
     ·simp [Tree.sel] at h5
    ·rename_i y hoy;simp only at hoy;subst hoy;split at h5
     ·rename_i T2 cs2 hz;split at h5
      ·rename_i hc;simp only [aTq,beq_iff_eq,Bool.not_eq_true'] at hc;obtain ⟨⟨rfl,c1⟩,c4⟩:=hc;simp only [Tree.sel,sIq,pIq] at h5;obtain ⟨rfl,rfl⟩:=h5;obtain ⟨v,rfl,hv⟩:=hend;have hm3:=hm'.anyBlock hz c1
       have hz3:nth (jl m1 0 (some (T2,cs2.map fun _=>CV.any))) 0=some (some (T2,cs2.map fun _=>CV.any)):=by
        have hlt:=js hz;rw [jd,jD];simp [hlt]
       obtain ⟨he,hmm⟩:=hm.unlone hb hr hx hext hm3 hz3 (Kx cs2) (Yf cs2);cases hle with
       | pan hl hr' =>
         have hmm2:=hmm.cellsLe hbs (Kx cs2) (Yf cs2) hl hr';rw [YA] at hmm2;exact ⟨F',bs,he,hmm2,v,rfl,hv.closed c4⟩
      ·simp [Tree.sel] at h5
     ·simp [Tree.sel] at h5
def jaO (P:Program) (H:Hd) (X:HdP) (k f:Nat) (T:TypeId) (rest:List A1) (cs:List CV):Tree (Out × List CV) :=
 (jcl P H X k f (.c (.ptr 0 0)::rest) [some (T,cs)]).bind (Dg T)
end Go.Sx
namespace Go.Proofs.YtiefjlcakpdfeaaGreat
open Go Go.Sx Go.RowKit Rb
set_option maxRecDepth 100000
theorem Vq {P:Program} {α:Type} {d:α} {enc:α->AV} (f:Nat):jn P f (localG 82 (uOf d enc (spU fun _ _=>.stuck))):=by
 intro args mem r mem' h
 exfalso
 unfold localG at h;split at h
 ·split at h
  ·split at h
   ·obtain ⟨y,h1,_⟩:=jh h;unfold uOf spU at h1;split at h1
    ·split at h1<;>cases h1
    ·cases h1
   ·cases h
  ·cases h
 ·cases h
theorem Tells.br1 {α:Type} {c:Bool} {A B:Tree (Out × List CV)} {enc:α->AV} {s:ByteArray} {x:PR PS α} (hc:c=true) (h:Tells A enc s x):Tells (.br c A B) enc s x:=by
 subst hc;cases x<;>exact h
theorem Tells.br0 {α:Type} {c:Bool} {A B:Tree (Out × List CV)} {enc:α->AV} {s:ByteArray} {x:PR PS α} (hc:c=false) (h:Tells B enc s x):Tells (.br c A B) enc s x:=by
 subst hc;cases x<;>exact h
theorem Tells.nd {α:Type} {c:Bool} {A:Tree (Out × List CV)} {enc:α->AV} {s:ByteArray} {x:PR PS α} (hc:c=true) (h:Tells A enc s x):Tells (.need c A) enc s x:=by
 subst hc;cases x<;>exact h
theorem jpF {P:Program} {α:Type} {H:Hd} {X:HdP} {d:α} {enc:α->AV} (hH:HdOk P H) (hX:XOk P X) (k f:Nat) {F:ByteArray->PS->PR PS α} (h:∀ s n t a,Tells (jaO P H X k f 82 [] [.str s,.int .i64 n,.str t,.int .i64 a]) enc s (F s ⟨n,t,a⟩)):jn P f (localG 82 (uOf d enc (spU F))) :=
 OC 82 (Fz hH hX k f) fun rest cs r hr=>by
  unfold uOf at hr;split at hr
  ·rename_i s n t a;unfold spU at hr;split at hr
   ·have ht:=h s n t a;rcases Mj hr with ⟨v,p,hx,rfl⟩ | ⟨a',hx,rfl⟩
    ·rw [hx] at ht;exact ht
    ·rw [hx] at ht;exact ht
   ·cases hr
  ·cases hr
abbrev cmps:List ByteArray:=[wEq,wLt,wGt]
def jgd (s:ByteArray) (S:ByteArray->PS->PR PS RX) (e:RX):Nat->Nat->PS->Tree (Out × List CV)
 | 0,_,_=>.fail
 | k + 1, j, p => .br (lt (j : Int) (ja cmps.length)) (.need (jc (j : Int) cmps.length) (nxT false (qJ (MP s) ((((zK cmps).at j).at 0).S []) p)
   (fun c p1=>.br c (nxT dX (S s p1) (fun x p2=>QR (yF (exR ((((zK cmps).at j).at 0).S []) 0 [e,x])) s p2) qc) (jgd s S e k (j+1) p1)) qc)) (QR (yF e) s p)
theorem HY {s : ByteArray} {S : ByteArray -> PS -> PR PS RX} (e : RX) : ∀ (r : List ByteArray) (j k : Nat) (p : PS), cmps.drop j = r -> j + r.length = cmps.length -> r.length < k ->
  Tells (jgd s S e k j p) yF s (Zs (MP s) AR (S s) (fun x s3=>.ret x s3) e r p)
 | [], j, k, p, hd, hj, hk => by
   obtain ⟨k,rfl⟩ : ∃ k',k=k'+1:=⟨k - 1,by omega⟩
   refine Tells.br0 ?_ Tells.ret;unfold lt ja;simp at hj ⊢;omega
 | o :: r, j, k, p, hd, hj, hk => by
   obtain ⟨k,rfl⟩ : ∃ k',k=k'+1:=⟨k - 1,by omega⟩
   obtain ⟨h1,h2⟩:=YE cmps j o r hd;have hlen:j<cmps.length:=js h1;have hlen3:j<3:=hlen;have h33:cmps.length=3:=rfl;have h00:([]:List ByteArray).length=0:=rfl;have hw:(((zK cmps).at j).at 0).S []=o:=by rw [Yw cmps j o h1];rfl
   refine Tells.br1 (by unfold lt ja;simp;omega) (Tells.nd (by unfold jc le lt ja;simp;omega) ?_)
   rw [hw];refine Tells.bind fun c p1=>Tells.cond (Tells.bind fun x p2=>Tells.ret) ?_;exact HY e r (j+1) k p1 h2 (by simp only [List.length_cons] at hj;omega) (by simp only [List.length_cons] at hk;omega)
abbrev jme (One Sum:ByteArray->PS->PR PS RX):HdP:=⟨(180,localG 82 (UO One))::(197,localG 82 (UO Sum))::Gn,[],[],[],[],4,180::197::[211,133,32,33,85,31]⟩
theorem jrp {One Sum:ByteArray->PS->PR PS RX} (h1:jn Tryz.prog 180 (localG 82 (UO One))) (h2:jn Tryz.prog 197 (localG 82 (UO Sum))):XOk Tryz.prog (jme One Sum) :=
 ((U9 4).loCons h2 (LocFn.localG _ _)).loCons h1 (LocFn.localG _ _)
def jrc (One Sum:ByteArray->PS->PR PS RX) (s:ByteArray) (p:PS):Tree (Out × List CV) :=
 nxT false (qJ (MP s) yy p) (fun c p1=>.br c (nxT dX (One s p1) (fun e p2=>QR (yF (exR yy 0 [e])) s p2) qc) (nxT dX (Sum s p1) (fun e p2=>jgd s Sum e 4 0 p2) qc)) qc
theorem jj0 (One Sum:ByteArray->PS->PR PS RX) (s t:ByteArray) (n a:Int):jaO Tryz.prog YM (jme One Sum) 10 180 82 [] [.str s,.int .i64 n,.str t,.int .i64 a]=jrc One Sum s ⟨n,t,a⟩:=by kernel_rfl
def jqS (One Sum:ByteArray->PS->PR PS RX) (s:ByteArray) (p:PS):PR PS RX :=
 (qJ (MP s) yy p).bind fun c s1=>bif c then (One s s1).bind fun e s2=>.ret (AR.ex yy 0 [e]) s2
  else (Sum s s1).bind fun e s2=>Zs (MP s) AR (Sum s) (fun x s3=>.ret x s3) e cmps s2
theorem jpK {One Sum:ByteArray->PS->PR PS RX} (h1:jn Tryz.prog 180 (localG 82 (UO One))) (h2:jn Tryz.prog 197 (localG 82 (UO Sum))):jn Tryz.prog 180 (localG 82 (UO (jqS One Sum))):=jpF Ko (jrp h1 h2) 10 180 fun s n t a=>by
 rw [jj0];exact Tells.bind fun c p1=>Tells.cond (Tells.bind fun e p2=>Tells.ret) (Tells.bind fun e p2=>HY e _ 0 4 p2 rfl rfl (by decide))
abbrev jpp (K d:Nat) (s:ByteArray) (p:PS):PR PS RX:=(exs (MP s) AR K d).1 p
abbrev jpU (K d:Nat) (s:ByteArray) (p:PS):PR PS RX:=(exs (MP s) AR K d).2 p
theorem jol (k:Nat):∀ d,jn Tryz.prog 180 (localG 82 (UO (jpp (k+1) d)))∧jn Tryz.prog 132 (localG 82 (UO (jpU (k+1) d)))
 | 0=>⟨Vq 180,Vq 132⟩
 | d + 1 => by
   obtain ⟨h1,h2⟩:=jol k d;have ha:=jpx h2;have hs:=jpT ha k;have ho:jn Tryz.prog 180 (localG 82 (UO (jpp (k+1) (d+1)))):=jpK h1 hs;have hb:=jp6 ho k;exact ⟨ho,jpL hb k⟩
end Go.Proofs.YtiefjlcakpdfeaaGreat