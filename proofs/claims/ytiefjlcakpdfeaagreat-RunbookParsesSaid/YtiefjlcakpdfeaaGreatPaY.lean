/-
 Part PaY of the proof: RbY RbZ RbZa RbZb RbZc RpA RolA.
-/
import Derived.Test.YtiefjlcakpdfeaaGreatPaX
import Derived.Test.YtiefjlcakpdfeaaGreatPaV
import Derived.Test.YtiefjlcakpdfeaaGreatRows
import Derived.Test.YtiefjlcakpdfeaaGreatPaN
namespace Go.Proofs.YtiefjlcakpdfeaaGreat
open Go Go.Sx Go.RowKit Rb
set_option maxRecDepth 100000
def wAt (ρ:Val) (i:Nat):ByteArray:=((ρ.at i).at 0).S []
def nAt (ρ:Val) (i:Nat):Int:=((ρ.at i).at 0).N []
abbrev XW:=(Nat × Val) × Int × Int × Int
def jge (c:XW):St:=mkS 19 [(0,.one (.c (.sl [.str] c.1.1 c.1.2))),(1,.one (.c (.fn (.func 165) [] []))),(4,.one (.c (.int .i64 c.2.1))),(7,.one (.c (.int .i64 c.2.2.1))),(8,.one (.c (.int .i64 c.2.2.2)))] []
def Ib:List (Nat × AV)->Mem->Option XW
 | [(0,.one (.c (.sl [.str] n ρ))),(1,.one (.c (.fn (.func 165) [] []))),(4,.one (.c (.int .i64 r))),(7,.one (.c (.int .i64 l))),(8,.one (.c (.int .i64 i)))],[]=>some ((n,ρ),r,l,i)
 | _,_=>none
theorem jdF:∀ l m c,Ib l m=some c->mkS 19 l m=jge c:=by
 intro l m c h;unfold Ib at h;split at h
 ·cases h;rfl
 ·cases h
def jhV (v:Int):St:=mkS 19 [(4,.one (.c (.int .i64 v)))] []
def NF:List (Nat × AV)->Mem->Option Int
 | [(4,.one (.c (.int .i64 v)))],[]=>some v
 | _,_=>none
theorem jbW:∀ l m c,NF l m=some c->mkS 19 l m=jhV c:=by
 intro l m c h;unfold NF at h;split at h
 ·cases h;rfl
 ·cases h
def A154:Sx.Frame XW Int:=⟨0,19,[0,1,4,7,8],Ib,jge,[4],NF,jhV⟩
theorem jnM:A154.Ok:=.of_eq jdF jbW
noncomputable abbrev LG:Hd:=⟨[pF 154],[(87,nG G87)],[],[]⟩
theorem jlw:HdOk Tryz.prog LG:=(HdOk.nil.ucCons p87).pF 154
def jm8 (g:XW->Tree (XP × Int)) (c:XW):Tree (XP × Int) :=
 let i:=c.2.2.2
 let x:=jB (wAt c.1.2 i.toNat)
 .br (lt i c.2.2.1) (.need (jc i c.1.1) (.need (obD x) (.br (!obV x) (.leaf (.ret,i)) (g (c.1,c.2.1,c.2.2.1,IntKind.wrap .i64 (i+1)))))) (.leaf (.exit 0,c.2.1))
theorem jkW (g:XW->Tree (XP × Int)) (n:Nat) (ρ:Val) (r l i:Int):ju A154 Tryz.prog LG X0 10 154 0 g ((n,ρ),r,l,i)=jm8 g ((n,ρ),r,l,i):=by kernel_rfl
def Xz (n:Nat) (ρ:Val) (l:Int):Nat->Int->Option (Option Int)
 | 0,_=>none
 | k + 1, i => bif lt i l then (bif jc i n then (match jB (wAt ρ i.toNat) with
   | some b=>bif !b then some (some i) else Xz n ρ l k (IntKind.wrap .i64 (i+1))
   | none=>none) else none) else some none
def ooD:Option (Option Int)->Bool | some _=>true | none=>false
def ooB:Option (Option Int)->Bool | some (some _)=>true | _=>false
def ooV:Option (Option Int)->Int | some (some i)=>i | _=>0
def NU (k:Nat) (c:XW):Tree (XP × Int) :=
 let x:=Xz c.1.1 c.1.2 c.2.2.1 k c.2.2.2
 .need (ooD x) (.br (ooB x) (.leaf (.ret,ooV x)) (.leaf (.exit 0,c.2.1)))
theorem ab (k : Nat) (c : XW) : (NU k c).sel = match Xz c.1.1 c.1.2 c.2.2.1 k c.2.2.2 with
  | some (some i)=>some (.ret,i)
  | some none=>some (.exit 0,c.2.1)
  | none=>none:=by
 unfold NU;cases Xz c.1.1 c.1.2 c.2.2.1 k c.2.2.2 with
 | none=>rfl
 | some x=>cases x<;>rfl
theorem jj8 (k:Nat) (c:XW) (x:XP × Int) (h:(NU (k+1) c).sel=some x):(ju A154 Tryz.prog LG X0 10 154 0 (NU k) c).sel=some x:=by
 obtain ⟨⟨n,ρ⟩,r,l,i⟩:=c;rw [jkW];rw [ab] at h;unfold Xz at h;unfold jm8;simp only [jK,jt,jE,ab];revert h;cases lt i l with
 | false=>exact fun h=>h
 | true =>
   cases jc i n with
  | false=>exact fun h=>h
  | true =>
    simp only;cases jB (wAt ρ i.toNat) with
   | none=>exact fun h=>h
   | some b=>cases b<;>exact fun h=>h
theorem jk9:∀ k,CoreOk Tryz.prog 154 0 0 jge jhV (NU k) :=
 CoreOk.fuel (A:=A154) jnM jlw x0 10 (fun _=>rfl) jj8
def jir (c:XW):Tree (XP × Int):=NU (c.1.1+1) c
def jbd:HdP:=⟨[],[],[],[((154,0),j4 A154 jir)],[],0,[]⟩
theorem jrJ:XOk Tryz.prog jbd:=XOk.nil.lxCons (CoreOk.lx (g:=jir) jnM fun fn c b h1 h2 h3 c0 x hx=>jk9 _ fn c b h1 h2 h3 c0 x hx)
def Zj (n:Nat) (ρ:Val):Option (Option Int):=Xz n ρ (ja n) (n+1) 0
def Xt (x:Option (Option Int)):Bool:=bif ooB x then le 0 (ooV x) else false
def jcy:List A1->Option (Bool × AV)
 | [.c (.sl [.str] n ρ),.c (.fn (.func 165) [] [])]=>some (ooD (Zj n ρ),.one (.c (.bool (Xt (Zj n ρ)))))
 | _=>none
def t127 (n:Nat) (ρ:Val):Tree AV:=.need (ooD (Zj n ρ)) (.br (ooB (Zj n ρ)) (.leaf (.one (.c (.bool (le 0 (ooV (Zj n ρ))))))) (.leaf (.one (.c (.bool (le 0 (-1)))))))
theorem jja (n:Nat) (ρ:Val):jI Tryz.prog LG jbd 10 127 [.c (.sl [.str] n ρ),.c (.fn (.func 165) [] [])]=t127 n ρ:=by kernel_rfl
theorem jrI {args:List A1} {r:AV} (h:jcy args=some (true,r)):(jI Tryz.prog LG jbd 10 127 args).All (fun x=>leA x r):=by
 unfold jcy at h;split at h
 ·rename_i n ρ;rw [jja];simp only [sIq,pIq] at h;obtain ⟨h1,h2⟩:=h;rw [← h2];unfold t127 Xt;refine ⟨h1,?_⟩;cases ooB (Zj n ρ)<;>exact jk rfl leA.refl
 ·cases h
theorem jqN:jj Tryz.prog 127 (nG jcy):=by
 refine jz (H:=LG) (X:=jbd) jlw jrJ 10 127 ?_;intro args r h;exact jrI h
abbrev XG:=((Nat × Val) × (Nat × Val)) × Bool × Int × Int
def jeP (c:XG):St:=mkS 32 [(1,.one (.c (.sl [.str] c.1.2.1 c.1.2.2))),(2,.one (.c (.fn (.func 159) [] []))),(6,.one (.c (.bool c.2.1))),(15,.one (.c (.sl [.int .i64] c.1.1.1 c.1.1.2))),(16,.one (.c (.int .i64 c.2.2.1))),(17,.one (.c (.int .i64 c.2.2.2)))] []
def FC:List (Nat × AV)->Mem->Option XG
 | [(1,.one (.c (.sl [.str] n ρ))),(2,.one (.c (.fn (.func 159) [] []))),(6,.one (.c (.bool b))),(15,.one (.c (.sl [.int .i64] m κ))),(16,.one (.c (.int .i64 l))),(17,.one (.c (.int .i64 i)))],[]=>some (((m,κ),(n,ρ)),b,l,i)
 | _,_=>none
theorem jdK:∀ l m c,FC l m=some c->mkS 32 l m=jeP c:=by
 intro l m c h;unfold FC at h;split at h
 ·cases h;rfl
 ·cases h
def jgR (v:Bool):St:=mkS 32 [(6,.one (.c (.bool v)))] []
def NT:List (Nat × AV)->Mem->Option Bool
 | [(6,.one (.c (.bool v)))],[]=>some v
 | _,_=>none
theorem ja9:∀ l m c,NT l m=some c->mkS 32 l m=jgR c:=by
 intro l m c h;unfold NT at h;split at h
 ·cases h;rfl
 ·cases h
def A182:Sx.Frame XG Bool:=⟨0,32,[1,2,6,15,16,17],FC,jeP,[6],NT,jgR⟩
theorem joB:A182.Ok:=.of_eq jdK ja9
noncomputable abbrev Nh:Hd:=⟨[],[(159,nG jb1)],[],[]⟩
theorem jnm:HdOk Tryz.prog Nh:=HdOk.nil.ucCons jok
def jlS (g:XG->Tree (XP × Bool)) (c:XG):Tree (XP × Bool) :=
 let i:=c.2.2.2
 let w:=wAt c.1.2.2 i.toNat
 .br (lt i c.2.2.1) (.need (jc i c.1.1.1) (.need (jc i c.1.2.1) (.need (nmD (jq w)) (.br (!qp (nAt c.1.1.2 i.toNat) w) (.leaf (.ret,false)) (g (c.1,c.2.1,c.2.2.1,IntKind.wrap .i64 (i+1))))))) (.leaf (.exit 0,c.2.1))
theorem jk6 (g:XG->Tree (XP × Bool)) (m:Nat) (κ:Val) (n:Nat) (ρ:Val) (b:Bool) (l i:Int):ju A182 Tryz.prog Nh X0 10 182 0 g (((m,κ),(n,ρ)),b,l,i)=jlS g (((m,κ),(n,ρ)),b,l,i):=by kernel_rfl
def eqL (m:Nat) (κ:Val) (n:Nat) (ρ:Val) (l:Int):Nat->Int->Option Bool
 | 0,_=>none
 | k+1,i=>bif lt i l then (bif jc i m then (bif jc i n then (bif nmD (jq (wAt ρ i.toNat)) then (bif !qp (nAt κ i.toNat) (wAt ρ i.toNat) then some false else eqL m κ n ρ l k (IntKind.wrap .i64 (i+1))) else none) else none) else none) else some true
def aj (k:Nat) (c:XG):Tree (XP × Bool) :=
 let x:=eqL c.1.1.1 c.1.1.2 c.1.2.1 c.1.2.2 c.2.2.1 k c.2.2.2
 .need (obD x) (.br (obV x) (.leaf (.exit 0,c.2.1)) (.leaf (.ret,false)))
theorem Fj (k : Nat) (c : XG) : (aj k c).sel = match eqL c.1.1.1 c.1.1.2 c.1.2.1 c.1.2.2 c.2.2.1 k c.2.2.2 with
  | some true=>some (.exit 0,c.2.1)
  | some false=>some (.ret,false)
  | none=>none:=by
 unfold aj;cases eqL c.1.1.1 c.1.1.2 c.1.2.1 c.1.2.2 c.2.2.1 k c.2.2.2 with
 | none=>rfl
 | some x=>cases x<;>rfl
theorem jjg (k:Nat) (c:XG) (x:XP × Bool) (h:(aj (k+1) c).sel=some x):(ju A182 Tryz.prog Nh X0 10 182 0 (aj k) c).sel=some x:=by
 obtain ⟨⟨⟨m,κ⟩,⟨n,ρ⟩⟩,b,l,i⟩:=c;rw [jk6];rw [Fj] at h;unfold eqL at h;unfold jlS;simp only [jK,jt,jE,Fj];revert h;cases lt i l with
 | false=>exact fun h=>h
 | true =>
   cases jc i m with
  | false=>exact fun h=>h
  | true =>
    cases jc i n with
   | false=>exact fun h=>h
   | true =>
     cases nmD (jq (wAt ρ i.toNat)) with
    | false=>exact fun h=>h
    | true=>cases qp (nAt κ i.toNat) (wAt ρ i.toNat)<;>exact fun h=>h
theorem jkY:∀ k,CoreOk Tryz.prog 182 0 0 jeP jgR (aj k) :=
 CoreOk.fuel (A:=A182) joB jnm x0 10 (fun _=>rfl) jjg
def jib (c:XG):Tree (XP × Bool):=aj (c.1.1.1+1) c
def jaG:HdP:=⟨[],[],[],[((182,0),j4 A182 jib)],[],0,[]⟩
theorem jqy:XOk Tryz.prog jaG:=XOk.nil.lxCons (CoreOk.lx (g:=jib) joB fun fn c b h1 h2 h3 c0 x hx=>jkY _ fn c b h1 h2 h3 c0 x hx)
def eqS (m:Nat) (κ:Val) (n:Nat) (ρ:Val):Option Bool:=bif ja m != ja n then some false else eqL m κ n ρ (ja m) (m+1) 0
def jaU:List A1->Option (Bool × AV)
 | [.c (.sl [.int .i64] m κ),.c (.sl [.str] n ρ),.c (.fn (.func 159) [] [])]=>some (obD (eqS m κ n ρ),.one (.c (.bool (obV (eqS m κ n ρ)))))
 | _=>none
def jfs (m:Nat) (κ:Val) (n:Nat) (ρ:Val):Tree AV :=
 let x:=eqL m κ n ρ (ja m) (m+1) 0
 .br (ja m != ja n) (.leaf (.one (.c (.bool false)))) (.need (obD x) (.br (obV x) (.leaf (.one (.c (.bool true)))) (.leaf (.one (.c (.bool false))))))
theorem jkl (m:Nat) (κ:Val) (n:Nat) (ρ:Val):jI Tryz.prog Nh jaG 10 182 [.c (.sl [.int .i64] m κ),.c (.sl [.str] n ρ),.c (.fn (.func 159) [] [])]=jfs m κ n ρ:=by kernel_rfl
theorem jfH (m:Nat) (κ:Val) (n:Nat) (ρ:Val) (h:obD (eqS m κ n ρ)=true):(jfs m κ n ρ).All (fun x=>leA x (.one (.c (.bool (obV (eqS m κ n ρ)))))):=by
 unfold jfs;unfold eqS at h ⊢;revert h;cases (ja m != ja n) with
 | true=>exact fun _=>jk rfl leA.refl
 | false =>
   simp only [cond_false];cases eqL m κ n ρ (ja m) (m+1) 0 with
  | none=>exact fun h=>by cases h
  | some b=>cases b<;>exact fun _=>jk rfl leA.refl
theorem jqJ {args:List A1} {r:AV} (h:jaU args=some (true,r)):(jI Tryz.prog Nh jaG 10 182 args).All (fun x=>leA x r):=by
 unfold jaU at h;split at h
 ·rename_i m κ n ρ;rw [jkl];simp only [sIq,pIq] at h;obtain ⟨h1,h2⟩:=h;rw [← h2];exact jfH m κ n ρ h1
 ·cases h
theorem jrz:jj Tryz.prog 182 (nG jaU):=by
 refine jz (H:=Nh) (X:=jaG) jnm jqy 10 182 ?_;intro args r h;exact jqJ h
noncomputable abbrev jaJ:Hd:=⟨[],[(158,nG jcP),(182,nG jaU)],[],[]⟩
theorem jrK:HdOk Tryz.prog jaJ:=(HdOk.nil.ucCons jrz).ucCons jnb
def NX (n:Nat) (ρ:Val):Option Bool:=eqS (j8 (jZ (wAt ρ 0))).length (Zk (j8 (jZ (wAt ρ 0)))) (n - 1) (ρ.from 1)
def XH (ρ:Val):Bool:=!(Nat.beq (jZ (wAt ρ 0)) 0)
def yq (n:Nat) (ρ:Val):Option Bool:=bif ja n==0 then some false else bif XH ρ then NX n ρ else some false
def UP:List A1->Option (Bool × AV)
 | [.c (.sl [.str] n ρ)]=>some (obD (yq n ρ),.one (.c (.bool (obV (yq n ρ)))))
 | _=>none
def t164 (n:Nat) (ρ:Val):Tree AV :=
 .br (ja n==0) (.leaf (.one (.c (.bool false)))) (.need (jc 0 n) (.need true (.br (XH ρ==true)
  (.need (le 0 1&&le 1 (ja n)) (.need (!((XH ρ==true)&&true)||obD (NX n ρ)) (.leaf (.one (.c (.bool (bif XH ρ then obV (NX n ρ) else false)))))))
  (.need (!((XH ρ==true)&&true)) (.leaf (.one (.c (.bool (bif XH ρ then false else false)))))))))
theorem jiX (n:Nat) (ρ:Val):jT Tryz.prog jaJ 10 164 [.c (.sl [.str] n ρ)]=t164 n ρ:=by kernel_rfl
theorem jhn (n:Nat) (ρ:Val) (h:obD (yq n ρ)=true):(t164 n ρ).All (fun x=>leA x (.one (.c (.bool (obV (yq n ρ)))))):=by
 unfold t164;unfold yq at h ⊢;revert h;cases hz:(ja n==0) with
 | true=>exact fun _=>jk rfl leA.refl
 | false =>
   have hn:0<n:=by
    rcases Nat.eq_zero_or_pos n with rfl | h
    ·cases hz
    ·exact h
   have h1:jc 0 n=true:=by unfold jc le lt ja;simp;omega
   have h2:(le 0 1&&le 1 (ja n))=true:=by unfold le ja;simp;omega
   rw [h1,h2];simp only [cond_false];cases XH ρ with
  | false=>exact fun _=>jk rfl leA.refl
  | true =>
    simp only [cond_true];intro h;refine ⟨(fun h=>by cases h),fun _=>⟨rfl,rfl,(fun _=>⟨rfl,?_,leA.refl⟩),(fun h=>by cases h)⟩⟩
    rw [h];rfl
theorem jrW {args:List A1} {r:AV} (h:UP args=some (true,r)):(jT Tryz.prog jaJ 10 164 args).All (fun x=>leA x r):=by
 unfold UP at h;split at h
 ·rename_i n ρ;rw [jiX];simp only [sIq,pIq] at h;obtain ⟨h1,h2⟩:=h;rw [← h2];exact jhn n ρ h1
 ·cases h
theorem jq3:jj Tryz.prog 164 (nG UP):=by
 refine qO (H:=jaJ) jrK 10 164 ?_;intro args r h;exact jrW h
def jck:List A1->Option AV
 | [.c (.str w)]=>some (.one (.c (.bool (bif bif jb w wIf then true else jb w qQ then true else jb w qo))))
 | _=>none
theorem jnI:PcOne Tryz.prog 129 jck:=zW (H:=h00) HdOk.nil 10 129 fun args r h=>by
 unfold jck at h;split at h
 ·rename_i w;have hr:=Option.some.inj h;refine ⟨by rw [← hr];rfl,.leaf (.one (.c (.bool (bif bif jb w wIf then true else jb w qQ then true else jb w qo)))),by kernel_rfl,?_⟩
  rw [← hr];exact rfl
 ·cases h
abbrev X01:HdP:=⟨[],[],[],[],[],1,[]⟩
noncomputable def jcC (n:Nat) (ρ:Val):Tree AV:=jI Tryz.prog h00 X01 10 181 [.c (.sl (aw 0) n ρ),.c .nils,.c (.fn (.func 163) [] [])]
theorem jlW (ρ:Val):(jcC 0 ρ).sel=some (.one (.c (.bool true))):=by kernel_rfl
theorem jo9 (n:Nat) (ρ:Val):(jcC (n+1) ρ).sel=some (.one (.c (.bool false))):=by kernel_rfl
def RY:List A1->Option (Bool × AV)
 | [.c (.sl es n _),.c .nils,.c (.fn (.func 163) [] [])]=>if shEq.shsEq es (aw 0) then some (true,.one (.c (.bool (Nat.beq n 0)))) else none
 | _=>none
theorem jdk {args:List A1} {r:AV} (h:RY args=some (true,r)):∃ n ρ,args=[.c (.sl (aw 0) n ρ),.c .nils,.c (.fn (.func 163) [] [])]∧r=.one (.c (.bool (Nat.beq n 0))):=by
 unfold RY at h;split at h
 ·rename_i es n ρ;split at h
  ·rename_i hs;simp only [sIq,pIq,true_and] at h;exact ⟨n,ρ,by rw [jm hs],h.symm⟩
  ·cases h
 ·cases h
theorem jhd (n:Nat) (ρ:Val):(jcC n ρ).sel=some (.one (.c (.bool (Nat.beq n 0)))):=by
 cases n with
 | zero=>exact jlW ρ
 | succ n=>exact jo9 n ρ
theorem jra {args:List A1} {r:AV} (h:RY args=some (true,r)):(jI Tryz.prog h00 X01 10 181 args).All (fun x=>leA x r):=by
 obtain ⟨n,ρ,e1,e2⟩:=jdk h;have hs:=jhd n ρ;unfold jcC at hs;rw [← e1,← e2] at hs;exact jk hs leA.refl
theorem jry:jj Tryz.prog 181 (nG RY):=by
 refine jz (H:=h00) (X:=X01) HdOk.nil XOk.nil 10 181 ?_;intro args r h;exact jra h
def yR (e:RX):Bool:=bif bif jb e.op (bs []) then e.v==0 else false then Nat.beq e.n 0 else false
noncomputable abbrev jaF:Hd:=⟨[],[(181,nG RY)],[],[]⟩
theorem jrV:HdOk Tryz.prog jaF:=HdOk.nil.ucCons jry
def TE:List A1->Option (Bool × AV)
 | [.agg cs,.agg ds]=>match GK cs,ds with
  | some e,[.str z,.int .i64 zz,.nils]=>if jb z (bs [])&&decide (zz=0) then some (true,.one (.c (.bool (yR e)))) else none
  | _,_=>none
 | _=>none
def jrq (e:RX):Tree AV :=
 let c:=bif jb e.op (bs []) then e.v==0 else false
 .need (!((c==true)&&true)||true) (.leaf (.one (.c (.bool (yR e)))))
theorem jkG (e:RX):jT Tryz.prog jaF 10 163 [.agg e.cells,.agg [.str (bs []),.int .i64 0,.nils]]=jrq e:=by kernel_rfl
theorem jdV {args:List A1} {r:AV} (h:TE args=some (true,r)):∃ e:RX,args=[.agg e.cells,.agg [.str (bs []),.int .i64 0,.nils]]∧r=.one (.c (.bool (yR e))):=by
 unfold TE at h;split at h
 ·split at h
  ·rename_i cs ds e z zz he;split at h
   ·rename_i hc;simp only [aTq,decide_eq_true_eq] at hc;simp only [sIq,pIq,true_and] at h;rw [Yu he,Jc hc.1,hc.2];exact ⟨e,rfl,h.symm⟩
   ·cases h
  ·cases h
 ·cases h
theorem jrD {args:List A1} {r:AV} (h:TE args=some (true,r)):(jT Tryz.prog jaF 10 163 args).All (fun x=>leA x r):=by
 obtain ⟨e,e1,e2⟩:=jdV h;rw [e1,e2,jkG];refine ⟨?_,leA.refl⟩
 simp
theorem jrX:jj Tryz.prog 163 (nG TE):=by
 refine qO (H:=jaF) jrV 10 163 ?_;intro args r h;exact jrD h
def LK:List CV->Option RS
 | [.str kd, .sl [.str] wn wr, .str o, .int .i64 v, .sl es n ρ, .sl es1 bn br, .sl es2 en er, .int .i64 a] =>
   if shEq.shsEq es (aw 0)&&shEq.shsEq es1 (aw 1)&&shEq.shsEq es2 (aw 1) then some ⟨kd,wn,wr,⟨o,v,n,ρ⟩,bn,br,en,er,a⟩ else none
 | _=>none
theorem KI {cs:List CV} {s:RS} (h:LK cs=some s):cs=s.cells:=by
 unfold LK at h;split at h
 ·split at h
  ·rename_i hc;simp only [aTq] at hc;cases h;rw [jm hc.1.1,jm hc.1.2,jm hc.2];rfl
  ·cases h
 ·cases h
noncomputable abbrev jaP:Hd:=⟨[],[(163,nG TE),(164,nG UP),(127,nG jcy)],[],[]⟩
theorem jqo:HdOk Tryz.prog jaP:=((HdOk.nil.ucCons jqN).ucCons jq3).ucCons jrX
def YF (s:RS):Bool :=
 bif jb s.kind wDo then obD (yq s.wn s.wρ) else bif jb s.kind wIf then true else bif jb s.kind qQ then true else bif jb s.kind qo then true
  else bif jb s.kind kx then (!((lt 0 (ja s.wn)==true)&&true)||ooD (Zj s.wn s.wρ)) else true
def Qp (s:RS):Bool :=
 bif jb s.kind wDo then (bif bif obV (yq s.wn s.wρ) then yR s.cond else false then ja s.en==0 else false)
 else bif jb s.kind wIf then ja s.wn==0
 else bif jb s.kind qQ then (bif bif bif ja s.wn==0 then ja s.en==0 else false then jb s.cond.op qW else false then le s.cond.v 99 else false)
 else bif jb s.kind qo then (bif bif ja s.wn==0 then ja s.bn==0 else false then ja s.en==0 else false)
 else bif jb s.kind kx then (bif bif bif bif lt 0 (ja s.wn) then !Xt (Zj s.wn s.wρ) else false then yR s.cond else false then ja s.bn==0 else false then ja s.en==0 else false)
 else false
def R6:List A1->Option (Bool × AV)
 | [.agg cs]=>match LK cs with
  | some s=>some (YF s,.one (.c (.bool (Qp s))))
  | none=>none
 | _=>none
def jez (s:RS):Tree AV :=
 let L:=fun b:Bool=>Tree.leaf (AV.one (.c (.bool b)))
 .need true (.br (jb s.kind wDo) (.need (obD (yq s.wn s.wρ)) (L (bif bif obV (yq s.wn s.wρ) then yR s.cond else false then ja s.en==0 else false)))
  (.br (jb s.kind wIf) (L (ja s.wn==0))
  (.br (jb s.kind qQ) (L (bif bif bif ja s.wn==0 then ja s.en==0 else false then jb s.cond.op qW else false then le s.cond.v 99 else false))
  (.br (jb s.kind qo) (L (bif bif ja s.wn==0 then ja s.bn==0 else false then ja s.en==0 else false))
  (.br (jb s.kind kx) (.need (!((lt 0 (ja s.wn)==true)&&true)||ooD (Zj s.wn s.wρ)) (L (bif bif bif bif lt 0 (ja s.wn) then !Xt (Zj s.wn s.wρ) else false then yR s.cond else false then ja s.bn==0 else false then ja s.en==0 else false)))
  (L false))))))
theorem jiR (s:RS):jT Tryz.prog jaP 10 134 [.agg s.cells]=jez s:=by kernel_rfl
theorem jgF (s:RS) (h:YF s=true):(jez s).All (fun x=>leA x (.one (.c (.bool (Qp s))))):=by
 unfold jez;unfold YF at h;unfold Qp;revert h;cases jb s.kind wDo with
 | true=>exact fun h=>⟨rfl,(fun _=>⟨h,leA.refl⟩),(fun h=>by cases h)⟩
 | false =>
 cases jb s.kind wIf with
 | true=>exact fun _=>jk rfl leA.refl
 | false =>
 cases jb s.kind qQ with
 | true=>exact fun _=>jk rfl leA.refl
 | false =>
 cases jb s.kind qo with
 | true=>exact fun _=>jk rfl leA.refl
 | false =>
 cases jb s.kind kx with
 | true=>exact fun h=>⟨rfl,(fun h=>by cases h),fun _=>⟨(fun h=>by cases h),fun _=>⟨(fun h=>by cases h),fun _=>⟨(fun h=>by cases h),fun _=>⟨(fun _=>⟨h,leA.refl⟩),(fun h=>by cases h)⟩⟩⟩⟩⟩
 | false=>exact fun _=>jk rfl leA.refl
theorem jd9 {args:List A1} {r:AV} (h:R6 args=some (true,r)):∃ s:RS,args=[.agg s.cells]∧YF s=true∧r=.one (.c (.bool (Qp s))):=by
 unfold R6 at h;split at h
 ·split at h
  ·rename_i cs s hs;simp only [sIq,pIq] at h;exact ⟨s,by rw [KI hs],h.1,h.2.symm⟩
  ·cases h
 ·cases h
theorem jqP {args:List A1} {r:AV} (h:R6 args=some (true,r)):(jT Tryz.prog jaP 10 134 args).All (fun x=>leA x r):=by
 obtain ⟨s,e1,h1,e2⟩:=jd9 h;rw [e1,e2,jiR];exact jgF s h1
theorem jqr:jj Tryz.prog 134 (nG R6):=by
 refine qO (H:=jaP) jqo 10 134 ?_;intro args r h;exact jqP h
abbrev RBl:=Nat->Val->Option Int
def G90 (R:RBl):List A1->Option (Bool × AV)
 | [.c (.sl es n ρ)]=>if shEq.shsEq es (aw 1) then some (opD (R n ρ),.one (.c (.int .i64 (opN (R n ρ))))) else none
 | _=>none
theorem Vi {R:RBl} {args:List A1} {r:AV} (h:G90 R args=some (true,r)):∃ n ρ,args=[.c (.sl (aw 1) n ρ)]∧opD (R n ρ)=true∧r=.one (.c (.int .i64 (opN (R n ρ)))):=by
 unfold G90 at h;split at h
 ·split at h
  ·rename_i es n ρ hs;simp only [sIq,pIq] at h;exact ⟨n,ρ,by rw [jm hs],h.1,h.2.symm⟩
  ·cases h
 ·cases h
def jg (ρ:Val) (i:Nat):RS:=⟨((ρ.at i).at 0).S [],((ρ.at i).at 1).L [],(ρ.at i).at 1,⟨((ρ.at i).at 2).S [],((ρ.at i).at 3).N [],((ρ.at i).at 4).L [],(ρ.at i).at 4⟩,((ρ.at i).at 5).L [],(ρ.at i).at 5,((ρ.at i).at 6).L [],(ρ.at i).at 6,((ρ.at i).at 7).N []⟩
abbrev C90:=Int × (Nat × Val) × Int × Int
def S90 (c:C90):St:=mkS 44 [(2,.one (.c (.int .i64 c.1))),(9,.one (.c (.sl (aw 1) c.2.1.1 c.2.1.2))),(10,.one (.c (.int .i64 c.2.2.1))),(11,.one (.c (.int .i64 c.2.2.2)))] []
def jaN:List (Nat × AV)->Mem->Option C90
 | [(2,.one (.c (.int .i64 r))),(9,.one (.c (.sl es n ρ))),(10,.one (.c (.int .i64 l))),(11,.one (.c (.int .i64 i)))],[]=>if shEq.shsEq es (aw 1) then some (r,(n,ρ),l,i) else none
 | _,_=>none
theorem jfz:∀ l m c,jaN l m=some c->mkS 44 l m=S90 c:=by
 intro l m c h;unfold jaN at h;split at h
 ·split at h
  ·rename_i hs;cases h;rw [jm hs];rfl
  ·cases h
 ·cases h
def E90 (v:Int):St:=mkS 44 [(2,.one (.c (.int .i64 v)))] []
def Ij:List (Nat × AV)->Mem->Option Int
 | [(2,.one (.c (.int .i64 v)))],[]=>some v
 | _,_=>none
theorem jd4:∀ l m c,Ij l m=some c->mkS 44 l m=E90 c:=by
 intro l m c h;unfold Ij at h;split at h
 ·cases h;rfl
 ·cases h
def A90:Sx.Frame C90 Int:=⟨0,44,[2,9,10,11],jaN,S90,[2],Ij,E90⟩
theorem a90:A90.Ok:=.of_eq jfz jd4
noncomputable abbrev H90 (f:Nat) (R:RBl):Hd:=⟨[lK,(129,oG jck)],[(134,nG R6),(135,nG (kA (yb f))),(90,nG (G90 R))],[],[]⟩
theorem h90 (f:Nat) {R:RBl} (hR:jj Tryz.prog 90 (nG (G90 R))):HdOk Tryz.prog (H90 f R):=HdOk.lK ((((HdOk.nil.ucCons hR).ucCons (jhS f)).ucCons jqr).pcCons jnI)
abbrev X03:HdP:=⟨[],[],[],[],[],3,[]⟩
def yZ (kd:ByteArray):Bool:=bif bif jb kd wIf then true else jb kd qQ then true else jb kd qo
def YH (n:Nat) (ρ:Val):Val:=Val.ofC (.sl (aw 1) n ρ)
theorem Bf (ρ:Val):YH (ρ.L []) ρ=ρ:=by
 cases ρ with
 | mk B N S L =>
   show Val.mk B N S _=_;congr 1;funext p;cases p<;>rfl
def r90 (f:Nat) (R:RBl) (g:C90->Tree (XP × Int)) (c:C90):Tree (XP × Int) :=
 let i:=c.2.2.2
 let s:=jg c.2.1.2 i.toNat
 let x:=yb f s.cond 1
 let u:=R s.bn (YH s.bn s.bρ)
 let v:=R s.en (YH s.en s.eρ)
 let w:=R 0 Val.zero
 let EX:=g (c.1,c.2.1,c.2.2.1,IntKind.wrap .i64 (i+1))
 let T:=fun (j:Int) (y:Option Int) (K:Tree (XP × Int))=>Tree.br (lt j (ja 2)) (.need (jc j 2) (.need (opD y) (.br (opN y != 0) (.leaf (.ret,opN y)) K))) EX
 let REST:=T 0 u (T 1 v (T 2 w .fail))
 .br (lt i c.2.2.1) (.need (jc i c.2.1.1) (.need (YF s) (.br (!Qp s) (.leaf (.ret,3))
  (.br (yZ s.kind) (.need (opD x) (.br (opN x != 0) (.leaf (.ret,opN x)) REST)) REST)))) (.leaf (.exit 0,c.1))
theorem jl5 (f:Nat) (R:RBl) (g:C90->Tree (XP × Int)) (r:Int) (n:Nat) (ρ:Val) (l i:Int):ju A90 Tryz.prog (H90 f R) X03 10 90 0 g (r,(n,ρ),l,i)=r90 f R g (r,(n,ρ),l,i):=by kernel_rfl
def Jy (f:Nat) (R:RBl) (n:Nat) (ρ:Val) (l:Int):Nat->Int->Option Int
 | 0,_=>none
 | k + 1, i => bif lt i l then (bif jc i n then (bif YF (jg ρ i.toNat) then (bif !Qp (jg ρ i.toNat) then some 3 else
   match (bif yZ (jg ρ i.toNat).kind then yb f (jg ρ i.toNat).cond 1 else some 0) with
   | none=>none
   | some x=>bif x != 0 then some x else match R (jg ρ i.toNat).bn (jg ρ i.toNat).bρ with
    | none=>none
    | some y=>bif y != 0 then some y else match R (jg ρ i.toNat).en (jg ρ i.toNat).eρ with
     | none=>none
     | some z=>bif z != 0 then some z else Jy f R n ρ l k (IntKind.wrap .i64 (i+1))) else none) else none) else some 0
def g90 (f:Nat) (R:RBl) (k:Nat) (c:C90):Tree (XP × Int) :=
 let x:=Jy f R c.2.1.1 c.2.1.2 c.2.2.1 k c.2.2.2
 .need (opD x) (.br (opN x != 0) (.leaf (.ret,opN x)) (.leaf (.exit 0,c.1)))
def y4 (r:Int):Option Int->Option (XP × Int)
 | some x=>some (bif x != 0 then (.ret,x) else (.exit 0,r))
 | none=>none
theorem jai (f:Nat) (R:RBl) (k:Nat) (c:C90):(g90 f R k c).sel=y4 c.1 (Jy f R c.2.1.1 c.2.1.2 c.2.2.1 k c.2.2.2):=by
 unfold g90;cases Jy f R c.2.1.1 c.2.1.2 c.2.2.1 k c.2.2.2 with
 | none=>rfl
 | some x =>
   show (bif true then (bif x != 0 then some _ else some _) else none)=_;unfold y4;simp only;cases (x != 0)<;>rfl
theorem jl0 (f:Nat) (R:RBl) (k:Nat) (c:C90) (x:XP × Int) (h:(g90 f R (k+1) c).sel=some x):(ju A90 Tryz.prog (H90 f R) X03 10 90 0 (g90 f R k) c).sel=some x:=by
 obtain ⟨r,⟨n,ρ⟩,l,i⟩:=c;rw [jl5];rw [jai] at h;unfold Jy at h;unfold r90;have eb:YH (jg ρ i.toNat).bn (jg ρ i.toNat).bρ=(jg ρ i.toNat).bρ:=Bf _;have ee:YH (jg ρ i.toNat).en (jg ρ i.toNat).eρ=(jg ρ i.toNat).eρ:=Bf _;have c0:lt 0 (ja 2)=true:=rfl;have c1:lt 1 (ja 2)=true:=rfl;have c2:lt 2 (ja 2)=false:=rfl;have d0:jc 0 2=true:=rfl;have d1:jc 1 2=true:=rfl;simp only [jK,jt,jE,jai,eb,ee,c0,c1,c2,d0,d1,cond_true,cond_false];simp only at h;revert h;cases lt i l with
 | false=>exact fun h=>h
 | true =>
 cases jc i n with
 | false=>exact fun h=>by simp [y4] at h
 | true =>
 cases YF (jg ρ i.toNat) with
 | false=>exact fun h=>by simp [y4] at h
 | true =>
 cases Qp (jg ρ i.toNat) with
 | false=>exact fun h=>h
 | true =>
 simp only [cond_true,Bool.not_true,cond_false]
 have rest : y4 r (match R (jg ρ i.toNat).bn (jg ρ i.toNat).bρ with
    | none=>none
    | some y=>bif y != 0 then some y else match R (jg ρ i.toNat).en (jg ρ i.toNat).eρ with
     | none=>none
     | some z=>bif z != 0 then some z else Jy f R n ρ l k (IntKind.wrap .i64 (i+1)))=some x ->
   (bif opD (R (jg ρ i.toNat).bn (jg ρ i.toNat).bρ) then bif opN (R (jg ρ i.toNat).bn (jg ρ i.toNat).bρ) != 0 then some (XP.ret,opN (R (jg ρ i.toNat).bn (jg ρ i.toNat).bρ)) else
    bif opD (R (jg ρ i.toNat).en (jg ρ i.toNat).eρ) then bif opN (R (jg ρ i.toNat).en (jg ρ i.toNat).eρ) != 0 then some (XP.ret,opN (R (jg ρ i.toNat).en (jg ρ i.toNat).eρ)) else
     y4 r (Jy f R n ρ l k (IntKind.wrap .i64 (i+1))) else none else none)=some x:=by
  cases R (jg ρ i.toNat).bn (jg ρ i.toNat).bρ with
  | none=>exact fun h=>h
  | some y =>
    simp only [opD,opN,cond_true];cases hy:(y != 0) with
   | true=>simp only [cond_true];intro h;rw [← h];unfold y4;simp only [hy,cond_true]
   | false =>
     simp only [cond_false];cases R (jg ρ i.toNat).en (jg ρ i.toNat).eρ with
    | none=>exact fun h=>h
    | some z =>
      simp only [cond_true];cases hz:(z != 0) with
     | true=>simp only [cond_true];intro h;rw [← h];unfold y4;simp only [hz,cond_true]
     | false=>simp only [cond_false];exact fun h=>h
 cases yZ (jg ρ i.toNat).kind with
 | false=>simp only [cond_false];exact rest
 | true =>
   simp only [cond_true];cases yb f (jg ρ i.toNat).cond 1 with
  | none=>exact fun h=>h
  | some y =>
    simp only [opD,opN,cond_true];cases hy:(y != 0) with
   | true=>simp only [cond_true];intro h;rw [← h];unfold y4;simp only [hy,cond_true]
   | false=>simp only [cond_false];exact rest
theorem jm1 (f:Nat) {R:RBl} (hR:jj Tryz.prog 90 (nG (G90 R))):∀ k,CoreOk Tryz.prog 90 0 0 S90 E90 (g90 f R k) :=
 CoreOk.fuel (A:=A90) a90 (h90 f hR) (XOk.nil (r:=3)) 10 (fun _=>rfl) (jl0 f R)
def joP (f:Nat) (R:RBl) (c:C90):Tree (XP × Int):=g90 f R (c.2.1.1+1) c
def X90 (f:Nat) (R:RBl):HdP:=⟨[],[],[],[((90,0),j4 A90 (joP f R))],[],3,[]⟩
theorem x90 (f:Nat) {R:RBl} (hR:jj Tryz.prog 90 (nG (G90 R))):XOk Tryz.prog (X90 f R):=XOk.lxCons XOk.nil (CoreOk.lx (g:=joP f R) a90 fun fn c b h1 h2 h3 c0 x hx=>jm1 f hR _ fn c b h1 h2 h3 c0 x hx)
def Gz (f:Nat) (R:RBl) (n:Nat) (ρ:Val):Option Int:=Jy f R n ρ (ja n) (n+1) 0
def t90 (f:Nat) (R:RBl) (n:Nat) (ρ:Val):Tree AV:=.need (opD (Gz f R n ρ)) (.br (opN (Gz f R n ρ) != 0) (.leaf (.one (.c (.int .i64 (opN (Gz f R n ρ)))))) (.leaf (.one (.c (.int .i64 0)))))
theorem jn9 (f:Nat) (R:RBl) (n:Nat) (ρ:Val):jI Tryz.prog (H90 f R) (X90 f R) 10 90 [.c (.sl (aw 1) n ρ)]=t90 f R n ρ:=by kernel_rfl
theorem u90 {f:Nat} {R:RBl} {args:List A1} {r:AV} (h:G90 (Gz f R) args=some (true,r)):(jI Tryz.prog (H90 f R) (X90 f R) 10 90 args).All (fun x=>leA x r):=by
 obtain ⟨n,ρ,e1,h1,e2⟩:=Vi h;rw [e1,e2,jn9];refine ⟨h1,(fun _=>leA.refl),fun h => ?_⟩
 have:opN (Gz f R n ρ)=0:=by simpa using h
 rw [this];exact leA.refl
theorem jrT (f:Nat) {R:RBl} (hR:jj Tryz.prog 90 (nG (G90 R))):jj Tryz.prog 90 (nG (G90 (Gz f R))):=by
 refine jz (H:=H90 f R) (X:=X90 f R) (h90 f hR) (x90 f hR) 10 90 ?_;intro args r h;exact u90 h
def QO (f:Nat):Nat->RBl
 | 0=>fun _ _=>none
 | d+1=>Gz f (QO f d)
theorem p90 (f:Nat):∀ d,jj Tryz.prog 90 (nG (G90 (QO f d)))
 | 0 => by
   intro args r h;obtain ⟨n,ρ,_,h1,_⟩:=Vi (zn h);cases h1
 | d+1=>jrT f (p90 f d)
noncomputable abbrev H37 (f d:Nat):Hd:=⟨[],[(34,nG G34),(89,nG (G89 (cntF d))),(90,nG (G90 (QO f d)))],[],[]⟩
theorem h37 (f d:Nat):HdOk Tryz.prog (H37 f d):=((HdOk.nil.ucCons (p90 f d)).ucCons (p89 d)).ucCons p34
def jX (f d:Nat) (name:ByteArray) (n:Nat) (ρ:Val):Option Int :=
 bif yg name then (bif !qk name then some 23 else match cntF d n ρ with
  | none=>none
  | some (a,b)=>bif lt 4096 a then some 6 else bif lt 16 b then some 28 else QO f d n ρ) else none
def G37 (f d:Nat):List A1->Option (Bool × AV)
 | [.agg [.str name,.sl es n ρ]]=>if shEq.shsEq es (aw 1) then some (opD (jX f d name n ρ),.one (.c (.int .i64 (opN (jX f d name n ρ))))) else none
 | _=>none
def t37 (f d:Nat) (name:ByteArray) (n:Nat) (ρ:Val):Tree AV :=
 let c:=cntF d n ρ
 let L:=fun x:Int=>Tree.leaf (AV.one (.c (.int .i64 x)))
 .need (yg name) (.br (!qk name) (L 23) (.need (cD c) (.br (lt 4096 (cA c)) (L 6) (.br (lt 16 (cB c)) (L 28) (.need (opD (QO f d n ρ)) (L (opN (QO f d n ρ))))))))
theorem jm6 (f d:Nat) (name:ByteArray) (n:Nat) (ρ:Val):jT Tryz.prog (H37 f d) 10 37 [.agg [.str name,.sl (aw 1) n ρ]]=t37 f d name n ρ:=by kernel_rfl
theorem jeX {f d:Nat} {args:List A1} {r:AV} (h:G37 f d args=some (true,r)):∃ name n ρ,args=[.agg [.str name,.sl (aw 1) n ρ]]∧opD (jX f d name n ρ)=true∧r=.one (.c (.int .i64 (opN (jX f d name n ρ)))):=by
 unfold G37 at h;split at h
 ·split at h
  ·rename_i name es n ρ hs;simp only [sIq,pIq] at h;exact ⟨name,n,ρ,by rw [jm hs],h.1,h.2.symm⟩
  ·cases h
 ·cases h
theorem jjq (f d:Nat) (name:ByteArray) (n:Nat) (ρ:Val) (h:opD (jX f d name n ρ)=true):(t37 f d name n ρ).All (fun x=>leA x (.one (.c (.int .i64 (opN (jX f d name n ρ)))))):=by
 unfold t37;unfold jX at h ⊢;revert h;cases yg name with
 | false=>exact fun h=>by cases h
 | true =>
 cases qk name with
 | false=>exact fun _=>jk rfl leA.refl
 | true =>
 simp only [cond_true,Bool.not_true,cond_false];cases cntF d n ρ with
 | none=>exact fun h=>by cases h
 | some c =>
 obtain ⟨a,b⟩:=c;simp only [cD,cA,cB];cases lt 4096 a with
 | true=>exact fun _=>jk rfl leA.refl
 | false =>
 cases lt 16 b with
 | true=>exact fun _=>jk rfl leA.refl
 | false =>
 simp only [cond_false];cases QO f d n ρ with
 | none=>exact fun h=>by cases h
 | some y=>exact fun _=>jk rfl leA.refl
theorem u37 {f d:Nat} {args:List A1} {r:AV} (h:G37 f d args=some (true,r)):(jT Tryz.prog (H37 f d) 10 37 args).All (fun x=>leA x r):=by
 obtain ⟨name,n,ρ,e1,h1,e2⟩:=jeX h;rw [e1,e2,jm6];exact jjq f d name n ρ h1
theorem p37 (f d:Nat):jj Tryz.prog 37 (nG (G37 f d)):=by
 refine qO (H:=H37 f d) (h37 f d) 10 37 ?_;intro args r h;exact u37 h
noncomputable abbrev H8 (f d:Nat):Hd:=⟨[pF 31,pF 32,pF 33,pF 35,pF 36],[(34,nG G34),(37,nG (G37 f d))],[],[]⟩
theorem h8 (f d:Nat):HdOk Tryz.prog (H8 f d):=(((((((HdOk.nil.ucCons (p37 f d)).ucCons p34).pF 36).pF 35).pF 33).pF 32).pF 31)
abbrev X8 (B:ByteArray->PS->PR PS (List RS)):HdP:=⟨(35,localG 82 (UBk B))::(32,localG 82 u32)::(33,localG 82 u33)::(85,localG 82 u85)::(31,localG 82 (uOf () kQ N2))::[],[],[],[],[],0,[35,32,33,85,31]⟩
theorem x8 {B:ByteArray->PS->PR PS (List RS)} (hB:jn Tryz.prog 35 (localG 82 (UBk B))):XOk Tryz.prog (X8 B):=(x33.loCons jhy (LocFn.localG _ _)).loCons hB (LocFn.localG _ _)
def KQ (name:ByteArray) (n:Nat) (ρ:Val) (at_ e:Int):AV:=.tup [.agg [.str name,.sl (aw 1) n ρ],.c (.int .i64 at_),.c (.int .i64 e)]
def QH (at_ e:Int):AV:=.tup [.agg [.str (bs []),.nils],.c (.int .i64 at_),.c (.int .i64 e)]
def La (a:AV):Tree AV:=.br false .fail (.leaf a)
def lfN (at_ e:Int):Tree AV:=La (QH at_ e)
def ZG (dead:AV) (a:Int):Tree AV:=.br true (.br true (.leaf (QH a 4)) (.leaf (QH 0 4))) (.leaf dead)
def t8 (f d:Nat) (B:ByteArray->PS->PR PS (List RS)) (s:ByteArray):Tree AV :=
 let pt:=ZG (QH 0 0)
 .br (lt 8192 (ja s.size)) (lfN 0 5)
  (nxT () (k9 s ⟨0,bs [],0⟩) (fun _ p1=>nxT () (qR (MP s) ZD p1) (fun _ p2=>.need (yg p2.tx) (nxT (bs []) (qy (MP s) (qk p2.tx) p2) (fun w p3 =>
   nxT [] (B s p3) (fun l p4=>.br (!jb p4.tx (bs [])) (ZG (KQ w l.length (jR l) 0 0) p4.pos)
    (.need (opD (jX f d w l.length (jR l))) (.br (opN (jX f d w l.length (jR l)) != 0) (lfN 0 (opN (jX f d w l.length (jR l)))) (La (KQ w l.length (jR l) 0 0)))))
    (ZG (.tup [.agg [.str w,.nils],.c (.int .i64 0),.c (.int .i64 0)]))) pt)) pt) pt)
theorem jpQ (f d:Nat) (B:ByteArray->PS->PR PS (List RS)) (s:ByteArray):jI Tryz.prog (H8 f d) (X8 B) 10 8 [.c (.str s)]=t8 f d B s:=by kernel_rfl
def yY {σ τ:Type} (M:Mach σ) (blk:σ->PR σ (List τ)) (s0:σ):PR σ (ByteArray × List τ) :=
 (M.adv s0).bind fun _ p1=>(qR M ZD p1).bind fun _ p2=>bif yg (M.tx p2) then (qy M (qk (M.tx p2)) p2).bind fun w p3=>(blk p3).bind fun l p4 =>
  bif !jb (M.tx p4) (bs []) then YY M p4 else .ret (w,l) p4 else .stuck
abbrev Qq:=ByteArray × List RS × Int × Int
def ye (f d:Nat):PR PS (ByteArray × List RS)->Option Qq
 | .stuck=>none
 | .pan a=>some (bs [],[],a,4)
 | .ret x _=>match jX f d x.1 x.2.length (jR x.2) with
  | none=>none
  | some e=>bif e != 0 then some (bs [],[],0,e) else some (x.1,x.2,0,0)
def ZB (f d:Nat) (B:ByteArray->PS->PR PS (List RS)) (s:ByteArray):Option Qq :=
 bif lt 8192 (ja s.size) then some (bs [],[],0,5) else ye f d (yY (MP s) (B s) ⟨0,bs [],0⟩)
def BZ (x:Qq):AV:=.tup [.agg [.str x.1,.sl (aw 1) x.2.1.length (jR x.2.1)],.c (.int .i64 x.2.2.1),.c (.int .i64 x.2.2.2)]
def oB:Option Qq->Bool | some _=>true | none=>false
def oV:Option Qq->Qq | some x=>x | none=>(bs [],[],0,0)
def G8 (f d:Nat) (B:ByteArray->PS->PR PS (List RS)):List A1->Option (Bool × AV)
 | [.c (.str s)]=>some (oB (ZB f d B s),BZ (oV (ZB f d B s)))
 | _=>none
theorem ZK {a e:Int}:leA (QH a e) (BZ (bs [],[],a,e)):=ZV (.cons (.agg (.cons leC.refl (.cons jC .nil))) (.cons (.c leC.refl) (.cons (.c leC.refl) .nil)))
def Says (T:Tree AV):Option Qq->Prop
 | none=>True
 | some x=>T.All (fun z=>leA z (BZ x))
theorem Says.pan {f d:Nat} {a:Int} {dead:AV}:Says (ZG dead a) (ye f d (.pan a)):=jk rfl ZK
theorem Says.bind {f d:Nat} {α:Type} {v0:α} {x:PR PS α} {K:α->PS->Tree AV} {F:α->PS->PR PS (ByteArray × List RS)} {dead:AV} (h:∀ v p,Says (K v p) (ye f d (F v p))):Says (nxT v0 x K (ZG dead)) (ye f d (x.bind F)):=by
 cases x with
 | stuck=>exact trivial
 | pan a =>
   show Tree.All _ _;exact ⟨rfl,(fun h=>by cases h),fun _=>Says.pan (f:=f) (d:=d)⟩
 | ret v p =>
   have:=h v p
   show Says (.need true (.br true (K v p) _)) (ye f d (F v p));cases he:ye f d (F v p) with
  | none=>exact trivial
  | some y=>rw [he] at this;exact ⟨rfl,fun _=>this,(fun h=>by cases h)⟩
theorem Says.cond {f d:Nat} {c:Bool} {T E:Tree AV} {t e:PR PS (ByteArray × List RS)} (h1:c=true->Says T (ye f d t)) (h2:c=false->Says E (ye f d e)):Says (.br c T E) (ye f d (bif c then t else e)):=by
 cases c with
 | true =>
   have:=h1 rfl
   show Says _ (ye f d t);cases he:ye f d t with
  | none=>exact trivial
  | some y=>rw [he] at this;exact ⟨fun _=>this,(fun h=>by cases h)⟩
 | false =>
   have:=h2 rfl
   show Says _ (ye f d e);cases he:ye f d e with
  | none=>exact trivial
  | some y=>rw [he] at this;exact ⟨(fun h=>by cases h),fun _=>this⟩
theorem Says.ret {f d:Nat} {w:ByteArray} {l:List RS} {p:PS}:Says (.need (opD (jX f d w l.length (jR l))) (.br (opN (jX f d w l.length (jR l)) != 0) (lfN 0 (opN (jX f d w l.length (jR l)))) (La (KQ w l.length (jR l) 0 0)))) (ye f d (.ret (w,l) p)):=by
 unfold ye;simp only;cases jX f d w l.length (jR l) with
 | none=>exact trivial
 | some e =>
 simp only [opD,opN];cases e != 0 with
 | true=>exact jk rfl ZK
 | false=>exact jk rfl leA.refl
theorem jiO (f d:Nat) (B:ByteArray->PS->PR PS (List RS)) (s:ByteArray):Says (t8 f d B s) (ZB f d B s):=by
 unfold t8 ZB;cases lt 8192 (ja s.size) with
 | true=>exact jk rfl ZK
 | false =>
 show Says (.br false _ _) (ye f d (yY (MP s) (B s) ⟨0,bs [],0⟩))
 have h:Says (nxT () (k9 s ⟨0,bs [],0⟩) (fun _ p1=>nxT () (qR (MP s) ZD p1) (fun _ p2=>.need (yg p2.tx) (nxT (bs []) (qy (MP s) (qk p2.tx) p2) (fun w p3 =>
  nxT [] (B s p3) (fun l p4=>.br (!jb p4.tx (bs [])) (ZG (KQ w l.length (jR l) 0 0) p4.pos)
   (.need (opD (jX f d w l.length (jR l))) (.br (opN (jX f d w l.length (jR l)) != 0) (lfN 0 (opN (jX f d w l.length (jR l)))) (La (KQ w l.length (jR l) 0 0)))))
   (ZG (.tup [.agg [.str w,.nils],.c (.int .i64 0),.c (.int .i64 0)]))) (ZG (QH 0 0)))) (ZG (QH 0 0))) (ZG (QH 0 0))) (ye f d (yY (MP s) (B s) ⟨0,bs [],0⟩)):=by
  unfold yY;refine Says.bind fun _ p1=>Says.bind fun _ p2 => ?_;show Says _ (ye f d (bif yg p2.tx then _ else _));cases yg p2.tx with
  | false=>exact trivial
  | true =>
  simp only [cond_true]
  have h2:Says (nxT (bs []) (qy (MP s) (qk p2.tx) p2) (fun w p3 =>
   nxT [] (B s p3) (fun l p4=>.br (!jb p4.tx (bs [])) (ZG (KQ w l.length (jR l) 0 0) p4.pos)
   (.need (opD (jX f d w l.length (jR l))) (.br (opN (jX f d w l.length (jR l)) != 0) (lfN 0 (opN (jX f d w l.length (jR l)))) (La (KQ w l.length (jR l) 0 0)))))
   (ZG (.tup [.agg [.str w,.nils],.c (.int .i64 0),.c (.int .i64 0)]))) (ZG (QH 0 0))) (ye f d ((qy (MP s) (qk p2.tx) p2).bind fun w p3=>(B s p3).bind fun l p4 =>
    bif !jb p4.tx (bs []) then YY (MP s) p4 else .ret (w,l) p4)) :=
   Says.bind fun w p3=>Says.bind fun l p4=>Says.cond (fun _=>Says.pan) fun _=>Says.ret
  revert h2;show Says _ (ye f d _)->Says _ (ye f d _);intro h2;cases he:ye f d ((qy (MP s) (qk p2.tx) p2).bind fun w p3=>(B s p3).bind fun l p4=>bif !jb p4.tx (bs []) then YY (MP s) p4 else .ret (w,l) p4) with
  | none=>show Says _ (ye f d _);erw [he];exact trivial
  | some y=>show Says _ (ye f d _);erw [he];rw [he] at h2;exact ⟨rfl,h2⟩
 cases he:ye f d (yY (MP s) (B s) ⟨0,bs [],0⟩) with
 | none=>exact trivial
 | some y=>rw [he] at h;exact ⟨(fun h=>by cases h),fun _=>h⟩
theorem jjb {f d:Nat} {B:ByteArray->PS->PR PS (List RS)} {args:List A1} {r:AV} (h:G8 f d B args=some (true,r)):∃ s x,args=[.c (.str s)]∧ZB f d B s=some x∧r=BZ x:=by
 unfold G8 at h;split at h
 ·rename_i s;simp only [sIq,pIq] at h;cases hp:ZB f d B s with
  | none=>rw [hp] at h;cases h.1
  | some x=>rw [hp] at h;exact ⟨s,x,rfl,hp,h.2.symm⟩
 ·cases h
theorem u8 {f d:Nat} {B:ByteArray->PS->PR PS (List RS)} {args:List A1} {r:AV} (h:G8 f d B args=some (true,r)):(jI Tryz.prog (H8 f d) (X8 B) 10 8 args).All (fun x=>leA x r):=by
 obtain ⟨s,x,e1,h1,e2⟩:=jjb h;rw [e1,e2,jpQ]
 have:=jiO f d B s
 rw [h1] at this;exact this
theorem p8 (f d:Nat) {B:ByteArray->PS->PR PS (List RS)} (hB:jn Tryz.prog 35 (localG 82 (UBk B))):jj Tryz.prog 8 (nG (G8 f d B)):=by
 refine jz (H:=H8 f d) (X:=X8 B) (h8 f d) (x8 hB) 10 8 ?_;intro args r h;exact u8 h
theorem p8F (k d f e:Nat) (hk:k+2<=qu):jj Tryz.prog 8 (nG (G8 f e (blK (k+1) d))):=p8 f e (ay k hk d).2
end Go.Proofs.YtiefjlcakpdfeaaGreat
namespace Go.Proofs.YtiefjlcakpdfeaaGreat
open Go Go.Sx Go.RowKit Rb
set_option maxRecDepth 100000
inductive PRel {σ σ' α α':Type} (RP:Int->Int->Prop) (R:σ->σ'->Prop) (V:α->α'->Prop):PR σ α->PR σ' α'->Prop where
 | stuck:PRel RP R V .stuck .stuck
 | pan {a a':Int} (h:RP a a'):PRel RP R V (.pan a) (.pan a')
 | ret {v:α} {v':α'} {s:σ} {s':σ'} (hv:V v v') (hs:R s s'):PRel RP R V (.ret v s) (.ret v' s')
section
variable {σ σ' α α' β β' ε ε' τ τ':Type} {RP:Int->Int->Prop} {R:σ->σ'->Prop}
theorem PRel.bind {V : α -> α' -> Prop} {U : β -> β' -> Prop} {x : PR σ α} {x' : PR σ' α'} {f : α -> σ -> PR σ β} {f' : α' -> σ' -> PR σ' β'} (h : PRel RP R V x x')
  (hf:∀ v v' s s',V v v'->R s s'->PRel RP R U (f v s) (f' v' s')):PRel RP R U (x.bind f) (x'.bind f'):=by
 cases h with
 | stuck=>exact .stuck
 | pan h=>exact .pan h
 | ret hv hs=>exact hf _ _ _ _ hv hs
theorem PRel.cond {V:α->α'->Prop} {c:Bool} {x y:PR σ α} {x' y':PR σ' α'} (h1:PRel RP R V x x') (h2:PRel RP R V y y'):PRel RP R V (bif c then x else y) (bif c then x' else y'):=by
 cases c with
 | true=>exact h1
 | false=>exact h2
structure MRel (RP:Int->Int->Prop) (M:Mach σ) (M':Mach σ') (R:σ->σ'->Prop):Prop where
 tx:∀ {s s'},R s s'->M.tx s=M'.tx s'
 pos:∀ {s s'},R s s'->RP (M.pos s) (M'.pos s')
 adv:∀ {s s'},R s s'->PRel RP R (fun _ _=>True) (M.adv s) (M'.adv s')
structure ARel (RP:Int->Int->Prop) (A:Alg ε τ) (A':Alg ε' τ') (E:ε->ε'->Prop) (T:τ->τ'->Prop):Prop where
 ex:∀ {op v l l'},All2 E l l'->E (A.ex op v l) (A'.ex op v l')
 st:∀ {k w e e' b b' x x' p p'},E e e'->All2 T b b'->All2 T x x'->RP p p'->T (A.st k w e b x p) (A'.st k w e' b' x' p')
variable {M:Mach σ} {M':Mach σ'} (hM:MRel RP M M' R)
include hM
theorem K7 {V:α->α'->Prop} {s:σ} {s':σ'} (h:R s s'):PRel RP R V (YY M s) (YY M' s'):=.pan (hM.pos h)
theorem JH {t:ByteArray} {s:σ} {s':σ'} (h:R s s'):PRel RP R Eq (qJ M t s) (qJ M' t s'):=by
 unfold qJ;rw [hM.tx h];exact .cond ((hM.adv h).bind fun _ _ _ _ _ h=>.ret rfl h) (.ret rfl h)
theorem Jp {t:ByteArray} {s:σ} {s':σ'} (h:R s s'):PRel RP R (fun _ _=>True) (qR M t s) (qR M' t s'):=by
 unfold qR;refine (JH hM h).bind fun c c' s s' hc h => ?_;subst hc;exact .cond (.ret trivial h) (K7 hM h)
theorem Zc {ok:Bool} {s:σ} {s':σ'} (h:R s s'):PRel RP R Eq (qy M ok s) (qy M' ok s'):=by
 unfold qy;refine .cond ((hM.adv h).bind fun _ _ _ _ _ h2=>.ret (hM.tx h) h2) (K7 hM h)
theorem Bw {most:Int} {s:σ} {s':σ'} (h:R s s'):PRel RP R Eq (yp M most s) (yp M' most s'):=by
 unfold yp;rw [hM.tx h];cases jq (M'.tx s') with
 | none=>exact .stuck
 | some y=>exact (Zc hM h).bind fun _ _ _ _ _ h=>.ret rfl h
theorem jdJ {s:σ} {s':σ'} (h:R s s'):PRel RP R Eq (YV M s) (YV M' s'):=by
 unfold YV;rw [hM.tx h];exact (Zc hM h).bind fun _ _ _ _ _ h=>.ret rfl h
theorem Hh {s:σ} {s':σ'} (h:R s s'):PRel RP R Eq (kp M s) (kp M' s'):=by
 unfold kp;rw [hM.tx h];cases jB (M'.tx s') with
 | none=>exact .stuck
 | some y=>exact Zc hM h
theorem IJ {k:Int} {s:σ} {s':σ'} (h:R s s'):PRel RP R Eq (J9 M k s) (J9 M' k s'):=by
 unfold J9;rw [hM.tx h];exact .cond (Zc hM h) .stuck
theorem VU:∀ (l:List Int) {s:σ} {s':σ'},R s s'->PRel RP R Eq (zo M l s) (zo M' l s')
 | [],_,_,h=>.ret rfl h
 | k :: r, s, s', h => by
   unfold zo;refine (IJ hM h).bind fun w w' s1 s1' hw h => ?_;subst hw;refine (VU r h).bind fun l l' s2 s2' hl h => ?_;subst hl;exact .ret rfl h
theorem ND {s:σ} {s':σ'} (h:R s s'):PRel RP R Eq (zG M s) (zG M' s'):=by
 unfold zG;rw [hM.tx h];refine (Zc hM h).bind fun w w' s1 s1' hw h => ?_;subst hw;refine (VU hM _ h).bind fun l l' s2 s2' hl h => ?_;subst hl;exact .ret rfl h
variable {A:Alg ε τ} {A':Alg ε' τ'} {E:ε->ε'->Prop} {T:τ->τ'->Prop} (hA:ARel RP A A' E T)
include hA
abbrev zP (RP:Int->Int->Prop) (R:σ->σ'->Prop) (V:α->α'->Prop) (f:σ->PR σ α) (f':σ'->PR σ' α'):Prop:=∀ s s',R s s'->PRel RP R V (f s) (f' s')
theorem B7 {o : σ -> PR σ ε} {o' : σ' -> PR σ' ε'} {g : ε -> σ -> PR σ ε} {g' : ε' -> σ' -> PR σ' ε'} (ho : zP RP R E o o') (hg : ∀ e e', E e e' -> zP RP R E (g e) (g' e')) :
  ∀ (l:List ByteArray) {e:ε} {e':ε'} {s:σ} {s':σ'},E e e'->R s s'->PRel RP R E (Zs M A o g e l s) (Zs M' A' o' g' e' l s')
 | [],_,_,_,_,he,h=>.ret he h
 | w :: r, e, e', s, s', he, h => by
   unfold Zs;refine (JH hM h).bind fun c c' s1 s1' hc h => ?_;subst hc;refine .cond ((ho _ _ h).bind fun x x' s2 s2' hx h=>hg _ _ (hA.ex (.cons he (.cons hx .nil))) _ _ h) (B7 ho hg r he h)
theorem YR {ops:List ByteArray} {o:σ->PR σ ε} {o':σ'->PR σ' ε'} (ho:zP RP R E o o'):∀ (k:Nat) (e:ε) (e':ε'),E e e'->zP RP R E (yP M A ops o k e) (yP M' A' ops o' k e')
 | 0,_,_,_,_,_,_=>.stuck
 | k+1,_,_,he,_,_,h=>B7 hM hA ho (YR ho k) ops he h
theorem OP {x:σ->PR σ ε} {x':σ'->PR σ' ε'} (hx:zP RP R E x x'):zP RP R E (Zh M A x) (Zh M' A' x'):=by
 intro s s' h;unfold Zh;rw [hM.tx h];refine .cond ?_ (.cond ?_ (.cond ?_ ?_))
 ·exact (hM.adv h).bind fun _ _ _ _ _ h=>.ret (hA.ex .nil) h
 ·refine (hM.adv h).bind fun _ _ _ _ _ h=>(jdJ hM h).bind fun n n' _ _ hn h => ?_;subst hn;exact .ret (hA.ex .nil) h
 ·exact (hM.adv h).bind fun _ _ _ _ _ h=>(hx _ _ h).bind fun e e' _ _ he h=>(Jp hM h).bind fun _ _ _ _ _ h=>.ret he h
 ·refine (Bw hM h).bind fun n n' _ _ hn h => ?_;subst hn;exact .ret (hA.ex .nil) h
theorem DZ {x:σ->PR σ ε} {x':σ'->PR σ' ε'} (hx:zP RP R E x x') (k:Nat):zP RP R E (Gc M A x k) (Gc M' A' x' k):=fun s s' h =>
 (OP hM hA hx s s' h).bind fun e e' _ _ he h=>YR hM hA (OP hM hA hx) k e e' he _ _ h
theorem B0 {o x:σ->PR σ ε} {o' x':σ'->PR σ' ε'} (ho:zP RP R E o o') (hx:zP RP R E x x') (k:Nat):zP RP R E (Xo M A o x k) (Xo M' A' o' x' k):=by
 intro s s' h;unfold Xo;refine (JH hM h).bind fun c c' s1 s1' hc h => ?_;subst hc;refine .cond ((ho _ _ h).bind fun e e' _ _ he h=>.ret (hA.ex (.cons he .nil)) h) ?_;exact (DZ hM hA hx k _ _ h).bind fun e e' _ _ he h=>B7 hM hA (DZ hM hA hx k) (fun e e' he _ _ h=>.ret he h) _ he h
theorem OQ {o x:σ->PR σ ε} {o' x':σ'->PR σ' ε'} (ho:zP RP R E o o') (hx:zP RP R E x x') (k:Nat):zP RP R E (W8 M A o x k) (W8 M' A' o' x' k):=fun s s' h =>
 (B0 hM hA ho hx k s s' h).bind fun e e' _ _ he h=>YR hM hA (B0 hM hA ho hx k) k e e' he _ _ h
theorem jdP {o x:σ->PR σ ε} {o' x':σ'->PR σ' ε'} (ho:zP RP R E o o') (hx:zP RP R E x x') (k:Nat):zP RP R E (U3 M A o x k) (U3 M' A' o' x' k):=fun s s' h =>
 (OQ hM hA ho hx k s s' h).bind fun e e' _ _ he h=>YR hM hA (OQ hM hA ho hx k) k e e' he _ _ h
theorem Ke (K:Nat):∀ d,zP RP R E (exs M A K d).1 (exs M' A' K d).1∧zP RP R E (exs M A K d).2 (exs M' A' K d).2
 | 0=>⟨fun _ _ _=>.stuck,fun _ _ _=>.stuck⟩
 | d+1=>⟨B0 hM hA (Ke K d).1 (Ke K d).2 K,jdP hM hA (Ke K d).1 (Ke K d).2 K⟩
omit hA in
theorem Hg:∀ (k:Nat) {s:σ} {s':σ'},R s s'->PRel RP R Eq (yX M k s) (yX M' k s')
 | 0,_,_,_=>.stuck
 | k + 1, s, s', h => by
   unfold yX;refine (JH hM h).bind fun c c' s1 s1' hc h => ?_;subst hc;refine .cond (.ret rfl h) ((Hh hM h).bind fun w w' s2 s2' hw h => ?_);subst hw;refine (Hg k h).bind fun l l' s3 s3' hl h => ?_;subst hl;exact .ret rfl h
omit hA in
theorem Hr {st:σ->PR σ τ} {st':σ'->PR σ' τ'} (hs:zP RP R T st st'):∀ (k:Nat),zP RP R (All2 T) (zU M st k) (zU M' st' k)
 | 0,_,_,_=>.stuck
 | k + 1, s, s', h => by
   unfold zU;refine (JH hM h).bind fun c c' s1 s1' hc h => ?_;subst hc;exact .cond (.ret .nil h) ((hs _ _ h).bind fun x x' s2 s2' hx h=>(Hr hs k _ _ h).bind fun l l' s3 s3' hl h=>.ret (.cons hx hl) h)
omit hA in
theorem jb7 {st:σ->PR σ τ} {st':σ'->PR σ' τ'} (hs:zP RP R T st st') (k:Nat):zP RP R (All2 T) (QC M st k) (QC M' st' k):=fun _ _ h =>
 (Jp hM h).bind fun _ _ _ _ _ h=>Hr hM hs k _ _ h
theorem Wx {x:σ->PR σ ε} {x':σ'->PR σ' ε'} (hx:zP RP R E x x') {b:σ->PR σ (List τ)} {b':σ'->PR σ' (List τ')} (hb:zP RP R (All2 T) b b') (k:Nat):zP RP R T (zj M A x b k) (zj M' A' x' b' k):=by
 intro s s' h;have hp:=hM.pos h;have h0:E (Zy A) (Zy A'):=hA.ex .nil;unfold zj;rw [hM.tx h];refine .cond ?_ (.cond ?_ (.cond ?_ (.cond ?_ (.cond ?_ (K7 hM h)))))
 ·refine (hM.adv h).bind fun _ _ _ _ _ h=>(ND hM h).bind fun w w' _ _ hw h=>(JH hM h).bind fun c c' _ _ hc h => ?_;subst hw;subst hc;refine .cond ((hb _ _ h).bind fun l l' _ _ hl h=>(Jp hM h).bind fun _ _ _ _ _ h=>.ret (hA.st h0 hl .nil hp) h) ((Jp hM h).bind fun _ _ _ _ _ h=>.ret (hA.st h0 .nil .nil hp) h)
 ·refine (hM.adv h).bind fun _ _ _ _ _ h=>(hx _ _ h).bind fun e e' _ _ he h=>(hb _ _ h).bind fun l l' _ _ hl h=>(JH hM h).bind fun c c' _ _ hc h => ?_;subst hc;exact .cond ((hb _ _ h).bind fun r r' _ _ hr h=>.ret (hA.st he hl hr hp) h) (.ret (hA.st he hl .nil hp) h)
 ·refine (hM.adv h).bind fun _ _ _ _ _ h=>(Bw hM h).bind fun n n' _ _ hn h=>(hb _ _ h).bind fun l l' _ _ hl h => ?_;subst hn;exact .ret (hA.st (hA.ex .nil) hl .nil hp) h
 ·exact (hM.adv h).bind fun _ _ _ _ _ h=>(hx _ _ h).bind fun e e' _ _ he h=>(Jp hM h).bind fun _ _ _ _ _ h=>.ret (hA.st he .nil .nil hp) h
 ·refine (hM.adv h).bind fun _ _ _ _ _ h=>(Hh hM h).bind fun w w' _ _ hw h=>(Hg hM k h).bind fun l l' _ _ hl h => ?_;subst hw;subst hl;exact .ret (hA.st h0 .nil .nil hp) h
theorem NL (K:Nat):∀ d,zP RP R T (sts M A K d).1 (sts M' A' K d).1∧zP RP R (All2 T) (sts M A K d).2 (sts M' A' K d).2
 | 0=>⟨fun _ _ _=>.stuck,fun _ _ _=>.stuck⟩
 | d+1=>⟨Wx hM hA (Ke hM hA K K).2 (NL K d).2 K,jb7 hM (Wx hM hA (Ke hM hA K K).2 (NL K d).2 K) K⟩
omit hA in
theorem jef {b:σ->PR σ (List τ)} {b':σ'->PR σ' (List τ')} (hb:zP RP R (All2 T) b b'):zP RP R (fun x x'=>x.1=x'.1∧All2 T x.2 x'.2) (yY M b) (yY M' b'):=by
 intro s s' h;unfold yY;refine (hM.adv h).bind fun _ _ _ _ _ h=>(Jp hM h).bind fun _ _ _ _ _ h => ?_;rw [hM.tx h];refine .cond ((Zc hM h).bind fun w w' _ _ hw h=>(hb _ _ h).bind fun l l' _ _ hl h => ?_) .stuck;subst hw;rw [hM.tx h];exact .cond (K7 hM h) (.ret ⟨rfl,hl⟩ h)
end
end Go.Proofs.YtiefjlcakpdfeaaGreat
namespace Go.Proofs.YtiefjlcakpdfeaaGreat.Ro
open Go Go.Sx Classical
set_option maxRecDepth 100000
abbrev I (n:Int):CV:=.int .i64 n
abbrev spSh:List Sh:=[.int .i64,.int .i64,.int .i64]
theorem n63:NcOne Tryz.prog 75 (X4 127 spSh 3 24):=RL Tryz.func75 rfl rfl rfl rfl rfl rfl rfl rfl (by kernel_rfl) rfl (fun n ρ=>by kernel_rfl)
 (fun n ρ=>stC spSh n ρ true) (fun n ρ=>mkS 8 [(0,.one (.c (.sl spSh n ρ))),(2,.one (.c (.os 1 3))),(3,.one (.c (.sl spSh n ρ))),(4,.one (.c (.bool false))),(5,.one (.c (.os 0 3))),(6,.one (.c (.sl spSh n ρ))),(7,.one (.c (.os 1 3)))] [none,some (127,[.row false spSh (0+n) (Val.cat 0 (Val.ofFlat 3 []) ρ)])])
 (fun n ρ=>by kernel_rfl) (fun n ρ=>by kernel_rfl) (fun n ρ=>rfl) (fun n ρ=>by kernel_rfl) (fun n ρ=>by kernel_rfl) (fun n ρ=>rfl)
end Go.Proofs.YtiefjlcakpdfeaaGreat.Ro