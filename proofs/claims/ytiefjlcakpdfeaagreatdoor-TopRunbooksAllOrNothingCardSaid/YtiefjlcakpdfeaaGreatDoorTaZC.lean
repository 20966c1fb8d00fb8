/-
 Part TaZC of the proof: RcL RcM RcN RcQ RvB RvC RvD.
-/
import Derived.Test.YtiefjlcakpdfeaaGreatDoorTaZB
namespace Go.Proofs.YtiefjlcakpdfeaaGreatDoor
open Go Go.Sx Go.RowKit Rb
set_option maxRecDepth 100000
structure DBk where
 e:Int
 a:Int
 kn:Nat
 kρ:Val
 x:RU
abbrev CBk:=DBk × Int
def Be:Nat->List CV
 | 0=>[]
 | n+1=>.any::Be n
def lpC (e a:Int):List CV:=[.any,.any,.any,.any,.any,.any,.any,.any,.any,.any,.any,.any,.ptr 2 0,.int .i64 e,.int .i64 a]++Be 61
def jh7 (d:DBk):Mem:=[some (24,[.any,.any]),some (86,[.sl Ro.siSh d.x.sn d.x.sρ,.sl [.int .i64] d.x.cn d.x.cρ,.os 10 1,.any,.bool true,.int .i64 d.x.bg,.int .i64 d.x.at_]),some (82,[.ptr 1 0]),none,none,none,none,
 some (22,[.row false [.rt 1] d.kn d.kρ]),some (84,[.os 7 1]),some (0,.lp 15 0 .ready::lpC d.e d.a),some (9,[.row false [.str] d.x.pn d.x.pρ])]
def SB9 (c:CBk):St:=mkS 19 [(0,.one (.c (.yld 9))),(1,.one (.c (.ptr 8 0))),(3,.one (.c (.int .i64 c.2)))] (jh7 c.1)
def EB9 (d:DBk):St:=mkS 19 [] (jh7 d)
def lpE:List CV->Option (Int × Int)
 | _::_::_::_::_::_::_::_::_::_::_::_::.ptr 2 0::.int .i64 e::.int .i64 a::r=>if Nat.beq r.length 61 then some (e,a) else none
 | _=>none
def Rm (cs:List CV):Bool:=cs.all closedC&&Nat.beq cs.length 2&&!je cs
def HJ:Mem->Option DBk
 | [some (24, c25), some (86, [c0, c1, .os 10 1, _, .bool true, .int .i64 bg, .int .i64 at_]), some (82, [.ptr 1 0]), none, none, none, none, some (22, [.row false [.rt 1] kn kρ]), some (84, [.os 7 1]), some (0, .lp 15 0 .ready :: cells), some (9, [.row false [.str] pn pρ])] =>
   if Rm c25 then (match plC Ro.siSh c0,plC [.int .i64] c1,lpE cells with
    | some (sn,sρ),some (cn,cρ),some (e,a)=>some ⟨e,a,kn,kρ,⟨sn,sρ,cn,cρ,pn,pρ,0,.zero,bg,at_⟩⟩
    | _,_,_=>none) else none
 | _=>none
theorem jai {m : Mem} {d : DBk} (h : HJ m = some d) : ∃ c25 c0 c1 c3 cells, Rm c25 = true ∧ plC Ro.siSh c0 = some (d.x.sn, d.x.sρ) ∧ plC [.int .i64] c1 = some (d.x.cn, d.x.cρ) ∧ lpE cells = some (d.e, d.a) ∧
  m=[some (24,c25),some (86,[c0,c1,.os 10 1,c3,.bool true,.int .i64 d.x.bg,.int .i64 d.x.at_]),some (82,[.ptr 1 0]),none,none,none,none,some (22,[.row false [.rt 1] d.kn d.kρ]),some (84,[.os 7 1]),some (0,.lp 15 0 .ready::cells),some (9,[.row false [.str] d.x.pn d.x.pρ])]:=by
 unfold HJ at h;split at h
 ·split at h
  ·rename_i hf;split at h
   ·rename_i h0 h1 h2;cases h;exact ⟨_,_,_,_,_,hf,h0,h1,h2,rfl⟩
   ·cases h
  ·cases h
 ·cases h
theorem N4:∀ {n j:Nat} {d:CV},nth (Be n) j=some d->yj d=true
 | 0,_,_,h=>by simp [Be,nth] at h
 | n+1,0,d,h=>by simp only [Be,nth,sIq] at h;subst h;rfl
 | n+1,j+1,d,h=>N4 (n:=n) (j:=j) h
theorem joE {cells:List CV} {e a:Int} (h:lpE cells=some (e,a)):(lpC e a).length=cells.length∧∀ j d,nth (lpC e a) j=some d->yj d=true∨nth cells j=some d:=by
 unfold lpE at h;split at h
 ·split at h
  ·rename_i r hr;have hr:=eBq hr;cases h;refine ⟨by simp [lpC,Be,hr],fun j d hj => ?_⟩
   match j,hj with
   | 0,hj=>cases hj;exact .inl rfl
   | 1,hj=>cases hj;exact .inl rfl
   | 2,hj=>cases hj;exact .inl rfl
   | 3,hj=>cases hj;exact .inl rfl
   | 4,hj=>cases hj;exact .inl rfl
   | 5,hj=>cases hj;exact .inl rfl
   | 6,hj=>cases hj;exact .inl rfl
   | 7,hj=>cases hj;exact .inl rfl
   | 8,hj=>cases hj;exact .inl rfl
   | 9,hj=>cases hj;exact .inl rfl
   | 10,hj=>cases hj;exact .inl rfl
   | 11,hj=>cases hj;exact .inl rfl
   | 12,hj=>cases hj;exact .inr rfl
   | 13,hj=>cases hj;exact .inr rfl
   | 14,hj=>cases hj;exact .inr rfl
   | j+15,hj=>exact .inl (N4 (n:=61) (j:=j) hj)
  ·cases h
 ·cases h
theorem jhM {cs:List CV} (h:Rm cs=true):cs.all closedC=true∧je cs=false∧LeL cs [.any,.any]:=by
 simp only [Rm,aTq,Bool.not_eq_true'] at h;obtain ⟨⟨h1,h2⟩,h3⟩:=h;have h2:=eBq h2;refine ⟨h1,h3,?_⟩
 match cs,h2 with
 | [a,b],_=>exact .cons qZ (.cons qZ .nil)
theorem Dz {m:Mem} {d:DBk} (h:HJ m=some d) (P:Program) (F:Nat->Prop) (w:World) (bs:List BI) (hm:MemRel P F w bs m):MemRel P F w bs (jh7 d):=by
 obtain ⟨c25,c0,c1,c3,cells,hf,h0,h1,h2,rfl⟩:=jai h;obtain ⟨a1,a2,a3⟩:=jhM hf;have k1:=hm.cellsTo (b:=1) (T:=86) rfl (Xq h0 _) (ds:=[.sl Ro.siSh d.x.sn d.x.sρ,.sl [.int .i64] d.x.cn d.x.cρ,.os 10 1,.any,.bool true,.int .i64 d.x.bg,.int .i64 d.x.at_]) rfl fun _ _ _ _ h=>(DD (fun _ hv=>XI h0 hv) (fun _ hv=>XI h1 hv) h).setAny 3;have k2:=kI (b:=0) rfl a2 a1 a3 rfl rfl P F w bs k1;obtain ⟨b1,b2⟩:=joE h2;exact k2.lpWk (b:=9) rfl b1 b2
def jbh (l:List (Nat × AV)) (m:Mem):Option CBk:=match l with
 | [(0,.one (.c (.yld 9))),(1,.one (.c (.ptr 8 0))),(3,.one (.c (.int .i64 i)))]=>(match HJ m with
  | some d=>some (d,i)
  | none=>none)
 | _=>none
def jaT (l:List (Nat × AV)) (m:Mem):Option DBk:=match l with
 | []=>HJ m
 | _=>none
theorem jgl:∀ l m c,jbh l m=some c->StWk (mkS 19 l m) (SB9 c):=by
 intro l m c h;unfold jbh at h;split at h
 ·split at h
  ·rename_i hd;cases h;exact yV LeSl.refl (Dz hd)
  ·cases h
 ·cases h
theorem jgN:∀ l m c,jaT l m=some c->StWk (mkS 19 l m) (EB9 c):=by
 intro l m c h;unfold jaT at h;split at h
 ·exact yV LeSl.refl (Dz h)
 ·cases h
def AB9:Sx.Frame CBk DBk:=⟨10,19,[0,1,3],jbh,SB9,[],jaT,EB9⟩
theorem aB9:AB9.Ok:=⟨jgl,jgN⟩
def jmF (B:BF) (g:CBk->Tree (XE × DBk)) (c:CBk):Tree (XE × DBk) :=
 let o:=B true (J6 c.1.kρ c.2) (Jw c.1.kρ c.2) (nk true c.1.x)
 let y:=ov1 (0,rU0) o
 let d:DBk:={ c.1 with x:=nk true y.2 }
 .br (le 0 c.2) (.need (jc c.2 c.1.kn) (.need (os1 o) (.br (!true) (.leaf (.ret,d)) (g (d,IntKind.wrap .i64 (c.2 - 1)))))) (.leaf (.exit 0,{ c.1 with x:=nk true c.1.x }))
theorem jjx (C:ChF) (B:BF) (g:CBk->Tree (XE × DBk)) (c:CBk):Xo AB9 Tryz.prog (H15 C B) 10 73 0 g c=jmF B g c:=by kernel_rfl
def Qp (B:BF) (kn:Nat) (kρ:Val):Nat->Int->RU->Option RU
 | 0,_,_=>none
 | k+1,i,x=>bif le 0 i then nd (jc i kn) ((B true (J6 kρ i) (Jw kρ i) (nk true x)).bind fun y=>Qp B kn kρ k (IntKind.wrap .i64 (i - 1)) (nk true y.2)) else some (nk true x)
def gB9 (B:BF) (k:Nat) (c:CBk):Tree (XE × DBk) :=
 let o:=Qp B c.1.kn c.1.kρ k c.2 c.1.x
 .need (os1 o) (.leaf (.exit 0,{ c.1 with x:=ov1 rU0 o }))
theorem MD (B:BF) (k:Nat) (c:CBk):(gB9 B k c).sel=(Qp B c.1.kn c.1.kρ k c.2 c.1.x).bind fun x=>some (.exit 0,{ c.1 with x:=x }):=by
 unfold gB9;cases Qp B c.1.kn c.1.kρ k c.2 c.1.x<;>rfl
theorem jm3 (C:ChF) (B:BF) (k:Nat) (c:CBk) (x:XE × DBk) (h:(gB9 B (k+1) c).sel=some x):(Xo AB9 Tryz.prog (H15 C B) 10 73 0 (gB9 B k) c).sel=some x:=by
 rw [jjx];rw [MD] at h;unfold Qp at h;unfold jmF;simp only [j9,jG,j3,MD];revert h;cases le 0 c.2 with
 | false=>exact fun h=>h
 | true =>
 cases jc c.2 c.1.kn with
 | false=>exact fun h=>h
 | true =>
 simp only [nd,cond_true];cases B true (J6 c.1.kρ c.2) (Jw c.1.kρ c.2) (nk true c.1.x) with
 | none=>exact fun h=>h
 | some y=>exact fun h=>h
theorem jmN {C:ChF} (hC:UcOne Tryz.prog 14 (nG (G29 C))) {B:BF} (hB:jr Tryz.prog 38 (zk (u52 B))):∀ k,LCore Tryz.prog 73 0 10 SB9 EB9 (gB9 B k) :=
 LCore.fuel (A:=AB9) aB9 (h15 hC hB) 10 (fun _=>rfl) (jm3 C B)
def jmo (B:BF) (c:CBk):Tree (XE × DBk):=gB9 B (c.1.kn+1) c
theorem jjd {C:ChF} (hC:UcOne Tryz.prog 14 (nG (G29 C))) {B:BF} (hB:jr Tryz.prog 38 (zk (u52 B))):LCore Tryz.prog 73 0 10 SB9 EB9 (jmo B):=fun fn c b h1 h2 h3 c0 x hx=>jmN hC hB _ fn c b h1 h2 h3 c0 x hx
def LB9 (B:BF):Nat->St->Tree (XE × St):=jik 1 2 (Rk AB9 (jmo B))
noncomputable abbrev HR (C:ChF) (B:BF):Hd:=⟨[],[(14,nG (G29 C)),(37,nG jbi)],[((73,0),LB9 B)],[(38,zk (u52 B))]⟩
theorem hR {C:ChF} (hC:UcOne Tryz.prog 14 (nG (G29 C))) {B:BF} (hB:jr Tryz.prog 38 (zk (u52 B))):HdOk Tryz.prog (HR C B) :=
 HdOk.lhCons (h15 hC hB) fun fn c b h1 h2 h3=>jhJ 1 2 (LCore.ok (A:=AB9) aB9 (jjd hC hB) fn c b h1 h2 h3)
structure RunR where
 sn:Nat
 sρ:Val
 pn:Nat
 pρ:Val
 a:Int
 e:Int
def rr0:RunR:=⟨0,.zero,0,.zero,0,0⟩
def Xl (x:RunR):AV:=.tup [.c (.sl Ro.siSh x.sn x.sρ),.c (.sl [.str] x.pn x.pρ),.c (.int .i64 x.a),.c (.int .i64 x.e)]
abbrev Us:=ByteArray->Nat->Val->Nat->Val->Nat->Val->Option RunR
def TA (n:Nat) (ρ:Val) (q:Nat) (τ:Val):RU:=⟨n,ρ,q,τ,0,.zero,0,.zero,0,0⟩
def Wb (x:RU):RU:=⟨x.sn,x.sρ,x.cn,x.cρ,x.pn,x.pρ,0,.zero,0,x.at_⟩
def WR (C:ChF) (B:BF):Us:=fun name m κ n ρ q τ =>
 (C name m κ n ρ).bind fun c=>bif c.2 != 0 then some ⟨0,.zero,0,.zero,c.1,c.2⟩ else nd (qi n ρ) ((B false m κ (TA n ρ q τ)).bind fun y =>
  bif y.1==0 then some ⟨y.2.sn,y.2.sρ,y.2.pn,y.2.pρ,0,0⟩ else (Qp B y.2.kn y.2.kρ (y.2.kn+1) (IntKind.wrap .i64 (ja y.2.kn - 1)) (Wb y.2)).bind fun z=>some ⟨z.sn,z.sρ,z.pn,z.pρ,y.2.at_,y.1⟩)
def t15 (C:ChF) (B:BF) (name:ByteArray) (m:Nat) (κ:Val) (n:Nat) (ρ:Val) (q:Nat) (τ:Val):Tree AV :=
 let c:=C name m κ n ρ
 let cv:=ov1 (0,0) c
 let b:=B false m κ (TA n ρ q τ)
 let y:=ov1 (0,rU0) b
 let z:=Qp B y.2.kn y.2.kρ (y.2.kn+1) (IntKind.wrap .i64 (ja y.2.kn - 1)) (Wb y.2)
 let zv:=ov1 rU0 z
 .need (os1 c) (.br (cv.2 != 0) (.leaf (.tup [.c .nils,.c .nils,.c (.int .i64 cv.1),.c (.int .i64 cv.2)])) (.need (qi n ρ) (.need (os1 b)
  (.br (y.1==0) (.leaf (Xl ⟨y.2.sn,y.2.sρ,y.2.pn,y.2.pρ,0,0⟩)) (.need (os1 z) (.leaf (Xl ⟨zv.sn,zv.sρ,zv.pn,zv.pρ,y.2.at_,y.1⟩)))))))
theorem joq (C : ChF) (B : BF) (name : ByteArray) (m : Nat) (κ : Val) (n : Nat) (ρ : Val) (q : Nat) (τ : Val) :
  j5 Tryz.prog (HR C B) 10 15 [.agg [.str name,.sl (jm 1) m κ],.c (.sl Ro.siSh n ρ),.c (.sl [.int .i64] q τ)]=t15 C B name m κ n ρ q τ:=by kernel_rfl
theorem jkB (C : ChF) (B : BF) (name : ByteArray) (m : Nat) (κ : Val) (n : Nat) (ρ : Val) :
  j5 Tryz.prog (HR C B) 10 15 [.agg [.str name,.sl (jm 1) m κ],.c (.sl Ro.siSh n ρ),.c .nils]=t15 C B name m κ n ρ 0 .zero:=by kernel_rfl
theorem jji {a e:Int}:leA (.tup [.c .nils,.c .nils,.c (.int .i64 a),.c (.int .i64 e)]) (Xl ⟨0,.zero,0,.zero,a,e⟩) :=
 QS (.cons (.c fun _ _ _ h=>by cases h;exact .slnil) (.cons (.c fun _ _ _ h=>by cases h;exact .slnil) (.cons (.c leC.refl) (.cons (.c leC.refl) .nil))))
theorem Ma (C:ChF) (B:BF) (name:ByteArray) (m:Nat) (κ:Val) (n:Nat) (ρ:Val) (q:Nat) (τ:Val):Sy Xl (t15 C B name m κ n ρ q τ) (WR C B name m κ n ρ q τ):=by
 unfold t15 WR;cases C name m κ n ρ with
 | none=>exact trivial
 | some c =>
 simp only [os1,ov1,Option.bind];refine Sy.need rfl (Sy.cond (fun _=>Sy.ret' jji) fun _=>Sy.nd id fun _ => ?_);cases B false m κ (TA n ρ q τ) with
 | none=>exact trivial
 | some y =>
 simp only;refine Sy.need rfl (Sy.cond (fun _=>Sy.ret) fun _ => ?_);cases Qp B y.2.kn y.2.kρ (y.2.kn+1) (IntKind.wrap .i64 (ja y.2.kn - 1)) (Wb y.2) with
 | none=>exact trivial
 | some z=>exact Sy.need rfl Sy.ret
def G15 (R:Us):List A1->Option (Bool × AV)
 | [.agg [.str name,.sl es' m κ],.c (.sl es n ρ),c]=>if shEq.shsEq es' (jm 1)&&shEq.shsEq es Ro.siSh then (match c with
  | .c (.sl [.int .i64] q τ)=>some (os1 (R name m κ n ρ q τ),Xl (ov1 rr0 (R name m κ n ρ q τ)))
  | .c .nils=>some (os1 (R name m κ n ρ 0 .zero),Xl (ov1 rr0 (R name m κ n ρ 0 .zero)))
  | _=>none) else none
 | _=>none
theorem p15 {C:ChF} (hC:UcOne Tryz.prog 14 (nG (G29 C))) {B:BF} (hB:jr Tryz.prog 38 (zk (u52 B))):UcOne Tryz.prog 15 (nG (G15 (WR C B))):=by
 refine jX (H:=HR C B) (hR hC hB) 10 15 ?_;intro args r h;unfold G15 at h;split at h
 ·rename_i name es' m κ es n ρ c;split at h
  ·rename_i hs;rw [aTq] at hs;rw [jj hs.1,jj hs.2];split at h
   ·rename_i q τ;simp only [sIq,pIq] at h;refine ⟨_,joq C B name m κ n ρ q τ,?_⟩
    have:=Ma C B name m κ n ρ q τ
    cases hr:WR C B name m κ n ρ q τ with
    | none=>rw [hr] at h;cases h.1
    | some x=>rw [hr] at h this;rw [← h.2];exact this
   ·simp only [sIq,pIq] at h;refine ⟨_,jkB C B name m κ n ρ,?_⟩
    have:=Ma C B name m κ n ρ 0 .zero
    cases hr:WR C B name m κ n ρ 0 .zero with
    | none=>rw [hr] at h;cases h.1
    | some x=>rw [hr] at h this;rw [← h.2];exact this
   ·cases h
  ·cases h
 ·cases h
def K6 (n:Nat) (ρ:Val) (m:Nat) (σ:Val) (l:Int):Nat->Int->Option Bool
 | 0,_=>none
 | k+1,i=>bif lt i l then nd (jc i n) (nd (jc i m) (bif !jb (wd ρ i.toNat) (wd σ i.toNat) then some false else K6 n ρ m σ l k (IntKind.wrap .i64 (i+1)))) else some true
def Q9 (n:Nat) (ρ:Val) (m:Nat) (σ:Val):Option Bool:=bif ja n != ja m then some false else K6 n ρ m σ (ja n) (n+1) 0
def G16:List A1->Option (Bool × AV)
 | [.c (.sl [.str] n ρ),.c (.sl [.str] m σ)]=>some (os1 (Q9 n ρ m σ),jF (ov1 false (Q9 n ρ m σ)))
 | _=>none
structure C16 where
 n:Nat
 ρ:Val
 m:Nat
 σ:Val
 l:Int
 i:Int
def eB (b:Bool):St:=mkS 26 [(4,.one (.c (.bool b)))] []
def Ix:List (Nat × AV)->Mem->Option Bool
 | [(4,.one (.c (.bool b)))],[]=>some b
 | _,_=>none
theorem jc6:∀ l m c,Ix l m=some c->mkS 26 l m=eB c:=by
 intro l m c h;unfold Ix at h;split at h
 ·cases h;rfl
 ·cases h
def jfk (c:C16 × Bool):St:=mkS 26 [(0,.one (.c (.sl [.str] c.1.n c.1.ρ))),(1,.one (.c (.sl [.str] c.1.m c.1.σ))),(4,.one (.c (.bool c.2))),(12,.one (.c (.int .i64 c.1.l))),(13,.one (.c (.int .i64 c.1.i)))] []
def FG:List (Nat × AV)->Mem->Option (C16 × Bool)
 | [(0,.one (.c (.sl [.str] n ρ))),(1,.one (.c (.sl [.str] m σ))),(4,.one (.c (.bool b))),(12,.one (.c (.int .i64 l))),(13,.one (.c (.int .i64 i)))],[]=>some (⟨n,ρ,m,σ,l,i⟩,b)
 | _,_=>none
theorem jeg:∀ l m c,FG l m=some c->mkS 26 l m=jfk c:=by
 intro l m c h;unfold FG at h;split at h
 ·cases h;rfl
 ·cases h
def A16:Sx.Frame (C16 × Bool) Bool:=⟨0,26,[0,1,4,12,13],FG,jfk,[4],Ix,eB⟩
theorem a16:A16.Ok:=.of_eq jeg jc6
def r16 (g:C16 × Bool->Tree (XP × Bool)) (c:C16 × Bool):Tree (XP × Bool) :=
 .br (lt c.1.i c.1.l) (.need (jc c.1.i c.1.n) (.need (jc c.1.i c.1.m) (.br (!jb (wd c.1.ρ c.1.i.toNat) (wd c.1.σ c.1.i.toNat)) (.leaf (.ret,false)) (g ({ c.1 with i:=IntKind.wrap .i64 (c.1.i+1) },c.2))))) (.leaf (.exit 0,c.2))
theorem jmD (g:C16 × Bool->Tree (XP × Bool)) (c:C16 × Bool):jD A16 Tryz.prog h00 Go.Proofs.YtiefjlcakpdfeaaGreatDoor.X0 10 19 0 g c=r16 g c:=by kernel_rfl
def g16 (k:Nat) (c:C16 × Bool):Tree (XP × Bool) :=
 let o:=K6 c.1.n c.1.ρ c.1.m c.1.σ c.1.l k c.1.i
 .need (os1 o) (.br (ov1 false o) (.leaf (.exit 0,c.2)) (.leaf (.ret,false)))
theorem MA (k:Nat) (c:C16 × Bool):(g16 k c).sel=(K6 c.1.n c.1.ρ c.1.m c.1.σ c.1.l k c.1.i).bind fun b=>some (bif b then (.exit 0,c.2) else (.ret,false)):=by
 unfold g16;cases K6 c.1.n c.1.ρ c.1.m c.1.σ c.1.l k c.1.i with
 | none=>rfl
 | some b=>cases b<;>rfl
theorem jmh (k:Nat) (c:C16 × Bool) (x:XP × Bool) (h:(g16 (k+1) c).sel=some x):(jD A16 Tryz.prog h00 Go.Proofs.YtiefjlcakpdfeaaGreatDoor.X0 10 19 0 (g16 k) c).sel=some x:=by
 rw [jmD];rw [MA] at h;unfold K6 at h;unfold r16;simp only [j9,jG,j3,MA];revert h;cases lt c.1.i c.1.l with
 | false=>exact fun h=>h
 | true =>
 cases jc c.1.i c.1.n with
 | false=>exact fun h=>h
 | true =>
 cases jc c.1.i c.1.m with
 | false=>exact fun h=>h
 | true=>cases jb (wd c.1.ρ c.1.i.toNat) (wd c.1.σ c.1.i.toNat)<;>exact fun h=>h
theorem jnD:∀ k,CoreOk Tryz.prog 19 0 0 jfk eB (g16 k):=CoreOk.fuel (A:=A16) a16 HdOk.nil Go.Proofs.YtiefjlcakpdfeaaGreatDoor.x0 10 (fun _=>rfl) jmh
def jmc (c:C16 × Bool):Tree (XP × Bool):=g16 (c.1.n+1) c
def X16:HdP:=⟨[],[],[],[((19,0),qz A16 jmc)],[],0,[]⟩
theorem x16:XOk Tryz.prog X16:=XOk.lxCons XOk.nil (CoreOk.lx (g:=jmc) a16 fun fn c b h1 h2 h3 c0 x hx=>jnD _ fn c b h1 h2 h3 c0 x hx)
def t16 (n:Nat) (ρ:Val) (m:Nat) (σ:Val):Tree AV :=
 let o:=K6 n ρ m σ (ja n) (n+1) 0
 .br (ja n != ja m) (.leaf (jF false)) (.need (os1 o) (.br (ov1 false o) (.leaf (jF true)) (.leaf (jF false))))
theorem joY (n:Nat) (ρ:Val) (m:Nat) (σ:Val):qf Tryz.prog h00 X16 10 19 [.c (.sl [.str] n ρ),.c (.sl [.str] m σ)]=t16 n ρ m σ:=by kernel_rfl
theorem jlC (n:Nat) (ρ:Val) (m:Nat) (σ:Val):Sy jF (t16 n ρ m σ) (Q9 n ρ m σ):=by
 unfold t16 Q9;refine Sy.cond (fun _=>Sy.ret) fun _ => ?_;cases K6 n ρ m σ (ja n) (n+1) 0 with
 | none=>exact trivial
 | some b =>
   cases b with
  | true=>exact Sy.need rfl (Sy.br1 rfl Sy.ret)
  | false=>exact Sy.need rfl (Sy.br0 rfl Sy.ret)
theorem p16:UcOne Tryz.prog 19 (nG G16):=by
 refine jR (H:=h00) (X:=X16) HdOk.nil x16 10 19 ?_;intro args r h;unfold G16 at h;split at h
 ·rename_i n ρ m σ;simp only [sIq,pIq] at h;rw [joY]
  have:=jlC n ρ m σ
  cases hp:Q9 n ρ m σ with
  | none=>rw [hp] at h;cases h.1
  | some x=>rw [hp] at h this;rw [← h.2];exact this
 ·cases h
def L6 (a b:Val):Bool :=
 ((((((((a.at 0).N [] == (b.at 0).N [] && (a.at 1).N [] == (b.at 1).N []) && (a.at 2).N [] == (b.at 2).N []) && (a.at 3).N [] == (b.at 3).N []) &&
   Ro.eqL ⟨⟨(a.at 4).L [],a.at 4⟩,⟨(b.at 4).L [],b.at 4⟩⟩)&&(a.at 5).N []==(b.at 5).N [])&&(a.at 6).B []==(b.at 6).B [])&&(a.at 7).B []==(b.at 7).B [])
def GG (n:Nat):Bool:=Nat.ble n 100000
def jow:A1->A1->Option (Bool × Bool)
 | .agg [.int .i64 a, .int .i64 r, .int .i64 e, .int .i64 p, .sl s1 n ρ, .int .i64 s, .bool l, .bool c], .agg [.int .i64 a', .int .i64 r', .int .i64 e', .int .i64 p', .sl s2 k σ, .int .i64 s', .bool l', .bool c'] =>
   if shEq.shsEq s1 Ro.spSh&&shEq.shsEq s2 Ro.spSh then some (GG n,((((((((a==a'&&r==r')&&e==e')&&p==p')&&Ro.eqL ⟨⟨n,ρ⟩,⟨k,σ⟩⟩)&&s==s')&&l==l')&&c==c'))) else none
 | _,_=>none
def G20:List A1->Option (Bool × AV)
 | [x,y]=>(match jow x y with
  | some (c,b)=>some (c,jF b)
  | none=>none)
 | _=>none
theorem jlz {n:Nat} (h:GG n=true):dec (Ro.fewN n)=true:=js.2 (by
 have:=Nat.le_of_ble_eq_true h
 show n<=4611686018427387904;omega)
theorem p20:TcOne Tryz.prog 21 (nG G20):=TcOne.le Ro.p17 fun args r h=>by
 unfold G20 at h;split at h
 ·rename_i x y;split at h
  ·rename_i c b hc;simp only [sIq,pIq] at h;unfold jow at hc;split at hc
   ·split at hc
    ·rename_i hs;rw [aTq] at hs;have e1:=jj hs.1;have e2:=jj hs.2;subst e1;subst e2;simp only [sIq,pIq] at hc;have hf:GG _=true:=hc.1.trans h.1;have hd:=jlz hf;show some (dec _,_)=some (true,r);rw [hd,← h.2,← hc.2];rfl
    ·cases hc
   ·cases hc
  ·cases h
 ·cases h
def Xe (n:Nat) (ρ:Val) (m:Nat) (σ:Val) (l:Int):Nat->Int->Option Bool
 | 0,_=>none
 | k+1,i=>bif lt i l then nd (jc i n) (nd (jc i m) (nd (GG (((ρ.at i.toNat).at 4).L [])) (bif !L6 (ρ.at i.toNat) (σ.at i.toNat) then some false else Xe n ρ m σ l k (IntKind.wrap .i64 (i+1))))) else some true
def Zf (n:Nat) (ρ:Val) (m:Nat) (σ:Val):Option Bool:=bif ja n != ja m then some false else Xe n ρ m σ (ja n) (n+1) 0
noncomputable abbrev H19:Hd:=⟨[(21,nG G20)],[],[],[]⟩
theorem h19:HdOk Tryz.prog H19:=HdOk.nil.tcCons p20
def t19 (n:Nat) (ρ:Val) (m:Nat) (σ:Val):Tree AV :=
 let o:=Xe n ρ m σ (ja n) (n+1) 0
 .br (ja n != ja m) (.leaf (jF false)) (.need (os1 o) (.br (ov1 false o) (.leaf (jF true)) (.leaf (jF false))))
theorem ji7 (n:Nat) (ρ:Val) (m:Nat) (σ:Val):Sy jF (t19 n ρ m σ) (Zf n ρ m σ):=by
 unfold t19 Zf;refine Sy.cond (fun _=>Sy.ret) fun _ => ?_;cases Xe n ρ m σ (ja n) (n+1) 0 with
 | none=>exact trivial
 | some b =>
   cases b with
  | true=>exact Sy.need rfl (Sy.br1 rfl Sy.ret)
  | false=>exact Sy.need rfl (Sy.br0 rfl Sy.ret)
theorem jpp:UcOne Tryz.prog 97 (nG (al fun _ _ _=>none)):=by
 intro args r h;have h:=zA h;unfold al at h;split at h
 ·cases h
 ·cases h
def P0:Par:=⟨Qt NW,Bz 20,fun _ _ _=>none⟩
theorem jrE:ParOk P0:=⟨jpb,jof 20,jpp⟩
def jdD:ChF:=X9 20 20
def joU:BF:=We P0 20
def joI:Us:=WR jdD joU
theorem jp8:UcOne Tryz.prog 14 (nG (G29 jdD)):=p29 20 20
theorem jpJ:UcOne Tryz.prog 15 (nG (G15 joI)):=p15 jp8 (m52 jrE 20)
def G7:List A1->Option (Bool × AV)
 | []=>some (true,jF true)
 | _=>none
theorem jlc {args:List A1} {r:AV} (h:G7 args=some (true,r)):args=[]∧r=jF true:=by
 unfold G7 at h;split at h
 ·exact ⟨rfl,(congrArg Prod.snd (Option.some.inj h)).symm⟩
 ·cases h
def jgU (n:Int):Val:=Val.ofFlat 3 [.int .i64 1,.int .i64 1,.int .i64 n]
def FP (a0 a1 a2 c0 c1 c2:Bool):Val :=
 Val.cat 2 (Val.cat 1 (Val.ofFlat 8 [.int .i64 0,.int .i64 1,.int .i64 1,.int .i64 6,.sl Ro.spSh 1 (jgU 6),.int .i64 (-1),.bool a0,.bool c0])
  (Val.ofFlat 8 [.int .i64 1,.int .i64 2,.int .i64 1,.int .i64 5,.sl Ro.spSh 1 (jgU 5),.int .i64 0,.bool a1,.bool c1]))
  (Val.ofFlat 8 [.int .i64 2,.int .i64 2,.int .i64 1,.int .i64 4,.sl Ro.spSh 1 (jgU 4),.int .i64 0,.bool a2,.bool c2])
def Na (b:Int) (i:Int):Bool:=(jgX .u8 b i).tmod 2==1
def y5 (b:Int):Val:=FP (Na b 0) (Na b 1) (Na b 2) (Na b 3) (Na b 4) (Na b 5)
def G9 (b:Int):AV:=.one (.c (.sl Ro.siSh 3 (y5 b)))
def Ta:List A1->Option (Bool × AV)
 | [.c (.int .u8 b)]=>some (true,G9 b)
 | _=>none
noncomputable abbrev HU:Hd:=⟨[],[],[],[]⟩
noncomputable abbrev jmz:Hd:=⟨[],[],Bf Tryz.prog HU 4 [(12,0)],[]⟩
theorem jrQ:HdOk Tryz.prog jmz:=UJ HdOk.nil (HdOk.nil) 4 [(12,0)]
theorem jc3 {args:List A1} {r:AV} (h:Ta args=some (true,r)):∃ b,args=[.c (.int .u8 b)]∧r=G9 b:=by
 unfold Ta at h;split at h
 ·exact ⟨_,rfl,(congrArg Prod.snd (Option.some.inj h)).symm⟩
 ·cases h
theorem Jo {P:Program} {H:Hd} (hH:HdOk P H) (n f:Nat) {G:List A1->Option (Bool × AV)} (h:∀ args r,G args=some (true,r)->∃ z,(j5 P H n f args).sel=some z∧leA z r):UcOne P f (nG G):=by
 refine zm (H:=H) hH n f ?_;intro args r hg;obtain ⟨z,h1,h2⟩:=h args r hg;exact jl h1 h2
theorem jeL (b:Int):(j5 Tryz.prog jmz 10 12 [.c (.int .u8 b)]).sel=some (G9 b):=by kernel_rfl
theorem joP:UcOne Tryz.prog 12 (nG Ta):=Jo jrQ 10 12 fun args r h=>by
 obtain ⟨b,e1,e2⟩:=jc3 h;refine ⟨G9 b,?_,?_⟩
 ·rw [e1];exact jeL b
 ·rw [e2];exact leA.refl
def LY:List A1->Option (Bool × AV)
 | [.c (.sl es n ρ),.c (.sl es' m σ)]=>if shEq.shsEq es Ro.siSh&&shEq.shsEq es' Ro.siSh then some (os1 (Zf n ρ m σ),jF (ov1 false (Zf n ρ m σ))) else none
 | _=>none
structure Cz24 where
 n:Nat
 ρ:Val
 m:Nat
 σ:Val
 b:Bool
 i:Int
def jff (c:Cz24):St:=mkS 27 [(0,.one (.c (.sl Ro.siSh c.n c.ρ))),(1,.one (.c (.sl Ro.siSh c.m c.σ))),(4,.one (.c (.bool c.b))),(5,.one (.c (.int .i64 c.i)))] []
def DY:List (Nat × AV)->Mem->Option Cz24
 | [(0,.one (.c (.sl es n ρ))),(1,.one (.c (.sl es' m σ))),(4,.one (.c (.bool b))),(5,.one (.c (.int .i64 i)))],[]=>if shEq.shsEq es Ro.siSh&&shEq.shsEq es' Ro.siSh then some ⟨n,ρ,m,σ,b,i⟩ else none
 | _,_=>none
theorem jdI:∀ l m c,DY l m=some c->mkS 27 l m=jff c:=by
 intro l m c h;unfold DY at h;split at h
 ·split at h
  ·rename_i hs;rw [aTq] at hs;rw [jj hs.1,jj hs.2];cases h;rfl
  ·cases h
 ·cases h
def jcp (b:Bool):St:=mkS 27 [(4,.one (.c (.bool b)))] []
def LP:List (Nat × AV)->Mem->Option Bool
 | [(4,.one (.c (.bool b)))],[]=>some b
 | _,_=>none
theorem jb7:∀ l m c,LP l m=some c->mkS 27 l m=jcp c:=by
 intro l m c h;unfold LP at h;split at h
 ·cases h;rfl
 ·cases h
def Az24:Sx.Frame Cz24 Bool:=⟨0,27,[0,1,4,5],DY,jff,[4],LP,jcp⟩
theorem jno:Az24.Ok:=.of_eq jdI jb7
def jlD (g:Cz24->Tree (XP × Bool)) (c:Cz24):Tree (XP × Bool) :=
 .br (lt c.i (ja c.n)) (.need (jc c.i c.n) (.need (jc c.i c.m) (.need (GG (((c.ρ.at c.i.toNat).at 4).L [])) (.br (!L6 (c.ρ.at c.i.toNat) (c.σ.at c.i.toNat)) (.leaf (.ret,false)) (g { c with i:=IntKind.wrap .i64 (c.i+1) }))))) (.leaf (.exit 0,c.b))
theorem jlr (g:Cz24->Tree (XP × Bool)) (c:Cz24):jD Az24 Tryz.prog H19 Go.Proofs.YtiefjlcakpdfeaaGreatDoor.X0 10 16 0 g c=jlD g c:=by kernel_rfl
def Ng (k:Nat) (c:Cz24):Tree (XP × Bool) :=
 let o:=Xe c.n c.ρ c.m c.σ (ja c.n) k c.i
 .need (os1 o) (.br (ov1 false o) (.leaf (.exit 0,c.b)) (.leaf (.ret,false)))
theorem Fa (k:Nat) (c:Cz24):(Ng k c).sel=(Xe c.n c.ρ c.m c.σ (ja c.n) k c.i).bind fun b=>some (bif b then (.exit 0,c.b) else (.ret,false)):=by
 unfold Ng;cases Xe c.n c.ρ c.m c.σ (ja c.n) k c.i with
 | none=>rfl
 | some b=>cases b<;>rfl
theorem jiW (k:Nat) (c:Cz24) (x:XP × Bool) (h:(Ng (k+1) c).sel=some x):(jD Az24 Tryz.prog H19 Go.Proofs.YtiefjlcakpdfeaaGreatDoor.X0 10 16 0 (Ng k) c).sel=some x:=by
 rw [jlr];rw [Fa] at h;unfold Xe at h;unfold jlD;simp only [j9,jG,j3,Fa];revert h;cases lt c.i (ja c.n) with
 | false=>exact fun h=>h
 | true =>
 cases jc c.i c.n with
 | false=>exact fun h=>h
 | true =>
 cases jc c.i c.m with
 | false=>exact fun h=>h
 | true =>
 cases GG (((c.ρ.at c.i.toNat).at 4).L []) with
 | false=>exact fun h=>h
 | true=>cases L6 (c.ρ.at c.i.toNat) (c.σ.at c.i.toNat)<;>exact fun h=>h
theorem jkO:∀ k,CoreOk Tryz.prog 16 0 0 jff jcp (Ng k):=CoreOk.fuel (A:=Az24) jno h19 Go.Proofs.YtiefjlcakpdfeaaGreatDoor.x0 10 (fun _=>rfl) jiW
def jif (c:Cz24):Tree (XP × Bool):=Ng (c.n+1) c
def jaF:HdP:=⟨[],[],[],[((16,0),qz Az24 jif)],[],0,[]⟩
theorem jqh:XOk Tryz.prog jaF:=XOk.lxCons XOk.nil (CoreOk.lx (g:=jif) jno fun fn c b h1 h2 h3 c0 x hx=>jkO _ fn c b h1 h2 h3 c0 x hx)
theorem jlf (n:Nat) (ρ:Val) (m:Nat) (σ:Val):qf Tryz.prog H19 jaF 10 16 [.c (.sl Ro.siSh n ρ),.c (.sl Ro.siSh m σ)]=t19 n ρ m σ:=by kernel_rfl
theorem jdH {args:List A1} {r:AV} (h:LY args=some (true,r)):∃ n ρ m σ x,args=[.c (.sl Ro.siSh n ρ),.c (.sl Ro.siSh m σ)]∧Zf n ρ m σ=some x∧r=jF x:=by
 unfold LY at h;split at h
 ·rename_i es n ρ es' m σ;cases hs:(shEq.shsEq es Ro.siSh&&shEq.shsEq es' Ro.siSh) with
  | false=>rw [hs] at h;cases h
  | true =>
    rw [hs,if_pos rfl] at h;rw [aTq] at hs;rw [jj hs.1,jj hs.2];cases hp:Zf n ρ m σ with
   | none=>rw [hp] at h;cases h
   | some x=>rw [hp] at h;cases h;exact ⟨n,ρ,m,σ,x,rfl,hp,rfl⟩
 ·cases h
theorem jqK {args:List A1} {r:AV} (h:LY args=some (true,r)):(qf Tryz.prog H19 jaF 10 16 args).All (fun x=>leA x r):=by
 obtain ⟨n,ρ,m,σ,x,e1,h1,e2⟩:=jdH h;rw [e1,e2,jlf]
 have:=ji7 n ρ m σ
 rw [h1] at this;exact this
theorem jmu:UcOne Tryz.prog 16 (nG LY):=by
 refine jR (H:=H19) (X:=jaF) h19 jqh 10 16 ?_;intro args r h;exact jqK h
noncomputable def Gat (args0:List A1) (r0:AV):List A1->Option (Bool × AV):=fun args=>bif dec (args=args0) then some (true,r0) else none
theorem jgQ {args0 args:List A1} {r0 r:AV} (h:Gat args0 r0 args=some (true,r)):args=args0∧r=r0:=by
 unfold Gat at h;cases hd:dec (args=args0) with
 | false=>rw [hd] at h;cases h
 | true=>rw [hd] at h;exact ⟨js.1 hd,(congrArg Prod.snd (Option.some.inj h)).symm⟩
theorem jpg (args0:List A1) (r0:AV):(nG (Gat args0 r0) args0).sel=some r0:=by
 have:Gat args0 r0 args0=some (true,r0):=by
  unfold Gat;rw [js.2 rfl];rfl
 unfold nG;rw [this];rfl
theorem UcOne.at {P : Program} {f : Nat} {args0 : List A1} {r0 : AV} (h : UcOne P f (nG (Gat args0 r0))) (hc : args0.all jx = true) {G : List A1 -> Option (Bool × AV)}
  (hg:∀ args r,G args=some (true,r)->r=r0∧∀ F w vs,All2 (A1.Rel F w []) args vs->All2 (A1.Rel F w []) args0 vs):UcOne P f (nG G):=by
 intro args r hs hcl F w vs hargs;obtain ⟨rfl,hw⟩:=hg args r (zA hs);exact h args0 r (jpg args0 r) hc F w vs (hw F w vs hargs)
def jn1:ByteArray:=bs [114,117,110,98,111,111,107,32,98,111,111,107,32,123,32,35,32,115,116,101,112,115,32,97,110,100,32,119,104,97,116,32,117,110,100,111,101,115,32,116,104,101,109,10,100,111,32,100,111,119,110,32,115,48,32,117,110,100,111,32,123,32,100,111,32,117,112,32,115,48,32,59,32,125,32,59,10,100,111,32,100,111,119,110,32,115,49,32,117,110,100,111,32,123,32,100,111,32,117,112,32,115,49,32,59,32,125,32,59,10,125]
def jbf:AV:=.tup [.c (.str jn1),.c .any,.c (.int .i64 2)]
def jeM:List A1:=[.agg [.sl [.int .u8] 2 (Val.ofFlat 1 [.int .u8 0,.int .u8 2]),.int .u8 63,.any]]
noncomputable abbrev jeH:Hd:=⟨[],[],Bf Tryz.prog HU 6 [(12,0),(11,0)],[]⟩
theorem jrb:HdOk Tryz.prog jeH:=UJ HdOk.nil HdOk.nil 6 [(12,0),(11,0)]
def jcc:AV->Bool
 | .tup [.c (.str s),.c (.sl _ _ _),.c (.int .i64 n)]=>jb s jn1&&n==2
 | _=>false
theorem jgc:((j5 Tryz.prog jeH 10 11 jeM).sel.map jcc)=some true:=by kernel_rfl
theorem jf8 {z:AV} (h:jcc z=true):leA z jbf:=by
 unfold jcc at h;split at h
 ·rename_i s es n ρ k;rw [aTq] at h;have h1:=Jq h.1;have h2:k=2:=by simpa using h.2
  rw [h1,h2];exact QS (.cons (.c leC.refl) (.cons (.c qZ) (.cons (.c leC.refl) .nil)))
 ·cases h
theorem jpm:UcOne Tryz.prog 11 (nG (Gat jeM jbf)):=Jo jrb 10 11 fun args r h=>by
 obtain ⟨e1,e2⟩:=jgQ h
 have:=jgc
 cases hz:(j5 Tryz.prog jeH 10 11 jeM).sel with
 | none=>rw [hz] at this;cases this
 | some z =>
   rw [hz] at this;refine ⟨z,?_,?_⟩
   ·rw [e1];exact hz
   ·rw [e2];exact jf8 (Option.some.inj this)
def jhA (n:Nat) (ξ:Val) (b:Int):Bool:=Nat.beq n 2&&b==63&&((ξ.at 0).at 0).N []==0&&((ξ.at 1).at 0).N []==2
def jb2:List A1->Option (Bool × AV)
 | [.agg [.sl [.int .u8] n ξ,.int .u8 b,.sl [.int .i64] _ _]]=>if jhA n ξ b then some (true,jbf) else none
 | _=>none
theorem jc0 {args:List A1} {r:AV} (h:jb2 args=some (true,r)):∃ ξ q τ,args=[.agg [.sl [.int .u8] 2 ξ,.int .u8 63,.sl [.int .i64] q τ]]∧((ξ.at 0).at 0).N []=0∧((ξ.at 1).at 0).N []=2∧r=jbf:=by
 unfold jb2 at h;split at h
 ·rename_i n ξ b q τ;cases hc:jhA n ξ b with
  | false=>rw [hc] at h;cases h
  | true =>
    rw [hc] at h;unfold jhA at hc;simp only [aTq,beq_iff_eq] at hc;obtain ⟨⟨⟨h1,h2⟩,h3⟩,h4⟩:=hc;have h1:=eBq h1;exact ⟨ξ,q,τ,by rw [h1,h2],h3,h4,(congrArg Prod.snd (Option.some.inj h)).symm⟩
 ·cases h
theorem jqu:UcOne Tryz.prog 11 (nG jb2):=UcOne.at jpm rfl fun args r h=>by
 obtain ⟨ξ,q,τ,e,h1,h2,hr⟩:=jc0 h;refine ⟨hr,fun F w vs hargs => ?_⟩;rw [e] at hargs;cases hargs with
 | cons ha hn =>
   cases hn;obtain ⟨us,rfl,hu⟩:=ha;refine .cons ⟨us,rfl,?_⟩ .nil;cases hu with
  | cons k1 k2=>cases k2 with
   | cons k2 k3=>cases k3 with
    | cons k3 k4 =>
      cases k4;refine .cons ?_ (.cons k2 (.cons (.any k3.one) .nil));refine Br (fun i f s hi hs => ?_) _ _ _ k1;cases f with
     | succ f=>simp [nth] at hs
     | zero =>
       simp only [nth,sIq] at hs;subst hs
       match i,hi with
      | 0,_=>show CV.int .u8 (((ξ.at 0).at 0).N [])=CV.int .u8 0;rw [h1]
      | 1,_=>show CV.int .u8 (((ξ.at 1).at 0).N [])=CV.int .u8 2;rw [h2]
noncomputable abbrev joj:Hd:=⟨[],[(8,nG G8F),(15,nG (G15 joI)),(12,nG Ta),(16,nG LY),(11,nG jb2)],[],[]⟩
theorem jrC:HdOk Tryz.prog joj:=((((HdOk.nil.ucCons jqu).ucCons jmu).ucCons joP).ucCons jpJ).ucCons (p8F 100 20 20 20 (by decide +kernel))
theorem jfP:(j5 Tryz.prog joj 10 10 []).sel=some (jF true):=by kernel_rfl
theorem jqi:UcOne Tryz.prog 10 (nG G7):=Jo jrC 10 10 fun args r h=>by
 obtain ⟨e1,e2⟩:=jlc h;refine ⟨jF true,?_,?_⟩
 ·rw [e1];exact jfP
 ·rw [e2];exact leA.refl
structure CPt where
 n:Nat
 ξ:Val
 b:Int
 m:Nat
 τ:Val
 k:Nat
 ρ:Val
 t:ByteArray
 s:Int
 i:Int
def jbO (x:CPt):St:=mkS 116 [(1,.one (.c (.ptr 0 0))),(5,.one (.c (.os 1 8))),(6,.one (.c (.str x.t))),(7,.one (.c (.int .i64 x.s))),(8,.one (.c (.int .i64 x.i)))]
 [some (36,[.sl [.int .u8] x.n x.ξ,.int .u8 x.b,.sl [.int .i64] x.m x.τ]),some (53,[.row false Ro.siSh x.k x.ρ])]
def TV (l:List (Nat × AV)) (m:Mem):Option CPt:=match l,m with
 | [(1, .one (.c (.ptr 0 0))), (5, .one (.c (.os 1 8))), (6, .one (.c (.str t))), (7, .one (.c (.int .i64 s))), (8, .one (.c (.int .i64 i)))],
   [some (36,[.sl [.int .u8] n ξ,.int .u8 b,.sl [.int .i64] q τ]),some (53,[.row false es k ρ])]=>if shEq.shsEq es Ro.siSh then some ⟨n,ξ,b,q,τ,k,ρ,t,s,i⟩ else none
 | _,_=>none
theorem jcH:∀ l m c,TV l m=some c->mkS 116 l m=jbO c:=by
 intro l m c h;unfold TV at h;split at h
 ·split at h
  ·rename_i hs;cases h;rw [jj hs];rfl
  ·cases h
 ·cases h
structure DPt where
 k:Nat
 ρ:Val
 t:ByteArray
 s:Int
def jaf (x:DPt):St:=mkS 116 [(5,.one (.c (.os 0 8))),(6,.one (.c (.str x.t))),(7,.one (.c (.int .i64 x.s)))] [some (53,[.row false Ro.siSh x.k x.ρ])]
def Iq (l:List (Nat × AV)) (m:Mem):Option DPt:=match l,m with
 | [(5,.one (.c (.os 0 8))),(6,.one (.c (.str t))),(7,.one (.c (.int .i64 s)))],[some (53,[.row false es k ρ])]=>if shEq.shsEq es Ro.siSh then some ⟨k,ρ,t,s⟩ else none
 | _,_=>none
theorem jdW:∀ l m c,Iq l m=some c->mkS 116 l m=jaf c:=by
 intro l m c h;unfold Iq at h;split at h
 ·split at h
  ·rename_i hs;cases h;rw [jj hs];rfl
  ·cases h
 ·cases h
def APt:Sx.Frame CPt DPt:=⟨0,116,[1,5,6,7,8],TV,jbO,[5,6,7],Iq,jaf⟩
theorem aPt:APt.Ok:=.of_eq jcH jdW
def qu (a b:ByteArray):Bool:=Nat.ble (a.size+b.size) 9223372036854775807
def bA (ξ:Val) (i:Int):Int:=((ξ.at i.toNat).at 0).N []
def kA (ξ:Val) (i:Int):Int:=IntKind.wrap .i64 ((IntKind.wrap .u8 ((bA ξ i).tdiv 2)).tmod 3)
def tA3 (ξ:Val) (i:Int):Int:=(IntKind.wrap .u8 ((bA ξ i).tdiv 6)).tmod 3
def Dg (n:Int):ByteArray:=Sx.encI (IntKind.wrap .i32 (IntKind.wrap .i64 (48+n)))
def Ik:ByteArray:=bs [100,111,32]
def TU:ByteArray:=bs [32,115]
def wUB:ByteArray:=bs [117,110,100,111,32,123,32,100,111,32]
def wEB:ByteArray:=bs [59,32,125,32,59]
def wNl:ByteArray:=bs [10]
def WA:ByteArray:=bs [105,102,32,115,105,116,101,115,32,61,32,51,32,97,110,100,32,110,111,116,32,49,32,61,32,50,32,123]
def GF:ByteArray:=bs [125,32,101,108,115,101,32,123,32,115,97,121,32,110,101,118,101,114,32,59,32,125,10]
def WV:ByteArray:=bs [114,101,112,101,97,116,32,50,32,123,32]
def wRE:ByteArray:=bs [32,125,10]
def wHd:ByteArray:=bs [114,117,110,98,111,111,107,32,98,111,111,107,32,123,32,35,32,115,116,101,112,115,32,97,110,100,32,119,104,97,116,32,117,110,100,111,101,115,32,116,104,101,109,10]
def VH (k:Int):ByteArray:=jn (jn TU (Dg k)) spc
def jrc (on th off:ByteArray):ByteArray:=jn (jn (jn (jn (jn (jn Ik on) th) wUB) off) th) wEB
def VS (x:CPt) (f:Nat) (p:ByteArray) (d:Int):CPt:={ x with ρ:=x.ρ.upds (kA x.ξ x.i).toNat f [.bool (!(((x.ρ.at (kA x.ξ x.i).toNat).at f).B []))],t:=jn x.t p,s:=IntKind.wrap .i64 (x.s+d),i:=IntKind.wrap .i64 (x.i+1) }
def UI (g:CPt->Tree (XE × DPt)) (x:CPt) (f:Nat) (th on off:ByteArray):Tree (XE × DPt) :=
 let s1:=jn Ik on
 let s2:=jn s1 th
 let s3:=jn s2 wUB
 let s4:=jn s3 off
 let s5:=jn s4 th
 let st:=jn s5 wEB
 .need (qu Ik on) (.need (qu s1 th) (.need (qu s2 wUB) (.need (qu s3 off) (.need (qu s4 th) (.need (qu s5 wEB) (.need (jc x.i x.n) (.need true (.need true
  (.br (tA3 x.ξ x.i==0) (.need (qu st wNl) (.need (qu x.t (jn st wNl)) (g (VS x f (jn st wNl) 1))))
  (.br (tA3 x.ξ x.i==1) (.need (qu WA st) (.need (qu (jn WA st) GF) (.need (qu x.t (jn (jn WA st) GF)) (g (VS x f (jn (jn WA st) GF) 1)))))
  (.need (qu WV st) (.need (qu (jn WV st) wRE) (.need (qu x.t (jn (jn WV st) wRE)) (g (VS x f (jn (jn WV st) wRE) 2)))))))))))))))
def jgu (x:CPt):DPt:=⟨x.k,x.ρ,x.t,x.s⟩
def rPt (g:CPt->Tree (XE × DPt)) (x:CPt):Tree (XE × DPt) :=
 let k:=kA x.ξ x.i
 let th:=VH k
 .br (lt x.i (ja x.n)) (.need (jc x.i x.n) (.need true (.need true (.need (qu TU (Dg k)) (.need (qu (jn TU (Dg k)) spc) (.need (jc k x.k) (.need (jc x.i x.n) (.need true (.br ((bA x.ξ x.i).tmod 2==0)
  (.need (jc k x.k) (.need (jc k x.k) (.br (((x.ρ.at k.toNat).at 6).B []) (UI g x 6 th ZR wUp) (UI g x 6 th wUp ZR))))
  (.need (jc k x.k) (.br (((x.ρ.at k.toNat).at 7).B []) (UI g x 7 th zJ zP) (UI g x 7 th zP zJ)))))))))))) (.leaf (.exit 0,jgu x))
noncomputable abbrev jfL:Hd:=⟨[lK],[],[],[]⟩
theorem jm9:HdOk Tryz.prog jfL:=HdOk.lK HdOk.nil
theorem jnw (g:CPt->Tree (XE × DPt)) (x:CPt):Xo APt Tryz.prog jfL 10 11 0 g x=rPt g x:=by kernel_rfl
theorem jJ {α:Type} {c:Bool} {t:Tree α} {y:α} (h:(Tree.need c t).sel=some y):c=true∧t.sel=some y:=by
 cases c with
 | false=>cases h
 | true=>exact ⟨rfl,h⟩
theorem YH {α:Type} {c:Bool} {t e:Tree α} {y:α} (h:(Tree.br c t e).sel=some y):(c=true∧t.sel=some y)∨(c=false∧e.sel=some y):=by
 cases c with
 | false=>exact .inr ⟨rfl,h⟩
 | true=>exact .inl ⟨rfl,h⟩
def gPt:Nat->CPt->Tree (XE × DPt)
 | 0,_=>.fail
 | k+1,x=>rPt (gPt k) x
theorem Vb:∀ k x y,(gPt k x).sel=some y->y.1=.exit 0
 | 0,_,_,h=>by cases h
 | k + 1, x, y, h => by
   have hs:∀ (f:Nat) (th on off:ByteArray),(UI (gPt k) x f th on off).sel=some y->y.1=.exit 0:=by
    intro f th on off h;unfold UI at h;obtain ⟨_,h⟩:=jJ h;obtain ⟨_,h⟩:=jJ h;obtain ⟨_,h⟩:=jJ h;obtain ⟨_,h⟩:=jJ h;obtain ⟨_,h⟩:=jJ h;obtain ⟨_,h⟩:=jJ h;obtain ⟨_,h⟩:=jJ h;obtain ⟨_,h⟩:=jJ h;obtain ⟨_,h⟩:=jJ h;rcases YH h with ⟨_,h⟩ | ⟨_,h⟩
    ·obtain ⟨_,h⟩:=jJ h;obtain ⟨_,h⟩:=jJ h;exact Vb k _ _ h
    ·rcases YH h with ⟨_,h⟩ | ⟨_,h⟩
     ·obtain ⟨_,h⟩:=jJ h;obtain ⟨_,h⟩:=jJ h;obtain ⟨_,h⟩:=jJ h;exact Vb k _ _ h
     ·obtain ⟨_,h⟩:=jJ h;obtain ⟨_,h⟩:=jJ h;obtain ⟨_,h⟩:=jJ h;exact Vb k _ _ h
   have h:(rPt (gPt k) x).sel=some y:=h;unfold rPt at h;rcases YH h with ⟨_,h⟩ | ⟨_,h⟩
   ·obtain ⟨_,h⟩:=jJ h;obtain ⟨_,h⟩:=jJ h;obtain ⟨_,h⟩:=jJ h;obtain ⟨_,h⟩:=jJ h;obtain ⟨_,h⟩:=jJ h;obtain ⟨_,h⟩:=jJ h;obtain ⟨_,h⟩:=jJ h;obtain ⟨_,h⟩:=jJ h;rcases YH h with ⟨_,h⟩ | ⟨_,h⟩
    ·obtain ⟨_,h⟩:=jJ h;obtain ⟨_,h⟩:=jJ h;rcases YH h with ⟨_,h⟩ | ⟨_,h⟩<;>exact hs _ _ _ _ h
    ·obtain ⟨_,h⟩:=jJ h;rcases YH h with ⟨_,h⟩ | ⟨_,h⟩<;>exact hs _ _ _ _ h
   ·cases h;rfl
theorem jmf:∀ k,LCore Tryz.prog 11 0 0 jbO jaf (gPt k) :=
 LCore.fuel (A:=APt) aPt jm9 10 (fun _=>rfl) (fun k c x h=>by rw [jnw];exact h)
def ptO (x:CPt):Option DPt:=(gPt (x.n+1) x).sel.map (·.2)
def dP0:DPt:=⟨0,.zero,bs [],0⟩
def gPo (x:CPt):Tree (XE × DPt):=.need (os1 (ptO x)) (.leaf (.exit 0,ov1 dP0 (ptO x)))
theorem jlU:LCore Tryz.prog 11 0 0 jbO jaf gPo:=fun fn c b h1 h2 h3 c0 x hx=>jmf (c0.n+1) fn c b h1 h2 h3 c0 x (by
 unfold gPo ptO at hx;cases hs:(gPt (c0.n+1) c0).sel with
 | none=>rw [hs] at hx;cases hx
 | some y =>
   rw [hs] at hx;cases hx
   have:=Vb _ _ _ hs
   obtain ⟨y1,y2⟩:=y;simp only at this;subst this;rfl)
noncomputable abbrev jmO:Hd:=⟨[],[],((11,0),Rk APt gPo)::Bf Tryz.prog jfL 5 [(12,0)],[]⟩
theorem jrZ:HdOk Tryz.prog jmO:=HdOk.lhCons (UJ HdOk.nil jm9 5 _) fun fn c b h1 h2 h3=>LCore.ok (A:=APt) aPt jlU fn c b h1 h2 h3
def R7 (n:Nat) (ξ:Val) (b:Int) (m:Nat) (τ:Val):CPt:=⟨n,ξ,b,m,τ,3,y5 b,wHd,0,0⟩
def jl0 (d:DPt):AV:=.tup [.c (.str (jn d.t wEnd)),.c (.sl Ro.siSh d.k d.ρ),.c (.int .i64 d.s)]
def jnP (n:Nat) (ξ:Val) (b:Int) (m:Nat) (τ:Val):Tree AV :=
 let o:=ptO (R7 n ξ b m τ)
 .need (os1 o) (.need (qu (ov1 dP0 o).t wEnd) (.leaf (jl0 (ov1 dP0 o))))
theorem jla (n:Nat) (ξ:Val) (b:Int) (m:Nat) (τ:Val):(j5 Tryz.prog jmO 10 11 [.agg [.sl [.int .u8] n ξ,.int .u8 b,.sl [.int .i64] m τ]]).sel=(jnP n ξ b m τ).sel:=by kernel_rfl
def qG (n:Nat) (ξ:Val) (b:Int) (m:Nat) (τ:Val):Option DPt:=(ptO (R7 n ξ b m τ)).bind fun d=>nd (qu d.t wEnd) (some d)
abbrev PyF:=Nat->Val->Int->Nat->Val->Option DPt
def G11 (T:PyF):List A1->Option (Bool × AV)
 | [.agg [.sl [.int .u8] n ξ,.int .u8 b,.sl [.int .i64] m τ]]=>some (os1 (T n ξ b m τ),jl0 (ov1 dP0 (T n ξ b m τ)))
 | _=>none
theorem jqF:UcOne Tryz.prog 11 (nG (G11 qG)):=Jo jrZ 10 11 fun args r h=>by
 unfold G11 at h;split at h
 ·rename_i n ξ b m τ;simp only [sIq,pIq] at h;obtain ⟨h1,rfl⟩:=h;refine ⟨_,?_,leA.refl⟩;rw [jla];unfold jnP;unfold qG at h1 ⊢;revert h1;cases ptO (R7 n ξ b m τ) with
  | none=>exact fun h=>by cases h
  | some d =>
    simp only [Option.bind,os1,ov1,jG,cond_true];cases qu d.t wEnd with
   | false=>exact fun h=>by cases h
   | true=>exact fun _=>rfl
 ·cases h
def hdK:Nat × (List A1->Tree AV):=(4294967291,fun _=>.fail)
def tlK:Nat × (List A1->Tree AV):=(4294967293,fun _=>.fail)
theorem HdOk.hdK {P:Program} {pc hc lh mc} (h:HdOk P ⟨pc,hc,lh,mc⟩):HdOk P ⟨hdK::pc,hc,lh,mc⟩:=h.tcCons (f:=4294967291) (fun _ _ h=>by simp [Tree.sel] at h)
theorem HdOk.tlK {P:Program} {pc hc lh mc} (h:HdOk P ⟨pc,hc,lh,mc⟩):HdOk P ⟨tlK::pc,hc,lh,mc⟩:=h.tcCons (f:=4294967293) (fun _ _ h=>by simp [Tree.sel] at h)
noncomputable abbrev jl3:Hd:=⟨[hdK,tlK],[],[],[]⟩
theorem jqY:HdOk Tryz.prog jl3:=HdOk.hdK (HdOk.tlK HdOk.nil)
noncomputable abbrev H97:Hd:=⟨[],[],Bf Tryz.prog jl3 4 [(97,0)],[]⟩
theorem h97:HdOk Tryz.prog H97:=UJ HdOk.nil jqY 4 _
def z97:Val:=.byFst fun _=>Val.ofCs [.nils]
def R1 (κ:Val):Val:=splice 0 (Nat.min 1 (2 - 0)) z97 κ
def R2 (κ:Val):Val:=splice 1 (Nat.min 1 (2 - 1)) (R1 κ) (R1 κ)
theorem jhO (κ:Val):(j5 Tryz.prog H97 10 97 [.c (.sl [.rt 1] 1 κ),.c (.int .i64 2)]).sel=some (.one (.c (.sl [.rt 1] 2 (R2 κ)))):=by kernel_rfl
def jeQ:RpF:=fun m κ c=>bif Nat.beq m 1&&c==2 then some (2,R2 κ) else none
theorem p97:UcOne Tryz.prog 97 (nG (al jeQ)):=Jo h97 10 97 fun args r h=>by
 unfold al at h;split at h
 ·rename_i m κ c;unfold jeQ at h;cases hc:(Nat.beq m 1&&c==2) with
  | false =>
    rw [hc] at h;simp only [cond_false,sIq,pIq] at h;cases h.1
  | true =>
    rw [hc] at h;rw [aTq,beq_iff_eq] at hc;obtain ⟨h1,rfl⟩:=hc;have h1:=eBq h1;subst h1;simp only [cond_true,sIq,pIq] at h;obtain ⟨_,rfl⟩:=h;exact ⟨_,jhO κ,leA.refl⟩
 ·cases h
def P2:Par:=⟨Qt NW,Bz 20,jeQ⟩
theorem jqr:ParOk P2:=⟨jpb,jof 20,p97⟩
def k8:ChF:=X9 40 10001
def Ha:BF:=We P2 20
def JF:Us:=WR k8 Ha
theorem jog:UcOne Tryz.prog 14 (nG (G29 k8)):=p29 40 10001
theorem jqJ:UcOne Tryz.prog 15 (nG (G15 JF)):=p15 jog (m52 jqr 20)
end Go.Proofs.YtiefjlcakpdfeaaGreatDoor