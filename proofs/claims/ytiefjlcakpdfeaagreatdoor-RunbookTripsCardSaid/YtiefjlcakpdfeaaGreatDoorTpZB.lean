/-
 Part TpZB of the proof: RcL RcM RcN EngCt RuA.
-/
import Derived.Test.YtiefjlcakpdfeaaGreatDoorTpZA
import Derived.Test.YtiefjlcakpdfeaaGreatDoorTpY
namespace Go.Proofs.YtiefjlcakpdfeaaGreatDoor
open Go Go.Sx Go.RowKit Rb
set_option maxRecDepth 100000
structure DBk where
 e:Int
 a:Int
 kn:Nat
 kρ:Val
 x:RU
abbrev CBk:=DBk × Int
def U9:Nat->List CV
 | 0=>[]
 | n+1=>.any::U9 n
def lpC (e a:Int):List CV:=[.any,.any,.any,.any,.any,.any,.any,.any,.any,.any,.any,.any,.ptr 2 0,.int .i64 e,.int .i64 a]++U9 61
def jdQ (d:DBk):Mem:=[some (24,[.any,.any]),some (86,[.sl Ro.siSh d.x.sn d.x.sρ,.sl [.int .i64] d.x.cn d.x.cρ,.os 10 1,.any,.bool true,.int .i64 d.x.bg,.int .i64 d.x.at_]),some (82,[.ptr 1 0]),none,none,none,none,
 some (22,[.row false [.rt 1] d.kn d.kρ]),some (84,[.os 7 1]),some (0,.lp 15 0 .ready::lpC d.e d.a),some (9,[.row false [.str] d.x.pn d.x.pρ])]
def SB9 (c:CBk):St:=mkS 19 [(0,.one (.c (.yld 9))),(1,.one (.c (.ptr 8 0))),(3,.one (.c (.int .i64 c.2)))] (jdQ c.1)
def EB9 (d:DBk):St:=mkS 19 [] (jdQ d)
def lpE:List CV->Option (Int × Int)
 | _::_::_::_::_::_::_::_::_::_::_::_::.ptr 2 0::.int .i64 e::.int .i64 a::r=>if Nat.beq r.length 61 then some (e,a) else none
 | _=>none
def Ra (cs:List CV):Bool:=cs.all closedC&&Nat.beq cs.length 2&&!je cs
def Lq:Mem->Option DBk
 | [some (24, c25), some (86, [c0, c1, .os 10 1, _, .bool true, .int .i64 bg, .int .i64 at_]), some (82, [.ptr 1 0]), none, none, none, none, some (22, [.row false [.rt 1] kn kρ]), some (84, [.os 7 1]), some (0, .lp 15 0 .ready :: cells), some (9, [.row false [.str] pn pρ])] =>
   if Ra c25 then (match plC Ro.siSh c0,plC [.int .i64] c1,lpE cells with
    | some (sn,sρ),some (cn,cρ),some (e,a)=>some ⟨e,a,kn,kρ,⟨sn,sρ,cn,cρ,pn,pρ,0,.zero,bg,at_⟩⟩
    | _,_,_=>none) else none
 | _=>none
theorem jbr {m : Mem} {d : DBk} (h : Lq m = some d) : ∃ c25 c0 c1 c3 cells, Ra c25 = true ∧ plC Ro.siSh c0 = some (d.x.sn, d.x.sρ) ∧ plC [.int .i64] c1 = some (d.x.cn, d.x.cρ) ∧ lpE cells = some (d.e, d.a) ∧
  m=[some (24,c25),some (86,[c0,c1,.os 10 1,c3,.bool true,.int .i64 d.x.bg,.int .i64 d.x.at_]),some (82,[.ptr 1 0]),none,none,none,none,some (22,[.row false [.rt 1] d.kn d.kρ]),some (84,[.os 7 1]),some (0,.lp 15 0 .ready::cells),some (9,[.row false [.str] d.x.pn d.x.pρ])]:=by
 unfold Lq at h;split at h
 ·split at h
  ·rename_i hf;split at h
   ·rename_i h0 h1 h2;cases h;exact ⟨_,_,_,_,_,hf,h0,h1,h2,rfl⟩
   ·cases h
  ·cases h
 ·cases h
theorem ON:∀ {n j:Nat} {d:CV},nth (U9 n) j=some d->yt d=true
 | 0,_,_,h=>by simp [U9,nth] at h
 | n+1,0,d,h=>by simp only [U9,nth,sIq] at h;subst h;rfl
 | n+1,j+1,d,h=>ON (n:=n) (j:=j) h
theorem jm2 {cells:List CV} {e a:Int} (h:lpE cells=some (e,a)):(lpC e a).length=cells.length∧∀ j d,nth (lpC e a) j=some d->yt d=true∨nth cells j=some d:=by
 unfold lpE at h;split at h
 ·split at h
  ·rename_i r hr;have hr:=Nat.eq_of_beq_eq_true hr;cases h;refine ⟨by simp [lpC,U9,hr],fun j d hj => ?_⟩
   match j,hj with
   | 0,hj=>cases hj;exact .inl rfl
   | 1,hj=>cases hj;exact .inl rfl
   | 2,hj=>cases hj;exact .inl rfl
   | 3,hj=>cases hj;exact .inl rfl
   | 4,hj=>cases hj;exact .inl rfl
   | 5,hj=>cases hj;exact .inl rfl
   | 6,hj=>cases hj;exact .inl rfl
   | 7,hj=>cases hj;exact .inl rfl
   | 8,hj=>cases hj;exact .inl rfl
   | 9,hj=>cases hj;exact .inl rfl
   | 10,hj=>cases hj;exact .inl rfl
   | 11,hj=>cases hj;exact .inl rfl
   | 12,hj=>cases hj;exact .inr rfl
   | 13,hj=>cases hj;exact .inr rfl
   | 14,hj=>cases hj;exact .inr rfl
   | j+15,hj=>exact .inl (ON (n:=61) (j:=j) hj)
  ·cases h
 ·cases h
theorem je9 {cs:List CV} (h:Ra cs=true):cs.all closedC=true∧je cs=false∧LeL cs [.any,.any]:=by
 simp only [Ra,aTq,Bool.not_eq_true'] at h;obtain ⟨⟨h1,h2⟩,h3⟩:=h;have h2:=Nat.eq_of_beq_eq_true h2;refine ⟨h1,h3,?_⟩
 match cs,h2 with
 | [a,b],_=>exact .cons zC (.cons zC .nil)
theorem TD {m:Mem} {d:DBk} (h:Lq m=some d) (P:Program) (F:Nat->Prop) (w:World) (bs:List BI) (hm:MemRel P F w bs m):MemRel P F w bs (jdQ d):=by
 obtain ⟨c25,c0,c1,c3,cells,hf,h0,h1,h2,rfl⟩:=jbr h;obtain ⟨a1,a2,a3⟩:=je9 hf;have k1:=hm.cellsTo (b:=1) (T:=86) rfl (XN h0 _) (ds:=[.sl Ro.siSh d.x.sn d.x.sρ,.sl [.int .i64] d.x.cn d.x.cρ,.os 10 1,.any,.bool true,.int .i64 d.x.bg,.int .i64 d.x.at_]) rfl fun _ _ _ _ h=>(RV (fun _ hv=>XL h0 hv) (fun _ hv=>XL h1 hv) h).setAny 3;have k2:=kS (b:=0) rfl a2 a1 a3 rfl rfl P F w bs k1;obtain ⟨b1,b2⟩:=jm2 h2;exact k2.lpWk (b:=9) rfl b1 b2
def jaz (l:List (Nat × AV)) (m:Mem):Option CBk:=match l with
 | [(0,.one (.c (.yld 9))),(1,.one (.c (.ptr 8 0))),(3,.one (.c (.int .i64 i)))]=>(match Lq m with
  | some d=>some (d,i)
  | none=>none)
 | _=>none
def jbQ (l:List (Nat × AV)) (m:Mem):Option DBk:=match l with
 | []=>Lq m
 | _=>none
theorem jgd:∀ l m c,jaz l m=some c->StWk (mkS 19 l m) (SB9 c):=by
 intro l m c h;unfold jaz at h;split at h
 ·split at h
  ·rename_i hd;cases h;exact kz LeSl.refl (TD hd)
  ·cases h
 ·cases h
theorem jeP:∀ l m c,jbQ l m=some c->StWk (mkS 19 l m) (EB9 c):=by
 intro l m c h;unfold jbQ at h;split at h
 ·exact kz LeSl.refl (TD h)
 ·cases h
def AB9:Sx.Frame CBk DBk:=⟨10,19,[0,1,3],jaz,SB9,[],jbQ,EB9⟩
theorem aB9:AB9.Ok:=⟨jgd,jeP⟩
def jj4 (B:BF) (g:CBk->Tree (XE × DBk)) (c:CBk):Tree (XE × DBk) :=
 let o:=B true (Nj c.1.kρ c.2) (LD c.1.kρ c.2) (nk true c.1.x)
 let y:=ov1 (0,rU0) o
 let d:DBk:={ c.1 with x:=nk true y.2 }
 .br (le 0 c.2) (.need (jc c.2 c.1.kn) (.need (os1 o) (.br (!true) (.leaf (.ret,d)) (g (d,IntKind.wrap .i64 (c.2 - 1)))))) (.leaf (.exit 0,{ c.1 with x:=nk true c.1.x }))
theorem jjh (C:ChF) (B:BF) (g:CBk->Tree (XE × DBk)) (c:CBk):yV AB9 Tryz.prog (H15 C B) 10 73 0 g c=jj4 B g c:=by kernel_rfl
def KP (B:BF) (kn:Nat) (kρ:Val):Nat->Int->RU->Option RU
 | 0,_,_=>none
 | k+1,i,x=>bif le 0 i then nd (jc i kn) ((B true (Nj kρ i) (LD kρ i) (nk true x)).bind fun y=>KP B kn kρ k (IntKind.wrap .i64 (i - 1)) (nk true y.2)) else some (nk true x)
def gB9 (B:BF) (k:Nat) (c:CBk):Tree (XE × DBk) :=
 let o:=KP B c.1.kn c.1.kρ k c.2 c.1.x
 .need (os1 o) (.leaf (.exit 0,{ c.1 with x:=ov1 rU0 o }))
theorem Mi (B:BF) (k:Nat) (c:CBk):(gB9 B k c).sel=(KP B c.1.kn c.1.kρ k c.2 c.1.x).bind fun x=>some (.exit 0,{ c.1 with x:=x }):=by
 unfold gB9;cases KP B c.1.kn c.1.kρ k c.2 c.1.x<;>rfl
theorem jlU (C:ChF) (B:BF) (k:Nat) (c:CBk) (x:XE × DBk) (h:(gB9 B (k+1) c).sel=some x):(yV AB9 Tryz.prog (H15 C B) 10 73 0 (gB9 B k) c).sel=some x:=by
 rw [jjh];rw [Mi] at h;unfold KP at h;unfold jj4;simp only [qg,jG,j0,Mi];revert h;cases le 0 c.2 with
 | false=>exact fun h=>h
 | true =>
 cases jc c.2 c.1.kn with
 | false=>exact fun h=>h
 | true =>
 simp only [nd,cond_true];cases B true (Nj c.1.kρ c.2) (LD c.1.kρ c.2) (nk true c.1.x) with
 | none=>exact fun h=>h
 | some y=>exact fun h=>h
theorem jkU {C:ChF} (hC:jo Tryz.prog 14 (nG (G29 C))) {B:BF} (hB:js Tryz.prog 38 (zE (u52 B))):∀ k,LCore Tryz.prog 73 0 10 SB9 EB9 (gB9 B k) :=
 LCore.fuel (A:=AB9) aB9 (h15 hC hB) 10 (fun _=>rfl) (jlU C B)
def jj9 (B:BF) (c:CBk):Tree (XE × DBk):=gB9 B (c.1.kn+1) c
theorem ji2 {C:ChF} (hC:jo Tryz.prog 14 (nG (G29 C))) {B:BF} (hB:js Tryz.prog 38 (zE (u52 B))):LCore Tryz.prog 73 0 10 SB9 EB9 (jj9 B):=fun fn c b h1 h2 h3 c0 x hx=>jkU hC hB _ fn c b h1 h2 h3 c0 x hx
def LB9 (B:BF):Nat->St->Tree (XE × St):=jg4 1 2 (K4 AB9 (jj9 B))
noncomputable abbrev HR (C:ChF) (B:BF):Hd:=⟨[],[(14,nG (G29 C)),(37,nG jaQ)],[((73,0),LB9 B)],[(38,zE (u52 B))]⟩
theorem hR {C:ChF} (hC:jo Tryz.prog 14 (nG (G29 C))) {B:BF} (hB:js Tryz.prog 38 (zE (u52 B))):HdOk Tryz.prog (HR C B) :=
 HdOk.lhCons (h15 hC hB) fun fn c b h1 h2 h3=>jd9 1 2 (LCore.ok (A:=AB9) aB9 (ji2 hC hB) fn c b h1 h2 h3)
structure RunR where
 sn:Nat
 sρ:Val
 pn:Nat
 pρ:Val
 a:Int
 e:Int
def rr0:RunR:=⟨0,.zero,0,.zero,0,0⟩
def Wh (x:RunR):AV:=.tup [.c (.sl Ro.siSh x.sn x.sρ),.c (.sl [.str] x.pn x.pρ),.c (.int .i64 x.a),.c (.int .i64 x.e)]
abbrev jgK:=ByteArray->Nat->Val->Nat->Val->Nat->Val->Option RunR
def jd3 (n:Nat) (ρ:Val) (q:Nat) (τ:Val):RU:=⟨n,ρ,q,τ,0,.zero,0,.zero,0,0⟩
def NP (x:RU):RU:=⟨x.sn,x.sρ,x.cn,x.cρ,x.pn,x.pρ,0,.zero,0,x.at_⟩
def NK (C:ChF) (B:BF):jgK:=fun name m κ n ρ q τ =>
 (C name m κ n ρ).bind fun c=>bif c.2 != 0 then some ⟨0,.zero,0,.zero,c.1,c.2⟩ else nd (yQ n ρ) ((B false m κ (jd3 n ρ q τ)).bind fun y =>
  bif y.1==0 then some ⟨y.2.sn,y.2.sρ,y.2.pn,y.2.pρ,0,0⟩ else (KP B y.2.kn y.2.kρ (y.2.kn+1) (IntKind.wrap .i64 (ja y.2.kn - 1)) (NP y.2)).bind fun z=>some ⟨z.sn,z.sρ,z.pn,z.pρ,y.2.at_,y.1⟩)
def t15 (C:ChF) (B:BF) (name:ByteArray) (m:Nat) (κ:Val) (n:Nat) (ρ:Val) (q:Nat) (τ:Val):Tree AV :=
 let c:=C name m κ n ρ
 let cv:=ov1 (0,0) c
 let b:=B false m κ (jd3 n ρ q τ)
 let y:=ov1 (0,rU0) b
 let z:=KP B y.2.kn y.2.kρ (y.2.kn+1) (IntKind.wrap .i64 (ja y.2.kn - 1)) (NP y.2)
 let zv:=ov1 rU0 z
 .need (os1 c) (.br (cv.2 != 0) (.leaf (.tup [.c .nils,.c .nils,.c (.int .i64 cv.1),.c (.int .i64 cv.2)])) (.need (yQ n ρ) (.need (os1 b)
  (.br (y.1==0) (.leaf (Wh ⟨y.2.sn,y.2.sρ,y.2.pn,y.2.pρ,0,0⟩)) (.need (os1 z) (.leaf (Wh ⟨zv.sn,zv.sρ,zv.pn,zv.pρ,y.2.at_,y.1⟩)))))))
theorem jkg (C : ChF) (B : BF) (name : ByteArray) (m : Nat) (κ : Val) (n : Nat) (ρ : Val) (q : Nat) (τ : Val) :
  qf Tryz.prog (HR C B) 10 15 [.agg [.str name,.sl (jl 1) m κ],.c (.sl Ro.siSh n ρ),.c (.sl [.int .i64] q τ)]=t15 C B name m κ n ρ q τ:=by kernel_rfl
theorem jiv (C : ChF) (B : BF) (name : ByteArray) (m : Nat) (κ : Val) (n : Nat) (ρ : Val) :
  qf Tryz.prog (HR C B) 10 15 [.agg [.str name,.sl (jl 1) m κ],.c (.sl Ro.siSh n ρ),.c .nils]=t15 C B name m κ n ρ 0 .zero:=by kernel_rfl
theorem jhX {a e:Int}:leA (.tup [.c .nils,.c .nils,.c (.int .i64 a),.c (.int .i64 e)]) (Wh ⟨0,.zero,0,.zero,a,e⟩) :=
 ZH (.cons (.c fun _ _ _ h=>by cases h;exact .slnil) (.cons (.c fun _ _ _ h=>by cases h;exact .slnil) (.cons (.c leC.refl) (.cons (.c leC.refl) .nil))))
theorem IQ (C:ChF) (B:BF) (name:ByteArray) (m:Nat) (κ:Val) (n:Nat) (ρ:Val) (q:Nat) (τ:Val):Sy Wh (t15 C B name m κ n ρ q τ) (NK C B name m κ n ρ q τ):=by
 unfold t15 NK;cases C name m κ n ρ with
 | none=>exact trivial
 | some c =>
 simp only [os1,ov1,Option.bind];refine Sy.need rfl (Sy.cond (fun _=>Sy.ret' jhX) fun _=>Sy.nd id fun _ => ?_);cases B false m κ (jd3 n ρ q τ) with
 | none=>exact trivial
 | some y =>
 simp only;refine Sy.need rfl (Sy.cond (fun _=>Sy.ret) fun _ => ?_);cases KP B y.2.kn y.2.kρ (y.2.kn+1) (IntKind.wrap .i64 (ja y.2.kn - 1)) (NP y.2) with
 | none=>exact trivial
 | some z=>exact Sy.need rfl Sy.ret
def G15 (R:jgK):List A1->Option (Bool × AV)
 | [.agg [.str name,.sl es' m κ],.c (.sl es n ρ),c]=>if shEq.shsEq es' (jl 1)&&shEq.shsEq es Ro.siSh then (match c with
  | .c (.sl [.int .i64] q τ)=>some (os1 (R name m κ n ρ q τ),Wh (ov1 rr0 (R name m κ n ρ q τ)))
  | .c .nils=>some (os1 (R name m κ n ρ 0 .zero),Wh (ov1 rr0 (R name m κ n ρ 0 .zero)))
  | _=>none) else none
 | _=>none
theorem p15 {C:ChF} (hC:jo Tryz.prog 14 (nG (G29 C))) {B:BF} (hB:js Tryz.prog 38 (zE (u52 B))):jo Tryz.prog 15 (nG (G15 (NK C B))):=by
 refine jV (H:=HR C B) (hR hC hB) 10 15 ?_;intro args r h;unfold G15 at h;split at h
 ·rename_i name es' m κ es n ρ c;split at h
  ·rename_i hs;rw [aTq] at hs;rw [jm hs.1,jm hs.2];split at h
   ·rename_i q τ;simp only [sIq,pIq] at h;refine ⟨_,jkg C B name m κ n ρ q τ,?_⟩
    have:=IQ C B name m κ n ρ q τ
    cases hr:NK C B name m κ n ρ q τ with
    | none=>rw [hr] at h;cases h.1
    | some x=>rw [hr] at h this;rw [← h.2];exact this
   ·simp only [sIq,pIq] at h;refine ⟨_,jiv C B name m κ n ρ,?_⟩
    have:=IQ C B name m κ n ρ 0 .zero
    cases hr:NK C B name m κ n ρ 0 .zero with
    | none=>rw [hr] at h;cases h.1
    | some x=>rw [hr] at h this;rw [← h.2];exact this
   ·cases h
  ·cases h
 ·cases h
def Qk (n:Nat) (ρ:Val) (m:Nat) (σ:Val) (l:Int):Nat->Int->Option Bool
 | 0,_=>none
 | k+1,i=>bif lt i l then nd (jc i n) (nd (jc i m) (bif !jb (wd ρ i.toNat) (wd σ i.toNat) then some false else Qk n ρ m σ l k (IntKind.wrap .i64 (i+1)))) else some true
def ZA (n:Nat) (ρ:Val) (m:Nat) (σ:Val):Option Bool:=bif ja n != ja m then some false else Qk n ρ m σ (ja n) (n+1) 0
def G16:List A1->Option (Bool × AV)
 | [.c (.sl [.str] n ρ),.c (.sl [.str] m σ)]=>some (os1 (ZA n ρ m σ),jI (ov1 false (ZA n ρ m σ)))
 | _=>none
structure C16 where
 n:Nat
 ρ:Val
 m:Nat
 σ:Val
 l:Int
 i:Int
def eB (b:Bool):St:=mkS 26 [(4,.one (.c (.bool b)))] []
def Tk:List (Nat × AV)->Mem->Option Bool
 | [(4,.one (.c (.bool b)))],[]=>some b
 | _,_=>none
theorem jdx:∀ l m c,Tk l m=some c->mkS 26 l m=eB c:=by
 intro l m c h;unfold Tk at h;split at h
 ·cases h;rfl
 ·cases h
def jgT (c:C16 × Bool):St:=mkS 26 [(0,.one (.c (.sl [.str] c.1.n c.1.ρ))),(1,.one (.c (.sl [.str] c.1.m c.1.σ))),(4,.one (.c (.bool c.2))),(12,.one (.c (.int .i64 c.1.l))),(13,.one (.c (.int .i64 c.1.i)))] []
def T5:List (Nat × AV)->Mem->Option (C16 × Bool)
 | [(0,.one (.c (.sl [.str] n ρ))),(1,.one (.c (.sl [.str] m σ))),(4,.one (.c (.bool b))),(12,.one (.c (.int .i64 l))),(13,.one (.c (.int .i64 i)))],[]=>some (⟨n,ρ,m,σ,l,i⟩,b)
 | _,_=>none
theorem jb4:∀ l m c,T5 l m=some c->mkS 26 l m=jgT c:=by
 intro l m c h;unfold T5 at h;split at h
 ·cases h;rfl
 ·cases h
def A16:Sx.Frame (C16 × Bool) Bool:=⟨0,26,[0,1,4,12,13],T5,jgT,[4],Tk,eB⟩
theorem a16:A16.Ok:=.of_eq jb4 jdx
def r16 (g:C16 × Bool->Tree (XP × Bool)) (c:C16 × Bool):Tree (XP × Bool) :=
 .br (lt c.1.i c.1.l) (.need (jc c.1.i c.1.n) (.need (jc c.1.i c.1.m) (.br (!jb (wd c.1.ρ c.1.i.toNat) (wd c.1.σ c.1.i.toNat)) (.leaf (.ret,false)) (g ({ c.1 with i:=IntKind.wrap .i64 (c.1.i+1) },c.2))))) (.leaf (.exit 0,c.2))
theorem jkw (g:C16 × Bool->Tree (XP × Bool)) (c:C16 × Bool):jQ A16 Tryz.prog h00 Go.Proofs.YtiefjlcakpdfeaaGreatDoor.X0 10 19 0 g c=r16 g c:=by kernel_rfl
def g16 (k:Nat) (c:C16 × Bool):Tree (XP × Bool) :=
 let o:=Qk c.1.n c.1.ρ c.1.m c.1.σ c.1.l k c.1.i
 .need (os1 o) (.br (ov1 false o) (.leaf (.exit 0,c.2)) (.leaf (.ret,false)))
theorem Md (k:Nat) (c:C16 × Bool):(g16 k c).sel=(Qk c.1.n c.1.ρ c.1.m c.1.σ c.1.l k c.1.i).bind fun b=>some (bif b then (.exit 0,c.2) else (.ret,false)):=by
 unfold g16;cases Qk c.1.n c.1.ρ c.1.m c.1.σ c.1.l k c.1.i with
 | none=>rfl
 | some b=>cases b<;>rfl
theorem jlx (k:Nat) (c:C16 × Bool) (x:XP × Bool) (h:(g16 (k+1) c).sel=some x):(jQ A16 Tryz.prog h00 Go.Proofs.YtiefjlcakpdfeaaGreatDoor.X0 10 19 0 (g16 k) c).sel=some x:=by
 rw [jkw];rw [Md] at h;unfold Qk at h;unfold r16;simp only [qg,jG,j0,Md];revert h;cases lt c.1.i c.1.l with
 | false=>exact fun h=>h
 | true =>
 cases jc c.1.i c.1.n with
 | false=>exact fun h=>h
 | true =>
 cases jc c.1.i c.1.m with
 | false=>exact fun h=>h
 | true=>cases jb (wd c.1.ρ c.1.i.toNat) (wd c.1.σ c.1.i.toNat)<;>exact fun h=>h
theorem jlV:∀ k,CoreOk Tryz.prog 19 0 0 jgT eB (g16 k):=CoreOk.fuel (A:=A16) a16 HdOk.nil Go.Proofs.YtiefjlcakpdfeaaGreatDoor.x0 10 (fun _=>rfl) jlx
def jl4 (c:C16 × Bool):Tree (XP × Bool):=g16 (c.1.n+1) c
def X16:HdP:=⟨[],[],[],[((19,0),qZ A16 jl4)],[],0,[]⟩
theorem x16:XOk Tryz.prog X16:=XOk.lxCons XOk.nil (CoreOk.lx (g:=jl4) a16 fun fn c b h1 h2 h3 c0 x hx=>jlV _ fn c b h1 h2 h3 c0 x hx)
def t16 (n:Nat) (ρ:Val) (m:Nat) (σ:Val):Tree AV :=
 let o:=Qk n ρ m σ (ja n) (n+1) 0
 .br (ja n != ja m) (.leaf (jI false)) (.need (os1 o) (.br (ov1 false o) (.leaf (jI true)) (.leaf (jI false))))
theorem jkB (n:Nat) (ρ:Val) (m:Nat) (σ:Val):qj Tryz.prog h00 X16 10 19 [.c (.sl [.str] n ρ),.c (.sl [.str] m σ)]=t16 n ρ m σ:=by kernel_rfl
theorem jjv (n:Nat) (ρ:Val) (m:Nat) (σ:Val):Sy jI (t16 n ρ m σ) (ZA n ρ m σ):=by
 unfold t16 ZA;refine Sy.cond (fun _=>Sy.ret) fun _ => ?_;cases Qk n ρ m σ (ja n) (n+1) 0 with
 | none=>exact trivial
 | some b =>
   cases b with
  | true=>exact Sy.need rfl (Sy.br1 rfl Sy.ret)
  | false=>exact Sy.need rfl (Sy.br0 rfl Sy.ret)
theorem p16:jo Tryz.prog 19 (nG G16):=by
 refine j3 (H:=h00) (X:=X16) HdOk.nil x16 10 19 ?_;intro args r h;unfold G16 at h;split at h
 ·rename_i n ρ m σ;simp only [sIq,pIq] at h;rw [jkB]
  have:=jjv n ρ m σ
  cases hp:ZA n ρ m σ with
  | none=>rw [hp] at h;cases h.1
  | some x=>rw [hp] at h this;rw [← h.2];exact this
 ·cases h
def jgJ (a b:Val):Bool :=
 ((((((((a.at 0).N [] == (b.at 0).N [] && (a.at 1).N [] == (b.at 1).N []) && (a.at 2).N [] == (b.at 2).N []) && (a.at 3).N [] == (b.at 3).N []) &&
   Ro.eqL ⟨⟨(a.at 4).L [],a.at 4⟩,⟨(b.at 4).L [],b.at 4⟩⟩)&&(a.at 5).N []==(b.at 5).N [])&&(a.at 6).B []==(b.at 6).B [])&&(a.at 7).B []==(b.at 7).B [])
def ND (n:Nat):Bool:=Nat.ble n 100000
def jmm:A1->A1->Option (Bool × Bool)
 | .agg [.int .i64 a, .int .i64 r, .int .i64 e, .int .i64 p, .sl s1 n ρ, .int .i64 s, .bool l, .bool c], .agg [.int .i64 a', .int .i64 r', .int .i64 e', .int .i64 p', .sl s2 k σ, .int .i64 s', .bool l', .bool c'] =>
   if shEq.shsEq s1 Ro.spSh&&shEq.shsEq s2 Ro.spSh then some (ND n,((((((((a==a'&&r==r')&&e==e')&&p==p')&&Ro.eqL ⟨⟨n,ρ⟩,⟨k,σ⟩⟩)&&s==s')&&l==l')&&c==c'))) else none
 | _,_=>none
def G20:List A1->Option (Bool × AV)
 | [x,y]=>(match jmm x y with
  | some (c,b)=>some (c,jI b)
  | none=>none)
 | _=>none
theorem jin {n:Nat} (h:ND n=true):dec (Ro.fewN n)=true:=jv.2 (by
 have:=Nat.le_of_ble_eq_true h
 show n<=4611686018427387904;omega)
theorem p20:TcOne Tryz.prog 21 (nG G20):=TcOne.le Ro.p17 fun args r h=>by
 unfold G20 at h;split at h
 ·rename_i x y;split at h
  ·rename_i c b hc;simp only [sIq,pIq] at h;unfold jmm at hc;split at hc
   ·split at hc
    ·rename_i hs;rw [aTq] at hs;have e1:=jm hs.1;have e2:=jm hs.2;subst e1;subst e2;simp only [sIq,pIq] at hc;have hf:ND _=true:=hc.1.trans h.1;have hd:=jin hf;show some (dec _,_)=some (true,r);rw [hd,← h.2,← hc.2];rfl
    ·cases hc
   ·cases hc
  ·cases h
 ·cases h
def VX (n:Nat) (ρ:Val) (m:Nat) (σ:Val) (l:Int):Nat->Int->Option Bool
 | 0,_=>none
 | k+1,i=>bif lt i l then nd (jc i n) (nd (jc i m) (nd (ND (((ρ.at i.toNat).at 4).L [])) (bif !jgJ (ρ.at i.toNat) (σ.at i.toNat) then some false else VX n ρ m σ l k (IntKind.wrap .i64 (i+1))))) else some true
def LH (n:Nat) (ρ:Val) (m:Nat) (σ:Val):Option Bool:=bif ja n != ja m then some false else VX n ρ m σ (ja n) (n+1) 0
def G19:List A1->Option (Bool × AV)
 | [.c (.sl es n ρ),.c (.sl es' m σ),.c (.fn (.func 21) [] [])]=>if shEq.shsEq es Ro.siSh&&shEq.shsEq es' Ro.siSh then some (os1 (LH n ρ m σ),jI (ov1 false (LH n ρ m σ))) else none
 | _=>none
def S19 (c:C16 × Bool):St:=mkS 32 [(1,.one (.c (.sl Ro.siSh c.1.m c.1.σ))),(2,.one (.c (.fn (.func 21) [] []))),(6,.one (.c (.bool c.2))),(15,.one (.c (.sl Ro.siSh c.1.n c.1.ρ))),(16,.one (.c (.int .i64 c.1.l))),(17,.one (.c (.int .i64 c.1.i)))] []
def MQ:List (Nat × AV)->Mem->Option (C16 × Bool)
 | [(1,.one (.c (.sl es m σ))),(2,.one (.c (.fn (.func 21) [] []))),(6,.one (.c (.bool b))),(15,.one (.c (.sl es' n ρ))),(16,.one (.c (.int .i64 l))),(17,.one (.c (.int .i64 i)))],[]=>if shEq.shsEq es Ro.siSh&&shEq.shsEq es' Ro.siSh then some (⟨n,ρ,m,σ,l,i⟩,b) else none
 | _,_=>none
theorem jfZ:∀ l m c,MQ l m=some c->mkS 32 l m=S19 c:=by
 intro l m c h;unfold MQ at h;split at h
 ·split at h
  ·rename_i hs;rw [aTq] at hs;rw [jm hs.1,jm hs.2];cases h;rfl
  ·cases h
 ·cases h
def jgR (b:Bool):St:=mkS 32 [(6,.one (.c (.bool b)))] []
def Fa:List (Nat × AV)->Mem->Option Bool
 | [(6,.one (.c (.bool b)))],[]=>some b
 | _,_=>none
theorem jcA:∀ l m c,Fa l m=some c->mkS 32 l m=jgR c:=by
 intro l m c h;unfold Fa at h;split at h
 ·cases h;rfl
 ·cases h
def A19:Sx.Frame (C16 × Bool) Bool:=⟨0,32,[1,2,6,15,16,17],MQ,S19,[6],Fa,jgR⟩
theorem a19:A19.Ok:=.of_eq jfZ jcA
noncomputable abbrev H19:Hd:=⟨[(21,nG G20)],[],[],[]⟩
theorem h19:HdOk Tryz.prog H19:=HdOk.nil.tcCons p20
def r19 (g:C16 × Bool->Tree (XP × Bool)) (c:C16 × Bool):Tree (XP × Bool) :=
 .br (lt c.1.i c.1.l) (.need (jc c.1.i c.1.n) (.need (jc c.1.i c.1.m) (.need (ND (((c.1.ρ.at c.1.i.toNat).at 4).L [])) (.br (!jgJ (c.1.ρ.at c.1.i.toNat) (c.1.σ.at c.1.i.toNat)) (.leaf (.ret,false)) (g ({ c.1 with i:=IntKind.wrap .i64 (c.1.i+1) },c.2)))))) (.leaf (.exit 0,c.2))
theorem jlm (g:C16 × Bool->Tree (XP × Bool)) (c:C16 × Bool):jQ A19 Tryz.prog H19 Go.Proofs.YtiefjlcakpdfeaaGreatDoor.X0 10 20 0 g c=r19 g c:=by kernel_rfl
def g19 (k:Nat) (c:C16 × Bool):Tree (XP × Bool) :=
 let o:=VX c.1.n c.1.ρ c.1.m c.1.σ c.1.l k c.1.i
 .need (os1 o) (.br (ov1 false o) (.leaf (.exit 0,c.2)) (.leaf (.ret,false)))
theorem IY (k:Nat) (c:C16 × Bool):(g19 k c).sel=(VX c.1.n c.1.ρ c.1.m c.1.σ c.1.l k c.1.i).bind fun b=>some (bif b then (.exit 0,c.2) else (.ret,false)):=by
 unfold g19;cases VX c.1.n c.1.ρ c.1.m c.1.σ c.1.l k c.1.i with
 | none=>rfl
 | some b=>cases b<;>rfl
theorem jlY (k:Nat) (c:C16 × Bool) (x:XP × Bool) (h:(g19 (k+1) c).sel=some x):(jQ A19 Tryz.prog H19 Go.Proofs.YtiefjlcakpdfeaaGreatDoor.X0 10 20 0 (g19 k) c).sel=some x:=by
 rw [jlm];rw [IY] at h;unfold VX at h;unfold r19;simp only [qg,jG,j0,IY];revert h;cases lt c.1.i c.1.l with
 | false=>exact fun h=>h
 | true =>
 cases jc c.1.i c.1.n with
 | false=>exact fun h=>h
 | true =>
 cases jc c.1.i c.1.m with
 | false=>exact fun h=>h
 | true =>
 cases ND (((c.1.ρ.at c.1.i.toNat).at 4).L []) with
 | false=>exact fun h=>h
 | true=>cases jgJ (c.1.ρ.at c.1.i.toNat) (c.1.σ.at c.1.i.toNat)<;>exact fun h=>h
theorem jkP:∀ k,CoreOk Tryz.prog 20 0 0 S19 jgR (g19 k):=CoreOk.fuel (A:=A19) a19 h19 Go.Proofs.YtiefjlcakpdfeaaGreatDoor.x0 10 (fun _=>rfl) jlY
def jlb (c:C16 × Bool):Tree (XP × Bool):=g19 (c.1.n+1) c
def X19:HdP:=⟨[],[],[],[((20,0),qZ A19 jlb)],[],0,[]⟩
theorem x19:XOk Tryz.prog X19:=XOk.lxCons XOk.nil (CoreOk.lx (g:=jlb) a19 fun fn c b h1 h2 h3 c0 x hx=>jkP _ fn c b h1 h2 h3 c0 x hx)
def t19 (n:Nat) (ρ:Val) (m:Nat) (σ:Val):Tree AV :=
 let o:=VX n ρ m σ (ja n) (n+1) 0
 .br (ja n != ja m) (.leaf (jI false)) (.need (os1 o) (.br (ov1 false o) (.leaf (jI true)) (.leaf (jI false))))
theorem jmV (n:Nat) (ρ:Val) (m:Nat) (σ:Val):qj Tryz.prog H19 X19 10 20 [.c (.sl Ro.siSh n ρ),.c (.sl Ro.siSh m σ),.c (.fn (.func 21) [] [])]=t19 n ρ m σ:=by kernel_rfl
theorem jjz (n:Nat) (ρ:Val) (m:Nat) (σ:Val):Sy jI (t19 n ρ m σ) (LH n ρ m σ):=by
 unfold t19 LH;refine Sy.cond (fun _=>Sy.ret) fun _ => ?_;cases VX n ρ m σ (ja n) (n+1) 0 with
 | none=>exact trivial
 | some b =>
   cases b with
  | true=>exact Sy.need rfl (Sy.br1 rfl Sy.ret)
  | false=>exact Sy.need rfl (Sy.br0 rfl Sy.ret)
theorem jfi {args:List A1} {r:AV} (h:G19 args=some (true,r)):∃ n ρ m σ x,args=[.c (.sl Ro.siSh n ρ),.c (.sl Ro.siSh m σ),.c (.fn (.func 21) [] [])]∧LH n ρ m σ=some x∧r=jI x:=by
 unfold G19 at h;split at h
 ·rename_i es n ρ es' m σ;cases hs:(shEq.shsEq es Ro.siSh&&shEq.shsEq es' Ro.siSh) with
  | false=>rw [hs] at h;cases h
  | true =>
    rw [hs,if_pos rfl] at h;rw [aTq] at hs;rw [jm hs.1,jm hs.2];cases hp:LH n ρ m σ with
   | none=>rw [hp] at h;cases h
   | some x=>rw [hp] at h;cases h;exact ⟨n,ρ,m,σ,x,rfl,hp,rfl⟩
 ·cases h
theorem u19 {args:List A1} {r:AV} (h:G19 args=some (true,r)):(qj Tryz.prog H19 X19 10 20 args).All (fun x=>leA x r):=by
 obtain ⟨n,ρ,m,σ,x,e1,h1,e2⟩:=jfi h;rw [e1,e2,jmV]
 have:=jjz n ρ m σ
 rw [h1] at this;exact this
theorem p19:jo Tryz.prog 20 (nG G19):=by
 refine j3 (H:=H19) (X:=X19) h19 x19 10 20 ?_;intro args r h;exact u19 h
noncomputable abbrev MG:Hd:=⟨[lK],[],[],[]⟩
theorem jjn:HdOk Tryz.prog MG:=HdOk.lK HdOk.nil
def jlp:Val:=Val.ofFlat 3 [.int .i64 1,.int .i64 1,.int .i64 3]
def jn4:Val:=Val.ofFlat 8 [.int .i64 0,.int .i64 1,.int .i64 1,.int .i64 3,.sl Ro.spSh 1 jlp,.int .i64 (-1),.bool true,.bool true,
 .int .i64 1,.int .i64 2,.int .i64 1,.int .i64 3,.sl Ro.spSh 1 jlp,.int .i64 0,.bool true,.bool true]
def Hl:AV:=.one (.c (.sl Ro.siSh 2 jn4))
def G28:List A1->Option (Bool × AV)
 | []=>some (true,Hl)
 | _=>none
theorem jk1:qf Tryz.prog MG 10 18 []=.leaf Hl:=by kernel_rfl
theorem jfV {args:List A1} {r:AV} (h:G28 args=some (true,r)):args=[]∧r=Hl:=by
 unfold G28 at h;split at h
 ·exact ⟨rfl,(congrArg Prod.snd (Option.some.inj h)).symm⟩
 ·cases h
theorem u28 {args:List A1} {r:AV} (h:G28 args=some (true,r)):∃ u,qf Tryz.prog MG 10 18 args=u∧u.All (fun z=>leA z r):=by
 obtain ⟨e1,e2⟩:=jfV h;rw [e1,e2];exact ⟨.leaf Hl,jk1,(leA.refl (x:=Hl))⟩
theorem p28:jo Tryz.prog 18 (nG G28):=by
 refine jV (H:=MG) jjn 10 18 ?_;intro args r h;exact u28 h
theorem job:jo Tryz.prog 97 (nG (jbe fun _ _ _=>none)):=by
 intro args r h;have h:=zG h;unfold jbe at h;split at h
 ·cases h
 ·cases h
def P0:Par:=⟨Kg jar,O4 20,fun _ _ _=>none⟩
theorem jol:ParOk P0:=⟨jos,joy 20,job⟩
def Dq:ChF:=Hb 20 20
def jls:BF:=Tz P0 20
def jno:jgK:=NK Dq jls
theorem jha:jo Tryz.prog 14 (nG (G29 Dq)):=p29 20 20
theorem jnF:jo Tryz.prog 15 (nG (G15 jno)):=p15 jha (m52 jol 20)
noncomputable abbrev H7:Hd:=⟨[],[(8,nG G8F),(15,nG (G15 jno)),(19,nG G16),(20,nG G19),(18,nG G28),(14,nG (G29 Dq))],[],[]⟩
theorem h7:HdOk Tryz.prog H7:=(((((HdOk.nil.ucCons jha).ucCons p28).ucCons p19).ucCons p16).ucCons jnF).ucCons (p8F 100 20 20 20 (by decide +kernel))
theorem jly:(qf Tryz.prog H7 10 6 []).sel=some (jI true):=by kernel_rfl
def G7:List A1->Option (Bool × AV)
 | []=>some (true,jI true)
 | _=>none
theorem jhU {args:List A1} {r:AV} (h:G7 args=some (true,r)):args=[]∧r=jI true:=by
 unfold G7 at h;split at h
 ·exact ⟨rfl,(congrArg Prod.snd (Option.some.inj h)).symm⟩
 ·cases h
theorem u7 {args:List A1} {r:AV} (h:G7 args=some (true,r)):(qf Tryz.prog H7 10 6 args).All (fun z=>leA z r):=by
 obtain ⟨e1,e2⟩:=jhU h;rw [e1,e2];exact jn jly leA.refl
theorem p7:jo Tryz.prog 6 (nG G7):=by
 refine zF (H:=H7) h7 10 6 ?_;intro args r h;exact u7 h
end Go.Proofs.YtiefjlcakpdfeaaGreatDoor
namespace Go.Sx
open Go Go.RowKit
variable {P:Program}
def LB:Option (TypeId × List CV):=some (0,[.lp 0 0 .tab])
def jcn:Option (TypeId × List CV)->Bool
 | some (_,[.lp _ _ .tab])=>true
 | _=>false
def VU (mem:Mem):Bool:=mem.any jcn
theorem Te {F w bs mem} (hm:MemRel P F w bs mem) (h:VU mem=true):Tab F w:=by
 unfold VU at h;rw [List.any_eq_true] at h;obtain ⟨e,he,h⟩:=h;obtain ⟨k,hk⟩:=kR he;have hlt:=jq hk;rw [← hm.len] at hlt;have hb:nth bs k=some bs[k]:=by rw [jd];exact List.getElem?_eq_getElem hlt
 unfold jcn at h;split at h
 ·exact hm.lp k _ _ _ _ _ _ hk hb
 ·cases h
def qd {X:Type} (C:Clus X) (u:List A1->X->Tree (AV × X)) (args:List A1) (mem:Mem):Tree (AV × Mem) :=
 if VU mem then clG C u args mem else .fail
def Jn {X:Type} (C:Clus X) (P:Program) (H:Hd) (Xp:HdP) (n f:Nat) (rest:List A1) (x:X):Tree (AV × X) :=
 (GI P H Xp n f 1 (.c (.ptr 0 0)::rest) (C.lay x++[LB])).bind (Ux C)
theorem MemRel.tab {F w} (h:Tab F w) (x:BI):MemRel P F w [x] [LB]:=by
 have:=(MemRel.nil (P:=P) (F:=F) (w:=w)).push x (T:=0) (cs:=[.lp 0 0 .tab]) (fun h=>h.elim) (fun h=>h.elim) (fun h=>by simp [je] at h) (fun _ _ _ _ h=>by simp at h) (fun f i st cs' h'=>by
  simp only [List.cons.injEq,CV.lp.injEq] at h';obtain ⟨⟨_,_,rfl⟩,_⟩:=h';exact h)
 exact this
theorem jiY {X : Type} {C : Clus X} (hC : C.Ok) {H : Hd} (hH : HdOk P H) {Xp : HdP} (hX : XOk P Xp) (n f : Nat) {u : List A1 -> X -> Tree (AV × X)}
  (hu:∀ rest x z,(u rest x).sel=some z->∃ y,(Jn C P H Xp n f rest x).sel=some y∧leA y.1 z.1∧∀ F w bs,MemRel P F w bs (C.lay y.2)->MemRel P F w bs (C.lay z.2)):js P f (qd C u):=by
 intro args mem r mem' h F w bs vs hm hargs;unfold qd at h;split at h
 rotate_left
 ·simp [Tree.sel] at h
 rename_i htb;have htab:=Te hm htb;clear htb;unfold clG at h;split at h
 rotate_left
 ·simp [Tree.sel] at h
 rename_i b rest;split at h
 rotate_left
 ·simp [Tree.sel] at h
 rename_i hrest;cases hargs with
 | cons hp hvs =>
 rename_i v0 vs;obtain ⟨F1,ef,hmf,hvs⟩:=JQ hm hvs;generalize (zy mem rest).2=rest at h hrest hvs;generalize (zy mem _).1=memf at h hmf;have hp:=A1.Rel.grow ef.grow hp;have htab:=Tab.grow htab ef.grow
 suffices key:Calls P f (v0::vs).toArray w (fun e w'=>∃ v F' bs',e=.returned v∧Ext bs.length F1 w bs F' w' bs'∧MemRel P F' w' bs' mem'∧AV.Rel F' w' bs' r v) from
  key.mono fun e w' ⟨v,F',bs',h1,h2,h3,h4⟩=>⟨v,F',bs',h1,ef.trans h2 (lRq _),h3,h4⟩
 clear hm ef;have hm:=hmf;obtain ⟨bs1,e1,hm1⟩:=hC.prep P F1 w bs b memf hm;simp only at h;generalize C.prep b memf=m at h hm1;split at h
 rotate_left
 ·simp [Tree.sel] at h
 rename_i x hx;obtain ⟨z,hz,h2⟩:=jh h;split at h2
 rotate_left
 ·simp [Tree.sel] at h2
 rename_i hcz;simp only [Tree.sel,sIq,pIq] at h2;obtain ⟨rfl,rfl⟩:=h2;obtain ⟨hnd,hlt,hget,hsub⟩:=YR hC hx hm1;obtain ⟨hfix,hfix0,hfixm⟩:=hsub.fix (hC.ok x) (KC (hC.ok x));have hltb:∀ k ∈ jP b m,k<bs1.length:=fun k hk=>by rw [hm1.len];exact hlt k hk
 have hpos:∀ x:X,1<=(C.lay x).length:=fun x=>by
  have:=hC.ok x
  cases hl:C.lay x with
  | nil=>rw [hl] at this;simp [KV] at this
  | cons _ _=>simp
 generalize hbsS:yL w.heap.size (yB (jP b m) bs1) (C.lay x)=bsS0 at hfix hfix0 hfixm
 obtain ⟨bsS, hfix, hfix0, hfixm⟩ : ∃ bsS, MemRel P F1 w bsS (C.lay x ++ [LB]) ∧ (∀ y, nth (yB (jP b m) bs1) 0 = some y -> nth bsS 0 = some y) ∧
   ∀ y ∈ bsS,(∃ k T cs,nth (C.lay x) k=some (some (T,cs))∧jE y cs∧nth (yB (jP b m) bs1) k=some y)∨y.p=w.heap.size:=by
  refine ⟨bsS0++[⟨w.heap.size,0,0⟩],hfix.push _ (fun h=>h.elim) (fun h=>h.elim) (fun h=>by simp [je] at h) (fun _ _ _ _ h=>by simp at h) (fun f i st cs' h => ?_),fun y hy=>j4 (hfix0 y hy),fun y hy => ?_⟩
  ·simp only [List.cons.injEq,CV.lp.injEq] at h;obtain ⟨⟨_,_,rfl⟩,_⟩:=h;exact htab
  ·rcases List.mem_append.1 hy with h | h
   ·exact hfixm y h
   ·simp only [List.mem_singleton] at h;subst h;exact .inr rfl
 have away:∀ k y T cs,nth bs1 k=some y->nth m k=some (some (T,cs))->jE y cs->k ∉ jP b m->∀ z ∈ bsS,z.p ≠ y.p:=by
  intro k y T cs hk hc hl hn z hz e;rcases hfixm z hz with ⟨i,T1,cs1,g1,g2,g3⟩ | g
  ·obtain ⟨T2,cs2,k1,k2⟩:=hC.liv _ _ hget i z T1 cs1 g1 g2;obtain ⟨j,j1,j2⟩:=UU hltb g3;rw [jd,List.getElem?_map] at k1;simp only [Option.map_eq_some_iff] at k1;obtain ⟨j',hj',k1⟩:=k1;rw [← jd,j1] at hj';simp only [sIq] at hj';subst hj';unfold WB at k1;split at k1
   ·rename_i T3 cs3 hm3;simp only [sIq,pIq] at k1;obtain ⟨rfl,rfl⟩:=k1
    have:=hm1.inj j k z y _ cs3 T cs j2 hk hm3 hc (Kr k2) hl e
    subst this;exact hn (jH j1)
   ·cases k1
  ·have:=(hm1.loc k y T cs hk hc hl).2
   omega
 have inbs:∀ z ∈ bsS,z ∈ bs1∨z.p=w.heap.size:=by
  intro z hz;rcases hfixm z hz with ⟨i,T1,cs1,g1,g2,g3⟩ | g
  ·obtain ⟨j,_,j2⟩:=UU hltb g3;exact .inl (jH j2)
  ·exact .inr g
 cases hp with
 | ptr hx0 =>
 rename_i x0;have hb1:nth bs1 b=some x0:=e1.pre b x0 (jq hx0) hx0;have hS0:nth bsS 0=some x0:=hfix0 x0 (yz (pm:=jP b m) (b':=0) rfl hb1);have hargs1:All2 (A1.Rel F1 w bsS) (.c (.ptr 0 0)::rest) (.pointer (some ⟨x0.p,0,none⟩)::vs):=.cons (CV.Rel.ptr (x:=x0) hS0) (Jt hvs hrest);obtain ⟨y,hy1,hy2,hy3⟩:=hu rest x z hz;unfold Jn at hy1;obtain ⟨⟨o,m1⟩,h4,h5⟩:=jh hy1;refine (Gw hH hX n f 1 h4 (by have:=hpos x;simp only [List.length_append];omega) hfix hargs1).mono fun e w' ⟨F1',bs',hext,hm',hend⟩ => ?_
 unfold Ux at h5;split at h5
 rotate_left
 ·simp [Tree.sel] at h5
 rename_i a hoa;simp only at hoa;subst hoa;split at h5
 rotate_left
 ·simp [Tree.sel] at h5
 rename_i hca;split at h5
 rotate_left
 ·simp [Tree.sel] at h5
 rename_i x' hx';simp only [Tree.sel,sIq] at h5;subst h5;obtain ⟨v,rfl,hv⟩:=hend;obtain ⟨F2,e2,hm2,r2⟩:=ZD hm' hv;have hS1:1<=bsS.length:=jq hS0;have e3:=hext.trans e2 (hext.le hS1);obtain ⟨hnd2,hlt2,_,hsub2⟩:=YR hC hx' hm2;have hlt2b:∀ k ∈ jP 0 (zu m1 a).1,k<bs'.length:=fun k hk=>by rw [hm2.len];exact hlt2 k hk
 have hsub3:=hy3 _ _ _ hsub2;have hb0:nth bs' 0=some x0:=e3.pre 0 x0 (by omega) hS0
 have hB0:nth (yB (jP 0 (zu m1 a).1) bs') 0=some x0:=yz (pm:=jP 0 (zu m1 a).1) (b':=0) rfl hb0;have hBm:∀ z ∈ yB (jP 0 (zu m1 a).1) bs',z ∈ bs':=fun z hz=>Fb hlt2b hz;generalize yB (jP 0 (zu m1 a).1) bs'=bs2 at hsub3 hB0 hBm
 have he1:Ext bs1.length F1 w bs1 F2 w' bs1:=by
  refine ⟨e3.size,e3.F1,fun p hF hps hb=>e3.F2 p hF hps fun z hz => ?_,fun p hp hb=>e3.same p hp (hb.imp id fun hb z hz => ?_),e3.os,e3.tape,e3.output,fun _ _ _ h=>h,fun z hz=>.inl ⟨z,hz,rfl⟩⟩
  ·rcases inbs z hz with h | h
   ·exact hb z h
   ·omega
  ·rcases inbs z hz with h | h
   ·exact hb z h
   ·omega
 have hkm:MemRel P F2 w' bs1 (y5 (jP b m) m):=(Wx (jP b m) hm1).move he1 fun k y T cs hk hc hl=>by
  obtain ⟨hn,hc⟩:=kE _ hc;obtain ⟨g1,g2⟩:=hm1.loc k y T cs hk hc hl;have ha:=away k y T cs hk hc hl hn;exact ⟨e3.F2 y.p g1 g2 ha,e3.same y.p g2 (.inr ha)⟩
 have hj:=hkm.join hsub3 fun k y T cs hk hc hl z hz e=>by
  obtain ⟨hn,hc⟩:=kE _ hc;obtain ⟨g1,g2⟩:=hm1.loc k y T cs hk hc hl;rcases e3.mem z (hBm z hz) with ⟨z',hz',e'⟩ | hs
  ·exact away k y T cs hk hc hl hn z' hz' (e'.trans e.symm)
  ·omega
 have hL:bs1.length=m.length:=hm1.len;rw [hL] at hj;obtain ⟨T0,cs0,h00⟩:=KC (hC.ok z.2) 0 (hpos z.2)
 have hr0:je cs0=false:=by
  rcases JO (hC.ok z.2) h00 with ⟨_,h,_⟩ | ⟨h,_⟩
  ·exact h
  ·omega
 have hJL:nth (y5 (jP b m) m++(C.lay z.2).map (shE m.length)) m.length=some (some (T0,cs0.map (shC m.length))):=by
  have:=yp (y5 (jP b m) m) ((C.lay z.2).map (shE m.length)) 0
  rw [Qw,Nat.add_zero] at this;rw [this,jd,List.getElem?_map,← jd,h00];rfl
 have hbL:b<m.length:=by rw [← hL];exact jq hb1
 have hBL:nth (bs1++bs2) m.length=some x0:=by
  have:=yp bs1 bs2 0
  rw [Nat.add_zero,hL] at this;rw [this];exact hB0
 have hBb:nth (bs1++bs2) b=some x0:=j4 hb1
 have hrs:je (cs0.map (shC m.length))=false:=by
  cases hh:je (cs0.map (shC m.length)) with
  | false=>rfl
  | true =>
    exfalso
    unfold je at hh;split at hh
    ·rename_i he;rw [FQ he] at hr0;simp [je] at hr0
    ·rename_i he;obtain ⟨ds,e,_⟩:=M1 he;rw [e] at hr0;simp [je] at hr0
    ·cases hh
 have hfin:MemRel P F2 w' (bs1++bs2) (XG b m (C.lay z.2)):=by
  unfold XG;simp only [hJL];have hk:=hj.kill m.length;obtain ⟨g1,g2⟩:=hj.loc m.length x0 T0 _ hBL hJL (qc hrs);refine hk.put hBb (fun T cs h => ?_) (fun _=>⟨g1,g2⟩) (fun _ k y T' cs' hk' hc hl e => ?_) (fun _=>hj.cont m.length T0 _ x0 hJL hrs hBL) (fun fz es n ρ h => ?_) (fun f i st cs' h => ?_)
  ·rcases jD h with ⟨_,h⟩ | ⟨_,h⟩
   ·cases h
   ·rcases U6 h with ⟨_,h⟩ | ⟨h1,_⟩
    ·exact (kE _ h).1 (by simp [jP])
    ·rw [Qw] at h1;omega
  ·rcases jD hc with ⟨_,h⟩ | ⟨hne,hc⟩
   ·cases h
   ·exact hne (hj.inj k m.length y x0 T' cs' T0 _ hk' hBL hc hJL hl (qc hrs) e)
  ·rw [h] at hrs;simp [je] at hrs
  ·rw [h] at hrs;simp [je] at hrs
 have eF:Ext bs1.length F1 w bs1 F2 w' (bs1++bs2):=by
  refine ⟨he1.size,he1.F1,he1.F2,he1.same,he1.os,he1.tape,he1.output,fun k y hk hy=>j4 hy,fun y hy => ?_⟩;rcases List.mem_append.1 hy with h | h
  ·exact .inl ⟨y,h,rfl⟩
  ·rcases e3.mem y (hBm y h) with ⟨z',hz',e'⟩ | hs
   ·rcases inbs z' hz' with h | h
    ·exact .inl ⟨z',h,e'⟩
    ·exact .inr (by omega)
   ·exact .inr hs
 refine ⟨v,F2,_,rfl,e1.trans eF e1.le,hfin,?_⟩;have hv0:AV.Rel F2 w' [] z.1 v:=hy2 _ _ _ (r2.closed hca);exact hv0.closed hcz
def jcf (y:Out × Mem):Tree AV :=
 match y.1 with
 | .ret a=>if kD (zu y.2 a).2 then .leaf (zu y.2 a).2 else .fail
 | .pan _=>.fail
def HY (P:Program) (H:Hd) (X:HdP) (n f:Nat) (args:List A1):Tree AV:=(GI P H X n f 0 args [LB]).bind jcf
def jbY (u:List A1->Tree AV) (args:List A1) (mem:Mem):Tree (AV × Mem) :=
 if VU mem then (let y:=zy mem args;if y.2.all jB then (u y.2).bind fun r=>if kD r then .leaf (r,y.1) else .fail else .fail) else .fail
theorem T6 {H : Hd} (hH : HdOk P H) {X : HdP} (hX : XOk P X) (n f : Nat) {args : List A1} {r : AV} (h : (HY P H X n f args).sel = some r) {F : Nat -> Prop} {w : World} {vs : List Value} (ht : Tab F w) (hargs : All2 (A1.Rel F w []) args vs) (hc : args.all jB = true) :
  Calls P f vs.toArray w (fun e w'=>∃ v,e=.returned v∧Below w.heap.size w w'∧AV.Rel (fun p=>F p∧p<w.heap.size) w' [] r v):=by
 unfold HY at h;obtain ⟨⟨o,m⟩,h1,h2⟩:=jh h;have hm:MemRel P F w [⟨w.heap.size,0,0⟩] [LB]:=MemRel.tab ht _;refine (Gw hH hX n f 0 h1 (Nat.zero_le _) hm (Jt hargs hc)).mono fun e w' ⟨F',bs',he,hm',hr⟩ => ?_;unfold jcf at h2;split at h2
 rotate_left
 ·simp [Tree.sel] at h2
 rename_i a ha;simp only at ha;subst ha;split at h2
 rotate_left
 ·simp [Tree.sel] at h2
 rename_i hcl;simp only [Tree.sel,sIq] at h2;subst h2;obtain ⟨v,rfl,hv⟩:=hr;obtain ⟨F2,e2,hm2,r2⟩:=ZD hm' hv;have e3:=he.trans e2 (Nat.zero_le _);refine ⟨v,rfl,⟨e3.os,e3.tape,e3.output,e3.size,fun p hp=>e3.same p hp (.inr fun x hx => ?_)⟩,?_⟩
 ·simp only [List.mem_singleton] at hx;subst hx;exact fun e=>by simp only at e;omega
 ·have hv0:AV.Rel F2 w' [] (zu m a).2 v:=r2.closed hcl;refine AV.Rel.grow (bs:=[]) (bs':=[]) ⟨lRq _,fun p _ hp=>e3.F2 p hp.1 hp.2 fun x hx => ?_,fun _ _ _=>rfl,fun _ _ h=>h⟩ hv0;simp only [List.mem_singleton] at hx;subst hx;exact fun e=>by simp only at e;omega
theorem jiH {H:Hd} (hH:HdOk P H) {X:HdP} (hX:XOk P X) (n f:Nat) {u:List A1->Tree AV} (hu:∀ args r,(u args).sel=some r->∃ y,(HY P H X n f args).sel=some y∧leA y r):js P f (jbY u):=by
 intro args mem r mem' hs F w bs vs hm hargs;unfold jbY at hs;split at hs
 rotate_left
 ·simp [Tree.sel] at hs
 rename_i htb;have htab:=Te hm htb;simp only at hs;split at hs
 rotate_left
 ·simp [Tree.sel] at hs
 rename_i hcl;obtain ⟨r0,g1,g2⟩:=jh hs;split at g2
 rotate_left
 ·simp [Tree.sel] at g2
 rename_i hcr;simp only [Tree.sel,sIq,pIq] at g2;obtain ⟨rfl,rfl⟩:=g2;obtain ⟨F1,ef,hmf,hvs⟩:=JQ hm hargs;obtain ⟨y,hy1,hy2⟩:=hu _ _ g1;refine (T6 hH hX n f hy1 (Tab.grow htab ef.grow) (Jt hvs hcl) hcl).mono fun e w' ⟨v,he,hb,hv⟩ => ?_;have e2:Ext bs.length F1 w bs (fun p=>F1 p∧p<w.heap.size) w' bs:=⟨hb.size,fun _ _ h=>h.1,fun p h hp _=>⟨h,hp⟩,fun p hp _=>hb.block p hp,hb.os,hb.tape,hb.output,fun _ _ _ h=>h,fun x h=>.inl ⟨x,h,rfl⟩⟩;have hm2:=hmf.move e2 fun k x T cs hk hc hv=>⟨hmf.loc k x T cs hk hc hv,hb.block _ (hmf.loc k x T cs hk hc hv).2⟩;exact ⟨v,_,bs,he,ef.trans e2 (lRq _),hm2,(hy2 _ _ _ hv).closed hcr⟩
end Go.Sx
namespace Go.Proofs.YtiefjlcakpdfeaaGreatDoor
open Go Go.Sx Go.RowKit Rb
set_option maxRecDepth 100000
def jj (n:Int):ByteArray:=⟨(Lib.itoa n).toArray⟩
def jdO:List A1->Option (Bool × AV)
 | [.c (.int .i64 n)]=>some (le 0 n&&lt n 100,.one (.c (.str (jj n))))
 | _=>none
theorem Je {a b:Int}:le a b=true↔a<=b:=by unfold le;simp
theorem yg {a b:Int}:lt a b=true↔a<b:=by unfold lt;simp
theorem jpG:TcOne Tryz.prog 101 (nG jdO):=by
 intro args r hG hcl F w vs hargs;have h:=zG hG;unfold jdO at h;split at h
 ·rename_i n;simp only [sIq,pIq,aTq,Je,yg] at h;obtain ⟨⟨h1,h2⟩,rfl⟩:=h;cases hargs with
  | cons a1 a2 =>
    cases a2;cases a1;obtain ⟨i,rfl⟩ : ∃ i:Nat,n=(i:Int):=⟨n.toNat,by omega⟩
    refine ⟨_,CV.Rel.str _,fun w1 _=>(Tryz.strconv_Itoa_small i (by omega) w1).mono fun e w2 ⟨he,hw⟩ => ?_⟩
    subst hw;refine ⟨?_,Below.refl _ _⟩;rw [he];unfold jj;rw [Lib.itoa_nonneg]
 ·cases h
def jae (args:List A1) (mem:Mem):Tree (AV × Mem):=if VU mem then (match args with
 | [.c (.int .i64 n)]=>.need (le 0 n&&le n 1073741824) (.leaf (.one (.c (.str (jj n))),mem))
 | _=>.fail) else .fail
theorem jl2 {F:Nat->Prop} {w:World} (h:Tab F w):Lib.TabIs Tryz.prog w "internal/strconv.uint64pow10" .u64 Lib.pow10Tab:=by
 obtain ⟨_,_,T,m,h3⟩:=h;have hg:Tryz.prog.globalNamed "internal/strconv.uint64pow10" = some 1:=by kernel_rfl
 unfold Lib.TabIs World.var?;rw [hg];show (match w.heap[1]? with | some (.cells cs _ _)=>some cs | _=>none)=_
 rw [h3];rfl
theorem jeF (w:World) (k:Nat) (os:Array Obj):Below w.heap.size w (Sort.grow (w.drewN k) os) :=
 ⟨rfl,rfl,rfl,by show w.heap.size<=(w.heap++os).size;rw [Array.size_append];omega,fun j hj=>Sort.heap_grow_old (w.drewN k) os (by show j<w.heap.size;omega)⟩
theorem jpy:js Tryz.prog 101 jae:=by
 intro args mem r mem' hG F w bs vs hm hargs;unfold jae at hG;split at hG
 rotate_left
 ·simp [Tree.sel] at hG
 rename_i ht;split at hG
 rotate_left
 ·simp [Tree.sel] at hG
 rename_i n;simp only [jG,j0] at hG;cases hc:(le 0 n&&le n 1073741824) with
 | false=>rw [hc] at hG;simp at hG
 | true =>
   rw [hc] at hG;simp only [cond_true,sIq,pIq] at hG;obtain ⟨rfl,rfl⟩:=hG;simp only [aTq,Je] at hc;cases hargs with
  | cons a1 a2 =>
    cases a2;cases a1;refine (Tryz.strconv_Itoa n (by omega) (by omega) w (jl2 (Te hm ht))).mono fun e w2 ⟨he,k,os,hw⟩ => ?_
    subst hw;have hb:=jeF w k os;exact ⟨_,F,bs,he,Ext.of_below hb,hm.below hb,CV.Rel.str _⟩
end Go.Proofs.YtiefjlcakpdfeaaGreatDoor