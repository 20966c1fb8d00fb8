/-
 Part TpZ of the proof: RcF RcG.
-/
import Derived.Test.YtiefjlcakpdfeaaGreatDoorTpY
namespace Go.Proofs.YtiefjlcakpdfeaaGreatDoor
open Go Go.Sx Go.RowKit Rb
set_option maxRecDepth 100000
def os1 {β:Type}:Option β->Bool | some _=>true | none=>false
def ov1 {β:Type} (d:β):Option β->β | some x=>x | none=>d
def Sy {β:Type} (enc:β->AV) (T:Tree AV):Option β->Prop
 | none=>True
 | some x=>T.All (fun z=>leA z (enc x))
section
variable {β γ:Type} {enc:β->AV}
theorem Sy.cond {c:Bool} {T E:Tree AV} {a b:Option β} (h1:c=true->Sy enc T a) (h2:c=false->Sy enc E b):Sy enc (.br c T E) (bif c then a else b):=by
 cases c with
 | true =>
   have:=h1 rfl
   show Sy enc _ a;cases a with
  | none=>exact trivial
  | some y=>exact ⟨fun _=>this,(fun h=>by cases h)⟩
 | false =>
   have:=h2 rfl
   show Sy enc _ b;cases b with
  | none=>exact trivial
  | some y=>exact ⟨(fun h=>by cases h),fun _=>this⟩
theorem Sy.nd {c d:Bool} {T:Tree AV} {a:Option β} (h:c=true->d=true) (h1:c=true->Sy enc T a):Sy enc (.need d T) (Go.Proofs.YtiefjlcakpdfeaaGreatDoor.nd c a):=by
 cases c with
 | false=>exact trivial
 | true =>
   have:=h1 rfl
   show Sy enc _ a;cases a with
  | none=>exact trivial
  | some y=>exact ⟨h rfl,this⟩
theorem Sy.need {d:Bool} {T:Tree AV} {a:Option β} (h:d=true) (h1:Sy enc T a):Sy enc (.need d T) a:=by
 cases a with
 | none=>exact trivial
 | some y=>exact ⟨h,h1⟩
theorem Sy.ret {v:β}:Sy enc (.leaf (enc v)) (some v):=leA.refl
theorem Sy.ret' {v:β} {r:AV} (h:leA r (enc v)):Sy enc (.leaf r) (some v):=h
theorem Sy.bind {d:γ} {o:Option γ} {K:γ->Tree AV} {f:γ->Option β} (h:∀ v,Sy enc (K v) (f v)):Sy enc (.need (os1 o) (K (ov1 d o))) (o.bind f):=by
 cases o with
 | none=>exact trivial
 | some v =>
   have:=h v
   show Sy enc _ (f v);cases hf:f v with
  | none=>exact trivial
  | some y=>rw [hf] at this;exact ⟨rfl,this⟩
theorem Sy.br1 {c:Bool} {T E:Tree AV} {a:Option β} (hc:c=true) (h:Sy enc T a):Sy enc (.br c T E) a:=by
 subst hc;cases a with
 | none=>exact trivial
 | some y=>exact ⟨fun _=>h,fun h=>by cases h⟩
theorem Sy.br0 {c:Bool} {T E:Tree AV} {a:Option β} (hc:c=false) (h:Sy enc E a):Sy enc (.br c T E) a:=by
 subst hc;cases a with
 | none=>exact trivial
 | some y=>exact ⟨(fun h=>by cases h),fun _=>h⟩
end
def enc2 (x:Int × Int):AV:=.tup [.c (.int .i64 x.1),.c (.int .i64 x.2)]
def encI (x:Int):AV:=.one (.c (.int .i64 x))
def jI (x:Bool):AV:=.one (.c (.bool x))
def lf2 (a b:Int):Tree AV:=.leaf (enc2 (a,b))
abbrev RN:=RX->Option Val
def Uv (R:RN):List A1->Option (Bool × AV)
 | [.agg [.str o,.int .i64 v,.sl es n ρ]]=>if shEq.shsEq es (jl 0) then some (os1 (R ⟨o,v,n,ρ⟩),.one (.c (.ifx (ov1 .zero (R ⟨o,v,n,ρ⟩))))) else none
 | _=>none
def jeD (d:Val):AV:=.one (.c (.ifx d))
theorem N5 {R:RN} {args:List A1} {r:AV} (h:Uv R args=some (true,r)):∃ o v n ρ x,args=[.agg [.str o,.int .i64 v,.sl (jl 0) n ρ]]∧R ⟨o,v,n,ρ⟩=some x∧r=jeD x:=by
 unfold Uv at h;split at h
 ·split at h
  ·rename_i o v es n ρ hs;simp only [sIq,pIq] at h;cases hR:R ⟨o,v,n,ρ⟩ with
   | none=>rw [hR] at h;cases h.1
   | some x=>rw [hR] at h;exact ⟨o,v,n,ρ,x,by rw [jm hs],hR,h.2.symm⟩
  ·cases h
 ·cases h
noncomputable abbrev jfD (R:RN):Hd:=⟨[],[(136,nG (Uv R))],[],[]⟩
theorem joM {R:RN} (hR:jo Tryz.prog 136 (nG (Uv R))):HdOk Tryz.prog (jfD R):=HdOk.nil.ucCons hR
abbrev X3:HdP:=⟨[],[],[],[],[],3,[]⟩
theorem x3:XOk Tryz.prog X3:=XOk.nil
def k1V (d:Val):Val:=Val.ofFlat 1 [.ifx d]
def k2V (a b:Val):Val:=Val.cat 1 (k1V a) (k1V b)
def jby (o:ByteArray) (n:Nat) (ρ:Val):CV:=.ifa 206 [.str o,.sl [.ifc] n ρ]
def lfC (x:CV):Tree AV:=.leaf (.one (.c x))
def jgo (R:RN) (e:RX):Tree AV :=
 let a:=R (jR e.ρ 0)
 let b:=R (jR e.ρ 1)
 let c:=R (jR e.ρ 2)
 let av:=ov1 .zero a
 let bv:=ov1 .zero b
 .br (jb e.op j8) (lfC (.iface 201 (.int .i64 e.v))) (.br (ja e.n==0) (lfC (.ifa 203 [.str e.op,.int .i64 e.v]))
  (.br (lt 0 (ja e.n)) (.need (jc 0 e.n) (.need (os1 a) (.need (Nat.ble (1*16) 140737488355328)
   (.br (lt 1 (ja e.n)) (.need (jc 1 e.n) (.need (os1 b) (.need (Nat.ble (2*16) 140737488355328)
    (.br (lt 2 (ja e.n)) (.need (jc 2 e.n) (.need (os1 c) (.need (Nat.ble (3*16) 140737488355328) .fail)))
     (lfC (jby e.op 2 (k2V av bv)))))))
    (lfC (jby e.op 1 (k1V av))))))) (lfC (.ifa 206 [.str e.op,.nils]))))
theorem jjc (R:RN) (o:ByteArray) (v:Int) (n:Nat) (ρ:Val):qj Tryz.prog (jfD R) X3 10 136 [.agg [.str o,.int .i64 v,.sl (jl 0) n ρ]]=jgo R ⟨o,v,n,ρ⟩:=by kernel_rfl
theorem jhH {x:CV} (h:fits .ifc x=true):leC x (.ifx (Val.ofC x)):=fun _ _ _ hv=>QK (s:=.ifc) hv h
theorem Bg {x:CV} (h:fits .ifc x=true):leA (.one (.c x)) (jeD (Val.ofC x)):=Y6 (.c (jhH h))
def O7 (R:RN) (e:RX):Option Val :=
 bif jb e.op j8 then some (Val.ofC (.iface 201 (.int .i64 e.v)))
 else bif ja e.n==0 then some (Val.ofC (.ifa 203 [.str e.op,.int .i64 e.v]))
 else bif ja e.n==1 then (R (jR e.ρ 0)).bind fun a=>some (Val.ofC (jby e.op 1 (k1V a)))
 else bif ja e.n==2 then (R (jR e.ρ 0)).bind fun a=>(R (jR e.ρ 1)).bind fun b=>some (Val.ofC (jby e.op 2 (k2V a b)))
 else none
theorem jed (R:RN) (e:RX):Sy jeD (jgo R e) (O7 R e):=by
 unfold jgo O7;refine Sy.cond (fun _=>Sy.ret' (Bg rfl)) fun _=>Sy.cond (fun _=>Sy.ret' (Bg rfl)) fun h0 => ?_;have h0:e.n ≠ 0:=fun h=>by rw [h] at h0;cases h0
 have g0:lt 0 (ja e.n)=true:=by unfold lt ja;simp;omega
 have i0:jc 0 e.n=true:=by unfold jc le lt ja;simp;omega
 refine Sy.br1 g0 (Sy.need i0 ?_);cases h1:(ja e.n==1) with
 | true =>
   have h1:e.n=1:=by simp [ja] at h1;omega
   refine Sy.bind fun a=>Sy.need rfl (Sy.br0 ?_ (Sy.ret' (Bg rfl)));rw [h1];rfl
 | false =>
   have h1:e.n ≠ 1:=fun h=>by rw [h] at h1;cases h1
   have g1:lt 1 (ja e.n)=true:=by unfold lt ja;simp;omega
   have i1:jc 1 e.n=true:=by unfold jc le lt ja;simp;omega
   cases h2:(ja e.n==2) with
  | true =>
    have h2:e.n=2:=by simp [ja] at h2;omega
    refine Sy.bind fun a=>Sy.need rfl (Sy.br1 g1 (Sy.need i1 (Sy.bind fun b=>Sy.need rfl (Sy.br0 ?_ (Sy.ret' (Bg rfl))))));rw [h2];rfl
  | false=>exact trivial
theorem jnW {R:RN} (hR:jo Tryz.prog 136 (nG (Uv R))):jo Tryz.prog 136 (nG (Uv (O7 R))):=by
 refine j3 (H:=jfD R) (X:=X3) (joM hR) x3 10 136 ?_;intro args r h;obtain ⟨o,v,n,ρ,x,e1,h1,e2⟩:=N5 h;rw [e1,e2,jjc]
 have:=jed R ⟨o,v,n,ρ⟩
 rw [h1] at this;exact this
def HT:Nat->RN
 | 0=>fun _=>none
 | f+1=>O7 (HT f)
theorem jmw:∀ f,jo Tryz.prog 136 (nG (Uv (HT f)))
 | 0 => by
   intro args r h;obtain ⟨o,v,n,ρ,x,_,h1,_⟩:=N5 (zG h);cases h1
 | f+1=>jnW (jmw f)
def QD (b:Bool):Int:=bif b then 1 else 0
def T9:List A1->Option (Bool × AV)
 | [.c (.bool b)]=>some (true,encI (QD b))
 | _=>none
def joJ (b:Bool):Tree AV:=.br b (.leaf (encI 1)) (.leaf (encI 0))
theorem jji (b:Bool):qf Tryz.prog h00 10 216 [.c (.bool b)]=joJ b:=by kernel_rfl
theorem je2:jo Tryz.prog 216 (nG T9):=by
 refine jV (H:=h00) HdOk.nil 10 216 ?_;intro args r h;unfold T9 at h;split at h
 ·rename_i b;simp only [sIq,pIq,true_and] at h;subst h;refine ⟨_,jji b,?_⟩;cases b<;>exact jn rfl leA.refl
 ·cases h
def jaO:List A1->Option (Bool × AV)
 | [.c (.int .i64 v),.c (.sl _ _ _)]=>some (true,enc2 (v,0))
 | _=>none
theorem jkl:jo Tryz.prog 213 (nG jaO):=by
 refine jV (H:=h00) HdOk.nil 10 213 ?_;intro args r h;unfold jaO at h;split at h
 ·rename_i v es n ρ;simp only [sIq,pIq,true_and] at h;subst h;exact ⟨lf2 v 0,by kernel_rfl,leA.refl⟩
 ·cases h
noncomputable abbrev jfB:Hd:=⟨[fK 215],[(216,nG T9)],[],[]⟩
theorem jpU:HdOk Tryz.prog jfB:=HdOk.fK (HdOk.nil.ucCons je2) 215
def Gm (w:ByteArray) (i:Int) (n:Nat) (ρ:Val):Option (Int × Int) :=
 let s:=ρ.at i.toNat
 bif jb w jW then none else bif jb w zg then some (ja n,0) else bif le (ja n) i then some (0,7) else nd (jc i n)
  (bif jb w qS then some ((s.at 2).N [],0) else bif jb w qe then some ((s.at 3).N [],0) else bif jb w zI then some ((s.at 1).N [],0)
   else bif jb w qU then some (QD ((s.at 6).B []),0) else some (QD ((s.at 7).B []),0))
def M8:List A1->Option (Bool × AV)
 | [.agg [.str w,.int .i64 i],.c (.sl es n ρ)]=>if shEq.shsEq es Ro.siSh then some (os1 (Gm w i n ρ),enc2 (ov1 (0,0) (Gm w i n ρ))) else none
 | _=>none
def t232 (w:ByteArray) (i:Int) (n:Nat) (ρ:Val):Tree AV :=
 let s:=ρ.at i.toNat
 .br (jb w jW) .fail (.br (jb w zg) (lf2 (ja n) 0) (.br (le (ja n) i) (lf2 0 7) (.need (jc i n)
  (.br (jb w qS) (lf2 ((s.at 2).N []) 0) (.br (jb w qe) (lf2 ((s.at 3).N []) 0) (.br (jb w zI) (lf2 ((s.at 1).N []) 0)
   (.br (jb w qU) (.need true (lf2 (QD ((s.at 6).B [])) 0)) (.need true (lf2 (QD ((s.at 7).B [])) 0)))))))))
theorem jh6 (w:ByteArray) (i:Int) (n:Nat) (ρ:Val):qf Tryz.prog jfB 10 214 [.agg [.str w,.int .i64 i],.c (.sl Ro.siSh n ρ)]=t232 w i n ρ:=by kernel_rfl
theorem jfH (w:ByteArray) (i:Int) (n:Nat) (ρ:Val):Sy enc2 (t232 w i n ρ) (Gm w i n ρ):=by
 unfold t232 Gm;refine Sy.cond (fun _=>trivial) fun _=>Sy.cond (fun _=>Sy.ret) fun _=>Sy.cond (fun _=>Sy.ret) fun _=>Sy.nd id fun _=>Sy.cond (fun _=>Sy.ret) fun _=>Sy.cond (fun _=>Sy.ret) fun _=>Sy.cond (fun _=>Sy.ret) fun _=>Sy.cond (fun _=>Sy.need rfl Sy.ret) fun _=>Sy.need rfl Sy.ret
theorem jlK:jo Tryz.prog 214 (nG M8):=by
 refine jV (H:=jfB) jpU 10 214 ?_;intro args r h;unfold M8 at h;split at h
 ·split at h
  ·rename_i w i es n ρ hs;rw [jm hs];simp only [sIq,pIq] at h;refine ⟨_,jh6 w i n ρ,?_⟩
   have:=jfH w i n ρ
   cases hp:Gm w i n ρ with
   | none=>rw [hp] at h;cases h.1
   | some x=>rw [hp] at h this;rw [← h.2];exact this
  ·cases h
 ·cases h
def KM:Int:=1099511627776
def Dc (w:ByteArray) (a b:Int):Int × Int :=
 bif (bif jb w wOr then true else jb w z8) then (QD (b != 0),0) else bif jb w wEq then (QD (a==b),0) else bif jb w wLt then (QD (lt a b),0) else bif jb w wGt then (QD (lt b a),0)
  else bif (bif lt (bif jb w qJ then IntKind.wrap .i64 (a - b) else IntKind.wrap .i64 (a+b)) (-KM) then true else lt KM (bif jb w qJ then IntKind.wrap .i64 (a - b) else IntKind.wrap .i64 (a+b))) then (0,2)
  else (bif jb w qJ then IntKind.wrap .i64 (a - b) else IntKind.wrap .i64 (a+b),0)
def jgE:List A1->Option (Bool × AV)
 | [.agg [.str w,.sl _ _ _],.c (.int .i64 a),.c (.int .i64 b)]=>some (true,enc2 (Dc w a b))
 | _=>none
noncomputable abbrev jeh:Hd:=⟨[],[(216,nG T9)],[],[]⟩
theorem jpj:HdOk Tryz.prog jeh:=HdOk.nil.ucCons je2
def je7 (w:ByteArray) (a b:Int):Tree AV :=
 let F:=fun c:Bool=>Tree.need true (lf2 (QD c) 0)
 let Z:=fun n:Int=>Tree.br (bif lt n (-KM) then true else lt KM n) (lf2 0 2) (lf2 n 0)
 let R:=.br (jb w wEq) (F (a==b)) (.br (jb w wLt) (F (lt a b)) (.br (jb w wGt) (F (lt b a)) (.br (jb w qJ) (Z (IntKind.wrap .i64 (a - b))) (Z (IntKind.wrap .i64 (a+b))))))
 .br (jb w wOr) (.br (jb w wOr) (F (b != 0)) R) (.br (jb w z8) (F (b != 0)) R)
theorem jiI (w:ByteArray) (es:List Sh) (n:Nat) (ρ:Val) (a b:Int):qf Tryz.prog jeh 10 217 [.agg [.str w,.sl es n ρ],.c (.int .i64 a),.c (.int .i64 b)]=je7 w a b:=by kernel_rfl
theorem jfn (w:ByteArray) (a b:Int):(je7 w a b).All (fun z=>leA z (enc2 (Dc w a b))):=by
 unfold je7 Dc;cases jb w wOr with
 | true=>exact jn rfl leA.refl
 | false =>
 cases jb w z8 with
 | true=>exact jn rfl leA.refl
 | false =>
 cases jb w wEq with
 | true=>exact jn rfl leA.refl
 | false =>
 cases jb w wLt with
 | true=>exact jn rfl leA.refl
 | false =>
 cases jb w wGt with
 | true=>exact jn rfl leA.refl
 | false =>
 cases jb w qJ with
 | true =>
   simp only [cond_false,cond_true];cases (bif lt (IntKind.wrap .i64 (a - b)) (-KM) then true else lt KM (IntKind.wrap .i64 (a - b)))<;>exact jn rfl leA.refl
 | false =>
   simp only [cond_false];cases (bif lt (IntKind.wrap .i64 (a+b)) (-KM) then true else lt KM (IntKind.wrap .i64 (a+b)))<;>exact jn rfl leA.refl
theorem joK:jo Tryz.prog 217 (nG jgE):=by
 refine jV (H:=jeh) jpj 10 217 ?_;intro args r h;unfold jgE at h;split at h
 ·rename_i w es n ρ a b;simp only [sIq,pIq,true_and] at h;subst h;exact ⟨_,jiI w es n ρ a b,jfn w a b⟩
 ·cases h
abbrev BV:=ByteArray->Nat->Val->Nat->Val->Option (Int × Int)
def TJ (V:BV) (d:Val) (n:Nat) (ρ:Val):Option (Int × Int) :=
 bif Nat.beq (d.L []) 3 then V ((d.at 0).S []) ((d.at 1).L []) (d.at 1) n ρ
 else bif Nat.beq (d.L []) 2 then Gm ((d.at 0).S []) ((d.at 1).N []) n ρ
 else bif Nat.beq (d.L []) 1 then some ((d.at 0).N [],0) else none
def inv (V:BV) (d:Val) (n:Nat) (ρ:Val) (K:Int × Int->Tree AV):Tree AV :=
 let o:=V ((d.at 0).S []) ((d.at 1).L []) (d.at 1) n ρ
 let p:=Gm ((d.at 0).S []) ((d.at 1).N []) n ρ
 .br (Nat.beq (d.L []) 3) (.need (os1 o) (K (ov1 (0,0) o))) (.br (Nat.beq (d.L []) 2) (.need (os1 p) (K (ov1 (0,0) p))) (.br (Nat.beq (d.L []) 1) (.need true (K ((d.at 0).N [],0))) .fail))
theorem Lu {β:Type} {enc:β->AV} {V:BV} {d:Val} {n:Nat} {ρ:Val} {K:Int × Int->Tree AV} {f:Int × Int->Option β} (h:∀ v,Sy enc (K v) (f v)):Sy enc (inv V d n ρ K) ((TJ V d n ρ).bind f):=by
 unfold inv TJ;cases Nat.beq (d.L []) 3 with
 | true=>exact Sy.br1 rfl (Sy.bind h)
 | false =>
 refine Sy.br0 rfl ?_;cases Nat.beq (d.L []) 2 with
 | true=>exact Sy.br1 rfl (Sy.bind h)
 | false =>
 refine Sy.br0 rfl ?_;cases Nat.beq (d.L []) 1 with
 | true=>exact Sy.br1 rfl (Sy.need rfl (h _))
 | false=>exact trivial
def VA (V:BV):List A1->Option (Bool × AV)
 | [.agg [.str w,.sl es' m κ],.c (.sl es n ρ)]=>if shEq.shsEq es' [.ifc]&&shEq.shsEq es Ro.siSh then some (os1 (V w m κ n ρ),enc2 (ov1 (0,0) (V w m κ n ρ))) else none
 | _=>none
theorem Oh {V:BV} {args:List A1} {r:AV} (h:VA V args=some (true,r)):∃ w m κ n ρ x,args=[.agg [.str w,.sl [.ifc] m κ],.c (.sl Ro.siSh n ρ)]∧V w m κ n ρ=some x∧r=enc2 x:=by
 unfold VA at h;split at h
 ·split at h
  ·rename_i w es' m κ es n ρ hs;rw [aTq] at hs;simp only [sIq,pIq] at h;cases hR:V w m κ n ρ with
   | none=>rw [hR] at h;cases h.1
   | some x=>rw [hR] at h;exact ⟨w,m,κ,n,ρ,x,by rw [jm hs.1,jm hs.2],hR,h.2.symm⟩
  ·cases h
 ·cases h
noncomputable abbrev jfr (V:BV):Hd:=⟨[],[(213,nG jaO),(214,nG M8),(216,nG T9),(217,nG jgE),(218,nG (VA V))],[],[]⟩
theorem jpn {V:BV} (hV:jo Tryz.prog 218 (nG (VA V))):HdOk Tryz.prog (jfr V):=((((HdOk.nil.ucCons hV).ucCons joK).ucCons je2).ucCons jlK).ucCons jkl
def jbl (κ:Val) (i:Nat):Val:=(κ.at i).at 0
def jem (V:BV) (w:ByteArray) (m:Nat) (κ:Val) (n:Nat) (ρ:Val):Tree AV :=
 .need (jc 0 m) (inv V (jbl κ 0) n ρ fun x=>.br (x.2 != 0) (lf2 0 x.2) (.br (jb w jO) (.need true (lf2 (QD (x.1==0)) 0))
  (.br (bif jb w wOr then x.1 != 0 else false) (lf2 1 0) (.br (bif jb w z8 then x.1==0 else false) (lf2 0 0)
   (.need (jc 1 m) (inv V (jbl κ 1) n ρ fun y=>.br (y.2 != 0) (lf2 0 y.2) (.need true (.leaf (enc2 (Dc w x.1 y.1))))))))))
theorem jhs (V:BV) (w:ByteArray) (m:Nat) (κ:Val) (n:Nat) (ρ:Val):qf Tryz.prog (jfr V) 10 218 [.agg [.str w,.sl [.ifc] m κ],.c (.sl Ro.siSh n ρ)]=jem V w m κ n ρ:=by kernel_rfl
def jaD (V:BV):BV:=fun w m κ n ρ =>
 nd (jc 0 m) ((TJ V (jbl κ 0) n ρ).bind fun x=>bif x.2 != 0 then some (0,x.2) else bif jb w jO then some (QD (x.1==0),0)
  else bif (bif jb w wOr then x.1 != 0 else false) then some (1,0) else bif (bif jb w z8 then x.1==0 else false) then some (0,0)
  else nd (jc 1 m) ((TJ V (jbl κ 1) n ρ).bind fun y=>bif y.2 != 0 then some (0,y.2) else some (Dc w x.1 y.1)))
theorem jeN (V:BV) (w:ByteArray) (m:Nat) (κ:Val) (n:Nat) (ρ:Val):Sy enc2 (jem V w m κ n ρ) (jaD V w m κ n ρ):=by
 unfold jem jaD
 refine Sy.nd id fun _=>Lu fun x=>Sy.cond (fun _=>Sy.ret) fun _=>Sy.cond (fun _=>Sy.need rfl Sy.ret) fun _=>Sy.cond (fun _=>Sy.ret) fun _=>Sy.cond (fun _=>Sy.ret) fun _ =>
  Sy.nd id fun _=>Lu fun y=>Sy.cond (fun _=>Sy.ret) fun _=>Sy.need rfl Sy.ret
theorem jnq {V:BV} (hV:jo Tryz.prog 218 (nG (VA V))):jo Tryz.prog 218 (nG (VA (jaD V))):=by
 refine jV (H:=jfr V) (jpn hV) 10 218 ?_;intro args r h;obtain ⟨w,m,κ,n,ρ,x,e1,h1,e2⟩:=Oh h;refine ⟨_,by rw [e1,jhs],?_⟩
 have:=jeN V w m κ n ρ
 rw [h1] at this;rw [e2];exact this
def LI:Nat->BV
 | 0=>fun _ _ _ _ _=>none
 | f+1=>jaD (LI f)
theorem jke:∀ f,jo Tryz.prog 218 (nG (VA (LI f)))
 | 0 => by
   intro args r h;obtain ⟨w,m,κ,n,ρ,x,_,h1,_⟩:=Oh (zG h);cases h1
 | f+1=>jnq (jke f)
noncomputable abbrev jd2 (f:Nat):Hd:=⟨[],[(75,nG (YC (Jb f))),(136,nG (Uv (HT f))),(213,nG jaO),(214,nG M8),(218,nG (VA (LI f)))],[],[]⟩
theorem jpE (f:Nat):HdOk Tryz.prog (jd2 f):=((((HdOk.nil.ucCons (jke f)).ucCons jlK).ucCons jkl).ucCons (jmw f)).ucCons (jf1 f)
abbrev EvS:=RX->Nat->Val->Option (Int × Int)
def O4 (f:Nat):EvS:=fun e n ρ=>(Jb f e 1).bind fun x=>bif x != 0 then some (0,x) else (HT f e).bind fun d=>(TJ (LI f) d n ρ).bind fun v=>some v
def TL (E:EvS):List A1->Option (Bool × AV)
 | [.agg [.str o,.int .i64 v,.sl es' m κ],.c (.sl es n ρ)]=>if shEq.shsEq es' (jl 0)&&shEq.shsEq es Ro.siSh then some (os1 (E ⟨o,v,m,κ⟩ n ρ),enc2 (ov1 (0,0) (E ⟨o,v,m,κ⟩ n ρ))) else none
 | _=>none
theorem jdB {E:EvS} {args:List A1} {r:AV} (h:TL E args=some (true,r)):∃ o v m κ n ρ x,args=[.agg [.str o,.int .i64 v,.sl (jl 0) m κ],.c (.sl Ro.siSh n ρ)]∧E ⟨o,v,m,κ⟩ n ρ=some x∧r=enc2 x:=by
 unfold TL at h;split at h
 ·split at h
  ·rename_i o v es' m κ es n ρ hs;rw [aTq] at hs;simp only [sIq,pIq] at h;cases hR:E ⟨o,v,m,κ⟩ n ρ with
   | none=>rw [hR] at h;cases h.1
   | some x=>rw [hR] at h;exact ⟨o,v,m,κ,n,ρ,x,by rw [jm hs.1,jm hs.2],hR,h.2.symm⟩
  ·cases h
 ·cases h
def jeb (f:Nat) (e:RX) (n:Nat) (ρ:Val):Tree AV :=
 let x:=Jb f e 1
 let d:=HT f e
 .need (opD x) (.br (opN x != 0) (lf2 0 (opN x)) (.need (os1 d) (inv (LI f) (ov1 .zero d) n ρ fun v=>.leaf (enc2 v))))
theorem jjb (f:Nat) (o:ByteArray) (v:Int) (m:Nat) (κ:Val) (n:Nat) (ρ:Val):qf Tryz.prog (jd2 f) 10 119 [.agg [.str o,.int .i64 v,.sl (jl 0) m κ],.c (.sl Ro.siSh n ρ)]=jeb f ⟨o,v,m,κ⟩ n ρ:=by kernel_rfl
theorem jc4 {o:Option Int}:opN o=ov1 0 o:=by cases o<;>rfl
theorem jcb {o:Option Int}:opD o=os1 o:=by cases o<;>rfl
theorem jez (f:Nat) (e:RX) (n:Nat) (ρ:Val):Sy enc2 (jeb f e n ρ) (O4 f e n ρ):=by
 unfold jeb O4;simp only [jc4,jcb];refine Sy.bind (d:=(0:Int)) (K:=fun x=>.br (x != 0) (lf2 0 x) _) fun x=>Sy.cond (fun _=>Sy.ret) fun _=>Sy.bind (K:=fun d=>inv (LI f) d n ρ fun v=>.leaf (enc2 v)) fun d=>Lu fun v=>Sy.ret
theorem joy (f:Nat):jo Tryz.prog 119 (nG (TL (O4 f))):=by
 refine jV (H:=jd2 f) (jpE f) 10 119 ?_;intro args r h;obtain ⟨o,v,m,κ,n,ρ,x,e1,h1,e2⟩:=jdB h;refine ⟨_,by rw [e1,jjb],?_⟩
 have:=jez f ⟨o,v,m,κ⟩ n ρ
 rw [h1] at this;rw [e2];exact this
structure RU where
 sn:Nat
 sρ:Val
 cn:Nat
 cρ:Val
 pn:Nat
 pρ:Val
 kn:Nat
 kρ:Val
 bg:Int
 at_:Int
def rU0:RU:=⟨0,.zero,0,.zero,0,.zero,0,.zero,0,0⟩
def Jw:Bool->RU->Mem
 | false,x=>[some (86,[.sl Ro.siSh x.sn x.sρ,.sl [.int .i64] x.cn x.cρ,.os 1 1,.os 2 1,.bool false,.int .i64 x.bg,.int .i64 x.at_]),some (9,[.row false [.str] x.pn x.pρ]),some (22,[.row false [.rt 1] x.kn x.kρ])]
 | true,x=>[some (86,[.sl Ro.siSh x.sn x.sρ,.sl [.int .i64] x.cn x.cρ,.os 1 1,.any,.bool true,.int .i64 x.bg,.int .i64 x.at_]),some (9,[.row false [.str] x.pn x.pρ])]
def plC (es:List Sh):CV->Option (Nat × Val)
 | .sl es' n ρ=>if shEq.shsEq es' es then some (n,ρ) else none
 | .nils=>some (0,.zero)
 | _=>none
theorem XL {es:List Sh} {c:CV} {n:Nat} {ρ:Val} (h:plC es c=some (n,ρ)) {F w bs v} (hv:CV.Rel F w bs c v):CV.Rel F w bs (.sl es n ρ) v:=by
 unfold plC at h;split at h
 ·split at h
  ·rename_i hs;simp only [sIq,pIq] at h;rw [← jm hs,← h.1,← h.2];exact hv
  ·cases h
 ·simp only [sIq,pIq] at h;rw [← h.1,← h.2];cases hv;exact .slnil
 ·cases h
theorem XN {es:List Sh} {c:CV} {y:Nat × Val} (h:plC es c=some y) (r:List CV):je (c::r)=false:=by
 cases c<;>first | rfl | (simp [plC] at h;done)
def Rf:Mem->Option RU
 | [some (86, [c0, c1, .os 1 1, .os 2 1, .bool false, .int .i64 bg, .int .i64 a]), some (9, [.row false [.str] pn pρ]), some (22, [.row false [.rt 1] kn kρ])] =>
   (match plC Ro.siSh c0,plC [.int .i64] c1 with
  | some (sn,sρ),some (cn,cρ)=>some ⟨sn,sρ,cn,cρ,pn,pρ,kn,kρ,bg,a⟩
  | _,_=>none)
 | _=>none
def Rj:Mem->Option RU
 | [some (86, [c0, c1, .os 1 1, .any, .bool true, .int .i64 bg, .int .i64 a]), some (9, [.row false [.str] pn pρ])] =>
   (match plC Ro.siSh c0,plC [.int .i64] c1 with
  | some (sn,sρ),some (cn,cρ)=>some ⟨sn,sρ,cn,cρ,pn,pρ,0,.zero,bg,a⟩
  | _,_=>none)
 | _=>none
def ClR:Bool->Clus RU
 | false=>⟨Jw false,Rf,fun b m=>V7 b [(2,9,[.str]),(3,22,[.rt 1])] m⟩
 | true=>⟨Jw true,Rj,fun b m=>Nr b 3 (V7 b [(2,9,[.str])] m)⟩
theorem RV {F w bs} {c0 c1 d0 d1:CV} {r:List CV} {vs:List Value} (h0:∀ v,CV.Rel F w bs c0 v->CV.Rel F w bs d0 v) (h1:∀ v,CV.Rel F w bs c1 v->CV.Rel F w bs d1 v) (h:All2 (CV.Rel F w bs) (c0::c1::r) vs):All2 (CV.Rel F w bs) (d0::d1::r) vs:=by
 cases h with
 | cons a h=>cases h with
  | cons b h=>exact .cons (h0 _ a) (.cons (h1 _ b) h)
theorem GV {m : Mem} {x : RU} (h : Rf m = some x) : ∃ c0 c1, plC Ro.siSh c0 = some (x.sn, x.sρ) ∧ plC [.int .i64] c1 = some (x.cn, x.cρ) ∧
  m=[some (86,[c0,c1,.os 1 1,.os 2 1,.bool false,.int .i64 x.bg,.int .i64 x.at_]),some (9,[.row false [.str] x.pn x.pρ]),some (22,[.row false [.rt 1] x.kn x.kρ])]:=by
 unfold Rf at h;split at h
 ·split at h
  ·rename_i h0 h1;cases h;exact ⟨_,_,h0,h1,rfl⟩
  ·cases h
 ·cases h
theorem G9 {m : Mem} {x : RU} (h : Rj m = some x) : ∃ c0 c1, plC Ro.siSh c0 = some (x.sn, x.sρ) ∧ plC [.int .i64] c1 = some (x.cn, x.cρ) ∧
  m=[some (86,[c0,c1,.os 1 1,.any,.bool true,.int .i64 x.bg,.int .i64 x.at_]),some (9,[.row false [.str] x.pn x.pρ])]:=by
 unfold Rj at h;split at h
 ·split at h
  ·rename_i h0 h1;cases h;exact ⟨_,_,h0,h1,rfl⟩
  ·cases h
 ·cases h
theorem Lb:∀ u,(ClR u).Ok
 | false => {
   get:=fun m x h P F w bs hm=>by
    obtain ⟨c0,c1,h0,h1,rfl⟩:=GV h;exact hm.cellsTo (b:=0) (T:=86) rfl (XN h0 _) (ds:=[.sl Ro.siSh x.sn x.sρ,.sl [.int .i64] x.cn x.cρ,.os 1 1,.os 2 1,.bool false,.int .i64 x.bg,.int .i64 x.at_]) rfl fun _ _ _ _ h=>RV (fun _ hv=>XL h0 hv) (fun _ hv=>XL h1 hv) h
   liv:=fun m x h k y T cs hk hl=>by
    obtain ⟨c0,c1,h0,h1,rfl⟩:=GV h
    match k,hk with
    | 0,hk=>exact ⟨_,_,rfl,qc (XN h0 _)⟩
    | 1,hk=>cases hk;exact ⟨_,_,rfl,hl⟩
    | 2,hk=>cases hk;exact ⟨_,_,rfl,hl⟩
    | k+3,hk=>cases hk
   ok:=fun x=>rfl
   prep:=fun P F w bs b mem hm=>KL b _ hm }
 | true => {
   get:=fun m x h P F w bs hm=>by
    obtain ⟨c0,c1,h0,h1,rfl⟩:=G9 h;exact hm.cellsTo (b:=0) (T:=86) rfl (XN h0 _) (ds:=[.sl Ro.siSh x.sn x.sρ,.sl [.int .i64] x.cn x.cρ,.os 1 1,.any,.bool true,.int .i64 x.bg,.int .i64 x.at_]) rfl fun _ _ _ _ h=>RV (fun _ hv=>XL h0 hv) (fun _ hv=>XL h1 hv) h
   liv:=fun m x h k y T cs hk hl=>by
    obtain ⟨c0,c1,h0,h1,rfl⟩:=G9 h
    match k,hk with
    | 0,hk=>exact ⟨_,_,rfl,qc (XN h0 _)⟩
    | 1,hk=>cases hk;exact ⟨_,_,rfl,hl⟩
    | k+2,hk=>cases hk
   ok:=fun x=>rfl
   prep:=fun P F w bs b mem hm=>by
    obtain ⟨bs',h1,h2⟩:=KL b [(2,9,[.str])] hm;exact ⟨bs',h1,jaT h2 b 3⟩ }
abbrev MSp:=Bool->List A1->RU->Tree (AV × RU)
def zE (u:MSp):List A1->Mem->Tree (AV × Mem)
 | .c (.ptr b 0)::rest,mem=>match nth mem b with
  | some (some (_,cs))=>(match nth cs 4 with
   | some (.bool true)=>clG (ClR true) (u true) (.c (.ptr b 0)::rest) mem
   | some (.bool false)=>clG (ClR false) (u false) (.c (.ptr b 0)::rest) mem
   | _=>.fail)
  | _=>.fail
 | _,_=>.fail
theorem Mq {P:Program} {f:Nat} {u:MSp} (h:∀ b,js P f (clG (ClR b) (u b))):js P f (zE u):=by
 intro args mem r mem' hG;unfold zE at hG;split at hG
 ·split at hG
  ·split at hG
   ·exact h true _ _ _ _ hG
   ·exact h false _ _ _ _ hG
   ·simp [Tree.sel] at hG
  ·simp [Tree.sel] at hG
 ·simp [Tree.sel] at hG
def uS {β:Type} (enc:β->AV) (d:β) (sp:RU->Option (β × RU)) (x:RU):Tree (AV × RU) :=
 .need (os1 (sp x)) (.leaf (enc (ov1 (d,rU0) (sp x)).1,(ov1 (d,rU0) (sp x)).2))
theorem KB {β:Type} {enc:β->AV} {d:β} {sp:RU->Option (β × RU)} {x:RU} {z:AV × RU} (h:(uS enc d sp x).sel=some z):∃ v x',sp x=some (v,x')∧z=(enc v,x'):=by
 unfold uS at h;cases hs:sp x with
 | none=>rw [hs] at h;cases h
 | some y=>rw [hs] at h;cases h;exact ⟨_,_,rfl,rfl⟩
def SyC {β:Type} (u:Bool) (enc:β->AV) (T:Tree (AV × RU)):Option (β × RU)->Prop
 | none=>True
 | some (v,x')=>∃ y,T.sel=some y∧leA y.1 (enc v)∧Jw u y.2=Jw u x'
section
variable {β γ:Type} {u:Bool} {enc:β->AV}
theorem SyC.cond {c:Bool} {T E:Tree (AV × RU)} {a b:Option (β × RU)} (h1:c=true->SyC u enc T a) (h2:c=false->SyC u enc E b):SyC u enc (.br c T E) (bif c then a else b):=by
 cases c with
 | true =>
   have:=h1 rfl
   show SyC u enc _ a;cases a with
  | none=>exact trivial
  | some y=>exact this
 | false =>
   have:=h2 rfl
   show SyC u enc _ b;cases b with
  | none=>exact trivial
  | some y=>exact this
theorem SyC.nd {c d:Bool} {T:Tree (AV × RU)} {a:Option (β × RU)} (h:c=true->d=true) (h1:c=true->SyC u enc T a):SyC u enc (.need d T) (Go.Proofs.YtiefjlcakpdfeaaGreatDoor.nd c a):=by
 cases c with
 | false=>exact trivial
 | true =>
   have:=h1 rfl
   show SyC u enc _ a;rw [h rfl];cases a with
  | none=>exact trivial
  | some y=>exact this
theorem SyC.need {d:Bool} {T:Tree (AV × RU)} {a:Option (β × RU)} (h:d=true) (h1:SyC u enc T a):SyC u enc (.need d T) a:=by
 subst h;cases a with
 | none=>exact trivial
 | some y=>exact h1
theorem SyC.ret {v:β} {x:RU}:SyC u enc (.leaf (enc v,x)) (some (v,x)):=⟨_,rfl,leA.refl,rfl⟩
theorem SyC.ret' {r:AV} {v:β} {x x':RU} (h:leA r (enc v)) (hx:Jw u x=Jw u x'):SyC u enc (.leaf (r,x)) (some (v,x')):=⟨_,rfl,h,hx⟩
theorem SyC.br1 {c:Bool} {T E:Tree (AV × RU)} {a:Option (β × RU)} (hc:c=true) (h:SyC u enc T a):SyC u enc (.br c T E) a:=by
 subst hc;cases a with
 | none=>exact trivial
 | some y=>exact h
theorem SyC.br0 {c:Bool} {T E:Tree (AV × RU)} {a:Option (β × RU)} (hc:c=false) (h:SyC u enc E a):SyC u enc (.br c T E) a:=by
 subst hc;cases a with
 | none=>exact trivial
 | some y=>exact h
end
theorem VQ {H : Hd} (hH : HdOk Tryz.prog H) {X : HdP} (hX : XOk Tryz.prog X) (n f : Nat) {u : MSp}
  (h:∀ b rest x z,(u b rest x).sel=some z->∃ y,(JI (ClR b) Tryz.prog H X n f rest x).sel=some y∧leA y.1 z.1∧Jw b y.2=Jw b z.2):js Tryz.prog f (zE u) :=
 Mq fun b=>FJ (Lb b) hH hX n f fun rest x z hz=>by
  obtain ⟨y,h1,h2,h3⟩:=h b rest x z hz;refine ⟨y,h1,h2,fun F w bs hm => ?_⟩;have e:∀ x,(ClR b).lay x=Jw b x:=fun x=>by cases b<;>rfl
  rw [e] at hm ⊢;rw [← h3];exact hm
def nk:Bool->RU->RU
 | false,x=>x
 | true,x=>{ x with kn:=0,kρ:=.zero }
theorem Mk (u:Bool) (x:RU):Jw u (nk u x)=Jw u x:=by cases u<;>rfl
theorem SyC.rt {β:Type} {u:Bool} {enc:β->AV} {v:β} {x:RU}:SyC u enc (.leaf (enc v,nk u x)) (some (v,x)):=.ret' leA.refl (Mk u x)
def Be (u:Bool) (x:RU):Option (Bool × RU) :=
 bif (bif u then true else ja x.cn==0) then some (false,x)
 else nd (jc 0 x.cn) (nd (le 0 1&&le 1 (ja x.cn)) (some (((x.cρ.at 0).at 0).N [] |>.tmod 2 |> (· != 0),{ x with cn:=x.cn - 1,cρ:=x.cρ.from 1 })))
def jdZ:MSp:=fun u rest x=>match rest with
 | []=>uS jI false (Be u) x
 | _=>.fail
noncomputable abbrev HE:Hd:=⟨[],[],[],[]⟩
def t173 (u:Bool) (x:RU):Tree (AV × RU) :=
 .br (bif u then true else ja x.cn==0) (.leaf (jI false,nk u x)) (.need (jc 0 x.cn) (.need (le 0 1&&le 1 (ja x.cn)) (.need true
  (.leaf (jI (((x.cρ.at 0).at 0).N [] |>.tmod 2 |> (· != 0)),nk u { x with cn:=x.cn - 1,cρ:=x.cρ.from 1 })))))
theorem jjT (u:Bool) (x:RU):JI (ClR u) Tryz.prog HE X3 10 116 [] x=t173 u x:=by cases u<;>kernel_rfl
theorem jpI:js Tryz.prog 116 (zE jdZ):=VQ (H:=HE) (X:=X3) HdOk.nil x3 10 116 fun u rest x z hz=>by
 unfold jdZ at hz;split at hz
 rotate_left
 ·cases hz
 obtain ⟨v,x',h1,rfl⟩:=KB hz
 have h:SyC u jI (t173 u x) (Be u x):=by
  unfold t173 Be;exact SyC.cond (fun _=>SyC.rt) fun _=>SyC.nd id fun _=>SyC.nd id fun _=>SyC.need rfl SyC.rt
 rw [h1] at h;rw [jjT];exact h
def spc:ByteArray:=bs [32]
def wUndoS:ByteArray:=bs [117,110,100,111,32]
def Bb (x:RU) (l:ByteArray):RU:={ x with pn:=x.pn+1,pρ:=Val.cat x.pn x.pρ (yA l) }
def QA (u:Bool) (m:Nat) (σ:Val) (x:RU):Option (Unit × RU) :=
 nd (J1 m σ spc) (bif u then nd (Nat.ble (wUndoS.size+(Jh m σ spc).size) 9223372036854775807) (nd (Nat.ble ((x.pn+1)*16) 140737488355328) (some ((),Bb x (zh wUndoS (Jh m σ spc)))))
  else nd (Nat.ble ((x.pn+1)*16) 140737488355328) (some ((),Bb x (Jh m σ spc))))
def Fy:MSp:=fun u rest x=>match rest with
 | [.c (.sl [.str] m σ)]=>uS Qh () (QA u m σ) x
 | _=>.fail
noncomputable abbrev H18:Hd:=⟨[],[(25,nG G18)],[],[]⟩
theorem h18:HdOk Tryz.prog H18:=HdOk.nil.ucCons p18
def jfT (u:Bool) (m:Nat) (σ:Val) (x:RU):Tree (AV × RU) :=
 .need (J1 m σ spc) (.br u (.need (Nat.ble (wUndoS.size+(Jh m σ spc).size) 9223372036854775807) (.need (Nat.ble ((x.pn+1)*16) 140737488355328) (.leaf (Qh (),nk u (Bb x (zh wUndoS (Jh m σ spc)))))))
  (.need (Nat.ble ((x.pn+1)*16) 140737488355328) (.leaf (Qh (),nk u (Bb x (Jh m σ spc))))))
theorem jhz (u:Bool) (m:Nat) (σ:Val) (x:RU):JI (ClR u) Tryz.prog H18 X3 10 72 [.c (.sl [.str] m σ)] x=jfT u m σ x:=by cases u<;>kernel_rfl
theorem jgs:js Tryz.prog 72 (zE Fy):=VQ (H:=H18) (X:=X3) h18 x3 10 72 fun u rest x z hz=>by
 unfold Fy at hz;split at hz
 rotate_left
 ·cases hz
 rename_i m σ;obtain ⟨v,x',h1,rfl⟩:=KB hz
 have h:SyC u Qh (jfT u m σ x) (QA u m σ x):=by
  unfold jfT QA;exact SyC.nd id fun _=>SyC.cond (fun _=>SyC.nd id fun _=>SyC.nd id fun _=>SyC.rt) fun _=>SyC.nd id fun _=>SyC.rt
 rw [h1] at h;rw [jhz];exact h
abbrev RpF:=Nat->Val->Int->Option (Nat × Val)
structure Par where
 O:OpF
 E:EvS
 R:RpF
def jbe (R:RpF):List A1->Option (Bool × AV)
 | [.c (.sl [.rt 1] m κ),.c (.int .i64 c)]=>some (os1 (R m κ c),.one (.c (.sl [.rt 1] (ov1 (0,.zero) (R m κ c)).1 (ov1 (0,.zero) (R m κ c)).2)))
 | _=>none
structure ParOk (p:Par):Prop where
 op:jo Tryz.prog 117 (nG (LR p.O))
 ev:jo Tryz.prog 119 (nG (TL p.E))
 rp:jo Tryz.prog 97 (nG (jbe p.R))
def jco (x:RU) (n:Nat) (ρ:Val):RU:={ x with kn:=x.kn+1,kρ:=Val.cat x.kn x.kρ (Val.ofFlat 1 [.sl (jl 1) n ρ]) }
def BY (x:RU) (r:Int × Val):RU:={ x with sn:=bif r.1==0 then x.sn else 0,sρ:=r.2 }
def doS (p:Par) (u:Bool) (s:RS) (x:RU):Option (Int × RU) :=
 (Be u x).bind fun y=>bif y.1 then some (29,y.2) else (p.O y.2.sn y.2.sρ s.wn s.wρ).bind fun r=>bif r.1 != 0 then some (r.1,y.2) else
  nd (Nat.ble ((1+s.wn)*16) 140737488355328) ((QA u (1+s.wn) (Val.cat 1 (yA wDo) s.wρ) (nk u (BY y.2 r))).bind fun z=>bif !u then nd (Nat.ble ((z.2.kn+1)*24) 140737488355328) (some (0,jco z.2 s.bn s.bρ)) else some (0,z.2))
def NG:A1->Option RS
 | .agg [.str kd,.sl [.str] wn wρ,.str o,.int .i64 v,.sl e1 cn cρ,.sl e2 bn bρ,.sl e3 en eρ,.int .i64 a]=>if shEq.shsEq e1 (jl 0)&&shEq.shsEq e2 (jl 1)&&shEq.shsEq e3 (jl 1) then some ⟨kd,wn,wρ,⟨o,v,cn,cρ⟩,bn,bρ,en,eρ,a⟩ else none
 | _=>none
theorem K6 {a:A1} {s:RS} (h:NG a=some s):a=.agg s.cells:=by
 unfold NG at h;split at h
 ·split at h
  ·rename_i hs;simp only [aTq] at hs;cases h;rw [jm hs.1.1,jm hs.1.2,jm hs.2];rfl
  ·cases h
 ·cases h
def jff (p:Par):MSp:=fun u rest x=>match rest with
 | [a]=>(match NG a with
  | some s=>uS encI 0 (doS p u s) x
  | none=>.fail)
 | _=>.fail
noncomputable abbrev jee (p:Par):Hd:=⟨[],[(117,nG (LR p.O))],[],[(72,zE Fy),(116,zE jdZ)]⟩
theorem jpe {p:Par} (hp:ParOk p):HdOk Tryz.prog (jee p):=((HdOk.nil.mcCons jpI).mcCons jgs).ucCons hp.op
def joh (s:RS) (x:RU):Bool->Tree (AV × RU)
 | false=>.need (Nat.ble ((x.kn+1)*24) 140737488355328) (.leaf (encI 0,jco x s.bn s.bρ))
 | true=>.fail
def je5 (p:Par) (u:Bool) (s:RS) (x:RU):Tree (AV × RU) :=
 let st:=Be u x
 let y:=ov1 (false,rU0) st
 let o:=p.O y.2.sn y.2.sρ s.wn s.wρ
 let nt:=QA u (1+s.wn) (Val.cat 1 (yA wDo) s.wρ) (nk u (BY y.2 (orV o)))
 let z:=ov1 ((),rU0) nt
 .need (os1 st) (.br y.1 (.leaf (encI 29,nk u y.2)) (.need (orB o) (.br ((orV o).1 != 0) (.leaf (encI (orV o).1,nk u y.2))
  (.need (Nat.ble ((1+s.wn)*16) 140737488355328) (.need (os1 nt) (.br (!u) (joh s z.2 u) (.leaf (encI 0,nk u z.2))))))))
theorem jh4 (p:Par) (u:Bool) (s:RS) (x:RU):JI (ClR u) Tryz.prog (jee p) X3 10 96 [.agg s.cells] x=je5 p u s x:=by cases u<;>kernel_rfl
theorem jlM {o:OR}:orB o=os1 o:=by cases o<;>rfl
theorem jl7 {o:OR}:orV o=ov1 (0,.zero) o:=by cases o<;>rfl
theorem jes (p:Par) (u:Bool) (s:RS) (x:RU):SyC u encI (je5 p u s x) (doS p u s x):=by
 unfold je5 doS;simp only [jlM,jl7];cases Be u x with
 | none=>exact trivial
 | some y =>
 simp only [os1,ov1,Option.bind];refine SyC.need rfl (SyC.cond (fun _=>SyC.rt) fun _ => ?_);cases p.O y.2.sn y.2.sρ s.wn s.wρ with
 | none=>exact trivial
 | some r =>
 simp only;refine SyC.need rfl (SyC.cond (fun _=>SyC.rt) fun _=>SyC.nd id fun _ => ?_);cases QA u (1+s.wn) (Val.cat 1 (yA wDo) s.wρ) (nk u (BY y.2 r)) with
 | none=>exact trivial
 | some z =>
 simp only;refine SyC.need rfl ?_;cases u with
 | false=>exact SyC.br1 rfl (SyC.nd id fun _=>SyC.ret)
 | true=>exact SyC.br0 rfl SyC.rt
theorem jpV {p:Par} (hp:ParOk p):js Tryz.prog 96 (zE (jff p)):=VQ (H:=jee p) (X:=X3) (jpe hp) x3 10 96 fun u rest x z hz=>by
 unfold jff at hz;split at hz
 rotate_left
 ·cases hz
 split at hz
 rotate_left
 ·cases hz
 rename_i a s hs;rw [K6 hs,jh4];obtain ⟨v,x',h1,rfl⟩:=KB hz;have h:=jes p u s x;rw [h1] at h;exact h
abbrev BE:=Nat × Val × Int
def G6 (x:BE):AV:=.tup [.c (.sl (jl 1) x.1 x.2.1),.c (.int .i64 x.2.2)]
def Y7 (p:Par) (_:Bool) (s:RS) (x:RU):Option (BE × RU) :=
 (p.E s.cond x.sn x.sρ).bind fun v=>bif v.2 != 0 then some ((0,.zero,v.2),x) else bif v.1 != 0 then some ((s.bn,s.bρ,0),x) else bif jb s.kind jT then some ((0,.zero,12),x) else some ((s.en,s.eρ,0),x)
def jgt (p:Par):MSp:=fun u rest x=>match rest with
 | [a]=>(match NG a with
  | some s=>uS G6 (0,.zero,0) (Y7 p u s) x
  | none=>.fail)
 | _=>.fail
noncomputable abbrev jer (p:Par):Hd:=⟨[],[(119,nG (TL p.E))],[],[]⟩
theorem jpQ {p:Par} (hp:ParOk p):HdOk Tryz.prog (jer p):=HdOk.nil.ucCons hp.ev
def B0 (e:Int):AV:=.tup [.c .nils,.c (.int .i64 e)]
theorem Mx {e:Int}:leA (B0 e) (G6 (0,.zero,e)):=ZH (.cons (.c fun _ _ _ h=>by cases h;exact .slnil) (.cons (.c leC.refl) .nil))
def jen (p:Par) (u:Bool) (s:RS) (x:RU):Tree (AV × RU) :=
 let o:=p.E s.cond x.sn x.sρ
 let v:=ov1 (0,0) o
 .need (os1 o) (.br (v.2 != 0) (.leaf (B0 v.2,nk u x)) (.br (v.1 != 0) (.leaf (G6 (s.bn,s.bρ,0),nk u x)) (.br (jb s.kind jT) (.leaf (B0 12,nk u x)) (.leaf (G6 (s.en,s.eρ,0),nk u x)))))
theorem ji4 (p:Par) (u:Bool) (s:RS) (x:RU):JI (ClR u) Tryz.prog (jer p) X3 10 98 [.agg s.cells] x=jen p u s x:=by cases u<;>kernel_rfl
theorem SyC.rl {β:Type} {u:Bool} {enc:β->AV} {r:AV} {v:β} {x:RU} (h:leA r (enc v)):SyC u enc (.leaf (r,nk u x)) (some (v,x)):=.ret' h (Mk u x)
theorem joD {p:Par} (hp:ParOk p):js Tryz.prog 98 (zE (jgt p)):=VQ (H:=jer p) (X:=X3) (jpQ hp) x3 10 98 fun u rest x z hz=>by
 unfold jgt at hz;split at hz
 rotate_left
 ·cases hz
 split at hz
 rotate_left
 ·cases hz
 rename_i a s hs;rw [K6 hs,ji4];obtain ⟨v,x',h1,rfl⟩:=KB hz
 have h:SyC u G6 (jen p u s x) (Y7 p u s x):=by
  unfold jen Y7;cases p.E s.cond x.sn x.sρ with
  | none=>exact trivial
  | some v =>
  simp only [os1,ov1,Option.bind];exact SyC.need rfl (SyC.cond (fun _=>SyC.rl Mx) fun _=>SyC.cond (fun _=>SyC.rt) fun _=>SyC.cond (fun _=>SyC.rl Mx) fun _=>SyC.rt)
 rw [h1] at h;exact h
end Go.Proofs.YtiefjlcakpdfeaaGreatDoor