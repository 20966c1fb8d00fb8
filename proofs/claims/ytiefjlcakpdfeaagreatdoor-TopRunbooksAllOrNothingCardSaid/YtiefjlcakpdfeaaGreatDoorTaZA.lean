/-
 Part TaZA of the proof: RcF RcG.
-/
import Derived.Test.YtiefjlcakpdfeaaGreatDoorTaZ
namespace Go.Proofs.YtiefjlcakpdfeaaGreatDoor
open Go Go.Sx Go.RowKit Rb
set_option maxRecDepth 100000
def os1 {β:Type}:Option β->Bool | some _=>true | none=>false
def ov1 {β:Type} (d:β):Option β->β | some x=>x | none=>d
def Sy {β:Type} (enc:β->AV) (T:Tree AV):Option β->Prop
 | none=>True
 | some x=>T.All (fun z=>leA z (enc x))
section
variable {β γ:Type} {enc:β->AV}
theorem Sy.cond {c:Bool} {T E:Tree AV} {a b:Option β} (h1:c=true->Sy enc T a) (h2:c=false->Sy enc E b):Sy enc (.br c T E) (bif c then a else b):=by
 cases c with
 | true =>
   have:=h1 rfl
   show Sy enc _ a;cases a with
  | none=>exact trivial
  | some y=>exact ⟨fun _=>this,(fun h=>by cases h)⟩
 | false =>
   have:=h2 rfl
   show Sy enc _ b;cases b with
  | none=>exact trivial
  | some y=>exact ⟨(fun h=>by cases h),fun _=>this⟩
theorem Sy.nd {c d:Bool} {T:Tree AV} {a:Option β} (h:c=true->d=true) (h1:c=true->Sy enc T a):Sy enc (.need d T) (Go.Proofs.YtiefjlcakpdfeaaGreatDoor.nd c a):=by
 cases c with
 | false=>exact trivial
 | true =>
   have:=h1 rfl
   show Sy enc _ a;cases a with
  | none=>exact trivial
  | some y=>exact ⟨h rfl,this⟩
theorem Sy.need {d:Bool} {T:Tree AV} {a:Option β} (h:d=true) (h1:Sy enc T a):Sy enc (.need d T) a:=by
 cases a with
 | none=>exact trivial
 | some y=>exact ⟨h,h1⟩
theorem Sy.ret {v:β}:Sy enc (.leaf (enc v)) (some v):=leA.refl
theorem Sy.ret' {v:β} {r:AV} (h:leA r (enc v)):Sy enc (.leaf r) (some v):=h
theorem Sy.bind {d:γ} {o:Option γ} {K:γ->Tree AV} {f:γ->Option β} (h:∀ v,Sy enc (K v) (f v)):Sy enc (.need (os1 o) (K (ov1 d o))) (o.bind f):=by
 cases o with
 | none=>exact trivial
 | some v =>
   have:=h v
   show Sy enc _ (f v);cases hf:f v with
  | none=>exact trivial
  | some y=>rw [hf] at this;exact ⟨rfl,this⟩
theorem Sy.br1 {c:Bool} {T E:Tree AV} {a:Option β} (hc:c=true) (h:Sy enc T a):Sy enc (.br c T E) a:=by
 subst hc;cases a with
 | none=>exact trivial
 | some y=>exact ⟨fun _=>h,fun h=>by cases h⟩
theorem Sy.br0 {c:Bool} {T E:Tree AV} {a:Option β} (hc:c=false) (h:Sy enc E a):Sy enc (.br c T E) a:=by
 subst hc;cases a with
 | none=>exact trivial
 | some y=>exact ⟨(fun h=>by cases h),fun _=>h⟩
end
def enc2 (x:Int × Int):AV:=.tup [.c (.int .i64 x.1),.c (.int .i64 x.2)]
def encI (x:Int):AV:=.one (.c (.int .i64 x))
def jF (x:Bool):AV:=.one (.c (.bool x))
def lf2 (a b:Int):Tree AV:=.leaf (enc2 (a,b))
abbrev RN:=RX->Option Val
def V7 (R:RN):List A1->Option (Bool × AV)
 | [.agg [.str o,.int .i64 v,.sl es n ρ]]=>if shEq.shsEq es (jm 0) then some (os1 (R ⟨o,v,n,ρ⟩),.one (.c (.ifx (ov1 .zero (R ⟨o,v,n,ρ⟩))))) else none
 | _=>none
def jhH (d:Val):AV:=.one (.c (.ifx d))
theorem OG {R:RN} {args:List A1} {r:AV} (h:V7 R args=some (true,r)):∃ o v n ρ x,args=[.agg [.str o,.int .i64 v,.sl (jm 0) n ρ]]∧R ⟨o,v,n,ρ⟩=some x∧r=jhH x:=by
 unfold V7 at h;split at h
 ·split at h
  ·rename_i o v es n ρ hs;simp only [sIq,pIq] at h;cases hR:R ⟨o,v,n,ρ⟩ with
   | none=>rw [hR] at h;cases h.1
   | some x=>rw [hR] at h;exact ⟨o,v,n,ρ,x,by rw [jj hs],hR,h.2.symm⟩
  ·cases h
 ·cases h
noncomputable abbrev jeV (R:RN):Hd:=⟨[],[(136,nG (V7 R))],[],[]⟩
theorem jqx {R:RN} (hR:UcOne Tryz.prog 136 (nG (V7 R))):HdOk Tryz.prog (jeV R):=HdOk.nil.ucCons hR
abbrev X3:HdP:=⟨[],[],[],[],[],3,[]⟩
theorem x3:XOk Tryz.prog X3:=XOk.nil
def k1V (d:Val):Val:=Val.ofFlat 1 [.ifx d]
def k2V (a b:Val):Val:=Val.cat 1 (k1V a) (k1V b)
def jat (o:ByteArray) (n:Nat) (ρ:Val):CV:=.ifa 206 [.str o,.sl [.ifc] n ρ]
def lfC (x:CV):Tree AV:=.leaf (.one (.c x))
def jfg (R:RN) (e:RX):Tree AV :=
 let a:=R (jW e.ρ 0)
 let b:=R (jW e.ρ 1)
 let c:=R (jW e.ρ 2)
 let av:=ov1 .zero a
 let bv:=ov1 .zero b
 .br (jb e.op qy) (lfC (.iface 201 (.int .i64 e.v))) (.br (ja e.n==0) (lfC (.ifa 203 [.str e.op,.int .i64 e.v]))
  (.br (lt 0 (ja e.n)) (.need (jc 0 e.n) (.need (os1 a) (.need (Nat.ble (1*16) 140737488355328)
   (.br (lt 1 (ja e.n)) (.need (jc 1 e.n) (.need (os1 b) (.need (Nat.ble (2*16) 140737488355328)
    (.br (lt 2 (ja e.n)) (.need (jc 2 e.n) (.need (os1 c) (.need (Nat.ble (3*16) 140737488355328) .fail)))
     (lfC (jat e.op 2 (k2V av bv)))))))
    (lfC (jat e.op 1 (k1V av))))))) (lfC (.ifa 206 [.str e.op,.nils]))))
theorem jll (R:RN) (o:ByteArray) (v:Int) (n:Nat) (ρ:Val):qf Tryz.prog (jeV R) X3 10 136 [.agg [.str o,.int .i64 v,.sl (jm 0) n ρ]]=jfg R ⟨o,v,n,ρ⟩:=by kernel_rfl
theorem jke {x:CV} (h:fits .ifc x=true):leC x (.ifx (Val.ofC x)):=fun _ _ _ hv=>QC (s:=.ifc) hv h
theorem U8 {x:CV} (h:fits .ifc x=true):leA (.one (.c x)) (jhH (Val.ofC x)):=YQ (.c (jke h))
def Rn (R:RN) (e:RX):Option Val :=
 bif jb e.op qy then some (Val.ofC (.iface 201 (.int .i64 e.v)))
 else bif ja e.n==0 then some (Val.ofC (.ifa 203 [.str e.op,.int .i64 e.v]))
 else bif ja e.n==1 then (R (jW e.ρ 0)).bind fun a=>some (Val.ofC (jat e.op 1 (k1V a)))
 else bif ja e.n==2 then (R (jW e.ρ 0)).bind fun a=>(R (jW e.ρ 1)).bind fun b=>some (Val.ofC (jat e.op 2 (k2V a b)))
 else none
theorem jf4 (R:RN) (e:RX):Sy jhH (jfg R e) (Rn R e):=by
 unfold jfg Rn;refine Sy.cond (fun _=>Sy.ret' (U8 rfl)) fun _=>Sy.cond (fun _=>Sy.ret' (U8 rfl)) fun h0 => ?_;have h0:e.n ≠ 0:=fun h=>by rw [h] at h0;cases h0
 have g0:lt 0 (ja e.n)=true:=by unfold lt ja;simp;omega
 have i0:jc 0 e.n=true:=by unfold jc le lt ja;simp;omega
 refine Sy.br1 g0 (Sy.need i0 ?_);cases h1:(ja e.n==1) with
 | true =>
   have h1:e.n=1:=by simp [ja] at h1;omega
   refine Sy.bind fun a=>Sy.need rfl (Sy.br0 ?_ (Sy.ret' (U8 rfl)));rw [h1];rfl
 | false =>
   have h1:e.n ≠ 1:=fun h=>by rw [h] at h1;cases h1
   have g1:lt 1 (ja e.n)=true:=by unfold lt ja;simp;omega
   have i1:jc 1 e.n=true:=by unfold jc le lt ja;simp;omega
   cases h2:(ja e.n==2) with
  | true =>
    have h2:e.n=2:=by simp [ja] at h2;omega
    refine Sy.bind fun a=>Sy.need rfl (Sy.br1 g1 (Sy.need i1 (Sy.bind fun b=>Sy.need rfl (Sy.br0 ?_ (Sy.ret' (U8 rfl))))));rw [h2];rfl
  | false=>exact trivial
theorem jqa {R:RN} (hR:UcOne Tryz.prog 136 (nG (V7 R))):UcOne Tryz.prog 136 (nG (V7 (Rn R))):=by
 refine jR (H:=jeV R) (X:=X3) (jqx hR) x3 10 136 ?_;intro args r h;obtain ⟨o,v,n,ρ,x,e1,h1,e2⟩:=OG h;rw [e1,e2,jll]
 have:=jf4 R ⟨o,v,n,ρ⟩
 rw [h1] at this;exact this
def Hy:Nat->RN
 | 0=>fun _=>none
 | f+1=>Rn (Hy f)
theorem joy:∀ f,UcOne Tryz.prog 136 (nG (V7 (Hy f)))
 | 0 => by
   intro args r h;obtain ⟨o,v,n,ρ,x,_,h1,_⟩:=OG (zA h);cases h1
 | f+1=>jqa (joy f)
def Qr (b:Bool):Int:=bif b then 1 else 0
def D6:List A1->Option (Bool × AV)
 | [.c (.bool b)]=>some (true,encI (Qr b))
 | _=>none
def jrJ (b:Bool):Tree AV:=.br b (.leaf (encI 1)) (.leaf (encI 0))
theorem ji5 (b:Bool):j5 Tryz.prog h00 10 216 [.c (.bool b)]=jrJ b:=by kernel_rfl
theorem jgd:UcOne Tryz.prog 216 (nG D6):=by
 refine jX (H:=h00) HdOk.nil 10 216 ?_;intro args r h;unfold D6 at h;split at h
 ·rename_i b;simp only [sIq,pIq,true_and] at h;subst h;refine ⟨_,ji5 b,?_⟩;cases b<;>exact jl rfl leA.refl
 ·cases h
def jbt:List A1->Option (Bool × AV)
 | [.c (.int .i64 v),.c (.sl _ _ _)]=>some (true,enc2 (v,0))
 | _=>none
theorem jny:UcOne Tryz.prog 213 (nG jbt):=by
 refine jX (H:=h00) HdOk.nil 10 213 ?_;intro args r h;unfold jbt at h;split at h
 ·rename_i v es n ρ;simp only [sIq,pIq,true_and] at h;subst h;exact ⟨lf2 v 0,by kernel_rfl,leA.refl⟩
 ·cases h
noncomputable abbrev jh4:Hd:=⟨[fK 215],[(216,nG D6)],[],[]⟩
theorem jqz:HdOk Tryz.prog jh4:=HdOk.fK (HdOk.nil.ucCons jgd) 215
def Gl (w:ByteArray) (i:Int) (n:Nat) (ρ:Val):Option (Int × Int) :=
 let s:=ρ.at i.toNat
 bif jb w qj then none else bif jb w zC then some (ja n,0) else bif le (ja n) i then some (0,7) else nd (jc i n)
  (bif jb w zy then some ((s.at 2).N [],0) else bif jb w qv then some ((s.at 3).N [],0) else bif jb w ym then some ((s.at 1).N [],0)
   else bif jb w zu then some (Qr ((s.at 6).B []),0) else some (Qr ((s.at 7).B []),0))
def jaq:List A1->Option (Bool × AV)
 | [.agg [.str w,.int .i64 i],.c (.sl es n ρ)]=>if shEq.shsEq es Ro.siSh then some (os1 (Gl w i n ρ),enc2 (ov1 (0,0) (Gl w i n ρ))) else none
 | _=>none
def t232 (w:ByteArray) (i:Int) (n:Nat) (ρ:Val):Tree AV :=
 let s:=ρ.at i.toNat
 .br (jb w qj) .fail (.br (jb w zC) (lf2 (ja n) 0) (.br (le (ja n) i) (lf2 0 7) (.need (jc i n)
  (.br (jb w zy) (lf2 ((s.at 2).N []) 0) (.br (jb w qv) (lf2 ((s.at 3).N []) 0) (.br (jb w ym) (lf2 ((s.at 1).N []) 0)
   (.br (jb w zu) (.need true (lf2 (Qr ((s.at 6).B [])) 0)) (.need true (lf2 (Qr ((s.at 7).B [])) 0)))))))))
theorem jjE (w:ByteArray) (i:Int) (n:Nat) (ρ:Val):j5 Tryz.prog jh4 10 214 [.agg [.str w,.int .i64 i],.c (.sl Ro.siSh n ρ)]=t232 w i n ρ:=by kernel_rfl
theorem jgW (w:ByteArray) (i:Int) (n:Nat) (ρ:Val):Sy enc2 (t232 w i n ρ) (Gl w i n ρ):=by
 unfold t232 Gl;refine Sy.cond (fun _=>trivial) fun _=>Sy.cond (fun _=>Sy.ret) fun _=>Sy.cond (fun _=>Sy.ret) fun _=>Sy.nd id fun _=>Sy.cond (fun _=>Sy.ret) fun _=>Sy.cond (fun _=>Sy.ret) fun _=>Sy.cond (fun _=>Sy.ret) fun _=>Sy.cond (fun _=>Sy.need rfl Sy.ret) fun _=>Sy.need rfl Sy.ret
theorem jom:UcOne Tryz.prog 214 (nG jaq):=by
 refine jX (H:=jh4) jqz 10 214 ?_;intro args r h;unfold jaq at h;split at h
 ·split at h
  ·rename_i w i es n ρ hs;rw [jj hs];simp only [sIq,pIq] at h;refine ⟨_,jjE w i n ρ,?_⟩
   have:=jgW w i n ρ
   cases hp:Gl w i n ρ with
   | none=>rw [hp] at h;cases h.1
   | some x=>rw [hp] at h this;rw [← h.2];exact this
  ·cases h
 ·cases h
def KF:Int:=1099511627776
def Tb (w:ByteArray) (a b:Int):Int × Int :=
 bif (bif jb w wOr then true else jb w JG) then (Qr (b != 0),0) else bif jb w wEq then (Qr (a==b),0) else bif jb w wLt then (Qr (lt a b),0) else bif jb w wGt then (Qr (lt b a),0)
  else bif (bif lt (bif jb w kg then IntKind.wrap .i64 (a - b) else IntKind.wrap .i64 (a+b)) (-KF) then true else lt KF (bif jb w kg then IntKind.wrap .i64 (a - b) else IntKind.wrap .i64 (a+b))) then (0,2)
  else (bif jb w kg then IntKind.wrap .i64 (a - b) else IntKind.wrap .i64 (a+b),0)
def jeY:List A1->Option (Bool × AV)
 | [.agg [.str w,.sl _ _ _],.c (.int .i64 a),.c (.int .i64 b)]=>some (true,enc2 (Tb w a b))
 | _=>none
noncomputable abbrev jez:Hd:=⟨[],[(216,nG D6)],[],[]⟩
theorem jqp:HdOk Tryz.prog jez:=HdOk.nil.ucCons jgd
def jeJ (w:ByteArray) (a b:Int):Tree AV :=
 let F:=fun c:Bool=>Tree.need true (lf2 (Qr c) 0)
 let Z:=fun n:Int=>Tree.br (bif lt n (-KF) then true else lt KF n) (lf2 0 2) (lf2 n 0)
 let R:=.br (jb w wEq) (F (a==b)) (.br (jb w wLt) (F (lt a b)) (.br (jb w wGt) (F (lt b a)) (.br (jb w kg) (Z (IntKind.wrap .i64 (a - b))) (Z (IntKind.wrap .i64 (a+b))))))
 .br (jb w wOr) (.br (jb w wOr) (F (b != 0)) R) (.br (jb w JG) (F (b != 0)) R)
theorem jlm (w:ByteArray) (es:List Sh) (n:Nat) (ρ:Val) (a b:Int):j5 Tryz.prog jez 10 217 [.agg [.str w,.sl es n ρ],.c (.int .i64 a),.c (.int .i64 b)]=jeJ w a b:=by kernel_rfl
theorem jeD (w:ByteArray) (a b:Int):(jeJ w a b).All (fun z=>leA z (enc2 (Tb w a b))):=by
 unfold jeJ Tb;cases jb w wOr with
 | true=>exact jl rfl leA.refl
 | false =>
 cases jb w JG with
 | true=>exact jl rfl leA.refl
 | false =>
 cases jb w wEq with
 | true=>exact jl rfl leA.refl
 | false =>
 cases jb w wLt with
 | true=>exact jl rfl leA.refl
 | false =>
 cases jb w wGt with
 | true=>exact jl rfl leA.refl
 | false =>
 cases jb w kg with
 | true =>
   simp only [cond_false,cond_true];cases (bif lt (IntKind.wrap .i64 (a - b)) (-KF) then true else lt KF (IntKind.wrap .i64 (a - b)))<;>exact jl rfl leA.refl
 | false =>
   simp only [cond_false];cases (bif lt (IntKind.wrap .i64 (a+b)) (-KF) then true else lt KF (IntKind.wrap .i64 (a+b)))<;>exact jl rfl leA.refl
theorem jqV:UcOne Tryz.prog 217 (nG jeY):=by
 refine jX (H:=jez) jqp 10 217 ?_;intro args r h;unfold jeY at h;split at h
 ·rename_i w es n ρ a b;simp only [sIq,pIq,true_and] at h;subst h;exact ⟨_,jlm w es n ρ a b,jeD w a b⟩
 ·cases h
abbrev BV:=ByteArray->Nat->Val->Nat->Val->Option (Int × Int)
def TH (V:BV) (d:Val) (n:Nat) (ρ:Val):Option (Int × Int) :=
 bif Nat.beq (d.L []) 3 then V ((d.at 0).S []) ((d.at 1).L []) (d.at 1) n ρ
 else bif Nat.beq (d.L []) 2 then Gl ((d.at 0).S []) ((d.at 1).N []) n ρ
 else bif Nat.beq (d.L []) 1 then some ((d.at 0).N [],0) else none
def inv (V:BV) (d:Val) (n:Nat) (ρ:Val) (K:Int × Int->Tree AV):Tree AV :=
 let o:=V ((d.at 0).S []) ((d.at 1).L []) (d.at 1) n ρ
 let p:=Gl ((d.at 0).S []) ((d.at 1).N []) n ρ
 .br (Nat.beq (d.L []) 3) (.need (os1 o) (K (ov1 (0,0) o))) (.br (Nat.beq (d.L []) 2) (.need (os1 p) (K (ov1 (0,0) p))) (.br (Nat.beq (d.L []) 1) (.need true (K ((d.at 0).N [],0))) .fail))
theorem NP {β:Type} {enc:β->AV} {V:BV} {d:Val} {n:Nat} {ρ:Val} {K:Int × Int->Tree AV} {f:Int × Int->Option β} (h:∀ v,Sy enc (K v) (f v)):Sy enc (inv V d n ρ K) ((TH V d n ρ).bind f):=by
 unfold inv TH;cases Nat.beq (d.L []) 3 with
 | true=>exact Sy.br1 rfl (Sy.bind h)
 | false =>
 refine Sy.br0 rfl ?_;cases Nat.beq (d.L []) 2 with
 | true=>exact Sy.br1 rfl (Sy.bind h)
 | false =>
 refine Sy.br0 rfl ?_;cases Nat.beq (d.L []) 1 with
 | true=>exact Sy.br1 rfl (Sy.need rfl (h _))
 | false=>exact trivial
def Ux (V:BV):List A1->Option (Bool × AV)
 | [.agg [.str w,.sl es' m κ],.c (.sl es n ρ)]=>if shEq.shsEq es' [.ifc]&&shEq.shsEq es Ro.siSh then some (os1 (V w m κ n ρ),enc2 (ov1 (0,0) (V w m κ n ρ))) else none
 | _=>none
theorem Ox {V:BV} {args:List A1} {r:AV} (h:Ux V args=some (true,r)):∃ w m κ n ρ x,args=[.agg [.str w,.sl [.ifc] m κ],.c (.sl Ro.siSh n ρ)]∧V w m κ n ρ=some x∧r=enc2 x:=by
 unfold Ux at h;split at h
 ·split at h
  ·rename_i w es' m κ es n ρ hs;rw [aTq] at hs;simp only [sIq,pIq] at h;cases hR:V w m κ n ρ with
   | none=>rw [hR] at h;cases h.1
   | some x=>rw [hR] at h;exact ⟨w,m,κ,n,ρ,x,by rw [jj hs.1,jj hs.2],hR,h.2.symm⟩
  ·cases h
 ·cases h
noncomputable abbrev jhs (V:BV):Hd:=⟨[],[(213,nG jbt),(214,nG jaq),(216,nG D6),(217,nG jeY),(218,nG (Ux V))],[],[]⟩
theorem jqv {V:BV} (hV:UcOne Tryz.prog 218 (nG (Ux V))):HdOk Tryz.prog (jhs V):=((((HdOk.nil.ucCons hV).ucCons jqV).ucCons jgd).ucCons jom).ucCons jny
def jbr (κ:Val) (i:Nat):Val:=(κ.at i).at 0
def jhL (V:BV) (w:ByteArray) (m:Nat) (κ:Val) (n:Nat) (ρ:Val):Tree AV :=
 .need (jc 0 m) (inv V (jbr κ 0) n ρ fun x=>.br (x.2 != 0) (lf2 0 x.2) (.br (jb w zf) (.need true (lf2 (Qr (x.1==0)) 0))
  (.br (bif jb w wOr then x.1 != 0 else false) (lf2 1 0) (.br (bif jb w JG then x.1==0 else false) (lf2 0 0)
   (.need (jc 1 m) (inv V (jbr κ 1) n ρ fun y=>.br (y.2 != 0) (lf2 0 y.2) (.need true (.leaf (enc2 (Tb w x.1 y.1))))))))))
theorem jly (V:BV) (w:ByteArray) (m:Nat) (κ:Val) (n:Nat) (ρ:Val):j5 Tryz.prog (jhs V) 10 218 [.agg [.str w,.sl [.ifc] m κ],.c (.sl Ro.siSh n ρ)]=jhL V w m κ n ρ:=by kernel_rfl
def ja2 (V:BV):BV:=fun w m κ n ρ =>
 nd (jc 0 m) ((TH V (jbr κ 0) n ρ).bind fun x=>bif x.2 != 0 then some (0,x.2) else bif jb w zf then some (Qr (x.1==0),0)
  else bif (bif jb w wOr then x.1 != 0 else false) then some (1,0) else bif (bif jb w JG then x.1==0 else false) then some (0,0)
  else nd (jc 1 m) ((TH V (jbr κ 1) n ρ).bind fun y=>bif y.2 != 0 then some (0,y.2) else some (Tb w x.1 y.1)))
theorem jf0 (V:BV) (w:ByteArray) (m:Nat) (κ:Val) (n:Nat) (ρ:Val):Sy enc2 (jhL V w m κ n ρ) (ja2 V w m κ n ρ):=by
 unfold jhL ja2
 refine Sy.nd id fun _=>NP fun x=>Sy.cond (fun _=>Sy.ret) fun _=>Sy.cond (fun _=>Sy.need rfl Sy.ret) fun _=>Sy.cond (fun _=>Sy.ret) fun _=>Sy.cond (fun _=>Sy.ret) fun _ =>
  Sy.nd id fun _=>NP fun y=>Sy.cond (fun _=>Sy.ret) fun _=>Sy.need rfl Sy.ret
theorem jpr {V:BV} (hV:UcOne Tryz.prog 218 (nG (Ux V))):UcOne Tryz.prog 218 (nG (Ux (ja2 V))):=by
 refine jX (H:=jhs V) (jqv hV) 10 218 ?_;intro args r h;obtain ⟨w,m,κ,n,ρ,x,e1,h1,e2⟩:=Ox h;refine ⟨_,by rw [e1,jly],?_⟩
 have:=jf0 V w m κ n ρ
 rw [h1] at this;rw [e2];exact this
def NI:Nat->BV
 | 0=>fun _ _ _ _ _=>none
 | f+1=>ja2 (NI f)
theorem jo6:∀ f,UcOne Tryz.prog 218 (nG (Ux (NI f)))
 | 0 => by
   intro args r h;obtain ⟨w,m,κ,n,ρ,x,_,h1,_⟩:=Ox (zA h);cases h1
 | f+1=>jpr (jo6 f)
noncomputable abbrev jfw (f:Nat):Hd:=⟨[],[(75,nG (Yg (QD f))),(136,nG (V7 (Hy f))),(213,nG jbt),(214,nG jaq),(218,nG (Ux (NI f)))],[],[]⟩
theorem jqI (f:Nat):HdOk Tryz.prog (jfw f):=((((HdOk.nil.ucCons (jo6 f)).ucCons jom).ucCons jny).ucCons (joy f)).ucCons (jfK f)
abbrev EvS:=RX->Nat->Val->Option (Int × Int)
def Bz (f:Nat):EvS:=fun e n ρ=>(QD f e 1).bind fun x=>bif x != 0 then some (0,x) else (Hy f e).bind fun d=>(TH (NI f) d n ρ).bind fun v=>some v
def RO (E:EvS):List A1->Option (Bool × AV)
 | [.agg [.str o,.int .i64 v,.sl es' m κ],.c (.sl es n ρ)]=>if shEq.shsEq es' (jm 0)&&shEq.shsEq es Ro.siSh then some (os1 (E ⟨o,v,m,κ⟩ n ρ),enc2 (ov1 (0,0) (E ⟨o,v,m,κ⟩ n ρ))) else none
 | _=>none
theorem jcV {E:EvS} {args:List A1} {r:AV} (h:RO E args=some (true,r)):∃ o v m κ n ρ x,args=[.agg [.str o,.int .i64 v,.sl (jm 0) m κ],.c (.sl Ro.siSh n ρ)]∧E ⟨o,v,m,κ⟩ n ρ=some x∧r=enc2 x:=by
 unfold RO at h;split at h
 ·split at h
  ·rename_i o v es' m κ es n ρ hs;rw [aTq] at hs;simp only [sIq,pIq] at h;cases hR:E ⟨o,v,m,κ⟩ n ρ with
   | none=>rw [hR] at h;cases h.1
   | some x=>rw [hR] at h;exact ⟨o,v,m,κ,n,ρ,x,by rw [jj hs.1,jj hs.2],hR,h.2.symm⟩
  ·cases h
 ·cases h
def je3 (f:Nat) (e:RX) (n:Nat) (ρ:Val):Tree AV :=
 let x:=QD f e 1
 let d:=Hy f e
 .need (opD x) (.br (opN x != 0) (lf2 0 (opN x)) (.need (os1 d) (inv (NI f) (ov1 .zero d) n ρ fun v=>.leaf (enc2 v))))
theorem jlk (f:Nat) (o:ByteArray) (v:Int) (m:Nat) (κ:Val) (n:Nat) (ρ:Val):j5 Tryz.prog (jfw f) 10 119 [.agg [.str o,.int .i64 v,.sl (jm 0) m κ],.c (.sl Ro.siSh n ρ)]=je3 f ⟨o,v,m,κ⟩ n ρ:=by kernel_rfl
theorem jea {o:Option Int}:opN o=ov1 0 o:=by cases o<;>rfl
theorem jdj {o:Option Int}:opD o=os1 o:=by cases o<;>rfl
theorem jfE (f:Nat) (e:RX) (n:Nat) (ρ:Val):Sy enc2 (je3 f e n ρ) (Bz f e n ρ):=by
 unfold je3 Bz;simp only [jea,jdj];refine Sy.bind (d:=(0:Int)) (K:=fun x=>.br (x != 0) (lf2 0 x) _) fun x=>Sy.cond (fun _=>Sy.ret) fun _=>Sy.bind (K:=fun d=>inv (NI f) d n ρ fun v=>.leaf (enc2 v)) fun d=>NP fun v=>Sy.ret
theorem jof (f:Nat):UcOne Tryz.prog 119 (nG (RO (Bz f))):=by
 refine jX (H:=jfw f) (jqI f) 10 119 ?_;intro args r h;obtain ⟨o,v,m,κ,n,ρ,x,e1,h1,e2⟩:=jcV h;refine ⟨_,by rw [e1,jlk],?_⟩
 have:=jfE f ⟨o,v,m,κ⟩ n ρ
 rw [h1] at this;rw [e2];exact this
structure RU where
 sn:Nat
 sρ:Val
 cn:Nat
 cρ:Val
 pn:Nat
 pρ:Val
 kn:Nat
 kρ:Val
 bg:Int
 at_:Int
def rU0:RU:=⟨0,.zero,0,.zero,0,.zero,0,.zero,0,0⟩
def Jg:Bool->RU->Mem
 | false,x=>[some (86,[.sl Ro.siSh x.sn x.sρ,.sl [.int .i64] x.cn x.cρ,.os 1 1,.os 2 1,.bool false,.int .i64 x.bg,.int .i64 x.at_]),some (9,[.row false [.str] x.pn x.pρ]),some (22,[.row false [.rt 1] x.kn x.kρ])]
 | true,x=>[some (86,[.sl Ro.siSh x.sn x.sρ,.sl [.int .i64] x.cn x.cρ,.os 1 1,.any,.bool true,.int .i64 x.bg,.int .i64 x.at_]),some (9,[.row false [.str] x.pn x.pρ])]
def plC (es:List Sh):CV->Option (Nat × Val)
 | .sl es' n ρ=>if shEq.shsEq es' es then some (n,ρ) else none
 | .nils=>some (0,.zero)
 | _=>none
theorem XI {es:List Sh} {c:CV} {n:Nat} {ρ:Val} (h:plC es c=some (n,ρ)) {F w bs v} (hv:CV.Rel F w bs c v):CV.Rel F w bs (.sl es n ρ) v:=by
 unfold plC at h;split at h
 ·split at h
  ·rename_i hs;simp only [sIq,pIq] at h;rw [← jj hs,← h.1,← h.2];exact hv
  ·cases h
 ·simp only [sIq,pIq] at h;rw [← h.1,← h.2];cases hv;exact .slnil
 ·cases h
theorem Xq {es:List Sh} {c:CV} {y:Nat × Val} (h:plC es c=some y) (r:List CV):je (c::r)=false:=by
 cases c<;>first | rfl | (simp [plC] at h;done)
def Ru:Mem->Option RU
 | [some (86, [c0, c1, .os 1 1, .os 2 1, .bool false, .int .i64 bg, .int .i64 a]), some (9, [.row false [.str] pn pρ]), some (22, [.row false [.rt 1] kn kρ])] =>
   (match plC Ro.siSh c0,plC [.int .i64] c1 with
  | some (sn,sρ),some (cn,cρ)=>some ⟨sn,sρ,cn,cρ,pn,pρ,kn,kρ,bg,a⟩
  | _,_=>none)
 | _=>none
def OZ:Mem->Option RU
 | [some (86, [c0, c1, .os 1 1, .any, .bool true, .int .i64 bg, .int .i64 a]), some (9, [.row false [.str] pn pρ])] =>
   (match plC Ro.siSh c0,plC [.int .i64] c1 with
  | some (sn,sρ),some (cn,cρ)=>some ⟨sn,sρ,cn,cρ,pn,pρ,0,.zero,bg,a⟩
  | _,_=>none)
 | _=>none
def ClR:Bool->Clus RU
 | false=>⟨Jg false,Ru,fun b m=>V5 b [(2,9,[.str]),(3,22,[.rt 1])] m⟩
 | true=>⟨Jg true,OZ,fun b m=>NQ b 3 (V5 b [(2,9,[.str])] m)⟩
theorem DD {F w bs} {c0 c1 d0 d1:CV} {r:List CV} {vs:List Value} (h0:∀ v,CV.Rel F w bs c0 v->CV.Rel F w bs d0 v) (h1:∀ v,CV.Rel F w bs c1 v->CV.Rel F w bs d1 v) (h:All2 (CV.Rel F w bs) (c0::c1::r) vs):All2 (CV.Rel F w bs) (d0::d1::r) vs:=by
 cases h with
 | cons a h=>cases h with
  | cons b h=>exact .cons (h0 _ a) (.cons (h1 _ b) h)
theorem Lz {m : Mem} {x : RU} (h : Ru m = some x) : ∃ c0 c1, plC Ro.siSh c0 = some (x.sn, x.sρ) ∧ plC [.int .i64] c1 = some (x.cn, x.cρ) ∧
  m=[some (86,[c0,c1,.os 1 1,.os 2 1,.bool false,.int .i64 x.bg,.int .i64 x.at_]),some (9,[.row false [.str] x.pn x.pρ]),some (22,[.row false [.rt 1] x.kn x.kρ])]:=by
 unfold Ru at h;split at h
 ·split at h
  ·rename_i h0 h1;cases h;exact ⟨_,_,h0,h1,rfl⟩
  ·cases h
 ·cases h
theorem GU {m : Mem} {x : RU} (h : OZ m = some x) : ∃ c0 c1, plC Ro.siSh c0 = some (x.sn, x.sρ) ∧ plC [.int .i64] c1 = some (x.cn, x.cρ) ∧
  m=[some (86,[c0,c1,.os 1 1,.any,.bool true,.int .i64 x.bg,.int .i64 x.at_]),some (9,[.row false [.str] x.pn x.pρ])]:=by
 unfold OZ at h;split at h
 ·split at h
  ·rename_i h0 h1;cases h;exact ⟨_,_,h0,h1,rfl⟩
  ·cases h
 ·cases h
theorem Lc:∀ u,(ClR u).Ok
 | false => {
   get:=fun m x h P F w bs hm=>by
    obtain ⟨c0,c1,h0,h1,rfl⟩:=Lz h;exact hm.cellsTo (b:=0) (T:=86) rfl (Xq h0 _) (ds:=[.sl Ro.siSh x.sn x.sρ,.sl [.int .i64] x.cn x.cρ,.os 1 1,.os 2 1,.bool false,.int .i64 x.bg,.int .i64 x.at_]) rfl fun _ _ _ _ h=>DD (fun _ hv=>XI h0 hv) (fun _ hv=>XI h1 hv) h
   liv:=fun m x h k y T cs hk hl=>by
    obtain ⟨c0,c1,h0,h1,rfl⟩:=Lz h
    match k,hk with
    | 0,hk=>exact ⟨_,_,rfl,j7 (Xq h0 _)⟩
    | 1,hk=>cases hk;exact ⟨_,_,rfl,hl⟩
    | 2,hk=>cases hk;exact ⟨_,_,rfl,hl⟩
    | k+3,hk=>cases hk
   ok:=fun x=>rfl
   prep:=fun P F w bs b mem hm=>Kw b _ hm }
 | true => {
   get:=fun m x h P F w bs hm=>by
    obtain ⟨c0,c1,h0,h1,rfl⟩:=GU h;exact hm.cellsTo (b:=0) (T:=86) rfl (Xq h0 _) (ds:=[.sl Ro.siSh x.sn x.sρ,.sl [.int .i64] x.cn x.cρ,.os 1 1,.any,.bool true,.int .i64 x.bg,.int .i64 x.at_]) rfl fun _ _ _ _ h=>DD (fun _ hv=>XI h0 hv) (fun _ hv=>XI h1 hv) h
   liv:=fun m x h k y T cs hk hl=>by
    obtain ⟨c0,c1,h0,h1,rfl⟩:=GU h
    match k,hk with
    | 0,hk=>exact ⟨_,_,rfl,j7 (Xq h0 _)⟩
    | 1,hk=>cases hk;exact ⟨_,_,rfl,hl⟩
    | k+2,hk=>cases hk
   ok:=fun x=>rfl
   prep:=fun P F w bs b mem hm=>by
    obtain ⟨bs',h1,h2⟩:=Kw b [(2,9,[.str])] hm;exact ⟨bs',h1,jbS h2 b 3⟩ }
abbrev MSp:=Bool->List A1->RU->Tree (AV × RU)
def zk (u:MSp):List A1->Mem->Tree (AV × Mem)
 | .c (.ptr b 0)::rest,mem=>match nth mem b with
  | some (some (_,cs))=>(match nth cs 4 with
   | some (.bool true)=>clG (ClR true) (u true) (.c (.ptr b 0)::rest) mem
   | some (.bool false)=>clG (ClR false) (u false) (.c (.ptr b 0)::rest) mem
   | _=>.fail)
  | _=>.fail
 | _,_=>.fail
theorem MI {P:Program} {f:Nat} {u:MSp} (h:∀ b,jr P f (clG (ClR b) (u b))):jr P f (zk u):=by
 intro args mem r mem' hG;unfold zk at hG;split at hG
 ·split at hG
  ·split at hG
   ·exact h true _ _ _ _ hG
   ·exact h false _ _ _ _ hG
   ·simp [Tree.sel] at hG
  ·simp [Tree.sel] at hG
 ·simp [Tree.sel] at hG
def uS {β:Type} (enc:β->AV) (d:β) (sp:RU->Option (β × RU)) (x:RU):Tree (AV × RU) :=
 .need (os1 (sp x)) (.leaf (enc (ov1 (d,rU0) (sp x)).1,(ov1 (d,rU0) (sp x)).2))
theorem YW {β:Type} {enc:β->AV} {d:β} {sp:RU->Option (β × RU)} {x:RU} {z:AV × RU} (h:(uS enc d sp x).sel=some z):∃ v x',sp x=some (v,x')∧z=(enc v,x'):=by
 unfold uS at h;cases hs:sp x with
 | none=>rw [hs] at h;cases h
 | some y=>rw [hs] at h;cases h;exact ⟨_,_,rfl,rfl⟩
def SyC {β:Type} (u:Bool) (enc:β->AV) (T:Tree (AV × RU)):Option (β × RU)->Prop
 | none=>True
 | some (v,x')=>∃ y,T.sel=some y∧leA y.1 (enc v)∧Jg u y.2=Jg u x'
section
variable {β γ:Type} {u:Bool} {enc:β->AV}
theorem SyC.cond {c:Bool} {T E:Tree (AV × RU)} {a b:Option (β × RU)} (h1:c=true->SyC u enc T a) (h2:c=false->SyC u enc E b):SyC u enc (.br c T E) (bif c then a else b):=by
 cases c with
 | true =>
   have:=h1 rfl
   show SyC u enc _ a;cases a with
  | none=>exact trivial
  | some y=>exact this
 | false =>
   have:=h2 rfl
   show SyC u enc _ b;cases b with
  | none=>exact trivial
  | some y=>exact this
theorem SyC.nd {c d:Bool} {T:Tree (AV × RU)} {a:Option (β × RU)} (h:c=true->d=true) (h1:c=true->SyC u enc T a):SyC u enc (.need d T) (Go.Proofs.YtiefjlcakpdfeaaGreatDoor.nd c a):=by
 cases c with
 | false=>exact trivial
 | true =>
   have:=h1 rfl
   show SyC u enc _ a;rw [h rfl];cases a with
  | none=>exact trivial
  | some y=>exact this
theorem SyC.need {d:Bool} {T:Tree (AV × RU)} {a:Option (β × RU)} (h:d=true) (h1:SyC u enc T a):SyC u enc (.need d T) a:=by
 subst h;cases a with
 | none=>exact trivial
 | some y=>exact h1
theorem SyC.ret {v:β} {x:RU}:SyC u enc (.leaf (enc v,x)) (some (v,x)):=⟨_,rfl,leA.refl,rfl⟩
theorem SyC.ret' {r:AV} {v:β} {x x':RU} (h:leA r (enc v)) (hx:Jg u x=Jg u x'):SyC u enc (.leaf (r,x)) (some (v,x')):=⟨_,rfl,h,hx⟩
theorem SyC.br1 {c:Bool} {T E:Tree (AV × RU)} {a:Option (β × RU)} (hc:c=true) (h:SyC u enc T a):SyC u enc (.br c T E) a:=by
 subst hc;cases a with
 | none=>exact trivial
 | some y=>exact h
theorem SyC.br0 {c:Bool} {T E:Tree (AV × RU)} {a:Option (β × RU)} (hc:c=false) (h:SyC u enc E a):SyC u enc (.br c T E) a:=by
 subst hc;cases a with
 | none=>exact trivial
 | some y=>exact h
end
theorem VX {H : Hd} (hH : HdOk Tryz.prog H) {X : HdP} (hX : XOk Tryz.prog X) (n f : Nat) {u : MSp}
  (h:∀ b rest x z,(u b rest x).sel=some z->∃ y,(JO (ClR b) Tryz.prog H X n f rest x).sel=some y∧leA y.1 z.1∧Jg b y.2=Jg b z.2):jr Tryz.prog f (zk u) :=
 MI fun b=>Dr (Lc b) hH hX n f fun rest x z hz=>by
  obtain ⟨y,h1,h2,h3⟩:=h b rest x z hz;refine ⟨y,h1,h2,fun F w bs hm => ?_⟩;have e:∀ x,(ClR b).lay x=Jg b x:=fun x=>by cases b<;>rfl
  rw [e] at hm ⊢;rw [← h3];exact hm
def nk:Bool->RU->RU
 | false,x=>x
 | true,x=>{ x with kn:=0,kρ:=.zero }
theorem MS (u:Bool) (x:RU):Jg u (nk u x)=Jg u x:=by cases u<;>rfl
theorem SyC.rt {β:Type} {u:Bool} {enc:β->AV} {v:β} {x:RU}:SyC u enc (.leaf (enc v,nk u x)) (some (v,x)):=.ret' leA.refl (MS u x)
def YF (u:Bool) (x:RU):Option (Bool × RU) :=
 bif (bif u then true else ja x.cn==0) then some (false,x)
 else nd (jc 0 x.cn) (nd (le 0 1&&le 1 (ja x.cn)) (some (((x.cρ.at 0).at 0).N [] |>.tmod 2 |> (· != 0),{ x with cn:=x.cn - 1,cρ:=x.cρ.from 1 })))
def jgn:MSp:=fun u rest x=>match rest with
 | []=>uS jF false (YF u) x
 | _=>.fail
noncomputable abbrev HE:Hd:=⟨[],[],[],[]⟩
def t173 (u:Bool) (x:RU):Tree (AV × RU) :=
 .br (bif u then true else ja x.cn==0) (.leaf (jF false,nk u x)) (.need (jc 0 x.cn) (.need (le 0 1&&le 1 (ja x.cn)) (.need true
  (.leaf (jF (((x.cρ.at 0).at 0).N [] |>.tmod 2 |> (· != 0)),nk u { x with cn:=x.cn - 1,cρ:=x.cρ.from 1 })))))
theorem jky (u:Bool) (x:RU):JO (ClR u) Tryz.prog HE X3 10 116 [] x=t173 u x:=by cases u<;>kernel_rfl
theorem jrW:jr Tryz.prog 116 (zk jgn):=VX (H:=HE) (X:=X3) HdOk.nil x3 10 116 fun u rest x z hz=>by
 unfold jgn at hz;split at hz
 rotate_left
 ·cases hz
 obtain ⟨v,x',h1,rfl⟩:=YW hz
 have h:SyC u jF (t173 u x) (YF u x):=by
  unfold t173 YF;exact SyC.cond (fun _=>SyC.rt) fun _=>SyC.nd id fun _=>SyC.nd id fun _=>SyC.need rfl SyC.rt
 rw [h1] at h;rw [jky];exact h
def spc:ByteArray:=bs [32]
def wUndoS:ByteArray:=bs [117,110,100,111,32]
def J1 (x:RU) (l:ByteArray):RU:={ x with pn:=x.pn+1,pρ:=Val.cat x.pn x.pρ (qT l) }
def yE (u:Bool) (m:Nat) (σ:Val) (x:RU):Option (Unit × RU) :=
 nd (kS m σ spc) (bif u then nd (Nat.ble (wUndoS.size+(yZ m σ spc).size) 9223372036854775807) (nd (Nat.ble ((x.pn+1)*16) 140737488355328) (some ((),J1 x (jn wUndoS (yZ m σ spc)))))
  else nd (Nat.ble ((x.pn+1)*16) 140737488355328) (some ((),J1 x (yZ m σ spc))))
def Tw:MSp:=fun u rest x=>match rest with
 | [.c (.sl [.str] m σ)]=>uS Qa () (yE u m σ) x
 | _=>.fail
noncomputable abbrev H18:Hd:=⟨[],[(25,nG G18)],[],[]⟩
theorem h18:HdOk Tryz.prog H18:=HdOk.nil.ucCons p18
def jfh (u:Bool) (m:Nat) (σ:Val) (x:RU):Tree (AV × RU) :=
 .need (kS m σ spc) (.br u (.need (Nat.ble (wUndoS.size+(yZ m σ spc).size) 9223372036854775807) (.need (Nat.ble ((x.pn+1)*16) 140737488355328) (.leaf (Qa (),nk u (J1 x (jn wUndoS (yZ m σ spc)))))))
  (.need (Nat.ble ((x.pn+1)*16) 140737488355328) (.leaf (Qa (),nk u (J1 x (yZ m σ spc))))))
theorem jjS (u:Bool) (m:Nat) (σ:Val) (x:RU):JO (ClR u) Tryz.prog H18 X3 10 72 [.c (.sl [.str] m σ)] x=jfh u m σ x:=by cases u<;>kernel_rfl
theorem jfB:jr Tryz.prog 72 (zk Tw):=VX (H:=H18) (X:=X3) h18 x3 10 72 fun u rest x z hz=>by
 unfold Tw at hz;split at hz
 rotate_left
 ·cases hz
 rename_i m σ;obtain ⟨v,x',h1,rfl⟩:=YW hz
 have h:SyC u Qa (jfh u m σ x) (yE u m σ x):=by
  unfold jfh yE;exact SyC.nd id fun _=>SyC.cond (fun _=>SyC.nd id fun _=>SyC.nd id fun _=>SyC.rt) fun _=>SyC.nd id fun _=>SyC.rt
 rw [h1] at h;rw [jjS];exact h
abbrev RpF:=Nat->Val->Int->Option (Nat × Val)
structure Par where
 O:OpF
 E:EvS
 R:RpF
def al (R:RpF):List A1->Option (Bool × AV)
 | [.c (.sl [.rt 1] m κ),.c (.int .i64 c)]=>some (os1 (R m κ c),.one (.c (.sl [.rt 1] (ov1 (0,.zero) (R m κ c)).1 (ov1 (0,.zero) (R m κ c)).2)))
 | _=>none
structure ParOk (p:Par):Prop where
 op:UcOne Tryz.prog 117 (nG (L4 p.O))
 ev:UcOne Tryz.prog 119 (nG (RO p.E))
 rp:UcOne Tryz.prog 97 (nG (al p.R))
def RF (x:RU) (n:Nat) (ρ:Val):RU:={ x with kn:=x.kn+1,kρ:=Val.cat x.kn x.kρ (Val.ofFlat 1 [.sl (jm 1) n ρ]) }
def QA (x:RU) (r:Int × Val):RU:={ x with sn:=bif r.1==0 then x.sn else 0,sρ:=r.2 }
def doS (p:Par) (u:Bool) (s:RS) (x:RU):Option (Int × RU) :=
 (YF u x).bind fun y=>bif y.1 then some (29,y.2) else (p.O y.2.sn y.2.sρ s.wn s.wρ).bind fun r=>bif r.1 != 0 then some (r.1,y.2) else
  nd (Nat.ble ((1+s.wn)*16) 140737488355328) ((yE u (1+s.wn) (Val.cat 1 (qT wDo) s.wρ) (nk u (QA y.2 r))).bind fun z=>bif !u then nd (Nat.ble ((z.2.kn+1)*24) 140737488355328) (some (0,RF z.2 s.bn s.bρ)) else some (0,z.2))
def UK:A1->Option RS
 | .agg [.str kd,.sl [.str] wn wρ,.str o,.int .i64 v,.sl e1 cn cρ,.sl e2 bn bρ,.sl e3 en eρ,.int .i64 a]=>if shEq.shsEq e1 (jm 0)&&shEq.shsEq e2 (jm 1)&&shEq.shsEq e3 (jm 1) then some ⟨kd,wn,wρ,⟨o,v,cn,cρ⟩,bn,bρ,en,eρ,a⟩ else none
 | _=>none
theorem QN {a:A1} {s:RS} (h:UK a=some s):a=.agg s.cells:=by
 unfold UK at h;split at h
 ·split at h
  ·rename_i hs;simp only [aTq] at hs;cases h;rw [jj hs.1.1,jj hs.1.2,jj hs.2];rfl
  ·cases h
 ·cases h
def jfV (p:Par):MSp:=fun u rest x=>match rest with
 | [a]=>(match UK a with
  | some s=>uS encI 0 (doS p u s) x
  | none=>.fail)
 | _=>.fail
noncomputable abbrev jg4 (p:Par):Hd:=⟨[],[(117,nG (L4 p.O))],[],[(72,zk Tw),(116,zk jgn)]⟩
theorem jqW {p:Par} (hp:ParOk p):HdOk Tryz.prog (jg4 p):=((HdOk.nil.mcCons jrW).mcCons jfB).ucCons hp.op
def jqO (s:RS) (x:RU):Bool->Tree (AV × RU)
 | false=>.need (Nat.ble ((x.kn+1)*24) 140737488355328) (.leaf (encI 0,RF x s.bn s.bρ))
 | true=>.fail
def jft (p:Par) (u:Bool) (s:RS) (x:RU):Tree (AV × RU) :=
 let st:=YF u x
 let y:=ov1 (false,rU0) st
 let o:=p.O y.2.sn y.2.sρ s.wn s.wρ
 let nt:=yE u (1+s.wn) (Val.cat 1 (qT wDo) s.wρ) (nk u (QA y.2 (orV o)))
 let z:=ov1 ((),rU0) nt
 .need (os1 st) (.br y.1 (.leaf (encI 29,nk u y.2)) (.need (orB o) (.br ((orV o).1 != 0) (.leaf (encI (orV o).1,nk u y.2))
  (.need (Nat.ble ((1+s.wn)*16) 140737488355328) (.need (os1 nt) (.br (!u) (jqO s z.2 u) (.leaf (encI 0,nk u z.2))))))))
theorem ji2 (p:Par) (u:Bool) (s:RS) (x:RU):JO (ClR u) Tryz.prog (jg4 p) X3 10 96 [.agg s.cells] x=jft p u s x:=by cases u<;>kernel_rfl
theorem jo2 {o:OR}:orB o=os1 o:=by cases o<;>rfl
theorem joA {o:OR}:orV o=ov1 (0,.zero) o:=by cases o<;>rfl
theorem jgq (p:Par) (u:Bool) (s:RS) (x:RU):SyC u encI (jft p u s x) (doS p u s x):=by
 unfold jft doS;simp only [jo2,joA];cases YF u x with
 | none=>exact trivial
 | some y =>
 simp only [os1,ov1,Option.bind];refine SyC.need rfl (SyC.cond (fun _=>SyC.rt) fun _ => ?_);cases p.O y.2.sn y.2.sρ s.wn s.wρ with
 | none=>exact trivial
 | some r =>
 simp only;refine SyC.need rfl (SyC.cond (fun _=>SyC.rt) fun _=>SyC.nd id fun _ => ?_);cases yE u (1+s.wn) (Val.cat 1 (qT wDo) s.wρ) (nk u (QA y.2 r)) with
 | none=>exact trivial
 | some z =>
 simp only;refine SyC.need rfl ?_;cases u with
 | false=>exact SyC.br1 rfl (SyC.nd id fun _=>SyC.ret)
 | true=>exact SyC.br0 rfl SyC.rt
theorem jq5 {p:Par} (hp:ParOk p):jr Tryz.prog 96 (zk (jfV p)):=VX (H:=jg4 p) (X:=X3) (jqW hp) x3 10 96 fun u rest x z hz=>by
 unfold jfV at hz;split at hz
 rotate_left
 ·cases hz
 split at hz
 rotate_left
 ·cases hz
 rename_i a s hs;rw [QN hs,ji2];obtain ⟨v,x',h1,rfl⟩:=YW hz;have h:=jgq p u s x;rw [h1] at h;exact h
abbrev BE:=Nat × Val × Int
def Lf (x:BE):AV:=.tup [.c (.sl (jm 1) x.1 x.2.1),.c (.int .i64 x.2.2)]
def Zs (p:Par) (_:Bool) (s:RS) (x:RU):Option (BE × RU) :=
 (p.E s.cond x.sn x.sρ).bind fun v=>bif v.2 != 0 then some ((0,.zero,v.2),x) else bif v.1 != 0 then some ((s.bn,s.bρ,0),x) else bif jb s.kind zN then some ((0,.zero,12),x) else some ((s.en,s.eρ,0),x)
def jho (p:Par):MSp:=fun u rest x=>match rest with
 | [a]=>(match UK a with
  | some s=>uS Lf (0,.zero,0) (Zs p u s) x
  | none=>.fail)
 | _=>.fail
noncomputable abbrev jeT (p:Par):Hd:=⟨[],[(119,nG (RO p.E))],[],[]⟩
theorem jqR {p:Par} (hp:ParOk p):HdOk Tryz.prog (jeT p):=HdOk.nil.ucCons hp.ev
def Gv (e:Int):AV:=.tup [.c .nils,.c (.int .i64 e)]
theorem M7 {e:Int}:leA (Gv e) (Lf (0,.zero,e)):=QS (.cons (.c fun _ _ _ h=>by cases h;exact .slnil) (.cons (.c leC.refl) .nil))
def jfd (p:Par) (u:Bool) (s:RS) (x:RU):Tree (AV × RU) :=
 let o:=p.E s.cond x.sn x.sρ
 let v:=ov1 (0,0) o
 .need (os1 o) (.br (v.2 != 0) (.leaf (Gv v.2,nk u x)) (.br (v.1 != 0) (.leaf (Lf (s.bn,s.bρ,0),nk u x)) (.br (jb s.kind zN) (.leaf (Gv 12,nk u x)) (.leaf (Lf (s.en,s.eρ,0),nk u x)))))
theorem jjY (p:Par) (u:Bool) (s:RS) (x:RU):JO (ClR u) Tryz.prog (jeT p) X3 10 98 [.agg s.cells] x=jfd p u s x:=by cases u<;>kernel_rfl
theorem SyC.rl {β:Type} {u:Bool} {enc:β->AV} {r:AV} {v:β} {x:RU} (h:leA r (enc v)):SyC u enc (.leaf (r,nk u x)) (some (v,x)):=.ret' h (MS u x)
theorem jqS {p:Par} (hp:ParOk p):jr Tryz.prog 98 (zk (jho p)):=VX (H:=jeT p) (X:=X3) (jqR hp) x3 10 98 fun u rest x z hz=>by
 unfold jho at hz;split at hz
 rotate_left
 ·cases hz
 split at hz
 rotate_left
 ·cases hz
 rename_i a s hs;rw [QN hs,jjY];obtain ⟨v,x',h1,rfl⟩:=YW hz
 have h:SyC u Lf (jfd p u s x) (Zs p u s x):=by
  unfold jfd Zs;cases p.E s.cond x.sn x.sρ with
  | none=>exact trivial
  | some v =>
  simp only [os1,ov1,Option.bind];exact SyC.need rfl (SyC.cond (fun _=>SyC.rl M7) fun _=>SyC.cond (fun _=>SyC.rt) fun _=>SyC.cond (fun _=>SyC.rl M7) fun _=>SyC.rt)
 rw [h1] at h;exact h
end Go.Proofs.YtiefjlcakpdfeaaGreatDoor