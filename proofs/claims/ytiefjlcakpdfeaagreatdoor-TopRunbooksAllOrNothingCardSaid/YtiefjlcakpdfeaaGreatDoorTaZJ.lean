/-
 Part TaZJ of the proof: RvP RvQ.
-/
import Derived.Test.YtiefjlcakpdfeaaGreatDoorTaZI
namespace Go.Proofs.YtiefjlcakpdfeaaGreatDoor
open Go Go.Sx Go.RowKit Rb
set_option maxRecDepth 100000
theorem h4t:HdOk Tryz.prog (H4t qG P7 Q8 S9 k8 JF) :=
 ((((((((HdOk.nil.mcCons (m7 40 10001 (jnl 33 301))).ucCons jmu).ucCons jqJ).ucCons jog).ucCons (jrr (jo4 10000 10001))).ucCons joP).ucCons jqF).ucCons jqi).ucCons p8q
theorem jgi {n : Nat} {ξ : Val} {b : Int} {m : Nat} {τ : Val} (h : (v4 qG P7 Q8 S9 k8 JF n ξ b m τ).sel = some (jF true)) {F : Nat -> Prop} {W : World} {vs : List Value} (ht : Tab F W)
  (hargs:All2 (A1.Rel F W []) [.agg [.sl [.int .u8] n ξ,.int .u8 b,.sl [.int .i64] m τ]] vs):Calls Tryz.prog 4 vs.toArray W (fun e W'=>e=.returned (.bool true)∧Below W.heap.size W W'):=by
 refine (D2 h4t x4 10 4 h ht hargs rfl).mono fun e w' ⟨v,he,hb,hv⟩ => ?_;subst he;cases hv;exact ⟨rfl,hb⟩
theorem IV (a0 a1 a2 c0 c1 c2:Bool):qi 3 (FP a0 a1 a2 c0 c1 c2)=true:=by kernel_rfl
theorem jh5 (a0 a1 a2 c0 c1 c2:Bool):Ro.ckE ⟨3,FP a0 a1 a2 c0 c1 c2⟩=0:=by kernel_rfl
def F0I (b:Int) (g j:Nat):Bool:=(((y5 b).at j).at (6+g)).B []
theorem jiw {ρ0 ρ ρ2:Val} {F:Nat->Nat->Bool} {n:Nat} (h:SitesAre ρ0 F ρ) (h2:SitesAre ρ0 F ρ2) (hn:n<=100) (hs:qi n ρ0=true):Zf n ρ n ρ2=some true:=by
 unfold Zf;have e:(ja n != ja n)=false:=by simp
 rw [e];have hs':qi n ρ=true:=by rw [h.small,hs]
 refine NL (by omega) hs' (fun j hj => ?_) (n+1) 0 (by omega) (by omega)
 unfold L6;have f6:=h.fl j 0 (by omega)
 have f7:=h.fl j 1 (by omega)
 have g6:=h2.fl j 0 (by omega)
 have g7:=h2.fl j 1 (by omega)
 rw [h.fix j 0 (by omega) (by omega),h.fix j 1 (by omega) (by omega),h.fix j 2 (by omega) (by omega),h.fix j 3 (by omega) (by omega),h.fix j 4 (by omega) (by omega),h.fix j 5 (by omega) (by omega),
  h2.fix j 0 (by omega) (by omega),h2.fix j 1 (by omega) (by omega),h2.fix j 2 (by omega) (by omega),h2.fix j 3 (by omega) (by omega),h2.fix j 4 (by omega) (by omega),h2.fix j 5 (by omega) (by omega),f6,f7,g6,g7]
 simp only [beq_self_eq_true,Ro.eqL_self,Bool.and_self]
theorem Mb (f:Nat->Bool):∀ N,∃ q,q<=N∧(∀ j,j<q->f j=false)∧(q<N->f q=true)
 | 0=>⟨0,lRq _,fun j hj=>by omega,fun h=>by omega⟩
 | N + 1 => by
   obtain ⟨q,h1,h2,h3⟩:=Mb f N;rcases lOq q N with h | h
   ·exact ⟨q,by omega,h2,fun _=>h3 h⟩
   ·have:q=N:=by omega
    subst this;cases hf:f q with
    | true=>exact ⟨q,by omega,h2,fun _=>hf⟩
    | false =>
      refine ⟨q+1,lRq _,fun j hj => ?_,fun h=>by omega⟩
      rcases lOq j q with hj2 | hj2
      ·exact h2 j hj2
      ·have:j=q:=by omega
       subst this;exact hf
variable {τ:Val} {N m q:Nat}
theorem joT {i:Nat} (hi:i<m):jck τ (i:Int)=odC τ m i:=by
 unfold jck odC
 have:Nat.blt i m=true:=by unfold Nat.blt;rw [Nat.ble_eq];exact hi
 rw [this,Int.toNat_natCast,Bool.true_and]
theorem jni {i:Nat} (hi:m<=i):odC τ m i=false:=by
 unfold odC
 have:Nat.blt i m=false:=by
  cases hb:Nat.blt i m with
  | false=>rfl
  | true=>unfold Nat.blt at hb;rw [Nat.ble_eq] at hb;omega
 rw [this,Bool.false_and]
theorem IY {i:Nat}:(lt (i:Int) ((N:Nat):Int)&&lt (i:Int) (ja m))=(decide (i<N)&&decide (i<m)):=by
 unfold lt ja
 simp
theorem or_true (hm:m<=60):∀ k (i:Nat),i<=m->m+1<=k+i->orS (N:Int) m τ k (i:Int) true=some true
 | 0,i,h1,h2=>by omega
 | k + 1, i, h1, h2 => by
   unfold orS;rw [IY];rcases lOq i m with hi | hi
   ·rw [ND (by omega)]
    have:=or_true hm k (i+1) hi (by omega)
    simp only [Bool.true_or,nd,cond_true,this];cases decide (i<N)&&decide (i<m)<;>rfl
   ·have:decide (i<m)=false:=by simp;omega
    rw [this,Bool.and_false];rfl
theorem jem (hm:m<=60) (hq:q<=N) (h0:∀ j,j<q->odC τ m j=false) (h1:q<N->odC τ m q=true):∀ k (i:Nat),i<=m->i<=q->m+1<=k+i->orS (N:Int) m τ k (i:Int) false=some (!(Nat.beq q N))
 | 0,i,h2,h3,h4=>by omega
 | k + 1, i, h2, h3, h4 => by
   unfold orS;rw [IY];rcases lOq i m with hi | hi
   ·have e2:jc (i:Int) m=true:=(FQ hi).2;have d2:decide (i<m)=true:=by simp;exact hi
    rw [ND (by omega),d2,Bool.and_true,joT hi,e2]
    simp only [Bool.false_or,nd,cond_true];rcases lOq i q with h5 | h5
    ·have d1:decide (i<N)=true:=by simp;omega
     rw [d1,h0 i h5];exact jem hm hq h0 h1 k (i+1) hi h5 (by omega)
    ·have:i=q:=by omega
     subst this;rcases lOq i N with h6 | h6
     ·have d1:decide (i<N)=true:=by simp;exact h6
      have e3:Nat.beq i N=false:=by
       cases hb:Nat.beq i N with
       | false=>rfl
       | true=>have:=eBq hb;omega
      rw [d1,h1 h6,e3];exact or_true hm k (i+1) hi (by omega)
     ·have:i=N:=by omega
      subst this;have d1:decide (i<i)=false:=by simp
      rw [d1,Nat.beq_refl];rfl
   ·have d2:decide (i<m)=false:=by simp;omega
    have e3:q=N:=by
     rcases lOq q N with h6 | h6
     ·have:=h1 h6
      rw [jni (by omega)] at this
      cases this
     ·omega
    rw [d2,Bool.and_false,e3,Nat.beq_refl];rfl
theorem jet {pn:Nat} {pρ pρ2:Val} (hp:pn<=1000) (h:∀ j,j<pn->wd pρ j=wd pρ2 j):∀ k (i:Nat),i<=pn->pn+1<=k+i->Vd pn pρ pn pρ2 k (i:Int)=some true
 | 0,i,h1,h2=>by omega
 | k + 1, i, h1, h2 => by
   unfold Vd;rcases lOq i pn with hi | hi
   ·obtain ⟨e1,e2⟩:=FQ hi;rw [e1,e2,ND (by omega),Int.toNat_natCast,h i hi,kO]
    exact jet hp h k (i+1) hi (by omega)
   ·have:i=pn:=by omega
    subst this;rw [jcE];rfl
theorem jlG {y:Nat->Nat} {F0:Nat->Nat->Bool} {ρ0:Val} {n q:Nat} {r r2:Nat × Val × Nat × Val × Int} (h:RunIs y F0 ρ0 n q r) (h2:RunIs y F0 ρ0 n q r2) (hq:q<=NsB y n):∀ j,j<r.2.2.1->wd r.2.2.2.1 j=wd r2.2.2.2.1 j:=fun j hj=>by
 rw [h.pn] at hj;rcases lOq q (NsB y n) with hlt | hge
 ·have e7 : Nat.beq q (NsB y n) = false := by
   cases hb:Nat.beq q (NsB y n) with
   | false=>rfl
   | true=>have:=eBq hb;omega
  rw [e7] at hj;simp only [cond_false] at hj;rcases lOq j q with h3 | h3
  ·rw [h.pv j h3,h2.pv j h3]
  ·rcases lOq q j with h4 | h4
   ·have e:j=q+1+(j - q - 1):=by omega
    rw [e,h.pu hlt _ (by omega),h2.pu hlt _ (by omega)]
   ·have:j=q:=by omega
    subst this;rw [h.pf hlt,h2.pf hlt]
 ·have:q=NsB y n:=by omega
  rw [this,Nat.beq_refl] at hj;simp only [cond_true] at hj;rw [h.pv j (by omega),h2.pv j (by omega)]
variable {y:Nat->Nat} {F0:Nat->Nat->Bool} {n:Nat}
theorem Te {tk:Nat->List ByteArray} (ht:DJ y F0 tk) (hn:n<=20) {s:ByteArray} (hs:s.size<=8000) (hl:Lex (lst s) (tkH++(flT tk n++[wEnd]))):∃ x,IsB y F0 n x∧Q8 s=some (qO,AstS.dens x,0,0):=by
 obtain ⟨x,q,h1,h2⟩:=jk0 ht (n:=n) (N:=s.size) (by omega) hl
 have h2:=jn6 h2;refine ⟨x,h2,?_⟩;have h8:lt 8192 (ja s.size)=false:=by unfold lt ja;simp;omega
 have hf:jz 40 10001 qO x.length (jO (AstS.dens x))=some 0:=by
  rw [h2.1];exact UB (by omega) (OW h2 fun _=>rfl)
 have hp:Ht s=(qO,x,0,0):=by
  unfold Ht;rw [h8];show jbz (Wm s.size (lst s))=_;rw [h1];unfold jbz jak;simp only;rw [hf];rfl
 have:=jg6 s (by omega)
 rw [hp] at this;exact this
theorem jrm {n : Nat} {ξ : Val} {b : Int} {m : Nat} {τ : Val} (hb : ∀ i, i < n -> 0 <= ((ξ.at i).at 0).N [] ∧ ((ξ.at i).at 0).N [] < 256) {F : Nat -> Prop} {W : World} {vs : List Value} (ht : Tab F W)
  (hargs:All2 (A1.Rel F W []) [.agg [.sl [.int .u8] n ξ,.int .u8 b,.sl [.int .i64] m τ]] vs):Calls Tryz.prog 4 vs.toArray W (fun e W'=>e=.returned (.bool true)∧Below W.heap.size W W'):=by
 refine jgi ?_ ht hargs;cases hbig:or2 (lt 20 (ja n)) (lt 60 (ja m)) with
 | true =>
   refine JY (jnv qG P7 Q8 S9 k8 JF n ξ b m τ) (RA ?_);simp only [okB,List.all_cons,List.all_nil,hbig];rfl
 | false =>
 have hnm:n<=20∧m<=60:=by
  unfold or2 at hbig;cases h1:lt 20 (ja n) with
  | true=>rw [h1] at hbig;cases hbig
  | false =>
    rw [h1] at hbig;have hbig:lt 60 (ja m)=false:=hbig;unfold lt ja at h1 hbig;simp at h1 hbig;omega
 obtain ⟨hn,hm⟩:=hnm;have hs:qi 3 (y5 b)=true:=IV _ _ _ _ _ _;have hk:Ro.ckE ⟨3,y5 b⟩=0:=jh5 _ _ _ _ _ _;have hF:∀ j g,g<2->(((y5 b).at j).at (6+g)).B []=F0I b g j:=fun _ _ _=>rfl;have g:Grd (y5 b) m:=⟨hs,hk,by omega⟩
 obtain ⟨ρ',hT,hsi⟩:=jgh (n:=n) (ξ:=ξ) (by omega) hb b m τ hF
 obtain ⟨x,hx,hQ⟩:=Te (y:=yB ξ) (F0:=F0I b) jkQ hn (jkl hn) (jj2 n);have hP:P7 qO x.length (jO (AstS.dens x))=some (t2B (yB ξ) (F0I b) n,0):=jeB hn hx fun _=>rfl;obtain ⟨x2,hx2,hQ2⟩:=Te (y:=yB ξ) (F0:=F0I b) jkY hn (MV hn) jmC;generalize t2B (yB ξ) (F0I b) n=t at hP hQ2;have hl:=hx.1;have hl2:=hx2.1;have hbk:=OW hx (κ:=jO (AstS.dens x)) fun _=>rfl;have hbk2:=OW hx2 (κ:=jO (AstS.dens x2)) fun _=>rfl;have hS:S9 x.length (jO (AstS.dens x)) x2.length (jO (AstS.dens x2))=some true:=jjp hn hx hx2 (fun _=>rfl) fun _=>rfl;have hC:=Tr (by omega) hbk hs hk
 have hC2:=Tr (by omega) hbk2 hs hk
 obtain ⟨q,hq,h0,h1⟩:=Mb (odC τ m) (NsB (yB ξ) n);obtain ⟨r,hr,ir⟩:=Iu hF g (by omega) hbk hq h0 h1 hC
 obtain ⟨r2,hr2,ir2⟩:=Iu hF g (by omega) hbk2 hq h0 h1 hC2
 have hor:=jem (τ:=τ) hm hq h0 h1 (m+1) 0 (Nat.zero_le _) (Nat.zero_le _) (by omega)
 have hN:=Uz (y:=yB ξ) n;have hpn:r.pn=r2.pn:=ir.pn.trans ir2.pn.symm
 have hpn2:r.pn<=1000:=by
  have:=ir.pn
  simp only at this;rw [this];cases Nat.beq q (NsB (yB ξ) n)<;>simp only [cond_true,cond_false]<;>omega
 have hln:Vd r.pn r.pρ r2.pn r2.pρ (r.pn+1) 0=some true:=by
  rw [← hpn];exact jet hpn2 (jlG ir ir2 hq) (r.pn+1) 0 (Nat.zero_le _) (by omega)
 have heq:Zf r.sn r.sρ r2.sn r2.sρ=some true:=by
  have e1:r.sn=3:=ir.sn;have e2:r2.sn=3:=ir2.sn;rw [e1,e2];exact jiw ir.si ir2.si (by omega) hs
 have hee:r.e=r2.e:=ir.e.trans ir2.e.symm;have k_tv:tvL qG n ξ b m τ=⟨3,ρ',txB (yB ξ) (F0I b) n,((NsB (yB ξ) n:Nat):Int)⟩:=by unfold tvL;rw [hT];rfl
 have k_tx:txL qG n ξ b m τ=txE (yB ξ) (F0I b) n:=by unfold txL;rw [k_tv];rfl
 have k_bk:bkL qG Q8 n ξ b m τ=(qO,AstS.dens x,0,0):=by unfold bkL;rw [k_tx,hQ];rfl
 have k_pb:pbL qG P7 Q8 n ξ b m τ=some (t,0):=by
  unfold pbL;rw [k_bk];show P7 qO (AstS.dens x).length _=_;rw [ko];exact hP
 have k_z:zL4 qG P7 Q8 n ξ b m τ=(t,0):=by unfold zL4;rw [k_pb];rfl
 have k_x:xL qG P7 Q8 n ξ b m τ=(qO,AstS.dens x2,0,0):=by unfold xL;rw [k_z,hQ2];rfl
 have k_s:sL qG P7 Q8 S9 n ξ b m τ=some true:=by
  unfold sL;rw [k_bk,k_x];show S9 (AstS.dens x).length _ (AstS.dens x2).length _=_;rw [ko,ko];exact hS
 have k_er:erL qG P7 Q8 n ξ b m τ=false:=by unfold erL;rw [k_bk,k_x,k_z];rfl
 have k_nm:nmL qG P7 Q8 n ξ b m τ=true:=by unfold nmL;rw [k_bk,k_x];exact kO _
 have k_ck:ckL qG Q8 k8 n ξ b m τ=some (0,0):=by
  unfold ckL;rw [k_bk];show k8 qO (AstS.dens x).length _ 3 _=_;rw [ko,hl];exact hC
 have k_fs:fsL qG n ξ b m τ=some (!(Nat.beq q (NsB (yB ξ) n))):=by unfold fsL;rw [k_tv];exact hor
 have k_rb:rbL qG Q8 JF n ξ b m τ=some r:=by
  unfold rbL;rw [k_bk];show JF qO (AstS.dens x).length _ 3 _ m τ=_;rw [ko,hl];exact hr
 have k_rx:rxL qG P7 Q8 JF n ξ b m τ=some r2:=by
  unfold rxL;rw [k_x];show JF qO (AstS.dens x2).length _ 3 _ m τ=_;rw [ko,hl2];exact hr2
 have k_vb:vbL qG Q8 JF n ξ b m τ=r:=by unfold vbL;rw [k_rb];rfl
 have k_vx:vxL qG P7 Q8 JF n ξ b m τ=r2:=by unfold vxL;rw [k_rx];rfl
 have k_eq:ja8 qG P7 Q8 JF n ξ b m τ=some true:=by unfold ja8;rw [k_vb,k_vx];exact heq
 have k_ln:lnL qG P7 Q8 JF n ξ b m τ=some true:=by unfold lnL;rw [k_vb,k_vx];exact hln
 have k_ee:(r.e != r2.e)=false:=by rw [hee];simp
 have k_pp:(ja r.pn != ja r2.pn)=false:=by rw [hpn];simp
 have way:∀ f,f=(!(Nat.beq q (NsB (yB ξ) n)))->okB (jct qG P7 Q8 S9 k8 JF n ξ b m τ f)=true:=fun f hf=>by
  unfold jct;simp only [okB,List.all_cons,List.all_nil,hbig,hT,k_tx,hQ,k_pb,k_z,hQ2,k_er,k_nm,k_s,k_ck,k_fs,k_rb,k_rx,k_vb,k_vx,k_eq,k_ln,k_ee,k_pp,os1,ov1,oB,hf];cases Nat.beq q (NsB (yB ξ) n)<;>rfl
 have ire:=ir.e;have irs:=ir.si;have irp:=ir.pn;have e3:r.sn=3:=ir.sn;simp only at ire irs irp;cases hqe:Nat.beq q (NsB (yB ξ) n) with
 | false =>
   rw [hqe] at ire irs irp;simp only [cond_false] at ire irs irp
   have hend:jcg qG Q8 JF n ξ b m τ=some true:=by
    unfold jcg;rw [k_vb,e3];exact jkA irs (by omega) hs fun j g hg=>(hF j g hg).symm
   have hpath:=jmI qG P7 Q8 S9 k8 JF n ξ b m τ;simp only [k_vb,hend,ire,ov1,os1] at hpath;refine JY hpath (RA ?_);have hw:=way true (by rw [hqe];rfl)
   unfold okB at hw ⊢;rw [List.all_append,hw];rfl
 | true =>
   rw [hqe] at ire irs irp;simp only [cond_true] at ire irs irp;have hqN:q=NsB (yB ξ) n:=eBq hqe
   have hend:jaU qG Q8 JF n ξ b m τ=some true:=by
    unfold jaU;rw [k_vb,k_tv,e3];exact jiw irs hsi (by omega) hs
   have hl3:(ja r.pn==(tvL qG n ξ b m τ).s)=true:=by
    rw [k_tv,irp,hqN];exact beq_self_eq_true _
   have hpath:=jmV qG P7 Q8 S9 k8 JF n ξ b m τ;simp only [k_vb,hend,ire,ov1,os1,hl3] at hpath;refine JY hpath (RA ?_);have hw:=way false (by rw [hqe];rfl)
   unfold okB at hw ⊢;rw [List.all_append,hw];rfl
theorem jja (ρ:Val):GX Tryz.prog 36 [.sl [.int .u8],.int .u8,.sl [.int .i64]] ρ=.agg [.sl [.int .u8] ((ρ.at 0).L []) (ρ.at 0),.int .u8 ((ρ.at 1).N []),.sl [.int .i64] ((ρ.at 2).L []) (ρ.at 2)]:=by kernel_rfl
theorem byte_wf {z:Int} (h:(Lit.int .u8 z).wf=true):0<=z∧z<256:=by
 have:0<=z∧z<=255:=by
  simpa [Lit.wf,IntKind.min,IntKind.max,IntKind.signed,IntKind.bits] using h
 omega
theorem jht {ρ : Val} (w0 : wfL [.sl [.int .u8], .int .u8, .sl [.int .i64]] 0 ρ) {W : World} (ht : Tab (fun _ => False) W) {vs : List Value} (h : All2 (A1.Rel (fun _ => False) W []) [GX Tryz.prog 36 [.sl [.int .u8], .int .u8, .sl [.int .i64]] ρ] vs) :
  Calls Tryz.prog 4 vs.toArray W (fun e W'=>e=.returned (.bool true)∧Below W.heap.size W W'):=by
 rw [jja] at h;exact jrm (fun i hi=>byte_wf (w0.1.2 i hi 0)) ht h
end Go.Proofs.YtiefjlcakpdfeaaGreatDoor