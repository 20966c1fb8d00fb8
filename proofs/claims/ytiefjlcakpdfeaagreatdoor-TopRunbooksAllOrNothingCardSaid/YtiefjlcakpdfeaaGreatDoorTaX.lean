/-
 Part TaX of the proof: RbK EngPv RbN RbO RbP.
-/
import Derived.Test.YtiefjlcakpdfeaaGreatDoorTaW
import Derived.Test.YtiefjlcakpdfeaaGreatDoorTaV
namespace Go.Proofs.YtiefjlcakpdfeaaGreatDoor
open Go Go.Sx Go.RowKit Rb
set_option maxRecDepth 100000
def GC (a:Int):Tree (XP × DE):=.leaf (.pan (J4 a),none)
def jl7 (s:ByteArray) (e:RX) (p:PS):Tree (XP × DE):=.leaf (.ret,some ((s,p),e))
def TellsC (T:Tree (XP × DE)) (s:ByteArray):PR PS RX->Prop
 | .stuck=>True
 | .ret v p=>T.sel=some (.ret,some ((s,p),v))
 | .pan a=>T.sel=some (.pan (J4 a),none)
theorem TellsC.bind {α:Type} {d:α} {x:PR PS α} {K:α->PS->Tree (XP × DE)} {s:ByteArray} {f:α->PS->PR PS RX} (h:∀ v p,TellsC (K v p) s (f v p)):TellsC (nxT d x K GC) s (x.bind f):=by
 cases x with
 | stuck=>exact trivial
 | pan a=>rfl
 | ret v p =>
   have:=h v p
   show TellsC _ s (f v p);cases hf:f v p with
  | stuck=>exact trivial
  | ret w q=>rw [hf] at this;exact this
  | pan a=>rw [hf] at this;exact this
theorem TellsC.cond {c:Bool} {A B:Tree (XP × DE)} {s:ByteArray} {x y:PR PS RX} (h1:TellsC A s x) (h2:TellsC B s y):TellsC (.br c A B) s (bif c then x else y):=by
 cases c
 ·show TellsC _ s y;cases y<;>exact h2
 ·show TellsC _ s x;cases x<;>exact h1
theorem TellsC.br1 {c:Bool} {A B:Tree (XP × DE)} {s:ByteArray} {x:PR PS RX} (hc:c=true) (h:TellsC A s x):TellsC (.br c A B) s x:=by
 subst hc;cases x<;>exact h
theorem TellsC.br0 {c:Bool} {A B:Tree (XP × DE)} {s:ByteArray} {x:PR PS RX} (hc:c=false) (h:TellsC B s x):TellsC (.br c A B) s x:=by
 subst hc;cases x<;>exact h
theorem TellsC.nd {c:Bool} {A:Tree (XP × DE)} {s:ByteArray} {x:PR PS RX} (hc:c=true) (h:TellsC A s x):TellsC (.need c A) s x:=by
 subst hc;cases x<;>exact h
def rCh (s:ByteArray) (os:List ByteArray) (O:ByteArray->PS->PR PS RX) (g:CE->Tree (XP × DE)) (e:RX):Nat->Nat->PS->Tree (XP × DE)
 | 0,_,_=>.fail
 | k + 1, j, p => .br (lt (j : Int) (ja os.length)) (.need (jc (j : Int) os.length) (nxT false (qH (MP s) ((((za os).at j).at 0).S []) p)
   (fun c p1=>.br c (nxT dX (O s p1) (fun x p2=>g ((s,p2),exR ((((za os).at j).at 0).S []) 0 [e,x])) GC) (rCh s os O g e k (j+1) p1)) GC)) (jl7 s e p)
theorem Jt {s : ByteArray} {os : List ByteArray} (hos : os.length <= 100) {O : ByteArray -> PS -> PR PS RX} {g : CE -> Tree (XP × DE)} {G : RX -> PS -> PR PS RX} (hg : ∀ e p, TellsC (g ((s, p), e)) s (G e p)) (e : RX) :
  ∀ (r:List ByteArray) (j k:Nat) (p:PS),os.drop j=r->j+r.length=os.length->r.length<k->TellsC (rCh s os O g e k j p) s (Ya (MP s) AR (O s) G e r p)
 | [], j, k, p, hd, hj, hk => by
   obtain ⟨k,rfl⟩ : ∃ k',k=k'+1:=⟨k - 1,by omega⟩
   refine TellsC.br0 ?_ rfl;unfold lt ja;simp at hj ⊢;omega
 | o :: r, j, k, p, hd, hj, hk => by
   obtain ⟨k,rfl⟩ : ∃ k',k=k'+1:=⟨k - 1,by omega⟩
   obtain ⟨h1,h2⟩:=Ks os j o r hd;have hlen:j<os.length:=jo h1;have hw:(((za os).at j).at 0).S []=o:=by rw [QR os j o h1];rfl
   refine TellsC.br1 (by unfold lt ja;simp;omega) (TellsC.nd (by unfold jc le lt ja;simp;omega) ?_)
   rw [hw];refine TellsC.bind fun c p1=>TellsC.cond (TellsC.bind fun x p2=>hg _ _) ?_;exact Jt hos hg e r (j+1) k p1 h2 (by simp only [List.length_cons] at hj;omega) (by simp only [List.length_cons] at hk;omega)
def chT (s:ByteArray) (r:PR PS RX):Tree (XP × DE):=nxT dX r (fun e p=>jl7 s e p) GC
theorem YI {s:ByteArray} {r:PR PS RX} {x:XP × DE} {T:Tree (XP × DE)} (h:(chT s r).sel=some x) (ht:TellsC T s r):T.sel=some x:=by
 cases r with
 | stuck=>cases h
 | ret v p=>rw [← h];exact ht
 | pan a=>rw [← h];exact ht
theorem QK {s:ByteArray} {r:PR PS RX}:TellsC (chT s r) s r:=by cases r<;>first | exact trivial | rfl
abbrev UO (O:ByteArray->PS->PR PS RX):=uOf dX J7 (spU O)
abbrev XF (fo:Nat) (O:ByteArray->PS->PR PS RX) (sx:List (Nat × (Nat->St->Tree (XP × St)))):HdP:=⟨(fo,localG 70 (UO O))::GK,[],[],[],sx,3,fo::[185,84,28,29,52,27]⟩
theorem Bc (r:Nat):XOk Tryz.prog ⟨GK,[],[],[],[],r,[185,84,28,29,52,27]⟩ :=
 ((((((XOk.nil.loCons jhE (LocFn.localG _ _)).loCons jge (LocFn.localG _ _)).loCons jfa (LocFn.localG _ _)).loCons jfX (LocFn.localG _ _)).loCons jib (LocFn.localG _ _)).loCons jiD (LocFn.localG _ _))
theorem xF {fo:Nat} {O:ByteArray->PS->PR PS RX} (hO:ju Tryz.prog fo (localG 70 (UO O))):XOk Tryz.prog (XF fo O []):=(Bc 3).loCons hO (LocFn.localG _ _)
def chS (os:List ByteArray) (O:ByteArray->PS->PR PS RX) (k:Nat) (s:ByteArray) (p:PS):PR PS RX:=(O s p).bind fun e p1=>Jp (MP s) AR os (O s) k e p1
def gCh (os:List ByteArray) (O:ByteArray->PS->PR PS RX) (k:Nat) (c:CE):Tree (XP × DE):=chT c.1.1 (Jp (MP c.1.1) AR os (O c.1.1) k c.2 c.1.2)
def uCh (os:List ByteArray) (O:ByteArray->PS->PR PS RX) (k:Nat) (c:CP):Tree (XP × DE):=chT c.1 (chS os O k c.1 c.2)
def tCh (S:ByteArray->PS->PR PS RX) (s:ByteArray) (p:PS):Tree (Out × List CV):=nxT dX (S s p) (fun e p1=>Qy (J7 e) s p1) qg
theorem RY:((nth Tryz.prog.funcs.toList 111).bind fun fn=>fn.body.map fun c=>(ax c).length)=some 1:=by kernel_rfl
theorem Fh:(findLabel (zB Tryz.prog 111).1 0).isSome=true:=by kernel_rfl
abbrev zT:List ByteArray:=[ZP,kg]
theorem jcG (O : ByteArray -> PS -> PR PS RX) (g : CE -> Tree (XP × DE)) (s t o : ByteArray) (n a v : Int) (m : Nat) (ρ : Val) :
  US (AL zT 155) Tryz.prog Yc (XF 155 O []) 10 111 0 g ((s,⟨n,t,a⟩),⟨o,v,m,ρ⟩)=rCh s zT O g ⟨o,v,m,ρ⟩ 3 0 ⟨n,t,a⟩:=by kernel_rfl
theorem IU (O : ByteArray -> PS -> PR PS RX) (g : CE -> Tree (XP × DE)) (s t : ByteArray) (n a : Int) :
  Ut (AL zT 155) (AZ zT 155) Tryz.prog Yc (XF 155 O []) 10 111 0 g (s,⟨n,t,a⟩)=nxT dX (O s ⟨n,t,a⟩) (fun e p1=>rCh s zT O g e 3 0 p1) GC:=by kernel_rfl
theorem jiX {O:ByteArray->PS->PR PS RX} (hO:ju Tryz.prog 155 (localG 70 (UO O))):∀ k,PassCore Tryz.prog 111 0 3 (SL zT 155) SE (gCh zT O k) :=
 PassCore.fuel (A:=AL zT 155) (aL zT 155) Kf (xF hO) 10 (fun _=>rfl) fun k c x h=>by
  obtain ⟨⟨s,⟨n,t,a⟩⟩,⟨o,v,m,ρ⟩⟩:=c;rw [jcG];exact YI h (Jt (by decide) (fun e p=>QK) _ zT 0 3 _ rfl rfl (by decide))
theorem ay {O:ByteArray->PS->PR PS RX} (hO:ju Tryz.prog 155 (localG 70 (UO O))) (k:Nat):SxOne Tryz.prog 111 (qz (AZ zT 155) (uCh zT O (k+1))) :=
 SxOne.core (A:=AL zT 155) (aL zT 155) (aZ zT 155) rfl rfl Kf (xF hO) 10 (jiX hO k) (fun b x h=>by
  obtain ⟨s,⟨n,t,a⟩⟩:=b;rw [IU];refine YI h ?_;exact TellsC.bind fun e p1=>Jt (by decide) (fun e p=>QK) _ zT 0 3 _ rfl rfl (by decide)) RY Fh
abbrev jiE (O:ByteArray->PS->PR PS RX) (k:Nat):HdP:=XF 155 O [(111,qz (AZ zT 155) (uCh zT O (k+1)))]
theorem jpW {O:ByteArray->PS->PR PS RX} (hO:ju Tryz.prog 155 (localG 70 (UO O))) (k:Nat):XOk Tryz.prog (jiE O k):=(xF hO).sxCons (ay hO k)
theorem jjH (O:ByteArray->PS->PR PS RX) (k:Nat) (s t:ByteArray) (n a:Int):kx Tryz.prog Yc (jiE O k) 10 138 70 [] [.str s,.int .i64 n,.str t,.int .i64 a]=tCh (chS zT O (k+1)) s ⟨n,t,a⟩:=by kernel_rfl
theorem jpF {O:ByteArray->PS->PR PS RX} (hO:ju Tryz.prog 155 (localG 70 (UO O))) (k:Nat):ju Tryz.prog 138 (localG 70 (UO (chS zT O (k+1)))):=Uu Kf (jpW hO k) 10 138 fun s n t a=>by
 rw [jjH]
 have:=Tells.bind (enc:=J7) (s:=s) (d:=dX) (x:=chS zT O (k+1) s ⟨n,t,a⟩) (K:=fun e p1=>Qy (J7 e) s p1) (f:=fun e p1=>.ret e p1) fun e p1=>Tells.ret
 cases hx:chS zT O (k+1) s ⟨n,t,a⟩ with
 | stuck=>exact trivial
 | ret v q=>rw [hx] at this;unfold tCh;rw [hx];exact this
 | pan b=>rw [hx] at this;unfold tCh;rw [hx];exact this
abbrev zU:List ByteArray:=[JG]
theorem jbZ (O : ByteArray -> PS -> PR PS RX) (g : CE -> Tree (XP × DE)) (s t o : ByteArray) (n a v : Int) (m : Nat) (ρ : Val) :
  US (AL zU 123) Tryz.prog Yc (XF 123 O []) 10 111 0 g ((s,⟨n,t,a⟩),⟨o,v,m,ρ⟩)=rCh s zU O g ⟨o,v,m,ρ⟩ 3 0 ⟨n,t,a⟩:=by kernel_rfl
theorem IT (O : ByteArray -> PS -> PR PS RX) (g : CE -> Tree (XP × DE)) (s t : ByteArray) (n a : Int) :
  Ut (AL zU 123) (AZ zU 123) Tryz.prog Yc (XF 123 O []) 10 111 0 g (s,⟨n,t,a⟩)=nxT dX (O s ⟨n,t,a⟩) (fun e p1=>rCh s zU O g e 3 0 p1) GC:=by kernel_rfl
theorem jlt {O:ByteArray->PS->PR PS RX} (hO:ju Tryz.prog 123 (localG 70 (UO O))):∀ k,PassCore Tryz.prog 111 0 3 (SL zU 123) SE (gCh zU O k) :=
 PassCore.fuel (A:=AL zU 123) (aL zU 123) Kf (xF hO) 10 (fun _=>rfl) fun k c x h=>by
  obtain ⟨⟨s,⟨n,t,a⟩⟩,⟨o,v,m,ρ⟩⟩:=c;rw [jbZ];exact YI h (Jt (by decide) (fun e p=>QK) _ zU 0 3 _ rfl rfl (by decide))
theorem jpM {O:ByteArray->PS->PR PS RX} (hO:ju Tryz.prog 123 (localG 70 (UO O))) (k:Nat):SxOne Tryz.prog 111 (qz (AZ zU 123) (uCh zU O (k+1))) :=
 SxOne.core (A:=AL zU 123) (aL zU 123) (aZ zU 123) rfl rfl Kf (xF hO) 10 (jlt hO k) (fun b x h=>by
  obtain ⟨s,⟨n,t,a⟩⟩:=b;rw [IT];refine YI h ?_;exact TellsC.bind fun e p1=>Jt (by decide) (fun e p=>QK) _ zU 0 3 _ rfl rfl (by decide)) RY Fh
abbrev jiy (O:ByteArray->PS->PR PS RX) (k:Nat):HdP:=XF 123 O [(111,qz (AZ zU 123) (uCh zU O (k+1)))]
theorem jpz {O:ByteArray->PS->PR PS RX} (hO:ju Tryz.prog 123 (localG 70 (UO O))) (k:Nat):XOk Tryz.prog (jiy O k):=(xF hO).sxCons (jpM hO k)
theorem jkn (O:ByteArray->PS->PR PS RX) (k:Nat) (s t:ByteArray) (n a:Int):kx Tryz.prog Yc (jiy O k) 10 112 70 [] [.str s,.int .i64 n,.str t,.int .i64 a]=tCh (chS zU O (k+1)) s ⟨n,t,a⟩:=by kernel_rfl
theorem jpN {O:ByteArray->PS->PR PS RX} (hO:ju Tryz.prog 123 (localG 70 (UO O))) (k:Nat):ju Tryz.prog 112 (localG 70 (UO (chS zU O (k+1)))):=Uu Kf (jpz hO k) 10 112 fun s n t a=>by
 rw [jkn]
 have:=Tells.bind (enc:=J7) (s:=s) (d:=dX) (x:=chS zU O (k+1) s ⟨n,t,a⟩) (K:=fun e p1=>Qy (J7 e) s p1) (f:=fun e p1=>.ret e p1) fun e p1=>Tells.ret
 cases hx:chS zU O (k+1) s ⟨n,t,a⟩ with
 | stuck=>exact trivial
 | ret v q=>rw [hx] at this;unfold tCh;rw [hx];exact this
 | pan b=>rw [hx] at this;unfold tCh;rw [hx];exact this
abbrev zV:List ByteArray:=[wOr]
theorem jbC (O : ByteArray -> PS -> PR PS RX) (g : CE -> Tree (XP × DE)) (s t o : ByteArray) (n a v : Int) (m : Nat) (ρ : Val) :
  US (AL zV 112) Tryz.prog Yc (XF 112 O []) 10 111 0 g ((s,⟨n,t,a⟩),⟨o,v,m,ρ⟩)=rCh s zV O g ⟨o,v,m,ρ⟩ 3 0 ⟨n,t,a⟩:=by kernel_rfl
theorem IM (O : ByteArray -> PS -> PR PS RX) (g : CE -> Tree (XP × DE)) (s t : ByteArray) (n a : Int) :
  Ut (AL zV 112) (AZ zV 112) Tryz.prog Yc (XF 112 O []) 10 111 0 g (s,⟨n,t,a⟩)=nxT dX (O s ⟨n,t,a⟩) (fun e p1=>rCh s zV O g e 3 0 p1) GC:=by kernel_rfl
theorem jlw {O:ByteArray->PS->PR PS RX} (hO:ju Tryz.prog 112 (localG 70 (UO O))):∀ k,PassCore Tryz.prog 111 0 3 (SL zV 112) SE (gCh zV O k) :=
 PassCore.fuel (A:=AL zV 112) (aL zV 112) Kf (xF hO) 10 (fun _=>rfl) fun k c x h=>by
  obtain ⟨⟨s,⟨n,t,a⟩⟩,⟨o,v,m,ρ⟩⟩:=c;rw [jbC];exact YI h (Jt (by decide) (fun e p=>QK) _ zV 0 3 _ rfl rfl (by decide))
theorem jqe {O:ByteArray->PS->PR PS RX} (hO:ju Tryz.prog 112 (localG 70 (UO O))) (k:Nat):SxOne Tryz.prog 111 (qz (AZ zV 112) (uCh zV O (k+1))) :=
 SxOne.core (A:=AL zV 112) (aL zV 112) (aZ zV 112) rfl rfl Kf (xF hO) 10 (jlw hO k) (fun b x h=>by
  obtain ⟨s,⟨n,t,a⟩⟩:=b;rw [IM];refine YI h ?_;exact TellsC.bind fun e p1=>Jt (by decide) (fun e p=>QK) _ zV 0 3 _ rfl rfl (by decide)) RY Fh
abbrev jiv (O:ByteArray->PS->PR PS RX) (k:Nat):HdP:=XF 112 O [(111,qz (AZ zV 112) (uCh zV O (k+1)))]
theorem jp2 {O:ByteArray->PS->PR PS RX} (hO:ju Tryz.prog 112 (localG 70 (UO O))) (k:Nat):XOk Tryz.prog (jiv O k):=(xF hO).sxCons (jqe hO k)
theorem ji8 (O:ByteArray->PS->PR PS RX) (k:Nat) (s t:ByteArray) (n a:Int):kx Tryz.prog Yc (jiv O k) 10 83 70 [] [.str s,.int .i64 n,.str t,.int .i64 a]=tCh (chS zV O (k+1)) s ⟨n,t,a⟩:=by kernel_rfl
theorem jpQ {O:ByteArray->PS->PR PS RX} (hO:ju Tryz.prog 112 (localG 70 (UO O))) (k:Nat):ju Tryz.prog 83 (localG 70 (UO (chS zV O (k+1)))):=Uu Kf (jp2 hO k) 10 83 fun s n t a=>by
 rw [ji8]
 have:=Tells.bind (enc:=J7) (s:=s) (d:=dX) (x:=chS zV O (k+1) s ⟨n,t,a⟩) (K:=fun e p1=>Qy (J7 e) s p1) (f:=fun e p1=>.ret e p1) fun e p1=>Tells.ret
 cases hx:chS zV O (k+1) s ⟨n,t,a⟩ with
 | stuck=>exact trivial
 | ret v q=>rw [hx] at this;unfold tCh;rw [hx];exact this
 | pan b=>rw [hx] at this;unfold tCh;rw [hx];exact this
end Go.Proofs.YtiefjlcakpdfeaaGreatDoor
namespace Go.Sx
open Go Go.RowKit
variable {P:Program}
def jaX (P:Program) (H:Hd) (X:HdP) (n f:Nat) (args:List A1) (mem:Mem):Tree (Out × Mem) :=
 match nth P.funcs.toList f with
 | some fn=>match fn.body with
  | some c => if Nat.ble args.length fn.ntmps then
    (jZ P H X (jU P H n) (zD P H X n) f mem.length 0 c ⟨⟨args.map (fun a=>⟨[],.one a⟩)++List.replicate (fn.ntmps - args.length) ⟨[],.any⟩,mem⟩,[]⟩).bind fun x=>match x.1 with
     | .exit _=>.fail
     | .goto _=>.fail
     | .pan y=>y7 P H X (jU P H n) (zD P H X n) fn x.2.s x.2.dl (some y) x.2.s.mem
     | _=>y7 P H X (jU P H n) (zD P H X n) fn x.2.s x.2.dl none x.2.s.mem
    else .fail
  | none=>.fail
 | none=>.fail
theorem jfI {H:Hd} (hH:HdOk P H) {X:HdP} (hX:XOk P X) (n f:Nat):ju P f (jaX P H X n f):=by
 intro args mem r mem' h F w bs vs hm hargs;unfold jaX at h;split at h
 rotate_left
 ·simp [Tree.sel] at h
 rename_i fn hfn;split at h
 rotate_left
 ·simp [Tree.sel] at h
 rename_i c hb;split at h
 rotate_left
 ·simp [Tree.sel] at h
 rename_i hle;obtain ⟨⟨x,s1⟩,h1,h2⟩:=jg h;rw [jd,Array.getElem?_toList] at hfn;have hst:=Wi (nt:=fn.ntmps) hm hargs (by simpa using hle)
 refine calls_of_wp_defers hfn hb (yU hH.pc hX.rx hX.nc (qY hH n) (yn hH hX n) f mem.length c 0 _ h1 (fun i b hh hi hk=>hH.lh f fn c i b hh hfn hb hi (by simpa using hk)) (fun i b hh hi hk=>hX.lx f fn c i b hh hfn hb hi (by simpa using hk)) (fun b hh hi hk=>hX.sx f fn c b hh hfn hb hi hk) (Nat.le_of_eq hm.len.symm) (hst.toP .nil) fun F' w' bs' a' e he hs' hx => ?_)
 have hext:Ext bs.length F w bs F' w' bs':=he.weak (Nat.le_of_eq hm.len)
 have key:∀ (pan:Option CV) (u:FrameMode),(y7 P H X (jU P H n) (zD P H X n) fn s1.s s1.dl pan s1.s.mem).sel=some (r,mem')->UMode F' w' bs' pan u->Leaves P fn a'.tmps (fun e w'=>∃ F' bs',Ext bs.length F w bs F' w' bs'∧MemRel P F' w' bs' mem'∧r.Ends F' w' bs' e) a'.defers u w':=by
  intro pan u hl hu
  have:=leaveP_ok hH hX.xs (qY hH n) (yn hH hX n) s1.dl pan s1.s.mem hl hs'.st hs'.ds hu
  exact leaveP_ok.leaves_mono (fun e w2 ⟨F2,bs2,he2,hm2,hr2⟩=>⟨F2,bs2,hext.trans he2 hext.le,hm2,hr2⟩) _ _ _ this
 cases x with
 | normal=>cases hx;exact key none .returning h2 rfl
 | ret=>cases hx;exact key none .returning h2 rfl
 | pan y=>obtain ⟨v,rfl,hv⟩:=hx;exact key (some y) _ h2 ⟨v,rfl,hv⟩
 | exit k=>simp [Tree.sel] at h2
 | goto k=>simp [Tree.sel] at h2
theorem jdP {f : Nat} (T : TypeId) {ev : List A1 -> Mem -> Tree (Out × Mem)} (hev : ju P f ev) {u : List A1 -> List CV -> Tree (Out × List CV)}
  (hu:∀ rest cs r,(u rest cs).sel=some r->∃ z,((ev (.c (.ptr 0 0)::rest) [some (T,cs)]).bind (DR T)).sel=some z∧LeOut z r):ju P f (localG T u):=by
 intro args mem r mem' h F w bs vs hm hargs;unfold localG at h;split at h
 rotate_left
 ·simp [Tree.sel] at h
 rename_i b rest;split at h
 rotate_left
 ·simp [Tree.sel] at h
 rename_i T' cs hb;split at h
 rotate_left
 ·simp [Tree.sel] at h
 rename_i hcond;simp only [aTq,beq_iff_eq,Bool.not_eq_true'] at hcond;obtain ⟨⟨⟨rfl,hr⟩,hcs⟩,hrest⟩:=hcond;obtain ⟨⟨o,ds⟩,h1,h2⟩:=jg h;simp only [Tree.sel,sIq,pIq] at h2;obtain ⟨rfl,rfl⟩:=h2;obtain ⟨⟨o',cs'⟩,h3,hle⟩:=hu rest cs _ h1;obtain ⟨⟨o1,m1⟩,h4,h5⟩:=jg h3;cases hargs with
 | cons hp hvs =>
   rename_i v0 vs;cases hp with
  | ptr hx =>
    rename_i x;have hm1:=hm.lone hb hr hcs hx;have hargs1:All2 (A1.Rel F w [x]) (.c (.ptr 0 0)::rest) (.pointer (some ⟨x.p,0,none⟩)::vs):=.cons (CV.Rel.ptr (bs:=[x]) (b:=0) (x:=x) rfl) (Jc hvs hrest)
    have hbs:nth (jk mem b (some (T',cs'))) b=some (some (T',cs')):=by
     have hlt:=jo hb;rw [jd,jy];simp [hlt]
    refine (hev _ _ o1 m1 h4 F w [x] _ hm1 hargs1).mono fun e w' ⟨F',bs',hext,hm',hend⟩ => ?_;unfold DR at h5;split at h5
    ·rename_i a hoa;simp only at hoa;subst hoa;split at h5
     ·rename_i T2 cs2 hz;split at h5
      ·rename_i hc;simp only [aTq,beq_iff_eq,Bool.not_eq_true'] at hc;obtain ⟨⟨⟨⟨rfl,c1⟩,c2⟩,c3⟩,c4⟩:=hc;simp only [Tree.sel,sIq,pIq] at h5;obtain ⟨rfl,rfl⟩:=h5;obtain ⟨v,rfl,hv⟩:=hend;obtain ⟨F2,e2,hm2,r2⟩:=ZB hm' hv;have e3:=hext.trans e2 (hext.le);have hx0:nth bs' 0=some x:=hext.pre 0 x (by simp) rfl
       obtain ⟨F3,e4,hm3⟩:=hm2.frzBlock hz c1 c2 hx0
       have hz3:nth (jk (qA (ze m1 a).1 cs2).1 0 (some (T2,(qA (ze m1 a).1 cs2).2))) 0=some (some (T2,(qA (ze m1 a).1 cs2).2)):=by
        have hlt:=jo (KM (l:=cs2) hz c1);rw [jd,jy];simp [hlt]
       have e5:=e3.trans e4 (hext.le);obtain ⟨he,hmm⟩:=hm.unlone hb hr hx e5 hm3 hz3 c2 c3;cases hle with
       | ret hla hl hr' =>
         have hmm2:=hmm.cellsLe hbs c2 c3 hl hr';rw [Z6] at hmm2;exact ⟨F3,bs,he,hmm2,v,rfl,AV.Rel.grow ⟨lRq _,fun _ _ h=>h,fun _ _ _=>rfl,fun k p h=>by simp [nth] at h⟩ (hla _ _ _ ((AV.Rel.grow e4.grow r2).closed c4))⟩
      ·simp [Tree.sel] at h5
     ·simp [Tree.sel] at h5
    ·rename_i y hoy;simp only at hoy;subst hoy;split at h5
     ·rename_i T2 cs2 hz;split at h5
      ·rename_i hc;simp only [aTq,beq_iff_eq,Bool.not_eq_true'] at hc;obtain ⟨⟨rfl,c1⟩,c4⟩:=hc;simp only [Tree.sel,sIq,pIq] at h5;obtain ⟨rfl,rfl⟩:=h5;obtain ⟨v,rfl,hv⟩:=hend;have hm3:=hm'.anyBlock hz c1
       have hz3:nth (jk m1 0 (some (T2,cs2.map fun _=>CV.any))) 0=some (some (T2,cs2.map fun _=>CV.any)):=by
        have hlt:=jo hz;rw [jd,jy];simp [hlt]
       obtain ⟨he,hmm⟩:=hm.unlone hb hr hx hext hm3 hz3 (Ki cs2) (ZS cs2);cases hle with
       | pan hl hr' =>
         have hmm2:=hmm.cellsLe hbs (Ki cs2) (ZS cs2) hl hr';rw [Z6] at hmm2;exact ⟨F',bs,he,hmm2,v,rfl,hv.closed c4⟩
      ·simp [Tree.sel] at h5
     ·simp [Tree.sel] at h5
def jph (P:Program) (H:Hd) (X:HdP) (k f:Nat) (T:TypeId) (rest:List A1) (cs:List CV):Tree (Out × List CV) :=
 (jaX P H X k f (.c (.ptr 0 0)::rest) [some (T,cs)]).bind (DR T)
end Go.Sx
namespace Go.Proofs.YtiefjlcakpdfeaaGreatDoor
open Go Go.Sx Go.RowKit Rb
set_option maxRecDepth 100000
theorem WG {P:Program} {α:Type} {d:α} {enc:α->AV} (f:Nat):ju P f (localG 70 (uOf d enc (spU fun _ _=>.stuck))):=by
 intro args mem r mem' h
 exfalso
 unfold localG at h;split at h
 ·split at h
  ·split at h
   ·obtain ⟨y,h1,_⟩:=jg h;unfold uOf spU at h1;split at h1
    ·split at h1<;>cases h1
    ·cases h1
   ·cases h
  ·cases h
 ·cases h
theorem Tells.br1 {α:Type} {c:Bool} {A B:Tree (Out × List CV)} {enc:α->AV} {s:ByteArray} {x:PR PS α} (hc:c=true) (h:Tells A enc s x):Tells (.br c A B) enc s x:=by
 subst hc;cases x<;>exact h
theorem Tells.br0 {α:Type} {c:Bool} {A B:Tree (Out × List CV)} {enc:α->AV} {s:ByteArray} {x:PR PS α} (hc:c=false) (h:Tells B enc s x):Tells (.br c A B) enc s x:=by
 subst hc;cases x<;>exact h
theorem Tells.nd {α:Type} {c:Bool} {A:Tree (Out × List CV)} {enc:α->AV} {s:ByteArray} {x:PR PS α} (hc:c=true) (h:Tells A enc s x):Tells (.need c A) enc s x:=by
 subst hc;cases x<;>exact h
theorem jpY {P:Program} {α:Type} {H:Hd} {X:HdP} {d:α} {enc:α->AV} (hH:HdOk P H) (hX:XOk P X) (k f:Nat) {F:ByteArray->PS->PR PS α} (h:∀ s n t a,Tells (jph P H X k f 70 [] [.str s,.int .i64 n,.str t,.int .i64 a]) enc s (F s ⟨n,t,a⟩)):ju P f (localG 70 (uOf d enc (spU F))) :=
 jdP 70 (jfI hH hX k f) fun rest cs r hr=>by
  unfold uOf at hr;split at hr
  ·rename_i s n t a;unfold spU at hr;split at hr
   ·have ht:=h s n t a;rcases I0 hr with ⟨v,p,hx,rfl⟩ | ⟨a',hx,rfl⟩
    ·rw [hx] at ht;exact ht
    ·rw [hx] at ht;exact ht
   ·cases hr
  ·cases hr
abbrev cmps:List ByteArray:=[wEq,wLt,wGt]
def je4 (s:ByteArray) (S:ByteArray->PS->PR PS RX) (e:RX):Nat->Nat->PS->Tree (Out × List CV)
 | 0,_,_=>.fail
 | k + 1, j, p => .br (lt (j : Int) (ja cmps.length)) (.need (jc (j : Int) cmps.length) (nxT false (qH (MP s) ((((za cmps).at j).at 0).S []) p)
   (fun c p1=>.br c (nxT dX (S s p1) (fun x p2=>Qy (J7 (exR ((((za cmps).at j).at 0).S []) 0 [e,x])) s p2) qg) (je4 s S e k (j+1) p1)) qg)) (Qy (J7 e) s p)
theorem Lv {s : ByteArray} {S : ByteArray -> PS -> PR PS RX} (e : RX) : ∀ (r : List ByteArray) (j k : Nat) (p : PS), cmps.drop j = r -> j + r.length = cmps.length -> r.length < k ->
  Tells (je4 s S e k j p) J7 s (Ya (MP s) AR (S s) (fun x s3=>.ret x s3) e r p)
 | [], j, k, p, hd, hj, hk => by
   obtain ⟨k,rfl⟩ : ∃ k',k=k'+1:=⟨k - 1,by omega⟩
   refine Tells.br0 ?_ Tells.ret;unfold lt ja;simp at hj ⊢;omega
 | o :: r, j, k, p, hd, hj, hk => by
   obtain ⟨k,rfl⟩ : ∃ k',k=k'+1:=⟨k - 1,by omega⟩
   obtain ⟨h1,h2⟩:=Ks cmps j o r hd;have hlen:j<cmps.length:=jo h1;have hlen3:j<3:=hlen;have h33:cmps.length=3:=rfl;have h00:([]:List ByteArray).length=0:=rfl;have hw:(((za cmps).at j).at 0).S []=o:=by rw [QR cmps j o h1];rfl
   refine Tells.br1 (by unfold lt ja;simp;omega) (Tells.nd (by unfold jc le lt ja;simp;omega) ?_)
   rw [hw];refine Tells.bind fun c p1=>Tells.cond (Tells.bind fun x p2=>Tells.ret) ?_;exact Lv e r (j+1) k p1 h2 (by simp only [List.length_cons] at hj;omega) (by simp only [List.length_cons] at hk;omega)
abbrev jl6 (One Sum:ByteArray->PS->PR PS RX):HdP:=⟨(123,localG 70 (UO One))::(138,localG 70 (UO Sum))::GK,[],[],[],[],4,123::138::[185,84,28,29,52,27]⟩
theorem jq1 {One Sum:ByteArray->PS->PR PS RX} (h1:ju Tryz.prog 123 (localG 70 (UO One))) (h2:ju Tryz.prog 138 (localG 70 (UO Sum))):XOk Tryz.prog (jl6 One Sum) :=
 ((Bc 4).loCons h2 (LocFn.localG _ _)).loCons h1 (LocFn.localG _ _)
def jrn (One Sum:ByteArray->PS->PR PS RX) (s:ByteArray) (p:PS):Tree (Out × List CV) :=
 nxT false (qH (MP s) zf p) (fun c p1=>.br c (nxT dX (One s p1) (fun e p2=>Qy (J7 (exR zf 0 [e])) s p2) qg) (nxT dX (Sum s p1) (fun e p2=>je4 s Sum e 4 0 p2) qg)) qg
theorem jjQ (One Sum:ByteArray->PS->PR PS RX) (s t:ByteArray) (n a:Int):jph Tryz.prog Yc (jl6 One Sum) 10 123 70 [] [.str s,.int .i64 n,.str t,.int .i64 a]=jrn One Sum s ⟨n,t,a⟩:=by kernel_rfl
def jqk (One Sum:ByteArray->PS->PR PS RX) (s:ByteArray) (p:PS):PR PS RX :=
 (qH (MP s) zf p).bind fun c s1=>bif c then (One s s1).bind fun e s2=>.ret (AR.ex zf 0 [e]) s2
  else (Sum s s1).bind fun e s2=>Ya (MP s) AR (Sum s) (fun x s3=>.ret x s3) e cmps s2
theorem jpK {One Sum:ByteArray->PS->PR PS RX} (h1:ju Tryz.prog 123 (localG 70 (UO One))) (h2:ju Tryz.prog 138 (localG 70 (UO Sum))):ju Tryz.prog 123 (localG 70 (UO (jqk One Sum))):=jpY Kf (jq1 h1 h2) 10 123 fun s n t a=>by
 rw [jjQ];exact Tells.bind fun c p1=>Tells.cond (Tells.bind fun e p2=>Tells.ret) (Tells.bind fun e p2=>Lv e _ 0 4 p2 rfl rfl (by decide))
abbrev jmw (K d:Nat) (s:ByteArray) (p:PS):PR PS RX:=(exs (MP s) AR K d).1 p
abbrev jpH (K d:Nat) (s:ByteArray) (p:PS):PR PS RX:=(exs (MP s) AR K d).2 p
theorem joo (k:Nat):∀ d,ju Tryz.prog 123 (localG 70 (UO (jmw (k+1) d)))∧ju Tryz.prog 83 (localG 70 (UO (jpH (k+1) d)))
 | 0=>⟨WG 123,WG 83⟩
 | d + 1 => by
   obtain ⟨h1,h2⟩:=joo k d;have ha:=jpn h2;have hs:=jpF ha k;have ho:ju Tryz.prog 123 (localG 70 (UO (jmw (k+1) (d+1)))):=jpK h1 hs;have hb:=jpN ho k;exact ⟨ho,jpQ hb k⟩
def M9 (l:List RS):AV:=.one (.c (.sl (jm 1) l.length (jO l)))
def encR (x:RS):AV:=.one (.agg x.cells)
def dS:RS:=stR (bs []) [] dX [] [] 0
abbrev Row:=Option (Nat × Val)
def slR:Row->AV
 | none=>.one (.c .nils)
 | some _=>.one (.c (.os 1 8))
def meR:Row->Mem
 | none=>[]
 | some (n,ρ)=>[some (96,[.row false (jm 1) n ρ])]
abbrev CB:=CP × Row
abbrev DB:=CB ⊕ Row
def SB (c:CB):St:=mkS 15 [(0,.one (.c (.ptr 0 0))),(3,slR c.2)] (some (70,qB c.1.1 c.1.2)::meR c.2)
def SBP:DB->St
 | .inl c=>SB c
 | .inr r=>mkS 15 [(0,.one (.c (.ptr 0 0))),(3,slR r)] (some (70,Ji)::meR r)
def jbp:List (Nat × AV)->Mem->Option (List CV × Row)
 | [(0,.one (.c (.ptr 0 0))),(3,.one (.c .nils))],[some (70,c0)]=>some (c0,none)
 | [(0,.one (.c (.ptr 0 0))),(3,.one (.c (.os 1 8)))],[some (70,c0),some (96,[.row false es n ρ])]=>if shEq.shsEq es (jm 1) then some (c0,some (n,ρ)) else none
 | _,_=>none
def jfl (l:List (Nat × AV)) (m:Mem):Option CB:=match jbp l m with
 | some (c0,r)=>(match WE c0 with | some p=>some (p,r) | none=>none)
 | none=>none
def getD (l:List (Nat × AV)) (m:Mem):Option DB:=match jbp l m with
 | some (c0,r)=>(match WE c0 with | some p=>some (.inl (p,r)) | none=>if Ho c0 then some (.inr r) else none)
 | none=>none
theorem N1 {l:List (Nat × AV)} {m:Mem} {c0:List CV} {r:Row} (h:jbp l m=some (c0,r)):l=[(0,.one (.c (.ptr 0 0))),(3,slR r)]∧m=some (70,c0)::meR r:=by
 unfold jbp at h;split at h
 ·cases h;exact ⟨rfl,rfl⟩
 ·split at h
  ·rename_i hs;cases h;rw [jj hs];exact ⟨rfl,rfl⟩
  ·cases h
 ·cases h
theorem jlo:∀ l m c,jfl l m=some c->StWk (mkS 15 l m) (SB c):=by
 intro l m c h;unfold jfl at h;split at h
 ·rename_i c0 r hr;obtain ⟨rfl,rfl⟩:=N1 hr;split at h
  ·rename_i p hp;cases h;rw [JC hp];exact StWk.refl
  ·cases h
 ·cases h
theorem jkG:∀ l m c,getD l m=some c->StWk (mkS 15 l m) (SBP c):=by
 intro l m c h;unfold getD at h;split at h
 ·rename_i c0 r hr;obtain ⟨rfl,rfl⟩:=N1 hr;split at h
  ·rename_i p hp;cases h;rw [JC hp];exact StWk.refl
  ·split at h
   ·rename_i h2;cases h;obtain ⟨b1,b2,b3⟩:=B7 h2;exact yV (.cons leAB.refl (.cons leAB.refl .nil)) (kI (b:=0) rfl b2 b1 b3 rfl rfl)
   ·cases h
 ·cases h
def AB:Sx.Frame CB DB:=⟨1,15,[0,3],jfl,SB,[0,3],getD,SBP⟩
theorem aB:AB.Ok:=⟨jlo,jkG⟩
def Nn (n:Nat) (ρ:Val) (x:RS):Val:=Val.cat n ρ (Val.ofFlat 8 x.cells)
def kZ:Nat->Val->List RS->Val
 | _,ρ,[]=>ρ
 | n,ρ,x::l=>kZ (n+1) (Nn n ρ x) l
def Z9:Row->List RS->Row
 | some (n,ρ),l=>some (n+l.length,kZ n ρ l)
 | none,[]=>none
 | none,x::l=>some (1+l.length,kZ 1 (Val.ofFlat 8 x.cells) l)
def Kd:Row->Nat
 | none=>0
 | some (n,_)=>n
def Lu:Row->RS->Row
 | some (n,ρ),x=>some (n+1,Nn n ρ x)
 | none,x=>some (1,Val.ofFlat 8 x.cells)
theorem BG (r:Row) (x:RS) (l:List RS):Z9 r (x::l)=Z9 (Lu r x) l:=by
 cases r with
 | none=>rfl
 | some q =>
   obtain ⟨n,ρ⟩:=q;show some _=some _;simp only [kZ,List.length_cons];rw [show n+(l.length+1)=n+1+l.length by omega]
theorem Vl (r:Row):Z9 r []=r:=by
 cases r with
 | none=>rfl
 | some q=>rfl
theorem jg1 (r:Row) (x:RS):Kd (Lu r x)=Kd r+1:=by
 cases r with
 | none=>rfl
 | some q=>rfl
def Hl (s:ByteArray) (St:ByteArray->PS->PR PS RS):Nat->PS->List RS
 | 0,_=>[]
 | k+1,p=>match qH (MP s) wEnd p with
  | .ret false p1=>(match St s p1 with
   | .ret x p2=>x::Hl s St k p2
   | _=>[])
  | _=>[]
def jnC (s:ByteArray) (r:Row) (l:List RS) (p:PS):Tree (XP × DB):=match r with
 | none=>.br l.isEmpty (.leaf (.exit 0,.inl ((s,p),none))) (.leaf (.exit 0,.inl ((s,p),some (l.length,match l with | []=>Val.zero | x::l'=>kZ 1 (Val.ofFlat 8 x.cells) l'))))
 | some (n,ρ)=>.leaf (.exit 0,.inl ((s,p),some (n+l.length,kZ n ρ l)))
theorem jgH (s:ByteArray) (r:Row) (l:List RS) (p:PS):(jnC s r l p).sel=some (.exit 0,.inl ((s,p),Z9 r l)):=by
 cases r with
 | none =>
   cases l with
  | nil=>rfl
  | cons x l=>show some _=some _;simp only [Z9,List.length_cons];rw [Nat.add_comm]
 | some q=>rfl
def yR:Nat:=549755813888
def gB (St:ByteArray->PS->PR PS RS) (k:Nat) (c:CB):Tree (XP × DB) :=
 .need (Nat.ble (Kd c.2+k) yR) (nxT [] (zO (MP c.1.1) (St c.1.1) k c.1.2) (jnC c.1.1 c.2) (fun a=>.leaf (.pan (J4 a),.inr (Z9 c.2 (Hl c.1.1 St k c.1.2)))))
noncomputable abbrev HBk:Hd:=⟨[lK,pF 28,pF 52,pF 55,pF 31],[],[],[]⟩
theorem hBk:HdOk Tryz.prog HBk:=HdOk.lK ((((HdOk.nil.pF 31).pF 55).pF 52).pF 28)
abbrev XBk (St:ByteArray->PS->PR PS RS):HdP:=⟨(55,localG 70 (uOf dS encR (spU St)))::GK,[],[],[],[],0,55::[185,84,28,29,52,27]⟩
theorem xBk {St:ByteArray->PS->PR PS RS} (hS:ju Tryz.prog 55 (localG 70 (uOf dS encR (spU St)))):XOk Tryz.prog (XBk St):=(Bc 0).loCons hS (LocFn.localG _ _)
def rB (s:ByteArray) (St:ByteArray->PS->PR PS RS) (g:CB->Tree (XP × DB)) (r:Row) (p:PS):Tree (XP × DB) :=
 nxT false (qH (MP s) wEnd p) (fun c p1=>.br (!c) (nxT dS (St s p1) (fun x p2=>.need (Nat.ble ((Kd r+1)*144) 140737488355328) (g ((s,p2),Lu r x))) (fun a=>.leaf (.pan (J4 a),.inr r)))
  (.leaf (.exit 0,.inl ((s,p1),r)))) (fun a=>.leaf (.pan (J4 a),.inr r))
theorem jlu (St:ByteArray->PS->PR PS RS) (g:CB->Tree (XP × DB)) (s t:ByteArray) (n a:Int):jD AB Tryz.prog HBk (XBk St) 10 31 0 g ((s,⟨n,t,a⟩),none)=rB s St g none ⟨n,t,a⟩:=by kernel_rfl
theorem jkN (St:ByteArray->PS->PR PS RS) (g:CB->Tree (XP × DB)) (s t:ByteArray) (n a:Int) (m:Nat) (ρ:Val):jD AB Tryz.prog HBk (XBk St) 10 31 0 g ((s,⟨n,t,a⟩),some (m,ρ))=rB s St g (some (m,ρ)) ⟨n,t,a⟩:=by kernel_rfl
theorem jpP (St:ByteArray->PS->PR PS RS) (g:CB->Tree (XP × DB)) (s:ByteArray) (p:PS) (r:Row):jD AB Tryz.prog HBk (XBk St) 10 31 0 g ((s,p),r)=rB s St g r p:=by
 obtain ⟨n,t,a⟩:=p;cases r with
 | none=>exact jlu St g s t n a
 | some q=>obtain ⟨m,ρ⟩:=q;exact jkN St g s t n a m ρ
theorem To (St : ByteArray -> PS -> PR PS RS) (k : Nat) (s : ByteArray) (p : PS) (r : Row) : (gB St k ((s, p), r)).sel = bif Nat.ble (Kd r + k) yR then (match zO (MP s) (St s) k p with
  | .stuck=>none
  | .ret l q=>some (.exit 0,.inl ((s,q),Z9 r l))
  | .pan a=>some (.pan (J4 a),.inr (Z9 r (Hl s St k p)))) else none:=by
 unfold gB;rw [jG];simp only;cases Nat.ble (Kd r+k) yR with
 | false=>rfl
 | true =>
   simp only [cond_true];cases zO (MP s) (St s) k p with
  | stuck=>rfl
  | ret l q=>exact jgH s r l q
  | pan a=>rfl
theorem jp7 (St:ByteArray->PS->PR PS RS) (k:Nat) (c:CB) (x:XP × DB) (h:(gB St (k+1) c).sel=some x):(jD AB Tryz.prog HBk (XBk St) 10 31 0 (gB St k) c).sel=some x:=by
 obtain ⟨⟨s,p⟩,r⟩:=c;rw [jpP];rw [To] at h
 have hb:Nat.ble (Kd r+(k+1)) yR=true:=by
  cases hh:Nat.ble (Kd r+(k+1)) yR with
  | true=>rfl
  | false=>rw [hh] at h;cases h
 rw [hb] at h;simp only [cond_true] at h;have hle:=Nat.le_of_ble_eq_true hb;have hb1:Nat.ble ((Kd r+1)*144) 140737488355328=true:=Nat.ble_eq.mpr (by unfold yR at hle;omega)
 unfold rB;unfold zO at h;simp only [Hl] at h;cases e1:qH (MP s) wEnd p with
 | stuck=>rw [e1] at h;cases h
 | pan a =>
   rw [e1] at h;simp only [PR.bind,Vl] at h;exact h
 | ret c p1 =>
   rw [e1] at h;rw [Zg];cases c with
  | true =>
    simp only [PR.bind,cond_true,Vl] at h;exact h
  | false =>
    simp only [PR.bind,cond_false] at h;rw [j9];simp only [Bool.not_false,cond_true];cases e2:St s p1 with
   | stuck=>rw [e2] at h;cases h
   | pan a =>
     rw [e2] at h;simp only [Vl] at h;exact h
   | ret y p2 =>
     rw [e2] at h;rw [Zg,jG,hb1];simp only [cond_true];rw [To];have hb2:Nat.ble (Kd (Lu r y)+k) yR=true:=Nat.ble_eq.mpr (by rw [jg1];omega)
     rw [hb2];simp only [cond_true];simp only [BG] at h;cases e3:zO (MP s) (St s) k p2 with
    | stuck=>rw [e3] at h;cases h
    | pan a=>rw [e3] at h;exact h
    | ret l q =>
      rw [e3] at h;simp only [BG] at h;exact h
theorem jp4 {St:ByteArray->PS->PR PS RS} (hS:ju Tryz.prog 55 (localG 70 (uOf dS encR (spU St)))):∀ k,CoreOk Tryz.prog 31 0 1 SB SBP (gB St k) :=
 CoreOk.fuel (A:=AB) aB hBk (xBk hS) 10 (fun c=>by
  obtain ⟨⟨s,p⟩,r⟩:=c;rw [To];cases Nat.ble (Kd r+0) yR<;>rfl) (jp7 St)
abbrev XBl (St:ByteArray->PS->PR PS RS) (k:Nat):HdP:=⟨(55,localG 70 (uOf dS encR (spU St)))::GK,[],[],[((31,0),qz AB (gB St k))],[],0,55::[185,84,28,29,52,27]⟩
theorem xBl {St:ByteArray->PS->PR PS RS} (hS:ju Tryz.prog 55 (localG 70 (uOf dS encR (spU St)))) (k:Nat):XOk Tryz.prog (XBl St k):=(xBk hS).lxCons ((jp4 hS k).lx aB)
def jf9:List RS->Val
 | []=>Val.zero
 | x::l'=>kZ 1 (Val.ofFlat 8 x.cells) l'
def t35 (St:ByteArray->PS->PR PS RS) (k:Nat) (s:ByteArray) (p:PS):Tree (Out × List CV) :=
 nxT () (qJ (MP s) zj p) (fun _ p1=>.need (Nat.ble (0+k) yR) (nxT [] (zO (MP s) (St s) k p1) (fun l p2=>.br l.isEmpty (.leaf (.ret (.one (.c .nils)),qB s p2)) (.leaf (.ret (.one (.c (.sl (jm 1) l.length (jf9 l)))),qB s p2))) qg)) qg
theorem jmR (St:ByteArray->PS->PR PS RS) (k:Nat) (s t:ByteArray) (n a:Int):kx Tryz.prog HBk (XBl St k) 10 31 70 [] [.str s,.int .i64 n,.str t,.int .i64 a]=t35 St k s ⟨n,t,a⟩:=by kernel_rfl
theorem Oi:∀ (l:List RS) (n:Nat) (ρ:Val) (i:Nat),(i<n->(kZ n ρ l).at i=ρ.at i)∧(∀ x,n<=i->nth l (i - n)=some x->(kZ n ρ l).at i=(Val.ofFlat 8 x.cells).at 0)
 | [],n,ρ,i=>⟨fun _=>rfl,fun x _ h=>by simp [nth] at h⟩
 | y :: l, n, ρ, i => by
   obtain ⟨h1,h2⟩:=Oi l (n+1) (Nn n ρ y) i;have hcat:∀ j,(Nn n ρ y).at j=zn (Nat.blt j n) (ρ.at j) ((Val.ofFlat 8 y.cells).at (j - n)):=fun _=>rfl;refine ⟨fun hi => ?_,fun x hi hx => ?_⟩
   ·show (kZ (n+1) (Nn n ρ y) l).at i=_;rw [h1 (by omega),hcat,show Nat.blt i n=true from Nat.blt_eq.mpr hi]
    rfl
   ·show (kZ (n+1) (Nn n ρ y) l).at i=_;by_cases he:i=n
    ·subst he;rw [h1 (by omega),hcat]
     rw [Nat.sub_self] at hx ⊢;cases hx
     have hb:Nat.blt i i=false:=by
      cases hh:Nat.blt i i
      ·rfl
      ·have:=Nat.blt_eq.mp hh;omega
     rw [hb];rfl
    ·refine h2 x (by omega) ?_
     rw [show i - n=(i - (n+1))+1 by omega] at hx
     exact hx
theorem Fu {α β:Type} (f:α->List β) (m:Nat) (hf:∀ x,(f x).length=m):∀ (l:List α) (i k:Nat) (x:α),nth l i=some x->k<m->nth (l.flatMap f) (i*m+k)=nth (f x) k
 | [],i,k,x,h,_=>by simp [nth] at h
 | y :: l, 0, k, x, h, hk => by
   simp only [nth,sIq] at h;subst h;rw [List.flatMap_cons,Nat.zero_mul,Nat.zero_add];exact yr _ _ _ (by rw [hf];exact hk)
 | y :: l, i + 1, k, x, h, hk => by
   rw [List.flatMap_cons,jd,List.getElem?_append_right (by rw [hf];rw [Nat.succ_mul];omega),hf,← jd]
   rw [show (i+1)*m+k - m=i*m+k by rw [Nat.succ_mul];omega]
   exact Fu f m hf l i k x h hk
theorem jlh (l:List RS) (i k:Nat) (x:RS) (h:nth l i=some x) (hk:k<8):((jO l).at i).at k=((Val.ofFlat 8 x.cells).at 0).at k:=by
 show (match nth (l.flatMap RS.cells) (i*8+k) with | some x=>Val.ofC x | none=>Val.zero)=(match nth x.cells (0*8+k) with | some x=>Val.ofC x | none=>Val.zero)
 rw [Fu RS.cells 8 (fun _=>rfl) l i k x h hk,Nat.zero_mul,Nat.zero_add]
theorem jlq (l:List RS):leA (.one (.c (.sl (jm 1) l.length (jf9 l)))) (M9 l):=by
 refine YQ (.c (Br fun i f s hi hs => ?_));obtain ⟨x,hx⟩:=qX l i hi;have hf:f<8:=jo hs;rw [jlh l i f x hx hf];cases l with
 | nil=>simp [nth] at hx
 | cons y l =>
   show cellOf s (((kZ 1 (Val.ofFlat 8 y.cells) l).at i).at f)=_;obtain ⟨h1,h2⟩:=Oi l 1 (Val.ofFlat 8 y.cells) i;cases i with
  | zero =>
    cases hx;rw [h1 (by omega)]
  | succ i=>rw [h2 x (by omega) hx]
abbrev jlX (St:ByteArray->PS->PR PS RS) (k:Nat) (s:ByteArray) (p:PS):PR PS (List RS):=Z3 (MP s) (St s) k p
theorem jrj {St:ByteArray->PS->PR PS RS} (hS:ju Tryz.prog 55 (localG 70 (uOf dS encR (spU St)))) (k:Nat) (hk:k<=yR):ju Tryz.prog 31 (localG 70 (uOf [] M9 (spU (jlX St k)))):=Uu hBk (xBl hS k) 10 31 fun s n t a=>by
 rw [jmR];refine Tells.bind fun _ p1=>Tells.nd (Nat.ble_eq.mpr (by omega)) ?_
 have:=Tells.bind (d:=([]:List RS)) (enc:=M9) (s:=s) (x:=zO (MP s) (St s) k p1) (K:=fun l p2=>.br l.isEmpty (.leaf (.ret (.one (.c .nils)),qB s p2)) (.leaf (.ret (.one (.c (.sl (jm 1) l.length (jf9 l)))),qB s p2))) (f:=fun l p2=>.ret l p2) fun l p2=>by
  cases l with
  | nil=>exact ⟨_,rfl,.ret (YQ (.c fun _ _ _ h=>by cases h;exact .slnil)) LeL.refl rfl⟩
  | cons x l=>exact ⟨_,rfl,.ret (jlq (x::l)) LeL.refl rfl⟩
 cases hx:zO (MP s) (St s) k p1 with
 | stuck=>exact trivial
 | ret v q=>rw [hx] at this;exact this
 | pan b=>rw [hx] at this;exact this
noncomputable abbrev H88:Hd:=⟨[pF 27,pF 28,pF 29,pF 31,pF 32,pF 52,pF 82,pF 83,pF 84],[(54,nG G87)],[],[]⟩
theorem h88:HdOk Tryz.prog H88:=((((((((((HdOk.nil.ucCons p87).pF 84).pF 83).pF 82).pF 52).pF 32).pF 31).pF 29).pF 28).pF 27)
abbrev UBk (B:ByteArray->PS->PR PS (List RS)):=uOf [] M9 (spU B)
abbrev X88 (E:ByteArray->PS->PR PS RX) (B:ByteArray->PS->PR PS (List RS)) (lx:List ((Nat × Nat) × (Nat->St->Tree (XP × St)))):HdP :=
 ⟨(83,localG 70 (UO E))::(31,localG 70 (UBk B))::(82,localG 70 jn8)::GK,[],[],lx,[],0,83::31::82::[185,84,28,29,52,27]⟩
theorem x88 {E:ByteArray->PS->PR PS RX} {B:ByteArray->PS->PR PS (List RS)} (hE:ju Tryz.prog 83 (localG 70 (UO E))) (hB:ju Tryz.prog 31 (localG 70 (UBk B))):XOk Tryz.prog (X88 E B []) :=
 (((Bc 0).loCons jqc (LocFn.localG _ _)).loCons hB (LocFn.localG _ _)).loCons hE (LocFn.localG _ _)
def jot:List CV:=[.any,.any,.any,.any,.any,.any,.any,.any]
def Hk (cs:List CV):Bool:=cs.all closedC&&Nat.beq cs.length 8&&!je cs
theorem je8 {cs:List CV} (h:Hk cs=true):cs.all closedC=true∧je cs=false∧LeL cs jot:=by
 simp only [Hk,aTq,Bool.not_eq_true'] at h;obtain ⟨⟨h1,h2⟩,h3⟩:=h;have h2:=eBq h2;refine ⟨h1,h3,?_⟩
 match cs,h2 with
 | [a,b,c,d,e,f,g,i],_=>exact .cons qZ (.cons qZ (.cons qZ (.cons qZ (.cons qZ (.cons qZ (.cons qZ (.cons qZ .nil)))))))
abbrev WW:=(ByteArray × Int) × (Nat × Val)
abbrev CW:=CP × WW
abbrev DW:=CW ⊕ WW
def jgt (kd:ByteArray) (at_:Int):List CV:=[.str kd,.os 3 1,.str (bs []),.int .i64 0,.nils,.nils,.nils,.int .i64 at_]
def ja3 (c0:List CV) (w:WW):Mem:=[some (70,c0),some (96,jot),some (96,jgt w.1.1 w.1.2),some (9,[.row false [.str] w.2.1 w.2.2])]
def slW:List (Nat × AV):=[(0,.one (.c (.ptr 0 0))),(2,.one (.c (.ptr 1 0))),(3,.one (.c (.ptr 2 0)))]
def SW (c:CW):St:=mkS 99 slW (ja3 (qB c.1.1 c.1.2) c.2)
def SWE:DW->St
 | .inl c=>SW c
 | .inr w=>mkS 99 slW (ja3 Ji w)
def Rc:List (Nat × AV)->Mem->Option (List CV × WW)
 | [(0, .one (.c (.ptr 0 0))), (2, .one (.c (.ptr 1 0))), (3, .one (.c (.ptr 2 0)))], [some (70, c0), some (96, c1), some (96, [.str kd, .os 3 1, .str z, .int .i64 zz, .nils, .nils, .nils, .int .i64 a]), some (9, [.row false [.str] n ρ])] =>
   if Hk c1&&jb z (bs [])&&decide (zz=0) then some (c0,(kd,a),(n,ρ)) else none
 | _,_=>none
def jgZ (l:List (Nat × AV)) (m:Mem):Option CW:=match Rc l m with
 | some (c0,w)=>(match WE c0 with | some p=>some (p,w) | none=>none)
 | none=>none
def jcw (l:List (Nat × AV)) (m:Mem):Option DW:=match Rc l m with
 | some (c0,w)=>(match WE c0 with | some p=>some (.inl (p,w)) | none=>if Ho c0 then some (.inr w) else none)
 | none=>none
theorem Lw {l:List (Nat × AV)} {m:Mem} {c0:List CV} {w:WW} (h:Rc l m=some (c0,w)):l=slW∧∃ c1,Hk c1=true∧m=[some (70,c0),some (96,c1),some (96,jgt w.1.1 w.1.2),some (9,[.row false [.str] w.2.1 w.2.2])]:=by
 unfold Rc at h;split at h
 ·split at h
  ·rename_i hc;simp only [aTq,decide_eq_true_eq] at hc;obtain ⟨⟨h1,h2⟩,h3⟩:=hc;have h2:=Jq h2;subst h2;subst h3;cases h;exact ⟨rfl,_,h1,rfl⟩
  ·cases h
 ·cases h
theorem LW {c0 c1:List CV} {w:WW} (h1:Hk c1=true):∀ (P:Program) F W bs,MemRel P F W bs [some (70,c0),some (96,c1),some (96,jgt w.1.1 w.1.2),some (9,[.row false [.str] w.2.1 w.2.2])]->MemRel P F W bs (ja3 c0 w):=by
 obtain ⟨a1,a2,a3⟩:=je8 h1;exact kI (b:=1) rfl a2 a1 a3 rfl rfl
theorem jjD:∀ l m c,jgZ l m=some c->StWk (mkS 99 l m) (SW c):=by
 intro l m c h;unfold jgZ at h;split at h
 ·rename_i c0 w hw;obtain ⟨rfl,c1,h1,rfl⟩:=Lw hw;split at h
  ·rename_i p hp;cases h;rw [JC hp];exact yV (.cons leAB.refl (.cons leAB.refl (.cons leAB.refl .nil))) (LW h1)
  ·cases h
 ·cases h
theorem jgA:∀ l m c,jcw l m=some c->StWk (mkS 99 l m) (SWE c):=by
 intro l m c h;unfold jcw at h;split at h
 ·rename_i c0 w hw;obtain ⟨rfl,c1,h1,rfl⟩:=Lw hw;split at h
  ·rename_i p hp;cases h;rw [JC hp];exact yV (.cons leAB.refl (.cons leAB.refl (.cons leAB.refl .nil))) (LW h1)
  ·split at h
   ·rename_i h2;cases h;obtain ⟨b1,b2,b3⟩:=B7 h2;refine yV (.cons leAB.refl (.cons leAB.refl (.cons leAB.refl .nil))) fun P F W bs hm => ?_;exact kI (b:=0) (m:=ja3 c0 w) rfl b2 b1 b3 rfl rfl P F W bs (LW h1 P F W bs hm)
   ·cases h
 ·cases h
def AW:Sx.Frame CW DW:=⟨3,99,[0,2,3],jgZ,SW,[0,2,3],jcw,SWE⟩
theorem aW:AW.Ok:=⟨jjD,jgA⟩
def rW (s:ByteArray) (g:CW->Tree (XP × DW)) (w:WW) (p:PS):Tree (XP × DW) :=
 let pn:=fun a=>Tree.leaf (XP.pan (J4 a),Sum.inr w)
 nxT false (qH (MP s) z8 p) (fun c p1=>.br (!c) (.need (obD (jV p1.tx)) (nxT (bs []) (qC (MP s) (obV (jV p1.tx)) p1)
  (fun x p2=>.need (Nat.ble ((w.2.1+1)*16) 140737488355328) (g ((s,p2),w.1,(w.2.1+1,Val.cat w.2.1 w.2.2 (qT x))))) pn)) (.leaf (.exit 1,.inl ((s,p1),w)))) pn
theorem jpw (E : ByteArray -> PS -> PR PS RX) (B : ByteArray -> PS -> PR PS (List RS)) (g : CW -> Tree (XP × DW)) (s t kd : ByteArray) (n a at_ : Int) (m : Nat) (ρ : Val) :
  jD AW Tryz.prog H88 (X88 E B []) 10 55 0 g ((s,⟨n,t,a⟩),(kd,at_),(m,ρ))=rW s g ((kd,at_),(m,ρ)) ⟨n,t,a⟩:=by kernel_rfl
def BD:Nat->Val->List ByteArray->Val
 | _,ρ,[]=>ρ
 | n,ρ,w::l=>BD (n+1) (Val.cat n ρ (qT w)) l
def By (w:WW) (l:List ByteArray):WW:=(w.1,(w.2.1+l.length,BD w.2.1 w.2.2 l))
def jia (w:WW) (x:ByteArray):WW:=(w.1,(w.2.1+1,Val.cat w.2.1 w.2.2 (qT x)))
theorem Lk (w:WW) (x:ByteArray) (l:List ByteArray):By w (x::l)=By (jia w x) l:=by
 obtain ⟨w1,n,ρ⟩:=w;show (_,(_,_))=(_,(_,_));simp only [BD,List.length_cons,jia];rw [show n+(l.length+1)=n+1+l.length by omega]
def G4 (s:ByteArray):Nat->PS->List ByteArray
 | 0,_=>[]
 | k+1,p=>match qH (MP s) z8 p with
  | .ret false p1=>(match JN (MP s) p1 with
   | .ret x p2=>x::G4 s k p2
   | _=>[])
  | _=>[]
def gW (k:Nat) (c:CW):Tree (XP × DW) :=
 .need (Nat.ble (c.2.2.1+k) yR) (nxT [] (kL (MP c.1.1) k c.1.2) (fun l p1=>.leaf (.exit 1,.inl ((c.1.1,p1),By c.2 l))) (fun a=>.leaf (.pan (J4 a),.inr (By c.2 (G4 c.1.1 k c.1.2)))))
theorem Ij (k : Nat) (s : ByteArray) (p : PS) (w : WW) : (gW k ((s, p), w)).sel = bif Nat.ble (w.2.1 + k) yR then (match kL (MP s) k p with
  | .stuck=>none
  | .ret l q=>some (.exit 1,.inl ((s,q),By w l))
  | .pan a=>some (.pan (J4 a),.inr (By w (G4 s k p)))) else none:=by
 unfold gW;rw [jG];simp only;cases Nat.ble (w.2.1+k) yR with
 | false=>rfl
 | true =>
   simp only [cond_true];cases kL (MP s) k p<;>rfl
theorem stepW (E:ByteArray->PS->PR PS RX) (B:ByteArray->PS->PR PS (List RS)) (k:Nat) (c:CW) (x:XP × DW) (h:(gW (k+1) c).sel=some x):(jD AW Tryz.prog H88 (X88 E B []) 10 55 0 (gW k) c).sel=some x:=by
 obtain ⟨⟨s,⟨n,t,a⟩⟩,⟨⟨kd,at_⟩,⟨m,ρ⟩⟩⟩:=c;rw [jpw];rw [Ij] at h
 have hb:Nat.ble (m+(k+1)) yR=true:=by
  cases hh:Nat.ble (m+(k+1)) yR with
  | true=>rfl
  | false=>simp only at h;rw [hh] at h;cases h
 simp only at h;rw [hb] at h;simp only [cond_true] at h;have hle:=Nat.le_of_ble_eq_true hb;have hb1:Nat.ble ((m+1)*16) 140737488355328=true:=Nat.ble_eq.mpr (by unfold yR at hle;omega)
 unfold rW;unfold kL at h;simp only [G4] at h;cases e1:qH (MP s) z8 ⟨n,t,a⟩ with
 | stuck=>rw [e1] at h;cases h
 | pan b=>rw [e1] at h;exact h
 | ret c p1 =>
   rw [e1] at h;rw [Zg];cases c with
  | true=>exact h
  | false =>
    simp only [PR.bind,cond_false] at h;rw [j9];simp only [Bool.not_false,cond_true];have hpl:JN (MP s) p1=match jV p1.tx with | none=>.stuck | some c=>qC (MP s) c p1:=rfl
    rw [hpl] at h;cases e0:jV p1.tx with
   | none=>rw [e0] at h;cases h
   | some ok =>
     rw [e0] at h;simp only at h;rw [jG];show (bif true then _ else _)=_;simp only [cond_true,obV];cases e2:qC (MP s) ok p1 with
    | stuck=>rw [e2] at h;cases h
    | pan b=>rw [e2] at h;exact h
    | ret y p2 =>
      rw [e2] at h;rw [Zg,jG,hb1];simp only [cond_true];rw [Ij];have hb2:Nat.ble (m+1+k) yR=true:=Nat.ble_eq.mpr (by omega)
      simp only;rw [hb2];simp only [cond_true];simp only [Lk] at h;cases e3:kL (MP s) k p2 with
     | stuck=>rw [e3] at h;cases h
     | pan b=>rw [e3] at h;exact h
     | ret l q =>
       rw [e3] at h;simp only [Lk] at h;exact h
theorem jpG {E:ByteArray->PS->PR PS RX} {B:ByteArray->PS->PR PS (List RS)} (hE:ju Tryz.prog 83 (localG 70 (UO E))) (hB:ju Tryz.prog 31 (localG 70 (UBk B))):∀ k,CoreOk Tryz.prog 55 0 3 SW SWE (gW k) :=
 CoreOk.fuel (A:=AW) aW h88 (x88 hE hB) 10 (fun c=>by
  obtain ⟨⟨s,p⟩,w⟩:=c;rw [Ij];cases Nat.ble (w.2.1+0) yR<;>rfl) (stepW E B)
theorem jqD {E:ByteArray->PS->PR PS RX} {B:ByteArray->PS->PR PS (List RS)} (hE:ju Tryz.prog 83 (localG 70 (UO E))) (hB:ju Tryz.prog 31 (localG 70 (UBk B))) (k:Nat):XOk Tryz.prog (X88 E B [((55,0),qz AW (gW k))]) :=
 (x88 hE hB).lxCons ((jpG hE hB k).lx aW)
def lfS (cs:List CV) (s:ByteArray) (p:PS):Tree (Out × List CV):=.leaf (.ret (.one (.agg cs)),qB s p)
def blC (l:List RS):CV:=.sl (jm 1) l.length (jO l)
def t88 (E:ByteArray->PS->PR PS RX) (B:ByteArray->PS->PR PS (List RS)) (k:Nat) (s:ByteArray) (p:PS):Tree (Out × List CV) :=
 let K:CV:=.str p.tx
 let A:CV:=.int .i64 p.pos
 let z:List CV:=[.str (bs []),.int .i64 0,.nils]
 let DO:=nxT () (kX s p) (fun _ p1=>nxT [] (z6 (MP s) p1) (fun w p2=>nxT false (qH (MP s) Yn p2) (fun c p3 =>
  .br c (nxT [] (B s p3) (fun l p4=>nxT () (qJ (MP s) z8 p4) (fun _ p5=>lfS ([K,.sl [.str] w.length (za w)]++z++[blC l,.nils,A]) s p5) qg) qg)
   (nxT () (qJ (MP s) z8 p3) (fun _ p4=>lfS ([K,.sl [.str] w.length (za w)]++z++[.nils,.nils,A]) s p4) qg)) qg) qg) qg
 let IF:=nxT () (kX s p) (fun _ p1=>nxT dX (E s p1) (fun e p2=>nxT [] (B s p2) (fun l p3=>nxT false (qH (MP s) ZT p3) (fun c p4 =>
  .br c (nxT [] (B s p4) (fun r p5=>lfS ([K,.nils]++e.cells++[blC l,blC r,A]) s p5) qg) (lfS ([K,.nils]++e.cells++[blC l,.nils,A]) s p4)) qg) qg) qg) qg
 let REP:=nxT () (kX s p) (fun _ p1=>nxT 0 (kC (MP s) 99 p1) (fun n p2=>nxT [] (B s p2) (fun l p3=>lfS [K,.nils,.str qy,.int .i64 n,.nils,blC l,.nils,A] s p3) qg) qg) qg
 let REQ:=nxT () (kX s p) (fun _ p1=>nxT dX (E s p1) (fun e p2=>nxT () (qJ (MP s) z8 p2) (fun _ p3=>lfS ([K,.nils]++e.cells++[.nils,.nils,A]) s p3) qg) qg) qg
 let SAY:=nxT () (kX s p) (fun _ p1=>.need (obD (jV p1.tx)) (nxT (bs []) (qC (MP s) (obV (jV p1.tx)) p1) (fun w p2=>.need (Nat.ble (1+k) yR) (nxT [] (kL (MP s) k p2)
  (fun l p3=>lfS ([K,.sl [.str] (1+l.length) (BD 1 (qT w) l)]++z++[.nils,.nils,A]) s p3) qg)) qg)) qg
 .br (jb p.tx wDo) DO (.br (jb p.tx wIf) IF (.br (jb p.tx qc) REP (.br (jb p.tx zN) REQ (.br (jb p.tx kj) SAY (qg p.pos)))))
theorem jng (E : ByteArray -> PS -> PR PS RX) (B : ByteArray -> PS -> PR PS (List RS)) (k : Nat) (s t : ByteArray) (n a : Int) :
  kx Tryz.prog H88 (X88 E B [((55,0),qz AW (gW k))]) 10 55 70 [] [.str s,.int .i64 n,.str t,.int .i64 a]=t88 E B k s ⟨n,t,a⟩:=by kernel_rfl
end Go.Proofs.YtiefjlcakpdfeaaGreatDoor