/-
 Part TpW of the proof: RbK EngPv RbN RbO RbP.
-/
import Derived.Test.YtiefjlcakpdfeaaGreatDoorTpV
import Derived.Test.YtiefjlcakpdfeaaGreatDoorTpU
namespace Go.Proofs.YtiefjlcakpdfeaaGreatDoor
open Go Go.Sx Go.RowKit Rb
set_option maxRecDepth 100000
def B7 (a:Int):Tree (XP × DE):=.leaf (.pan (Qg a),none)
def jmr (s:ByteArray) (e:RX) (p:PS):Tree (XP × DE):=.leaf (.ret,some ((s,p),e))
def TellsC (T:Tree (XP × DE)) (s:ByteArray):PR PS RX->Prop
 | .stuck=>True
 | .ret v p=>T.sel=some (.ret,some ((s,p),v))
 | .pan a=>T.sel=some (.pan (Qg a),none)
theorem TellsC.bind {α:Type} {d:α} {x:PR PS α} {K:α->PS->Tree (XP × DE)} {s:ByteArray} {f:α->PS->PR PS RX} (h:∀ v p,TellsC (K v p) s (f v p)):TellsC (nxT d x K B7) s (x.bind f):=by
 cases x with
 | stuck=>exact trivial
 | pan a=>rfl
 | ret v p =>
   have:=h v p
   show TellsC _ s (f v p);cases hf:f v p with
  | stuck=>exact trivial
  | ret w q=>rw [hf] at this;exact this
  | pan a=>rw [hf] at this;exact this
theorem TellsC.cond {c:Bool} {A B:Tree (XP × DE)} {s:ByteArray} {x y:PR PS RX} (h1:TellsC A s x) (h2:TellsC B s y):TellsC (.br c A B) s (bif c then x else y):=by
 cases c
 ·show TellsC _ s y;cases y<;>exact h2
 ·show TellsC _ s x;cases x<;>exact h1
theorem TellsC.br1 {c:Bool} {A B:Tree (XP × DE)} {s:ByteArray} {x:PR PS RX} (hc:c=true) (h:TellsC A s x):TellsC (.br c A B) s x:=by
 subst hc;cases x<;>exact h
theorem TellsC.br0 {c:Bool} {A B:Tree (XP × DE)} {s:ByteArray} {x:PR PS RX} (hc:c=false) (h:TellsC B s x):TellsC (.br c A B) s x:=by
 subst hc;cases x<;>exact h
theorem TellsC.nd {c:Bool} {A:Tree (XP × DE)} {s:ByteArray} {x:PR PS RX} (hc:c=true) (h:TellsC A s x):TellsC (.need c A) s x:=by
 subst hc;cases x<;>exact h
def rCh (s:ByteArray) (os:List ByteArray) (O:ByteArray->PS->PR PS RX) (g:CE->Tree (XP × DE)) (e:RX):Nat->Nat->PS->Tree (XP × DE)
 | 0,_,_=>.fail
 | k + 1, j, p => .br (lt (j : Int) (ja os.length)) (.need (jc (j : Int) os.length) (nxT false (qC (MP s) ((((zj os).at j).at 0).S []) p)
   (fun c p1=>.br c (nxT dX (O s p1) (fun x p2=>g ((s,p2),exR ((((zj os).at j).at 0).S []) 0 [e,x])) B7) (rCh s os O g e k (j+1) p1)) B7)) (jmr s e p)
theorem JS {s : ByteArray} {os : List ByteArray} (hos : os.length <= 100) {O : ByteArray -> PS -> PR PS RX} {g : CE -> Tree (XP × DE)} {G : RX -> PS -> PR PS RX} (hg : ∀ e p, TellsC (g ((s, p), e)) s (G e p)) (e : RX) :
  ∀ (r:List ByteArray) (j k:Nat) (p:PS),os.drop j=r->j+r.length=os.length->r.length<k->TellsC (rCh s os O g e k j p) s (Ju (MP s) AR (O s) G e r p)
 | [], j, k, p, hd, hj, hk => by
   obtain ⟨k,rfl⟩ : ∃ k',k=k'+1:=⟨k - 1,by omega⟩
   refine TellsC.br0 ?_ rfl;unfold lt ja;simp at hj ⊢;omega
 | o :: r, j, k, p, hd, hj, hk => by
   obtain ⟨k,rfl⟩ : ∃ k',k=k'+1:=⟨k - 1,by omega⟩
   obtain ⟨h1,h2⟩:=K3 os j o r hd;have hlen:j<os.length:=jq h1;have hw:(((zj os).at j).at 0).S []=o:=by rw [JW os j o h1];rfl
   refine TellsC.br1 (by unfold lt ja;simp;omega) (TellsC.nd (by unfold jc le lt ja;simp;omega) ?_)
   rw [hw];refine TellsC.bind fun c p1=>TellsC.cond (TellsC.bind fun x p2=>hg _ _) ?_;exact JS hos hg e r (j+1) k p1 h2 (by simp only [List.length_cons] at hj;omega) (by simp only [List.length_cons] at hk;omega)
def chT (s:ByteArray) (r:PR PS RX):Tree (XP × DE):=nxT dX r (fun e p=>jmr s e p) B7
theorem Ka {s:ByteArray} {r:PR PS RX} {x:XP × DE} {T:Tree (XP × DE)} (h:(chT s r).sel=some x) (ht:TellsC T s r):T.sel=some x:=by
 cases r with
 | stuck=>cases h
 | ret v p=>rw [← h];exact ht
 | pan a=>rw [← h];exact ht
theorem Q5 {s:ByteArray} {r:PR PS RX}:TellsC (chT s r) s r:=by cases r<;>first | exact trivial | rfl
abbrev UO (O:ByteArray->PS->PR PS RX):=uOf dX Ql (spU O)
abbrev XF (fo:Nat) (O:ByteArray->PS->PR PS RX) (sx:List (Nat × (Nat->St->Tree (XP × St)))):HdP:=⟨(fo,localG 70 (UO O))::Ga,[],[],[],sx,3,fo::[185,84,28,29,52,27]⟩
theorem UL (r:Nat):XOk Tryz.prog ⟨Ga,[],[],[],[],r,[185,84,28,29,52,27]⟩ :=
 ((((((XOk.nil.loCons jeq (LocFn.localG _ _)).loCons jf8 (LocFn.localG _ _)).loCons jdT (LocFn.localG _ _)).loCons jeQ (LocFn.localG _ _)).loCons jgZ (LocFn.localG _ _)).loCons jg1 (LocFn.localG _ _))
theorem xF {fo:Nat} {O:ByteArray->PS->PR PS RX} (hO:jw Tryz.prog fo (localG 70 (UO O))):XOk Tryz.prog (XF fo O []):=(UL 3).loCons hO (LocFn.localG _ _)
def chS (os:List ByteArray) (O:ByteArray->PS->PR PS RX) (k:Nat) (s:ByteArray) (p:PS):PR PS RX:=(O s p).bind fun e p1=>y9 (MP s) AR os (O s) k e p1
def gCh (os:List ByteArray) (O:ByteArray->PS->PR PS RX) (k:Nat) (c:CE):Tree (XP × DE):=chT c.1.1 (y9 (MP c.1.1) AR os (O c.1.1) k c.2 c.1.2)
def uCh (os:List ByteArray) (O:ByteArray->PS->PR PS RX) (k:Nat) (c:CP):Tree (XP × DE):=chT c.1 (chS os O k c.1 c.2)
def tCh (S:ByteArray->PS->PR PS RX) (s:ByteArray) (p:PS):Tree (Out × List CV):=nxT dX (S s p) (fun e p1=>QG (Ql e) s p1) qk
theorem RY:((nth Tryz.prog.funcs.toList 111).bind fun fn=>fn.body.map fun c=>(jr c).length)=some 1:=by kernel_rfl
theorem F6:(findLabel (zM Tryz.prog 111).1 0).isSome=true:=by kernel_rfl
abbrev ya:List ByteArray:=[zZ,qJ]
theorem jaG (O : ByteArray -> PS -> PR PS RX) (g : CE -> Tree (XP × DE)) (s t o : ByteArray) (n a v : Int) (m : Nat) (ρ : Val) :
  Uz (AL ya 155) Tryz.prog YH (XF 155 O []) 10 111 0 g ((s,⟨n,t,a⟩),⟨o,v,m,ρ⟩)=rCh s ya O g ⟨o,v,m,ρ⟩ 3 0 ⟨n,t,a⟩:=by kernel_rfl
theorem Iv (O : ByteArray -> PS -> PR PS RX) (g : CE -> Tree (XP × DE)) (s t : ByteArray) (n a : Int) :
  VG (AL ya 155) (AZ ya 155) Tryz.prog YH (XF 155 O []) 10 111 0 g (s,⟨n,t,a⟩)=nxT dX (O s ⟨n,t,a⟩) (fun e p1=>rCh s ya O g e 3 0 p1) B7:=by kernel_rfl
theorem jjV {O:ByteArray->PS->PR PS RX} (hO:jw Tryz.prog 155 (localG 70 (UO O))):∀ k,PassCore Tryz.prog 111 0 3 (SL ya 155) SE (gCh ya O k) :=
 PassCore.fuel (A:=AL ya 155) (aL ya 155) Kq (xF hO) 10 (fun _=>rfl) fun k c x h=>by
  obtain ⟨⟨s,⟨n,t,a⟩⟩,⟨o,v,m,ρ⟩⟩:=c;rw [jaG];exact Ka h (JS (by decide) (fun e p=>Q5) _ ya 0 3 _ rfl rfl (by decide))
theorem jof {O:ByteArray->PS->PR PS RX} (hO:jw Tryz.prog 155 (localG 70 (UO O))) (k:Nat):SxOne Tryz.prog 111 (qZ (AZ ya 155) (uCh ya O (k+1))) :=
 SxOne.core (A:=AL ya 155) (aL ya 155) (aZ ya 155) rfl rfl Kq (xF hO) 10 (jjV hO k) (fun b x h=>by
  obtain ⟨s,⟨n,t,a⟩⟩:=b;rw [Iv];refine Ka h ?_;exact TellsC.bind fun e p1=>JS (by decide) (fun e p=>Q5) _ ya 0 3 _ rfl rfl (by decide)) RY F6
abbrev jg2 (O:ByteArray->PS->PR PS RX) (k:Nat):HdP:=XF 155 O [(111,qZ (AZ ya 155) (uCh ya O (k+1)))]
theorem jnu {O:ByteArray->PS->PR PS RX} (hO:jw Tryz.prog 155 (localG 70 (UO O))) (k:Nat):XOk Tryz.prog (jg2 O k):=(xF hO).sxCons (jof hO k)
theorem jhv (O:ByteArray->PS->PR PS RX) (k:Nat) (s t:ByteArray) (n a:Int):kC Tryz.prog YH (jg2 O k) 10 138 70 [] [.str s,.int .i64 n,.str t,.int .i64 a]=tCh (chS ya O (k+1)) s ⟨n,t,a⟩:=by kernel_rfl
theorem jnO {O:ByteArray->PS->PR PS RX} (hO:jw Tryz.prog 155 (localG 70 (UO O))) (k:Nat):jw Tryz.prog 138 (localG 70 (UO (chS ya O (k+1)))):=V5 Kq (jnu hO k) 10 138 fun s n t a=>by
 rw [jhv]
 have:=Tells.bind (enc:=Ql) (s:=s) (d:=dX) (x:=chS ya O (k+1) s ⟨n,t,a⟩) (K:=fun e p1=>QG (Ql e) s p1) (f:=fun e p1=>.ret e p1) fun e p1=>Tells.ret
 cases hx:chS ya O (k+1) s ⟨n,t,a⟩ with
 | stuck=>exact trivial
 | ret v q=>rw [hx] at this;unfold tCh;rw [hx];exact this
 | pan b=>rw [hx] at this;unfold tCh;rw [hx];exact this
abbrev yd:List ByteArray:=[z8]
theorem jbx (O : ByteArray -> PS -> PR PS RX) (g : CE -> Tree (XP × DE)) (s t o : ByteArray) (n a v : Int) (m : Nat) (ρ : Val) :
  Uz (AL yd 123) Tryz.prog YH (XF 123 O []) 10 111 0 g ((s,⟨n,t,a⟩),⟨o,v,m,ρ⟩)=rCh s yd O g ⟨o,v,m,ρ⟩ 3 0 ⟨n,t,a⟩:=by kernel_rfl
theorem Iz (O : ByteArray -> PS -> PR PS RX) (g : CE -> Tree (XP × DE)) (s t : ByteArray) (n a : Int) :
  VG (AL yd 123) (AZ yd 123) Tryz.prog YH (XF 123 O []) 10 111 0 g (s,⟨n,t,a⟩)=nxT dX (O s ⟨n,t,a⟩) (fun e p1=>rCh s yd O g e 3 0 p1) B7:=by kernel_rfl
theorem jhT {O:ByteArray->PS->PR PS RX} (hO:jw Tryz.prog 123 (localG 70 (UO O))):∀ k,PassCore Tryz.prog 111 0 3 (SL yd 123) SE (gCh yd O k) :=
 PassCore.fuel (A:=AL yd 123) (aL yd 123) Kq (xF hO) 10 (fun _=>rfl) fun k c x h=>by
  obtain ⟨⟨s,⟨n,t,a⟩⟩,⟨o,v,m,ρ⟩⟩:=c;rw [jbx];exact Ka h (JS (by decide) (fun e p=>Q5) _ yd 0 3 _ rfl rfl (by decide))
theorem jnY {O:ByteArray->PS->PR PS RX} (hO:jw Tryz.prog 123 (localG 70 (UO O))) (k:Nat):SxOne Tryz.prog 111 (qZ (AZ yd 123) (uCh yd O (k+1))) :=
 SxOne.core (A:=AL yd 123) (aL yd 123) (aZ yd 123) rfl rfl Kq (xF hO) 10 (jhT hO k) (fun b x h=>by
  obtain ⟨s,⟨n,t,a⟩⟩:=b;rw [Iz];refine Ka h ?_;exact TellsC.bind fun e p1=>JS (by decide) (fun e p=>Q5) _ yd 0 3 _ rfl rfl (by decide)) RY F6
abbrev jhk (O:ByteArray->PS->PR PS RX) (k:Nat):HdP:=XF 123 O [(111,qZ (AZ yd 123) (uCh yd O (k+1)))]
theorem jnH {O:ByteArray->PS->PR PS RX} (hO:jw Tryz.prog 123 (localG 70 (UO O))) (k:Nat):XOk Tryz.prog (jhk O k):=(xF hO).sxCons (jnY hO k)
theorem jjp (O:ByteArray->PS->PR PS RX) (k:Nat) (s t:ByteArray) (n a:Int):kC Tryz.prog YH (jhk O k) 10 112 70 [] [.str s,.int .i64 n,.str t,.int .i64 a]=tCh (chS yd O (k+1)) s ⟨n,t,a⟩:=by kernel_rfl
theorem jnS {O:ByteArray->PS->PR PS RX} (hO:jw Tryz.prog 123 (localG 70 (UO O))) (k:Nat):jw Tryz.prog 112 (localG 70 (UO (chS yd O (k+1)))):=V5 Kq (jnH hO k) 10 112 fun s n t a=>by
 rw [jjp]
 have:=Tells.bind (enc:=Ql) (s:=s) (d:=dX) (x:=chS yd O (k+1) s ⟨n,t,a⟩) (K:=fun e p1=>QG (Ql e) s p1) (f:=fun e p1=>.ret e p1) fun e p1=>Tells.ret
 cases hx:chS yd O (k+1) s ⟨n,t,a⟩ with
 | stuck=>exact trivial
 | ret v q=>rw [hx] at this;unfold tCh;rw [hx];exact this
 | pan b=>rw [hx] at this;unfold tCh;rw [hx];exact this
abbrev yb:List ByteArray:=[wOr]
theorem jbF (O : ByteArray -> PS -> PR PS RX) (g : CE -> Tree (XP × DE)) (s t o : ByteArray) (n a v : Int) (m : Nat) (ρ : Val) :
  Uz (AL yb 112) Tryz.prog YH (XF 112 O []) 10 111 0 g ((s,⟨n,t,a⟩),⟨o,v,m,ρ⟩)=rCh s yb O g ⟨o,v,m,ρ⟩ 3 0 ⟨n,t,a⟩:=by kernel_rfl
theorem Ih (O : ByteArray -> PS -> PR PS RX) (g : CE -> Tree (XP × DE)) (s t : ByteArray) (n a : Int) :
  VG (AL yb 112) (AZ yb 112) Tryz.prog YH (XF 112 O []) 10 111 0 g (s,⟨n,t,a⟩)=nxT dX (O s ⟨n,t,a⟩) (fun e p1=>rCh s yb O g e 3 0 p1) B7:=by kernel_rfl
theorem jje {O:ByteArray->PS->PR PS RX} (hO:jw Tryz.prog 112 (localG 70 (UO O))):∀ k,PassCore Tryz.prog 111 0 3 (SL yb 112) SE (gCh yb O k) :=
 PassCore.fuel (A:=AL yb 112) (aL yb 112) Kq (xF hO) 10 (fun _=>rfl) fun k c x h=>by
  obtain ⟨⟨s,⟨n,t,a⟩⟩,⟨o,v,m,ρ⟩⟩:=c;rw [jbF];exact Ka h (JS (by decide) (fun e p=>Q5) _ yb 0 3 _ rfl rfl (by decide))
theorem joe {O:ByteArray->PS->PR PS RX} (hO:jw Tryz.prog 112 (localG 70 (UO O))) (k:Nat):SxOne Tryz.prog 111 (qZ (AZ yb 112) (uCh yb O (k+1))) :=
 SxOne.core (A:=AL yb 112) (aL yb 112) (aZ yb 112) rfl rfl Kq (xF hO) 10 (jje hO k) (fun b x h=>by
  obtain ⟨s,⟨n,t,a⟩⟩:=b;rw [Ih];refine Ka h ?_;exact TellsC.bind fun e p1=>JS (by decide) (fun e p=>Q5) _ yb 0 3 _ rfl rfl (by decide)) RY F6
abbrev jhg (O:ByteArray->PS->PR PS RX) (k:Nat):HdP:=XF 112 O [(111,qZ (AZ yb 112) (uCh yb O (k+1)))]
theorem jnN {O:ByteArray->PS->PR PS RX} (hO:jw Tryz.prog 112 (localG 70 (UO O))) (k:Nat):XOk Tryz.prog (jhg O k):=(xF hO).sxCons (joe hO k)
theorem jii (O:ByteArray->PS->PR PS RX) (k:Nat) (s t:ByteArray) (n a:Int):kC Tryz.prog YH (jhg O k) 10 83 70 [] [.str s,.int .i64 n,.str t,.int .i64 a]=tCh (chS yb O (k+1)) s ⟨n,t,a⟩:=by kernel_rfl
theorem jn7 {O:ByteArray->PS->PR PS RX} (hO:jw Tryz.prog 112 (localG 70 (UO O))) (k:Nat):jw Tryz.prog 83 (localG 70 (UO (chS yb O (k+1)))):=V5 Kq (jnN hO k) 10 83 fun s n t a=>by
 rw [jii]
 have:=Tells.bind (enc:=Ql) (s:=s) (d:=dX) (x:=chS yb O (k+1) s ⟨n,t,a⟩) (K:=fun e p1=>QG (Ql e) s p1) (f:=fun e p1=>.ret e p1) fun e p1=>Tells.ret
 cases hx:chS yb O (k+1) s ⟨n,t,a⟩ with
 | stuck=>exact trivial
 | ret v q=>rw [hx] at this;unfold tCh;rw [hx];exact this
 | pan b=>rw [hx] at this;unfold tCh;rw [hx];exact this
end Go.Proofs.YtiefjlcakpdfeaaGreatDoor
namespace Go.Sx
open Go Go.RowKit
variable {P:Program}
def jbb (P:Program) (H:Hd) (X:HdP) (n f:Nat) (args:List A1) (mem:Mem):Tree (Out × Mem) :=
 match nth P.funcs.toList f with
 | some fn=>match fn.body with
  | some c => if Nat.ble args.length fn.ntmps then
    (j6 P H X (jZ P H n) (zO P H X n) f mem.length 0 c ⟨⟨args.map (fun a=>⟨[],.one a⟩)++List.replicate (fn.ntmps - args.length) ⟨[],.any⟩,mem⟩,[]⟩).bind fun x=>match x.1 with
     | .exit _=>.fail
     | .goto _=>.fail
     | .pan y=>kp P H X (jZ P H n) (zO P H X n) fn x.2.s x.2.dl (some y) x.2.s.mem
     | _=>kp P H X (jZ P H n) (zO P H X n) fn x.2.s x.2.dl none x.2.s.mem
    else .fail
  | none=>.fail
 | none=>.fail
theorem jfw {H:Hd} (hH:HdOk P H) {X:HdP} (hX:XOk P X) (n f:Nat):jw P f (jbb P H X n f):=by
 intro args mem r mem' h F w bs vs hm hargs;unfold jbb at h;split at h
 rotate_left
 ·simp [Tree.sel] at h
 rename_i fn hfn;split at h
 rotate_left
 ·simp [Tree.sel] at h
 rename_i c hb;split at h
 rotate_left
 ·simp [Tree.sel] at h
 rename_i hle;obtain ⟨⟨x,s1⟩,h1,h2⟩:=jh h;rw [jd,Array.getElem?_toList] at hfn;have hst:=X5 (nt:=fn.ntmps) hm hargs (by simpa using hle)
 refine calls_of_wp_defers hfn hb (y7 hH.pc hX.rx hX.nc (zD hH n) (yC hH hX n) f mem.length c 0 _ h1 (fun i b hh hi hk=>hH.lh f fn c i b hh hfn hb hi (by simpa using hk)) (fun i b hh hi hk=>hX.lx f fn c i b hh hfn hb hi (by simpa using hk)) (fun b hh hi hk=>hX.sx f fn c b hh hfn hb hi hk) (Nat.le_of_eq hm.len.symm) (hst.toP .nil) fun F' w' bs' a' e he hs' hx => ?_)
 have hext:Ext bs.length F w bs F' w' bs':=he.weak (Nat.le_of_eq hm.len)
 have key:∀ (pan:Option CV) (u:FrameMode),(kp P H X (jZ P H n) (zO P H X n) fn s1.s s1.dl pan s1.s.mem).sel=some (r,mem')->UMode F' w' bs' pan u->Leaves P fn a'.tmps (fun e w'=>∃ F' bs',Ext bs.length F w bs F' w' bs'∧MemRel P F' w' bs' mem'∧r.Ends F' w' bs' e) a'.defers u w':=by
  intro pan u hl hu
  have:=leaveP_ok hH hX.xs (zD hH n) (yC hH hX n) s1.dl pan s1.s.mem hl hs'.st hs'.ds hu
  exact leaveP_ok.leaves_mono (fun e w2 ⟨F2,bs2,he2,hm2,hr2⟩=>⟨F2,bs2,hext.trans he2 hext.le,hm2,hr2⟩) _ _ _ this
 cases x with
 | normal=>cases hx;exact key none .returning h2 rfl
 | ret=>cases hx;exact key none .returning h2 rfl
 | pan y=>obtain ⟨v,rfl,hv⟩:=hx;exact key (some y) _ h2 ⟨v,rfl,hv⟩
 | exit k=>simp [Tree.sel] at h2
 | goto k=>simp [Tree.sel] at h2
theorem jdp {f : Nat} (T : TypeId) {ev : List A1 -> Mem -> Tree (Out × Mem)} (hev : jw P f ev) {u : List A1 -> List CV -> Tree (Out × List CV)}
  (hu:∀ rest cs r,(u rest cs).sel=some r->∃ z,((ev (.c (.ptr 0 0)::rest) [some (T,cs)]).bind (Ti T)).sel=some z∧LeOut z r):jw P f (localG T u):=by
 intro args mem r mem' h F w bs vs hm hargs;unfold localG at h;split at h
 rotate_left
 ·simp [Tree.sel] at h
 rename_i b rest;split at h
 rotate_left
 ·simp [Tree.sel] at h
 rename_i T' cs hb;split at h
 rotate_left
 ·simp [Tree.sel] at h
 rename_i hcond;simp only [aTq,beq_iff_eq,Bool.not_eq_true'] at hcond;obtain ⟨⟨⟨rfl,hr⟩,hcs⟩,hrest⟩:=hcond;obtain ⟨⟨o,ds⟩,h1,h2⟩:=jh h;simp only [Tree.sel,sIq,pIq] at h2;obtain ⟨rfl,rfl⟩:=h2;obtain ⟨⟨o',cs'⟩,h3,hle⟩:=hu rest cs _ h1;obtain ⟨⟨o1,m1⟩,h4,h5⟩:=jh h3;cases hargs with
 | cons hp hvs =>
   rename_i v0 vs;cases hp with
  | ptr hx =>
    rename_i x;have hm1:=hm.lone hb hr hcs hx;have hargs1:All2 (A1.Rel F w [x]) (.c (.ptr 0 0)::rest) (.pointer (some ⟨x.p,0,none⟩)::vs):=.cons (CV.Rel.ptr (bs:=[x]) (b:=0) (x:=x) rfl) (Jt hvs hrest)
    have hbs:nth (jk mem b (some (T',cs'))) b=some (some (T',cs')):=by
     have hlt:=jq hb;rw [jd,jC];simp [hlt]
    refine (hev _ _ o1 m1 h4 F w [x] _ hm1 hargs1).mono fun e w' ⟨F',bs',hext,hm',hend⟩ => ?_;unfold Ti at h5;split at h5
    ·rename_i a hoa;simp only at hoa;subst hoa;split at h5
     ·rename_i T2 cs2 hz;split at h5
      ·rename_i hc;simp only [aTq,beq_iff_eq,Bool.not_eq_true'] at hc;obtain ⟨⟨⟨⟨rfl,c1⟩,c2⟩,c3⟩,c4⟩:=hc;simp only [Tree.sel,sIq,pIq] at h5;obtain ⟨rfl,rfl⟩:=h5;obtain ⟨v,rfl,hv⟩:=hend;obtain ⟨F2,e2,hm2,r2⟩:=ZD hm' hv;have e3:=hext.trans e2 (hext.le);have hx0:nth bs' 0=some x:=hext.pre 0 x (by simp) rfl
       obtain ⟨F3,e4,hm3⟩:=hm2.frzBlock hz c1 c2 hx0
       have hz3:nth (jk (qL (zu m1 a).1 cs2).1 0 (some (T2,(qL (zu m1 a).1 cs2).2))) 0=some (some (T2,(qL (zu m1 a).1 cs2).2)):=by
        have hlt:=jq (Xc (l:=cs2) hz c1);rw [jd,jC];simp [hlt]
       have e5:=e3.trans e4 (hext.le);obtain ⟨he,hmm⟩:=hm.unlone hb hr hx e5 hm3 hz3 c2 c3;cases hle with
       | ret hla hl hr' =>
         have hmm2:=hmm.cellsLe hbs c2 c3 hl hr';rw [Yv] at hmm2;exact ⟨F3,bs,he,hmm2,v,rfl,AV.Rel.grow ⟨lRq _,fun _ _ h=>h,fun _ _ _=>rfl,fun k p h=>by simp [nth] at h⟩ (hla _ _ _ ((AV.Rel.grow e4.grow r2).closed c4))⟩
      ·simp [Tree.sel] at h5
     ·simp [Tree.sel] at h5
    ·rename_i y hoy;simp only at hoy;subst hoy;split at h5
     ·rename_i T2 cs2 hz;split at h5
      ·rename_i hc;simp only [aTq,beq_iff_eq,Bool.not_eq_true'] at hc;obtain ⟨⟨rfl,c1⟩,c4⟩:=hc;simp only [Tree.sel,sIq,pIq] at h5;obtain ⟨rfl,rfl⟩:=h5;obtain ⟨v,rfl,hv⟩:=hend;have hm3:=hm'.anyBlock hz c1
       have hz3:nth (jk m1 0 (some (T2,cs2.map fun _=>CV.any))) 0=some (some (T2,cs2.map fun _=>CV.any)):=by
        have hlt:=jq hz;rw [jd,jC];simp [hlt]
       obtain ⟨he,hmm⟩:=hm.unlone hb hr hx hext hm3 hz3 (Kx cs2) (Z4 cs2);cases hle with
       | pan hl hr' =>
         have hmm2:=hmm.cellsLe hbs (Kx cs2) (Z4 cs2) hl hr';rw [Yv] at hmm2;exact ⟨F',bs,he,hmm2,v,rfl,hv.closed c4⟩
      ·simp [Tree.sel] at h5
     ·simp [Tree.sel] at h5
def jm5 (P:Program) (H:Hd) (X:HdP) (k f:Nat) (T:TypeId) (rest:List A1) (cs:List CV):Tree (Out × List CV) :=
 (jbb P H X k f (.c (.ptr 0 0)::rest) [some (T,cs)]).bind (Ti T)
end Go.Sx
namespace Go.Proofs.YtiefjlcakpdfeaaGreatDoor
open Go Go.Sx Go.RowKit Rb
set_option maxRecDepth 100000
theorem W6 {P:Program} {α:Type} {d:α} {enc:α->AV} (f:Nat):jw P f (localG 70 (uOf d enc (spU fun _ _=>.stuck))):=by
 intro args mem r mem' h
 exfalso
 unfold localG at h;split at h
 ·split at h
  ·split at h
   ·obtain ⟨y,h1,_⟩:=jh h;unfold uOf spU at h1;split at h1
    ·split at h1<;>cases h1
    ·cases h1
   ·cases h
  ·cases h
 ·cases h
theorem Tells.br1 {α:Type} {c:Bool} {A B:Tree (Out × List CV)} {enc:α->AV} {s:ByteArray} {x:PR PS α} (hc:c=true) (h:Tells A enc s x):Tells (.br c A B) enc s x:=by
 subst hc;cases x<;>exact h
theorem Tells.br0 {α:Type} {c:Bool} {A B:Tree (Out × List CV)} {enc:α->AV} {s:ByteArray} {x:PR PS α} (hc:c=false) (h:Tells B enc s x):Tells (.br c A B) enc s x:=by
 subst hc;cases x<;>exact h
theorem Tells.nd {α:Type} {c:Bool} {A:Tree (Out × List CV)} {enc:α->AV} {s:ByteArray} {x:PR PS α} (hc:c=true) (h:Tells A enc s x):Tells (.need c A) enc s x:=by
 subst hc;cases x<;>exact h
theorem jnJ {P:Program} {α:Type} {H:Hd} {X:HdP} {d:α} {enc:α->AV} (hH:HdOk P H) (hX:XOk P X) (k f:Nat) {F:ByteArray->PS->PR PS α} (h:∀ s n t a,Tells (jm5 P H X k f 70 [] [.str s,.int .i64 n,.str t,.int .i64 a]) enc s (F s ⟨n,t,a⟩)):jw P f (localG 70 (uOf d enc (spU F))) :=
 jdp 70 (jfw hH hX k f) fun rest cs r hr=>by
  unfold uOf at hr;split at hr
  ·rename_i s n t a;unfold spU at hr;split at hr
   ·have ht:=h s n t a;rcases MA hr with ⟨v,p,hx,rfl⟩ | ⟨a',hx,rfl⟩
    ·rw [hx] at ht;exact ht
    ·rw [hx] at ht;exact ht
   ·cases hr
  ·cases hr
abbrev cmps:List ByteArray:=[wEq,wLt,wGt]
def jeZ (s:ByteArray) (S:ByteArray->PS->PR PS RX) (e:RX):Nat->Nat->PS->Tree (Out × List CV)
 | 0,_,_=>.fail
 | k + 1, j, p => .br (lt (j : Int) (ja cmps.length)) (.need (jc (j : Int) cmps.length) (nxT false (qC (MP s) ((((zj cmps).at j).at 0).S []) p)
   (fun c p1=>.br c (nxT dX (S s p1) (fun x p2=>QG (Ql (exR ((((zj cmps).at j).at 0).S []) 0 [e,x])) s p2) qk) (jeZ s S e k (j+1) p1)) qk)) (QG (Ql e) s p)
theorem HJ {s : ByteArray} {S : ByteArray -> PS -> PR PS RX} (e : RX) : ∀ (r : List ByteArray) (j k : Nat) (p : PS), cmps.drop j = r -> j + r.length = cmps.length -> r.length < k ->
  Tells (jeZ s S e k j p) Ql s (Ju (MP s) AR (S s) (fun x s3=>.ret x s3) e r p)
 | [], j, k, p, hd, hj, hk => by
   obtain ⟨k,rfl⟩ : ∃ k',k=k'+1:=⟨k - 1,by omega⟩
   refine Tells.br0 ?_ Tells.ret;unfold lt ja;simp at hj ⊢;omega
 | o :: r, j, k, p, hd, hj, hk => by
   obtain ⟨k,rfl⟩ : ∃ k',k=k'+1:=⟨k - 1,by omega⟩
   obtain ⟨h1,h2⟩:=K3 cmps j o r hd;have hlen:j<cmps.length:=jq h1;have hlen3:j<3:=hlen;have h33:cmps.length=3:=rfl;have h00:([]:List ByteArray).length=0:=rfl;have hw:(((zj cmps).at j).at 0).S []=o:=by rw [JW cmps j o h1];rfl
   refine Tells.br1 (by unfold lt ja;simp;omega) (Tells.nd (by unfold jc le lt ja;simp;omega) ?_)
   rw [hw];refine Tells.bind fun c p1=>Tells.cond (Tells.bind fun x p2=>Tells.ret) ?_;exact HJ e r (j+1) k p1 h2 (by simp only [List.length_cons] at hj;omega) (by simp only [List.length_cons] at hk;omega)
abbrev jlT (One Sum:ByteArray->PS->PR PS RX):HdP:=⟨(123,localG 70 (UO One))::(138,localG 70 (UO Sum))::Ga,[],[],[],[],4,123::138::[185,84,28,29,52,27]⟩
theorem aw {One Sum:ByteArray->PS->PR PS RX} (h1:jw Tryz.prog 123 (localG 70 (UO One))) (h2:jw Tryz.prog 138 (localG 70 (UO Sum))):XOk Tryz.prog (jlT One Sum) :=
 ((UL 4).loCons h2 (LocFn.localG _ _)).loCons h1 (LocFn.localG _ _)
def joB (One Sum:ByteArray->PS->PR PS RX) (s:ByteArray) (p:PS):Tree (Out × List CV) :=
 nxT false (qC (MP s) jO p) (fun c p1=>.br c (nxT dX (One s p1) (fun e p2=>QG (Ql (exR jO 0 [e])) s p2) qk) (nxT dX (Sum s p1) (fun e p2=>jeZ s Sum e 4 0 p2) qk)) qk
theorem jjs (One Sum:ByteArray->PS->PR PS RX) (s t:ByteArray) (n a:Int):jm5 Tryz.prog YH (jlT One Sum) 10 123 70 [] [.str s,.int .i64 n,.str t,.int .i64 a]=joB One Sum s ⟨n,t,a⟩:=by kernel_rfl
def jpP (One Sum:ByteArray->PS->PR PS RX) (s:ByteArray) (p:PS):PR PS RX :=
 (qC (MP s) jO p).bind fun c s1=>bif c then (One s s1).bind fun e s2=>.ret (AR.ex jO 0 [e]) s2
  else (Sum s s1).bind fun e s2=>Ju (MP s) AR (Sum s) (fun x s3=>.ret x s3) e cmps s2
theorem jnL {One Sum:ByteArray->PS->PR PS RX} (h1:jw Tryz.prog 123 (localG 70 (UO One))) (h2:jw Tryz.prog 138 (localG 70 (UO Sum))):jw Tryz.prog 123 (localG 70 (UO (jpP One Sum))):=jnJ Kq (aw h1 h2) 10 123 fun s n t a=>by
 rw [jjs];exact Tells.bind fun c p1=>Tells.cond (Tells.bind fun e p2=>Tells.ret) (Tells.bind fun e p2=>HJ e _ 0 4 p2 rfl rfl (by decide))
abbrev jl5 (K d:Nat) (s:ByteArray) (p:PS):PR PS RX:=(exs (MP s) AR K d).1 p
abbrev jnM (K d:Nat) (s:ByteArray) (p:PS):PR PS RX:=(exs (MP s) AR K d).2 p
theorem jk3 (k:Nat):∀ d,jw Tryz.prog 123 (localG 70 (UO (jl5 (k+1) d)))∧jw Tryz.prog 83 (localG 70 (UO (jnM (k+1) d)))
 | 0=>⟨W6 123,W6 83⟩
 | d + 1 => by
   obtain ⟨h1,h2⟩:=jk3 k d;have ha:=joa h2;have hs:=jnO ha k;have ho:jw Tryz.prog 123 (localG 70 (UO (jl5 (k+1) (d+1)))):=jnL h1 hs;have hb:=jnS ho k;exact ⟨ho,jn7 hb k⟩
def jay (l:List RS):AV:=.one (.c (.sl (jl 1) l.length (jN l)))
def encR (x:RS):AV:=.one (.agg x.cells)
def dS:RS:=stR (bs []) [] dX [] [] 0
abbrev Row:=Option (Nat × Val)
def slR:Row->AV
 | none=>.one (.c .nils)
 | some _=>.one (.c (.os 1 8))
def meR:Row->Mem
 | none=>[]
 | some (n,ρ)=>[some (96,[.row false (jl 1) n ρ])]
abbrev CB:=CP × Row
abbrev DB:=CB ⊕ Row
def SB (c:CB):St:=mkS 15 [(0,.one (.c (.ptr 0 0))),(3,slR c.2)] (some (70,qM c.1.1 c.1.2)::meR c.2)
def SBP:DB->St
 | .inl c=>SB c
 | .inr r=>mkS 15 [(0,.one (.c (.ptr 0 0))),(3,slR r)] (some (70,Jz)::meR r)
def jbP:List (Nat × AV)->Mem->Option (List CV × Row)
 | [(0,.one (.c (.ptr 0 0))),(3,.one (.c .nils))],[some (70,c0)]=>some (c0,none)
 | [(0,.one (.c (.ptr 0 0))),(3,.one (.c (.os 1 8)))],[some (70,c0),some (96,[.row false es n ρ])]=>if shEq.shsEq es (jl 1) then some (c0,some (n,ρ)) else none
 | _,_=>none
def jfy (l:List (Nat × AV)) (m:Mem):Option CB:=match jbP l m with
 | some (c0,r)=>(match W7 c0 with | some p=>some (p,r) | none=>none)
 | none=>none
def getD (l:List (Nat × AV)) (m:Mem):Option DB:=match jbP l m with
 | some (c0,r)=>(match W7 c0 with | some p=>some (.inl (p,r)) | none=>if HG c0 then some (.inr r) else none)
 | none=>none
theorem NU {l:List (Nat × AV)} {m:Mem} {c0:List CV} {r:Row} (h:jbP l m=some (c0,r)):l=[(0,.one (.c (.ptr 0 0))),(3,slR r)]∧m=some (70,c0)::meR r:=by
 unfold jbP at h;split at h
 ·cases h;exact ⟨rfl,rfl⟩
 ·split at h
  ·rename_i hs;cases h;rw [jm hs];exact ⟨rfl,rfl⟩
  ·cases h
 ·cases h
theorem jjZ:∀ l m c,jfy l m=some c->StWk (mkS 15 l m) (SB c):=by
 intro l m c h;unfold jfy at h;split at h
 ·rename_i c0 r hr;obtain ⟨rfl,rfl⟩:=NU hr;split at h
  ·rename_i p hp;cases h;rw [JF hp];exact StWk.refl
  ·cases h
 ·cases h
theorem jhJ:∀ l m c,getD l m=some c->StWk (mkS 15 l m) (SBP c):=by
 intro l m c h;unfold getD at h;split at h
 ·rename_i c0 r hr;obtain ⟨rfl,rfl⟩:=NU hr;split at h
  ·rename_i p hp;cases h;rw [JF hp];exact StWk.refl
  ·split at h
   ·rename_i h2;cases h;obtain ⟨b1,b2,b3⟩:=BM h2;exact kz (.cons leAB.refl (.cons leAB.refl .nil)) (kS (b:=0) rfl b2 b1 b3 rfl rfl)
   ·cases h
 ·cases h
def AB:Sx.Frame CB DB:=⟨1,15,[0,3],jfy,SB,[0,3],getD,SBP⟩
theorem aB:AB.Ok:=⟨jjZ,jhJ⟩
def LO (n:Nat) (ρ:Val) (x:RS):Val:=Val.cat n ρ (Val.ofFlat 8 x.cells)
def Jl:Nat->Val->List RS->Val
 | _,ρ,[]=>ρ
 | n,ρ,x::l=>Jl (n+1) (LO n ρ x) l
def Yl:Row->List RS->Row
 | some (n,ρ),l=>some (n+l.length,Jl n ρ l)
 | none,[]=>none
 | none,x::l=>some (1+l.length,Jl 1 (Val.ofFlat 8 x.cells) l)
def Kt:Row->Nat
 | none=>0
 | some (n,_)=>n
def Hj:Row->RS->Row
 | some (n,ρ),x=>some (n+1,LO n ρ x)
 | none,x=>some (1,Val.ofFlat 8 x.cells)
theorem Bw (r:Row) (x:RS) (l:List RS):Yl r (x::l)=Yl (Hj r x) l:=by
 cases r with
 | none=>rfl
 | some q =>
   obtain ⟨n,ρ⟩:=q;show some _=some _;simp only [Jl,List.length_cons];rw [show n+(l.length+1)=n+1+l.length by omega]
theorem WO (r:Row):Yl r []=r:=by
 cases r with
 | none=>rfl
 | some q=>rfl
theorem jf7 (r:Row) (x:RS):Kt (Hj r x)=Kt r+1:=by
 cases r with
 | none=>rfl
 | some q=>rfl
def La (s:ByteArray) (St:ByteArray->PS->PR PS RS):Nat->PS->List RS
 | 0,_=>[]
 | k+1,p=>match qC (MP s) yD p with
  | .ret false p1=>(match St s p1 with
   | .ret x p2=>x::La s St k p2
   | _=>[])
  | _=>[]
def jkH (s:ByteArray) (r:Row) (l:List RS) (p:PS):Tree (XP × DB):=match r with
 | none=>.br l.isEmpty (.leaf (.exit 0,.inl ((s,p),none))) (.leaf (.exit 0,.inl ((s,p),some (l.length,match l with | []=>Val.zero | x::l'=>Jl 1 (Val.ofFlat 8 x.cells) l'))))
 | some (n,ρ)=>.leaf (.exit 0,.inl ((s,p),some (n+l.length,Jl n ρ l)))
theorem jgW (s:ByteArray) (r:Row) (l:List RS) (p:PS):(jkH s r l p).sel=some (.exit 0,.inl ((s,p),Yl r l)):=by
 cases r with
 | none =>
   cases l with
  | nil=>rfl
  | cons x l=>show some _=some _;simp only [Yl,List.length_cons];rw [Nat.add_comm]
 | some q=>rfl
def y3:Nat:=549755813888
def gB (St:ByteArray->PS->PR PS RS) (k:Nat) (c:CB):Tree (XP × DB) :=
 .need (Nat.ble (Kt c.2+k) y3) (nxT [] (zW (MP c.1.1) (St c.1.1) k c.1.2) (jkH c.1.1 c.2) (fun a=>.leaf (.pan (Qg a),.inr (Yl c.2 (La c.1.1 St k c.1.2)))))
noncomputable abbrev HBk:Hd:=⟨[lK,pF 28,pF 52,pF 55,pF 31],[],[],[]⟩
theorem hBk:HdOk Tryz.prog HBk:=HdOk.lK ((((HdOk.nil.pF 31).pF 55).pF 52).pF 28)
abbrev XBk (St:ByteArray->PS->PR PS RS):HdP:=⟨(55,localG 70 (uOf dS encR (spU St)))::Ga,[],[],[],[],0,55::[185,84,28,29,52,27]⟩
theorem xBk {St:ByteArray->PS->PR PS RS} (hS:jw Tryz.prog 55 (localG 70 (uOf dS encR (spU St)))):XOk Tryz.prog (XBk St):=(UL 0).loCons hS (LocFn.localG _ _)
def rB (s:ByteArray) (St:ByteArray->PS->PR PS RS) (g:CB->Tree (XP × DB)) (r:Row) (p:PS):Tree (XP × DB) :=
 nxT false (qC (MP s) yD p) (fun c p1=>.br (!c) (nxT dS (St s p1) (fun x p2=>.need (Nat.ble ((Kt r+1)*144) 140737488355328) (g ((s,p2),Hj r x))) (fun a=>.leaf (.pan (Qg a),.inr r)))
  (.leaf (.exit 0,.inl ((s,p1),r)))) (fun a=>.leaf (.pan (Qg a),.inr r))
theorem jhY (St:ByteArray->PS->PR PS RS) (g:CB->Tree (XP × DB)) (s t:ByteArray) (n a:Int):jQ AB Tryz.prog HBk (XBk St) 10 31 0 g ((s,⟨n,t,a⟩),none)=rB s St g none ⟨n,t,a⟩:=by kernel_rfl
theorem jiQ (St:ByteArray->PS->PR PS RS) (g:CB->Tree (XP × DB)) (s t:ByteArray) (n a:Int) (m:Nat) (ρ:Val):jQ AB Tryz.prog HBk (XBk St) 10 31 0 g ((s,⟨n,t,a⟩),some (m,ρ))=rB s St g (some (m,ρ)) ⟨n,t,a⟩:=by kernel_rfl
theorem jn5 (St:ByteArray->PS->PR PS RS) (g:CB->Tree (XP × DB)) (s:ByteArray) (p:PS) (r:Row):jQ AB Tryz.prog HBk (XBk St) 10 31 0 g ((s,p),r)=rB s St g r p:=by
 obtain ⟨n,t,a⟩:=p;cases r with
 | none=>exact jhY St g s t n a
 | some q=>obtain ⟨m,ρ⟩:=q;exact jiQ St g s t n a m ρ
theorem Tn (St : ByteArray -> PS -> PR PS RS) (k : Nat) (s : ByteArray) (p : PS) (r : Row) : (gB St k ((s, p), r)).sel = bif Nat.ble (Kt r + k) y3 then (match zW (MP s) (St s) k p with
  | .stuck=>none
  | .ret l q=>some (.exit 0,.inl ((s,q),Yl r l))
  | .pan a=>some (.pan (Qg a),.inr (Yl r (La s St k p)))) else none:=by
 unfold gB;rw [jG];simp only;cases Nat.ble (Kt r+k) y3 with
 | false=>rfl
 | true =>
   simp only [cond_true];cases zW (MP s) (St s) k p with
  | stuck=>rfl
  | ret l q=>exact jgW s r l q
  | pan a=>rfl
theorem jnK (St:ByteArray->PS->PR PS RS) (k:Nat) (c:CB) (x:XP × DB) (h:(gB St (k+1) c).sel=some x):(jQ AB Tryz.prog HBk (XBk St) 10 31 0 (gB St k) c).sel=some x:=by
 obtain ⟨⟨s,p⟩,r⟩:=c;rw [jn5];rw [Tn] at h
 have hb:Nat.ble (Kt r+(k+1)) y3=true:=by
  cases hh:Nat.ble (Kt r+(k+1)) y3 with
  | true=>rfl
  | false=>rw [hh] at h;cases h
 rw [hb] at h;simp only [cond_true] at h;have hle:=Nat.le_of_ble_eq_true hb;have hb1:Nat.ble ((Kt r+1)*144) 140737488355328=true:=Nat.ble_eq.mpr (by unfold y3 at hle;omega)
 unfold rB;unfold zW at h;simp only [La] at h;cases e1:qC (MP s) yD p with
 | stuck=>rw [e1] at h;cases h
 | pan a =>
   rw [e1] at h;simp only [PR.bind,WO] at h;exact h
 | ret c p1 =>
   rw [e1] at h;rw [ZG];cases c with
  | true =>
    simp only [PR.bind,cond_true,WO] at h;exact h
  | false =>
    simp only [PR.bind,cond_false] at h;rw [qg];simp only [Bool.not_false,cond_true];cases e2:St s p1 with
   | stuck=>rw [e2] at h;cases h
   | pan a =>
     rw [e2] at h;simp only [WO] at h;exact h
   | ret y p2 =>
     rw [e2] at h;rw [ZG,jG,hb1];simp only [cond_true];rw [Tn];have hb2:Nat.ble (Kt (Hj r y)+k) y3=true:=Nat.ble_eq.mpr (by rw [jf7];omega)
     rw [hb2];simp only [cond_true];simp only [Bw] at h;cases e3:zW (MP s) (St s) k p2 with
    | stuck=>rw [e3] at h;cases h
    | pan a=>rw [e3] at h;exact h
    | ret l q =>
      rw [e3] at h;simp only [Bw] at h;exact h
theorem jnR {St:ByteArray->PS->PR PS RS} (hS:jw Tryz.prog 55 (localG 70 (uOf dS encR (spU St)))):∀ k,CoreOk Tryz.prog 31 0 1 SB SBP (gB St k) :=
 CoreOk.fuel (A:=AB) aB hBk (xBk hS) 10 (fun c=>by
  obtain ⟨⟨s,p⟩,r⟩:=c;rw [Tn];cases Nat.ble (Kt r+0) y3<;>rfl) (jnK St)
abbrev XBl (St:ByteArray->PS->PR PS RS) (k:Nat):HdP:=⟨(55,localG 70 (uOf dS encR (spU St)))::Ga,[],[],[((31,0),qZ AB (gB St k))],[],0,55::[185,84,28,29,52,27]⟩
theorem xBl {St:ByteArray->PS->PR PS RS} (hS:jw Tryz.prog 55 (localG 70 (uOf dS encR (spU St)))) (k:Nat):XOk Tryz.prog (XBl St k):=(xBk hS).lxCons ((jnR hS k).lx aB)
def jgh:List RS->Val
 | []=>Val.zero
 | x::l'=>Jl 1 (Val.ofFlat 8 x.cells) l'
def t35 (St:ByteArray->PS->PR PS RS) (k:Nat) (s:ByteArray) (p:PS):Tree (Out × List CV) :=
 nxT () (qN (MP s) JR p) (fun _ p1=>.need (Nat.ble (0+k) y3) (nxT [] (zW (MP s) (St s) k p1) (fun l p2=>.br l.isEmpty (.leaf (.ret (.one (.c .nils)),qM s p2)) (.leaf (.ret (.one (.c (.sl (jl 1) l.length (jgh l)))),qM s p2))) qk)) qk
theorem jj5 (St:ByteArray->PS->PR PS RS) (k:Nat) (s t:ByteArray) (n a:Int):kC Tryz.prog HBk (XBl St k) 10 31 70 [] [.str s,.int .i64 n,.str t,.int .i64 a]=t35 St k s ⟨n,t,a⟩:=by kernel_rfl
theorem NQ:∀ (l:List RS) (n:Nat) (ρ:Val) (i:Nat),(i<n->(Jl n ρ l).at i=ρ.at i)∧(∀ x,n<=i->nth l (i - n)=some x->(Jl n ρ l).at i=(Val.ofFlat 8 x.cells).at 0)
 | [],n,ρ,i=>⟨fun _=>rfl,fun x _ h=>by simp [nth] at h⟩
 | y :: l, n, ρ, i => by
   obtain ⟨h1,h2⟩:=NQ l (n+1) (LO n ρ y) i;have hcat:∀ j,(LO n ρ y).at j=yH (Nat.blt j n) (ρ.at j) ((Val.ofFlat 8 y.cells).at (j - n)):=fun _=>rfl;refine ⟨fun hi => ?_,fun x hi hx => ?_⟩
   ·show (Jl (n+1) (LO n ρ y) l).at i=_;rw [h1 (by omega),hcat,show Nat.blt i n=true from Nat.blt_eq.mpr hi]
    rfl
   ·show (Jl (n+1) (LO n ρ y) l).at i=_;by_cases he:i=n
    ·subst he;rw [h1 (by omega),hcat]
     rw [Nat.sub_self] at hx ⊢;cases hx
     have hb:Nat.blt i i=false:=by
      cases hh:Nat.blt i i
      ·rfl
      ·have:=Nat.blt_eq.mp hh;omega
     rw [hb];rfl
    ·refine h2 x (by omega) ?_
     rw [show i - n=(i - (n+1))+1 by omega] at hx
     exact hx
theorem Fp {α β:Type} (f:α->List β) (m:Nat) (hf:∀ x,(f x).length=m):∀ (l:List α) (i k:Nat) (x:α),nth l i=some x->k<m->nth (l.flatMap f) (i*m+k)=nth (f x) k
 | [],i,k,x,h,_=>by simp [nth] at h
 | y :: l, 0, k, x, h, hk => by
   simp only [nth,sIq] at h;subst h;rw [List.flatMap_cons,Nat.zero_mul,Nat.zero_add];exact yE _ _ _ (by rw [hf];exact hk)
 | y :: l, i + 1, k, x, h, hk => by
   rw [List.flatMap_cons,jd,List.getElem?_append_right (by rw [hf];rw [Nat.succ_mul];omega),hf,← jd]
   rw [show (i+1)*m+k - m=i*m+k by rw [Nat.succ_mul];omega]
   exact Fp f m hf l i k x h hk
theorem jjg (l:List RS) (i k:Nat) (x:RS) (h:nth l i=some x) (hk:k<8):((jN l).at i).at k=((Val.ofFlat 8 x.cells).at 0).at k:=by
 show (match nth (l.flatMap RS.cells) (i*8+k) with | some x=>Val.ofC x | none=>Val.zero)=(match nth x.cells (0*8+k) with | some x=>Val.ofC x | none=>Val.zero)
 rw [Fp RS.cells 8 (fun _=>rfl) l i k x h hk,Nat.zero_mul,Nat.zero_add]
theorem jiM (l:List RS):leA (.one (.c (.sl (jl 1) l.length (jgh l)))) (jay l):=by
 refine Y6 (.c (Nm fun i f s hi hs => ?_));obtain ⟨x,hx⟩:=qV l i hi;have hf:f<8:=jq hs;rw [jjg l i f x hx hf];cases l with
 | nil=>simp [nth] at hx
 | cons y l =>
   show cellOf s (((Jl 1 (Val.ofFlat 8 y.cells) l).at i).at f)=_;obtain ⟨h1,h2⟩:=NQ l 1 (Val.ofFlat 8 y.cells) i;cases i with
  | zero =>
    cases hx;rw [h1 (by omega)]
  | succ i=>rw [h2 x (by omega) hx]
abbrev jmJ (St:ByteArray->PS->PR PS RS) (k:Nat) (s:ByteArray) (p:PS):PR PS (List RS):=Yk (MP s) (St s) k p
theorem joU {St:ByteArray->PS->PR PS RS} (hS:jw Tryz.prog 55 (localG 70 (uOf dS encR (spU St)))) (k:Nat) (hk:k<=y3):jw Tryz.prog 31 (localG 70 (uOf [] jay (spU (jmJ St k)))):=V5 hBk (xBl hS k) 10 31 fun s n t a=>by
 rw [jj5];refine Tells.bind fun _ p1=>Tells.nd (Nat.ble_eq.mpr (by omega)) ?_
 have:=Tells.bind (d:=([]:List RS)) (enc:=jay) (s:=s) (x:=zW (MP s) (St s) k p1) (K:=fun l p2=>.br l.isEmpty (.leaf (.ret (.one (.c .nils)),qM s p2)) (.leaf (.ret (.one (.c (.sl (jl 1) l.length (jgh l)))),qM s p2))) (f:=fun l p2=>.ret l p2) fun l p2=>by
  cases l with
  | nil=>exact ⟨_,rfl,.ret (Y6 (.c fun _ _ _ h=>by cases h;exact .slnil)) LeL.refl rfl⟩
  | cons x l=>exact ⟨_,rfl,.ret (jiM (x::l)) LeL.refl rfl⟩
 cases hx:zW (MP s) (St s) k p1 with
 | stuck=>exact trivial
 | ret v q=>rw [hx] at this;exact this
 | pan b=>rw [hx] at this;exact this
noncomputable abbrev H88:Hd:=⟨[pF 27,pF 28,pF 29,pF 31,pF 32,pF 52,pF 82,pF 83,pF 84],[(54,nG G87)],[],[]⟩
theorem h88:HdOk Tryz.prog H88:=((((((((((HdOk.nil.ucCons p87).pF 84).pF 83).pF 82).pF 52).pF 32).pF 31).pF 29).pF 28).pF 27)
abbrev UBk (B:ByteArray->PS->PR PS (List RS)):=uOf [] jay (spU B)
abbrev X88 (E:ByteArray->PS->PR PS RX) (B:ByteArray->PS->PR PS (List RS)) (lx:List ((Nat × Nat) × (Nat->St->Tree (XP × St)))):HdP :=
 ⟨(83,localG 70 (UO E))::(31,localG 70 (UBk B))::(82,localG 70 jkV)::Ga,[],[],lx,[],0,83::31::82::[185,84,28,29,52,27]⟩
theorem x88 {E:ByteArray->PS->PR PS RX} {B:ByteArray->PS->PR PS (List RS)} (hE:jw Tryz.prog 83 (localG 70 (UO E))) (hB:jw Tryz.prog 31 (localG 70 (UBk B))):XOk Tryz.prog (X88 E B []) :=
 (((UL 0).loCons jny (LocFn.localG _ _)).loCons hB (LocFn.localG _ _)).loCons hE (LocFn.localG _ _)
def jmb:List CV:=[.any,.any,.any,.any,.any,.any,.any,.any]
def Hy (cs:List CV):Bool:=cs.all closedC&&Nat.beq cs.length 8&&!je cs
theorem jgP {cs:List CV} (h:Hy cs=true):cs.all closedC=true∧je cs=false∧LeL cs jmb:=by
 simp only [Hy,aTq,Bool.not_eq_true'] at h;obtain ⟨⟨h1,h2⟩,h3⟩:=h;have h2:=Nat.eq_of_beq_eq_true h2;refine ⟨h1,h3,?_⟩
 match cs,h2 with
 | [a,b,c,d,e,f,g,i],_=>exact .cons zC (.cons zC (.cons zC (.cons zC (.cons zC (.cons zC (.cons zC (.cons zC .nil)))))))
abbrev WW:=(ByteArray × Int) × (Nat × Val)
abbrev CW:=CP × WW
abbrev DW:=CW ⊕ WW
def jfd (kd:ByteArray) (at_:Int):List CV:=[.str kd,.os 3 1,.str (bs []),.int .i64 0,.nils,.nils,.nils,.int .i64 at_]
def jaF (c0:List CV) (w:WW):Mem:=[some (70,c0),some (96,jmb),some (96,jfd w.1.1 w.1.2),some (9,[.row false [.str] w.2.1 w.2.2])]
def slW:List (Nat × AV):=[(0,.one (.c (.ptr 0 0))),(2,.one (.c (.ptr 1 0))),(3,.one (.c (.ptr 2 0)))]
def SW (c:CW):St:=mkS 99 slW (jaF (qM c.1.1 c.1.2) c.2)
def SWE:DW->St
 | .inl c=>SW c
 | .inr w=>mkS 99 slW (jaF Jz w)
def O9:List (Nat × AV)->Mem->Option (List CV × WW)
 | [(0, .one (.c (.ptr 0 0))), (2, .one (.c (.ptr 1 0))), (3, .one (.c (.ptr 2 0)))], [some (70, c0), some (96, c1), some (96, [.str kd, .os 3 1, .str z, .int .i64 zz, .nils, .nils, .nils, .int .i64 a]), some (9, [.row false [.str] n ρ])] =>
   if Hy c1&&jb z (bs [])&&decide (zz=0) then some (c0,(kd,a),(n,ρ)) else none
 | _,_=>none
def jgc (l:List (Nat × AV)) (m:Mem):Option CW:=match O9 l m with
 | some (c0,w)=>(match W7 c0 with | some p=>some (p,w) | none=>none)
 | none=>none
def jat (l:List (Nat × AV)) (m:Mem):Option DW:=match O9 l m with
 | some (c0,w)=>(match W7 c0 with | some p=>some (.inl (p,w)) | none=>if HG c0 then some (.inr w) else none)
 | none=>none
theorem GO {l:List (Nat × AV)} {m:Mem} {c0:List CV} {w:WW} (h:O9 l m=some (c0,w)):l=slW∧∃ c1,Hy c1=true∧m=[some (70,c0),some (96,c1),some (96,jfd w.1.1 w.1.2),some (9,[.row false [.str] w.2.1 w.2.2])]:=by
 unfold O9 at h;split at h
 ·split at h
  ·rename_i hc;simp only [aTq,decide_eq_true_eq] at hc;obtain ⟨⟨h1,h2⟩,h3⟩:=hc;have h2:=QP h2;subst h2;subst h3;cases h;exact ⟨rfl,_,h1,rfl⟩
  ·cases h
 ·cases h
theorem NJ {c0 c1:List CV} {w:WW} (h1:Hy c1=true):∀ (P:Program) F W bs,MemRel P F W bs [some (70,c0),some (96,c1),some (96,jfd w.1.1 w.1.2),some (9,[.row false [.str] w.2.1 w.2.2])]->MemRel P F W bs (jaF c0 w):=by
 obtain ⟨a1,a2,a3⟩:=jgP h1;exact kS (b:=1) rfl a2 a1 a3 rfl rfl
theorem jio:∀ l m c,jgc l m=some c->StWk (mkS 99 l m) (SW c):=by
 intro l m c h;unfold jgc at h;split at h
 ·rename_i c0 w hw;obtain ⟨rfl,c1,h1,rfl⟩:=GO hw;split at h
  ·rename_i p hp;cases h;rw [JF hp];exact kz (.cons leAB.refl (.cons leAB.refl (.cons leAB.refl .nil))) (NJ h1)
  ·cases h
 ·cases h
theorem jfh:∀ l m c,jat l m=some c->StWk (mkS 99 l m) (SWE c):=by
 intro l m c h;unfold jat at h;split at h
 ·rename_i c0 w hw;obtain ⟨rfl,c1,h1,rfl⟩:=GO hw;split at h
  ·rename_i p hp;cases h;rw [JF hp];exact kz (.cons leAB.refl (.cons leAB.refl (.cons leAB.refl .nil))) (NJ h1)
  ·split at h
   ·rename_i h2;cases h;obtain ⟨b1,b2,b3⟩:=BM h2;refine kz (.cons leAB.refl (.cons leAB.refl (.cons leAB.refl .nil))) fun P F W bs hm => ?_;exact kS (b:=0) (m:=jaF c0 w) rfl b2 b1 b3 rfl rfl P F W bs (NJ h1 P F W bs hm)
   ·cases h
 ·cases h
def AW:Sx.Frame CW DW:=⟨3,99,[0,2,3],jgc,SW,[0,2,3],jat,SWE⟩
theorem aW:AW.Ok:=⟨jio,jfh⟩
def rW (s:ByteArray) (g:CW->Tree (XP × DW)) (w:WW) (p:PS):Tree (XP × DW) :=
 let pn:=fun a=>Tree.leaf (XP.pan (Qg a),Sum.inr w)
 nxT false (qC (MP s) ql p) (fun c p1=>.br (!c) (.need (obD (jF p1.tx)) (nxT (bs []) (qD (MP s) (obV (jF p1.tx)) p1)
  (fun x p2=>.need (Nat.ble ((w.2.1+1)*16) 140737488355328) (g ((s,p2),w.1,(w.2.1+1,Val.cat w.2.1 w.2.2 (yA x))))) pn)) (.leaf (.exit 1,.inl ((s,p1),w)))) pn
theorem jnI (E : ByteArray -> PS -> PR PS RX) (B : ByteArray -> PS -> PR PS (List RS)) (g : CW -> Tree (XP × DW)) (s t kd : ByteArray) (n a at_ : Int) (m : Nat) (ρ : Val) :
  jQ AW Tryz.prog H88 (X88 E B []) 10 55 0 g ((s,⟨n,t,a⟩),(kd,at_),(m,ρ))=rW s g ((kd,at_),(m,ρ)) ⟨n,t,a⟩:=by kernel_rfl
def U2:Nat->Val->List ByteArray->Val
 | _,ρ,[]=>ρ
 | n,ρ,w::l=>U2 (n+1) (Val.cat n ρ (yA w)) l
def Uy (w:WW) (l:List ByteArray):WW:=(w.1,(w.2.1+l.length,U2 w.2.1 w.2.2 l))
def jhb (w:WW) (x:ByteArray):WW:=(w.1,(w.2.1+1,Val.cat w.2.1 w.2.2 (yA x)))
theorem Hi (w:WW) (x:ByteArray) (l:List ByteArray):Uy w (x::l)=Uy (jhb w x) l:=by
 obtain ⟨w1,n,ρ⟩:=w;show (_,(_,_))=(_,(_,_));simp only [U2,List.length_cons,jhb];rw [show n+(l.length+1)=n+1+l.length by omega]
def GX (s:ByteArray):Nat->PS->List ByteArray
 | 0,_=>[]
 | k+1,p=>match qC (MP s) ql p with
  | .ret false p1=>(match kT (MP s) p1 with
   | .ret x p2=>x::GX s k p2
   | _=>[])
  | _=>[]
def gW (k:Nat) (c:CW):Tree (XP × DW) :=
 .need (Nat.ble (c.2.2.1+k) y3) (nxT [] (ye (MP c.1.1) k c.1.2) (fun l p1=>.leaf (.exit 1,.inl ((c.1.1,p1),Uy c.2 l))) (fun a=>.leaf (.pan (Qg a),.inr (Uy c.2 (GX c.1.1 k c.1.2)))))
theorem Tq (k : Nat) (s : ByteArray) (p : PS) (w : WW) : (gW k ((s, p), w)).sel = bif Nat.ble (w.2.1 + k) y3 then (match ye (MP s) k p with
  | .stuck=>none
  | .ret l q=>some (.exit 1,.inl ((s,q),Uy w l))
  | .pan a=>some (.pan (Qg a),.inr (Uy w (GX s k p)))) else none:=by
 unfold gW;rw [jG];simp only;cases Nat.ble (w.2.1+k) y3 with
 | false=>rfl
 | true =>
   simp only [cond_true];cases ye (MP s) k p<;>rfl
theorem stepW (E:ByteArray->PS->PR PS RX) (B:ByteArray->PS->PR PS (List RS)) (k:Nat) (c:CW) (x:XP × DW) (h:(gW (k+1) c).sel=some x):(jQ AW Tryz.prog H88 (X88 E B []) 10 55 0 (gW k) c).sel=some x:=by
 obtain ⟨⟨s,⟨n,t,a⟩⟩,⟨⟨kd,at_⟩,⟨m,ρ⟩⟩⟩:=c;rw [jnI];rw [Tq] at h
 have hb:Nat.ble (m+(k+1)) y3=true:=by
  cases hh:Nat.ble (m+(k+1)) y3 with
  | true=>rfl
  | false=>simp only at h;rw [hh] at h;cases h
 simp only at h;rw [hb] at h;simp only [cond_true] at h;have hle:=Nat.le_of_ble_eq_true hb;have hb1:Nat.ble ((m+1)*16) 140737488355328=true:=Nat.ble_eq.mpr (by unfold y3 at hle;omega)
 unfold rW;unfold ye at h;simp only [GX] at h;cases e1:qC (MP s) ql ⟨n,t,a⟩ with
 | stuck=>rw [e1] at h;cases h
 | pan b=>rw [e1] at h;exact h
 | ret c p1 =>
   rw [e1] at h;rw [ZG];cases c with
  | true=>exact h
  | false =>
    simp only [PR.bind,cond_false] at h;rw [qg];simp only [Bool.not_false,cond_true];have hpl:kT (MP s) p1=match jF p1.tx with | none=>.stuck | some c=>qD (MP s) c p1:=rfl
    rw [hpl] at h;cases e0:jF p1.tx with
   | none=>rw [e0] at h;cases h
   | some ok =>
     rw [e0] at h;simp only at h;rw [jG];show (bif true then _ else _)=_;simp only [cond_true,obV];cases e2:qD (MP s) ok p1 with
    | stuck=>rw [e2] at h;cases h
    | pan b=>rw [e2] at h;exact h
    | ret y p2 =>
      rw [e2] at h;rw [ZG,jG,hb1];simp only [cond_true];rw [Tq];have hb2:Nat.ble (m+1+k) y3=true:=Nat.ble_eq.mpr (by omega)
      simp only;rw [hb2];simp only [cond_true];simp only [Hi] at h;cases e3:ye (MP s) k p2 with
     | stuck=>rw [e3] at h;cases h
     | pan b=>rw [e3] at h;exact h
     | ret l q =>
       rw [e3] at h;simp only [Hi] at h;exact h
theorem jnt {E:ByteArray->PS->PR PS RX} {B:ByteArray->PS->PR PS (List RS)} (hE:jw Tryz.prog 83 (localG 70 (UO E))) (hB:jw Tryz.prog 31 (localG 70 (UBk B))):∀ k,CoreOk Tryz.prog 55 0 3 SW SWE (gW k) :=
 CoreOk.fuel (A:=AW) aW h88 (x88 hE hB) 10 (fun c=>by
  obtain ⟨⟨s,p⟩,w⟩:=c;rw [Tq];cases Nat.ble (w.2.1+0) y3<;>rfl) (stepW E B)
theorem jo2 {E:ByteArray->PS->PR PS RX} {B:ByteArray->PS->PR PS (List RS)} (hE:jw Tryz.prog 83 (localG 70 (UO E))) (hB:jw Tryz.prog 31 (localG 70 (UBk B))) (k:Nat):XOk Tryz.prog (X88 E B [((55,0),qZ AW (gW k))]) :=
 (x88 hE hB).lxCons ((jnt hE hB k).lx aW)
def lfS (cs:List CV) (s:ByteArray) (p:PS):Tree (Out × List CV):=.leaf (.ret (.one (.agg cs)),qM s p)
def blC (l:List RS):CV:=.sl (jl 1) l.length (jN l)
def t88 (E:ByteArray->PS->PR PS RX) (B:ByteArray->PS->PR PS (List RS)) (k:Nat) (s:ByteArray) (p:PS):Tree (Out × List CV) :=
 let K:CV:=.str p.tx
 let A:CV:=.int .i64 p.pos
 let z:List CV:=[.str (bs []),.int .i64 0,.nils]
 let DO:=nxT () (Jd s p) (fun _ p1=>nxT [] (zH (MP s) p1) (fun w p2=>nxT false (qC (MP s) ar p2) (fun c p3 =>
  .br c (nxT [] (B s p3) (fun l p4=>nxT () (qN (MP s) ql p4) (fun _ p5=>lfS ([K,.sl [.str] w.length (zj w)]++z++[blC l,.nils,A]) s p5) qk) qk)
   (nxT () (qN (MP s) ql p3) (fun _ p4=>lfS ([K,.sl [.str] w.length (zj w)]++z++[.nils,.nils,A]) s p4) qk)) qk) qk) qk
 let IF:=nxT () (Jd s p) (fun _ p1=>nxT dX (E s p1) (fun e p2=>nxT [] (B s p2) (fun l p3=>nxT false (qC (MP s) yc p3) (fun c p4 =>
  .br c (nxT [] (B s p4) (fun r p5=>lfS ([K,.nils]++e.cells++[blC l,blC r,A]) s p5) qk) (lfS ([K,.nils]++e.cells++[blC l,.nils,A]) s p4)) qk) qk) qk) qk
 let REP:=nxT () (Jd s p) (fun _ p1=>nxT 0 (yw (MP s) 99 p1) (fun n p2=>nxT [] (B s p2) (fun l p3=>lfS [K,.nils,.str j8,.int .i64 n,.nils,blC l,.nils,A] s p3) qk) qk) qk
 let REQ:=nxT () (Jd s p) (fun _ p1=>nxT dX (E s p1) (fun e p2=>nxT () (qN (MP s) ql p2) (fun _ p3=>lfS ([K,.nils]++e.cells++[.nils,.nils,A]) s p3) qk) qk) qk
 let SAY:=nxT () (Jd s p) (fun _ p1=>.need (obD (jF p1.tx)) (nxT (bs []) (qD (MP s) (obV (jF p1.tx)) p1) (fun w p2=>.need (Nat.ble (1+k) y3) (nxT [] (ye (MP s) k p2)
  (fun l p3=>lfS ([K,.sl [.str] (1+l.length) (U2 1 (yA w) l)]++z++[.nils,.nils,A]) s p3) qk)) qk)) qk
 .br (jb p.tx wDo) DO (.br (jb p.tx wIf) IF (.br (jb p.tx jK) REP (.br (jb p.tx jT) REQ (.br (jb p.tx z6) SAY (qk p.pos)))))
theorem jkT (E : ByteArray -> PS -> PR PS RX) (B : ByteArray -> PS -> PR PS (List RS)) (k : Nat) (s t : ByteArray) (n a : Int) :
  kC Tryz.prog H88 (X88 E B [((55,0),qZ AW (gW k))]) 10 55 70 [] [.str s,.int .i64 n,.str t,.int .i64 a]=t88 E B k s ⟨n,t,a⟩:=by kernel_rfl
end Go.Proofs.YtiefjlcakpdfeaaGreatDoor