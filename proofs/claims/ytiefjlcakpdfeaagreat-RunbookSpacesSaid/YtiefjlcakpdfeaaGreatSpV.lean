/-
 Part SpV of the proof: RbK EngPv RbN RbO RbP.
-/
import Derived.Test.YtiefjlcakpdfeaaGreatSpU
import Derived.Test.YtiefjlcakpdfeaaGreatSpT
namespace Go.Proofs.YtiefjlcakpdfeaaGreat
open Go Go.Sx Go.RowKit Rb
set_option maxRecDepth 100000
def panC (a:Int):Tree (XP × DE):=.leaf (.pan (panV a),none)
def retC (s:ByteArray) (e:RX) (p:PS):Tree (XP × DE):=.leaf (.ret,some ((s,p),e))
def TellsC (T:Tree (XP × DE)) (s:ByteArray):PR PS RX → Prop
 | .stuck => True
 | .ret v p => T.sel = some (.ret,some ((s,p),v))
 | .pan a => T.sel = some (.pan (panV a),none)
theorem TellsC.bind {α:Type} {d:α} {x:PR PS α} {K:α → PS → Tree (XP × DE)} {s:ByteArray} {f:α → PS → PR PS RX} (h:∀ v p,TellsC (K v p) s (f v p)):TellsC (nxT d x K panC) s (x.bind f):=by
 cases x with
 | stuck => exact trivial
 | pan a => rfl
 | ret v p =>
   have:=h v p
   show TellsC _ s (f v p)
   cases hf:f v p with
  | stuck => exact trivial
  | ret w q => rw [hf] at this; exact this
  | pan a => rw [hf] at this; exact this
theorem TellsC.cond {c:Bool} {A B:Tree (XP × DE)} {s:ByteArray} {x y:PR PS RX} (h1:TellsC A s x) (h2:TellsC B s y):TellsC (.br c A B) s (bif c then x else y):=by
 cases c
 ·show TellsC _ s y
  cases y <;> exact h2
 ·show TellsC _ s x
  cases x <;> exact h1
theorem TellsC.br1 {c:Bool} {A B:Tree (XP × DE)} {s:ByteArray} {x:PR PS RX} (hc:c = true) (h:TellsC A s x):TellsC (.br c A B) s x:=by
 subst hc
 cases x <;> exact h
theorem TellsC.br0 {c:Bool} {A B:Tree (XP × DE)} {s:ByteArray} {x:PR PS RX} (hc:c = false) (h:TellsC B s x):TellsC (.br c A B) s x:=by
 subst hc
 cases x <;> exact h
theorem TellsC.nd {c:Bool} {A:Tree (XP × DE)} {s:ByteArray} {x:PR PS RX} (hc:c = true) (h:TellsC A s x):TellsC (.need c A) s x:=by
 subst hc
 cases x <;> exact h
def rCh (s:ByteArray) (os:List ByteArray) (O:ByteArray → PS → PR PS RX) (g:CE → Tree (XP × DE)) (e:RX):Nat → Nat → PS → Tree (XP × DE)
 | 0,_,_ => .fail
 | k + 1, j, p => .br (lt (j : Int) (toInt64 os.length)) (.need (inRange (j : Int) os.length) (nxT false (takeM (MP s) ((((wordsV os).at j).at 0).S []) p)
   (fun c p1 => .br c (nxT dX (O s p1) (fun x p2 => g ((s,p2),exR ((((wordsV os).at j).at 0).S []) 0 [e,x])) panC) (rCh s os O g e k (j + 1) p1)) panC)) (retC s e p)
theorem rCh_tells {s : ByteArray} {os : List ByteArray} (hos : os.length ≤ 100) {O : ByteArray → PS → PR PS RX} {g : CE → Tree (XP × DE)} {G : RX → PS → PR PS RX} (hg : ∀ e p, TellsC (g ((s, p), e)) s (G e p)) (e : RX) :
  ∀ (r:List ByteArray) (j k:Nat) (p:PS),os.drop j = r → j + r.length = os.length → r.length < k → TellsC (rCh s os O g e k j p) s (tryM (MP s) AR (O s) G e r p)
 | [], j, k, p, hd, hj, hk => by
   obtain ⟨k,rfl⟩ : ∃ k',k = k' + 1:=⟨k - 1,by omega⟩
   refine TellsC.br0 ?_ rfl
   unfold lt toInt64
   simp at hj ⊢
   omega
 | o :: r, j, k, p, hd, hj, hk => by
   obtain ⟨k,rfl⟩ : ∃ k',k = k' + 1:=⟨k - 1,by omega⟩
   obtain ⟨h1,h2⟩:=nth_drop' os j o r hd
   have hlen:j < os.length:=nth_lt h1
   have hw:(((wordsV os).at j).at 0).S [] = o:=by rw [wordsV_at os j o h1]; rfl
   refine TellsC.br1 (by unfold lt toInt64; simp; omega) (TellsC.nd (by unfold inRange le lt toInt64; simp; omega) ?_)
   rw [hw]
   refine TellsC.bind fun c p1 => TellsC.cond (TellsC.bind fun x p2 => hg _ _) ?_
   exact rCh_tells hos hg e r (j + 1) k p1 h2 (by simp only [List.length_cons] at hj; omega) (by simp only [List.length_cons] at hk; omega)
def chT (s:ByteArray) (r:PR PS RX):Tree (XP × DE):=nxT dX r (fun e p => retC s e p) panC
theorem chT_sel {s:ByteArray} {r:PR PS RX} {x:XP × DE} {T:Tree (XP × DE)} (h:(chT s r).sel = some x) (ht:TellsC T s r):T.sel = some x:=by
 cases r with
 | stuck => cases h
 | ret v p => rw [← h]; exact ht
 | pan a => rw [← h]; exact ht
theorem chT_tells {s:ByteArray} {r:PR PS RX}:TellsC (chT s r) s r:=by cases r <;> first | exact trivial | rfl
abbrev UO (O:ByteArray → PS → PR PS RX):=uOf dX encX (spU O)
abbrev XF (fo:Nat) (O:ByteArray → PS → PR PS RX) (sx:List (Nat × (Nat → St → Tree (XP × St)))):HdP:=⟨(fo,localG 82 (UO O)) :: pxs0,[],[],[],sx,3,fo :: [211,133,32,33,85,31]⟩
theorem pxs0_ok (r:Nat):XOk Tryz.prog ⟨pxs0,[],[],[],[],r,[211,133,32,33,85,31]⟩ :=
 ((((((XOk.nil.loCons px31 (LocFn.localG _ _)).loCons px85 (LocFn.localG _ _)).loCons px33 (LocFn.localG _ _)).loCons px32 (LocFn.localG _ _)).loCons px133 (LocFn.localG _ _)).loCons px211 (LocFn.localG _ _))
theorem xF {fo:Nat} {O:ByteArray → PS → PR PS RX} (hO:PxOne Tryz.prog fo (localG 82 (UO O))):XOk Tryz.prog (XF fo O []):=(pxs0_ok 3).loCons hO (LocFn.localG _ _)
def chS (os:List ByteArray) (O:ByteArray → PS → PR PS RX) (k:Nat) (s:ByteArray) (p:PS):PR PS RX:=(O s p).bind fun e p1 => chainM (MP s) AR os (O s) k e p1
def gCh (os:List ByteArray) (O:ByteArray → PS → PR PS RX) (k:Nat) (c:CE):Tree (XP × DE):=chT c.1.1 (chainM (MP c.1.1) AR os (O c.1.1) k c.2 c.1.2)
def uCh (os:List ByteArray) (O:ByteArray → PS → PR PS RX) (k:Nat) (c:CP):Tree (XP × DE):=chT c.1 (chS os O k c.1 c.2)
def tCh (S:ByteArray → PS → PR PS RX) (s:ByteArray) (p:PS):Tree (Out × List CV):=nxT dX (S s p) (fun e p1 => retT (encX e) s p1) panT
theorem one160:((nth Tryz.prog.funcs.toList 160).bind fun fn => fn.body.map fun c => (scopesOf c).length) = some 1:=by kernel_rfl
theorem lab160:(findLabel (scopeBody Tryz.prog 160).1 0).isSome = true:=by kernel_rfl
abbrev os197:List ByteArray:=[wPlus,wMinus]
theorem pass197_eq (O : ByteArray → PS → PR PS RX) (g : CE → Tree (XP × DE)) (s t o : ByteArray) (n a v : Int) (m : Nat) (ρ : Val) :
  passC (AL os197 204) Tryz.prog H204 (XF 204 O []) 10 160 0 g ((s,⟨n,t,a⟩),⟨o,v,m,ρ⟩) = rCh s os197 O g ⟨o,v,m,ρ⟩ 3 0 ⟨n,t,a⟩:=by kernel_rfl
theorem scope197_eq (O : ByteArray → PS → PR PS RX) (g : CE → Tree (XP × DE)) (s t : ByteArray) (n a : Int) :
  scopeC (AL os197 204) (AZ os197 204) Tryz.prog H204 (XF 204 O []) 10 160 0 g (s,⟨n,t,a⟩) = nxT dX (O s ⟨n,t,a⟩) (fun e p1 => rCh s os197 O g e 3 0 p1) panC:=by kernel_rfl
theorem pass197 {O:ByteArray → PS → PR PS RX} (hO:PxOne Tryz.prog 204 (localG 82 (UO O))):∀ k,PassCore Tryz.prog 160 0 3 (SL os197 204) SE (gCh os197 O k) :=
 PassCore.fuel (A:=AL os197 204) (aL os197 204) h204 (xF hO) 10 (fun _ => rfl) fun k c x h => by
  obtain ⟨⟨s,⟨n,t,a⟩⟩,⟨o,v,m,ρ⟩⟩:=c
  rw [pass197_eq]
  exact chT_sel h (rCh_tells (by decide) (fun e p => chT_tells) _ os197 0 3 _ rfl rfl (by decide))
theorem sx197 {O:ByteArray → PS → PR PS RX} (hO:PxOne Tryz.prog 204 (localG 82 (UO O))) (k:Nat):SxOne Tryz.prog 160 (loopC (AZ os197 204) (uCh os197 O (k + 1))) :=
 SxOne.core (A:=AL os197 204) (aL os197 204) (aZ os197 204) rfl rfl h204 (xF hO) 10 (pass197 hO k) (fun b x h => by
  obtain ⟨s,⟨n,t,a⟩⟩:=b
  rw [scope197_eq]
  refine chT_sel h ?_
  exact TellsC.bind fun e p1 => rCh_tells (by decide) (fun e p => chT_tells) _ os197 0 3 _ rfl rfl (by decide)) one160 lab160
abbrev XS197 (O:ByteArray → PS → PR PS RX) (k:Nat):HdP:=XF 204 O [(160,loopC (AZ os197 204) (uCh os197 O (k + 1)))]
theorem xs197 {O:ByteArray → PS → PR PS RX} (hO:PxOne Tryz.prog 204 (localG 82 (UO O))) (k:Nat):XOk Tryz.prog (XS197 O k):=(xF hO).sxCons (sx197 hO k)
theorem t197_eq (O:ByteArray → PS → PR PS RX) (k:Nat) (s t:ByteArray) (n a:Int):oneZ Tryz.prog H204 (XS197 O k) 10 197 82 [] [.str s,.int .i64 n,.str t,.int .i64 a] = tCh (chS os197 O (k + 1)) s ⟨n,t,a⟩:=by kernel_rfl
theorem px197 {O:ByteArray → PS → PR PS RX} (hO:PxOne Tryz.prog 204 (localG 82 (UO O))) (k:Nat):PxOne Tryz.prog 197 (localG 82 (UO (chS os197 O (k + 1)))):=px_U h204 (xs197 hO k) 10 197 fun s n t a => by
 rw [t197_eq]
 have:=Tells.bind (enc:=encX) (s:=s) (d:=dX) (x:=chS os197 O (k + 1) s ⟨n,t,a⟩) (K:=fun e p1 => retT (encX e) s p1) (f:=fun e p1 => .ret e p1) fun e p1 => Tells.ret
 cases hx:chS os197 O (k + 1) s ⟨n,t,a⟩ with
 | stuck => exact trivial
 | ret v q => rw [hx] at this; unfold tCh; rw [hx]; exact this
 | pan b => rw [hx] at this; unfold tCh; rw [hx]; exact this
abbrev os161:List ByteArray:=[wAnd]
theorem pass161_eq (O : ByteArray → PS → PR PS RX) (g : CE → Tree (XP × DE)) (s t o : ByteArray) (n a v : Int) (m : Nat) (ρ : Val) :
  passC (AL os161 180) Tryz.prog H204 (XF 180 O []) 10 160 0 g ((s,⟨n,t,a⟩),⟨o,v,m,ρ⟩) = rCh s os161 O g ⟨o,v,m,ρ⟩ 3 0 ⟨n,t,a⟩:=by kernel_rfl
theorem scope161_eq (O : ByteArray → PS → PR PS RX) (g : CE → Tree (XP × DE)) (s t : ByteArray) (n a : Int) :
  scopeC (AL os161 180) (AZ os161 180) Tryz.prog H204 (XF 180 O []) 10 160 0 g (s,⟨n,t,a⟩) = nxT dX (O s ⟨n,t,a⟩) (fun e p1 => rCh s os161 O g e 3 0 p1) panC:=by kernel_rfl
theorem pass161 {O:ByteArray → PS → PR PS RX} (hO:PxOne Tryz.prog 180 (localG 82 (UO O))):∀ k,PassCore Tryz.prog 160 0 3 (SL os161 180) SE (gCh os161 O k) :=
 PassCore.fuel (A:=AL os161 180) (aL os161 180) h204 (xF hO) 10 (fun _ => rfl) fun k c x h => by
  obtain ⟨⟨s,⟨n,t,a⟩⟩,⟨o,v,m,ρ⟩⟩:=c
  rw [pass161_eq]
  exact chT_sel h (rCh_tells (by decide) (fun e p => chT_tells) _ os161 0 3 _ rfl rfl (by decide))
theorem sx161 {O:ByteArray → PS → PR PS RX} (hO:PxOne Tryz.prog 180 (localG 82 (UO O))) (k:Nat):SxOne Tryz.prog 160 (loopC (AZ os161 180) (uCh os161 O (k + 1))) :=
 SxOne.core (A:=AL os161 180) (aL os161 180) (aZ os161 180) rfl rfl h204 (xF hO) 10 (pass161 hO k) (fun b x h => by
  obtain ⟨s,⟨n,t,a⟩⟩:=b
  rw [scope161_eq]
  refine chT_sel h ?_
  exact TellsC.bind fun e p1 => rCh_tells (by decide) (fun e p => chT_tells) _ os161 0 3 _ rfl rfl (by decide)) one160 lab160
abbrev XS161 (O:ByteArray → PS → PR PS RX) (k:Nat):HdP:=XF 180 O [(160,loopC (AZ os161 180) (uCh os161 O (k + 1)))]
theorem xs161 {O:ByteArray → PS → PR PS RX} (hO:PxOne Tryz.prog 180 (localG 82 (UO O))) (k:Nat):XOk Tryz.prog (XS161 O k):=(xF hO).sxCons (sx161 hO k)
theorem t161_eq (O:ByteArray → PS → PR PS RX) (k:Nat) (s t:ByteArray) (n a:Int):oneZ Tryz.prog H204 (XS161 O k) 10 161 82 [] [.str s,.int .i64 n,.str t,.int .i64 a] = tCh (chS os161 O (k + 1)) s ⟨n,t,a⟩:=by kernel_rfl
theorem px161 {O:ByteArray → PS → PR PS RX} (hO:PxOne Tryz.prog 180 (localG 82 (UO O))) (k:Nat):PxOne Tryz.prog 161 (localG 82 (UO (chS os161 O (k + 1)))):=px_U h204 (xs161 hO k) 10 161 fun s n t a => by
 rw [t161_eq]
 have:=Tells.bind (enc:=encX) (s:=s) (d:=dX) (x:=chS os161 O (k + 1) s ⟨n,t,a⟩) (K:=fun e p1 => retT (encX e) s p1) (f:=fun e p1 => .ret e p1) fun e p1 => Tells.ret
 cases hx:chS os161 O (k + 1) s ⟨n,t,a⟩ with
 | stuck => exact trivial
 | ret v q => rw [hx] at this; unfold tCh; rw [hx]; exact this
 | pan b => rw [hx] at this; unfold tCh; rw [hx]; exact this
abbrev os132:List ByteArray:=[wOr]
theorem pass132_eq (O : ByteArray → PS → PR PS RX) (g : CE → Tree (XP × DE)) (s t o : ByteArray) (n a v : Int) (m : Nat) (ρ : Val) :
  passC (AL os132 161) Tryz.prog H204 (XF 161 O []) 10 160 0 g ((s,⟨n,t,a⟩),⟨o,v,m,ρ⟩) = rCh s os132 O g ⟨o,v,m,ρ⟩ 3 0 ⟨n,t,a⟩:=by kernel_rfl
theorem scope132_eq (O : ByteArray → PS → PR PS RX) (g : CE → Tree (XP × DE)) (s t : ByteArray) (n a : Int) :
  scopeC (AL os132 161) (AZ os132 161) Tryz.prog H204 (XF 161 O []) 10 160 0 g (s,⟨n,t,a⟩) = nxT dX (O s ⟨n,t,a⟩) (fun e p1 => rCh s os132 O g e 3 0 p1) panC:=by kernel_rfl
theorem pass132 {O:ByteArray → PS → PR PS RX} (hO:PxOne Tryz.prog 161 (localG 82 (UO O))):∀ k,PassCore Tryz.prog 160 0 3 (SL os132 161) SE (gCh os132 O k) :=
 PassCore.fuel (A:=AL os132 161) (aL os132 161) h204 (xF hO) 10 (fun _ => rfl) fun k c x h => by
  obtain ⟨⟨s,⟨n,t,a⟩⟩,⟨o,v,m,ρ⟩⟩:=c
  rw [pass132_eq]
  exact chT_sel h (rCh_tells (by decide) (fun e p => chT_tells) _ os132 0 3 _ rfl rfl (by decide))
theorem sx132 {O:ByteArray → PS → PR PS RX} (hO:PxOne Tryz.prog 161 (localG 82 (UO O))) (k:Nat):SxOne Tryz.prog 160 (loopC (AZ os132 161) (uCh os132 O (k + 1))) :=
 SxOne.core (A:=AL os132 161) (aL os132 161) (aZ os132 161) rfl rfl h204 (xF hO) 10 (pass132 hO k) (fun b x h => by
  obtain ⟨s,⟨n,t,a⟩⟩:=b
  rw [scope132_eq]
  refine chT_sel h ?_
  exact TellsC.bind fun e p1 => rCh_tells (by decide) (fun e p => chT_tells) _ os132 0 3 _ rfl rfl (by decide)) one160 lab160
abbrev XS132 (O:ByteArray → PS → PR PS RX) (k:Nat):HdP:=XF 161 O [(160,loopC (AZ os132 161) (uCh os132 O (k + 1)))]
theorem xs132 {O:ByteArray → PS → PR PS RX} (hO:PxOne Tryz.prog 161 (localG 82 (UO O))) (k:Nat):XOk Tryz.prog (XS132 O k):=(xF hO).sxCons (sx132 hO k)
theorem t132_eq (O:ByteArray → PS → PR PS RX) (k:Nat) (s t:ByteArray) (n a:Int):oneZ Tryz.prog H204 (XS132 O k) 10 132 82 [] [.str s,.int .i64 n,.str t,.int .i64 a] = tCh (chS os132 O (k + 1)) s ⟨n,t,a⟩:=by kernel_rfl
theorem px132 {O:ByteArray → PS → PR PS RX} (hO:PxOne Tryz.prog 161 (localG 82 (UO O))) (k:Nat):PxOne Tryz.prog 132 (localG 82 (UO (chS os132 O (k + 1)))):=px_U h204 (xs132 hO k) 10 132 fun s n t a => by
 rw [t132_eq]
 have:=Tells.bind (enc:=encX) (s:=s) (d:=dX) (x:=chS os132 O (k + 1) s ⟨n,t,a⟩) (K:=fun e p1 => retT (encX e) s p1) (f:=fun e p1 => .ret e p1) fun e p1 => Tells.ret
 cases hx:chS os132 O (k + 1) s ⟨n,t,a⟩ with
 | stuck => exact trivial
 | ret v q => rw [hx] at this; unfold tCh; rw [hx]; exact this
 | pan b => rw [hx] at this; unfold tCh; rw [hx]; exact this
end Go.Proofs.YtiefjlcakpdfeaaGreat
namespace Go.Sx
open Go Go.RowKit
variable {P:Program}
def evFnB (P:Program) (H:Hd) (X:HdP) (n f:Nat) (args:List A1) (mem:Mem):Tree (Out × Mem) :=
 match nth P.funcs.toList f with
 | some fn => match fn.body with
  | some c => if Nat.ble args.length fn.ntmps then
    (evCodeP P H X (evFn P H n) (evFnP P H X n) f mem.length 0 c ⟨⟨args.map (fun a => ⟨[],.one a⟩) ++ List.replicate (fn.ntmps - args.length) ⟨[],.any⟩,mem⟩,[]⟩).bind fun x => match x.1 with
     | .exit _ => .fail
     | .goto _ => .fail
     | .pan y => leaveP P H X (evFn P H n) (evFnP P H X n) fn x.2.s x.2.dl (some y) x.2.s.mem
     | _ => leaveP P H X (evFn P H n) (evFnP P H X n) fn x.2.s x.2.dl none x.2.s.mem
    else .fail
  | none => .fail
 | none => .fail
theorem evFnB_ok {H:Hd} (hH:HdOk P H) {X:HdP} (hX:XOk P X) (n f:Nat):PxOne P f (evFnB P H X n f):=by
 intro args mem r mem' h F w bs vs hm hargs
 unfold evFnB at h
 split at h
 rotate_left
 ·simp [Tree.sel] at h
 rename_i fn hfn
 split at h
 rotate_left
 ·simp [Tree.sel] at h
 rename_i c hb
 split at h
 rotate_left
 ·simp [Tree.sel] at h
 rename_i hle
 obtain ⟨⟨x,s1⟩,h1,h2⟩:=sel_bind h
 rw [nth_eq,Array.getElem?_toList] at hfn
 have hst:=init_ok (nt:=fn.ntmps) hm hargs (by simpa using hle)
 refine calls_of_wp_defers hfn hb (evCodeP_ok hH.pc hX.rx hX.nc (evFn_ok hH n) (evFnP_ok hH hX n) f mem.length c 0 _ h1 (fun i b hh hi hk => hH.lh f fn c i b hh hfn hb hi (by simpa using hk)) (fun i b hh hi hk => hX.lx f fn c i b hh hfn hb hi (by simpa using hk)) (fun b hh hi hk => hX.sx f fn c b hh hfn hb hi hk) (Nat.le_of_eq hm.len.symm) (hst.toP .nil) fun F' w' bs' a' e he hs' hx => ?_)
 have hext:Ext bs.length F w bs F' w' bs':=he.weak (Nat.le_of_eq hm.len)
 have key:∀ (pan:Option CV) (u:FrameMode),(leaveP P H X (evFn P H n) (evFnP P H X n) fn s1.s s1.dl pan s1.s.mem).sel = some (r,mem') → UMode F' w' bs' pan u → Leaves P fn a'.tmps (fun e w' => ∃ F' bs',Ext bs.length F w bs F' w' bs' ∧ MemRel P F' w' bs' mem' ∧ r.Ends F' w' bs' e) a'.defers u w':=by
  intro pan u hl hu
  have:=leaveP_ok hH hX.xs (evFn_ok hH n) (evFnP_ok hH hX n) s1.dl pan s1.s.mem hl hs'.st hs'.ds hu
  exact leaveP_ok.leaves_mono (fun e w2 ⟨F2,bs2,he2,hm2,hr2⟩ => ⟨F2,bs2,hext.trans he2 hext.le,hm2,hr2⟩) _ _ _ this
 cases x with
 | normal => cases hx; exact key none .returning h2 rfl
 | ret => cases hx; exact key none .returning h2 rfl
 | pan y => obtain ⟨v,rfl,hv⟩:=hx; exact key (some y) _ h2 ⟨v,rfl,hv⟩
 | exit k => simp [Tree.sel] at h2
 | goto k => simp [Tree.sel] at h2
theorem localE_le {f : Nat} (T : TypeId) {ev : List A1 → Mem → Tree (Out × Mem)} (hev : PxOne P f ev) {u : List A1 → List CV → Tree (Out × List CV)}
  (hu:∀ rest cs r,(u rest cs).sel = some r → ∃ z,((ev (.c (.ptr 0 0) :: rest) [some (T,cs)]).bind (outZ T)).sel = some z ∧ LeOut z r):PxOne P f (localG T u):=by
 intro args mem r mem' h F w bs vs hm hargs
 unfold localG at h
 split at h
 rotate_left
 ·simp [Tree.sel] at h
 rename_i b rest
 split at h
 rotate_left
 ·simp [Tree.sel] at h
 rename_i T' cs hb
 split at h
 rotate_left
 ·simp [Tree.sel] at h
 rename_i hcond
 simp only [Bool.and_eq_true,beq_iff_eq,Bool.not_eq_true'] at hcond
 obtain ⟨⟨⟨rfl,hr⟩,hcs⟩,hrest⟩:=hcond
 obtain ⟨⟨o,ds⟩,h1,h2⟩:=sel_bind h
 simp only [Tree.sel,Option.some.injEq,Prod.mk.injEq] at h2
 obtain ⟨rfl,rfl⟩:=h2
 obtain ⟨⟨o',cs'⟩,h3,hle⟩:=hu rest cs _ h1
 obtain ⟨⟨o1,m1⟩,h4,h5⟩:=sel_bind h3
 cases hargs with
 | cons hp hvs =>
   rename_i v0 vs
   cases hp with
  | ptr hx =>
    rename_i x
    have hm1:=hm.lone hb hr hcs hx
    have hargs1:All2 (A1.Rel F w [x]) (.c (.ptr 0 0) :: rest) (.pointer (some ⟨x.p,0,none⟩) :: vs):=.cons (CV.Rel.ptr (bs:=[x]) (b:=0) (x:=x) rfl) (closed_args hvs hrest)
    have hbs:nth (setN mem b (some (T',cs'))) b = some (some (T',cs')):=by
     have hlt:=nth_lt hb
     rw [nth_eq,setN_eq]
     simp [hlt]
    refine (hev _ _ o1 m1 h4 F w [x] _ hm1 hargs1).mono fun e w' ⟨F',bs',hext,hm',hend⟩ => ?_
    unfold outZ at h5
    split at h5
    ·rename_i a hoa
     simp only at hoa
     subst hoa
     split at h5
     ·rename_i T2 cs2 hz
      split at h5
      ·rename_i hc
       simp only [Bool.and_eq_true,beq_iff_eq,Bool.not_eq_true'] at hc
       obtain ⟨⟨⟨⟨rfl,c1⟩,c2⟩,c3⟩,c4⟩:=hc
       simp only [Tree.sel,Option.some.injEq,Prod.mk.injEq] at h5
       obtain ⟨rfl,rfl⟩:=h5
       obtain ⟨v,rfl,hv⟩:=hend
       obtain ⟨F2,e2,hm2,r2⟩:=frzA_ok hm' hv
       have e3:=hext.trans e2 (hext.le)
       have hx0:nth bs' 0 = some x:=hext.pre 0 x (by simp) rfl
       obtain ⟨F3,e4,hm3⟩:=hm2.frzBlock hz c1 c2 hx0
       have hz3:nth (setN (frzCs (frzA m1 a).1 cs2).1 0 (some (T2,(frzCs (frzA m1 a).1 cs2).2))) 0 = some (some (T2,(frzCs (frzA m1 a).1 cs2).2)):=by
        have hlt:=nth_lt (frzCs_nth (l:=cs2) hz c1)
        rw [nth_eq,setN_eq]
        simp [hlt]
       have e5:=e3.trans e4 (hext.le)
       obtain ⟨he,hmm⟩:=hm.unlone hb hr hx e5 hm3 hz3 c2 c3
       cases hle with
       | ret hla hl hr' =>
         have hmm2:=hmm.cellsLe hbs c2 c3 hl hr'
         rw [setN_same] at hmm2
         exact ⟨F3,bs,he,hmm2,v,rfl,AV.Rel.grow ⟨Nat.le_refl _,fun _ _ h => h,fun _ _ _ => rfl,fun k p h => by simp [nth] at h⟩ (hla _ _ _ ((AV.Rel.grow e4.grow r2).closed c4))⟩
      ·simp [Tree.sel] at h5
     ·simp [Tree.sel] at h5
    ·rename_i y hoy
     simp only at hoy
     subst hoy
     split at h5
     ·rename_i T2 cs2 hz
      split at h5
      ·rename_i hc
       simp only [Bool.and_eq_true,beq_iff_eq,Bool.not_eq_true'] at hc
       obtain ⟨⟨rfl,c1⟩,c4⟩:=hc
       simp only [Tree.sel,Option.some.injEq,Prod.mk.injEq] at h5
       obtain ⟨rfl,rfl⟩:=h5
       obtain ⟨v,rfl,hv⟩:=hend
       have hm3:=hm'.anyBlock hz c1
       have hz3:nth (setN m1 0 (some (T2,cs2.map fun _ => CV.any))) 0 = some (some (T2,cs2.map fun _ => CV.any)):=by
        have hlt:=nth_lt hz
        rw [nth_eq,setN_eq]
        simp [hlt]
       obtain ⟨he,hmm⟩:=hm.unlone hb hr hx hext hm3 hz3 (anys_row cs2) (anys_closed cs2)
       cases hle with
       | pan hl hr' =>
         have hmm2:=hmm.cellsLe hbs (anys_row cs2) (anys_closed cs2) hl hr'
         rw [setN_same] at hmm2
         exact ⟨F',bs,he,hmm2,v,rfl,hv.closed c4⟩
      ·simp [Tree.sel] at h5
     ·simp [Tree.sel] at h5
def oneB (P:Program) (H:Hd) (X:HdP) (k f:Nat) (T:TypeId) (rest:List A1) (cs:List CV):Tree (Out × List CV) :=
 (evFnB P H X k f (.c (.ptr 0 0) :: rest) [some (T,cs)]).bind (outZ T)
end Go.Sx
namespace Go.Proofs.YtiefjlcakpdfeaaGreat
open Go Go.Sx Go.RowKit Rb
set_option maxRecDepth 100000
theorem px_stuck {P:Program} {α:Type} {d:α} {enc:α → AV} (f:Nat):PxOne P f (localG 82 (uOf d enc (spU fun _ _ => .stuck))):=by
 intro args mem r mem' h
 exfalso
 unfold localG at h
 split at h
 ·split at h
  ·split at h
   ·obtain ⟨y,h1,_⟩:=sel_bind h
    unfold uOf spU at h1
    split at h1
    ·split at h1 <;> cases h1
    ·cases h1
   ·cases h
  ·cases h
 ·cases h
theorem Tells.br1 {α:Type} {c:Bool} {A B:Tree (Out × List CV)} {enc:α → AV} {s:ByteArray} {x:PR PS α} (hc:c = true) (h:Tells A enc s x):Tells (.br c A B) enc s x:=by
 subst hc
 cases x <;> exact h
theorem Tells.br0 {α:Type} {c:Bool} {A B:Tree (Out × List CV)} {enc:α → AV} {s:ByteArray} {x:PR PS α} (hc:c = false) (h:Tells B enc s x):Tells (.br c A B) enc s x:=by
 subst hc
 cases x <;> exact h
theorem Tells.nd {α:Type} {c:Bool} {A:Tree (Out × List CV)} {enc:α → AV} {s:ByteArray} {x:PR PS α} (hc:c = true) (h:Tells A enc s x):Tells (.need c A) enc s x:=by
 subst hc
 cases x <;> exact h
theorem px_UB {P:Program} {α:Type} {H:Hd} {X:HdP} {d:α} {enc:α → AV} (hH:HdOk P H) (hX:XOk P X) (k f:Nat) {F:ByteArray → PS → PR PS α} (h:∀ s n t a,Tells (oneB P H X k f 82 [] [.str s,.int .i64 n,.str t,.int .i64 a]) enc s (F s ⟨n,t,a⟩)):PxOne P f (localG 82 (uOf d enc (spU F))) :=
 localE_le 82 (evFnB_ok hH hX k f) fun rest cs r hr => by
  unfold uOf at hr
  split at hr
  ·rename_i s n t a
   unfold spU at hr
   split at hr
   ·have ht:=h s n t a
    rcases asT_sel hr with ⟨v,p,hx,rfl⟩ | ⟨a',hx,rfl⟩
    ·rw [hx] at ht; exact ht
    ·rw [hx] at ht; exact ht
   ·cases hr
  ·cases hr
abbrev cmps:List ByteArray:=[wEq,wLt,wGt]
def rOne (s:ByteArray) (S:ByteArray → PS → PR PS RX) (e:RX):Nat → Nat → PS → Tree (Out × List CV)
 | 0,_,_ => .fail
 | k + 1, j, p => .br (lt (j : Int) (toInt64 cmps.length)) (.need (inRange (j : Int) cmps.length) (nxT false (takeM (MP s) ((((wordsV cmps).at j).at 0).S []) p)
   (fun c p1 => .br c (nxT dX (S s p1) (fun x p2 => retT (encX (exR ((((wordsV cmps).at j).at 0).S []) 0 [e,x])) s p2) panT) (rOne s S e k (j + 1) p1)) panT)) (retT (encX e) s p)
theorem rOne_tells {s : ByteArray} {S : ByteArray → PS → PR PS RX} (e : RX) : ∀ (r : List ByteArray) (j k : Nat) (p : PS), cmps.drop j = r → j + r.length = cmps.length → r.length < k →
  Tells (rOne s S e k j p) encX s (tryM (MP s) AR (S s) (fun x s3 => .ret x s3) e r p)
 | [], j, k, p, hd, hj, hk => by
   obtain ⟨k,rfl⟩ : ∃ k',k = k' + 1:=⟨k - 1,by omega⟩
   refine Tells.br0 ?_ Tells.ret
   unfold lt toInt64
   simp at hj ⊢
   omega
 | o :: r, j, k, p, hd, hj, hk => by
   obtain ⟨k,rfl⟩ : ∃ k',k = k' + 1:=⟨k - 1,by omega⟩
   obtain ⟨h1,h2⟩:=nth_drop' cmps j o r hd
   have hlen:j < cmps.length:=nth_lt h1
   have hlen3:j < 3:=hlen
   have h33:cmps.length = 3:=rfl
   have h00:([]:List ByteArray).length = 0:=rfl
   have hw:(((wordsV cmps).at j).at 0).S [] = o:=by rw [wordsV_at cmps j o h1]; rfl
   refine Tells.br1 (by unfold lt toInt64; simp; omega) (Tells.nd (by unfold inRange le lt toInt64; simp; omega) ?_)
   rw [hw]
   refine Tells.bind fun c p1 => Tells.cond (Tells.bind fun x p2 => Tells.ret) ?_
   exact rOne_tells e r (j + 1) k p1 h2 (by simp only [List.length_cons] at hj; omega) (by simp only [List.length_cons] at hk; omega)
abbrev X180 (One Sum:ByteArray → PS → PR PS RX):HdP:=⟨(180,localG 82 (UO One)) :: (197,localG 82 (UO Sum)) :: pxs0,[],[],[],[],4,180 :: 197 :: [211,133,32,33,85,31]⟩
theorem x180 {One Sum:ByteArray → PS → PR PS RX} (h1:PxOne Tryz.prog 180 (localG 82 (UO One))) (h2:PxOne Tryz.prog 197 (localG 82 (UO Sum))):XOk Tryz.prog (X180 One Sum) :=
 ((pxs0_ok 4).loCons h2 (LocFn.localG _ _)).loCons h1 (LocFn.localG _ _)
def t180 (One Sum:ByteArray → PS → PR PS RX) (s:ByteArray) (p:PS):Tree (Out × List CV) :=
 nxT false (takeM (MP s) wNot p) (fun c p1 => .br c (nxT dX (One s p1) (fun e p2 => retT (encX (exR wNot 0 [e])) s p2) panT) (nxT dX (Sum s p1) (fun e p2 => rOne s Sum e 4 0 p2) panT)) panT
theorem t180_eq (One Sum:ByteArray → PS → PR PS RX) (s t:ByteArray) (n a:Int):oneB Tryz.prog H204 (X180 One Sum) 10 180 82 [] [.str s,.int .i64 n,.str t,.int .i64 a] = t180 One Sum s ⟨n,t,a⟩:=by kernel_rfl
def oneS (One Sum:ByteArray → PS → PR PS RX) (s:ByteArray) (p:PS):PR PS RX :=
 (takeM (MP s) wNot p).bind fun c s1 => bif c then (One s s1).bind fun e s2 => .ret (AR.ex wNot 0 [e]) s2
  else (Sum s s1).bind fun e s2 => tryM (MP s) AR (Sum s) (fun x s3 => .ret x s3) e cmps s2
theorem px180 {One Sum:ByteArray → PS → PR PS RX} (h1:PxOne Tryz.prog 180 (localG 82 (UO One))) (h2:PxOne Tryz.prog 197 (localG 82 (UO Sum))):PxOne Tryz.prog 180 (localG 82 (UO (oneS One Sum))):=px_UB h204 (x180 h1 h2) 10 180 fun s n t a => by
 rw [t180_eq]
 exact Tells.bind fun c p1 => Tells.cond (Tells.bind fun e p2 => Tells.ret) (Tells.bind fun e p2 => rOne_tells e _ 0 4 p2 rfl rfl (by decide))
abbrev oneK (K d:Nat) (s:ByteArray) (p:PS):PR PS RX:=(exs (MP s) AR K d).1 p
abbrev exprK (K d:Nat) (s:ByteArray) (p:PS):PR PS RX:=(exs (MP s) AR K d).2 p
theorem pxEx (k:Nat):∀ d,PxOne Tryz.prog 180 (localG 82 (UO (oneK (k + 1) d))) ∧ PxOne Tryz.prog 132 (localG 82 (UO (exprK (k + 1) d)))
 | 0 => ⟨px_stuck 180,px_stuck 132⟩
 | d + 1 => by
   obtain ⟨h1,h2⟩:=pxEx k d
   have ha:=px204 h2
   have hs:=px197 ha k
   have ho:PxOne Tryz.prog 180 (localG 82 (UO (oneK (k + 1) (d + 1)))):=px180 h1 hs
   have hb:=px161 ho k
   exact ⟨ho,px132 hb k⟩
def encL (l:List RS):AV:=.one (.c (.sl (rtab 1) l.length (blkV l)))
def encR (x:RS):AV:=.one (.agg x.cells)
def dS:RS:=stR (bs []) [] dX [] [] 0
abbrev Row:=Option (Nat × Val)
def slR:Row → AV
 | none => .one (.c .nils)
 | some _ => .one (.c (.os 1 8))
def meR:Row → Mem
 | none => []
 | some (n,ρ) => [some (52,[.row false (rtab 1) n ρ])]
abbrev CB:=CP × Row
abbrev DB:=CB ⊕ Row
def SB (c:CB):St:=mkS 15 [(0,.one (.c (.ptr 0 0))),(3,slR c.2)] (some (82,cellsP c.1.1 c.1.2) :: meR c.2)
def SBP:DB → St
 | .inl c => SB c
 | .inr r => mkS 15 [(0,.one (.c (.ptr 0 0))),(3,slR r)] (some (82,anys4) :: meR r)
def getR:List (Nat × AV) → Mem → Option (List CV × Row)
 | [(0,.one (.c (.ptr 0 0))),(3,.one (.c .nils))],[some (82,c0)] => some (c0,none)
 | [(0,.one (.c (.ptr 0 0))),(3,.one (.c (.os 1 8)))],[some (82,c0),some (52,[.row false es n ρ])] => if shEq.shsEq es (rtab 1) then some (c0,some (n,ρ)) else none
 | _,_ => none
def getB (l:List (Nat × AV)) (m:Mem):Option CB:=match getR l m with
 | some (c0,r) => (match parC c0 with | some p => some (p,r) | none => none)
 | none => none
def getD (l:List (Nat × AV)) (m:Mem):Option DB:=match getR l m with
 | some (c0,r) => (match parC c0 with | some p => some (.inl (p,r)) | none => if flat4 c0 then some (.inr r) else none)
 | none => none
theorem getR_some {l:List (Nat × AV)} {m:Mem} {c0:List CV} {r:Row} (h:getR l m = some (c0,r)):l = [(0,.one (.c (.ptr 0 0))),(3,slR r)] ∧ m = some (82,c0) :: meR r:=by
 unfold getR at h
 split at h
 ·cases h; exact ⟨rfl,rfl⟩
 ·split at h
  ·rename_i hs
   cases h
   rw [shsEq_eq hs]
   exact ⟨rfl,rfl⟩
  ·cases h
 ·cases h
theorem getB_ok:∀ l m c,getB l m = some c → StWk (mkS 15 l m) (SB c):=by
 intro l m c h
 unfold getB at h
 split at h
 ·rename_i c0 r hr
  obtain ⟨rfl,rfl⟩:=getR_some hr
  split at h
  ·rename_i p hp
   cases h
   rw [parC_some hp]
   exact StWk.refl
  ·cases h
 ·cases h
theorem getD_ok:∀ l m c,getD l m = some c → StWk (mkS 15 l m) (SBP c):=by
 intro l m c h
 unfold getD at h
 split at h
 ·rename_i c0 r hr
  obtain ⟨rfl,rfl⟩:=getR_some hr
  split at h
  ·rename_i p hp
   cases h
   rw [parC_some hp]
   exact StWk.refl
  ·split at h
   ·rename_i h2
    cases h
    obtain ⟨b1,b2,b3⟩:=flat4_le h2
    exact mkS_wk (.cons leAB.refl (.cons leAB.refl .nil)) (mem_wk (b:=0) rfl b2 b1 b3 rfl rfl)
   ·cases h
 ·cases h
def AB:Sx.Frame CB DB:=⟨1,15,[0,3],getB,SB,[0,3],getD,SBP⟩
theorem aB:AB.Ok:=⟨getB_ok,getD_ok⟩
def cat1 (n:Nat) (ρ:Val) (x:RS):Val:=Val.cat n ρ (Val.ofFlat 8 x.cells)
def catAll:Nat → Val → List RS → Val
 | _,ρ,[] => ρ
 | n,ρ,x :: l => catAll (n + 1) (cat1 n ρ x) l
def rowAdd:Row → List RS → Row
 | some (n,ρ),l => some (n + l.length,catAll n ρ l)
 | none,[] => none
 | none,x :: l => some (1 + l.length,catAll 1 (Val.ofFlat 8 x.cells) l)
def rowN:Row → Nat
 | none => 0
 | some (n,_) => n
def rowOne:Row → RS → Row
 | some (n,ρ),x => some (n + 1,cat1 n ρ x)
 | none,x => some (1,Val.ofFlat 8 x.cells)
theorem rowAdd_cons (r:Row) (x:RS) (l:List RS):rowAdd r (x :: l) = rowAdd (rowOne r x) l:=by
 cases r with
 | none => rfl
 | some q =>
   obtain ⟨n,ρ⟩:=q
   show some _ = some _
   simp only [catAll,List.length_cons]
   rw [show n + (l.length + 1) = n + 1 + l.length by omega]
theorem rowAdd_nil (r:Row):rowAdd r [] = r:=by
 cases r with
 | none => rfl
 | some q => rfl
theorem rowN_one (r:Row) (x:RS):rowN (rowOne r x) = rowN r + 1:=by
 cases r with
 | none => rfl
 | some q => rfl
def itemsU (s:ByteArray) (St:ByteArray → PS → PR PS RS):Nat → PS → List RS
 | 0,_ => []
 | k + 1,p => match takeM (MP s) wEnd p with
  | .ret false p1 => (match St s p1 with
   | .ret x p2 => x :: itemsU s St k p2
   | _ => [])
  | _ => []
def outR (s:ByteArray) (r:Row) (l:List RS) (p:PS):Tree (XP × DB):=match r with
 | none => .br l.isEmpty (.leaf (.exit 0,.inl ((s,p),none))) (.leaf (.exit 0,.inl ((s,p),some (l.length,match l with | [] => Val.zero | x :: l' => catAll 1 (Val.ofFlat 8 x.cells) l'))))
 | some (n,ρ) => .leaf (.exit 0,.inl ((s,p),some (n + l.length,catAll n ρ l)))
theorem outR_sel (s:ByteArray) (r:Row) (l:List RS) (p:PS):(outR s r l p).sel = some (.exit 0,.inl ((s,p),rowAdd r l)):=by
 cases r with
 | none =>
   cases l with
  | nil => rfl
  | cons x l => show some _ = some _; simp only [rowAdd,List.length_cons]; rw [Nat.add_comm]
 | some q => rfl
def maxB:Nat:=549755813888
def gB (St:ByteArray → PS → PR PS RS) (k:Nat) (c:CB):Tree (XP × DB) :=
 .need (Nat.ble (rowN c.2 + k) maxB) (nxT [] (blockL (MP c.1.1) (St c.1.1) k c.1.2) (outR c.1.1 c.2) (fun a => .leaf (.pan (panV a),.inr (rowAdd c.2 (itemsU c.1.1 St k c.1.2)))))
noncomputable abbrev HBk:Hd:=⟨[lK,pF 32,pF 85,pF 88,pF 35],[],[],[]⟩
theorem hBk:HdOk Tryz.prog HBk:=HdOk.lK ((((HdOk.nil.pF 35).pF 88).pF 85).pF 32)
abbrev XBk (St:ByteArray → PS → PR PS RS):HdP:=⟨(88,localG 82 (uOf dS encR (spU St))) :: pxs0,[],[],[],[],0,88 :: [211,133,32,33,85,31]⟩
theorem xBk {St:ByteArray → PS → PR PS RS} (hS:PxOne Tryz.prog 88 (localG 82 (uOf dS encR (spU St)))):XOk Tryz.prog (XBk St):=(pxs0_ok 0).loCons hS (LocFn.localG _ _)
def rB (s:ByteArray) (St:ByteArray → PS → PR PS RS) (g:CB → Tree (XP × DB)) (r:Row) (p:PS):Tree (XP × DB) :=
 nxT false (takeM (MP s) wEnd p) (fun c p1 => .br (!c) (nxT dS (St s p1) (fun x p2 => .need (Nat.ble ((rowN r + 1) * 144) 140737488355328) (g ((s,p2),rowOne r x))) (fun a => .leaf (.pan (panV a),.inr r)))
  (.leaf (.exit 0,.inl ((s,p1),r)))) (fun a => .leaf (.pan (panV a),.inr r))
theorem rB_none (St:ByteArray → PS → PR PS RS) (g:CB → Tree (XP × DB)) (s t:ByteArray) (n a:Int):roundC AB Tryz.prog HBk (XBk St) 10 35 0 g ((s,⟨n,t,a⟩),none) = rB s St g none ⟨n,t,a⟩:=by kernel_rfl
theorem rB_some (St:ByteArray → PS → PR PS RS) (g:CB → Tree (XP × DB)) (s t:ByteArray) (n a:Int) (m:Nat) (ρ:Val):roundC AB Tryz.prog HBk (XBk St) 10 35 0 g ((s,⟨n,t,a⟩),some (m,ρ)) = rB s St g (some (m,ρ)) ⟨n,t,a⟩:=by kernel_rfl
theorem rB_eq (St:ByteArray → PS → PR PS RS) (g:CB → Tree (XP × DB)) (s:ByteArray) (p:PS) (r:Row):roundC AB Tryz.prog HBk (XBk St) 10 35 0 g ((s,p),r) = rB s St g r p:=by
 obtain ⟨n,t,a⟩:=p
 cases r with
 | none => exact rB_none St g s t n a
 | some q => obtain ⟨m,ρ⟩:=q; exact rB_some St g s t n a m ρ
theorem gB_sel (St : ByteArray → PS → PR PS RS) (k : Nat) (s : ByteArray) (p : PS) (r : Row) : (gB St k ((s, p), r)).sel = bif Nat.ble (rowN r + k) maxB then (match blockL (MP s) (St s) k p with
  | .stuck => none
  | .ret l q => some (.exit 0,.inl ((s,q),rowAdd r l))
  | .pan a => some (.pan (panV a),.inr (rowAdd r (itemsU s St k p)))) else none:=by
 unfold gB
 rw [sel_need]
 simp only
 cases Nat.ble (rowN r + k) maxB with
 | false => rfl
 | true =>
   simp only [cond_true]
   cases blockL (MP s) (St s) k p with
  | stuck => rfl
  | ret l q => exact outR_sel s r l q
  | pan a => rfl
theorem stepB (St:ByteArray → PS → PR PS RS) (k:Nat) (c:CB) (x:XP × DB) (h:(gB St (k + 1) c).sel = some x):(roundC AB Tryz.prog HBk (XBk St) 10 35 0 (gB St k) c).sel = some x:=by
 obtain ⟨⟨s,p⟩,r⟩:=c
 rw [rB_eq]
 rw [gB_sel] at h
 have hb:Nat.ble (rowN r + (k + 1)) maxB = true:=by
  cases hh:Nat.ble (rowN r + (k + 1)) maxB with
  | true => rfl
  | false => rw [hh] at h; cases h
 rw [hb] at h
 simp only [cond_true] at h
 have hle:=Nat.le_of_ble_eq_true hb
 have hb1:Nat.ble ((rowN r + 1) * 144) 140737488355328 = true:=Nat.ble_eq.mpr (by unfold maxB at hle; omega)
 unfold rB
 unfold blockL at h
 simp only [itemsU] at h
 cases e1:takeM (MP s) wEnd p with
 | stuck => rw [e1] at h; cases h
 | pan a =>
   rw [e1] at h
   simp only [PR.bind,rowAdd_nil] at h
   exact h
 | ret c p1 =>
   rw [e1] at h
   rw [nxT_ret]
   cases c with
  | true =>
    simp only [PR.bind,cond_true,rowAdd_nil] at h
    exact h
  | false =>
    simp only [PR.bind,cond_false] at h
    rw [sel_br]
    simp only [Bool.not_false,cond_true]
    cases e2:St s p1 with
   | stuck => rw [e2] at h; cases h
   | pan a =>
     rw [e2] at h
     simp only [rowAdd_nil] at h
     exact h
   | ret y p2 =>
     rw [e2] at h
     rw [nxT_ret,sel_need,hb1]
     simp only [cond_true]
     rw [gB_sel]
     have hb2:Nat.ble (rowN (rowOne r y) + k) maxB = true:=Nat.ble_eq.mpr (by rw [rowN_one]; omega)
     rw [hb2]
     simp only [cond_true]
     simp only [rowAdd_cons] at h
     cases e3:blockL (MP s) (St s) k p2 with
    | stuck => rw [e3] at h; cases h
    | pan a => rw [e3] at h; exact h
    | ret l q =>
      rw [e3] at h
      simp only [rowAdd_cons] at h
      exact h
theorem coreB {St:ByteArray → PS → PR PS RS} (hS:PxOne Tryz.prog 88 (localG 82 (uOf dS encR (spU St)))):∀ k,CoreOk Tryz.prog 35 0 1 SB SBP (gB St k) :=
 CoreOk.fuel (A:=AB) aB hBk (xBk hS) 10 (fun c => by
  obtain ⟨⟨s,p⟩,r⟩:=c
  rw [gB_sel]
  cases Nat.ble (rowN r + 0) maxB <;> rfl) (stepB St)
abbrev XBl (St:ByteArray → PS → PR PS RS) (k:Nat):HdP:=⟨(88,localG 82 (uOf dS encR (spU St))) :: pxs0,[],[],[((35,0),loopC AB (gB St k))],[],0,88 :: [211,133,32,33,85,31]⟩
theorem xBl {St:ByteArray → PS → PR PS RS} (hS:PxOne Tryz.prog 88 (localG 82 (uOf dS encR (spU St)))) (k:Nat):XOk Tryz.prog (XBl St k):=(xBk hS).lxCons ((coreB hS k).lx aB)
def catV:List RS → Val
 | [] => Val.zero
 | x :: l' => catAll 1 (Val.ofFlat 8 x.cells) l'
def t35 (St:ByteArray → PS → PR PS RS) (k:Nat) (s:ByteArray) (p:PS):Tree (Out × List CV) :=
 nxT () (expectM (MP s) wBegin p) (fun _ p1 => .need (Nat.ble (0 + k) maxB) (nxT [] (blockL (MP s) (St s) k p1) (fun l p2 => .br l.isEmpty (.leaf (.ret (.one (.c .nils)),cellsP s p2)) (.leaf (.ret (.one (.c (.sl (rtab 1) l.length (catV l)))),cellsP s p2))) panT)) panT
theorem t35_eq (St:ByteArray → PS → PR PS RS) (k:Nat) (s t:ByteArray) (n a:Int):oneZ Tryz.prog HBk (XBl St k) 10 35 82 [] [.str s,.int .i64 n,.str t,.int .i64 a] = t35 St k s ⟨n,t,a⟩:=by kernel_rfl
theorem catAll_at:∀ (l:List RS) (n:Nat) (ρ:Val) (i:Nat),(i < n → (catAll n ρ l).at i = ρ.at i) ∧ (∀ x,n ≤ i → nth l (i - n) = some x → (catAll n ρ l).at i = (Val.ofFlat 8 x.cells).at 0)
 | [],n,ρ,i => ⟨fun _ => rfl,fun x _ h => by simp [nth] at h⟩
 | y :: l, n, ρ, i => by
   obtain ⟨h1,h2⟩:=catAll_at l (n + 1) (cat1 n ρ y) i
   have hcat:∀ j,(cat1 n ρ y).at j = pickV (Nat.blt j n) (ρ.at j) ((Val.ofFlat 8 y.cells).at (j - n)):=fun _ => rfl
   refine ⟨fun hi => ?_,fun x hi hx => ?_⟩
   ·show (catAll (n + 1) (cat1 n ρ y) l).at i = _
    rw [h1 (by omega),hcat,show Nat.blt i n = true from Nat.blt_eq.mpr hi]
    rfl
   ·show (catAll (n + 1) (cat1 n ρ y) l).at i = _
    by_cases he:i = n
    ·subst he
     rw [h1 (by omega),hcat]
     rw [Nat.sub_self] at hx ⊢
     cases hx
     have hb:Nat.blt i i = false:=by
      cases hh:Nat.blt i i
      ·rfl
      ·have:=Nat.blt_eq.mp hh; omega
     rw [hb]
     rfl
    ·refine h2 x (by omega) ?_
     rw [show i - n = (i - (n + 1)) + 1 by omega] at hx
     exact hx
theorem flat_nth {α β:Type} (f:α → List β) (m:Nat) (hf:∀ x,(f x).length = m):∀ (l:List α) (i k:Nat) (x:α),nth l i = some x → k < m → nth (l.flatMap f) (i * m + k) = nth (f x) k
 | [],i,k,x,h,_ => by simp [nth] at h
 | y :: l, 0, k, x, h, hk => by
   simp only [nth,Option.some.injEq] at h
   subst h
   rw [List.flatMap_cons,Nat.zero_mul,Nat.zero_add]
   exact nth_append_lt _ _ _ (by rw [hf]; exact hk)
 | y :: l, i + 1, k, x, h, hk => by
   rw [List.flatMap_cons,nth_eq,List.getElem?_append_right (by rw [hf]; rw [Nat.succ_mul]; omega),hf,← nth_eq]
   rw [show (i + 1) * m + k - m = i * m + k by rw [Nat.succ_mul]; omega]
   exact flat_nth f m hf l i k x h hk
theorem blkV_at (l:List RS) (i k:Nat) (x:RS) (h:nth l i = some x) (hk:k < 8):((blkV l).at i).at k = ((Val.ofFlat 8 x.cells).at 0).at k:=by
 show (match nth (l.flatMap RS.cells) (i * 8 + k) with | some x => Val.ofC x | none => Val.zero) = (match nth x.cells (0 * 8 + k) with | some x => Val.ofC x | none => Val.zero)
 rw [flat_nth RS.cells 8 (fun _ => rfl) l i k x h hk,Nat.zero_mul,Nat.zero_add]
theorem catV_le (l:List RS):leA (.one (.c (.sl (rtab 1) l.length (catV l)))) (encL l):=by
 refine leA_one (.c (leC_ext fun i f s hi hs => ?_))
 obtain ⟨x,hx⟩:=nth_some_of_lt l i hi
 have hf:f < 8:=nth_lt hs
 rw [blkV_at l i f x hx hf]
 cases l with
 | nil => simp [nth] at hx
 | cons y l =>
   show cellOf s (((catAll 1 (Val.ofFlat 8 y.cells) l).at i).at f) = _
   obtain ⟨h1,h2⟩:=catAll_at l 1 (Val.ofFlat 8 y.cells) i
   cases i with
  | zero =>
    cases hx
    rw [h1 (by omega)]
  | succ i => rw [h2 x (by omega) hx]
abbrev blockS (St:ByteArray → PS → PR PS RS) (k:Nat) (s:ByteArray) (p:PS):PR PS (List RS):=blockM (MP s) (St s) k p
theorem px35 {St:ByteArray → PS → PR PS RS} (hS:PxOne Tryz.prog 88 (localG 82 (uOf dS encR (spU St)))) (k:Nat) (hk:k ≤ maxB):PxOne Tryz.prog 35 (localG 82 (uOf [] encL (spU (blockS St k)))):=px_U hBk (xBl hS k) 10 35 fun s n t a => by
 rw [t35_eq]
 refine Tells.bind fun _ p1 => Tells.nd (Nat.ble_eq.mpr (by omega)) ?_
 have:=Tells.bind (d:=([]:List RS)) (enc:=encL) (s:=s) (x:=blockL (MP s) (St s) k p1) (K:=fun l p2 => .br l.isEmpty (.leaf (.ret (.one (.c .nils)),cellsP s p2)) (.leaf (.ret (.one (.c (.sl (rtab 1) l.length (catV l)))),cellsP s p2))) (f:=fun l p2 => .ret l p2) fun l p2 => by
  cases l with
  | nil => exact ⟨_,rfl,.ret (leA_one (.c fun _ _ _ h => by cases h; exact .slnil)) LeL.refl rfl⟩
  | cons x l => exact ⟨_,rfl,.ret (catV_le (x :: l)) LeL.refl rfl⟩
 cases hx:blockL (MP s) (St s) k p1 with
 | stuck => exact trivial
 | ret v q => rw [hx] at this; exact this
 | pan b => rw [hx] at this; exact this
noncomputable abbrev H88:Hd:=⟨[pF 31,pF 32,pF 33,pF 35,pF 36,pF 85,pF 131,pF 132,pF 133],[(87,nG G87)],[],[]⟩
theorem h88:HdOk Tryz.prog H88:=((((((((((HdOk.nil.ucCons p87).pF 133).pF 132).pF 131).pF 85).pF 36).pF 35).pF 33).pF 32).pF 31)
abbrev UBk (B:ByteArray → PS → PR PS (List RS)):=uOf [] encL (spU B)
abbrev X88 (E:ByteArray → PS → PR PS RX) (B:ByteArray → PS → PR PS (List RS)) (lx:List ((Nat × Nat) × (Nat → St → Tree (XP × St)))):HdP :=
 ⟨(132,localG 82 (UO E)) :: (35,localG 82 (UBk B)) :: (131,localG 82 u131) :: pxs0,[],[],lx,[],0,132 :: 35 :: 131 :: [211,133,32,33,85,31]⟩
theorem x88 {E:ByteArray → PS → PR PS RX} {B:ByteArray → PS → PR PS (List RS)} (hE:PxOne Tryz.prog 132 (localG 82 (UO E))) (hB:PxOne Tryz.prog 35 (localG 82 (UBk B))):XOk Tryz.prog (X88 E B []) :=
 (((pxs0_ok 0).loCons px131 (LocFn.localG _ _)).loCons hB (LocFn.localG _ _)).loCons hE (LocFn.localG _ _)
def any8:List CV:=[.any,.any,.any,.any,.any,.any,.any,.any]
def flat8 (cs:List CV):Bool:=cs.all closedC && Nat.beq cs.length 8 && !isRowL cs
theorem flat8_le {cs:List CV} (h:flat8 cs = true):cs.all closedC = true ∧ isRowL cs = false ∧ LeL cs any8:=by
 simp only [flat8,Bool.and_eq_true,Bool.not_eq_true'] at h
 obtain ⟨⟨h1,h2⟩,h3⟩:=h
 have h2:=Nat.eq_of_beq_eq_true h2
 refine ⟨h1,h3,?_⟩
 match cs,h2 with
 | [a,b,c,d,e,f,g,i],_ => exact .cons leC_any (.cons leC_any (.cons leC_any (.cons leC_any (.cons leC_any (.cons leC_any (.cons leC_any (.cons leC_any .nil)))))))
abbrev WW:=(ByteArray × Int) × (Nat × Val)
abbrev CW:=CP × WW
abbrev DW:=CW ⊕ WW
def sayC (kd:ByteArray) (at_:Int):List CV:=[.str kd,.os 3 1,.str (bs []),.int .i64 0,.nils,.nils,.nils,.int .i64 at_]
def memW (c0:List CV) (w:WW):Mem:=[some (82,c0),some (52,any8),some (52,sayC w.1.1 w.1.2),some (9,[.row false [.str] w.2.1 w.2.2])]
def slW:List (Nat × AV):=[(0,.one (.c (.ptr 0 0))),(2,.one (.c (.ptr 1 0))),(3,.one (.c (.ptr 2 0)))]
def SW (c:CW):St:=mkS 99 slW (memW (cellsP c.1.1 c.1.2) c.2)
def SWE:DW → St
 | .inl c => SW c
 | .inr w => mkS 99 slW (memW anys4 w)
def getWW:List (Nat × AV) → Mem → Option (List CV × WW)
 | [(0, .one (.c (.ptr 0 0))), (2, .one (.c (.ptr 1 0))), (3, .one (.c (.ptr 2 0)))], [some (82, c0), some (52, c1), some (52, [.str kd, .os 3 1, .str z, .int .i64 zz, .nils, .nils, .nils, .int .i64 a]), some (9, [.row false [.str] n ρ])] =>
   if flat8 c1 && strEq z (bs []) && decide (zz = 0) then some (c0,(kd,a),(n,ρ)) else none
 | _,_ => none
def getW (l:List (Nat × AV)) (m:Mem):Option CW:=match getWW l m with
 | some (c0,w) => (match parC c0 with | some p => some (p,w) | none => none)
 | none => none
def getWE (l:List (Nat × AV)) (m:Mem):Option DW:=match getWW l m with
 | some (c0,w) => (match parC c0 with | some p => some (.inl (p,w)) | none => if flat4 c0 then some (.inr w) else none)
 | none => none
theorem getWW_some {l:List (Nat × AV)} {m:Mem} {c0:List CV} {w:WW} (h:getWW l m = some (c0,w)):l = slW ∧ ∃ c1,flat8 c1 = true ∧ m = [some (82,c0),some (52,c1),some (52,sayC w.1.1 w.1.2),some (9,[.row false [.str] w.2.1 w.2.2])]:=by
 unfold getWW at h
 split at h
 ·split at h
  ·rename_i hc
   simp only [Bool.and_eq_true,decide_eq_true_eq] at hc
   obtain ⟨⟨h1,h2⟩,h3⟩:=hc
   have h2:=strEq_eq h2
   subst h2
   subst h3
   cases h
   exact ⟨rfl,_,h1,rfl⟩
  ·cases h
 ·cases h
theorem memW_wk {c0 c1:List CV} {w:WW} (h1:flat8 c1 = true):∀ (P:Program) F W bs,MemRel P F W bs [some (82,c0),some (52,c1),some (52,sayC w.1.1 w.1.2),some (9,[.row false [.str] w.2.1 w.2.2])] → MemRel P F W bs (memW c0 w):=by
 obtain ⟨a1,a2,a3⟩:=flat8_le h1
 exact mem_wk (b:=1) rfl a2 a1 a3 rfl rfl
theorem getW_ok:∀ l m c,getW l m = some c → StWk (mkS 99 l m) (SW c):=by
 intro l m c h
 unfold getW at h
 split at h
 ·rename_i c0 w hw
  obtain ⟨rfl,c1,h1,rfl⟩:=getWW_some hw
  split at h
  ·rename_i p hp
   cases h
   rw [parC_some hp]
   exact mkS_wk (.cons leAB.refl (.cons leAB.refl (.cons leAB.refl .nil))) (memW_wk h1)
  ·cases h
 ·cases h
theorem getWE_ok:∀ l m c,getWE l m = some c → StWk (mkS 99 l m) (SWE c):=by
 intro l m c h
 unfold getWE at h
 split at h
 ·rename_i c0 w hw
  obtain ⟨rfl,c1,h1,rfl⟩:=getWW_some hw
  split at h
  ·rename_i p hp
   cases h
   rw [parC_some hp]
   exact mkS_wk (.cons leAB.refl (.cons leAB.refl (.cons leAB.refl .nil))) (memW_wk h1)
  ·split at h
   ·rename_i h2
    cases h
    obtain ⟨b1,b2,b3⟩:=flat4_le h2
    refine mkS_wk (.cons leAB.refl (.cons leAB.refl (.cons leAB.refl .nil))) fun P F W bs hm => ?_
    exact mem_wk (b:=0) (m:=memW c0 w) rfl b2 b1 b3 rfl rfl P F W bs (memW_wk h1 P F W bs hm)
   ·cases h
 ·cases h
def AW:Sx.Frame CW DW:=⟨3,99,[0,2,3],getW,SW,[0,2,3],getWE,SWE⟩
theorem aW:AW.Ok:=⟨getW_ok,getWE_ok⟩
def rW (s:ByteArray) (g:CW → Tree (XP × DW)) (w:WW) (p:PS):Tree (XP × DW) :=
 let pn:=fun a => Tree.leaf (XP.pan (panV a),Sum.inr w)
 nxT false (takeM (MP s) wSemi p) (fun c p1 => .br (!c) (.need (obD (isWordS p1.tx)) (nxT (bs []) (wordM (MP s) (obV (isWordS p1.tx)) p1)
  (fun x p2 => .need (Nat.ble ((w.2.1 + 1) * 16) 140737488355328) (g ((s,p2),w.1,(w.2.1 + 1,Val.cat w.2.1 w.2.2 (row1 x))))) pn)) (.leaf (.exit 1,.inl ((s,p1),w)))) pn
theorem rW_eq (E : ByteArray → PS → PR PS RX) (B : ByteArray → PS → PR PS (List RS)) (g : CW → Tree (XP × DW)) (s t kd : ByteArray) (n a at_ : Int) (m : Nat) (ρ : Val) :
  roundC AW Tryz.prog H88 (X88 E B []) 10 88 0 g ((s,⟨n,t,a⟩),(kd,at_),(m,ρ)) = rW s g ((kd,at_),(m,ρ)) ⟨n,t,a⟩:=by kernel_rfl
def catWs:Nat → Val → List ByteArray → Val
 | _,ρ,[] => ρ
 | n,ρ,w :: l => catWs (n + 1) (Val.cat n ρ (row1 w)) l
def wwAdd (w:WW) (l:List ByteArray):WW:=(w.1,(w.2.1 + l.length,catWs w.2.1 w.2.2 l))
def wwOne (w:WW) (x:ByteArray):WW:=(w.1,(w.2.1 + 1,Val.cat w.2.1 w.2.2 (row1 x)))
theorem wwAdd_cons (w:WW) (x:ByteArray) (l:List ByteArray):wwAdd w (x :: l) = wwAdd (wwOne w x) l:=by
 obtain ⟨w1,n,ρ⟩:=w
 show (_,(_,_)) = (_,(_,_))
 simp only [catWs,List.length_cons,wwOne]
 rw [show n + (l.length + 1) = n + 1 + l.length by omega]
def itemsW (s:ByteArray):Nat → PS → List ByteArray
 | 0,_ => []
 | k + 1,p => match takeM (MP s) wSemi p with
  | .ret false p1 => (match plainM (MP s) p1 with
   | .ret x p2 => x :: itemsW s k p2
   | _ => [])
  | _ => []
def gW (k:Nat) (c:CW):Tree (XP × DW) :=
 .need (Nat.ble (c.2.2.1 + k) maxB) (nxT [] (wordsM (MP c.1.1) k c.1.2) (fun l p1 => .leaf (.exit 1,.inl ((c.1.1,p1),wwAdd c.2 l))) (fun a => .leaf (.pan (panV a),.inr (wwAdd c.2 (itemsW c.1.1 k c.1.2)))))
theorem gW_sel (k : Nat) (s : ByteArray) (p : PS) (w : WW) : (gW k ((s, p), w)).sel = bif Nat.ble (w.2.1 + k) maxB then (match wordsM (MP s) k p with
  | .stuck => none
  | .ret l q => some (.exit 1,.inl ((s,q),wwAdd w l))
  | .pan a => some (.pan (panV a),.inr (wwAdd w (itemsW s k p)))) else none:=by
 unfold gW
 rw [sel_need]
 simp only
 cases Nat.ble (w.2.1 + k) maxB with
 | false => rfl
 | true =>
   simp only [cond_true]
   cases wordsM (MP s) k p <;> rfl
theorem stepW (E:ByteArray → PS → PR PS RX) (B:ByteArray → PS → PR PS (List RS)) (k:Nat) (c:CW) (x:XP × DW) (h:(gW (k + 1) c).sel = some x):(roundC AW Tryz.prog H88 (X88 E B []) 10 88 0 (gW k) c).sel = some x:=by
 obtain ⟨⟨s,⟨n,t,a⟩⟩,⟨⟨kd,at_⟩,⟨m,ρ⟩⟩⟩:=c
 rw [rW_eq]
 rw [gW_sel] at h
 have hb:Nat.ble (m + (k + 1)) maxB = true:=by
  cases hh:Nat.ble (m + (k + 1)) maxB with
  | true => rfl
  | false => simp only at h; rw [hh] at h; cases h
 simp only at h
 rw [hb] at h
 simp only [cond_true] at h
 have hle:=Nat.le_of_ble_eq_true hb
 have hb1:Nat.ble ((m + 1) * 16) 140737488355328 = true:=Nat.ble_eq.mpr (by unfold maxB at hle; omega)
 unfold rW
 unfold wordsM at h
 simp only [itemsW] at h
 cases e1:takeM (MP s) wSemi ⟨n,t,a⟩ with
 | stuck => rw [e1] at h; cases h
 | pan b => rw [e1] at h; exact h
 | ret c p1 =>
   rw [e1] at h
   rw [nxT_ret]
   cases c with
  | true => exact h
  | false =>
    simp only [PR.bind,cond_false] at h
    rw [sel_br]
    simp only [Bool.not_false,cond_true]
    have hpl:plainM (MP s) p1 = match isWordS p1.tx with | none => .stuck | some c => wordM (MP s) c p1:=rfl
    rw [hpl] at h
    cases e0:isWordS p1.tx with
   | none => rw [e0] at h; cases h
   | some ok =>
     rw [e0] at h
     simp only at h
     rw [sel_need]
     show (bif true then _ else _) = _
     simp only [cond_true,obV]
     cases e2:wordM (MP s) ok p1 with
    | stuck => rw [e2] at h; cases h
    | pan b => rw [e2] at h; exact h
    | ret y p2 =>
      rw [e2] at h
      rw [nxT_ret,sel_need,hb1]
      simp only [cond_true]
      rw [gW_sel]
      have hb2:Nat.ble (m + 1 + k) maxB = true:=Nat.ble_eq.mpr (by omega)
      simp only
      rw [hb2]
      simp only [cond_true]
      simp only [wwAdd_cons] at h
      cases e3:wordsM (MP s) k p2 with
     | stuck => rw [e3] at h; cases h
     | pan b => rw [e3] at h; exact h
     | ret l q =>
       rw [e3] at h
       simp only [wwAdd_cons] at h
       exact h
theorem coreW {E:ByteArray → PS → PR PS RX} {B:ByteArray → PS → PR PS (List RS)} (hE:PxOne Tryz.prog 132 (localG 82 (UO E))) (hB:PxOne Tryz.prog 35 (localG 82 (UBk B))):∀ k,CoreOk Tryz.prog 88 0 3 SW SWE (gW k) :=
 CoreOk.fuel (A:=AW) aW h88 (x88 hE hB) 10 (fun c => by
  obtain ⟨⟨s,p⟩,w⟩:=c
  rw [gW_sel]
  cases Nat.ble (w.2.1 + 0) maxB <;> rfl) (stepW E B)
theorem x88w {E:ByteArray → PS → PR PS RX} {B:ByteArray → PS → PR PS (List RS)} (hE:PxOne Tryz.prog 132 (localG 82 (UO E))) (hB:PxOne Tryz.prog 35 (localG 82 (UBk B))) (k:Nat):XOk Tryz.prog (X88 E B [((88,0),loopC AW (gW k))]) :=
 (x88 hE hB).lxCons ((coreW hE hB k).lx aW)
def lfS (cs:List CV) (s:ByteArray) (p:PS):Tree (Out × List CV):=.leaf (.ret (.one (.agg cs)),cellsP s p)
def blC (l:List RS):CV:=.sl (rtab 1) l.length (blkV l)
def t88 (E:ByteArray → PS → PR PS RX) (B:ByteArray → PS → PR PS (List RS)) (k:Nat) (s:ByteArray) (p:PS):Tree (Out × List CV) :=
 let K:CV:=.str p.tx
 let A:CV:=.int .i64 p.pos
 let z:List CV:=[.str (bs []),.int .i64 0,.nils]
 let DO:=nxT () (advS s p) (fun _ p1 => nxT [] (operationM (MP s) p1) (fun w p2 => nxT false (takeM (MP s) wUndo p2) (fun c p3 =>
  .br c (nxT [] (B s p3) (fun l p4 => nxT () (expectM (MP s) wSemi p4) (fun _ p5 => lfS ([K,.sl [.str] w.length (wordsV w)] ++ z ++ [blC l,.nils,A]) s p5) panT) panT)
   (nxT () (expectM (MP s) wSemi p3) (fun _ p4 => lfS ([K,.sl [.str] w.length (wordsV w)] ++ z ++ [.nils,.nils,A]) s p4) panT)) panT) panT) panT
 let IF:=nxT () (advS s p) (fun _ p1 => nxT dX (E s p1) (fun e p2 => nxT [] (B s p2) (fun l p3 => nxT false (takeM (MP s) wElse p3) (fun c p4 =>
  .br c (nxT [] (B s p4) (fun r p5 => lfS ([K,.nils] ++ e.cells ++ [blC l,blC r,A]) s p5) panT) (lfS ([K,.nils] ++ e.cells ++ [blC l,.nils,A]) s p4)) panT) panT) panT) panT
 let REP:=nxT () (advS s p) (fun _ p1 => nxT 0 (numberM (MP s) 99 p1) (fun n p2 => nxT [] (B s p2) (fun l p3 => lfS [K,.nils,.str wNum,.int .i64 n,.nils,blC l,.nils,A] s p3) panT) panT) panT
 let REQ:=nxT () (advS s p) (fun _ p1 => nxT dX (E s p1) (fun e p2 => nxT () (expectM (MP s) wSemi p2) (fun _ p3 => lfS ([K,.nils] ++ e.cells ++ [.nils,.nils,A]) s p3) panT) panT) panT
 let SAY:=nxT () (advS s p) (fun _ p1 => .need (obD (isWordS p1.tx)) (nxT (bs []) (wordM (MP s) (obV (isWordS p1.tx)) p1) (fun w p2 => .need (Nat.ble (1 + k) maxB) (nxT [] (wordsM (MP s) k p2)
  (fun l p3 => lfS ([K,.sl [.str] (1 + l.length) (catWs 1 (row1 w) l)] ++ z ++ [.nils,.nils,A]) s p3) panT)) panT)) panT
 .br (strEq p.tx wDo) DO (.br (strEq p.tx wIf) IF (.br (strEq p.tx wRepeat) REP (.br (strEq p.tx wRequire) REQ (.br (strEq p.tx wSay) SAY (panT p.pos)))))
theorem t88_eq (E : ByteArray → PS → PR PS RX) (B : ByteArray → PS → PR PS (List RS)) (k : Nat) (s t : ByteArray) (n a : Int) :
  oneZ Tryz.prog H88 (X88 E B [((88,0),loopC AW (gW k))]) 10 88 82 [] [.str s,.int .i64 n,.str t,.int .i64 a] = t88 E B k s ⟨n,t,a⟩:=by kernel_rfl
end Go.Proofs.YtiefjlcakpdfeaaGreat
