/-
 Part SpZE of the proof: RpI RpJ RdL RpL RpK RpM RpN RpO RpQ.
-/
import Derived.Test.YtiefjlcakpdfeaaGreatSpZD
import Derived.Test.YtiefjlcakpdfeaaGreatSpZC
import Derived.Test.YtiefjlcakpdfeaaGreatSpS
namespace Go.Proofs.YtiefjlcakpdfeaaGreat
open Go Go.Sx Go.RowKit Rb
set_option maxRecDepth 100000
abbrev RXX:=RX → RX → Option Bool
def G99 (R:RXX):List A1 → Option (Bool × AV)
 | [.agg [.str o,.int .i64 v,.sl es n ρ],.agg [.str o',.int .i64 v',.sl es' m σ]] => if shEq.shsEq es (rtab 0) && shEq.shsEq es' (rtab 0) then some (os1 (R ⟨o,v,n,ρ⟩ ⟨o',v',m,σ⟩),encBo (ov1 false (R ⟨o,v,n,ρ⟩ ⟨o',v',m,σ⟩))) else none
 | _ => none
structure C99 where
 x:RX
 y:RX
 r:Bool
 i:Int
def S99 (c:C99):St:=mkS 46 [(2,.one (.c (.ptr 0 0))),(3,.one (.c (.ptr 1 0))),(4,.one (.c (.bool c.r))),(5,.one (.c (.int .i64 c.i)))] [some (50,c.x.cells),some (50,c.y.cells)]
def get99 (l:List (Nat × AV)) (m:Mem):Option C99:=match l,m with
 | [(2, .one (.c (.ptr 0 0))), (3, .one (.c (.ptr 1 0))), (4, .one (.c (.bool r))), (5, .one (.c (.int .i64 i)))], [some (50, [.str o, .int .i64 v, .sl es n ρ]), some (50, [.str o', .int .i64 v', .sl es' k σ])] =>
   if shEq.shsEq es (rtab 0) && shEq.shsEq es' (rtab 0) then some ⟨⟨o,v,n,ρ⟩,⟨o',v',k,σ⟩,r,i⟩ else none
 | _,_ => none
theorem get99_ok:∀ l m c,get99 l m = some c → mkS 46 l m = S99 c:=by
 intro l m c h
 unfold get99 at h
 split at h
 ·split at h
  ·rename_i hs
   rw [Bool.and_eq_true] at hs
   cases h
   rw [shsEq_eq hs.1,shsEq_eq hs.2]
   rfl
  ·cases h
 ·cases h
def A99:Sx.Frame C99 Bool:=⟨0,46,[2,3,4,5],get99,S99,[4],getE98,E98 46⟩
theorem a99:A99.Ok:=.of_eq get99_ok (getE98_ok 46)
noncomputable abbrev H99l (R:RXX):Hd:=⟨[(99,nG (G99 R))],[],[],[]⟩
theorem h99l {R:RXX} (hR:TcOne Tryz.prog 99 (nG (G99 R))):HdOk Tryz.prog (H99l R):=HdOk.nil.tcCons hR
def r99 (R:RXX) (g:C99 → Tree (XE × Bool)) (c:C99):Tree (XE × Bool) :=
 let o:=R (kidX c.x.ρ c.i.toNat) (kidX c.y.ρ c.i.toNat)
 .br (lt c.i (toInt64 c.x.n)) (.need (inRange c.i c.x.n) (.need (inRange c.i c.y.n) (.need (os1 o) (.br (!ov1 false o) (.leaf (.ret,false)) (g { c with i:=IntKind.wrap .i64 (c.i + 1) }))))) (.leaf (.exit 0,c.r))
theorem r99_eq (R:RXX) (g:C99 → Tree (XE × Bool)) (c:C99):roundL A99 Tryz.prog (H99l R) 10 99 0 g c = r99 R g c:=by kernel_rfl
def samXL (R:RXX) (x y:RX) (l:Int):Nat → Int → Option Bool
 | 0,_ => none
 | k + 1,i => bif lt i l then nd (inRange i x.n) (nd (inRange i y.n) ((R (kidX x.ρ i.toNat) (kidX y.ρ i.toNat)).bind fun b => bif !b then some false else samXL R x y l k (IntKind.wrap .i64 (i + 1)))) else some true
def g99 (R:RXX) (k:Nat) (c:C99):Tree (XE × Bool) :=
 let o:=samXL R c.x c.y (toInt64 c.x.n) k c.i
 .need (os1 o) (.br (ov1 false o) (.leaf (.exit 0,c.r)) (.leaf (.ret,false)))
theorem g99_sel (R:RXX) (k:Nat) (c:C99):(g99 R k c).sel = out98 c.r (samXL R c.x c.y (toInt64 c.x.n) k c.i):=by
 unfold g99
 cases samXL R c.x c.y (toInt64 c.x.n) k c.i with
 | none => rfl
 | some b => cases b <;> rfl
theorem step99 (R:RXX) (k:Nat) (c:C99) (x:XE × Bool) (h:(g99 R (k + 1) c).sel = some x):(roundL A99 Tryz.prog (H99l R) 10 99 0 (g99 R k) c).sel = some x:=by
 rw [r99_eq]
 rw [g99_sel] at h
 unfold samXL at h
 unfold r99
 simp only [sel_br,sel_need,sel_leaf,g99_sel]
 revert h
 cases lt c.i (toInt64 c.x.n) with
 | false => exact fun h => h
 | true =>
 cases inRange c.i c.x.n with
 | false => exact fun h => h
 | true =>
 cases inRange c.i c.y.n with
 | false => exact fun h => h
 | true =>
 simp only [nd,cond_true]
 cases R (kidX c.x.ρ c.i.toNat) (kidX c.y.ρ c.i.toNat) with
 | none => exact fun h => h
 | some b => cases b <;> exact fun h => h
theorem core99 {R:RXX} (hR:TcOne Tryz.prog 99 (nG (G99 R))):∀ k,LCore Tryz.prog 99 0 0 S99 (E98 46) (g99 R k):=LCore.fuel (A:=A99) a99 (h99l hR) 10 (fun _ => rfl) (step99 R)
def g99w (R:RXX) (c:C99):Tree (XE × Bool):=g99 R (c.x.n + 1) c
noncomputable abbrev H99 (R:RXX):Hd:=⟨[],[],[((99,0),loopE A99 (g99w R))],[]⟩
theorem h99 {R:RXX} (hR:TcOne Tryz.prog 99 (nG (G99 R))):HdOk Tryz.prog (H99 R):=HdOk.lhCons HdOk.nil fun fn c b h1 h2 h3 => LCore.ok (A:=A99) a99 (fun fn c b h1 h2 h3 c0 x hx => core99 hR (c0.x.n + 1) fn c b h1 h2 h3 c0 x hx) fn c b h1 h2 h3
def difX (x y:RX):Bool:=bif (bif !strEq x.op y.op then true else x.v != y.v) then true else toInt64 x.n != toInt64 y.n
def samXG (R:RXX):RXX:=fun x y => bif difX x y then some false else samXL R x y (toInt64 x.n) (x.n + 1) 0
def t99 (R:RXX) (x y:RX):Tree AV :=
 let o:=samXL R x y (toInt64 x.n) (x.n + 1) 0
 .br (difX x y) (.leaf (encBo false)) (.need (os1 o) (.br (ov1 false o) (.leaf (encBo true)) (.leaf (encBo false))))
theorem t99_eq (R : RXX) (o : ByteArray) (v : Int) (n : Nat) (ρ : Val) (o' : ByteArray) (v' : Int) (m : Nat) (σ : Val) :
  (evFn Tryz.prog (H99 R) 10 99 [.agg [.str o,.int .i64 v,.sl (rtab 0) n ρ],.agg [.str o',.int .i64 v',.sl (rtab 0) m σ]] []).vals = t99 R ⟨o,v,n,ρ⟩ ⟨o',v',m,σ⟩:=by kernel_rfl
theorem t99_all {R:RXX} {x y:RX} (h:os1 (samXG R x y) = true):(t99 R x y).All (fun z => z = encBo (ov1 false (samXG R x y))):=by
 unfold t99
 unfold samXG at h ⊢
 revert h
 cases difX x y with
 | true => exact fun _ => sel_all rfl rfl
 | false =>
   simp only [cond_false]
   intro h
   cases ho:samXL R x y (toInt64 x.n) (x.n + 1) 0 with
  | none => rw [ho] at h; cases h
  | some b => cases b <;> exact sel_all rfl rfl
theorem p99s {R:RXX} (hR:TcOne Tryz.prog 99 (nG (G99 R))):TcOne Tryz.prog 99 (nG (G99 (samXG R))):=tcOne_of_tree (h99 hR) 10 99 fun args r h => by
 unfold G99 at h
 split at h
 ·rename_i o v es n ρ o' v' es' m σ
  split at h
  ·rename_i hs
   rw [Bool.and_eq_true] at hs
   rw [shsEq_eq hs.1,shsEq_eq hs.2]
   simp only [Option.some.injEq,Prod.mk.injEq] at h
   obtain ⟨h1,rfl⟩:=h
   exact ⟨rfl,_,t99_eq R o v n ρ o' v' m σ,t99_all h1⟩
  ·cases h
 ·cases h
def samXF:Nat → RXX
 | 0 => fun _ _ => none
 | f + 1 => samXG (samXF f)
theorem p99:∀ f,TcOne Tryz.prog 99 (nG (G99 (samXF f)))
 | 0 => by
   intro args r h
   have h:=nG_sel h
   unfold G99 at h
   split at h
   ·split at h
    ·simp only [Option.some.injEq,Prod.mk.injEq] at h
     have h1:os1 (none:Option Bool) = true:=h.1
     cases h1
    ·cases h
   ·cases h
 | f + 1 => p99s (p99 f)
abbrev RBB:=Nat → Val → Nat → Val → Option Bool
def G43 (R:RBB):List A1 → Option (Bool × AV)
 | [.c (.sl es n ρ),.c (.sl es' m σ)] => if shEq.shsEq es (rtab 1) && shEq.shsEq es' (rtab 1) then some (os1 (R n ρ m σ),encBo (ov1 false (R n ρ m σ))) else none
 | _ => none
def S43 (c:C98):St:=mkS 64 [(0,.one (.c (.sl (rtab 1) c.n c.ρ))),(1,.one (.c (.sl (rtab 1) c.m c.σ))),(4,.one (.c (.bool c.r))),(5,.one (.c (.int .i64 c.i)))] []
def get43 (l:List (Nat × AV)) (m:Mem):Option C98:=match l,m with
 | [(0,.one (.c (.sl es n ρ))),(1,.one (.c (.sl es' k σ))),(4,.one (.c (.bool r))),(5,.one (.c (.int .i64 i)))],[] => if shEq.shsEq es (rtab 1) && shEq.shsEq es' (rtab 1) then some ⟨n,ρ,k,σ,r,i⟩ else none
 | _,_ => none
theorem get43_ok:∀ l m c,get43 l m = some c → mkS 64 l m = S43 c:=by
 intro l m c h
 unfold get43 at h
 split at h
 ·split at h
  ·rename_i hs
   rw [Bool.and_eq_true] at hs
   cases h
   rw [shsEq_eq hs.1,shsEq_eq hs.2]
   rfl
  ·cases h
 ·cases h
def A43:Sx.Frame C98 Bool:=⟨0,64,[0,1,4,5],get43,S43,[4],getE98,E98 64⟩
theorem a43:A43.Ok:=.of_eq get43_ok (getE98_ok 64)
noncomputable abbrev H43l (X:RXX) (R:RBB):Hd:=⟨[(98,nG G16),(99,nG (G99 X))],[(43,nG (G43 R))],[],[]⟩
theorem h43l {X:RXX} (hX:TcOne Tryz.prog 99 (nG (G99 X))) {R:RBB} (hR:UcOne Tryz.prog 43 (nG (G43 R))):HdOk Tryz.prog (H43l X R):=((HdOk.nil.ucCons hR).tcCons hX).tcCons p98
def dif1 (s t:RS):Bool:=!strEq s.kind t.kind
def dif2 (s t:RS):Bool:=bif dif1 s t then true else !ov1 false (eqWS s.wn s.wρ t.wn t.wρ)
def dif3 (X:RXX) (s t:RS):Bool:=bif dif2 s t then true else !ov1 false (X s.cond t.cond)
def dif4 (X:RXX) (R:RBB) (s t:RS):Bool:=bif dif3 X s t then true else !ov1 false (R s.bn s.bρ t.bn t.bρ)
def dif5 (X:RXX) (R:RBB) (s t:RS):Bool:=bif dif4 X R s t then true else !ov1 false (R s.en s.eρ t.en t.eρ)
def ned1 (s t:RS):Bool:=!((dif1 s t == false) && true) || os1 (eqWS s.wn s.wρ t.wn t.wρ)
def ned2 (X:RXX) (s t:RS):Bool:=!((dif2 s t == false) && true) || os1 (X s.cond t.cond)
def ned3 (X:RXX) (R:RBB) (s t:RS):Bool:=!((dif3 X s t == false) && true) || os1 (R s.bn s.bρ t.bn t.bρ)
def ned4 (X:RXX) (R:RBB) (s t:RS):Bool:=!((dif4 X R s t == false) && true) || os1 (R s.en s.eρ t.en t.eρ)
def difS (X:RXX) (R:RBB) (s t:RS):Option Bool:=nd (ned1 s t) (nd (ned2 X s t) (nd (ned3 X R s t) (nd (ned4 X R s t) (some (dif5 X R s t)))))
def r43 (X:RXX) (R:RBB) (g:C98 → Tree (XP × Bool)) (c:C98):Tree (XP × Bool) :=
 let s:=stAt c.ρ c.i.toNat
 let t:=stAt c.σ c.i.toNat
 .br (lt c.i (toInt64 c.n)) (.need (inRange c.i c.n) (.need (inRange c.i c.m) (.need (ned1 s t) (.need (ned2 X s t) (.need (ned3 X R s t) (.need (ned4 X R s t)
   (.br (dif5 X R s t) (.leaf (.ret,false)) (g { c with i:=IntKind.wrap .i64 (c.i + 1) })))))))) (.leaf (.exit 0,c.r))
theorem r43_eq (X:RXX) (R:RBB) (g:C98 → Tree (XP × Bool)) (c:C98):roundC A43 Tryz.prog (H43l X R) X0 10 43 0 g c = r43 X R g c:=by kernel_rfl
def samBL (X:RXX) (R:RBB) (n:Nat) (ρ:Val) (m:Nat) (σ:Val) (l:Int):Nat → Int → Option Bool
 | 0,_ => none
 | k + 1,i => bif lt i l then nd (inRange i n) (nd (inRange i m) ((difS X R (stAt ρ i.toNat) (stAt σ i.toNat)).bind fun c => bif c then some false else samBL X R n ρ m σ l k (IntKind.wrap .i64 (i + 1)))) else some true
def g43 (X:RXX) (R:RBB) (k:Nat) (c:C98):Tree (XP × Bool) :=
 let o:=samBL X R c.n c.ρ c.m c.σ (toInt64 c.n) k c.i
 .need (os1 o) (.br (ov1 false o) (.leaf (.exit 0,c.r)) (.leaf (.ret,false)))
def out43 (r:Bool):Option Bool → Option (XP × Bool)
 | some b => some (bif b then (.exit 0,r) else (.ret,false))
 | none => none
theorem g43_sel (X:RXX) (R:RBB) (k:Nat) (c:C98):(g43 X R k c).sel = out43 c.r (samBL X R c.n c.ρ c.m c.σ (toInt64 c.n) k c.i):=by
 unfold g43
 cases samBL X R c.n c.ρ c.m c.σ (toInt64 c.n) k c.i with
 | none => rfl
 | some b => cases b <;> rfl
theorem step43 (X:RXX) (R:RBB) (k:Nat) (c:C98) (x:XP × Bool) (h:(g43 X R (k + 1) c).sel = some x):(roundC A43 Tryz.prog (H43l X R) X0 10 43 0 (g43 X R k) c).sel = some x:=by
 rw [r43_eq]
 rw [g43_sel] at h
 unfold samBL difS at h
 unfold r43
 simp only [sel_br,sel_need,sel_leaf,g43_sel]
 revert h
 cases lt c.i (toInt64 c.n) with
 | false => exact fun h => h
 | true =>
 cases inRange c.i c.n with
 | false => exact fun h => h
 | true =>
 cases inRange c.i c.m with
 | false => exact fun h => h
 | true =>
 cases ned1 (stAt c.ρ c.i.toNat) (stAt c.σ c.i.toNat) with
 | false => exact fun h => h
 | true =>
 cases ned2 X (stAt c.ρ c.i.toNat) (stAt c.σ c.i.toNat) with
 | false => exact fun h => h
 | true =>
 cases ned3 X R (stAt c.ρ c.i.toNat) (stAt c.σ c.i.toNat) with
 | false => exact fun h => h
 | true =>
 cases ned4 X R (stAt c.ρ c.i.toNat) (stAt c.σ c.i.toNat) with
 | false => exact fun h => h
 | true =>
 cases dif5 X R (stAt c.ρ c.i.toNat) (stAt c.σ c.i.toNat) <;> exact fun h => h
theorem core43 {X:RXX} (hX:TcOne Tryz.prog 99 (nG (G99 X))) {R:RBB} (hR:UcOne Tryz.prog 43 (nG (G43 R))):∀ k,CoreOk Tryz.prog 43 0 0 S43 (E98 64) (g43 X R k) :=
 CoreOk.fuel (A:=A43) a43 (h43l hX hR) x0 10 (fun _ => rfl) (step43 X R)
def g43w (X:RXX) (R:RBB) (c:C98):Tree (XP × Bool):=g43 X R (c.n + 1) c
abbrev X43 (X:RXX) (R:RBB):HdP:=⟨[],[],[],[((43,0),loopC A43 (g43w X R))],[],0,[]⟩
theorem x43 {X:RXX} (hX:TcOne Tryz.prog 99 (nG (G99 X))) {R:RBB} (hR:UcOne Tryz.prog 43 (nG (G43 R))):XOk Tryz.prog (X43 X R) :=
 XOk.lxCons XOk.nil (CoreOk.lx (g:=g43w X R) a43 fun fn c b h1 h2 h3 c0 x hx => core43 hX hR _ fn c b h1 h2 h3 c0 x hx)
def samBG (X:RXX) (R:RBB):RBB:=fun n ρ m σ => bif toInt64 n != toInt64 m then some false else samBL X R n ρ m σ (toInt64 n) (n + 1) 0
def t43 (X:RXX) (R:RBB) (n:Nat) (ρ:Val) (m:Nat) (σ:Val):Tree AV :=
 let o:=samBL X R n ρ m σ (toInt64 n) (n + 1) 0
 .br (toInt64 n != toInt64 m) (.leaf (encBo false)) (.need (os1 o) (.br (ov1 false o) (.leaf (encBo true)) (.leaf (encBo false))))
theorem t43_eq (X:RXX) (R:RBB) (n:Nat) (ρ:Val) (m:Nat) (σ:Val):hcTreeP Tryz.prog (H43l X R) (X43 X R) 10 43 [.c (.sl (rtab 1) n ρ),.c (.sl (rtab 1) m σ)] = t43 X R n ρ m σ:=by kernel_rfl
theorem t43_all {X:RXX} {R:RBB} {n:Nat} {ρ:Val} {m:Nat} {σ:Val} (h:os1 (samBG X R n ρ m σ) = true):(t43 X R n ρ m σ).All (fun z => leA z (encBo (ov1 false (samBG X R n ρ m σ)))):=by
 unfold t43
 unfold samBG at h ⊢
 revert h
 cases (toInt64 n != toInt64 m) with
 | true => exact fun _ => sel_all rfl leA.refl
 | false =>
   simp only [cond_false]
   intro h
   cases ho:samBL X R n ρ m σ (toInt64 n) (n + 1) 0 with
  | none => rw [ho] at h; cases h
  | some b => cases b <;> exact sel_all rfl leA.refl
theorem G43_some {R:RBB} {args:List A1} {r:AV} (h:G43 R args = some (true,r)):∃ n ρ m σ,args = [.c (.sl (rtab 1) n ρ),.c (.sl (rtab 1) m σ)] ∧ os1 (R n ρ m σ) = true ∧ r = encBo (ov1 false (R n ρ m σ)):=by
 unfold G43 at h
 split at h
 ·rename_i es n ρ es' m σ
  split at h
  ·rename_i hs
   rw [Bool.and_eq_true] at hs
   rw [shsEq_eq hs.1,shsEq_eq hs.2]
   simp only [Option.some.injEq,Prod.mk.injEq] at h
   exact ⟨n,ρ,m,σ,rfl,h.1,h.2.symm⟩
  ·cases h
 ·cases h
theorem u43 {X:RXX} {R:RBB} {args:List A1} {r:AV} (h:G43 (samBG X R) args = some (true,r)):(hcTreeP Tryz.prog (H43l X R) (X43 X R) 10 43 args).All (fun x => leA x r):=by
 obtain ⟨n,ρ,m,σ,e1,h1,e2⟩:=G43_some h
 rw [e1,e2,t43_eq]
 exact t43_all h1
theorem p43s {X:RXX} (hX:TcOne Tryz.prog 99 (nG (G99 X))) {R:RBB} (hR:UcOne Tryz.prog 43 (nG (G43 R))):UcOne Tryz.prog 43 (nG (G43 (samBG X R))):=by
 refine ucOneP_of_all (H:=H43l X R) (X:=X43 X R) (h43l hX hR) (x43 hX hR) 10 43 ?_
 intro args r h
 exact u43 h
def samBF (f:Nat):Nat → RBB
 | 0 => fun _ _ _ _ => none
 | d + 1 => samBG (samXF f) (samBF f d)
theorem p43 (f:Nat):∀ d,UcOne Tryz.prog 43 (nG (G43 (samBF f d)))
 | 0 => by
   intro args r h
   obtain ⟨n,ρ,m,σ,_,h1,_⟩:=G43_some (nG_sel h)
   cases h1
 | d + 1 => p43s (p99 f) (p43 f d)
end Go.Proofs.YtiefjlcakpdfeaaGreat
namespace Go.Proofs.YtiefjlcakpdfeaaGreat
open Go Go.Sx Go.RowKit Rb
set_option maxRecDepth 100000
variable {n m:Nat} {ρ σ:Val}
theorem eqWL_ok {ρ σ:Val} (hn:n ≤ 100000) (h:∀ j,j < n → wd ρ j = wd σ j):∀ f (i:Nat),n + 1 ≤ f + i → i ≤ n → eqWL n ρ n σ (toInt64 n) f (i:Int) = some true
 | 0,i,h1,h2 => by omega
 | f + 1, i, h1, h2 => by
   unfold eqWL
   rcases Nat.lt_or_ge i n with hi | hi
   ·have e1:lt (i:Int) (toInt64 n) = true:=by unfold lt toInt64; simp; exact hi
    have e4:IntKind.wrap .i64 ((i:Int) + 1) = ((i + 1:Nat):Int):=by rw [Ro.w64_id (by omega) (by omega)]; omega
    have e5:strEq (wd ρ i) (wd σ i) = true:=(strEq_iff _ _).2 (h i hi)
    rw [e1,inR hi,e4]
    simp only [nd,cond_true,Int.toNat_natCast,e5,Bool.not_true,cond_false]
    exact eqWL_ok hn h f (i + 1) (by omega) (by omega)
   ·have e1:lt (i:Int) (toInt64 n) = false:=by unfold lt toInt64; simp; omega
    rw [e1]
    rfl
theorem eqWS_ok {a b:Nat} {ρ σ:Val} (hab:a = b) (hn:a ≤ 100000) (h:∀ j,j < a → wd ρ j = wd σ j):eqWS a ρ b σ = some true:=by
 subst hab
 unfold eqWS
 have e:(toInt64 a != toInt64 a) = false:=by simp
 rw [e]
 exact eqWL_ok hn h (a + 1) 0 (by omega) (by omega)
end Go.Proofs.YtiefjlcakpdfeaaGreat
namespace Go.Proofs.YtiefjlcakpdfeaaGreat
open Go Go.Sx Go.RowKit Rb
set_option maxRecDepth 100000
def G10 (R:RBB):List A1 → Option (Bool × AV)
 | [.agg [.str a,.sl es n ρ],.agg [.str b,.sl es' m σ]] => if shEq.shsEq es (rtab 1) && shEq.shsEq es' (rtab 1) then some (!((strEq a b == true) && true) || os1 (R n ρ m σ),encBo (bif strEq a b then ov1 false (R n ρ m σ) else false)) else none
 | _ => none
noncomputable abbrev H10 (R:RBB):Hd:=⟨[],[(43,nG (G43 R))],[],[]⟩
theorem h10 {R:RBB} (hR:UcOne Tryz.prog 43 (nG (G43 R))):HdOk Tryz.prog (H10 R):=HdOk.nil.ucCons hR
theorem t10_eq (R : RBB) (a : ByteArray) (n : Nat) (ρ : Val) (b : ByteArray) (m : Nat) (σ : Val) :
  hcTree Tryz.prog (H10 R) 10 10 [.agg [.str a,.sl (rtab 1) n ρ],.agg [.str b,.sl (rtab 1) m σ]] = .need (!((strEq a b == true) && true) || os1 (R n ρ m σ)) (.leaf (encBo (bif strEq a b then ov1 false (R n ρ m σ) else false))):=by kernel_rfl
theorem G10_some {R:RBB} {args:List A1} {r:AV} (h:G10 R args = some (true,r)):∃ a n ρ b m σ,args = [.agg [.str a,.sl (rtab 1) n ρ],.agg [.str b,.sl (rtab 1) m σ]] ∧ (!((strEq a b == true) && true) || os1 (R n ρ m σ)) = true ∧ r = encBo (bif strEq a b then ov1 false (R n ρ m σ) else false):=by
 unfold G10 at h
 split at h
 ·rename_i a es n ρ b es' m σ
  split at h
  ·rename_i hs
   rw [Bool.and_eq_true] at hs
   rw [shsEq_eq hs.1,shsEq_eq hs.2]
   simp only [Option.some.injEq,Prod.mk.injEq] at h
   exact ⟨a,n,ρ,b,m,σ,rfl,h.1,h.2.symm⟩
  ·cases h
 ·cases h
theorem p10 {R:RBB} (hR:UcOne Tryz.prog 43 (nG (G43 R))):UcOne Tryz.prog 10 (nG (G10 R)):=by
 refine ucOne_of_all (H:=H10 R) (h10 hR) 10 10 ?_
 intro args r h
 obtain ⟨a,n,ρ,b,m,σ,e1,h1,e2⟩:=G10_some h
 rw [e1,e2,t10_eq,h1]
 exact ⟨rfl,leA.refl⟩
theorem densX_len:∀ l:List AstX,(AstX.dens l).length = l.length
 | [] => rfl
 | a :: r => by show (AstX.dens r).length + 1 = r.length + 1; rw [densX_len r]
theorem densX_nth:∀ (l:List AstX) (i:Nat),nth (AstX.dens l) i = (nth l i).map AstX.den
 | [],i => by simp [AstX.dens,nth]
 | a :: r,0 => rfl
 | a :: r,i + 1 => densX_nth r i
theorem flat3s:∀ (l:List RX) (i:Nat) (t:RX),nth l i = some t → ∀ f,f < 3 → nth (l.flatMap RX.cells) (i * 3 + f) = nth t.cells f
 | [],i,t,h,_,_ => by simp [nth] at h
 | a :: r, 0, t, h, f, hf => by
   have:a = t:=by simpa [nth] using h
   subst this
   rw [List.flatMap_cons,nth_eq,nth_eq,Nat.zero_mul,Nat.zero_add,List.getElem?_append_left (by show f < 3; exact hf)]
 | a :: r, i + 1, t, h, f, hf => by
   have h:nth r i = some t:=h
   have hl:(RX.cells a).length = 3:=rfl
   rw [List.flatMap_cons,nth_eq,List.getElem?_append_right (by rw [hl]; omega),hl,← nth_eq]
   have:(i + 1) * 3 + f - 3 = i * 3 + f:=by omega
   rw [this]
   exact flat3s r i t h f hf
theorem kid_at {l:List RX} {i:Nat} {t:RX} (h:nth l i = some t) {f:Nat} (hf:f < 3):((Val.ofFlat 3 (l.flatMap RX.cells)).at i).at f = match nth t.cells f with | some x => .ofC x | none => .zero:=by
 show (match nth (l.flatMap RX.cells) (i * 3 + f) with | some x => Val.ofC x | none => .zero) = _
 rw [flat3s l i t h f hf]
def LieX (e:AstX) (x:RX):Prop:=x.op = e.den.op ∧ x.v = e.den.v ∧ x.n = e.den.n ∧ ∀ i,x.ρ.at i = e.den.ρ.at i
theorem lie_kid {op:ByteArray} {v:Int} {l:List AstX} {x:RX} (h:LieX (.mk op v l) x) {i:Nat} {e:AstX} (hi:nth l i = some e):LieX e (kidX x.ρ i):=by
 have hn:nth (AstX.dens l) i = some e.den:=by rw [densX_nth,hi]; rfl
 have h0:=kid_at hn (f:=0) (by omega)
 have h1:=kid_at hn (f:=1) (by omega)
 have h2:=kid_at hn (f:=2) (by omega)
 have e0:x.ρ.at i = (Val.ofFlat 3 ((AstX.dens l).flatMap RX.cells)).at i:=h.2.2.2 i
 unfold kidX
 rw [e0,h0,h1,h2]
 exact ⟨rfl,rfl,rfl,fun _ => rfl⟩
theorem samXL_ok {R:RXX} {x y:RX} {n:Nat} (hx:x.n = n) (hy:y.n = n) (hn:n ≤ 2) (h:∀ i,i < n → R (kidX x.ρ i) (kidX y.ρ i) = some true):∀ f (k:Nat),k ≤ n → n + 1 ≤ f + k → samXL R x y (toInt64 n) f (k:Int) = some true
 | 0,k,h1,h2 => by omega
 | f + 1, k, h1, h2 => by
   unfold samXL
   rcases Nat.lt_or_ge k n with hk | hk
   ·have e1:lt (k:Int) (toInt64 n) = true:=by unfold lt toInt64; simp; exact hk
    rw [e1,hx,hy,inR hk,Int.toNat_natCast,wrapS (by omega),h k hk]
    simp only [cond_true,nd,Option.bind,Bool.not_true,cond_false]
    exact samXL_ok hx hy hn h f (k + 1) (by omega) (by omega)
   ·have e1:lt (k:Int) (toInt64 n) = false:=by unfold lt toInt64; simp; omega
    rw [e1]; rfl
theorem strEq_rfl (a:ByteArray):strEq a a = true:=(strEq_iff a a).2 rfl
theorem samX_ok:∀ (f k:Nat) (e:AstX) (x y:RX),k ≤ f → DX k e → LieX e x → LieX e y → samXF f x y = some true
 | 0, k, e, x, y, hk, hd, _, _ => by
   cases hd with
  | mk hl h => omega
 | f + 1, k, e, x, y, hk, hd, hx, hy => by
   cases hd with
  | mk hl h =>
   rename_i k op v l
   show samXG (samXF f) x y = some true
   unfold samXG
   have hn:x.n = l.length:=hx.2.2.1.trans (densX_len l)
   have hn':y.n = l.length:=hy.2.2.1.trans (densX_len l)
   have e1:difX x y = false:=by
    unfold difX
    rw [hx.1,hy.1,hx.2.1,hy.2.1,hn,hn',strEq_rfl]
    simp
   rw [e1,hn]
   simp only [cond_false]
   refine samXL_ok hn hn' hl (fun i hi => ?_) (l.length + 1) 0 (by omega) (by omega)
   obtain ⟨a,ha⟩:=nth_some_of_lt l i hi
   exact samX_ok f k a _ _ (by omega) (h a (nth_memA ha)) (lie_kid hx ha) (lie_kid hy ha)
theorem samBL_ok {X:RXX} {R:RBB} {n:Nat} {ρ σ:Val} (hn:n ≤ 10000) (h:∀ i,i < n → difS X R (stAt ρ i) (stAt σ i) = some false):∀ f (k:Nat),k ≤ n → n + 1 ≤ f + k → samBL X R n ρ n σ (toInt64 n) f (k:Int) = some true
 | 0,k,h1,h2 => by omega
 | f + 1, k, h1, h2 => by
   unfold samBL
   rcases Nat.lt_or_ge k n with hk | hk
   ·have e1:lt (k:Int) (toInt64 n) = true:=by unfold lt toInt64; simp; exact hk
    rw [e1,inR hk,Int.toNat_natCast,wrapS (by omega),h k hk]
    simp only [cond_true,nd,Option.bind,cond_false]
    exact samBL_ok hn h f (k + 1) (by omega) (by omega)
   ·have e1:lt (k:Int) (toInt64 n) = false:=by unfold lt toInt64; simp; omega
    rw [e1]; rfl
theorem difS_ok {X:RXX} {R:RBB} {s t:RS} (h1:s.kind = t.kind) (h2:eqWS s.wn s.wρ t.wn t.wρ = some true) (h3:X s.cond t.cond = some true) (h4:R s.bn s.bρ t.bn t.bρ = some true) (h5:R s.en s.eρ t.en t.eρ = some true):difS X R s t = some false:=by
 unfold difS ned1 ned2 ned3 ned4 dif5 dif4 dif3 dif2 dif1
 rw [h1,h2,h3,h4,h5,strEq_rfl]
 rfl
theorem samB_ok {f:Nat} (hf:10000 ≤ f):∀ (d k:Nat) (l l':List AstS) (ρ ρ':Val),k < d → All2 SR l l' → l.length ≤ 10000 → (∀ t ∈ l,DS k t) → k ≤ 10000 → LieL l ρ → LieL l' ρ' → samBF f d l.length ρ l'.length ρ' = some true
 | 0,k,_,_,_,_,h,_,_,_,_,_,_ => by omega
 | d + 1, k, l, l', ρ, ρ', hk, hr, hl, hd, hk1, h1, h2 => by
   have hll:l'.length = l.length:=hr.length.symm
   rw [hll]
   show samBG (samXF f) (samBF f d) l.length ρ l.length ρ' = some true
   unfold samBG
   have e1:(toInt64 l.length != toInt64 l.length) = false:=by simp
   rw [e1]
   simp only [cond_false]
   refine samBL_ok hl (fun i hi => ?_) (l.length + 1) 0 (by omega) (by omega)
   obtain ⟨t,t',e1,e2,hs⟩:=all2_nth hr hi
   have hdt:=hd t (nth_memA e1)
   cases hs with
  | mk hb hx =>
   cases hdt with
  | mk hw hu hb1 hb2 hx1 hx2 he =>
   obtain ⟨a1,a2,a3,a4,a5,a6,a7,a8,a9⟩:=lie_st h1 e1
   obtain ⟨b1,b2,b3,b4,b5,b6,b7,b8,b9⟩:=lie_st h2 e2
   refine difS_ok (a1.trans b1.symm) ?_ ?_ ?_ ?_
   ·rw [a2,b2,a3,b3]
    exact eqWS_ok rfl (by omega) fun _ _ => rfl
   ·refine samX_ok f _ _ _ _ (by omega) he ?_ ?_
    ·rw [a4]; exact ⟨rfl,rfl,rfl,fun _ => rfl⟩
    ·rw [b4]; exact ⟨rfl,rfl,rfl,fun _ => rfl⟩
   ·rw [a5,b5]
    exact samB_ok hf d _ _ _ _ _ (by omega) hb (by omega) hb2 (by omega) a6 b6
   ·rw [a7,b7]
    exact samB_ok hf d _ _ _ _ _ (by omega) hx (by omega) hx2 (by omega) a8 b8
def hashC (c:UInt8):Bool:=isC 35 c
def noHash (l:List UInt8):Prop:=∀ c ∈ l,hashC c = false
def cutW:List UInt8 → Bool
 | [] => true
 | c :: _ => !wordC c
theorem skip_p:∀ (p:List UInt8),noHash p → (∀ t,skipC false (p ++ t) = skipC false t) ∨ ∃ c p2,noHash (c :: p2) ∧ ∀ t,skipC false (p ++ t) = c :: (p2 ++ t)
 | [],_ => .inl fun _ => rfl
 | c :: r, h => by
   have hc:=h c (by simp)
   have hr:noHash r:=fun d hd => h d (by simp [hd])
   have e:∀ t,skipC false (c :: r ++ t) = bif spC c then skipC false (r ++ t) else c :: (r ++ t):=by
    intro t
    show (bif spC c then skipC false (r ++ t) else bif isC 35 c then skipC true (r ++ t) else c :: (r ++ t)) = _
    have hc:isC 35 c = false:=hc
    rw [hc]
    rfl
   cases hs:spC c with
  | true =>
    rcases skip_p r hr with h1 | ⟨d,p2,h1,h2⟩
    ·exact .inl fun t => by rw [e,hs]; exact h1 t
    ·exact .inr ⟨d,p2,h1,fun t => by rw [e,hs]; exact h2 t⟩
  | false => exact .inr ⟨c,r,h,fun t => by rw [e,hs]; rfl⟩
theorem word_p:∀ (p t:List UInt8),cutW t = true → (p ++ t).takeWhile wordC = p.takeWhile wordC ∧ (p ++ t).dropWhile wordC = p.dropWhile wordC ++ t
 | [],[],_ => ⟨rfl,rfl⟩
 | [], c :: r, h => by
   have h:wordC c = false:=by simpa [cutW] using h
   rw [List.nil_append,List.takeWhile_cons,List.dropWhile_cons,h]
   exact ⟨rfl,rfl⟩
 | c :: r, t, h => by
   rw [List.cons_append,List.takeWhile_cons,List.takeWhile_cons,List.dropWhile_cons,List.dropWhile_cons]
   obtain ⟨h1,h2⟩:=word_p r t h
   cases wordC c with
  | true => exact ⟨by simp only [if_true,h1],by simp only [if_true,h2]⟩
  | false => exact ⟨rfl,rfl⟩
theorem noHash_drop:∀ (p:List UInt8),noHash p → noHash (p.dropWhile wordC)
 | [],h => h
 | c :: r, h => by
   rw [List.dropWhile_cons]
   split
   ·exact noHash_drop r fun d hd => h d (by simp [hd])
   ·exact h
def R2 (t t':List UInt8) (q q':LS):Prop:=q.1 = q'.1 ∧ (q.2.1 = q'.2.1 ∨ ∃ p,noHash p ∧ q.2.1 = p ++ t ∧ q'.2.1 = p ++ t')
theorem tok_same {N N':Nat} {t t':List UInt8}:∀ l:List UInt8,PRel (fun _ _ => True) (R2 t t') (fun _ _ => True) (tokL N l) (tokL N' l)
 | [] => .ret trivial ⟨rfl,.inl rfl⟩
 | c :: r => by
   rw [tokL_cons,tokL_cons]
   exact .cond (.ret trivial ⟨rfl,.inl rfl⟩) (.cond (.ret trivial ⟨rfl,.inl rfl⟩) (.pan trivial))
theorem r2_rel {N N':Nat} {t t':List UInt8} (ht:cutW t = true) (ht':cutW t' = true) (hs:skipC false t = skipC false t'):MRel (fun _ _ => True) (LM N) (LM N') (R2 t t') where
 tx:=fun h => h.1
 pos:=fun _ => trivial
 adv:=fun {s s'} h => by
  show PRel _ _ _ (tokL N (skipC false s.2.1)) (tokL N' (skipC false s'.2.1))
  obtain ⟨_,h | ⟨p,hp,h1,h2⟩⟩:=h
  ·rw [h]
   exact tok_same _
  ·rw [h1,h2]
   rcases skip_p p hp with h3 | ⟨c,p2,h3,h4⟩
   ·rw [h3,h3,hs]
    exact tok_same _
   ·rw [h4,h4,tokL_cons,tokL_cons]
    obtain ⟨w1,w2⟩:=word_p p2 t ht
    obtain ⟨w3,w4⟩:=word_p p2 t' ht'
    have hp2:noHash p2:=fun d hd => h3 d (by simp [hd])
    rw [w1,w2,w3,w4]
    exact .cond (.ret trivial ⟨rfl,.inr ⟨_,noHash_drop p2 hp2,rfl,rfl⟩⟩) (.cond (.ret trivial ⟨rfl,.inr ⟨p2,hp2,rfl,rfl⟩⟩) (.pan trivial))
theorem book_r2 {N N' : Nat} {p t t' : List UInt8} (hp : noHash p) (ht : cutW t = true) (ht' : cutW t' = true) (hs : skipC false t = skipC false t') :
  PRel (fun _ _ => True) (R2 t t') (fun x x' => x.1 = x'.1 ∧ All2 SR x.2 x'.2) (bookL N (p ++ t)) (bookL N' (p ++ t')) :=
 bookM_rel (r2_rel ht ht' hs) (sts_rel (r2_rel ht ht' hs) af_sr 10000 10000).2 _ _ ⟨rfl,.inr ⟨p,hp,rfl,rfl⟩⟩
theorem book_sp (N:Nat) (l:List UInt8):bookL N (32 :: l) = bookL N l:=rfl
def insL:List UInt8:=[32,35,32,100,111,32,123,32,115,48,32,59,10,9]
def finL:List UInt8:=[10,35,32,125]
theorem skip_ins (l:List UInt8):skipC false (insL ++ l) = skipC false l:=rfl
theorem skip_fin:skipC false finL = skipC false []:=rfl
theorem same_ins {s s' : ByteArray} {p t : List UInt8} (h1 : lst s = p ++ t) (h2 : lst s' = p ++ (insL ++ t)) (hp : noHash p) (ht : cutW t = true) (hs : s.size ≤ 2000) (hs' : s'.size ≤ 2000) :
  (parseA s).1 = (parseA s').1 ∧ All2 SR (parseA s).2.1 (parseA s').2.1 ∧ (parseA s).2.2.2 = (parseA s').2.2.2:=by
 have e1:lt 8192 (toInt64 s.size) = false:=by unfold lt toInt64; simp; omega
 have e2:lt 8192 (toInt64 s'.size) = false:=by unfold lt toInt64; simp; omega
 unfold parseA
 rw [e1,e2]
 simp only [cond_false]
 rw [h1,h2]
 exact parse_same (by rw [← h1]; show s.size ≤ 9000; omega) (book_r2 (N:=s.size) (N':=s'.size) hp ht rfl (skip_ins t).symm)
theorem same_fin {s s' : ByteArray} (h2 : lst s' = 32 :: (lst s ++ finL)) (hp : noHash (lst s)) (hs : s.size ≤ 2000) (hs' : s'.size ≤ 2000) :
  (parseA s).1 = (parseA s').1 ∧ All2 SR (parseA s).2.1 (parseA s').2.1 ∧ (parseA s).2.2.2 = (parseA s').2.2.2:=by
 have e1:lt 8192 (toInt64 s.size) = false:=by unfold lt toInt64; simp; omega
 have e2:lt 8192 (toInt64 s'.size) = false:=by unfold lt toInt64; simp; omega
 unfold parseA
 rw [e1,e2]
 simp only [cond_false]
 rw [h2,book_sp]
 have:=book_r2 (N:=s.size) (N':=s'.size) (p:=lst s) (t:=[]) (t':=finL) hp rfl rfl skip_fin.symm
 rw [List.append_nil] at this
 exact parse_same (by show s.size ≤ 9000; omega) this
def hasHash (s:ByteArray):Bool:=decide (0 ≤ Lib.indexByte s.data.toList 35)
def G21:List A1 → Option (Bool × AV)
 | [.c (.str s),.c (.str t)] => if t = bs [35] then some (true,encBo (hasHash s)) else none
 | _ => none
theorem p21:UcOne Tryz.prog 21 (nG G21):=by
 intro args r hG hcl F w vs hargs
 have h:=nG_sel hG
 unfold G21 at h
 split at h
 ·rename_i s t
  split at h
  ·rename_i ht
   subst ht
   simp only [Option.some.injEq,Prod.mk.injEq] at h
   obtain ⟨_,rfl⟩:=h
   cases hargs with
   | cons a1 a2 => cases a2 with
    | cons a2 a3 =>
      cases a3
      cases a1; cases a2
      refine (Tryz.strings_Contains_one s 35 w).mono fun e w2 ⟨he,hw⟩ => ?_
      subst hw
      exact ⟨.bool (hasHash s),he,Below.refl _ _,CV.Rel.bool _⟩
  ·cases h
 ·cases h
theorem noHash_of {s:ByteArray} (h:hasHash s = false):noHash (lst s):=by
 have h1:¬ (0 ≤ Lib.indexByte s.data.toList 35):=of_decide_eq_false h
 have hge:=Lib.indexByte_ge s.data.toList 35
 have hn:=Lib.indexByte_none (l:=s.data.toList) (c:=35) (by omega)
 intro c hc
 obtain ⟨i,hi,rfl⟩:=List.getElem_of_mem hc
 have:=hn i
 rw [List.getElem?_eq_getElem hi] at this
 unfold hashC isC
 cases hb:(((lst s)[i].toNat:Int) == 35) with
 | false => rfl
 | true =>
   have h2:(lst s)[i].toNat = 35:=by have:=eq_of_beq hb; omega
   have h3:(lst s)[i] = 35:=UInt8.toNat_inj.1 (by rw [h2]; rfl)
   exact absurd (by rw [h3]) this
abbrev PaF:=ByteArray → Option Book
def G8p (Q:PaF):List A1 → Option (Bool × AV)
 | [.c (.str s)] => some (oB (Q s),encK (oV (Q s)))
 | _ => none
def wSpaces:ByteArray:=bs [32,9,10]
def G22 (I:ByteArray → Int):List A1 → Option (Bool × AV)
 | [.c (.str s),.c (.str t)] => if strEq t wSpaces then some (Nat.ble s.size 100000,encI (I s)) else none
 | _ => none
def G21h (h:ByteArray → Bool):List A1 → Option (Bool × AV)
 | [.c (.str s),.c (.str t)] => if strEq t (bs [35]) then some (true,encBo (h s)) else none
 | _ => none
noncomputable abbrev H5s (h:ByteArray → Bool) (I:ByteArray → Int) (Q:PaF) (R:RBB):Hd:=⟨[],[(7,nG G7),(8,nG (G8p Q)),(10,nG (G10 R)),(21,nG (G21h h)),(22,nG (G22 I))],[],[]⟩
noncomputable abbrev v5 (h:ByteArray → Bool) (I:ByteArray → Int) (Q:PaF) (R:RBB) (s:ByteArray) (a:Int):Tree AV:=(evFn Tryz.prog (H5s h I Q R) 10 5 [.c (.str s),.c (.int .u16 a)] []).vals
def c5a (h:ByteArray → Bool) (s:ByteArray):Bool:=bif lt 1000 (toInt64 s.size) then true else h s
theorem path5a (h : ByteArray → Bool) (I : ByteArray → Int) (Q : PaF) (R : RBB) (s : ByteArray) (a : Int) :
  (v5 h I Q R s a).follow [true] = some ([(!((lt 1000 (toInt64 s.size) == false) && true) || true,true),(c5a h s,true),(true,true)],encBo true):=by kernel_rfl
def m5 (s:ByteArray) (a:Int):Int:=imin (IntKind.wrap .i64 a) (toInt64 s.size)
def suf5 (s:ByteArray) (m:Int):ByteArray:=strSub s m.toNat (toInt64 s.size).toNat
def pre5 (h:ByteArray → Bool) (s:ByteArray) (m:Int):List (Bool × Bool) :=
 [(!((lt 1000 (toInt64 s.size) == false) && true) || true,true),(c5a h s,false),(le 0 m && le m (toInt64 s.size) && le (toInt64 s.size) (toInt64 s.size),true),(Nat.ble (suf5 s m).size 100000,true)]
theorem path5b (h : ByteArray → Bool) (I : ByteArray → Int) (Q : PaF) (R : RBB) (s : ByteArray) (a : Int) :
  (v5 h I Q R s a).follow [false,true] = some (pre5 h s (m5 s a) ++ [(lt (I (suf5 s (m5 s a))) 0,true),(true,true)],encBo true):=by kernel_rfl
def k5 (I:ByteArray → Int) (s:ByteArray) (a:Int):Int:=IntKind.wrap .i64 (I (suf5 s (m5 s a)) + m5 s a)
def ins5:ByteArray:=bs [32,35,32,100,111,32,123,32,115,48,32,59,10,9]
def fin5:ByteArray:=bs [10,35,32,125]
def head5 (s:ByteArray) (k:Int):ByteArray:=strSub s 0 k.toNat
def text2 (s:ByteArray) (k:Int):ByteArray:=strCat (strCat (head5 s k) ins5) (suf5 s k)
def text3 (s:ByteArray):ByteArray:=strCat (strCat (bs [32]) s) fin5
def same5 (R:RBB) (x y:Book):Bool:=and2 (strEq x.1 y.1) (ov1 false (R x.2.1.length (blkV x.2.1) y.2.1.length (blkV y.2.1)))
def need5 (R:RBB) (x y:Book):Bool:=!((strEq x.1 y.1 == true) && true) || os1 (R x.2.1.length (blkV x.2.1) y.2.1.length (blkV y.2.1))
theorem path5c (h : ByteArray → Bool) (I : ByteArray → Int) (Q : PaF) (R : RBB) (s : ByteArray) (a : Int) :
  (v5 h I Q R s a).follow [false,false] = let k:=k5 I s a; let x:=oV (Q s); let y:=oV (Q (text2 s k)); let z:=oV (Q (text3 s)); let e:=and2 (x.2.2.2 == y.2.2.2) (x.2.2.2 == z.2.2.2)
   some (pre5 h s (m5 s a) ++ [(lt (I (suf5 s (m5 s a))) 0,false),(oB (Q s),true),(true && le 0 k && le k (toInt64 s.size),true),(Nat.ble ((head5 s k).size + ins5.size) 9223372036854775807,true),(le 0 k && le k (toInt64 s.size) && le (toInt64 s.size) (toInt64 s.size),true),
    (Nat.ble ((strCat (head5 s k) ins5).size + (suf5 s k).size) 9223372036854775807,true),(oB (Q (text2 s k)),true),(Nat.ble ((bs [32]).size + s.size) 9223372036854775807,true),(Nat.ble ((strCat (bs [32]) s).size + fin5.size) 9223372036854775807,true),(oB (Q (text3 s)),true),
    (!((e == true) && true) || need5 R x y,true),(!((and2 e (same5 R x y) == true) && true) || need5 R x z,true),(!((and2 (and2 e (same5 R x y)) (same5 R x z) == true) && true) || true,true)],
    encBo (and2 (and2 (and2 e (same5 R x y)) (same5 R x z)) true)):=by kernel_rfl
theorem ucOne_le {P:Program} {f:Nat} {G G':List A1 → Option (Bool × AV)} (h:UcOne P f (nG G)) (hg:∀ args r,G' args = some (true,r) → G args = some (true,r)):UcOne P f (nG G'):=by
 intro args r hs
 refine h args r ?_
 have:=hg args r (nG_sel hs)
 unfold nG
 rw [this]
 rfl
theorem p21h:UcOne Tryz.prog 21 (nG (G21h hasHash)):=ucOne_le p21 fun args r h => by
 unfold G21h at h
 split at h
 ·rename_i s t
  split at h
  ·rename_i ht
   have:=(strEq_iff _ _).1 ht
   subst this
   exact h
  ·cases h
 ·cases h
def Q5:PaF:=parseS 40 10001 (blK 10000 10000)
theorem p8q:UcOne Tryz.prog 8 (nG (G8p Q5)):=ucOne_le (p8F 9999 10000 40 10001 (by decide)) fun args r h => by
 unfold G8p at h
 split at h
 ·exact h
 ·cases h
def R5:RBB:=samBF 10000 10001
theorem h5s {I:ByteArray → Int} (hI:UcOne Tryz.prog 22 (nG (G22 I))):HdOk Tryz.prog (H5s hasHash I Q5 R5) :=
 ((((HdOk.nil.ucCons hI).ucCons p21h).ucCons (p10 (p43 10000 10001))).ucCons p8q).ucCons p7
theorem parseA_ok {s:ByteArray} (hs:s.size ≤ 9000):(parseA s).2.1.length ≤ 10000 ∧ ∀ t ∈ (parseA s).2.1,DS 10000 t:=by
 unfold parseA
 cases lt 8192 (toInt64 s.size) with
 | true => exact ⟨Nat.zero_le _,fun t ht => by cases ht⟩
 | false =>
   simp only [cond_false]
   have h:=bookL_ok s.size (l:=lst s) hs
   cases hb:bookL s.size (lst s) with
  | stuck => exact ⟨Nat.zero_le _,fun t ht => by cases ht⟩
  | pan a => exact ⟨Nat.zero_le _,fun t ht => by cases ht⟩
  | ret x q =>
    rw [hb] at h
    have e:endL (.ret x q) = bif errN x != 0 then (bs [],[],0,errN x) else (x.1,x.2,0,0):=rfl
    rw [e]
    cases errN x != 0 with
   | true => exact ⟨Nat.zero_le _,fun t ht => by cases ht⟩
   | false => exact h.2
theorem sp_word {c:UInt8} (h:spC c = true):wordC c = false:=by
 have key:∀ n:Fin 256,isSp (n.val:Int) = true → wordB (n.val:Int) = false:=by decide +kernel
 exact key ⟨c.toNat,c.toNat_lt⟩ h
theorem same_R {x y:ABook} (h1:x.1 = y.1) (h2:All2 SR x.2.1 y.2.1) (hl:x.2.1.length ≤ 10000) (hd:∀ t ∈ x.2.1,DS 10000 t):same5 R5 (toBook x) (toBook y) = true ∧ need5 R5 (toBook x) (toBook y) = true:=by
 have h:=samB_ok (f:=10000) (Nat.le_refl _) 10001 10000 x.2.1 y.2.1 _ _ (by omega) h2 hl hd (Nat.le_refl _) (fun _ => rfl) (fun _ => rfl)
 unfold same5 need5 toBook R5
 simp only [dens_len,h,h1,strEq_rfl]
 exact ⟨rfl,rfl⟩
theorem cat_lst (a b:ByteArray):lst (strCat a b) = lst a ++ lst b:=rfl
theorem size_lst (s:ByteArray):s.size = (lst s).length:=rfl
theorem law5 {I : ByteArray → Int} (hI : UcOne Tryz.prog 22 (nG (G22 I))) (hI2 : ∀ t : ByteArray, t.size ≤ 1000 → 0 ≤ I t → ∃ c, (lst t)[(I t).toNat]? = some c ∧ spC c = true) {s : ByteArray} {a : Int} (ha : 0 ≤ a) (ha2 : a ≤ 65535)
  {F:Nat → Prop} {W:World} {vs:List Value} (hargs:All2 (A1.Rel F W []) [.c (.str s),.c (.int .u16 a)] vs):Calls Tryz.prog 5 vs.toArray W (fun e W' => e = .returned (.bool true) ∧ Below W.heap.size W W'):=by
 have c0:(!((lt 1000 (toInt64 s.size) == false) && true) || true) = true:=by simp
 cases hc:c5a hasHash s with
 | true =>
   refine law_of_follow (h5s hI) 10 5 (path5a hasHash I Q5 R5 s a) ?_ rfl hargs
   simp only [okB,List.all_cons,List.all_nil,c0,hc]
   rfl
 | false =>
 have hsz:s.size ≤ 1000 ∧ hasHash s = false:=by
  unfold c5a at hc
  cases h1:lt 1000 (toInt64 s.size) with
  | true => rw [h1] at hc; cases hc
  | false =>
    rw [h1] at hc
    exact ⟨by unfold lt toInt64 at h1; simp at h1; omega,hc⟩
 obtain ⟨hs,hh⟩:=hsz
 have hm:∃ m:Nat,m5 s a = (m:Int) ∧ m ≤ s.size:=by
  unfold m5 imin toInt64
  rw [Ro.w64_id (by omega) (by omega)]
  cases hl:lt (s.size:Int) a with
  | true => exact ⟨s.size,rfl,Nat.le_refl _⟩
  | false =>
    unfold lt at hl
    simp at hl
    exact ⟨a.toNat,by simp; omega,by omega⟩
 obtain ⟨m,hm1,hm2⟩:=hm
 have hsuf0:(suf5 s (m:Int)).size ≤ 1000:=by
  show (((lst s).take s.size).drop m).length ≤ 1000
  rw [List.length_drop,List.length_take,lst_len]
  omega
 have hpre:okB (pre5 hasHash s (m:Int)) = true:=by
  have c2:Nat.ble (suf5 s (m:Int)).size 100000 = true:=by rw [Nat.ble_eq]; omega
  have c1:(le 0 (m:Int) && le (m:Int) (toInt64 s.size) && le (toInt64 s.size) (toInt64 s.size)) = true:=by unfold le toInt64; simp; omega
  simp only [pre5,okB,List.all_cons,List.all_nil,c0,hc,c1,c2]
  rfl
 have hsuf:∀ k:Nat,k ≤ s.size → lst (suf5 s (k:Int)) = (lst s).drop k:=by
  intro k _
  show ((lst s).take s.size).drop k = _
  rw [List.take_of_length_le (by rw [lst_len]; exact Nat.le_refl _)]
 cases hi:lt (I (suf5 s (m:Int))) 0 with
 | true =>
   have hp:=path5b hasHash I Q5 R5 s a
   rw [hm1] at hp
   refine law_of_follow (h5s hI) 10 5 hp ?_ rfl hargs
   unfold okB at hpre ⊢
   rw [List.all_append,hpre]
   simp only [List.all_cons,List.all_nil,hi]
   rfl
 | false =>
 have hi0:0 ≤ I (suf5 s (m:Int)):=by unfold lt at hi; simp at hi; exact hi
 obtain ⟨c,hc1,hc2⟩:=hI2 (suf5 s (m:Int)) (by rw [size_lst,hsuf m hm2,List.length_drop,lst_len]; omega) hi0
 rw [hsuf m hm2,List.getElem?_drop] at hc1
 obtain ⟨j,hj⟩ : ∃ j:Nat,I (suf5 s (m:Int)) = (j:Int):=⟨(I (suf5 s (m:Int))).toNat,by omega⟩
 rw [hj,Int.toNat_natCast] at hc1
 have hk:m + j < s.size:=by
  have:=(List.getElem?_eq_some_iff.1 hc1).1
  exact this
 have hk5:k5 I s a = ((m + j:Nat):Int):=by
  unfold k5
  rw [hm1,hj,Ro.w64_id (by omega) (by omega)]
  omega
 have hhead:lst (head5 s ((m + j:Nat):Int)) = (lst s).take (m + j):=rfl
 have hdrop:(lst s).drop (m + j) = c :: (lst s).drop (m + j + 1):=by
  rw [List.drop_eq_getElem_cons hk]
  have:=(List.getElem?_eq_some_iff.1 hc1).2
  rw [this]
 have h2l:lst (text2 s ((m + j:Nat):Int)) = (lst s).take (m + j) ++ (insL ++ (lst s).drop (m + j)):=by
  unfold text2
  rw [cat_lst,cat_lst,hhead,hsuf (m + j) (by omega),List.append_assoc]
  rfl
 have h3l:lst (text3 s) = 32 :: (lst s ++ finL):=by
  unfold text3
  rw [cat_lst,cat_lst]
  rfl
 have hno:=noHash_of hh
 have hnt:noHash ((lst s).take (m + j)):=fun d hd => hno d (List.mem_of_mem_take hd)
 have s2:(text2 s ((m + j:Nat):Int)).size ≤ 2000:=by
  rw [size_lst,h2l,List.length_append,List.length_append,List.length_take,List.length_drop,lst_len]
  have:insL.length = 14:=rfl
  omega
 have s3:(text3 s).size ≤ 2000:=by
  rw [size_lst,h3l,List.length_cons,List.length_append,lst_len]
  have:finL.length = 4:=rfl
  omega
 have hcut:cutW ((lst s).drop (m + j)) = true:=by rw [hdrop]; simp [cutW,sp_word hc2]
 obtain ⟨a1,a2,a3⟩:=same_ins (s:=s) (s':=text2 s ((m + j:Nat):Int)) (p:=(lst s).take (m + j)) (t:=(lst s).drop (m + j)) (List.take_append_drop _ _).symm h2l hnt hcut (by omega) s2
 obtain ⟨b1,b2,b3⟩:=same_fin (s:=s) h3l hno (by omega) s3
 obtain ⟨w1,w2⟩:=parseA_ok (s:=s) (by omega)
 have q1:Q5 s = some (toBook (parseA s)):=parse_eq s (by omega)
 have q2:Q5 (text2 s ((m + j:Nat):Int)) = some (toBook (parseA (text2 s ((m + j:Nat):Int)))):=parse_eq _ (by omega)
 have q3:Q5 (text3 s) = some (toBook (parseA (text3 s))):=parse_eq _ (by omega)
 obtain ⟨r1,r2⟩:=same_R a1 a2 w1 w2
 obtain ⟨r3,r4⟩:=same_R b1 b2 w1 w2
 have e1:((toBook (parseA s)).2.2.2 == (toBook (parseA (text2 s ((m + j:Nat):Int)))).2.2.2) = true:=by
  have:(toBook (parseA s)).2.2.2 = (toBook (parseA (text2 s ((m + j:Nat):Int)))).2.2.2:=a3
  rw [this]; simp
 have e2:((toBook (parseA s)).2.2.2 == (toBook (parseA (text3 s))).2.2.2) = true:=by
  have:(toBook (parseA s)).2.2.2 = (toBook (parseA (text3 s))).2.2.2:=b3
  rw [this]; simp
 have hp:=path5c hasHash I Q5 R5 s a
 simp only [hk5,hm1,q1,q2,q3,oV,oB,e1,e2,r1,r2,r3,r4] at hp
 refine law_of_follow (h5s hI) 10 5 hp ?_ rfl hargs
 have d1:(true && le 0 ((m + j:Nat):Int) && le ((m + j:Nat):Int) (toInt64 s.size)) = true:=by unfold le toInt64; simp; omega
 have d2:(le 0 ((m + j:Nat):Int) && le ((m + j:Nat):Int) (toInt64 s.size) && le (toInt64 s.size) (toInt64 s.size)) = true:=by unfold le toInt64; simp; omega
 have z1:(head5 s ((m + j:Nat):Int)).size ≤ 1000:=by rw [size_lst,hhead,List.length_take]; omega
 have z2:(suf5 s ((m + j:Nat):Int)).size ≤ 1000:=by rw [size_lst,hsuf (m + j) (by omega),List.length_drop,lst_len]; omega
 have z3:ins5.size = 14:=rfl
 have z4:fin5.size = 4:=rfl
 have z5:(bs [32]).size = 1:=rfl
 have z6:(strCat (head5 s ((m + j:Nat):Int)) ins5).size ≤ 2000:=by rw [size_lst,cat_lst,List.length_append,← size_lst,← size_lst]; omega
 have z7:(strCat (bs [32]) s).size ≤ 2000:=by rw [size_lst,cat_lst,List.length_append,← size_lst,← size_lst]; omega
 have d3:Nat.ble ((head5 s ((m + j:Nat):Int)).size + ins5.size) 9223372036854775807 = true:=by rw [Nat.ble_eq]; omega
 have d4:Nat.ble ((strCat (head5 s ((m + j:Nat):Int)) ins5).size + (suf5 s ((m + j:Nat):Int)).size) 9223372036854775807 = true:=by rw [Nat.ble_eq]; omega
 have d5:Nat.ble ((bs [32]).size + s.size) 9223372036854775807 = true:=by rw [Nat.ble_eq]; omega
 have d6:Nat.ble ((strCat (bs [32]) s).size + fin5.size) 9223372036854775807 = true:=by rw [Nat.ble_eq]; omega
 unfold okB at hpre ⊢
 rw [List.all_append,hpre]
 simp only [List.all_cons,List.all_nil,hi,d1,d2,d3,d4,d5,d6]
 rfl
noncomputable abbrev HC9:Hd:=⟨[pF 114,(113,oG G113)],[],[],[]⟩
theorem hC9:HdOk Tryz.prog HC9:=(HdOk.nil.pcCons p113).pF 114
abbrev XR9:HdP:=⟨[],[],[],[],[],3,[]⟩
theorem xR9:XOk Tryz.prog XR9:=XOk.nil
noncomputable def t59 (n:Int):Tree AV:=hcTreeP Tryz.prog HC9 XR9 20 59 [.c (.str (bs [32,9,10])),.c (.int .i32 n)]
abbrev runeB (n:Int):ByteArray:=Go.Sx.encI n
def lastI (n:Int):Int:=IntKind.wrap .i64 (toInt64 (runeB n).size - 1)
def endC (n:Int):List (Bool × Bool) :=
 [(lt (lastI n) (toInt64 3), true), (inRange (lastI n) 3, true), (inRange (lastI n) (runeB n).size, true), (strAt (bs [32, 9, 10]) (lastI n).toNat != strAt (runeB n) (lastI n).toNat, true),
   (le 0 (IntKind.wrap .i64 (lastI n + 1)) && le (IntKind.wrap .i64 (lastI n + 1)) (toInt64 3) && true,true),(inRange (lastI n) (runeB n).size,true),
   (lt (Lib.indexByte (strSub (bs [32,9,10]) (IntKind.wrap .i64 (lastI n + 1)).toNat (toInt64 3).toNat).data.toList (strAt (runeB n) (lastI n).toNat).toNat.toUInt8) 0,true)]
def c59 (n:Int):List (Bool × Bool):=[(le 0 n && lt n 128,false),(n == 65533,false)]
theorem path59a (n:Int):(t59 n).follow [false,false,true,false,true,true,true] = some (c59 n ++ [(le 0 n && lt n 55296,true),(false,false)] ++ endC n,encI64 (-1)):=by kernel_rfl
theorem path59c (n:Int):(t59 n).follow [false,false,false,true,false,true,true,true] = some (c59 n ++ [(le 0 n && lt n 55296,false),(lt 57343 n && le n 1114111,true),(false,false)] ++ endC n,encI64 (-1)):=by kernel_rfl
theorem path59d (n:Int):(t59 n).follow [false,false,false,true,false,false] = some (c59 n ++ [(le 0 n && lt n 55296,false),(lt 57343 n && le n 1114111,true),(false,false),(lt (lastI n) (toInt64 3),false)],encI64 (-1)):=by kernel_rfl
theorem path59e (n:Int):(t59 n).follow [false,false,false,false,true] = some (c59 n ++ [(le 0 n && lt n 55296,false),(lt 57343 n && le n 1114111,false),(true,true)],encI64 (-1)):=by kernel_rfl
theorem enc_facts {n:Int} (h:128 ≤ n) (hv:Utf8.valid n = true):∃ (m:Nat) (b:UInt8),(runeB n).size = m + 1 ∧ 1 ≤ m ∧ m ≤ 3 ∧ (n < 65536 → m ≤ 2) ∧ (65536 ≤ n → m = 3) ∧ strAt (runeB n) m = (b.toNat:Int) ∧ 128 ≤ b.toNat:=by
 have h1:(le 0 n && lt n 128) = false:=by unfold le lt; simp; omega
 have he:runeB n = Utf8.encode n:=by unfold runeB Go.Sx.encI; rw [h1]; rfl
 rw [he]
 unfold Utf8.encode
 simp only [hv,if_true]
 have hb:∀ k:Nat,128 ≤ (UInt8.ofNat (0x80 + k % 64)).toNat:=fun k => by
  rw [UInt8.toNat_ofNat']
  omega
 have hc:¬ n.toNat < 0x80:=by omega
 rw [if_neg hc]
 split
 ·exact ⟨1,_,rfl,by omega,by omega,fun _ => by omega,fun h => by omega,rfl,hb _⟩
 ·split
  ·exact ⟨2,_,rfl,by omega,by omega,fun _ => by omega,fun h => by omega,rfl,hb _⟩
  ·exact ⟨3,_,rfl,by omega,by omega,fun h => by omega,fun _ => rfl,rfl,hb _⟩
theorem endC_ok {n:Int} {m:Nat} {b:UInt8} (h1:(runeB n).size = m + 1) (h2:1 ≤ m) (h3:m ≤ 2) (h4:strAt (runeB n) m = (b.toNat:Int)) (h5:128 ≤ b.toNat):okB (endC n) = true:=by
 have hl:lastI n = (m:Int):=by
  unfold lastI
  rw [h1]
  show IntKind.wrap .i64 (((m + 1:Nat):Int) - 1) = _
  rw [Ro.w64_id (by omega) (by omega)]
  omega
 have hb:((b.toNat:Int)).toNat.toUInt8 = b:=by simp
 unfold endC
 rw [hl,h1,Int.toNat_natCast,h4,hb,wrapS (by omega),Int.toNat_natCast]
 have hne:∀ k:Nat,k < 128 → ((k:Int) != (b.toNat:Int)) = true:=fun k hk => by
  rw [bne_iff_ne]
  omega
 have hnb:∀ c:UInt8,c.toNat < 128 → (c == b) = false:=fun c hc => by
  rw [beq_eq_false_iff_ne]
  intro e
  rw [e] at hc
  omega
 have hm:m = 1 ∨ m = 2:=by omega
 rcases hm with rfl | rfl
 ·have e1:strAt (bs [32,9,10]) 1 = ((9:Nat):Int):=rfl
  have e2:(strSub (bs [32,9,10]) (1 + 1) (toInt64 3).toNat).data.toList = [10]:=rfl
  have e3:Lib.indexByte [10] b = -1:=by
   show (if (10:UInt8) == b then 0 else _) = _
   rw [hnb 10 (by decide)]
   rfl
  rw [e1,e2,e3,hne 9 (by omega)]
  rfl
 ·have e1:strAt (bs [32,9,10]) 2 = ((10:Nat):Int):=rfl
  have e2:(strSub (bs [32,9,10]) (2 + 1) (toInt64 3).toNat).data.toList = []:=rfl
  rw [e1,e2,hne 10 (by omega)]
  rfl
def G59:List A1 → Option (Bool × AV)
 | [.c (.str s),.c (.int .i32 n)] => if strEq s wSpaces && (le 128 n && n != 65533) then some (true,encI64 (-1)) else none
 | _ => none
theorem G59_some {args:List A1} {r:AV} (h:G59 args = some (true,r)):∃ n,args = [.c (.str (bs [32,9,10])),.c (.int .i32 n)] ∧ 128 ≤ n ∧ (n == 65533) = false ∧ r = encI64 (-1):=by
 unfold G59 at h
 split at h
 ·rename_i s n
  split at h
  ·rename_i hc
   simp only [Bool.and_eq_true] at hc
   obtain ⟨hs,h0,h2⟩:=hc
   have hs:=(strEq_iff _ _).1 hs
   subst hs
   simp only [Option.some.injEq,Prod.mk.injEq,true_and] at h
   have h0:128 ≤ n:=by unfold le at h0; exact of_decide_eq_true h0
   have h2:(n == 65533) = false:=by
    have:n ≠ 65533:=bne_iff_ne.1 h2
    exact beq_eq_false_iff_ne.2 this
   exact ⟨n,rfl,h0,h2,h.symm⟩
  ·cases h
 ·cases h
theorem t59_sel {n:Int} (h0:128 ≤ n) (h2:(n == 65533) = false):(t59 n).sel = some (encI64 (-1)):=by
 have c1:(le 0 n && lt n 128) = false:=by unfold le lt; simp; omega
 cases hlo:(le 0 n && lt n 55296) with
 | true =>
   have:n < 55296:=by unfold le lt at hlo; simp at hlo; omega
   have hv:Utf8.valid n = true:=by unfold Utf8.valid; simp; omega
   obtain ⟨m,b,e1,e2,e3,e4,e5,e6,e7⟩:=enc_facts h0 hv
   refine follow_sel (path59a n) ?_
   have:=endC_ok e1 e2 (e4 (by omega)) e6 e7
   intro x hx
   simp only [c59,List.mem_append,List.mem_cons,List.not_mem_nil,or_false] at hx
   rcases hx with ((rfl | rfl) | rfl | rfl) | hx
   ·exact c1
   ·exact h2
   ·exact hlo
   ·rfl
   ·exact eq_of_beq (List.all_eq_true.1 this x hx)
 | false =>
   cases hhi:(lt 57343 n && le n 1114111) with
  | false =>
    refine follow_sel (path59e n) ?_
    intro x hx
    simp only [c59,List.mem_append,List.mem_cons,List.not_mem_nil,or_false] at hx
    rcases hx with (rfl | rfl) | rfl | rfl | rfl
    ·exact c1
    ·exact h2
    ·exact hlo
    ·exact hhi
    ·rfl
  | true =>
   have hv:Utf8.valid n = true:=by unfold lt le at hhi; unfold Utf8.valid; simp at hhi ⊢; omega
   obtain ⟨m,b,e1,e2,e3,e4,e5,e6,e7⟩:=enc_facts h0 hv
   rcases Int.lt_or_le n 65536 with hn | hn
   ·refine follow_sel (path59c n) ?_
    have:=endC_ok e1 e2 (e4 hn) e6 e7
    intro x hx
    simp only [c59,List.mem_append,List.mem_cons,List.not_mem_nil,or_false] at hx
    rcases hx with ((rfl | rfl) | rfl | rfl | rfl) | hx
    ·exact c1
    ·exact h2
    ·exact hlo
    ·exact hhi
    ·rfl
    ·exact eq_of_beq (List.all_eq_true.1 this x hx)
   ·have hm:=e5 hn
    subst hm
    have hl:lastI n = 3:=by
     unfold lastI toInt64
     rw [e1]
     rfl
    refine follow_sel (path59d n) ?_
    intro x hx
    simp only [c59,List.mem_append,List.mem_cons,List.not_mem_nil,or_false] at hx
    rcases hx with (rfl | rfl) | rfl | rfl | rfl | rfl
    ·exact c1
    ·exact h2
    ·exact hlo
    ·exact hhi
    ·rfl
    ·rw [hl]; rfl
theorem u59 {args:List A1} {r:AV} (h:G59 args = some (true,r)):(hcTreeP Tryz.prog HC9 XR9 20 59 args).All (fun x => leA x r):=by
 obtain ⟨n,e1,h0,h2,e2⟩:=G59_some h
 have hs:=t59_sel h0 h2
 unfold t59 at hs
 rw [← e1,← e2] at hs
 exact sel_all hs leA.refl
theorem p59:UcOne Tryz.prog 59 (nG G59):=by
 refine ucOneP_of_all (H:=HC9) (X:=XR9) hC9 xR9 20 59 ?_
 intro args r h
 exact u59 h
theorem ir_high {n:Int} (h0:128 ≤ n) (w:World):Calls Tryz.prog 59 #[.string wSpaces,.int .i32 n] w fun e w' => e = .returned (.int .i64 (-1)) ∧ Below w.heap.size w w':=by
 by_cases hn:n = 65533
 ·subst hn
  exact ir_err Tryz.lays152 wSpaces w fun j b hb => by
   have:wSpaces.data.toList = [32,9,10]:=rfl
   rw [this] at hb
   match j,hb with
   | 0,hb => cases hb; decide
   | 1,hb => cases hb; decide
   | 2,hb => cases hb; decide
   | j + 3,hb => simp at hb
 ·have hG : (nG G59 [.c (.str wSpaces), .c (.int .i32 n)]).sel = some (encI64 (-1)) := by
   have:G59 [.c (.str wSpaces),.c (.int .i32 n)] = some (true,encI64 (-1)):=by
    have c1:le 128 n = true:=by unfold le; simpa using h0
    have c3:(n != 65533) = true:=bne_iff_ne.2 hn
    show (if (strEq wSpaces wSpaces && (le 128 n && n != 65533)) = true then some (true,encI64 (-1)) else none) = _
    rw [c1,c3]
    rfl
   unfold nG
   rw [this]
   rfl
  refine (p59 _ _ hG rfl (fun _ => True) w [.string wSpaces,.int .i32 n] (.cons (CV.Rel.str _) (.cons (CV.Rel.int _ _) .nil))).mono fun e w' ⟨v,he,hb,hv⟩ => ⟨?_,hb⟩
  cases hv
  exact he
end Go.Proofs.YtiefjlcakpdfeaaGreat
