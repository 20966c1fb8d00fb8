/-
 Part SpZB of the proof: RcH RcI RcJ RcK EngLq.
-/
import Derived.Test.YtiefjlcakpdfeaaGreatSpZA
import Derived.Test.YtiefjlcakpdfeaaGreatSpZ
namespace Go.Proofs.YtiefjlcakpdfeaaGreat
open Go Go.Sx Go.RowKit Rb
set_option maxRecDepth 100000
abbrev BS:=Nat × Val × Int
def encBS (x:BS):AV:=.tup [.c (.sl [.rt 1] x.1 x.2.1),.c (.int .i64 x.2.2)]
theorem nilE_leB {e:Int}:leA (nilE e) (encBS (0,.zero,e)):=leA_tup (.cons (.c fun _ _ _ h => by cases h; exact .slnil) (.cons (.c leC.refl) .nil))
def box1 (n:Nat) (ρ:Val):Val:=Val.ofFlat 1 [.sl (rtab 1) n ρ]
def begS (u:Bool) (x:RU):RU:=nk u { x with bg:=IntKind.wrap .i64 (x.bg + 1) }
def statS (p:Par) (u:Bool) (s:RS) (x:RU):Option (BS × RU) :=
 bif lt 4096 (begS u x).bg then some ((0,.zero,6),begS u x)
 else bif strEq s.kind wDo then (doS p u s (begS u x)).bind fun d => some ((0,.zero,d.1),d.2)
 else bif strEq s.kind wSay then nd (Nat.ble ((1 + s.wn) * 16) 140737488355328) ((noteS u (1 + s.wn) (Val.cat 1 (row1 wSay) s.wρ) (begS u x)).bind fun z => some ((0,.zero,0),z.2))
 else bif strEq s.kind wRepeat then (p.R 1 (box1 s.bn s.bρ) s.cond.v).bind fun r => some ((r.1,r.2,0),begS u x)
 else (chooseS p u s (begS u x)).bind fun b => some ((1,box1 b.1.1 b.1.2.1,b.1.2.2),b.2)
def u107 (p:Par):MSp:=fun u rest x => match rest with
 | [a] => (match stmA a with
  | some s => uS encBS (0,.zero,0) (statS p u s) x
  | none => .fail)
 | _ => .fail
noncomputable abbrev H107 (p:Par):Hd:=⟨[],[(144,nG (G144 p.R))],[],[(108,clG2 u108),(143,clG2 (u143 p)),(145,clG2 (u145 p))]⟩
theorem h107 {p:Par} (hp:ParOk p):HdOk Tryz.prog (H107 p):=(((HdOk.nil.mcCons (m145 hp)).mcCons (m143 hp)).mcCons m108).ucCons hp.rp
def t107 (p:Par) (u:Bool) (s:RS) (x:RU):Tree (AV × RU) :=
 let x1:=begS u x
 let d:=doS p u s x1
 let dv:=ov1 (0,rU0) d
 let nt:=noteS u (1 + s.wn) (Val.cat 1 (row1 wSay) s.wρ) x1
 let z:=ov1 ((),rU0) nt
 let r:=p.R 1 (box1 s.bn s.bρ) s.cond.v
 let rv:=ov1 (0,.zero) r
 let c:=chooseS p u s x1
 let cv:=ov1 ((0,.zero,0),rU0) c
 .br (lt 4096 x1.bg) (.leaf (nilE 6,x1)) (.br (strEq s.kind wDo) (.need (os1 d) (.leaf (nilE dv.1,nk u dv.2)))
  (.br (strEq s.kind wSay) (.need (Nat.ble ((1 + s.wn) * 16) 140737488355328) (.need (os1 nt) (.leaf (nilE 0,nk u z.2))))
  (.br (strEq s.kind wRepeat) (.need (os1 r) (.leaf (encBS (rv.1,rv.2,0),x1)))
   (.need (os1 c) (.leaf (encBS (1,box1 cv.1.1 cv.1.2.1,cv.1.2.2),nk u cv.2))))))
theorem t107_eq (p:Par) (u:Bool) (s:RS) (x:RU):clusEv (ClR u) Tryz.prog (H107 p) X3 10 107 [.agg s.cells] x = t107 p u s x:=by cases u <;> kernel_rfl
theorem t107_say (p:Par) (u:Bool) (s:RS) (x:RU):SyC u encBS (t107 p u s x) (statS p u s x):=by
 unfold t107 statS
 refine SyC.cond (fun _ => .ret' nilE_leB rfl) fun _ => SyC.cond (fun _ => ?_) fun _ => SyC.cond (fun _ => SyC.nd id fun _ => ?_) fun _ => SyC.cond (fun _ => ?_) fun _ => ?_
 ·cases doS p u s (begS u x) with
  | none => exact trivial
  | some y => exact SyC.need rfl (SyC.rl nilE_leB)
 ·cases noteS u (1 + s.wn) (Val.cat 1 (row1 wSay) s.wρ) (begS u x) with
  | none => exact trivial
  | some y => exact SyC.need rfl (SyC.rl nilE_leB)
 ·cases p.R 1 (box1 s.bn s.bρ) s.cond.v with
  | none => exact trivial
  | some y => exact SyC.need rfl SyC.ret
 ·cases chooseS p u s (begS u x) with
  | none => exact trivial
  | some y => exact SyC.need rfl SyC.rt
theorem m107 {p:Par} (hp:ParOk p):McOne Tryz.prog 107 (clG2 (u107 p)):=run_ok (H:=H107 p) (X:=X3) (h107 hp) x3 10 107 fun u rest x z hz => by
 unfold u107 at hz
 split at hz
 rotate_left
 ·cases hz
 split at hz
 rotate_left
 ·cases hz
 rename_i a s hs
 rw [stmA_some hs,t107_eq]
 obtain ⟨v,x',h1,rfl⟩:=uS_sel hz
 have h:=t107_say p u s x
 rw [h1] at h
 exact h
abbrev BF:=Bool → Nat → Val → RU → Option (Int × RU)
def u52 (B:BF):MSp:=fun u rest x => match rest with
 | [.c (.sl es n ρ)] => if shEq.shsEq es (rtab 1) then uS encI 0 (B u n ρ) x else .fail
 | _ => .fail
noncomputable abbrev H52 (p:Par) (B:BF):Hd:=⟨[],[],[],[(52,clG2 (u52 B)),(107,clG2 (u107 p)),(108,clG2 u108)]⟩
theorem h52 {p:Par} (hp:ParOk p) {B:BF} (hB:McOne Tryz.prog 52 (clG2 (u52 B))):HdOk Tryz.prog (H52 p B):=((HdOk.nil.mcCons m108).mcCons (m107 hp)).mcCons hB
structure CO where
 r:Int
 n:Nat
 ρ:Val
 l:Int
 i:Int
 x:RU
structure CI where
 o:CO
 m:Nat
 κ:Val
 l2:Int
 j:Int
def slO (c:CO):List (Nat × AV):=[(0,.one (.c (.ptr 0 0))),(4,.one (.c (.int .i64 c.r))),(12,.one (.c (.sl (rtab 1) c.n c.ρ))),(13,.one (.c (.int .i64 c.l))),(14,.one (.c (.int .i64 c.i)))]
def SO (u:Bool) (c:CO):St:=mkS 51 (slO c) (layU u c.x)
def SIn (u:Bool) (c:CI):St:=mkS 51 (slO c.o ++ [(37,.one (.c (.sl [.rt 1] c.m c.κ))),(38,.one (.c (.int .i64 c.l2))),(39,.one (.c (.int .i64 c.j)))]) (layU u c.o.x)
def getM:Bool → Mem → Option RU
 | false => getR0
 | true => getR1
def getO (u:Bool) (l:List (Nat × AV)) (m:Mem):Option CO:=match l with
 | [(0, .one (.c (.ptr 0 0))), (4, .one (.c (.int .i64 r))), (12, .one (.c (.sl es n ρ))), (13, .one (.c (.int .i64 l))), (14, .one (.c (.int .i64 i)))] =>
   if shEq.shsEq es (rtab 1) then (match getM u m with
    | some x => some ⟨r,n,ρ,l,i,x⟩
    | none => none) else none
 | _ => none
def getI (u:Bool) (l:List (Nat × AV)) (m:Mem):Option CI:=match l with
 | [(0, .one (.c (.ptr 0 0))), (4, .one (.c (.int .i64 r))), (12, .one (.c (.sl es n ρ))), (13, .one (.c (.int .i64 l))), (14, .one (.c (.int .i64 i))), (37, .one (.c (.sl [.rt 1] m' κ))), (38, .one (.c (.int .i64 l2))), (39, .one (.c (.int .i64 j)))] =>
   if shEq.shsEq es (rtab 1) then (match getM u m with
    | some x => some ⟨⟨r,n,ρ,l,i,x⟩,m',κ,l2,j⟩
    | none => none) else none
 | _ => none
theorem getM_ok {u:Bool} {m:Mem} {x:RU} (h:getM u m = some x) (P:Program) (F:Nat → Prop) (w:World) (bs:List BI) (hm:MemRel P F w bs m):MemRel P F w bs (layU u x):=by
 cases u with
 | false => exact (clR_ok false).get m x h P F w bs hm
 | true => exact (clR_ok true).get m x h P F w bs hm
theorem LeSl.refl:∀ {l:List (Nat × AV)},LeSl l l
 | [] => .nil
 | _ :: _ => .cons leAB.refl LeSl.refl
theorem getO_ok (u:Bool):∀ l m c,getO u l m = some c → StWk (mkS 51 l m) (SO u c):=by
 intro l m c h
 unfold getO at h
 split at h
 ·split at h
  ·rename_i hs
   rw [shsEq_eq hs]
   split at h
   ·rename_i hx
    cases h
    exact mkS_wk LeSl.refl (getM_ok hx)
   ·cases h
  ·cases h
 ·cases h
theorem getI_ok (u:Bool):∀ l m c,getI u l m = some c → StWk (mkS 51 l m) (SIn u c):=by
 intro l m c h
 unfold getI at h
 split at h
 ·split at h
  ·rename_i hs
   rw [shsEq_eq hs]
   split at h
   ·rename_i hx
    cases h
    exact mkS_wk LeSl.refl (getM_ok hx)
   ·cases h
  ·cases h
 ·cases h
def SOE (u:Bool) (d:Int × RU):St:=mkS 51 [(4,.one (.c (.int .i64 d.1)))] (layU u d.2)
def getOE (u:Bool) (l:List (Nat × AV)) (m:Mem):Option (Int × RU):=match l with
 | [(4,.one (.c (.int .i64 r)))] => (match getM u m with
  | some x => some (r,x)
  | none => none)
 | _ => none
theorem getOE_ok (u:Bool):∀ l m c,getOE u l m = some c → StWk (mkS 51 l m) (SOE u c):=by
 intro l m c h
 unfold getOE at h
 split at h
 ·split at h
  ·rename_i hx
   cases h
   exact mkS_wk LeSl.refl (getM_ok hx)
  ·cases h
 ·cases h
def AO (u:Bool):Sx.Frame CO (Int × RU):=⟨1,51,[0,4,12,13,14],getO u,SO u,[4],getOE u,SOE u⟩
def AI (u:Bool):Sx.Frame CI CO:=⟨1,51,[0,4,12,13,14,37,38,39],getI u,SIn u,[0,4,12,13,14],getO u,SO u⟩
theorem aO (u:Bool):(AO u).Ok:=⟨getO_ok u,getOE_ok u⟩
theorem aI (u:Bool):(AI u).Ok:=⟨getI_ok u,getO_ok u⟩
def blkN (κ:Val) (j:Int):Nat:=((κ.at j.toNat).at 0).L []
def blkD (κ:Val) (j:Int):Val:=(κ.at j.toNat).at 0
def rIn (u:Bool) (B:BF) (g:CI → Tree (XP × CO)) (c:CI):Tree (XP × CO) :=
 let o:=B u (blkN c.κ c.j) (blkD c.κ c.j) (nk u c.o.x)
 let y:=ov1 (0,rU0) o
 .br (lt c.j c.l2) (.need (inRange c.j c.m) (.need (os1 o) (.br (y.1 != 0) (.leaf (.ret,{ c.o with r:=y.1,x:=nk u y.2 })) (g { c with o:={ c.o with x:=nk u y.2 },j:=IntKind.wrap .i64 (c.j + 1) })))) (.leaf (.exit 2,{ c.o with x:=nk u c.o.x }))
theorem rIn_eq (p:Par) (B:BF) (u:Bool) (g:CI → Tree (XP × CO)) (c:CI):roundC (AI u) Tryz.prog (H52 p B) X0 10 52 1 g c = rIn u B g c:=by cases u <;> kernel_rfl
def innerS (u:Bool) (B:BF) (m:Nat) (κ:Val) (l:Int):Nat → Int → RU → Option (Int × RU)
 | 0,_,_ => none
 | k + 1,j,x => bif lt j l then nd (inRange j m) ((B u (blkN κ j) (blkD κ j) (nk u x)).bind fun y => bif y.1 != 0 then some (y.1,nk u y.2) else innerS u B m κ l k (IntKind.wrap .i64 (j + 1)) (nk u y.2)) else some (0,nk u x)
def gIn (u:Bool) (B:BF) (k:Nat) (c:CI):Tree (XP × CO) :=
 let o:=innerS u B c.m c.κ c.l2 k c.j c.o.x
 let y:=ov1 (0,rU0) o
 .need (os1 o) (.br (y.1 != 0) (.leaf (.ret,{ c.o with r:=y.1,x:=y.2 })) (.leaf (.exit 2,{ c.o with x:=y.2 })))
def outI (c:CO):Option (Int × RU) → Option (XP × CO)
 | some y => some (bif y.1 != 0 then (.ret,{ c with r:=y.1,x:=y.2 }) else (.exit 2,{ c with x:=y.2 }))
 | none => none
theorem gIn_sel (u:Bool) (B:BF) (k:Nat) (c:CI):(gIn u B k c).sel = outI c.o (innerS u B c.m c.κ c.l2 k c.j c.o.x):=by
 unfold gIn
 cases innerS u B c.m c.κ c.l2 k c.j c.o.x with
 | none => rfl
 | some y =>
   show (bif true then (bif y.1 != 0 then some _ else some _) else none) = _
   unfold outI
   simp only [ov1]
   cases (y.1 != 0) <;> rfl
theorem stepIn (p:Par) (B:BF) (u:Bool) (k:Nat) (c:CI) (x:XP × CO) (h:(gIn u B (k + 1) c).sel = some x):(roundC (AI u) Tryz.prog (H52 p B) X0 10 52 1 (gIn u B k) c).sel = some x:=by
 rw [rIn_eq]
 rw [gIn_sel] at h
 unfold innerS at h
 unfold rIn
 simp only [sel_br,sel_need,sel_leaf,gIn_sel]
 revert h
 cases lt c.j c.l2 with
 | false => exact fun h => h
 | true =>
 cases inRange c.j c.m with
 | false => exact fun h => h
 | true =>
 simp only [nd,cond_true]
 cases B u (blkN c.κ c.j) (blkD c.κ c.j) (nk u c.o.x) with
 | none => exact fun h => h
 | some y =>
 simp only [Option.bind,os1,ov1,cond_true]
 cases hy:(y.1 != 0) with
 | true => simp only [cond_true]; intro h; rw [← h]; unfold outI; simp only [hy,cond_true]
 | false => simp only [cond_false]; exact fun h => h
theorem coreIn {p:Par} (hp:ParOk p) {B:BF} (hB:McOne Tryz.prog 52 (clG2 (u52 B))) (u:Bool):∀ k,CoreOk Tryz.prog 52 1 1 (SIn u) (SO u) (gIn u B k) :=
 CoreOk.fuel (A:=AI u) (aI u) (h52 hp hB) Go.Proofs.YtiefjlcakpdfeaaGreat.x0 10 (fun _ => rfl) (stepIn p B u)
def gIn1 (u:Bool) (B:BF) (c:CI):Tree (XP × CO):=gIn u B (c.m + 1) c
def X52 (u:Bool) (B:BF):HdP:=⟨[],[],[],[((52,1),loopC (AI u) (gIn1 u B))],[],0,[]⟩
theorem x52 {p:Par} (hp:ParOk p) {B:BF} (hB:McOne Tryz.prog 52 (clG2 (u52 B))) (u:Bool):XOk Tryz.prog (X52 u B) :=
 XOk.lxCons XOk.nil (CoreOk.lx (g:=gIn1 u B) (aI u) fun fn c b h1 h2 h3 c0 x hx => coreIn hp hB u _ fn c b h1 h2 h3 c0 x hx)
def wFail:ByteArray:=bs [102,97,105,108]
def failV (k:ByteArray):Val:=Val.ofFlat 1 [.str wFail,.str k]
def failAt (u:Bool) (x:RU) (a:Int):RU:=nk u { x with at_:=a }
def rOu (p:Par) (u:Bool) (B:BF) (g:CO → Tree (XP × (Int × RU))) (c:CO):Tree (XP × (Int × RU)) :=
 let s:=stAt c.ρ c.i.toNat
 let st:=statS p u s (nk u c.x)
 let y:=ov1 ((0,.zero,0),rU0) st
 let nt:=noteS u 2 (failV s.kind) (nk u y.2)
 let z:=ov1 ((),rU0) nt
 let inn:=innerS u B y.1.1 y.1.2.1 (toInt64 y.1.1) (y.1.1 + 1) 0 (nk u y.2)
 let w:=ov1 (0,rU0) inn
 .br (lt c.i c.l) (.need (inRange c.i c.n) (.need (os1 st) (.br (y.1.2.2 != 0) (.need (os1 nt) (.leaf (.ret,(y.1.2.2,failAt u z.2 s.at_))))
  (.need (os1 inn) (.br (w.1 != 0) (.leaf (.ret,(w.1,nk u w.2))) (g { c with i:=IntKind.wrap .i64 (c.i + 1),x:=nk u w.2 })))))) (.leaf (.exit 0,(c.r,nk u c.x)))
theorem rOu_eq (p:Par) (B:BF) (u:Bool) (g:CO → Tree (XP × (Int × RU))) (c:CO):roundC (AO u) Tryz.prog (H52 p B) (X52 u B) 10 52 0 g c = rOu p u B g c:=by cases u <;> kernel_rfl
def outerS (p:Par) (u:Bool) (B:BF) (n:Nat) (ρ:Val) (l:Int):Nat → Int → RU → Option (Int × RU)
 | 0,_,_ => none
 | k + 1, i, x => bif lt i l then nd (inRange i n) ((statS p u (stAt ρ i.toNat) (nk u x)).bind fun y =>
   bif y.1.2.2 != 0 then (noteS u 2 (failV (stAt ρ i.toNat).kind) (nk u y.2)).bind fun z => some (y.1.2.2,failAt u z.2 (stAt ρ i.toNat).at_)
   else (innerS u B y.1.1 y.1.2.1 (toInt64 y.1.1) (y.1.1 + 1) 0 (nk u y.2)).bind fun w => bif w.1 != 0 then some (w.1,nk u w.2) else outerS p u B n ρ l k (IntKind.wrap .i64 (i + 1)) (nk u w.2)) else some (0,nk u x)
def gOu (p:Par) (u:Bool) (B:BF) (k:Nat) (c:CO):Tree (XP × (Int × RU)) :=
 let o:=outerS p u B c.n c.ρ c.l k c.i c.x
 let y:=ov1 (0,rU0) o
 .need (os1 o) (.br (y.1 != 0) (.leaf (.ret,y)) (.leaf (.exit 0,(c.r,y.2))))
def outO (r:Int):Option (Int × RU) → Option (XP × (Int × RU))
 | some y => some (bif y.1 != 0 then (.ret,y) else (.exit 0,(r,y.2)))
 | none => none
theorem gOu_sel (p:Par) (u:Bool) (B:BF) (k:Nat) (c:CO):(gOu p u B k c).sel = outO c.r (outerS p u B c.n c.ρ c.l k c.i c.x):=by
 unfold gOu
 cases outerS p u B c.n c.ρ c.l k c.i c.x with
 | none => rfl
 | some y =>
   show (bif true then (bif y.1 != 0 then some _ else some _) else none) = _
   unfold outO
   simp only [ov1]
   cases (y.1 != 0) <;> rfl
theorem stepOu (p:Par) (B:BF) (u:Bool) (k:Nat) (c:CO) (x:XP × (Int × RU)) (h:(gOu p u B (k + 1) c).sel = some x):(roundC (AO u) Tryz.prog (H52 p B) (X52 u B) 10 52 0 (gOu p u B k) c).sel = some x:=by
 rw [rOu_eq]
 rw [gOu_sel] at h
 unfold outerS at h
 unfold rOu
 simp only [sel_br,sel_need,sel_leaf,gOu_sel]
 revert h
 cases lt c.i c.l with
 | false => exact fun h => h
 | true =>
 cases inRange c.i c.n with
 | false => exact fun h => h
 | true =>
 simp only [nd,cond_true]
 cases statS p u (stAt c.ρ c.i.toNat) (nk u c.x) with
 | none => exact fun h => h
 | some y =>
 simp only [Option.bind,os1,ov1,cond_true]
 cases hy:(y.1.2.2 != 0) with
 | true =>
   simp only [cond_true]
   cases noteS u 2 (failV (stAt c.ρ c.i.toNat).kind) (nk u y.2) with
  | none => exact fun h => h
  | some z => intro h; rw [← h]; unfold outO; simp only [hy,cond_true]
 | false =>
   simp only [cond_false]
   cases innerS u B y.1.1 y.1.2.1 (toInt64 y.1.1) (y.1.1 + 1) 0 (nk u y.2) with
  | none => exact fun h => h
  | some w =>
    simp only [cond_true]
    cases hw:(w.1 != 0) with
   | true => simp only [cond_true]; intro h; rw [← h]; unfold outO; simp only [hw,cond_true]
   | false => simp only [cond_false]; exact fun h => h
theorem coreOu {p:Par} (hp:ParOk p) {B:BF} (hB:McOne Tryz.prog 52 (clG2 (u52 B))) (u:Bool):∀ k,CoreOk Tryz.prog 52 0 1 (SO u) (SOE u) (gOu p u B k) :=
 CoreOk.fuel (A:=AO u) (aO u) (h52 hp hB) (x52 hp hB u) 10 (fun _ => rfl) (stepOu p B u)
def gOu1 (p:Par) (u:Bool) (B:BF) (c:CO):Tree (XP × (Int × RU)):=gOu p u B (c.n + 1) c
def XO52 (p:Par) (u:Bool) (B:BF):HdP:=⟨[],[],[],[((52,0),loopC (AO u) (gOu1 p u B))],[],0,[]⟩
theorem xO52 {p:Par} (hp:ParOk p) {B:BF} (hB:McOne Tryz.prog 52 (clG2 (u52 B))) (u:Bool):XOk Tryz.prog (XO52 p u B) :=
 XOk.lxCons XOk.nil (CoreOk.lx (g:=gOu1 p u B) (aO u) fun fn c b h1 h2 h3 c0 x hx => coreOu hp hB u _ fn c b h1 h2 h3 c0 x hx)
def blockG (p:Par) (B:BF):BF:=fun u n ρ x => outerS p u B n ρ (toInt64 n) (n + 1) 0 x
def t52 (p:Par) (B:BF) (u:Bool) (n:Nat) (ρ:Val) (x:RU):Tree (AV × RU) :=
 let o:=blockG p B u n ρ x
 let y:=ov1 (0,rU0) o
 .need (os1 o) (.br (y.1 != 0) (.leaf (encI y.1,nk u y.2)) (.leaf (encI 0,nk u y.2)))
theorem t52_eq (p:Par) (B:BF) (u:Bool) (n:Nat) (ρ:Val) (x:RU):clusEv (ClR u) Tryz.prog (H52 p B) (XO52 p u B) 10 52 [.c (.sl (rtab 1) n ρ)] x = t52 p B u n ρ x:=by cases u <;> kernel_rfl
theorem run_ok2 {H : Hd} (hH : HdOk Tryz.prog H) {X : Bool → HdP} (hX : ∀ b, XOk Tryz.prog (X b)) (n f : Nat) {u : MSp}
  (h:∀ b rest x z,(u b rest x).sel = some z → ∃ y,(clusEv (ClR b) Tryz.prog H (X b) n f rest x).sel = some y ∧ leA y.1 z.1 ∧ layU b y.2 = layU b z.2):McOne Tryz.prog f (clG2 u) :=
 clG2_ok fun b => clG_ok (clR_ok b) hH (hX b) n f fun rest x z hz => by
  obtain ⟨y,h1,h2,h3⟩:=h b rest x z hz
  refine ⟨y,h1,h2,fun F w bs hm => ?_⟩
  have e:∀ x,(ClR b).lay x = layU b x:=fun x => by cases b <;> rfl
  rw [e] at hm ⊢
  rw [← h3]
  exact hm
theorem t52_say (p:Par) (B:BF) (u:Bool) (n:Nat) (ρ:Val) (x:RU):SyC u encI (t52 p B u n ρ x) (blockG p B u n ρ x):=by
 unfold t52
 cases blockG p B u n ρ x with
 | none => exact trivial
 | some y =>
   refine SyC.need rfl ?_
   show SyC u encI (.br (y.1 != 0) (.leaf (encI y.1,nk u y.2)) (.leaf (encI 0,nk u y.2))) (some (y.1,y.2))
   cases hy:(y.1 != 0) with
  | true => exact SyC.br1 rfl SyC.rt
  | false =>
    have:y.1 = 0:=by simpa using hy
    refine SyC.br0 rfl ?_
    rw [this]
    exact SyC.rt
theorem m52s {p:Par} (hp:ParOk p) {B:BF} (hB:McOne Tryz.prog 52 (clG2 (u52 B))):McOne Tryz.prog 52 (clG2 (u52 (blockG p B))):=run_ok2 (H:=H52 p B) (X:=fun u => XO52 p u B) (h52 hp hB) (xO52 hp hB) 10 52 fun u rest x z hz => by
 unfold u52 at hz
 split at hz
 rotate_left
 ·cases hz
 rename_i es n ρ
 split at hz
 rotate_left
 ·cases hz
 rename_i hs
 rw [shsEq_eq hs,t52_eq]
 obtain ⟨v,x',h1,rfl⟩:=uS_sel hz
 have h:=t52_say p B u n ρ x
 rw [h1] at h
 exact h
def blockF (p:Par):Nat → BF
 | 0 => fun _ _ _ _ => none
 | d + 1 => blockG p (blockF p d)
theorem m52 {p:Par} (hp:ParOk p):∀ d,McOne Tryz.prog 52 (clG2 (u52 (blockF p d)))
 | 0 => run_ok2 (H := HE) (X := fun _ => X3) HdOk.nil (fun _ => x3) 10 52 fun u rest x z hz => by
   unfold u52 at hz
   split at hz
   ·split at hz
    ·obtain ⟨v,x',h1,_⟩:=uS_sel hz
     cases h1
    ·cases hz
   ·cases hz
 | d + 1 => m52s hp (m52 hp d)
abbrev UnF:=RX → Int → Option Bool
def G130 (R:UnF):List A1 → Option (Bool × AV)
 | [.agg [.str o,.int .i64 v,.sl es n ρ],.c (.int .i64 k)] => if shEq.shsEq es (rtab 0) then some (os1 (R ⟨o,v,n,ρ⟩ k),encBo (ov1 false (R ⟨o,v,n,ρ⟩ k))) else none
 | _ => none
theorem G130_some {R:UnF} {args:List A1} {r:AV} (h:G130 R args = some (true,r)):∃ o v n ρ k x,args = [.agg [.str o,.int .i64 v,.sl (rtab 0) n ρ],.c (.int .i64 k)] ∧ R ⟨o,v,n,ρ⟩ k = some x ∧ r = encBo x:=by
 unfold G130 at h
 split at h
 ·split at h
  ·rename_i o v es n ρ k hs
   simp only [Option.some.injEq,Prod.mk.injEq] at h
   cases hR:R ⟨o,v,n,ρ⟩ k with
   | none => rw [hR] at h; cases h.1
   | some x => rw [hR] at h; exact ⟨o,v,n,ρ,k,x,by rw [shsEq_eq hs],hR,h.2.symm⟩
  ·cases h
 ·cases h
noncomputable abbrev H130 (R:UnF):Hd:=⟨[pF 156,pF 157,pF 179,(155,oG G155)],[(130,nG (G130 R))],[],[]⟩
theorem h130 {R:UnF} (hR:UcOne Tryz.prog 130 (nG (G130 R))):HdOk Tryz.prog (H130 R):=((((HdOk.nil.ucCons hR).pcCons p155).pF 179).pF 157).pF 156
def unkT (R:UnF) (n:Nat) (ρ:Val) (k:Int):Nat → Nat → Tree AV
 | 0,_ => .fail
 | f + 1,i => .br (lt (i:Int) (toInt64 n)) (.need (inRange (i:Int) n) (.need (os1 (R (kidX ρ i) k)) (.br (ov1 false (R (kidX ρ i) k)) (.leaf (encBo true)) (unkT R n ρ k f (i + 1))))) (.leaf (encBo false))
def t130 (R:UnF) (e:RX) (k:Int):Tree AV:=.br (bif kidsM (kidsC e.op) == 9 then le k e.v else false) (.leaf (encBo true)) (unkT R e.n e.ρ k 3 0)
theorem t130_eq (R:UnF) (o:ByteArray) (v:Int) (n:Nat) (ρ:Val) (k:Int):hcTreeP Tryz.prog (H130 R) X3 10 130 [.agg [.str o,.int .i64 v,.sl (rtab 0) n ρ],.c (.int .i64 k)] = t130 R ⟨o,v,n,ρ⟩ k:=by kernel_rfl
def unkL (R:UnF) (n:Nat) (ρ:Val) (k:Int):Nat → Nat → Option Bool
 | 0,_ => none
 | f + 1,i => bif lt (i:Int) (toInt64 n) then nd (inRange (i:Int) n) ((R (kidX ρ i) k).bind fun v => bif v then some true else unkL R n ρ k f (i + 1)) else some false
def unkG (R:UnF):UnF:=fun e k => bif (bif kidsM (kidsC e.op) == 9 then le k e.v else false) then some true else unkL R e.n e.ρ k 3 0
theorem unkT_say (R:UnF) (n:Nat) (ρ:Val) (k:Int):∀ f i,Sy encBo (unkT R n ρ k f i) (unkL R n ρ k f i)
 | 0,_ => trivial
 | f + 1, i => by
   unfold unkT unkL
   refine Sy.cond (fun _ => Sy.nd id fun _ => ?_) fun _ => Sy.ret
   cases R (kidX ρ i) k with
  | none => exact trivial
  | some v => exact Sy.need rfl (Sy.cond (fun _ => Sy.ret) fun _ => unkT_say R n ρ k f (i + 1))
theorem t130_say (R:UnF) (e:RX) (k:Int):Sy encBo (t130 R e k) (unkG R e k):=Sy.cond (fun _ => Sy.ret) fun _ => unkT_say R _ _ _ _ _
theorem p130s {R:UnF} (hR:UcOne Tryz.prog 130 (nG (G130 R))):UcOne Tryz.prog 130 (nG (G130 (unkG R))):=by
 refine ucOneP_of_all (H:=H130 R) (X:=X3) (h130 hR) x3 10 130 ?_
 intro args r h
 obtain ⟨o,v,n,ρ,k,x,e1,h1,e2⟩:=G130_some h
 rw [e1,e2,t130_eq]
 have:=t130_say R ⟨o,v,n,ρ⟩ k
 rw [h1] at this
 exact this
def unkF:Nat → UnF
 | 0 => fun _ _ => none
 | f + 1 => unkG (unkF f)
theorem p130:∀ f,UcOne Tryz.prog 130 (nG (G130 (unkF f)))
 | 0 => by
   intro args r h
   obtain ⟨o,v,n,ρ,k,x,_,h1,_⟩:=G130_some (nG_sel h)
   cases h1
 | f + 1 => p130s (p130 f)
abbrev MsF:=Nat → Val → Int → Option (Int × Bool)
def encIB (x:Int × Bool):AV:=.tup [.c (.int .i64 x.1),.c (.bool x.2)]
def G80 (R:MsF):List A1 → Option (Bool × AV)
 | [.c (.sl es n ρ),.c (.int .i64 k)] => if shEq.shsEq es (rtab 1) then some (os1 (R n ρ k),encIB (ov1 (0,false) (R n ρ k))) else none
 | _ => none
theorem G80_some {R:MsF} {args:List A1} {r:AV} (h:G80 R args = some (true,r)):∃ n ρ k x,args = [.c (.sl (rtab 1) n ρ),.c (.int .i64 k)] ∧ R n ρ k = some x ∧ r = encIB x:=by
 unfold G80 at h
 split at h
 ·split at h
  ·rename_i es n ρ k hs
   simp only [Option.some.injEq,Prod.mk.injEq] at h
   cases hR:R n ρ k with
   | none => rw [hR] at h; cases h.1
   | some x => rw [hR] at h; exact ⟨n,ρ,k,x,by rw [shsEq_eq hs],hR,h.2.symm⟩
  ·cases h
 ·cases h
structure C80 where
 r:Int
 b:Bool
 n:Nat
 ρ:Val
 l:Int
 i:Int
 k:Int
def S80 (c:C80):St:=mkS 57 [(3,.one (.c (.ptr 0 0))),(4,.one (.c (.int .i64 c.r))),(5,.one (.c (.bool c.b))),(13,.one (.c (.sl (rtab 1) c.n c.ρ))),(14,.one (.c (.int .i64 c.l))),(15,.one (.c (.int .i64 c.i)))] [some (3,[.int .i64 c.k])]
def get80:List (Nat × AV) → Mem → Option C80
 | [(3,.one (.c (.ptr 0 0))),(4,.one (.c (.int .i64 r))),(5,.one (.c (.bool b))),(13,.one (.c (.sl es n ρ))),(14,.one (.c (.int .i64 l))),(15,.one (.c (.int .i64 i)))],[some (3,[.int .i64 k])] => if shEq.shsEq es (rtab 1) then some ⟨r,b,n,ρ,l,i,k⟩ else none
 | _,_ => none
theorem get80_ok:∀ l m c,get80 l m = some c → mkS 57 l m = S80 c:=by
 intro l m c h
 unfold get80 at h
 split at h
 ·split at h
  ·rename_i hs
   cases h
   rw [shsEq_eq hs]
   rfl
  ·cases h
 ·cases h
def E80 (v:Int × Bool):St:=mkS 57 [(4,.one (.c (.int .i64 v.1))),(5,.one (.c (.bool v.2)))] [some (3,[.any])]
def getE80:List (Nat × AV) → Mem → Option (Int × Bool)
 | [(4,.one (.c (.int .i64 v))),(5,.one (.c (.bool u)))],[some (3,[.int .i64 _])] => some (v,u)
 | _,_ => none
theorem getE80_ok:∀ l m c,getE80 l m = some c → StWk (mkS 57 l m) (E80 c):=by
 intro l m c h
 unfold getE80 at h
 split at h
 ·cases h
  exact mkS_wk LeSl.refl (mem_wk (b:=0) rfl rfl rfl (.cons leC_any .nil) rfl rfl)
 ·cases h
def A80:Sx.Frame C80 (Int × Bool):=⟨1,57,[3,4,5,13,14,15],get80,S80,[4,5],getE80,E80⟩
theorem a80:A80.Ok:=⟨fun l m c h => get80_ok l m c h ▸ StWk.refl,getE80_ok⟩
noncomputable abbrev H80 (f:Nat) (R:MsF):Hd:=⟨[lK,pF 127,pF 128,pF 154,(86,oG G86),(129,oG G129)],[(130,nG (G130 (unkF f))),(80,nG (G80 R))],[],[]⟩
theorem h80 (f:Nat) {R:MsF} (hR:UcOne Tryz.prog 80 (nG (G80 R))):HdOk Tryz.prog (H80 f R):=HdOk.lK ((((((((HdOk.nil.ucCons hR).ucCons (p130 f)).pcCons p129).pcCons p86).pF 154).pF 128).pF 127))
abbrev X6:HdP:=⟨[],[],[],[],[],6,[]⟩
theorem x6:XOk Tryz.prog X6:=XOk.nil
def namW (s:RS) (k:Int) (i:Nat):Bool:=bif (bif siteO (wd s.wρ i) then strEq s.kind wDo else false) then le k (siteV (wd s.wρ i)) else false
def namT {α:Type} (s:RS) (k:Int) (K:Bool → Tree α):Nat → Nat → Tree α
 | 0,_ => .fail
 | f + 1,i => .br (lt (i:Int) (toInt64 s.wn)) (.need (inRange (i:Int) s.wn) (.br (namW s k i) (K true) (namT s k K f (i + 1)))) (K false)
def r80 (f:Nat) (R:MsF) (g:C80 → Tree (XP × (Int × Bool))) (c:C80):Tree (XP × (Int × Bool)) :=
 let s:=stAt c.ρ c.i.toNat
 let x:=unkF f s.cond c.k
 let u:=R s.bn (boxV s.bn s.bρ) c.k
 let v:=R s.en (boxV s.en s.eρ) c.k
 let w:=R 0 Val.zero c.k
 let EX:=g { c with i:=IntKind.wrap .i64 (c.i + 1) }
 let T:=fun (j:Int) (y:Option (Int × Bool)) (K:Tree (XP × (Int × Bool))) => Tree.br (lt j (toInt64 2)) (.need (inRange j 2) (.need (os1 y) (.br (ov1 (0,false) y).2 (.leaf (.ret,((ov1 (0,false) y).1,true))) K))) EX
 .br (lt c.i c.l) (.need (inRange c.i c.n) (namT s c.k (fun nm => .need (!((condB s.kind == true) && ((nm == false) && true)) || os1 x)
  (.br (bif nm then true else bif condB s.kind then ov1 false x else false) (.leaf (.ret,(s.at_,true))) (T 0 u (T 1 v (T 2 w (T 3 w (T 4 w (T 5 w .fail)))))))) 6 0)) (.leaf (.exit 0,(c.r,c.b)))
theorem r80_eq (f:Nat) (R:MsF) (g:C80 → Tree (XP × (Int × Bool))) (c:C80):roundC A80 Tryz.prog (H80 f R) X6 10 80 0 g c = r80 f R g c:=by kernel_rfl
def namS (s:RS) (k:Int):Nat → Nat → Option Bool
 | 0,_ => none
 | f + 1,i => bif lt (i:Int) (toInt64 s.wn) then nd (inRange (i:Int) s.wn) (bif namW s k i then some true else namS s k f (i + 1)) else some false
theorem namT_sel {α:Type} (s:RS) (k:Int) (K:Bool → Tree α):∀ f i,(namT s k K f i).sel = (namS s k f i).bind fun b => (K b).sel
 | 0,_ => rfl
 | f + 1, i => by
   simp only [namT,namS,sel_br,sel_need]
   cases lt (i:Int) (toInt64 s.wn) with
  | false => rfl
  | true =>
   simp only [cond_true]
   cases inRange (i:Int) s.wn with
  | false => rfl
  | true =>
   simp only [cond_true,nd]
   cases namW s k i with
  | true => rfl
  | false => exact namT_sel s k K f (i + 1)
def badS (f:Nat) (s:RS) (k:Int):Option Bool:=(namS s k 6 0).bind fun nm => bif nm then some true else bif condB s.kind then unkF f s.cond k else some false
def misL (f:Nat) (R:MsF) (n:Nat) (ρ:Val) (l k:Int):Nat → Int → Option (Int × Bool)
 | 0,_ => none
 | m + 1, i => bif lt i l then nd (inRange i n) ((badS f (stAt ρ i.toNat) k).bind fun c => bif c then some ((stAt ρ i.toNat).at_, true) else
   (R (stAt ρ i.toNat).bn (stAt ρ i.toNat).bρ k).bind fun y => bif y.2 then some (y.1,true) else (R (stAt ρ i.toNat).en (stAt ρ i.toNat).eρ k).bind fun z => bif z.2 then some (z.1,true) else misL f R n ρ l k m (IntKind.wrap .i64 (i + 1))) else some (0,false)
def g80 (f:Nat) (R:MsF) (m:Nat) (c:C80):Tree (XP × (Int × Bool)) :=
 let o:=misL f R c.n c.ρ c.l c.k m c.i
 let y:=ov1 (0,false) o
 .need (os1 o) (.br y.2 (.leaf (.ret,(y.1,true))) (.leaf (.exit 0,(c.r,c.b))))
def out80 (r:Int) (b:Bool):Option (Int × Bool) → Option (XP × (Int × Bool))
 | some y => some (bif y.2 then (.ret,(y.1,true)) else (.exit 0,(r,b)))
 | none => none
theorem g80_sel (f:Nat) (R:MsF) (m:Nat) (c:C80):(g80 f R m c).sel = out80 c.r c.b (misL f R c.n c.ρ c.l c.k m c.i):=by
 unfold g80
 cases misL f R c.n c.ρ c.l c.k m c.i with
 | none => rfl
 | some y =>
   obtain ⟨y1,y2⟩:=y
   cases y2 <;> rfl
theorem step80 (f:Nat) (R:MsF) (m:Nat) (c:C80) (x:XP × (Int × Bool)) (h:(g80 f R (m + 1) c).sel = some x):(roundC A80 Tryz.prog (H80 f R) X6 10 80 0 (g80 f R m) c).sel = some x:=by
 rw [r80_eq]
 rw [g80_sel] at h
 unfold misL at h
 unfold r80
 have eb:boxV (stAt c.ρ c.i.toNat).bn (stAt c.ρ c.i.toNat).bρ = (stAt c.ρ c.i.toNat).bρ:=boxV_eq _
 have ee:boxV (stAt c.ρ c.i.toNat).en (stAt c.ρ c.i.toNat).eρ = (stAt c.ρ c.i.toNat).eρ:=boxV_eq _
 have c0:lt 0 (toInt64 2) = true:=rfl
 have c1:lt 1 (toInt64 2) = true:=rfl
 have c2:lt 2 (toInt64 2) = false:=rfl
 have d0:inRange 0 2 = true:=rfl
 have d1:inRange 1 2 = true:=rfl
 simp only [sel_br,sel_need,sel_leaf,namT_sel,g80_sel,eb,ee,c0,c1,c2,d0,d1,cond_true,cond_false]
 revert h
 unfold badS
 cases lt c.i c.l with
 | false => exact fun h => h
 | true =>
 cases inRange c.i c.n with
 | false => exact fun h => h
 | true =>
 simp only [cond_true,nd]
 cases namS (stAt c.ρ c.i.toNat) c.k 6 0 with
 | none => exact fun h => h
 | some nm =>
 cases nm with
 | true =>
   intro h
   simp only [Option.bind,cond_true] at h ⊢
   have:(!(condB (stAt c.ρ c.i.toNat).kind == true && (true == false && true)) || os1 (unkF f (stAt c.ρ c.i.toNat).cond c.k)) = true:=by
    cases condB (stAt c.ρ c.i.toNat).kind <;> rfl
   rw [this]
   exact h
 | false =>
 simp only [Option.bind,cond_false]
 have rest : ∀ (E : Bool), out80 c.r c.b ((some E).bind fun cc => bif cc then some ((stAt c.ρ c.i.toNat).at_, true) else
   (R (stAt c.ρ c.i.toNat).bn (stAt c.ρ c.i.toNat).bρ c.k).bind fun y => bif y.2 then some (y.1,true) else (R (stAt c.ρ c.i.toNat).en (stAt c.ρ c.i.toNat).eρ c.k).bind fun z => bif z.2 then some (z.1,true) else misL f R c.n c.ρ c.l c.k m (IntKind.wrap .i64 (c.i + 1))) = some x →
   (bif E then some (XP.ret,((stAt c.ρ c.i.toNat).at_,true)) else bif os1 (R (stAt c.ρ c.i.toNat).bn (stAt c.ρ c.i.toNat).bρ c.k) then
    bif (ov1 (0,false) (R (stAt c.ρ c.i.toNat).bn (stAt c.ρ c.i.toNat).bρ c.k)).2 then some (XP.ret,((ov1 (0,false) (R (stAt c.ρ c.i.toNat).bn (stAt c.ρ c.i.toNat).bρ c.k)).1,true)) else
     bif os1 (R (stAt c.ρ c.i.toNat).en (stAt c.ρ c.i.toNat).eρ c.k) then bif (ov1 (0,false) (R (stAt c.ρ c.i.toNat).en (stAt c.ρ c.i.toNat).eρ c.k)).2 then some (XP.ret,((ov1 (0,false) (R (stAt c.ρ c.i.toNat).en (stAt c.ρ c.i.toNat).eρ c.k)).1,true)) else
      out80 c.r c.b (misL f R c.n c.ρ c.l c.k m (IntKind.wrap .i64 (c.i + 1))) else none else none) = some x:=by
  intro E
  cases E with
  | true => exact fun h => h
  | false =>
  simp only [Option.bind,cond_false]
  cases R (stAt c.ρ c.i.toNat).bn (stAt c.ρ c.i.toNat).bρ c.k with
  | none => exact fun h => h
  | some y =>
  obtain ⟨y1,y2⟩:=y
  cases y2 with
  | true => exact fun h => h
  | false =>
  simp only [os1,ov1,cond_true,cond_false]
  cases R (stAt c.ρ c.i.toNat).en (stAt c.ρ c.i.toNat).eρ c.k with
  | none => exact fun h => h
  | some z =>
  obtain ⟨z1,z2⟩:=z
  cases z2 with
  | true => exact fun h => h
  | false => exact fun h => h
 cases condB (stAt c.ρ c.i.toNat).kind with
 | false => exact rest false
 | true =>
   simp only [cond_true]
   cases unkF f (stAt c.ρ c.i.toNat).cond c.k with
  | none => exact fun h => h
  | some E => exact rest E
theorem core80 (f:Nat) {R:MsF} (hR:UcOne Tryz.prog 80 (nG (G80 R))):∀ k,CoreOk Tryz.prog 80 0 1 S80 E80 (g80 f R k) :=
 CoreOk.fuel (A:=A80) a80 (h80 f hR) x6 10 (fun _ => rfl) (step80 f R)
def gg80 (f:Nat) (R:MsF) (c:C80):Tree (XP × (Int × Bool)):=g80 f R (c.n + 1) c
def X80 (f:Nat) (R:MsF):HdP:=⟨[],[],[],[((80,0),loopC A80 (gg80 f R))],[],6,[]⟩
theorem x80 (f:Nat) {R:MsF} (hR:UcOne Tryz.prog 80 (nG (G80 R))):XOk Tryz.prog (X80 f R):=XOk.lxCons XOk.nil (CoreOk.lx (g:=gg80 f R) a80 fun fn c b h1 h2 h3 c0 x hx => core80 f hR _ fn c b h1 h2 h3 c0 x hx)
def misG (f:Nat) (R:MsF):MsF:=fun n ρ k => misL f R n ρ (toInt64 n) k (n + 1) 0
def t80 (f:Nat) (R:MsF) (n:Nat) (ρ:Val) (k:Int):Tree AV :=
 let o:=misG f R n ρ k
 .need (os1 o) (.br (ov1 (0,false) o).2 (.leaf (encIB ((ov1 (0,false) o).1,true))) (.leaf (encIB (0,false))))
theorem t80_eq (f:Nat) (R:MsF) (n:Nat) (ρ:Val) (k:Int):hcTreeP Tryz.prog (H80 f R) (X80 f R) 10 80 [.c (.sl (rtab 1) n ρ),.c (.int .i64 k)] = t80 f R n ρ k:=by kernel_rfl
theorem misL_false {f:Nat} {R:MsF} {n:Nat} {ρ:Val} {l k:Int}:∀ (m:Nat) (i:Int) (y:Int),misL f R n ρ l k m i = some (y,false) → y = 0
 | 0,_,_,h => by cases h
 | m + 1, i, y, h => by
   unfold misL at h
   cases h1:lt i l with
  | false => rw [h1] at h; cases h; rfl
  | true =>
   rw [h1] at h
   simp only [cond_true] at h
   cases h2:inRange i n with
  | false => rw [h2] at h; cases h
  | true =>
   rw [h2] at h
   simp only [nd,cond_true] at h
   cases h3:badS f (stAt ρ i.toNat) k with
  | none => rw [h3] at h; cases h
  | some c =>
   rw [h3] at h
   simp only [Option.bind] at h
   cases c with
  | true => cases h
  | false =>
   simp only [cond_false] at h
   cases h4:R (stAt ρ i.toNat).bn (stAt ρ i.toNat).bρ k with
  | none => rw [h4] at h; cases h
  | some u =>
   rw [h4] at h
   obtain ⟨u1,u2⟩:=u
   cases u2 with
  | true => cases h
  | false =>
   simp only [cond_false] at h
   cases h5:R (stAt ρ i.toNat).en (stAt ρ i.toNat).eρ k with
  | none => rw [h5] at h; cases h
  | some v =>
   rw [h5] at h
   obtain ⟨v1,v2⟩:=v
   cases v2 with
  | true => cases h
  | false => exact misL_false m _ y h
theorem t80_say (f:Nat) (R:MsF) (n:Nat) (ρ:Val) (k:Int):Sy encIB (t80 f R n ρ k) (misG f R n ρ k):=by
 unfold t80
 cases h:misG f R n ρ k with
 | none => exact trivial
 | some y =>
   obtain ⟨y1,y2⟩:=y
   cases y2 with
  | true => exact Sy.need rfl (Sy.br1 rfl Sy.ret)
  | false =>
    obtain rfl:=misL_false _ _ _ h
    exact Sy.need rfl (Sy.br0 rfl Sy.ret)
theorem p80s (f:Nat) {R:MsF} (hR:UcOne Tryz.prog 80 (nG (G80 R))):UcOne Tryz.prog 80 (nG (G80 (misG f R))):=by
 refine ucOneP_of_all (H:=H80 f R) (X:=X80 f R) (h80 f hR) (x80 f hR) 10 80 ?_
 intro args r h
 obtain ⟨n,ρ,k,x,e1,h1,e2⟩:=G80_some h
 rw [e1,e2,t80_eq]
 have:=t80_say f R n ρ k
 rw [h1] at this
 exact this
def misF (f:Nat):Nat → MsF
 | 0 => fun _ _ _ => none
 | d + 1 => misG f (misF f d)
theorem p80 (f:Nat):∀ d,UcOne Tryz.prog 80 (nG (G80 (misF f d)))
 | 0 => by
   intro args r h
   obtain ⟨n,ρ,k,x,_,h1,_⟩:=G80_some (nG_sel h)
   cases h1
 | d + 1 => p80s f (p80 f d)
abbrev ChF:=ByteArray → Nat → Val → Nat → Val → Option (Int × Int)
def checkS (f d:Nat):ChF:=fun name m κ n ρ =>
 nd (smallB n ρ) (bif Ro.ckE ⟨n,ρ⟩ != 0 then some (0,Ro.ckE ⟨n,ρ⟩) else (formedS f d name m κ).bind fun e => bif e != 0 then some (0,e) else (misF f d m κ (toInt64 n)).bind fun y => bif y.2 then some (y.1,7) else some (0,0))
def G29 (C:ChF):List A1 → Option (Bool × AV)
 | [.agg [.str name,.sl es' m κ],.c (.sl es n ρ)] => if shEq.shsEq es' (rtab 1) && shEq.shsEq es Ro.siSh then some (os1 (C name m κ n ρ),enc2 (ov1 (0,0) (C name m κ n ρ))) else none
 | _ => none
theorem G29_some {C:ChF} {args:List A1} {r:AV} (h:G29 C args = some (true,r)):∃ name m κ n ρ x,args = [.agg [.str name,.sl (rtab 1) m κ],.c (.sl Ro.siSh n ρ)] ∧ C name m κ n ρ = some x ∧ r = enc2 x:=by
 unfold G29 at h
 split at h
 ·split at h
  ·rename_i name es' m κ es n ρ hs
   rw [Bool.and_eq_true] at hs
   simp only [Option.some.injEq,Prod.mk.injEq] at h
   cases hR:C name m κ n ρ with
   | none => rw [hR] at h; cases h.1
   | some x => rw [hR] at h; exact ⟨name,m,κ,n,ρ,x,by rw [shsEq_eq hs.1,shsEq_eq hs.2],hR,h.2.symm⟩
  ·cases h
 ·cases h
noncomputable abbrev H29 (f d:Nat):Hd:=⟨[(13,nG G13)],[(37,nG (G37 f d)),(80,nG (G80 (misF f d)))],[],[]⟩
theorem h29 (f d:Nat):HdOk Tryz.prog (H29 f d):=(((HdOk.nil.ucCons (p80 f d)).ucCons (p37 f d)).tcCons p13)
noncomputable def t29 (f d:Nat) (name:ByteArray) (m:Nat) (κ:Val) (n:Nat) (ρ:Val):Tree AV :=
 let e:=formedS f d name m κ
 let y:=misF f d m κ (toInt64 n)
 .need (smallB n ρ) (.br (Ro.ckE ⟨n,ρ⟩ != 0) (lf2 0 (Ro.ckE ⟨n,ρ⟩)) (.need (opD e) (.br (opN e != 0) (lf2 0 (opN e)) (.need (os1 y) (.br (ov1 (0,false) y).2 (lf2 (ov1 (0,false) y).1 7) (lf2 0 0))))))
theorem t29_eq (f d:Nat) (name:ByteArray) (m:Nat) (κ:Val) (n:Nat) (ρ:Val):hcTree Tryz.prog (H29 f d) 10 29 [.agg [.str name,.sl (rtab 1) m κ],.c (.sl Ro.siSh n ρ)] = t29 f d name m κ n ρ:=by kernel_rfl
theorem t29_say (f d:Nat) (name:ByteArray) (m:Nat) (κ:Val) (n:Nat) (ρ:Val):Sy enc2 (t29 f d name m κ n ρ) (checkS f d name m κ n ρ):=by
 unfold t29 checkS
 simp only [opN_ov,opD_os]
 refine Sy.nd id fun _ => Sy.cond (fun _ => Sy.ret) fun _ => ?_
 cases formedS f d name m κ with
 | none => exact trivial
 | some e =>
 refine Sy.need rfl (Sy.cond (fun _ => Sy.ret) fun _ => ?_)
 cases misF f d m κ (toInt64 n) with
 | none => exact trivial
 | some y => exact Sy.need rfl (Sy.cond (fun _ => Sy.ret) fun _ => Sy.ret)
theorem p29 (f d:Nat):UcOne Tryz.prog 29 (nG (G29 (checkS f d))):=by
 refine ucOne_of_tree (H:=H29 f d) (h29 f d) 10 29 ?_
 intro args r h
 obtain ⟨name,m,κ,n,ρ,x,e1,h1,e2⟩:=G29_some h
 refine ⟨_,by rw [e1,t29_eq],?_⟩
 have:=t29_say f d name m κ n ρ
 rw [h1] at this
 rw [e2]
 exact this
theorem NcOne.uc {P : Program} {f : Nat} {G : List A1 → Tree (AV × Mem)} {G' : List A1 → Option (Bool × AV)} (h : NcOne P f G)
  (hg:∀ args r,G' args = some (true,r) → ∃ v m,(G args).sel = some (v,m) ∧ (frzA m v).2 = r ∧ closedAV r = true):UcOne P f (nG G'):=by
 intro args r hs hcl F w vs hargs
 obtain ⟨v,m,h1,h2,h3⟩:=hg args r (nG_sel hs)
 refine (h args v m h1 hcl F w vs hargs).mono fun e w2 ⟨u,F',bs',he,hext,hm,hu⟩ => ?_
 obtain ⟨F2,e2,_,r2⟩:=frzA_ok hm hu
 have e3:=hext.trans e2 (Nat.zero_le _)
 rw [h2] at r2
 refine ⟨u,he,e3.below,?_⟩
 exact AV.Rel.grow (bs:=[]) (bs':=[]) ⟨Nat.le_refl _,fun p _ hp => e3.F2 p hp.1 hp.2 (by simp),fun _ _ _ => rfl,fun _ _ h => h⟩ (r2.closed h3)
def G51u:List A1 → Option (Bool × AV)
 | [.c (.sl es n ρ)] => if shEq.shsEq es Ro.siSh then some (smallB n ρ,.one (.c (.sl Ro.siSh n ρ))) else none
 | _ => none
theorem p51:UcOne Tryz.prog 51 (nG G51u):=NcOne.uc n51 fun args r h => by
 unfold G51u at h
 split at h
 ·split at h
  ·rename_i es n ρ hs
   simp only [Option.some.injEq,Prod.mk.injEq] at h
   obtain ⟨h1,rfl⟩:=h
   rw [shsEq_eq hs]
   refine ⟨.one (.c (.os 0 8)),[some (56,[.row false Ro.siSh n ρ])],?_,rfl,rfl⟩
   show (Tree.need (smallB n ρ) _).sel = _
   rw [h1]; rfl
  ·cases h
 ·cases h
noncomputable abbrev H15 (C:ChF) (B:BF):Hd:=⟨[],[(29,nG (G29 C)),(51,nG G51u)],[],[(52,clG2 (u52 B))]⟩
theorem h15 {C:ChF} (hC:UcOne Tryz.prog 29 (nG (G29 C))) {B:BF} (hB:McOne Tryz.prog 52 (clG2 (u52 B))):HdOk Tryz.prog (H15 C B):=((HdOk.nil.mcCons hB).ucCons p51).ucCons hC
end Go.Proofs.YtiefjlcakpdfeaaGreat
namespace Go.Sx
open Go Go.RowKit
variable {P:Program}
def LCore (P:Program) (f i k0:Nat) {C D:Type} (S:C → St) (E:D → St) (g:C → Tree (XE × D)):Prop :=
 ∀ fn c b,P.funcs[f]? = some fn → fn.body = some c → nthLoop c i = some b → ∀ c0 x,(g c0).sel = some x → ∃ N,∀ (lr:Option Nat) (nn:Nat) (Ds:List Deferred) (F:Nat → Prop) (w:World) (bs:List BI) (a:Act),k0 ≤ bs.length → StRel P Ds F w bs (S c0) a → ∀ Q:Exit → Act → World → Prop,
  (∀ F' w' bs' a',Ext k0 F w bs F' w' bs' → StRel P Ds F' w' bs' (E x.2) a' → Q (xe x.1) a' w') → Code.roundsIn (FW lr) nn P b Q N a w
def roundL {C D:Type} (A:Frame C D) (P:Program) (H:Hd) (d f i:Nat) (g:C → Tree (XE × D)) (c:C):Tree (XE × D) :=
 (evCode P H (evFn P H d) f A.k0 (i + 1) (loopBody P f i) (A.S c)).bind fun y => match y.1 with
  | .normal => (match stepC A.keep A.k0 A.n A.get y.2 with
   | some c' => g c'
   | none => .fail)
  | e => (match stepC A.keepE A.k0 A.n A.getE y.2 with
   | some r => .leaf (e,r)
   | none => .fail)
theorem LCore.fail {f i k0:Nat} {C D:Type} {S:C → St} {E:D → St}:LCore P f i k0 S E fun _ => .fail:=fun _ _ _ _ _ _ _ _ h => by simp [Tree.sel] at h
theorem LCore.le {f i k0:Nat} {C D:Type} {S:C → St} {E:D → St} {g g':C → Tree (XE × D)} (h:LCore P f i k0 S E g) (hl:∀ c x,(g' c).sel = some x → (g c).sel = some x):LCore P f i k0 S E g' :=
 fun fn c b h1 h2 h3 c0 x hx => h fn c b h1 h2 h3 c0 x (hl c0 x hx)
theorem LCore.round {C D:Type} {A:Frame C D} (hA:A.Ok) {H:Hd} (hH:HdOk P H) (d:Nat) {f i:Nat} {g:C → Tree (XE × D)} (h:LCore P f i A.k0 A.S A.E g):LCore P f i A.k0 A.S A.E (roundL A P H d f i g):=by
 intro fn c b hf hc hb c0 x hx
 have hlb:loopBody P f i = b:=by
  unfold loopBody
  rw [nth_eq]
  simp only [Array.getElem?_toList,hf,hc,hb]
 unfold roundL at hx
 rw [hlb] at hx
 obtain ⟨⟨y,s'⟩,h1,h2⟩:=sel_bind hx
 have go : ∀ N, (∀ (lr : Option Nat) (nn : Nat) (Ds : List Deferred) (F : Nat → Prop) (w : World) (bs : List BI) (a : Act), A.k0 ≤ bs.length → StRel P Ds F w bs s' a → ∀ Q : Exit → Act → World → Prop,
   (∀ F' w' bs' a',Ext A.k0 F w bs F' w' bs' → StRel P Ds F' w' bs' (A.E x.2) a' → Q (xe x.1) a' w') → Exit.then (Code.roundsIn (FW lr) nn P b Q N) Q (xe y) a w) →
   ∃ N,∀ (lr:Option Nat) (nn:Nat) (Ds:List Deferred) (F:Nat → Prop) (w:World) (bs:List BI) (a:Act),A.k0 ≤ bs.length → StRel P Ds F w bs (A.S c0) a → ∀ Q:Exit → Act → World → Prop,
    (∀ F' w' bs' a',Ext A.k0 F w bs F' w' bs' → StRel P Ds F' w' bs' (A.E x.2) a' → Q (xe x.1) a' w') → Code.roundsIn (FW lr) nn P b Q N a w:=by
  intro N hN
  refine ⟨N + 1,fun lr nn Ds F w bs a hK hs Q hQ => ?_⟩
  unfold Code.roundsIn
  refine evCode_ok hH.pc (evFn_ok hH d) f A.k0 b (i + 1) (A.S c0) h1 (fun j b' h hj hk => hH.lh f fn c (i + 1 + j) b' h hf hc (nthLoop_in hb hj) hk) hK hs fun F' w' bs' a' he hs' => ?_
  exact hN lr nn Ds F' w' bs' a' (he.le hK) hs' Q fun F'' w'' bs'' a'' he' hs'' => hQ F'' w'' bs'' a'' (he.trans he' (Nat.le_refl _)) hs''
 have stop : ∀ {r : D}, stepC A.keepE A.k0 A.n A.getE s' = some r → x = (y, r) → y ≠ .normal → ∃ N, ∀ (lr : Option Nat) (nn : Nat) (Ds : List Deferred) (F : Nat → Prop) (w : World) (bs : List BI) (a : Act), A.k0 ≤ bs.length → StRel P Ds F w bs (A.S c0) a → ∀ Q : Exit → Act → World → Prop,
    (∀ F' w' bs' a',Ext A.k0 F w bs F' w' bs' → StRel P Ds F' w' bs' (A.E x.2) a' → Q (xe x.1) a' w') → Code.roundsIn (FW lr) nn P b Q N a w:=by
  intro r hr hxe hy
  subst hxe
  refine go 0 fun lr nn Ds F w bs a hK hs Q hQ => ?_
  obtain ⟨bs1,he1,hl1,hs2⟩:=stepC_ok hA.getE hr hs
  have:=hQ F w bs1 a he1 hs2
  cases y with
  | normal => exact (hy rfl).elim
  | exit k => exact this
  | ret => exact this
 cases y with
 | normal =>
   simp only at h2
   split at h2
   ·rename_i c' hc'
    obtain ⟨N,hN⟩:=h fn c b hf hc hb c' x h2
    refine go N fun lr nn Ds F w bs a hK hs Q hQ => ?_
    obtain ⟨bs1,he1,hl1,hs2⟩:=stepC_ok hA.get hc' hs
    exact hN lr nn Ds F w bs1 a hl1 hs2 Q fun F' w' bs' a' he' hs' => hQ F' w' bs' a' (he1.trans he' (Nat.le_refl _)) hs'
   ·simp [Tree.sel] at h2
 | exit k =>
   simp only at h2
   split at h2
   ·rename_i r hr
    simp only [Tree.sel,Option.some.injEq] at h2
    exact stop hr h2.symm (by simp)
   ·simp [Tree.sel] at h2
 | ret =>
   simp only at h2
   split at h2
   ·rename_i r hr
    simp only [Tree.sel,Option.some.injEq] at h2
    exact stop hr h2.symm (by simp)
   ·simp [Tree.sel] at h2
theorem LCore.fuel {C D : Type} {A : Frame C D} (hA : A.Ok) {H : Hd} (hH : HdOk P H) (d : Nat) {f i : Nat} {g : Nat → C → Tree (XE × D)} (h0 : ∀ c, (g 0 c).sel = none)
  (hs:∀ k c x,(g (k + 1) c).sel = some x → (roundL A P H d f i (g k) c).sel = some x):∀ k,LCore P f i A.k0 A.S A.E (g k)
 | 0 => LCore.fail.le fun c x h => by rw [h0] at h; cases h
 | k + 1 => (LCore.round hA hH d (LCore.fuel hA hH d h0 hs k)).le (hs k)
def loopE {C D:Type} (A:Frame C D) (g:C → Tree (XE × D)) (K:Nat) (s:St):Tree (XE × St) :=
 if Nat.ble K A.k0 then (match stepC A.keep A.k0 A.n A.get s with
  | some c => (g c).bind fun x => .leaf (x.1,A.E x.2)
  | none => .fail) else .fail
theorem LCore.ok {C D:Type} {A:Frame C D} (hA:A.Ok) {f i:Nat} {g:C → Tree (XE × D)} (h:LCore P f i A.k0 A.S A.E g) (fn:Func) (c b:Code) (hf:P.funcs[f]? = some fn) (hc:fn.body = some c) (hb:nthLoop c i = some b):LoopOk P b (loopE A g):=by
 intro K s x hx lr nn Ds F w bs a hKb hs Q hQ
 unfold loopE at hx
 split at hx
 rotate_left
 ·simp [Tree.sel] at hx
 rename_i hK
 have hK:=Nat.ble_eq.mp hK
 split at hx
 rotate_left
 ·simp [Tree.sel] at hx
 rename_i c0 hc0
 obtain ⟨y,h1,h2⟩:=sel_bind hx
 simp only [Tree.sel,Option.some.injEq] at h2
 subst h2
 obtain ⟨N,hN⟩:=h fn c b hf hc hb c0 y h1
 obtain ⟨bs1,he1,hl1,hs2⟩:=stepC_ok hA.get hc0 hs
 exact wpIn_loop_rounds N (hN lr nn Ds F w bs1 a hl1 hs2 Q fun F' w' bs' a' he' hs' => hQ F' w' bs' a' ((he1.trans he' (Nat.le_refl _)).weak hK) hs')
def rowB:Option (Option (TypeId × List CV)) → Option (TypeId × List Sh × Nat × Val)
 | some (some (T,[.row false es n ρ])) => some (T,es,n,ρ)
 | _ => none
def moveMem (b o:Nat) (mem:Mem):Mem :=
 match nth mem b with
 | some (some (T,cs)) => if isRowL cs then mem else match nth cs o with
  | some (.os k sz) => (match rowB (nth mem k) with
   | some (T',es,n,ρ) => if isRowL (setN cs o (.os mem.length sz)) || k == b then mem else setN (setN mem k none) b (some (T,setN cs o (.os mem.length sz))) ++ [some (T',[.row false es n ρ])]
   | none => mem)
  | _ => mem
 | _ => mem
theorem rowB_some {e:Option (Option (TypeId × List CV))} {T:TypeId} {es:List Sh} {n:Nat} {ρ:Val} (h:rowB e = some (T,es,n,ρ)):e = some (some (T,[.row false es n ρ])):=by
 unfold rowB at h
 split at h
 ·cases h; rfl
 ·cases h
theorem moveMem_ok {F w bs mem} (hm:MemRel P F w bs mem) (b o:Nat):∃ bs',Ext bs.length F w bs F w bs' ∧ MemRel P F w bs' (moveMem b o mem):=by
 have triv:∃ bs',Ext bs.length F w bs F w bs' ∧ MemRel P F w bs' mem:=⟨bs,Ext.refl,hm⟩
 unfold moveMem
 split
 rotate_left
 ·exact triv
 rename_i T cs hb
 split
 ·exact triv
 rename_i hrow
 simp only [Bool.not_eq_true] at hrow
 split
 rotate_left
 ·exact triv
 rename_i k sz ho
 split
 rotate_left
 ·exact triv
 rename_i T' es n ρ hk
 have hk:=rowB_some hk
 split
 ·exact triv
 rename_i hcond
 simp only [Bool.or_eq_true,not_or,Bool.not_eq_true,beq_eq_false_iff_ne,ne_eq] at hcond
 obtain ⟨hrow',hkb⟩:=hcond
 have hklt:=nth_lt hk
 rw [← hm.len] at hklt
 obtain ⟨x,hx⟩ : ∃ x,nth bs k = some x:=⟨bs[k],by rw [nth_eq]; exact List.getElem?_eq_getElem hklt⟩
 have hblt:=nth_lt hb
 have hblt':=hblt
 rw [← hm.len] at hblt'
 obtain ⟨y,hy⟩ : ∃ y,nth bs b = some y:=⟨bs[b],by rw [nth_eq]; exact List.getElem?_eq_getElem hblt'⟩
 have hko:=hm.row k T' false es n ρ x hk hx
 have hkill:=hm.kill k
 have hpush:MemRel P F w (bs ++ [x]) (setN mem k none ++ [some (T',[.row false es n ρ])]):=by
  refine hkill.push x (fun hl => hm.loc k x T' _ hx hk hl) (fun hl j z T1 cs1 hj hc hlz e => ?_) (fun h => by simp [isRowL] at h) (fun fz es' n' ρ' h => ?_)
  ·rcases nth_setN hc with ⟨_,h⟩ | ⟨hne,hc⟩
   ·cases h
   ·exact hne (hm.inj j k z x T1 cs1 T' _ hj hx hc hk hlz hl e)
  ·simp only [List.cons.injEq,CV.row.injEq,and_true] at h
   obtain ⟨rfl,rfl,rfl,rfl⟩:=h
   exact hko
 have he:Ext bs.length F w bs F w (bs ++ [x]):=(Ext.refl (K:=bs.length)).push (.inl ⟨x,nth_mem hx,rfl⟩)
 refine ⟨bs ++ [x],he,?_⟩
 have hb2:nth (setN mem k none ++ [some (T',[.row false es n ρ])]) b = some (some (T,cs)):=by
  refine nth_append ?_
  rw [nth_eq,setN_eq,List.getElem?_set_ne hkb,← nth_eq]
  exact hb
 have e:setN (setN mem k none) b (some (T,setN cs o (.os mem.length sz))) ++ [some (T',[.row false es n ρ])] = setN (setN mem k none ++ [some (T',[.row false es n ρ])]) b (some (T,setN cs o (.os mem.length sz))):=by
  rw [setN_eq (setN mem k none),setN_eq (setN mem k none ++ _),List.set_append_left _ _ (by rw [setN_length]; exact hblt)]
 rw [e]
 have hnew:nth (bs ++ [x]) mem.length = some x:=by rw [← hm.len]; exact nth_append_last _ _
 refine hpush.cellsTo hb2 hrow hrow' fun z vs _ _ hr => ?_
 refine All2.of_nth (by rw [setN_length]; exact hr.length) fun i c v hc hv => ?_
 rcases nth_setN hc with ⟨rfl,rfl⟩ | ⟨_,hc⟩
 ·obtain ⟨v',hv',hrel⟩:=hr.nth ho
  rw [nth_eq,hv'] at hv
  simp at hv; subst hv
  cases hrel with
  | os h0 hbase =>
    have h0':nth (bs ++ [x]) k = some x:=nth_append hx
    rw [h0'] at h0
    simp only [Option.some.injEq] at h0
    subst h0
    exact .os hnew hbase
 ·obtain ⟨v',hv',hrel⟩:=hr.nth hc
  rw [nth_eq,hv'] at hv
  simp at hv; subst hv
  exact hrel
def St.move (b o:Nat) (s:St):St:=⟨s.tmps,moveMem b o s.mem⟩
theorem StRel.move {Ds F w bs s} {a:Act} (hs:StRel P Ds F w bs s a) (b o:Nat) {K:Nat} (hK:K ≤ bs.length):∃ bs',Ext K F w bs F w bs' ∧ K ≤ bs'.length ∧ StRel P Ds F w bs' (s.move b o) a:=by
 obtain ⟨bs',he,hm⟩:=moveMem_ok hs.mem b o
 refine ⟨bs',he.weak hK,Nat.le_trans hK he.le,hs.defers,hs.len,fun i sl x h1 h2 => ?_,hm⟩
 have:=hs.slots i sl x h1 h2
 exact ⟨fun hk => AV.Rel.grow he.grow (this.1 hk),this.2⟩
def moveH (b o:Nat) (h:Nat → St → Tree (XE × St)) (K:Nat) (s:St):Tree (XE × St):=h K (s.move b o)
theorem moveH_ok {c:Code} {h:Nat → St → Tree (XE × St)} (b o:Nat) (hh:LoopOk P c h):LoopOk P c (moveH b o h):=by
 intro K s x hx lr nn Ds F w bs a hK hs Q hQ
 obtain ⟨bs',he,hK',hs'⟩:=hs.move b o hK
 exact hh K (s.move b o) x hx lr nn Ds F w bs' a hK' hs' Q fun F' w' bs2 a' he' hs2 => hQ F' w' bs2 a' (he.trans he' (Nat.le_refl _)) hs2
theorem MemRel.lpWk {F w bs mem} (hm : MemRel P F w bs mem) {b : Nat} {T : TypeId} {f i : Nat} {st : LpS} {cs ds : List CV} (hb : nth mem b = some (some (T, .lp f i st :: cs))) (hl : ds.length = cs.length)
  (hw:∀ j d,nth ds j = some d → isAny d = true ∨ nth cs j = some d):MemRel P F w bs (setN mem b (some (T,.lp f i st :: ds))):=by
 have key:∀ k T' es,nth (setN mem b (some (T,.lp f i st :: ds))) k = some (some (T',es)) → (k = b ∧ T' = T ∧ es = .lp f i st :: ds) ∨ (k ≠ b ∧ nth mem k = some (some (T',es))):=by
  intro k T' es hk
  rcases nth_setN hk with ⟨rfl,e⟩ | ⟨hne,hk⟩
  ·simp only [Option.some.injEq,Prod.mk.injEq] at e; exact .inl ⟨rfl,e.1,e.2⟩
  ·exact .inr ⟨hne,hk⟩
 have live:∀ k T' es,nth (setN mem b (some (T,.lp f i st :: ds))) k = some (some (T',es)) → ∀ x:BI,liveL x es → ∃ T1 cs1,nth mem k = some (some (T1,cs1)) ∧ liveL x cs1:=by
  intro k T' es hk x hv
  rcases key k T' es hk with ⟨rfl,rfl,rfl⟩ | ⟨hne,hk⟩
  ·exact ⟨_,_,hb,liveL_lp⟩
  ·exact ⟨_,_,hk,hv⟩
 refine ⟨by rw [setN_length]; exact hm.len,fun k x T' es hk hc' hv => ?_,fun k k' x x' T1 cs1 T2 cs2 h1 h2 h3 h4 h5 h6 h7 => ?_,fun k T' es x hc' hrr hk => ?_,fun k T' fz' es' n' ρ' x hc' hk => ?_,fun k T' f' i' st' es x hc' hk => ?_⟩
 ·obtain ⟨T1,cs1,g1,g2⟩:=live k T' es hc' x hv
  exact hm.loc k x _ cs1 hk g1 g2
 ·obtain ⟨T3,cs3,g1,g2⟩:=live k T1 cs1 h3 x h5
  obtain ⟨T4,cs4,g3,g4⟩:=live k' T2 cs2 h4 x' h6
  exact hm.inj k k' x x' T3 cs3 T4 cs4 h1 h2 g1 g3 g2 g4 h7
 ·rcases key k T' es hc' with ⟨rfl,rfl,rfl⟩ | ⟨hne,hc'⟩
  ·simp [isRowL] at hrr
  ·exact hm.cont k T' es x hc' hrr hk
 ·rcases key k T' _ hc' with ⟨rfl,rfl,e⟩ | ⟨hne,hc'⟩
  ·simp at e
  ·exact hm.row k T' fz' es' n' ρ' x hc' hk
 ·rcases key k T' _ hc' with ⟨rfl,rfl,e⟩ | ⟨hne,hc'⟩
  ·simp only [List.cons.injEq,CV.lp.injEq] at e
   obtain ⟨⟨rfl,rfl,rfl⟩,rfl⟩:=e
   obtain ⟨R,h1,h2,h4,h5,h6⟩:=hm.lp k _ f' i' st' cs x hb hk
   refine ⟨R,h1,h2,h4,by rw [h5,hl],fun j c v hj hv ha => ?_⟩
   rcases hw j c hj with h | h
   ·rw [h] at ha; cases ha
   ·exact h6 j c v h hv ha
  ·exact hm.lp k T' f' i' st' es x hc' hk
end Go.Sx
