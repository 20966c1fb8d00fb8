/-
 Part SpX of the proof: RbZb RbZc RpA RolA RolB RolC RolD RolE.
-/
import Derived.Test.YtiefjlcakpdfeaaGreatSpW
import Derived.Test.YtiefjlcakpdfeaaGreatRows
import Derived.Test.YtiefjlcakpdfeaaGreatSpN
import Derived.Test.YtiefjlcakpdfeaaGreatSpO
namespace Go.Proofs.YtiefjlcakpdfeaaGreat
open Go Go.Sx Go.RowKit Rb
set_option maxRecDepth 100000
abbrev RBl:=Nat → Val → Option Int
def G90 (R:RBl):List A1 → Option (Bool × AV)
 | [.c (.sl es n ρ)] => if shEq.shsEq es (rtab 1) then some (opD (R n ρ),.one (.c (.int .i64 (opN (R n ρ))))) else none
 | _ => none
theorem G90_some {R:RBl} {args:List A1} {r:AV} (h:G90 R args = some (true,r)):∃ n ρ,args = [.c (.sl (rtab 1) n ρ)] ∧ opD (R n ρ) = true ∧ r = .one (.c (.int .i64 (opN (R n ρ)))):=by
 unfold G90 at h
 split at h
 ·split at h
  ·rename_i es n ρ hs
   simp only [Option.some.injEq,Prod.mk.injEq] at h
   exact ⟨n,ρ,by rw [shsEq_eq hs],h.1,h.2.symm⟩
  ·cases h
 ·cases h
def stAt (ρ:Val) (i:Nat):RS:=⟨((ρ.at i).at 0).S [],((ρ.at i).at 1).L [],(ρ.at i).at 1,⟨((ρ.at i).at 2).S [],((ρ.at i).at 3).N [],((ρ.at i).at 4).L [],(ρ.at i).at 4⟩,((ρ.at i).at 5).L [],(ρ.at i).at 5,((ρ.at i).at 6).L [],(ρ.at i).at 6,((ρ.at i).at 7).N []⟩
abbrev C90:=Int × (Nat × Val) × Int × Int
def S90 (c:C90):St:=mkS 44 [(2,.one (.c (.int .i64 c.1))),(9,.one (.c (.sl (rtab 1) c.2.1.1 c.2.1.2))),(10,.one (.c (.int .i64 c.2.2.1))),(11,.one (.c (.int .i64 c.2.2.2)))] []
def get90:List (Nat × AV) → Mem → Option C90
 | [(2,.one (.c (.int .i64 r))),(9,.one (.c (.sl es n ρ))),(10,.one (.c (.int .i64 l))),(11,.one (.c (.int .i64 i)))],[] => if shEq.shsEq es (rtab 1) then some (r,(n,ρ),l,i) else none
 | _,_ => none
theorem get90_ok:∀ l m c,get90 l m = some c → mkS 44 l m = S90 c:=by
 intro l m c h
 unfold get90 at h
 split at h
 ·split at h
  ·rename_i hs
   cases h
   rw [shsEq_eq hs]
   rfl
  ·cases h
 ·cases h
def E90 (v:Int):St:=mkS 44 [(2,.one (.c (.int .i64 v)))] []
def getE90:List (Nat × AV) → Mem → Option Int
 | [(2,.one (.c (.int .i64 v)))],[] => some v
 | _,_ => none
theorem getE90_ok:∀ l m c,getE90 l m = some c → mkS 44 l m = E90 c:=by
 intro l m c h
 unfold getE90 at h
 split at h
 ·cases h; rfl
 ·cases h
def A90:Sx.Frame C90 Int:=⟨0,44,[2,9,10,11],get90,S90,[2],getE90,E90⟩
theorem a90:A90.Ok:=.of_eq get90_ok getE90_ok
noncomputable abbrev H90 (f:Nat) (R:RBl):Hd:=⟨[lK,(129,oG G129)],[(134,nG G134),(135,nG (G135 (expF f))),(90,nG (G90 R))],[],[]⟩
theorem h90 (f:Nat) {R:RBl} (hR:UcOne Tryz.prog 90 (nG (G90 R))):HdOk Tryz.prog (H90 f R):=HdOk.lK ((((HdOk.nil.ucCons hR).ucCons (p135 f)).ucCons p134).pcCons p129)
abbrev X03:HdP:=⟨[],[],[],[],[],3,[]⟩
def condB (kd:ByteArray):Bool:=bif bif strEq kd wIf then true else strEq kd wRepeat then true else strEq kd wRequire
def boxV (n:Nat) (ρ:Val):Val:=Val.ofC (.sl (rtab 1) n ρ)
theorem boxV_eq (ρ:Val):boxV (ρ.L []) ρ = ρ:=by
 cases ρ with
 | mk B N S L =>
   show Val.mk B N S _ = _
   congr 1
   funext p
   cases p <;> rfl
def r90 (f:Nat) (R:RBl) (g:C90 → Tree (XP × Int)) (c:C90):Tree (XP × Int) :=
 let i:=c.2.2.2
 let s:=stAt c.2.1.2 i.toNat
 let x:=expF f s.cond 1
 let u:=R s.bn (boxV s.bn s.bρ)
 let v:=R s.en (boxV s.en s.eρ)
 let w:=R 0 Val.zero
 let EX:=g (c.1,c.2.1,c.2.2.1,IntKind.wrap .i64 (i + 1))
 let T:=fun (j:Int) (y:Option Int) (K:Tree (XP × Int)) => Tree.br (lt j (toInt64 2)) (.need (inRange j 2) (.need (opD y) (.br (opN y != 0) (.leaf (.ret,opN y)) K))) EX
 let REST:=T 0 u (T 1 v (T 2 w .fail))
 .br (lt i c.2.2.1) (.need (inRange i c.2.1.1) (.need (fldD s) (.br (!fldV s) (.leaf (.ret,3))
  (.br (condB s.kind) (.need (opD x) (.br (opN x != 0) (.leaf (.ret,opN x)) REST)) REST)))) (.leaf (.exit 0,c.1))
theorem r90_eq (f:Nat) (R:RBl) (g:C90 → Tree (XP × Int)) (r:Int) (n:Nat) (ρ:Val) (l i:Int):roundC A90 Tryz.prog (H90 f R) X03 10 90 0 g (r,(n,ρ),l,i) = r90 f R g (r,(n,ρ),l,i):=by kernel_rfl
def blkL (f:Nat) (R:RBl) (n:Nat) (ρ:Val) (l:Int):Nat → Int → Option Int
 | 0,_ => none
 | k + 1, i => bif lt i l then (bif inRange i n then (bif fldD (stAt ρ i.toNat) then (bif !fldV (stAt ρ i.toNat) then some 3 else
   match (bif condB (stAt ρ i.toNat).kind then expF f (stAt ρ i.toNat).cond 1 else some 0) with
   | none => none
   | some x => bif x != 0 then some x else match R (stAt ρ i.toNat).bn (stAt ρ i.toNat).bρ with
    | none => none
    | some y => bif y != 0 then some y else match R (stAt ρ i.toNat).en (stAt ρ i.toNat).eρ with
     | none => none
     | some z => bif z != 0 then some z else blkL f R n ρ l k (IntKind.wrap .i64 (i + 1))) else none) else none) else some 0
def g90 (f:Nat) (R:RBl) (k:Nat) (c:C90):Tree (XP × Int) :=
 let x:=blkL f R c.2.1.1 c.2.1.2 c.2.2.1 k c.2.2.2
 .need (opD x) (.br (opN x != 0) (.leaf (.ret,opN x)) (.leaf (.exit 0,c.1)))
def outE (r:Int):Option Int → Option (XP × Int)
 | some x => some (bif x != 0 then (.ret,x) else (.exit 0,r))
 | none => none
theorem g90_sel (f:Nat) (R:RBl) (k:Nat) (c:C90):(g90 f R k c).sel = outE c.1 (blkL f R c.2.1.1 c.2.1.2 c.2.2.1 k c.2.2.2):=by
 unfold g90
 cases blkL f R c.2.1.1 c.2.1.2 c.2.2.1 k c.2.2.2 with
 | none => rfl
 | some x =>
   show (bif true then (bif x != 0 then some _ else some _) else none) = _
   unfold outE
   simp only
   cases (x != 0) <;> rfl
theorem step90 (f:Nat) (R:RBl) (k:Nat) (c:C90) (x:XP × Int) (h:(g90 f R (k + 1) c).sel = some x):(roundC A90 Tryz.prog (H90 f R) X03 10 90 0 (g90 f R k) c).sel = some x:=by
 obtain ⟨r,⟨n,ρ⟩,l,i⟩:=c
 rw [r90_eq]
 rw [g90_sel] at h
 unfold blkL at h
 unfold r90
 have eb:boxV (stAt ρ i.toNat).bn (stAt ρ i.toNat).bρ = (stAt ρ i.toNat).bρ:=boxV_eq _
 have ee:boxV (stAt ρ i.toNat).en (stAt ρ i.toNat).eρ = (stAt ρ i.toNat).eρ:=boxV_eq _
 have c0:lt 0 (toInt64 2) = true:=rfl
 have c1:lt 1 (toInt64 2) = true:=rfl
 have c2:lt 2 (toInt64 2) = false:=rfl
 have d0:inRange 0 2 = true:=rfl
 have d1:inRange 1 2 = true:=rfl
 simp only [sel_br,sel_need,sel_leaf,g90_sel,eb,ee,c0,c1,c2,d0,d1,cond_true,cond_false]
 simp only at h
 revert h
 cases lt i l with
 | false => exact fun h => h
 | true =>
 cases inRange i n with
 | false => exact fun h => by simp [outE] at h
 | true =>
 cases fldD (stAt ρ i.toNat) with
 | false => exact fun h => by simp [outE] at h
 | true =>
 cases fldV (stAt ρ i.toNat) with
 | false => exact fun h => h
 | true =>
 simp only [cond_true,Bool.not_true,cond_false]
 have rest : outE r (match R (stAt ρ i.toNat).bn (stAt ρ i.toNat).bρ with
    | none => none
    | some y => bif y != 0 then some y else match R (stAt ρ i.toNat).en (stAt ρ i.toNat).eρ with
     | none => none
     | some z => bif z != 0 then some z else blkL f R n ρ l k (IntKind.wrap .i64 (i + 1))) = some x →
   (bif opD (R (stAt ρ i.toNat).bn (stAt ρ i.toNat).bρ) then bif opN (R (stAt ρ i.toNat).bn (stAt ρ i.toNat).bρ) != 0 then some (XP.ret,opN (R (stAt ρ i.toNat).bn (stAt ρ i.toNat).bρ)) else
    bif opD (R (stAt ρ i.toNat).en (stAt ρ i.toNat).eρ) then bif opN (R (stAt ρ i.toNat).en (stAt ρ i.toNat).eρ) != 0 then some (XP.ret,opN (R (stAt ρ i.toNat).en (stAt ρ i.toNat).eρ)) else
     outE r (blkL f R n ρ l k (IntKind.wrap .i64 (i + 1))) else none else none) = some x:=by
  cases R (stAt ρ i.toNat).bn (stAt ρ i.toNat).bρ with
  | none => exact fun h => h
  | some y =>
    simp only [opD,opN,cond_true]
    cases hy:(y != 0) with
   | true => simp only [cond_true]; intro h; rw [← h]; unfold outE; simp only [hy,cond_true]
   | false =>
     simp only [cond_false]
     cases R (stAt ρ i.toNat).en (stAt ρ i.toNat).eρ with
    | none => exact fun h => h
    | some z =>
      simp only [cond_true]
      cases hz:(z != 0) with
     | true => simp only [cond_true]; intro h; rw [← h]; unfold outE; simp only [hz,cond_true]
     | false => simp only [cond_false]; exact fun h => h
 cases condB (stAt ρ i.toNat).kind with
 | false => simp only [cond_false]; exact rest
 | true =>
   simp only [cond_true]
   cases expF f (stAt ρ i.toNat).cond 1 with
  | none => exact fun h => h
  | some y =>
    simp only [opD,opN,cond_true]
    cases hy:(y != 0) with
   | true => simp only [cond_true]; intro h; rw [← h]; unfold outE; simp only [hy,cond_true]
   | false => simp only [cond_false]; exact rest
theorem core90 (f:Nat) {R:RBl} (hR:UcOne Tryz.prog 90 (nG (G90 R))):∀ k,CoreOk Tryz.prog 90 0 0 S90 E90 (g90 f R k) :=
 CoreOk.fuel (A:=A90) a90 (h90 f hR) (XOk.nil (r:=3)) 10 (fun _ => rfl) (step90 f R)
def gg90 (f:Nat) (R:RBl) (c:C90):Tree (XP × Int):=g90 f R (c.2.1.1 + 1) c
def X90 (f:Nat) (R:RBl):HdP:=⟨[],[],[],[((90,0),loopC A90 (gg90 f R))],[],3,[]⟩
theorem x90 (f:Nat) {R:RBl} (hR:UcOne Tryz.prog 90 (nG (G90 R))):XOk Tryz.prog (X90 f R):=XOk.lxCons XOk.nil (CoreOk.lx (g:=gg90 f R) a90 fun fn c b h1 h2 h3 c0 x hx => core90 f hR _ fn c b h1 h2 h3 c0 x hx)
def blkG (f:Nat) (R:RBl) (n:Nat) (ρ:Val):Option Int:=blkL f R n ρ (toInt64 n) (n + 1) 0
def t90 (f:Nat) (R:RBl) (n:Nat) (ρ:Val):Tree AV:=.need (opD (blkG f R n ρ)) (.br (opN (blkG f R n ρ) != 0) (.leaf (.one (.c (.int .i64 (opN (blkG f R n ρ)))))) (.leaf (.one (.c (.int .i64 0)))))
theorem t90_eq (f:Nat) (R:RBl) (n:Nat) (ρ:Val):hcTreeP Tryz.prog (H90 f R) (X90 f R) 10 90 [.c (.sl (rtab 1) n ρ)] = t90 f R n ρ:=by kernel_rfl
theorem u90 {f:Nat} {R:RBl} {args:List A1} {r:AV} (h:G90 (blkG f R) args = some (true,r)):(hcTreeP Tryz.prog (H90 f R) (X90 f R) 10 90 args).All (fun x => leA x r):=by
 obtain ⟨n,ρ,e1,h1,e2⟩:=G90_some h
 rw [e1,e2,t90_eq]
 refine ⟨h1,(fun _ => leA.refl),fun h => ?_⟩
 have:opN (blkG f R n ρ) = 0:=by simpa using h
 rw [this]
 exact leA.refl
theorem p90s (f:Nat) {R:RBl} (hR:UcOne Tryz.prog 90 (nG (G90 R))):UcOne Tryz.prog 90 (nG (G90 (blkG f R))):=by
 refine ucOneP_of_all (H:=H90 f R) (X:=X90 f R) (h90 f hR) (x90 f hR) 10 90 ?_
 intro args r h
 exact u90 h
def blkF (f:Nat):Nat → RBl
 | 0 => fun _ _ => none
 | d + 1 => blkG f (blkF f d)
theorem p90 (f:Nat):∀ d,UcOne Tryz.prog 90 (nG (G90 (blkF f d)))
 | 0 => by
   intro args r h
   obtain ⟨n,ρ,_,h1,_⟩:=G90_some (nG_sel h)
   cases h1
 | d + 1 => p90s f (p90 f d)
noncomputable abbrev H37 (f d:Nat):Hd:=⟨[],[(34,nG G34),(89,nG (G89 (cntF d))),(90,nG (G90 (blkF f d)))],[],[]⟩
theorem h37 (f d:Nat):HdOk Tryz.prog (H37 f d):=((HdOk.nil.ucCons (p90 f d)).ucCons (p89 d)).ucCons p34
def formedS (f d:Nat) (name:ByteArray) (n:Nat) (ρ:Val):Option Int :=
 bif nameN name then (bif !isNameS name then some 23 else match cntF d n ρ with
  | none => none
  | some (a,b) => bif lt 4096 a then some 6 else bif lt 16 b then some 28 else blkF f d n ρ) else none
def G37 (f d:Nat):List A1 → Option (Bool × AV)
 | [.agg [.str name,.sl es n ρ]] => if shEq.shsEq es (rtab 1) then some (opD (formedS f d name n ρ),.one (.c (.int .i64 (opN (formedS f d name n ρ))))) else none
 | _ => none
def t37 (f d:Nat) (name:ByteArray) (n:Nat) (ρ:Val):Tree AV :=
 let c:=cntF d n ρ
 let L:=fun x:Int => Tree.leaf (AV.one (.c (.int .i64 x)))
 .need (nameN name) (.br (!isNameS name) (L 23) (.need (cD c) (.br (lt 4096 (cA c)) (L 6) (.br (lt 16 (cB c)) (L 28) (.need (opD (blkF f d n ρ)) (L (opN (blkF f d n ρ))))))))
theorem t37_eq (f d:Nat) (name:ByteArray) (n:Nat) (ρ:Val):hcTree Tryz.prog (H37 f d) 10 37 [.agg [.str name,.sl (rtab 1) n ρ]] = t37 f d name n ρ:=by kernel_rfl
theorem G37_some {f d:Nat} {args:List A1} {r:AV} (h:G37 f d args = some (true,r)):∃ name n ρ,args = [.agg [.str name,.sl (rtab 1) n ρ]] ∧ opD (formedS f d name n ρ) = true ∧ r = .one (.c (.int .i64 (opN (formedS f d name n ρ)))):=by
 unfold G37 at h
 split at h
 ·split at h
  ·rename_i name es n ρ hs
   simp only [Option.some.injEq,Prod.mk.injEq] at h
   exact ⟨name,n,ρ,by rw [shsEq_eq hs],h.1,h.2.symm⟩
  ·cases h
 ·cases h
theorem t37_all (f d:Nat) (name:ByteArray) (n:Nat) (ρ:Val) (h:opD (formedS f d name n ρ) = true):(t37 f d name n ρ).All (fun x => leA x (.one (.c (.int .i64 (opN (formedS f d name n ρ)))))):=by
 unfold t37
 unfold formedS at h ⊢
 revert h
 cases nameN name with
 | false => exact fun h => by cases h
 | true =>
 cases isNameS name with
 | false => exact fun _ => sel_all rfl leA.refl
 | true =>
 simp only [cond_true,Bool.not_true,cond_false]
 cases cntF d n ρ with
 | none => exact fun h => by cases h
 | some c =>
 obtain ⟨a,b⟩:=c
 simp only [cD,cA,cB]
 cases lt 4096 a with
 | true => exact fun _ => sel_all rfl leA.refl
 | false =>
 cases lt 16 b with
 | true => exact fun _ => sel_all rfl leA.refl
 | false =>
 simp only [cond_false]
 cases blkF f d n ρ with
 | none => exact fun h => by cases h
 | some y => exact fun _ => sel_all rfl leA.refl
theorem u37 {f d:Nat} {args:List A1} {r:AV} (h:G37 f d args = some (true,r)):(hcTree Tryz.prog (H37 f d) 10 37 args).All (fun x => leA x r):=by
 obtain ⟨name,n,ρ,e1,h1,e2⟩:=G37_some h
 rw [e1,e2,t37_eq]
 exact t37_all f d name n ρ h1
theorem p37 (f d:Nat):UcOne Tryz.prog 37 (nG (G37 f d)):=by
 refine ucOne_of_all (H:=H37 f d) (h37 f d) 10 37 ?_
 intro args r h
 exact u37 h
noncomputable abbrev H8 (f d:Nat):Hd:=⟨[pF 31,pF 32,pF 33,pF 35,pF 36],[(34,nG G34),(37,nG (G37 f d))],[],[]⟩
theorem h8 (f d:Nat):HdOk Tryz.prog (H8 f d):=(((((((HdOk.nil.ucCons (p37 f d)).ucCons p34).pF 36).pF 35).pF 33).pF 32).pF 31)
abbrev X8 (B:ByteArray → PS → PR PS (List RS)):HdP:=⟨(35,localG 82 (UBk B)) :: (32,localG 82 u32) :: (33,localG 82 u33) :: (85,localG 82 u85) :: (31,localG 82 (uOf () encU sp31)) :: [],[],[],[],[],0,[35,32,33,85,31]⟩
theorem x8 {B:ByteArray → PS → PR PS (List RS)} (hB:PxOne Tryz.prog 35 (localG 82 (UBk B))):XOk Tryz.prog (X8 B):=(x33.loCons px32 (LocFn.localG _ _)).loCons hB (LocFn.localG _ _)
def bookA (name:ByteArray) (n:Nat) (ρ:Val) (at_ e:Int):AV:=.tup [.agg [.str name,.sl (rtab 1) n ρ],.c (.int .i64 at_),.c (.int .i64 e)]
def bookN (at_ e:Int):AV:=.tup [.agg [.str (bs []),.nils],.c (.int .i64 at_),.c (.int .i64 e)]
def leafO (a:AV):Tree AV:=.br false .fail (.leaf a)
def lfN (at_ e:Int):Tree AV:=leafO (bookN at_ e)
def panE (dead:AV) (a:Int):Tree AV:=.br true (.br true (.leaf (bookN a 4)) (.leaf (bookN 0 4))) (.leaf dead)
def t8 (f d:Nat) (B:ByteArray → PS → PR PS (List RS)) (s:ByteArray):Tree AV :=
 let pt:=panE (bookN 0 0)
 .br (lt 8192 (toInt64 s.size)) (lfN 0 5)
  (nxT () (advS s ⟨0,bs [],0⟩) (fun _ p1 => nxT () (expectM (MP s) wRunbook p1) (fun _ p2 => .need (nameN p2.tx) (nxT (bs []) (wordM (MP s) (isNameS p2.tx) p2) (fun w p3 =>
   nxT [] (B s p3) (fun l p4 => .br (!strEq p4.tx (bs [])) (panE (bookA w l.length (blkV l) 0 0) p4.pos)
    (.need (opD (formedS f d w l.length (blkV l))) (.br (opN (formedS f d w l.length (blkV l)) != 0) (lfN 0 (opN (formedS f d w l.length (blkV l)))) (leafO (bookA w l.length (blkV l) 0 0)))))
    (panE (.tup [.agg [.str w,.nils],.c (.int .i64 0),.c (.int .i64 0)]))) pt)) pt) pt)
theorem t8_eq (f d:Nat) (B:ByteArray → PS → PR PS (List RS)) (s:ByteArray):hcTreeP Tryz.prog (H8 f d) (X8 B) 10 8 [.c (.str s)] = t8 f d B s:=by kernel_rfl
def bookM {σ τ:Type} (M:Mach σ) (blk:σ → PR σ (List τ)) (s0:σ):PR σ (ByteArray × List τ) :=
 (M.adv s0).bind fun _ p1 => (expectM M wRunbook p1).bind fun _ p2 => bif nameN (M.tx p2) then (wordM M (isNameS (M.tx p2)) p2).bind fun w p3 => (blk p3).bind fun l p4 =>
  bif !strEq (M.tx p4) (bs []) then failM M p4 else .ret (w,l) p4 else .stuck
abbrev Book:=ByteArray × List RS × Int × Int
def endK (f d:Nat):PR PS (ByteArray × List RS) → Option Book
 | .stuck => none
 | .pan a => some (bs [],[],a,4)
 | .ret x _ => match formedS f d x.1 x.2.length (blkV x.2) with
  | none => none
  | some e => bif e != 0 then some (bs [],[],0,e) else some (x.1,x.2,0,0)
def parseS (f d:Nat) (B:ByteArray → PS → PR PS (List RS)) (s:ByteArray):Option Book :=
 bif lt 8192 (toInt64 s.size) then some (bs [],[],0,5) else endK f d (bookM (MP s) (B s) ⟨0,bs [],0⟩)
def encK (x:Book):AV:=.tup [.agg [.str x.1,.sl (rtab 1) x.2.1.length (blkV x.2.1)],.c (.int .i64 x.2.2.1),.c (.int .i64 x.2.2.2)]
def oB:Option Book → Bool | some _ => true | none => false
def oV:Option Book → Book | some x => x | none => (bs [],[],0,0)
def G8 (f d:Nat) (B:ByteArray → PS → PR PS (List RS)):List A1 → Option (Bool × AV)
 | [.c (.str s)] => some (oB (parseS f d B s),encK (oV (parseS f d B s)))
 | _ => none
theorem bookN_le {a e:Int}:leA (bookN a e) (encK (bs [],[],a,e)):=leA_tup (.cons (.agg (.cons leC.refl (.cons leC_nil .nil))) (.cons (.c leC.refl) (.cons (.c leC.refl) .nil)))
def Says (T:Tree AV):Option Book → Prop
 | none => True
 | some x => T.All (fun z => leA z (encK x))
theorem Says.pan {f d:Nat} {a:Int} {dead:AV}:Says (panE dead a) (endK f d (.pan a)):=sel_all rfl bookN_le
theorem Says.bind {f d:Nat} {α:Type} {v0:α} {x:PR PS α} {K:α → PS → Tree AV} {F:α → PS → PR PS (ByteArray × List RS)} {dead:AV} (h:∀ v p,Says (K v p) (endK f d (F v p))):Says (nxT v0 x K (panE dead)) (endK f d (x.bind F)):=by
 cases x with
 | stuck => exact trivial
 | pan a =>
   show Tree.All _ _
   exact ⟨rfl,(fun h => by cases h),fun _ => Says.pan (f:=f) (d:=d)⟩
 | ret v p =>
   have:=h v p
   show Says (.need true (.br true (K v p) _)) (endK f d (F v p))
   cases he:endK f d (F v p) with
  | none => exact trivial
  | some y => rw [he] at this; exact ⟨rfl,fun _ => this,(fun h => by cases h)⟩
theorem Says.cond {f d:Nat} {c:Bool} {T E:Tree AV} {t e:PR PS (ByteArray × List RS)} (h1:c = true → Says T (endK f d t)) (h2:c = false → Says E (endK f d e)):Says (.br c T E) (endK f d (bif c then t else e)):=by
 cases c with
 | true =>
   have:=h1 rfl
   show Says _ (endK f d t)
   cases he:endK f d t with
  | none => exact trivial
  | some y => rw [he] at this; exact ⟨fun _ => this,(fun h => by cases h)⟩
 | false =>
   have:=h2 rfl
   show Says _ (endK f d e)
   cases he:endK f d e with
  | none => exact trivial
  | some y => rw [he] at this; exact ⟨(fun h => by cases h),fun _ => this⟩
theorem Says.ret {f d:Nat} {w:ByteArray} {l:List RS} {p:PS}:Says (.need (opD (formedS f d w l.length (blkV l))) (.br (opN (formedS f d w l.length (blkV l)) != 0) (lfN 0 (opN (formedS f d w l.length (blkV l)))) (leafO (bookA w l.length (blkV l) 0 0)))) (endK f d (.ret (w,l) p)):=by
 unfold endK
 simp only
 cases formedS f d w l.length (blkV l) with
 | none => exact trivial
 | some e =>
 simp only [opD,opN]
 cases e != 0 with
 | true => exact sel_all rfl bookN_le
 | false => exact sel_all rfl leA.refl
theorem t8_says (f d:Nat) (B:ByteArray → PS → PR PS (List RS)) (s:ByteArray):Says (t8 f d B s) (parseS f d B s):=by
 unfold t8 parseS
 cases lt 8192 (toInt64 s.size) with
 | true => exact sel_all rfl bookN_le
 | false =>
 show Says (.br false _ _) (endK f d (bookM (MP s) (B s) ⟨0,bs [],0⟩))
 have h:Says (nxT () (advS s ⟨0,bs [],0⟩) (fun _ p1 => nxT () (expectM (MP s) wRunbook p1) (fun _ p2 => .need (nameN p2.tx) (nxT (bs []) (wordM (MP s) (isNameS p2.tx) p2) (fun w p3 =>
  nxT [] (B s p3) (fun l p4 => .br (!strEq p4.tx (bs [])) (panE (bookA w l.length (blkV l) 0 0) p4.pos)
   (.need (opD (formedS f d w l.length (blkV l))) (.br (opN (formedS f d w l.length (blkV l)) != 0) (lfN 0 (opN (formedS f d w l.length (blkV l)))) (leafO (bookA w l.length (blkV l) 0 0)))))
   (panE (.tup [.agg [.str w,.nils],.c (.int .i64 0),.c (.int .i64 0)]))) (panE (bookN 0 0)))) (panE (bookN 0 0))) (panE (bookN 0 0))) (endK f d (bookM (MP s) (B s) ⟨0,bs [],0⟩)):=by
  unfold bookM
  refine Says.bind fun _ p1 => Says.bind fun _ p2 => ?_
  show Says _ (endK f d (bif nameN p2.tx then _ else _))
  cases nameN p2.tx with
  | false => exact trivial
  | true =>
  simp only [cond_true]
  have h2:Says (nxT (bs []) (wordM (MP s) (isNameS p2.tx) p2) (fun w p3 =>
   nxT [] (B s p3) (fun l p4 => .br (!strEq p4.tx (bs [])) (panE (bookA w l.length (blkV l) 0 0) p4.pos)
   (.need (opD (formedS f d w l.length (blkV l))) (.br (opN (formedS f d w l.length (blkV l)) != 0) (lfN 0 (opN (formedS f d w l.length (blkV l)))) (leafO (bookA w l.length (blkV l) 0 0)))))
   (panE (.tup [.agg [.str w,.nils],.c (.int .i64 0),.c (.int .i64 0)]))) (panE (bookN 0 0))) (endK f d ((wordM (MP s) (isNameS p2.tx) p2).bind fun w p3 => (B s p3).bind fun l p4 =>
    bif !strEq p4.tx (bs []) then failM (MP s) p4 else .ret (w,l) p4)) :=
   Says.bind fun w p3 => Says.bind fun l p4 => Says.cond (fun _ => Says.pan) fun _ => Says.ret
  revert h2
  show Says _ (endK f d _) → Says _ (endK f d _)
  intro h2
  cases he:endK f d ((wordM (MP s) (isNameS p2.tx) p2).bind fun w p3 => (B s p3).bind fun l p4 => bif !strEq p4.tx (bs []) then failM (MP s) p4 else .ret (w,l) p4) with
  | none => show Says _ (endK f d _); erw [he]; exact trivial
  | some y => show Says _ (endK f d _); erw [he]; rw [he] at h2; exact ⟨rfl,h2⟩
 cases he:endK f d (bookM (MP s) (B s) ⟨0,bs [],0⟩) with
 | none => exact trivial
 | some y => rw [he] at h; exact ⟨(fun h => by cases h),fun _ => h⟩
theorem G8_some {f d:Nat} {B:ByteArray → PS → PR PS (List RS)} {args:List A1} {r:AV} (h:G8 f d B args = some (true,r)):∃ s x,args = [.c (.str s)] ∧ parseS f d B s = some x ∧ r = encK x:=by
 unfold G8 at h
 split at h
 ·rename_i s
  simp only [Option.some.injEq,Prod.mk.injEq] at h
  cases hp:parseS f d B s with
  | none => rw [hp] at h; cases h.1
  | some x => rw [hp] at h; exact ⟨s,x,rfl,hp,h.2.symm⟩
 ·cases h
theorem u8 {f d:Nat} {B:ByteArray → PS → PR PS (List RS)} {args:List A1} {r:AV} (h:G8 f d B args = some (true,r)):(hcTreeP Tryz.prog (H8 f d) (X8 B) 10 8 args).All (fun x => leA x r):=by
 obtain ⟨s,x,e1,h1,e2⟩:=G8_some h
 rw [e1,e2,t8_eq]
 have:=t8_says f d B s
 rw [h1] at this
 exact this
theorem p8 (f d:Nat) {B:ByteArray → PS → PR PS (List RS)} (hB:PxOne Tryz.prog 35 (localG 82 (UBk B))):UcOne Tryz.prog 8 (nG (G8 f d B)):=by
 refine ucOneP_of_all (H:=H8 f d) (X:=X8 B) (h8 f d) (x8 hB) 10 8 ?_
 intro args r h
 exact u8 h
theorem p8F (k d f e:Nat) (hk:k + 2 ≤ maxB):UcOne Tryz.prog 8 (nG (G8 f e (blK (k + 1) d))):=p8 f e (pxSt k hk d).2
end Go.Proofs.YtiefjlcakpdfeaaGreat
namespace Go.Proofs.YtiefjlcakpdfeaaGreat
open Go Go.Sx Go.RowKit Rb
set_option maxRecDepth 100000
inductive PRel {σ σ' α α':Type} (RP:Int → Int → Prop) (R:σ → σ' → Prop) (V:α → α' → Prop):PR σ α → PR σ' α' → Prop where
 | stuck:PRel RP R V .stuck .stuck
 | pan {a a':Int} (h:RP a a'):PRel RP R V (.pan a) (.pan a')
 | ret {v:α} {v':α'} {s:σ} {s':σ'} (hv:V v v') (hs:R s s'):PRel RP R V (.ret v s) (.ret v' s')
section
variable {σ σ' α α' β β' ε ε' τ τ':Type} {RP:Int → Int → Prop} {R:σ → σ' → Prop}
theorem PRel.bind {V : α → α' → Prop} {U : β → β' → Prop} {x : PR σ α} {x' : PR σ' α'} {f : α → σ → PR σ β} {f' : α' → σ' → PR σ' β'} (h : PRel RP R V x x')
  (hf:∀ v v' s s',V v v' → R s s' → PRel RP R U (f v s) (f' v' s')):PRel RP R U (x.bind f) (x'.bind f'):=by
 cases h with
 | stuck => exact .stuck
 | pan h => exact .pan h
 | ret hv hs => exact hf _ _ _ _ hv hs
theorem PRel.cond {V:α → α' → Prop} {c:Bool} {x y:PR σ α} {x' y':PR σ' α'} (h1:PRel RP R V x x') (h2:PRel RP R V y y'):PRel RP R V (bif c then x else y) (bif c then x' else y'):=by
 cases c with
 | true => exact h1
 | false => exact h2
structure MRel (RP:Int → Int → Prop) (M:Mach σ) (M':Mach σ') (R:σ → σ' → Prop):Prop where
 tx:∀ {s s'},R s s' → M.tx s = M'.tx s'
 pos:∀ {s s'},R s s' → RP (M.pos s) (M'.pos s')
 adv:∀ {s s'},R s s' → PRel RP R (fun _ _ => True) (M.adv s) (M'.adv s')
structure ARel (RP:Int → Int → Prop) (A:Alg ε τ) (A':Alg ε' τ') (E:ε → ε' → Prop) (T:τ → τ' → Prop):Prop where
 ex:∀ {op v l l'},All2 E l l' → E (A.ex op v l) (A'.ex op v l')
 st:∀ {k w e e' b b' x x' p p'},E e e' → All2 T b b' → All2 T x x' → RP p p' → T (A.st k w e b x p) (A'.st k w e' b' x' p')
variable {M:Mach σ} {M':Mach σ'} (hM:MRel RP M M' R)
include hM
theorem failM_rel {V:α → α' → Prop} {s:σ} {s':σ'} (h:R s s'):PRel RP R V (failM M s) (failM M' s'):=.pan (hM.pos h)
theorem takeM_rel {t:ByteArray} {s:σ} {s':σ'} (h:R s s'):PRel RP R Eq (takeM M t s) (takeM M' t s'):=by
 unfold takeM
 rw [hM.tx h]
 exact .cond ((hM.adv h).bind fun _ _ _ _ _ h => .ret rfl h) (.ret rfl h)
theorem expectM_rel {t:ByteArray} {s:σ} {s':σ'} (h:R s s'):PRel RP R (fun _ _ => True) (expectM M t s) (expectM M' t s'):=by
 unfold expectM
 refine (takeM_rel hM h).bind fun c c' s s' hc h => ?_
 subst hc
 exact .cond (.ret trivial h) (failM_rel hM h)
theorem wordM_rel {ok:Bool} {s:σ} {s':σ'} (h:R s s'):PRel RP R Eq (wordM M ok s) (wordM M' ok s'):=by
 unfold wordM
 refine .cond ((hM.adv h).bind fun _ _ _ _ _ h2 => .ret (hM.tx h) h2) (failM_rel hM h)
theorem numberM_rel {most:Int} {s:σ} {s':σ'} (h:R s s'):PRel RP R Eq (numberM M most s) (numberM M' most s'):=by
 unfold numberM
 rw [hM.tx h]
 cases numberS (M'.tx s') with
 | none => exact .stuck
 | some y => exact (wordM_rel hM h).bind fun _ _ _ _ _ h => .ret rfl h
theorem siteM_rel {s:σ} {s':σ'} (h:R s s'):PRel RP R Eq (siteM M s) (siteM M' s'):=by
 unfold siteM
 rw [hM.tx h]
 exact (wordM_rel hM h).bind fun _ _ _ _ _ h => .ret rfl h
theorem plainM_rel {s:σ} {s':σ'} (h:R s s'):PRel RP R Eq (plainM M s) (plainM M' s'):=by
 unfold plainM
 rw [hM.tx h]
 cases isWordS (M'.tx s') with
 | none => exact .stuck
 | some y => exact wordM_rel hM h
theorem opWordM_rel {k:Int} {s:σ} {s':σ'} (h:R s s'):PRel RP R Eq (opWordM M k s) (opWordM M' k s'):=by
 unfold opWordM
 rw [hM.tx h]
 exact .cond (wordM_rel hM h) .stuck
theorem opWordsM_rel:∀ (l:List Int) {s:σ} {s':σ'},R s s' → PRel RP R Eq (opWordsM M l s) (opWordsM M' l s')
 | [],_,_,h => .ret rfl h
 | k :: r, s, s', h => by
   unfold opWordsM
   refine (opWordM_rel hM h).bind fun w w' s1 s1' hw h => ?_
   subst hw
   refine (opWordsM_rel r h).bind fun l l' s2 s2' hl h => ?_
   subst hl
   exact .ret rfl h
theorem operationM_rel {s:σ} {s':σ'} (h:R s s'):PRel RP R Eq (operationM M s) (operationM M' s'):=by
 unfold operationM
 rw [hM.tx h]
 refine (wordM_rel hM h).bind fun w w' s1 s1' hw h => ?_
 subst hw
 refine (opWordsM_rel hM _ h).bind fun l l' s2 s2' hl h => ?_
 subst hl
 exact .ret rfl h
variable {A:Alg ε τ} {A':Alg ε' τ'} {E:ε → ε' → Prop} {T:τ → τ' → Prop} (hA:ARel RP A A' E T)
include hA
abbrev FRel (RP:Int → Int → Prop) (R:σ → σ' → Prop) (V:α → α' → Prop) (f:σ → PR σ α) (f':σ' → PR σ' α'):Prop:=∀ s s',R s s' → PRel RP R V (f s) (f' s')
theorem tryM_rel {o : σ → PR σ ε} {o' : σ' → PR σ' ε'} {g : ε → σ → PR σ ε} {g' : ε' → σ' → PR σ' ε'} (ho : FRel RP R E o o') (hg : ∀ e e', E e e' → FRel RP R E (g e) (g' e')) :
  ∀ (l:List ByteArray) {e:ε} {e':ε'} {s:σ} {s':σ'},E e e' → R s s' → PRel RP R E (tryM M A o g e l s) (tryM M' A' o' g' e' l s')
 | [],_,_,_,_,he,h => .ret he h
 | w :: r, e, e', s, s', he, h => by
   unfold tryM
   refine (takeM_rel hM h).bind fun c c' s1 s1' hc h => ?_
   subst hc
   refine .cond ((ho _ _ h).bind fun x x' s2 s2' hx h => hg _ _ (hA.ex (.cons he (.cons hx .nil))) _ _ h) (tryM_rel ho hg r he h)
theorem chainM_rel {ops:List ByteArray} {o:σ → PR σ ε} {o':σ' → PR σ' ε'} (ho:FRel RP R E o o'):∀ (k:Nat) (e:ε) (e':ε'),E e e' → FRel RP R E (chainM M A ops o k e) (chainM M' A' ops o' k e')
 | 0,_,_,_,_,_,_ => .stuck
 | k + 1,_,_,he,_,_,h => tryM_rel hM hA ho (chainM_rel ho k) ops he h
theorem atomM_rel {x:σ → PR σ ε} {x':σ' → PR σ' ε'} (hx:FRel RP R E x x'):FRel RP R E (atomM M A x) (atomM M' A' x'):=by
 intro s s' h
 unfold atomM
 rw [hM.tx h]
 refine .cond ?_ (.cond ?_ (.cond ?_ ?_))
 ·exact (hM.adv h).bind fun _ _ _ _ _ h => .ret (hA.ex .nil) h
 ·refine (hM.adv h).bind fun _ _ _ _ _ h => (siteM_rel hM h).bind fun n n' _ _ hn h => ?_
  subst hn
  exact .ret (hA.ex .nil) h
 ·exact (hM.adv h).bind fun _ _ _ _ _ h => (hx _ _ h).bind fun e e' _ _ he h => (expectM_rel hM h).bind fun _ _ _ _ _ h => .ret he h
 ·refine (numberM_rel hM h).bind fun n n' _ _ hn h => ?_
  subst hn
  exact .ret (hA.ex .nil) h
theorem sumM_rel {x:σ → PR σ ε} {x':σ' → PR σ' ε'} (hx:FRel RP R E x x') (k:Nat):FRel RP R E (sumM M A x k) (sumM M' A' x' k):=fun s s' h =>
 (atomM_rel hM hA hx s s' h).bind fun e e' _ _ he h => chainM_rel hM hA (atomM_rel hM hA hx) k e e' he _ _ h
theorem oneM_rel {o x:σ → PR σ ε} {o' x':σ' → PR σ' ε'} (ho:FRel RP R E o o') (hx:FRel RP R E x x') (k:Nat):FRel RP R E (oneM M A o x k) (oneM M' A' o' x' k):=by
 intro s s' h
 unfold oneM
 refine (takeM_rel hM h).bind fun c c' s1 s1' hc h => ?_
 subst hc
 refine .cond ((ho _ _ h).bind fun e e' _ _ he h => .ret (hA.ex (.cons he .nil)) h) ?_
 exact (sumM_rel hM hA hx k _ _ h).bind fun e e' _ _ he h => tryM_rel hM hA (sumM_rel hM hA hx k) (fun e e' he _ _ h => .ret he h) _ he h
theorem bothM_rel {o x:σ → PR σ ε} {o' x':σ' → PR σ' ε'} (ho:FRel RP R E o o') (hx:FRel RP R E x x') (k:Nat):FRel RP R E (bothM M A o x k) (bothM M' A' o' x' k):=fun s s' h =>
 (oneM_rel hM hA ho hx k s s' h).bind fun e e' _ _ he h => chainM_rel hM hA (oneM_rel hM hA ho hx k) k e e' he _ _ h
theorem exprM_rel {o x:σ → PR σ ε} {o' x':σ' → PR σ' ε'} (ho:FRel RP R E o o') (hx:FRel RP R E x x') (k:Nat):FRel RP R E (exprM M A o x k) (exprM M' A' o' x' k):=fun s s' h =>
 (bothM_rel hM hA ho hx k s s' h).bind fun e e' _ _ he h => chainM_rel hM hA (bothM_rel hM hA ho hx k) k e e' he _ _ h
theorem exs_rel (K:Nat):∀ d,FRel RP R E (exs M A K d).1 (exs M' A' K d).1 ∧ FRel RP R E (exs M A K d).2 (exs M' A' K d).2
 | 0 => ⟨fun _ _ _ => .stuck,fun _ _ _ => .stuck⟩
 | d + 1 => ⟨oneM_rel hM hA (exs_rel K d).1 (exs_rel K d).2 K,exprM_rel hM hA (exs_rel K d).1 (exs_rel K d).2 K⟩
omit hA in
theorem wordsM_rel:∀ (k:Nat) {s:σ} {s':σ'},R s s' → PRel RP R Eq (wordsM M k s) (wordsM M' k s')
 | 0,_,_,_ => .stuck
 | k + 1, s, s', h => by
   unfold wordsM
   refine (takeM_rel hM h).bind fun c c' s1 s1' hc h => ?_
   subst hc
   refine .cond (.ret rfl h) ((plainM_rel hM h).bind fun w w' s2 s2' hw h => ?_)
   subst hw
   refine (wordsM_rel k h).bind fun l l' s3 s3' hl h => ?_
   subst hl
   exact .ret rfl h
omit hA in
theorem blockL_rel {st:σ → PR σ τ} {st':σ' → PR σ' τ'} (hs:FRel RP R T st st'):∀ (k:Nat),FRel RP R (All2 T) (blockL M st k) (blockL M' st' k)
 | 0,_,_,_ => .stuck
 | k + 1, s, s', h => by
   unfold blockL
   refine (takeM_rel hM h).bind fun c c' s1 s1' hc h => ?_
   subst hc
   exact .cond (.ret .nil h) ((hs _ _ h).bind fun x x' s2 s2' hx h => (blockL_rel hs k _ _ h).bind fun l l' s3 s3' hl h => .ret (.cons hx hl) h)
omit hA in
theorem blockM_rel {st:σ → PR σ τ} {st':σ' → PR σ' τ'} (hs:FRel RP R T st st') (k:Nat):FRel RP R (All2 T) (blockM M st k) (blockM M' st' k):=fun _ _ h =>
 (expectM_rel hM h).bind fun _ _ _ _ _ h => blockL_rel hM hs k _ _ h
theorem statementM_rel {x:σ → PR σ ε} {x':σ' → PR σ' ε'} (hx:FRel RP R E x x') {b:σ → PR σ (List τ)} {b':σ' → PR σ' (List τ')} (hb:FRel RP R (All2 T) b b') (k:Nat):FRel RP R T (statementM M A x b k) (statementM M' A' x' b' k):=by
 intro s s' h
 have hp:=hM.pos h
 have h0:E (noEx A) (noEx A'):=hA.ex .nil
 unfold statementM
 rw [hM.tx h]
 refine .cond ?_ (.cond ?_ (.cond ?_ (.cond ?_ (.cond ?_ (failM_rel hM h)))))
 ·refine (hM.adv h).bind fun _ _ _ _ _ h => (operationM_rel hM h).bind fun w w' _ _ hw h => (takeM_rel hM h).bind fun c c' _ _ hc h => ?_
  subst hw
  subst hc
  refine .cond ((hb _ _ h).bind fun l l' _ _ hl h => (expectM_rel hM h).bind fun _ _ _ _ _ h => .ret (hA.st h0 hl .nil hp) h) ((expectM_rel hM h).bind fun _ _ _ _ _ h => .ret (hA.st h0 .nil .nil hp) h)
 ·refine (hM.adv h).bind fun _ _ _ _ _ h => (hx _ _ h).bind fun e e' _ _ he h => (hb _ _ h).bind fun l l' _ _ hl h => (takeM_rel hM h).bind fun c c' _ _ hc h => ?_
  subst hc
  exact .cond ((hb _ _ h).bind fun r r' _ _ hr h => .ret (hA.st he hl hr hp) h) (.ret (hA.st he hl .nil hp) h)
 ·refine (hM.adv h).bind fun _ _ _ _ _ h => (numberM_rel hM h).bind fun n n' _ _ hn h => (hb _ _ h).bind fun l l' _ _ hl h => ?_
  subst hn
  exact .ret (hA.st (hA.ex .nil) hl .nil hp) h
 ·exact (hM.adv h).bind fun _ _ _ _ _ h => (hx _ _ h).bind fun e e' _ _ he h => (expectM_rel hM h).bind fun _ _ _ _ _ h => .ret (hA.st he .nil .nil hp) h
 ·refine (hM.adv h).bind fun _ _ _ _ _ h => (plainM_rel hM h).bind fun w w' _ _ hw h => (wordsM_rel hM k h).bind fun l l' _ _ hl h => ?_
  subst hw
  subst hl
  exact .ret (hA.st h0 .nil .nil hp) h
theorem sts_rel (K:Nat):∀ d,FRel RP R T (sts M A K d).1 (sts M' A' K d).1 ∧ FRel RP R (All2 T) (sts M A K d).2 (sts M' A' K d).2
 | 0 => ⟨fun _ _ _ => .stuck,fun _ _ _ => .stuck⟩
 | d + 1 => ⟨statementM_rel hM hA (exs_rel hM hA K K).2 (sts_rel K d).2 K,blockM_rel hM (statementM_rel hM hA (exs_rel hM hA K K).2 (sts_rel K d).2 K) K⟩
omit hA in
theorem bookM_rel {b:σ → PR σ (List τ)} {b':σ' → PR σ' (List τ')} (hb:FRel RP R (All2 T) b b'):FRel RP R (fun x x' => x.1 = x'.1 ∧ All2 T x.2 x'.2) (bookM M b) (bookM M' b'):=by
 intro s s' h
 unfold bookM
 refine (hM.adv h).bind fun _ _ _ _ _ h => (expectM_rel hM h).bind fun _ _ _ _ _ h => ?_
 rw [hM.tx h]
 refine .cond ((wordM_rel hM h).bind fun w w' _ _ hw h => (hb _ _ h).bind fun l l' _ _ hl h => ?_) .stuck
 subst hw
 rw [hM.tx h]
 exact .cond (failM_rel hM h) (.ret ⟨rfl,hl⟩ h)
end
end Go.Proofs.YtiefjlcakpdfeaaGreat
namespace Go.Proofs.YtiefjlcakpdfeaaGreat.Ro
open Go Go.Sx Classical
set_option maxRecDepth 100000
abbrev I (n:Int):CV:=.int .i64 n
abbrev spSh:List Sh:=[.int .i64,.int .i64,.int .i64]
theorem n63:NcOne Tryz.prog 75 (cloneG 127 spSh 3 24):=clone_nc Tryz.func75 rfl rfl rfl rfl rfl rfl rfl rfl (by kernel_rfl) rfl (fun n ρ => by kernel_rfl)
 (fun n ρ => stC spSh n ρ true) (fun n ρ => mkS 8 [(0,.one (.c (.sl spSh n ρ))),(2,.one (.c (.os 1 3))),(3,.one (.c (.sl spSh n ρ))),(4,.one (.c (.bool false))),(5,.one (.c (.os 0 3))),(6,.one (.c (.sl spSh n ρ))),(7,.one (.c (.os 1 3)))] [none,some (127,[.row false spSh (0 + n) (Val.cat 0 (Val.ofFlat 3 []) ρ)])])
 (fun n ρ => by kernel_rfl) (fun n ρ => by kernel_rfl) (fun n ρ => rfl) (fun n ρ => by kernel_rfl) (fun n ρ => by kernel_rfl) (fun n ρ => rfl)
noncomputable abbrev H0:Hd:=⟨[concK],[],[],[(75,ncG (cloneG 127 spSh 3 24))]⟩
theorem h0:HdOk Tryz.prog H0:=(HdOk.nil.mcCons n63.mc).tcCons concK_ok
theorem w64_id {x:Int} (h1 : -9223372036854775808 ≤ x) (h2:x < 9223372036854775808):IntKind.i64.wrap x = x:=by
 unfold IntKind.wrap IntKind.bits IntKind.signed
 simp only [Bool.true_and]
 split <;> rename_i h <;> simp at h <;> omega
theorem inR {i n:Nat} (h:i < n):inRange (i:Int) n = true:=inRange_iff.2 ⟨by omega,by omega⟩
theorem ltF {i n:Nat} (h:i < n):lt (i:Int) (toInt64 n) = true:=(lt_iff _ _).2 (show (i:Int) < (n:Int) by omega)
theorem ltS {n:Nat}:lt (n:Int) (toInt64 n) = false:=by
 rw [← Bool.not_eq_true,lt_iff]
 show ¬ (n:Int) < (n:Int)
 omega
def tim (a:Int):Bool:=le 0 a && le a 1073741824
def G67:List A1 → Option AV
 | [.c (.int .i64 a),.c (.int .i64 b)] => some (.one (.c (.bool (le b a && le a 1073741824))))
 | _ => none
theorem p67:PcOne Tryz.prog 184 G67:=pcOne_of_ev h0 10 184 fun args r h => by
 unfold G67 at h; split at h
 ·obtain rfl:=Option.some.inj h
  exact ⟨rfl,by kernel_rfl,by kernel_rfl⟩
 ·cases h
noncomputable abbrev H1:Hd:=⟨(184,oG G67) :: H0.pc,[],[],H0.mc⟩
theorem h1:HdOk Tryz.prog H1:=h0.pcCons p67
structure Sp where
 e:Int
 f:Int
 t:Int
def spn (ρ:Val) (i:Nat):Sp:=⟨((ρ.at i).at 0).N [],((ρ.at i).at 1).N [],((ρ.at i).at 2).N []⟩
def prv (ρ:Val):Nat → Sp
 | 0 => ⟨0,0,0⟩
 | i + 1 => spn ρ i
structure Ln where
 n:Nat
 ρ:Val
def badS (p x:Sp):Bool:=(((x.f != IntKind.i64.wrap (p.t + 1) || lt x.t x.f) || lt 1073741824 x.t) || !(le 1 x.e && le x.e 1073741824)) || le x.e p.e
def badC (l:Ln) (i:Nat):Bool:=badS (prv l.ρ i) (spn l.ρ i)
structure C66 where
 l:Ln
 m:Int
structure V66 where
 p:Sp
 i:Int
def S66 (c:C66) (v:V66):St:=mkS 46 [(2,.one (.c (.bool false))),(3,.one (.c (.ptr 0 0))),(7,.one (.c (.sl spSh c.l.n c.l.ρ))),(8,.one (.c (I c.m))),(9,.one (.c (I v.i)))] [some (127,[I v.p.e,I v.p.f,I v.p.t])]
def TX66 (c:C66) (v:V66):Tree (XE × V66) :=
 .br (lt v.i c.m) (.need (inRange v.i c.l.n) (.br (badS v.p (spn c.l.ρ v.i.toNat)) (.leaf (.ret,v)) (.leaf (.normal,⟨spn c.l.ρ v.i.toNat,IntKind.i64.wrap (v.i + 1)⟩)))) (.leaf (.exit 0,v))
theorem t66 (c:C66) (v:V66):((evCode Tryz.prog H1 (evFn Tryz.prog H1 10) 172 0 1 (loopBody Tryz.prog 172 0) (S66 c v)).bind fun y => gcT [2,3,7,8,9] 0 y) = (TX66 c v).bind fun y => .leaf (y.1,S66 c y.2):=by kernel_rfl
def st66 (c:C66) (i:Nat):V66:=⟨prv c.l.ρ i,i⟩
def μ66 (c:C66) (v:V66):Nat:=(c.l.n - v.i).toNat
def fewN (n:Nat):Prop:=n ≤ 4611686018427387904
theorem sq66 (c:C66) (hm:c.m = c.l.n) (hn:fewN c.l.n):Sq (TX66 c) (μ66 c) (st66 c) (st66 c) c.l.n (badC c.l) .ret (.exit 0) where
 out:=by simp
 hit:=by simp
 meas i hi:=by unfold μ66 st66; simp only; omega
 round i hi:=by
  unfold fewN at hn
  have hl:lt (i:Int) c.m = true:=by rw [hm]; exact ltF hi
  have hw:IntKind.i64.wrap ((i:Int) + 1) = ((i + 1:Nat):Int):=by rw [w64_id (by omega) (by omega)]; omega
  refine ⟨fun _ => ⟨inR hi,fun hb => ?_,fun hb => ?_⟩,fun h => ?_⟩
  ·have:badC c.l i = true:=hb
   simp only [Tree.All,this,if_true]
  ·have:badC c.l i = false:=hb
   simp only [Tree.All,this,Bool.false_eq_true,if_false]
   show (XE.normal,(⟨_,IntKind.i64.wrap ((i:Int) + 1)⟩ : V66)) = _
   rw [hw]; rfl
  ·have:lt (i:Int) c.m = false:=h
   rw [hl] at this; cases this
 stop:=by
  have hl:lt (c.l.n:Int) c.m = false:=by rw [hm]; exact ltS
  refine ⟨fun h => ?_,fun _ => rfl⟩
  have:lt (c.l.n:Int) c.m = true:=h
  rw [hl] at this; cases this
noncomputable def inv66 (c:C66) (v:V66):Bool:=dec ((c.m = c.l.n ∧ fewN c.l.n) ∧ ∃ i,i ≤ c.l.n ∧ v = st66 c i)
def run66 (c:C66) (v:V66):XE × V66:=fin (TX66 c) (μ66 c) v
def get66:List (Nat × AV) → Mem → Option (C66 × V66)
 | [(2,.one (.c (.bool false))),(3,.one (.c (.ptr 0 0))),(7,.one (.c (.sl [.int .i64,.int .i64,.int .i64] n ρ))),(8,.one (.c (.int .i64 m))),(9,.one (.c (.int .i64 i)))],[some (127,[.int .i64 a,.int .i64 b,.int .i64 c])] => some (⟨⟨n,ρ⟩,m⟩,⟨⟨a,b,c⟩,i⟩)
 | _,_ => none
noncomputable def L66:Nat → St → Tree (XE × St):=loopH [2,3,7,8,9] 0 46 get66 inv66 S66 run66 [.ret,.exit 0]
theorem rounds_of {C V:Type} {TX:C → V → Tree (XE × V)} {μ:C → V → Nat} {inv:C → V → Bool} {Q:C → XE × V → Prop} (h:∀ c v,inv c v = true → Rounds (TX c) (fun v => inv c v = true) (μ c) (Q c)) (c:C):Rounds (TX c) (fun v => inv c v = true) (μ c) (Q c) :=
 fun v hv => h c v hv v hv
theorem l66 (fn:Func) (c b:Code) (hf:Tryz.prog.funcs[172]? = some fn) (hc:fn.body = some c) (hb:nthLoop c 0 = some b):LoopOk Tryz.prog b L66 :=
 loopOk_of h1 10 172 0 hf hc hb [2,3,7,8,9] 0 46 S66 TX66 t66 get66 inv66 μ66 [.ret,.exit 0]
  (fun l m c v h => by unfold get66 at h; split at h <;> simp at h; obtain ⟨rfl,rfl⟩:=h; rfl)
  (rounds_of fun c v hv => by
   have h:=(dec_iff.1 hv).1
   exact (sq66 c h.1 h.2).rounds fun x => by unfold inv66; rw [dec_iff]; exact ⟨fun h => h.2,fun k => ⟨h,k⟩⟩)
noncomputable abbrev H66:Hd:=⟨H1.pc,[],[((172,0),L66)],H1.mc⟩
theorem h66:HdOk Tryz.prog H66:=HdOk.lhCons h1 l66
def corr (l:Ln):Bool:=!(anyB (badC l) l.n)
noncomputable def G66:List A1 → Option (Bool × AV)
 | [.c (.sl [.int .i64,.int .i64,.int .i64] n ρ)] => some (dec (fewN n),.one (.c (.bool (corr ⟨n,ρ⟩))))
 | _ => none
theorem all66 (l : Ln) (hn : fewN l.n) : (Tree.need (inv66 ⟨l, toInt64 l.n⟩ ⟨⟨0, 0, 0⟩, 0⟩) (.br (eqXE (run66 ⟨l, toInt64 l.n⟩ ⟨⟨0, 0, 0⟩, 0⟩).1 .ret) (.leaf (AV.one (.c (.bool false))))
  (.need (eqXE (run66 ⟨l,toInt64 l.n⟩ ⟨⟨0,0,0⟩,0⟩).1 (.exit 0)) (.leaf (AV.one (.c (.bool true))))))).All (fun z => z = .one (.c (.bool (corr l)))):=by
 have h:=sq66 ⟨l,toInt64 l.n⟩ rfl hn
 have hi:inv66 ⟨l,toInt64 l.n⟩ ⟨⟨0,0,0⟩,0⟩ = true:=dec_iff.2 ⟨⟨rfl,hn⟩,0,Nat.zero_le _,rfl⟩
 have hf:run66 ⟨l,toInt64 l.n⟩ ⟨⟨0,0,0⟩,0⟩ = _:=h.fin0
 refine ⟨hi,?_⟩
 rw [hf]
 unfold corr
 cases anyB (badC l) l.n
 ·exact ⟨fun h => (by cases h),fun _ => ⟨rfl,rfl⟩⟩
 ·exact ⟨fun _ => rfl,fun h => (by cases h)⟩
theorem p66:TcOne Tryz.prog 172 (nG G66):=tcOne_of_tree h66 10 172 fun args r h => by
 unfold G66 at h; split at h
 ·rename_i n ρ
  obtain ⟨hp,rfl⟩:=Prod.mk.inj (Option.some.inj h)
  refine ⟨rfl,_,?_,all66 ⟨n,ρ⟩ (dec_iff.1 hp)⟩
  kernel_rfl
 ·cases h
noncomputable abbrev H2:Hd:=⟨(172,nG G66) :: H1.pc,[],[],H1.mc⟩
theorem h2:HdOk Tryz.prog H2:=h1.tcCons p66
structure C65 where
 a:Ln
 b:Ln
structure V65 where
 c:Int
 e:Int
 i:Int
def S65 (c:C65) (v:V65):St:=mkS 68 [(0,.one (.c (.sl spSh c.a.n c.a.ρ))),(1,.one (.c (.sl spSh c.b.n c.b.ρ))),(6,.one (.c (I v.c))),(7,.one (.c (I v.e))),(8,.one (.c (I v.i)))] []
def TX65 (c:C65) (v:V65):Tree (XE × V65) :=
 let g:=lt v.i (imin (toInt64 c.a.n) (toInt64 c.b.n))
 .need (!((g == true) && true) || inRange v.i c.a.n) (.need (!((g == true) && true) || inRange v.i c.b.n)
  (.br (g && (spn c.a.ρ v.i.toNat).e == (spn c.b.ρ v.i.toNat).e)
   (.need (inRange v.i c.a.n) (.need (inRange v.i c.b.n) (.need (inRange v.i c.a.n) (.need (inRange v.i c.a.n) (.need (inRange v.i c.b.n)
    (.br ((spn c.a.ρ v.i.toNat).t != (spn c.b.ρ v.i.toNat).t) (.leaf (.exit 0,⟨imin (spn c.a.ρ v.i.toNat).t (spn c.b.ρ v.i.toNat).t,(spn c.a.ρ v.i.toNat).e,v.i⟩))
     (.leaf (.normal,⟨imin (spn c.a.ρ v.i.toNat).t (spn c.b.ρ v.i.toNat).t,(spn c.a.ρ v.i.toNat).e,IntKind.i64.wrap (v.i + 1)⟩))))))))
   (.leaf (.exit 0,v))))
theorem t65 (c:C65) (v:V65):((evCode Tryz.prog H2 (evFn Tryz.prog H2 10) 142 0 1 (loopBody Tryz.prog 142 0) (S65 c v)).bind fun y => gcT [0,1,6,7,8] 0 y) = (TX65 c v).bind fun y => .leaf (y.1,S65 c y.2):=by kernel_rfl
def len65 (c:C65):Nat:=min c.a.n c.b.n
def bad65 (c:C65) (i:Nat):Bool:=!((spn c.a.ρ i).e == (spn c.b.ρ i).e) || (spn c.a.ρ i).t != (spn c.b.ρ i).t
def st65 (c:C65):Nat → V65
 | 0 => ⟨0,0,0⟩
 | i + 1 => ⟨imin (spn c.a.ρ i).t (spn c.b.ρ i).t,(spn c.a.ρ i).e,(i + 1:Nat)⟩
def sb65 (c:C65) (i:Nat):V65:=bif (spn c.a.ρ i).e == (spn c.b.ρ i).e then ⟨imin (spn c.a.ρ i).t (spn c.b.ρ i).t,(spn c.a.ρ i).e,i⟩ else st65 c i
theorem st65_i (c:C65) (i:Nat):(st65 c i).i = i:=by cases i <;> rfl
def μ65 (c:C65) (v:V65):Nat:=(len65 c - v.i).toNat
theorem imin_nat (a b:Nat):imin (toInt64 a) (toInt64 b) = ((min a b:Nat):Int):=by
 unfold imin
 cases h:lt (toInt64 b) (toInt64 a)
 ·have : ¬ (b : Int) < (a : Int) := fun hh => by
   have:lt (toInt64 b) (toInt64 a) = true:=(lt_iff _ _).2 hh
   rw [h] at this; cases this
  show (a:Int) = _
  omega
 ·have:(b:Int) < (a:Int):=(lt_iff _ _).1 h
  show (b:Int) = _
  omega
theorem sq65 (c:C65) (ha:fewN c.a.n):Sq (TX65 c) (μ65 c) (st65 c) (sb65 c) (len65 c) (bad65 c) (.exit 0) (.exit 0) where
 out:=by simp
 hit:=by simp
 meas i hi:=by unfold μ65; rw [st65_i]; omega
 round i hi:=by
  unfold fewN at ha
  unfold len65 at hi
  have hg:lt ((st65 c i).i) (imin (toInt64 c.a.n) (toInt64 c.b.n)) = true:=by
   rw [st65_i,imin_nat,lt_iff]; omega
  have ra:inRange (st65 c i).i c.a.n = true:=by rw [st65_i]; exact inR (by omega)
  have rb:inRange (st65 c i).i c.b.n = true:=by rw [st65_i]; exact inR (by omega)
  have hw:IntKind.i64.wrap ((i:Int) + 1) = ((i + 1:Nat):Int):=by rw [w64_id (by omega) (by omega)]; omega
  have hin:((st65 c i).i).toNat = i:=by rw [st65_i]; omega
  unfold TX65
  simp only [hg,ra,rb,Tree.All,Bool.or_true,Bool.true_and,true_and,hin]
  unfold bad65 sb65
  cases he:((spn c.a.ρ i).e == (spn c.b.ρ i).e)
  ·simp
  ·cases ht:((spn c.a.ρ i).t != (spn c.b.ρ i).t)
   ·simp only [Bool.not_true,Bool.or_self,Bool.false_eq_true,if_false,false_implies,true_and,and_true,forall_const,reduceCtorEq]
    rw [st65_i,hw]
    rfl
   ·simp only [Bool.not_true,Bool.false_or,if_true,false_implies,and_true,forall_const,reduceCtorEq,cond_true]
    rw [st65_i]
 stop:=by
  have hg:lt ((st65 c (len65 c)).i) (imin (toInt64 c.a.n) (toInt64 c.b.n)) = false:=by
   rw [st65_i,imin_nat,← Bool.not_eq_true,lt_iff]; unfold len65; omega
  unfold TX65
  simp [hg,Tree.All]
noncomputable def inv65 (c:C65) (v:V65):Bool:=dec (fewN c.a.n ∧ ∃ i,i ≤ len65 c ∧ v = st65 c i)
def run65 (c:C65) (v:V65):XE × V65:=fin (TX65 c) (μ65 c) v
def get65:List (Nat × AV) → Mem → Option (C65 × V65)
 | [(0,.one (.c (.sl [.int .i64,.int .i64,.int .i64] n ρ))),(1,.one (.c (.sl [.int .i64,.int .i64,.int .i64] m σ))),(6,.one (.c (.int .i64 c))),(7,.one (.c (.int .i64 e))),(8,.one (.c (.int .i64 i)))],[] => some (⟨⟨n,ρ⟩,⟨m,σ⟩⟩,⟨c,e,i⟩)
 | _,_ => none
noncomputable def L65:Nat → St → Tree (XE × St):=loopH [0,1,6,7,8] 0 68 get65 inv65 S65 run65 [.exit 0]
theorem l65 (fn:Func) (c b:Code) (hf:Tryz.prog.funcs[142]? = some fn) (hc:fn.body = some c) (hb:nthLoop c 0 = some b):LoopOk Tryz.prog b L65 :=
 loopOk_of h2 10 142 0 hf hc hb [0,1,6,7,8] 0 68 S65 TX65 t65 get65 inv65 μ65 [.exit 0]
  (fun l m c v h => by unfold get65 at h; split at h <;> simp at h; obtain ⟨rfl,rfl⟩:=h; rfl)
  (rounds_of fun c v hv => by
   have h:=(dec_iff.1 hv).1
   exact (sq65 c h).rounds fun x => by unfold inv65; rw [dec_iff]; exact ⟨fun h => h.2,fun k => ⟨h,k⟩⟩)
noncomputable abbrev H65:Hd:=⟨H2.pc,[],[((142,0),L65)],H2.mc⟩
theorem h65:HdOk Tryz.prog H65:=HdOk.lhCons h2 l65
def anc (a b:Ln):V65:=bif !(corr a) || !(corr b) then ⟨0,0,0⟩ else bif anyB (bad65 ⟨a,b⟩) (len65 ⟨a,b⟩) then sb65 ⟨a,b⟩ (firstB (bad65 ⟨a,b⟩) (len65 ⟨a,b⟩)) else st65 ⟨a,b⟩ (len65 ⟨a,b⟩)
noncomputable def G65:List A1 → Option (Bool × AV)
 | [.c (.sl [.int .i64,.int .i64,.int .i64] n ρ),.c (.sl [.int .i64,.int .i64,.int .i64] m σ)] => some (dec (fewN n ∧ fewN m),.tup [.c (I (anc ⟨n,ρ⟩ ⟨m,σ⟩).c),.c (I (anc ⟨n,ρ⟩ ⟨m,σ⟩).e)])
 | _ => none
theorem all65 (a b : Ln) (ha : fewN a.n) (hb : fewN b.n) : (Tree.need (dec (fewN a.n)) (.need (!(((!(corr a)) == false) && true) || dec (fewN b.n)) (.br (!(corr a) || !(corr b)) (.leaf (AV.tup [.c (I 0), .c (I 0)]))
  (.need (inv65 ⟨a,b⟩ ⟨0,0,0⟩) (.need (eqXE (run65 ⟨a,b⟩ ⟨0,0,0⟩).1 (.exit 0)) (.leaf (AV.tup [.c (I (run65 ⟨a,b⟩ ⟨0,0,0⟩).2.c),.c (I (run65 ⟨a,b⟩ ⟨0,0,0⟩).2.e)]))))))).All
   (fun z => z = .tup [.c (I (anc a b).c),.c (I (anc a b).e)]):=by
 have h:=sq65 ⟨a,b⟩ ha
 have hi:inv65 ⟨a,b⟩ ⟨0,0,0⟩ = true:=dec_iff.2 ⟨ha,0,Nat.zero_le _,rfl⟩
 have hf:run65 ⟨a,b⟩ ⟨0,0,0⟩ = _:=h.fin0
 refine ⟨dec_iff.2 ha,by rw [dec_iff.2 hb,Bool.or_true],fun hc => ?_,fun hc => ⟨hi,?_⟩⟩
 ·unfold anc; rw [hc]; rfl
 ·rw [hf]
  unfold anc
  rw [hc]
  cases anyB (bad65 ⟨a,b⟩) (len65 ⟨a,b⟩) <;> exact ⟨rfl,rfl⟩
theorem p65:TcOne Tryz.prog 142 (nG G65):=tcOne_of_tree h65 10 142 fun args r h => by
 unfold G65 at h; split at h
 ·rename_i n ρ m σ
  obtain ⟨hp,rfl⟩:=Prod.mk.inj (Option.some.inj h)
  have hp:=dec_iff.1 hp
  refine ⟨rfl,_,?_,all65 ⟨n,ρ⟩ ⟨m,σ⟩ hp.1 hp.2⟩
  kernel_rfl
 ·cases h
noncomputable abbrev H3:Hd:=⟨(142,nG G65) :: H2.pc,[],[],H2.mc⟩
theorem h3:HdOk Tryz.prog H3:=h2.tcCons p65
theorem prv_ok {l:Ln} {i:Nat} (hp:∀ j,j < i → badC l j = false):0 ≤ (prv l.ρ i).e ∧ (prv l.ρ i).e ≤ 1073741824 ∧ (prv l.ρ i).t ≤ 1073741824 ∧ (0 < i → 1 ≤ (prv l.ρ i).t ∧ 1 ≤ (prv l.ρ i).e):=by
 induction i with
 | zero => exact ⟨by simp [prv],by simp [prv],by simp [prv],fun h => by omega⟩
 | succ i ih =>
   obtain ⟨i1,i2,i3,i4⟩:=ih fun j hj => hp j (by omega)
   have h:=hp i (by omega)
   unfold badC badS at h
   simp only [Bool.or_eq_false_iff,Bool.not_eq_false',Bool.and_eq_true,le_iff,bne_eq_false_iff_eq] at h
   obtain ⟨⟨⟨⟨h1,h2⟩,h3⟩,h4⟩,h5⟩:=h
   rw [← Bool.not_eq_true,lt_iff] at h2 h3
   have hge:0 ≤ (prv l.ρ i).t:=by
    cases i with
    | zero => simp [prv]
    | succ i => have:=(i4 (by omega)).1; omega
   rw [w64_id (by omega) (by omega)] at h1
   show 0 ≤ (spn l.ρ i).e ∧ (spn l.ρ i).e ≤ 1073741824 ∧ (spn l.ρ i).t ≤ 1073741824 ∧ (_ → 1 ≤ (spn l.ρ i).t ∧ 1 ≤ (spn l.ρ i).e)
   exact ⟨by omega,h4.2,by omega,fun _ => ⟨by omega,h4.1⟩⟩
def hd (l:Ln):Sp:=prv l.ρ l.n
theorem last_ok {l:Ln} (hn:fewN l.n) (h0:(toInt64 l.n == 0) = false):inRange (IntKind.i64.wrap (toInt64 l.n - 1)) l.n = true ∧ spn l.ρ (IntKind.i64.wrap (toInt64 l.n - 1)).toNat = hd l:=by
 unfold fewN at hn
 have h0':¬ (l.n:Int) = 0:=by simpa [toInt64] using h0
 obtain ⟨k,hk⟩ : ∃ k,l.n = k + 1:=⟨l.n - 1,by omega⟩
 have e:IntKind.i64.wrap (toInt64 l.n - 1) = (k:Int):=by
  show IntKind.i64.wrap ((l.n:Int) - 1) = _
  rw [w64_id (by omega) (by omega)]; omega
 rw [e]
 refine ⟨inR (by omega),?_⟩
 unfold hd
 rw [hk]; rfl
theorem hd_zero {l:Ln} (h0:(toInt64 l.n == 0) = true):hd l = ⟨0,0,0⟩:=by
 have h0':l.n = 0:=by
  have:(l.n:Int) = 0:=by simpa [toInt64] using h0
  omega
 unfold hd
 rw [h0']; rfl
noncomputable def G50:List A1 → Option (Bool × AV)
 | [.c (.sl [.int .i64,.int .i64,.int .i64] n ρ)] => some (dec (fewN n),.one (.agg [I (hd ⟨n,ρ⟩).e,I (hd ⟨n,ρ⟩).f,I (hd ⟨n,ρ⟩).t]))
 | _ => none
theorem p50:TcOne Tryz.prog 102 (nG G50):=tcOne_of_tree h3 10 102 fun args r h => by
 unfold G50 at h; split at h
 ·rename_i n ρ
  obtain ⟨hp,rfl⟩:=Prod.mk.inj (Option.some.inj h)
  have hp:=dec_iff.1 hp
  refine ⟨rfl,.br (toInt64 n == 0) (.leaf (.one (.agg [I 0,I 0,I 0]))) (.need (inRange (IntKind.i64.wrap (toInt64 n - 1)) n)
   (.leaf (.one (.agg [I (spn ρ (IntKind.i64.wrap (toInt64 n - 1)).toNat).e,I (spn ρ (IntKind.i64.wrap (toInt64 n - 1)).toNat).f,I (spn ρ (IntKind.i64.wrap (toInt64 n - 1)).toNat).t])))),by kernel_rfl,fun h0 => ?_,fun h0 => ?_⟩
  ·have:=hd_zero (l:=⟨n,ρ⟩) h0
   rw [this]; rfl
  ·obtain ⟨a,b⟩:=last_ok (l:=⟨n,ρ⟩) hp h0
   simp only at a b
   exact ⟨a,by rw [b]; rfl⟩
 ·cases h
theorem anc_self {l:Ln} (h0:(toInt64 l.n == 0) = false):(((anc l l).c == (hd l).t && (anc l l).e == (hd l).e) && lt 0 (anc l l).c) = corr l:=by
 have h0':¬ (l.n:Int) = 0:=by simpa [toInt64] using h0
 obtain ⟨k,hk⟩ : ∃ k,l.n = k + 1:=⟨l.n - 1,by omega⟩
 have hb:∀ i,bad65 ⟨l,l⟩ i = false:=fun i => by simp [bad65]
 have ha:anyB (bad65 ⟨l,l⟩) (len65 ⟨l,l⟩) = false:=anyB_none fun i _ => hb i
 have hl:len65 ⟨l,l⟩ = k + 1:=by unfold len65; simp only; omega
 have him:∀ x:Int,imin x x = x:=fun x => by unfold imin; cases lt x x <;> rfl
 unfold anc
 cases hc:corr l
 ·simp [lt]
 ·rw [ha,hl]
  simp only [Bool.not_true,Bool.or_self,cond_false]
  have e1:hd l = spn l.ρ k:=by unfold hd; rw [hk]; rfl
  have hp:∀ j,j < k + 1 → badC l j = false:=fun j hj => by
   rw [← Bool.not_eq_true]
   intro hh
   have:=anyB_iff.2 ⟨j,show j < l.n by omega,hh⟩
   unfold corr at hc
   rw [this] at hc; cases hc
  have ht:=(prv_ok hp).2.2.2 (by omega)
  show (((imin (spn l.ρ k).t (spn l.ρ k).t) == (hd l).t && (spn l.ρ k).e == (hd l).e) && lt 0 (imin (spn l.ρ k).t (spn l.ρ k).t)) = true
  rw [him,e1]
  have:lt 0 (spn l.ρ k).t = true:=(lt_iff _ _).2 (by
   have:1 ≤ (spn l.ρ k).t:=ht.1
   omega)
  simp [this]
noncomputable abbrev H4:Hd:=⟨(102,nG G50) :: H3.pc,[],[],H3.mc⟩
theorem h4:HdOk Tryz.prog H4:=h3.tcCons p50
theorem p54:TcOne Tryz.prog 101 (nG G66):=tcOne_of_tree h4 10 101 fun args r h => by
 unfold G66 at h; split at h
 ·rename_i n ρ
  obtain ⟨hp,rfl⟩:=Prod.mk.inj (Option.some.inj h)
  have hp:=dec_iff.1 hp
  refine ⟨rfl,.br (toInt64 n == 0) (.leaf (.one (.c (.bool true)))) (.need (dec (fewN n ∧ fewN n)) (.need (inRange (IntKind.i64.wrap (toInt64 n - 1)) n)
   (.leaf (.one (.c (.bool (((anc ⟨n,ρ⟩ ⟨n,ρ⟩).c == (spn ρ (IntKind.i64.wrap (toInt64 n - 1)).toNat).t && (anc ⟨n,ρ⟩ ⟨n,ρ⟩).e == (spn ρ (IntKind.i64.wrap (toInt64 n - 1)).toNat).e) && lt 0 (anc ⟨n,ρ⟩ ⟨n,ρ⟩).c))))))),by kernel_rfl,fun h0 => ?_,fun h0 => ?_⟩
  ·have h0' : n = 0 := by
    have:(n:Int) = 0:=by simpa [toInt64] using h0
    omega
   subst h0'
   rfl
  ·obtain ⟨a,b⟩:=last_ok (l:=⟨n,ρ⟩) hp h0
   simp only at a b
   refine ⟨dec_iff.2 ⟨hp,hp⟩,a,?_⟩
   rw [b]
   have:=anc_self (l:=⟨n,ρ⟩) h0
   show AV.one (.c (.bool _)) = _
   rw [this]
 ·cases h
noncomputable abbrev H5:Hd:=⟨(101,nG G66) :: H4.pc,[],[],H4.mc⟩
theorem h5:HdOk Tryz.prog H5:=h4.tcCons p54
def sit (a:Int):Bool:=le 0 a && lt a 4
def rcv (r:Int):Bool:=r == 2 || r == 4
def G47:List A1 → Option AV
 | [.c (.int .i64 a),.c (.int .i64 b),.c (.int .i64 c)] => some (.one (.c (.bool (le b a && le a c))))
 | _ => none
theorem p47:PcOne Tryz.prog 100 G47:=pcOne_of_ev h5 10 100 fun args r h => by
 unfold G47 at h; split at h
 ·obtain rfl:=Option.some.inj h
  exact ⟨rfl,by kernel_rfl,by kernel_rfl⟩
 ·cases h
def G55:List A1 → Option AV
 | [.c (.int .i64 a)] => some (.one (.c (.bool (rcv a))))
 | _ => none
theorem p55:PcOne Tryz.prog 103 G55:=pcOne_of_ev h5 10 103 fun args r h => by
 unfold G55 at h; split at h
 ·obtain rfl:=Option.some.inj h
  exact ⟨rfl,by kernel_rfl,by kernel_rfl⟩
 ·cases h
noncomputable abbrev H6:Hd:=⟨(100,oG G47) :: (103,oG G55) :: H5.pc,[],[],H5.mc⟩
theorem h6:HdOk Tryz.prog H6:=(h5.pcCons p55).pcCons p47
def oth (m a:Int):Bool:=(le 0 m && le m 3) && m != a
def G44:List A1 → Option AV
 | [.agg [.int .i64 a,.int .i64 _,.int .i64 _,.int .i64 _,.sl [.int .i64,.int .i64,.int .i64] _ _,.int .i64 _,.bool _,.bool _],.c (.int .i64 m)] => some (.one (.c (.bool (oth m a))))
 | _ => none
theorem p44:PcOne Tryz.prog 104 G44:=pcOne_of_ev h6 10 104 fun args r h => by
 unfold G44 at h; split at h
 ·obtain rfl:=Option.some.inj h
  exact ⟨rfl,by kernel_rfl,by kernel_rfl⟩
 ·cases h
noncomputable abbrev H7:Hd:=⟨(104,oG G44) :: H6.pc,[],[],H6.mc⟩
theorem h7:HdOk Tryz.prog H7:=h6.pcCons p44
end Go.Proofs.YtiefjlcakpdfeaaGreat.Ro
