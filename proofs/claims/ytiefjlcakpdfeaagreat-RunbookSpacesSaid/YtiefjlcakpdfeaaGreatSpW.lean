/-
 Part SpW of the proof: RbQ RbU RbV RbW RbY RbZ RbZa.
-/
import Derived.Test.YtiefjlcakpdfeaaGreatSpV
namespace Go.Proofs.YtiefjlcakpdfeaaGreat
open Go Go.Sx Go.RowKit Rb
set_option maxRecDepth 100000
theorem leC_nil {es:List Sh} {ρ:Val}:leC .nils (.sl es 0 ρ):=fun _ _ _ h => by cases h; exact .slnil
theorem catWs_is:∀ (l:List ByteArray) (l0:List ByteArray) (ρ:Val),RowIs ρ l0 → RowIs (catWs l0.length ρ l) (l0 ++ l)
 | [],l0,ρ,h => by rw [List.append_nil]; exact h
 | w :: l, l0, ρ, h => by
   have:=catWs_is l (l0 ++ [w]) (Val.cat l0.length ρ (row1 w)) (h.snoc w)
   rw [List.length_append,List.append_assoc] at this
   exact this
theorem RowIs.leC {σ:Val} {l:List ByteArray} (h:RowIs σ l):leC (.sl [.str] l.length σ) (.sl [.str] l.length (wordsV l)):=leC_ext fun i f s hi hs => by
 obtain ⟨w,hw⟩:=nth_some_of_lt l i hi
 cases f with
 | zero =>
   simp only [nth,Option.some.injEq] at hs
   subst hs
   have h2:=h i w hw
   have h3:=wordsV_at l i w hw
   rw [h3]
   show CV.str _ = CV.str _
   rw [h2]
   rfl
 | succ f => simp [nth] at hs
theorem sayWords_le (w:ByteArray) (l:List ByteArray):leC (.sl [.str] (1 + l.length) (catWs 1 (row1 w) l)) (.sl [.str] (w :: l).length (wordsV (w :: l))):=by
 have h1:RowIs (row1 w) [w]:=by
  intro i x hx
  match i,hx with
  | 0,hx => exact Option.some.inj hx
  | i + 1,hx => simp [nth] at hx
 have:=(catWs_is l [w] (row1 w) h1).leC
 have e:([w] ++ l).length = 1 + l.length:=by simp; omega
 rw [e] at this
 have e2:(w :: l).length = 1 + l.length:=by simp; omega
 rw [e2]
 exact this
theorem le8 {a1 a2 a3 a4 a5 a6 a7 a8 b1 b2 b3 b4 b5 b6 b7 b8 : CV} (h1 : leC a1 b1) (h2 : leC a2 b2) (h3 : leC a3 b3) (h4 : leC a4 b4) (h5 : leC a5 b5) (h6 : leC a6 b6) (h7 : leC a7 b7) (h8 : leC a8 b8) :
  LeL [a1,a2,a3,a4,a5,a6,a7,a8] [b1,b2,b3,b4,b5,b6,b7,b8]:=.cons h1 (.cons h2 (.cons h3 (.cons h4 (.cons h5 (.cons h6 (.cons h7 (.cons h8 .nil)))))))
theorem lfS_tells {cs:List CV} {s:ByteArray} {p:PS} {x:RS} (h:LeL cs x.cells):Tells (lfS cs s p) encR s (.ret x p):=⟨_,rfl,.ret (leA_one (.agg h)) LeL.refl rfl⟩
abbrev stmS (E:ByteArray → PS → PR PS RX) (B:ByteArray → PS → PR PS (List RS)) (k:Nat) (s:ByteArray) (p:PS):PR PS RS:=statementM (MP s) AR (E s) (B s) k p
theorem px88 {E : ByteArray → PS → PR PS RX} {B : ByteArray → PS → PR PS (List RS)} (hE : PxOne Tryz.prog 132 (localG 82 (UO E))) (hB : PxOne Tryz.prog 35 (localG 82 (UBk B))) (k : Nat) (hk : k + 1 ≤ maxB) :
  PxOne Tryz.prog 88 (localG 82 (uOf dS encR (spU (stmS E B k)))):=px_U h88 (x88w hE hB k) 10 88 fun s n t a => by
 rw [t88_eq]
 unfold t88 stmS statementM
 refine Tells.cond ?_ (Tells.cond ?_ (Tells.cond ?_ (Tells.cond ?_ (Tells.cond ?_ Tells.pan))))
 ·refine Tells.bind fun _ p1 => Tells.bind fun w p2 => Tells.bind fun c p3 => Tells.cond (Tells.bind fun l p4 => Tells.bind fun _ p5 => lfS_tells ?_) (Tells.bind fun _ p4 => lfS_tells ?_)
  ·exact le8 leC.refl leC.refl leC.refl leC.refl leC_nil leC.refl leC_nil leC.refl
  ·exact le8 leC.refl leC.refl leC.refl leC.refl leC_nil leC_nil leC_nil leC.refl
 ·refine Tells.bind fun _ p1 => Tells.bind fun e p2 => Tells.bind fun l p3 => Tells.bind fun c p4 => Tells.cond (Tells.bind fun r p5 => lfS_tells ?_) (lfS_tells ?_)
  ·exact le8 leC.refl leC_nil leC.refl leC.refl leC.refl leC.refl leC.refl leC.refl
  ·exact le8 leC.refl leC_nil leC.refl leC.refl leC.refl leC.refl leC_nil leC.refl
 ·refine Tells.bind fun _ p1 => Tells.bind fun n p2 => Tells.bind fun l p3 => lfS_tells ?_
  exact le8 leC.refl leC_nil leC.refl leC.refl leC_nil leC.refl leC_nil leC.refl
 ·refine Tells.bind fun _ p1 => Tells.bind fun e p2 => Tells.bind fun _ p3 => lfS_tells ?_
  exact le8 leC.refl leC_nil leC.refl leC.refl leC.refl leC_nil leC_nil leC.refl
 ·refine Tells.bind fun _ p1 => ?_
  have hpl:plainM (MP s) p1 = match isWordS p1.tx with | none => (PR.stuck:PR PS ByteArray) | some c => wordM (MP s) c p1:=rfl
  show Tells _ _ _ ((plainM (MP s) p1).bind _)
  rw [hpl]
  cases isWordS p1.tx with
  | none => exact trivial
  | some ok =>
    refine Tells.nd rfl (Tells.bind fun w p2 => Tells.nd (Nat.ble_eq.mpr (by omega)) (Tells.bind fun l p3 => lfS_tells ?_))
    exact le8 leC.refl (sayWords_le w l) leC.refl leC.refl leC_nil leC_nil leC_nil leC.refl
abbrev stK (K d:Nat) (s:ByteArray) (p:PS):PR PS RS:=(sts (MP s) AR K d).1 p
abbrev blK (K d:Nat) (s:ByteArray) (p:PS):PR PS (List RS):=(sts (MP s) AR K d).2 p
theorem pxSt (k:Nat) (hk:k + 2 ≤ maxB):∀ d,PxOne Tryz.prog 88 (localG 82 (uOf dS encR (spU (stK (k + 1) d)))) ∧ PxOne Tryz.prog 35 (localG 82 (UBk (blK (k + 1) d)))
 | 0 => ⟨px_stuck 88,px_stuck 35⟩
 | d + 1 => by
   obtain ⟨_,h2⟩:=pxSt k hk d
   have hE:=(pxEx k (k + 1)).2
   have hs:PxOne Tryz.prog 88 (localG 82 (uOf dS encR (spU (stK (k + 1) (d + 1))))):=px88 hE h2 (k + 1) (by omega)
   exact ⟨hs,px35 hs (k + 1) (by omega)⟩
def kidsC (w:ByteArray):Nat :=
 bif strEq w wNum then 1 else bif (strEq w wEpoch || (strEq w wApplied || (strEq w wRole || (strEq w wAlive || strEq w wConnected)))) then 2
  else bif (strEq w wPrimary || strEq w wSites) then 3 else bif strEq w wNot then 4
   else bif (strEq w wOr || (strEq w wAnd || (strEq w wEq || (strEq w wLt || (strEq w wGt || (strEq w wPlus || strEq w wMinus)))))) then 5 else 0
def kidsN:Nat → Int
 | 4 => 1
 | 5 => 2
 | _ => 0
def kidsM:Nat → Int
 | 1 => 1073741824
 | 2 => 9
 | _ => 0
def kidsR (c:Nat):AV:=.tup [.c (.int .i64 (kidsN c)),.c (.int .i64 (kidsM c)),.c (.bool (!(Nat.beq c 0)))]
def G155:List A1 → Option AV
 | [.c (.str w)] => some (kidsR (kidsC w))
 | _ => none
def t155 (w:ByteArray):Tree AV :=
 let L:=fun (a b:Int) (c:Bool) => Tree.leaf (AV.tup [.c (.int .i64 a),.c (.int .i64 b),.c (.bool c)])
 let Z:=L 0 0 false
 let A5:=L 2 0 true
 let R5:=.br (strEq w wOr) (.br (strEq w wOr) A5 Z) (.br (strEq w wAnd) (.br (strEq w wAnd) A5 Z) (.br (strEq w wEq) (.br (strEq w wEq) A5 Z) (.br (strEq w wLt) (.br (strEq w wLt) A5 Z)
  (.br (strEq w wGt) (.br (strEq w wGt) A5 Z) (.br (strEq w wPlus) (.br (strEq w wPlus) A5 Z) (.br (strEq w wMinus) A5 Z))))))
 let R4:=.br (strEq w wNot) (L 1 0 true) R5
 let R3:=.br (strEq w wPrimary) (.br (strEq w wPrimary) (L 0 0 true) R4) (.br (strEq w wSites) (L 0 0 true) R4)
 let B:=L 0 9 true
 let R2:=.br (strEq w wEpoch) (.br (strEq w wEpoch) B R3) (.br (strEq w wApplied) (.br (strEq w wApplied) B R3) (.br (strEq w wRole) (.br (strEq w wRole) B R3) (.br (strEq w wAlive) (.br (strEq w wAlive) B R3) (.br (strEq w wConnected) B R3))))
 .br (strEq w wNum) (L 0 1073741824 true) R2
theorem t155_eq (w:ByteArray):(evFn Tryz.prog h00 10 155 [.c (.str w)] []).vals = t155 w:=by kernel_rfl
theorem t155_all (w:ByteArray):(t155 w).All (fun z => z = kidsR (kidsC w)):=by
 unfold t155 kidsC
 cases strEq w wNum with
 | true => exact sel_all rfl rfl
 | false =>
 cases strEq w wEpoch with
 | true => exact sel_all rfl rfl
 | false =>
 cases strEq w wApplied with
 | true => exact sel_all rfl rfl
 | false =>
 cases strEq w wRole with
 | true => exact sel_all rfl rfl
 | false =>
 cases strEq w wAlive with
 | true => exact sel_all rfl rfl
 | false =>
 cases strEq w wConnected with
 | true => exact sel_all rfl rfl
 | false =>
 cases strEq w wPrimary with
 | true => exact sel_all rfl rfl
 | false =>
 cases strEq w wSites with
 | true => exact sel_all rfl rfl
 | false =>
 cases strEq w wNot with
 | true => exact sel_all rfl rfl
 | false =>
 cases strEq w wOr with
 | true => exact sel_all rfl rfl
 | false =>
 cases strEq w wAnd with
 | true => exact sel_all rfl rfl
 | false =>
 cases strEq w wEq with
 | true => exact sel_all rfl rfl
 | false =>
 cases strEq w wLt with
 | true => exact sel_all rfl rfl
 | false =>
 cases strEq w wGt with
 | true => exact sel_all rfl rfl
 | false =>
 cases strEq w wPlus with
 | true => exact sel_all rfl rfl
 | false =>
 cases strEq w wMinus with
 | true => exact sel_all rfl rfl
 | false => exact sel_all rfl rfl
theorem p155:PcOne Tryz.prog 155 G155:=pcOne_of_tree (H:=h00) HdOk.nil 10 155 fun args r h => by
 unfold G155 at h
 split at h
 ·rename_i w
  have hr:=Option.some.inj h
  refine ⟨by rw [← hr]; rfl,_,t155_eq w,?_⟩
  rw [← hr]
  exact t155_all w
 ·cases h
def kidX (ρ:Val) (i:Nat):RX:=⟨((ρ.at i).at 0).S [],((ρ.at i).at 1).N [],((ρ.at i).at 2).L [],(ρ.at i).at 2⟩
abbrev RE:=RX → Int → Option Int
def G135 (R:RE):List A1 → Option (Bool × AV)
 | [.agg [.str o,.int .i64 v,.sl es n ρ],.c (.int .i64 d)] => if shEq.shsEq es (rtab 0) then some (opD (R ⟨o,v,n,ρ⟩ d),.one (.c (.int .i64 (opN (R ⟨o,v,n,ρ⟩ d))))) else none
 | _ => none
abbrev C135:=Int × Int × (Nat × Val) × Int × Int
def S135 (c:C135):St:=mkS 57 [(1,.one (.c (.int .i64 c.1))),(4,.one (.c (.int .i64 c.2.1))),(43,.one (.c (.sl (rtab 0) c.2.2.1.1 c.2.2.1.2))),(44,.one (.c (.int .i64 c.2.2.2.1))),(45,.one (.c (.int .i64 c.2.2.2.2)))] []
def get135:List (Nat × AV) → Mem → Option C135
 | [(1,.one (.c (.int .i64 d))),(4,.one (.c (.int .i64 r))),(43,.one (.c (.sl es n ρ))),(44,.one (.c (.int .i64 l))),(45,.one (.c (.int .i64 i)))],[] => if shEq.shsEq es (rtab 0) then some (d,r,(n,ρ),l,i) else none
 | _,_ => none
theorem get135_ok:∀ l m c,get135 l m = some c → mkS 57 l m = S135 c:=by
 intro l m c h
 unfold get135 at h
 split at h
 ·split at h
  ·rename_i hs
   cases h
   rw [shsEq_eq hs]
   rfl
  ·cases h
 ·cases h
def E135 (v:Int):St:=mkS 57 [(4,.one (.c (.int .i64 v)))] []
def getE135:List (Nat × AV) → Mem → Option Int
 | [(4,.one (.c (.int .i64 v)))],[] => some v
 | _,_ => none
theorem getE135_ok:∀ l m c,getE135 l m = some c → mkS 57 l m = E135 c:=by
 intro l m c h
 unfold getE135 at h
 split at h
 ·cases h; rfl
 ·cases h
def A135:Sx.Frame C135 Int:=⟨0,57,[1,4,43,44,45],get135,S135,[4],getE135,E135⟩
theorem a135:A135.Ok:=.of_eq get135_ok getE135_ok
noncomputable abbrev H135 (R:RE):Hd:=⟨[(155,oG G155)],[(135,nG (G135 R))],[],[]⟩
theorem h135 {R:RE} (hR:UcOne Tryz.prog 135 (nG (G135 R))):HdOk Tryz.prog (H135 R):=(HdOk.nil.ucCons hR).pcCons p155
def r135 (R:RE) (g:C135 → Tree (XP × Int)) (c:C135):Tree (XP × Int) :=
 let x:=R (kidX c.2.2.1.2 c.2.2.2.2.toNat) (IntKind.wrap .i64 (c.1 + 1))
 .br (lt c.2.2.2.2 c.2.2.2.1) (.need (inRange c.2.2.2.2 c.2.2.1.1) (.need (opD x) (.br (opN x != 0) (.leaf (.ret,opN x)) (g (c.1,c.2.1,c.2.2.1,c.2.2.2.1,IntKind.wrap .i64 (c.2.2.2.2 + 1)))))) (.leaf (.exit 1,c.2.1))
theorem r135_eq (R:RE) (g:C135 → Tree (XP × Int)) (d r:Int) (n:Nat) (ρ:Val) (l i:Int):roundC A135 Tryz.prog (H135 R) X0 10 135 0 g (d,r,(n,ρ),l,i) = r135 R g (d,r,(n,ρ),l,i):=by kernel_rfl
def expL (R:RE) (n:Nat) (ρ:Val) (l d:Int):Nat → Int → Option Int
 | 0,_ => none
 | k + 1, i => bif lt i l then (bif inRange i n then (match R (kidX ρ i.toNat) (IntKind.wrap .i64 (d + 1)) with
   | some x => bif x != 0 then some x else expL R n ρ l d k (IntKind.wrap .i64 (i + 1))
   | none => none) else none) else some 0
def g135 (R:RE) (k:Nat) (c:C135):Tree (XP × Int) :=
 let x:=expL R c.2.2.1.1 c.2.2.1.2 c.2.2.2.1 c.1 k c.2.2.2.2
 .need (opD x) (.br (opN x != 0) (.leaf (.ret,opN x)) (.leaf (.exit 1,c.2.1)))
theorem g135_sel (R : RE) (k : Nat) (c : C135) : (g135 R k c).sel = match expL R c.2.2.1.1 c.2.2.1.2 c.2.2.2.1 c.1 k c.2.2.2.2 with
  | some x => some (bif x != 0 then (.ret,x) else (.exit 1,c.2.1))
  | none => none:=by
 unfold g135
 cases expL R c.2.2.1.1 c.2.2.1.2 c.2.2.2.1 c.1 k c.2.2.2.2 with
 | none => rfl
 | some x =>
   show (bif true then (bif x != 0 then some _ else some _) else none) = _
   simp only
   cases (x != 0) <;> rfl
theorem step135 (R:RE) (k:Nat) (c:C135) (x:XP × Int) (h:(g135 R (k + 1) c).sel = some x):(roundC A135 Tryz.prog (H135 R) X0 10 135 0 (g135 R k) c).sel = some x:=by
 obtain ⟨d,r,⟨n,ρ⟩,l,i⟩:=c
 rw [r135_eq]
 rw [g135_sel] at h
 unfold expL at h
 unfold r135
 simp only [sel_br,sel_need,sel_leaf,g135_sel]
 revert h
 cases lt i l with
 | false => exact fun h => h
 | true =>
   cases inRange i n with
  | false => exact fun h => h
  | true =>
    cases R (kidX ρ i.toNat) (IntKind.wrap .i64 (d + 1)) with
   | none => exact fun h => h
   | some y =>
     simp only [cond_true,opD,opN]
     cases hy:(y != 0) with
    | true => simp only [cond_true,hy]; exact fun h => h
    | false => simp only [cond_false]; exact fun h => h
theorem core135 {R:RE} (hR:UcOne Tryz.prog 135 (nG (G135 R))):∀ k,CoreOk Tryz.prog 135 0 0 S135 E135 (g135 R k) :=
 CoreOk.fuel (A:=A135) a135 (h135 hR) x0 10 (fun _ => rfl) (step135 R)
def gg135 (R:RE) (c:C135):Tree (XP × Int):=g135 R (c.2.2.1.1 + 1) c
def X135 (R:RE):HdP:=⟨[],[],[],[((135,0),loopC A135 (gg135 R))],[],0,[]⟩
theorem x135 {R:RE} (hR:UcOne Tryz.prog 135 (nG (G135 R))):XOk Tryz.prog (X135 R):=XOk.nil.lxCons (CoreOk.lx (g:=gg135 R) a135 fun fn c b h1 h2 h3 c0 x hx => core135 hR _ fn c b h1 h2 h3 c0 x hx)
def expB (e:RX):Bool :=
 let c:=kidsC e.op
 bif bif bif !(!(Nat.beq c 0)) then true else toInt64 e.n != kidsN c then true else lt e.v 0 then true else lt (kidsM c) e.v
def expG (R:RE) (e:RX) (d:Int):Option Int:=bif expB e then some 3 else bif lt 32 d then some 28 else expL R e.n e.ρ (toInt64 e.n) d (e.n + 1) 0
def t135 (R:RE) (e:RX) (d:Int):Tree AV :=
 let x:=expL R e.n e.ρ (toInt64 e.n) d (e.n + 1) 0
 .br (expB e) (.leaf (.one (.c (.int .i64 3)))) (.br (lt 32 d) (.leaf (.one (.c (.int .i64 28)))) (.need (opD x) (.br (opN x != 0) (.leaf (.one (.c (.int .i64 (opN x))))) (.leaf (.one (.c (.int .i64 0)))))))
theorem t135_eq (R:RE) (o:ByteArray) (v:Int) (n:Nat) (ρ:Val) (d:Int):hcTreeP Tryz.prog (H135 R) (X135 R) 10 135 [.agg [.str o,.int .i64 v,.sl (rtab 0) n ρ],.c (.int .i64 d)] = t135 R ⟨o,v,n,ρ⟩ d:=by kernel_rfl
theorem G135_some {R:RE} {args:List A1} {r:AV} (h:G135 R args = some (true,r)):∃ o v n ρ d,args = [.agg [.str o,.int .i64 v,.sl (rtab 0) n ρ],.c (.int .i64 d)] ∧ opD (R ⟨o,v,n,ρ⟩ d) = true ∧ r = .one (.c (.int .i64 (opN (R ⟨o,v,n,ρ⟩ d)))):=by
 unfold G135 at h
 split at h
 ·split at h
  ·rename_i o v es n ρ d hs
   simp only [Option.some.injEq,Prod.mk.injEq] at h
   exact ⟨o,v,n,ρ,d,by rw [shsEq_eq hs],h.1,h.2.symm⟩
  ·cases h
 ·cases h
theorem t135_all (R:RE) (e:RX) (d:Int) (h:opD (expG R e d) = true):(t135 R e d).All (fun x => leA x (.one (.c (.int .i64 (opN (expG R e d)))))):=by
 unfold t135
 unfold expG at h ⊢
 revert h
 cases expB e with
 | true => exact fun _ => sel_all rfl leA.refl
 | false =>
   cases lt 32 d with
  | true => exact fun _ => sel_all rfl leA.refl
  | false =>
    simp only [cond_false]
    cases expL R e.n e.ρ (toInt64 e.n) d (e.n + 1) 0 with
   | none => exact fun h => by cases h
   | some x =>
     intro _
     refine ⟨fun h => (by cases h),fun _ => ⟨fun h => (by cases h),fun _ => ⟨rfl,?_⟩⟩⟩
     show Tree.All _ (Tree.br (x != 0) (.leaf (AV.one (.c (.int .i64 x)))) (.leaf (AV.one (.c (.int .i64 0)))))
     refine ⟨fun _ => leA.refl,fun h => ?_⟩
     have:x = 0:=by simpa using h
     subst this
     exact leA.refl
theorem u135 {R:RE} {args:List A1} {r:AV} (h:G135 (expG R) args = some (true,r)):(hcTreeP Tryz.prog (H135 R) (X135 R) 10 135 args).All (fun x => leA x r):=by
 obtain ⟨o,v,n,ρ,d,e1,h1,e2⟩:=G135_some h
 rw [e1,e2,t135_eq]
 exact t135_all R ⟨o,v,n,ρ⟩ d h1
theorem p135s {R:RE} (hR:UcOne Tryz.prog 135 (nG (G135 R))):UcOne Tryz.prog 135 (nG (G135 (expG R))):=by
 refine ucOneP_of_all (H:=H135 R) (X:=X135 R) (h135 hR) (x135 hR) 10 135 ?_
 intro args r h
 exact u135 h
def expF:Nat → RE
 | 0 => fun _ _ => none
 | f + 1 => expG (expF f)
theorem p135:∀ f,UcOne Tryz.prog 135 (nG (G135 (expF f)))
 | 0 => by
   intro args r h
   obtain ⟨o,v,n,ρ,d,_,h1,_⟩:=G135_some (nG_sel h)
   cases h1
 | f + 1 => p135s (p135 f)
abbrev RC:=Nat → Val → Option (Int × Int)
def cD:Option (Int × Int) → Bool | some _ => true | none => false
def cA:Option (Int × Int) → Int | some (a,_) => a | none => 0
def cB:Option (Int × Int) → Int | some (_,b) => b | none => 0
def G89 (R:RC):List A1 → Option (Bool × AV)
 | [.c (.sl es n ρ)] => if shEq.shsEq es (rtab 1) then some (cD (R n ρ),.tup [.c (.int .i64 (cA (R n ρ))),.c (.int .i64 (cB (R n ρ)))]) else none
 | _ => none
theorem G89_some {R:RC} {args:List A1} {r:AV} (h:G89 R args = some (true,r)):∃ n ρ,args = [.c (.sl (rtab 1) n ρ)] ∧ cD (R n ρ) = true ∧ r = .tup [.c (.int .i64 (cA (R n ρ))),.c (.int .i64 (cB (R n ρ)))]:=by
 unfold G89 at h
 split at h
 ·split at h
  ·rename_i es n ρ hs
   simp only [Option.some.injEq,Prod.mk.injEq] at h
   exact ⟨n,ρ,by rw [shsEq_eq hs],h.1,h.2.symm⟩
  ·cases h
 ·cases h
abbrev C89:=Int × Int × (Nat × Val) × Int × Int
def S89 (c:C89):St:=mkS 45 [(4,.one (.c (.int .i64 c.1))),(5,.one (.c (.int .i64 c.2.1))),(12,.one (.c (.sl (rtab 1) c.2.2.1.1 c.2.2.1.2))),(13,.one (.c (.int .i64 c.2.2.2.1))),(14,.one (.c (.int .i64 c.2.2.2.2)))] []
def get89:List (Nat × AV) → Mem → Option C89
 | [(4,.one (.c (.int .i64 a))),(5,.one (.c (.int .i64 b))),(12,.one (.c (.sl es n ρ))),(13,.one (.c (.int .i64 l))),(14,.one (.c (.int .i64 i)))],[] => if shEq.shsEq es (rtab 1) then some (a,b,(n,ρ),l,i) else none
 | _,_ => none
theorem get89_ok:∀ l m c,get89 l m = some c → mkS 45 l m = S89 c:=by
 intro l m c h
 unfold get89 at h
 split at h
 ·split at h
  ·rename_i hs
   cases h
   rw [shsEq_eq hs]
   rfl
  ·cases h
 ·cases h
def E89 (v:Int × Int):St:=mkS 45 [(4,.one (.c (.int .i64 v.1))),(5,.one (.c (.int .i64 v.2)))] []
def getE89:List (Nat × AV) → Mem → Option (Int × Int)
 | [(4,.one (.c (.int .i64 v))),(5,.one (.c (.int .i64 u)))],[] => some (v,u)
 | _,_ => none
theorem getE89_ok:∀ l m c,getE89 l m = some c → mkS 45 l m = E89 c:=by
 intro l m c h
 unfold getE89 at h
 split at h
 ·cases h; rfl
 ·cases h
def A89:Sx.Frame C89 (Int × Int):=⟨0,45,[4,5,12,13,14],get89,S89,[4,5],getE89,E89⟩
theorem a89:A89.Ok:=.of_eq get89_ok getE89_ok
noncomputable abbrev H89 (R:RC):Hd:=⟨[],[(89,nG (G89 R))],[],[]⟩
theorem h89 {R:RC} (hR:UcOne Tryz.prog 89 (nG (G89 R))):HdOk Tryz.prog (H89 R):=HdOk.nil.ucCons hR
def bodN (ρ:Val) (i:Nat):Nat:=((ρ.at i).at 5).L []
def bodV (ρ:Val) (i:Nat):Val:=(ρ.at i).at 5
def elsN (ρ:Val) (i:Nat):Nat:=((ρ.at i).at 6).L []
def elsV (ρ:Val) (i:Nat):Val:=(ρ.at i).at 6
def cntA (a a1 b1:Int):Int:=IntKind.wrap .i64 (IntKind.wrap .i64 (IntKind.wrap .i64 (a + 1) + a1) + b1)
def cntB (b x y:Int):Int:=imax b (IntKind.wrap .i64 (1 + imax x y))
def r89 (R:RC) (g:C89 → Tree (XP × (Int × Int))) (c:C89):Tree (XP × (Int × Int)) :=
 let ρ:=c.2.2.1.2
 let i:=c.2.2.2.2
 let u:=R (bodN ρ i.toNat) (bodV ρ i.toNat)
 let v:=R (elsN ρ i.toNat) (elsV ρ i.toNat)
 .br (lt i c.2.2.2.1) (.need (inRange i c.2.2.1.1) (.need (cD u) (.need (cD v) (g (cntA c.1 (cA u) (cA v),cntB c.2.1 (cB u) (cB v),c.2.2.1,c.2.2.2.1,IntKind.wrap .i64 (i + 1)))))) (.leaf (.exit 0,(c.1,c.2.1)))
theorem r89_eq (R:RC) (g:C89 → Tree (XP × (Int × Int))) (a b:Int) (n:Nat) (ρ:Val) (l i:Int):roundC A89 Tryz.prog (H89 R) X0 10 89 0 g (a,b,(n,ρ),l,i) = r89 R g (a,b,(n,ρ),l,i):=by kernel_rfl
def cntL (R:RC) (n:Nat) (ρ:Val) (l:Int):Nat → Int → Int → Int → Option (Int × Int)
 | 0,_,_,_ => none
 | k + 1, i, a, b => bif lt i l then (bif inRange i n then (match R (bodN ρ i.toNat) (bodV ρ i.toNat), R (elsN ρ i.toNat) (elsV ρ i.toNat) with
   | some (a1,x),some (b1,y) => cntL R n ρ l k (IntKind.wrap .i64 (i + 1)) (cntA a a1 b1) (cntB b x y)
   | _,_ => none) else none) else some (a,b)
def g89 (R:RC) (k:Nat) (c:C89):Tree (XP × (Int × Int)) :=
 let x:=cntL R c.2.2.1.1 c.2.2.1.2 c.2.2.2.1 k c.2.2.2.2 c.1 c.2.1
 .need (cD x) (.leaf (.exit 0,(cA x,cB x)))
theorem g89_sel (R : RC) (k : Nat) (c : C89) : (g89 R k c).sel = match cntL R c.2.2.1.1 c.2.2.1.2 c.2.2.2.1 k c.2.2.2.2 c.1 c.2.1 with
  | some (a,b) => some (.exit 0,(a,b))
  | none => none:=by
 unfold g89
 cases cntL R c.2.2.1.1 c.2.2.1.2 c.2.2.2.1 k c.2.2.2.2 c.1 c.2.1 with
 | none => rfl
 | some x => obtain ⟨a,b⟩:=x; rfl
theorem step89 (R:RC) (k:Nat) (c:C89) (x:XP × (Int × Int)) (h:(g89 R (k + 1) c).sel = some x):(roundC A89 Tryz.prog (H89 R) X0 10 89 0 (g89 R k) c).sel = some x:=by
 obtain ⟨a,b,⟨n,ρ⟩,l,i⟩:=c
 rw [r89_eq]
 rw [g89_sel] at h
 unfold cntL at h
 unfold r89
 simp only [sel_br,sel_need,sel_leaf,g89_sel]
 revert h
 cases lt i l with
 | false => exact fun h => h
 | true =>
   cases inRange i n with
  | false => exact fun h => h
  | true =>
    simp only
    cases R (bodN ρ i.toNat) (bodV ρ i.toNat) with
   | none => exact fun h => h
   | some u =>
     cases R (elsN ρ i.toNat) (elsV ρ i.toNat) with
    | none => exact fun h => h
    | some v => exact fun h => h
theorem core89 {R:RC} (hR:UcOne Tryz.prog 89 (nG (G89 R))):∀ k,CoreOk Tryz.prog 89 0 0 S89 E89 (g89 R k) :=
 CoreOk.fuel (A:=A89) a89 (h89 hR) x0 10 (fun _ => rfl) (step89 R)
def gg89 (R:RC) (c:C89):Tree (XP × (Int × Int)):=g89 R (c.2.2.1.1 + 1) c
def X89 (R:RC):HdP:=⟨[],[],[],[((89,0),loopC A89 (gg89 R))],[],0,[]⟩
theorem x89 {R:RC} (hR:UcOne Tryz.prog 89 (nG (G89 R))):XOk Tryz.prog (X89 R):=XOk.nil.lxCons (CoreOk.lx (g:=gg89 R) a89 fun fn c b h1 h2 h3 c0 x hx => core89 hR _ fn c b h1 h2 h3 c0 x hx)
def cntG (R:RC) (n:Nat) (ρ:Val):Option (Int × Int):=cntL R n ρ (toInt64 n) (n + 1) 0 0 0
def t89 (R:RC) (n:Nat) (ρ:Val):Tree AV:=.need (cD (cntG R n ρ)) (.leaf (.tup [.c (.int .i64 (cA (cntG R n ρ))),.c (.int .i64 (cB (cntG R n ρ)))]))
theorem t89_eq (R:RC) (n:Nat) (ρ:Val):hcTreeP Tryz.prog (H89 R) (X89 R) 10 89 [.c (.sl (rtab 1) n ρ)] = t89 R n ρ:=by kernel_rfl
theorem u89 {R:RC} {args:List A1} {r:AV} (h:G89 (cntG R) args = some (true,r)):(hcTreeP Tryz.prog (H89 R) (X89 R) 10 89 args).All (fun x => leA x r):=by
 obtain ⟨n,ρ,e1,h1,e2⟩:=G89_some h
 rw [e1,e2,t89_eq]
 exact ⟨h1,leA.refl⟩
theorem p89s {R:RC} (hR:UcOne Tryz.prog 89 (nG (G89 R))):UcOne Tryz.prog 89 (nG (G89 (cntG R))):=by
 refine ucOneP_of_all (H:=H89 R) (X:=X89 R) (h89 hR) (x89 hR) 10 89 ?_
 intro args r h
 exact u89 h
def cntF:Nat → RC
 | 0 => fun _ _ => none
 | f + 1 => cntG (cntF f)
theorem p89:∀ f,UcOne Tryz.prog 89 (nG (G89 (cntF f)))
 | 0 => by
   intro args r h
   obtain ⟨n,ρ,_,h1,_⟩:=G89_some (nG_sel h)
   cases h1
 | f + 1 => p89s (p89 f)
def wAt (ρ:Val) (i:Nat):ByteArray:=((ρ.at i).at 0).S []
def nAt (ρ:Val) (i:Nat):Int:=((ρ.at i).at 0).N []
abbrev C154:=(Nat × Val) × Int × Int × Int
def S154 (c:C154):St:=mkS 19 [(0,.one (.c (.sl [.str] c.1.1 c.1.2))),(1,.one (.c (.fn (.func 165) [] []))),(4,.one (.c (.int .i64 c.2.1))),(7,.one (.c (.int .i64 c.2.2.1))),(8,.one (.c (.int .i64 c.2.2.2)))] []
def get154:List (Nat × AV) → Mem → Option C154
 | [(0,.one (.c (.sl [.str] n ρ))),(1,.one (.c (.fn (.func 165) [] []))),(4,.one (.c (.int .i64 r))),(7,.one (.c (.int .i64 l))),(8,.one (.c (.int .i64 i)))],[] => some ((n,ρ),r,l,i)
 | _,_ => none
theorem get154_ok:∀ l m c,get154 l m = some c → mkS 19 l m = S154 c:=by
 intro l m c h
 unfold get154 at h
 split at h
 ·cases h; rfl
 ·cases h
def E154 (v:Int):St:=mkS 19 [(4,.one (.c (.int .i64 v)))] []
def getE154:List (Nat × AV) → Mem → Option Int
 | [(4,.one (.c (.int .i64 v)))],[] => some v
 | _,_ => none
theorem getE154_ok:∀ l m c,getE154 l m = some c → mkS 19 l m = E154 c:=by
 intro l m c h
 unfold getE154 at h
 split at h
 ·cases h; rfl
 ·cases h
def A154:Sx.Frame C154 Int:=⟨0,19,[0,1,4,7,8],get154,S154,[4],getE154,E154⟩
theorem a154:A154.Ok:=.of_eq get154_ok getE154_ok
noncomputable abbrev H154:Hd:=⟨[pF 154],[(87,nG G87)],[],[]⟩
theorem h154:HdOk Tryz.prog H154:=(HdOk.nil.ucCons p87).pF 154
def r154 (g:C154 → Tree (XP × Int)) (c:C154):Tree (XP × Int) :=
 let i:=c.2.2.2
 let x:=isWordS (wAt c.1.2 i.toNat)
 .br (lt i c.2.2.1) (.need (inRange i c.1.1) (.need (obD x) (.br (!obV x) (.leaf (.ret,i)) (g (c.1,c.2.1,c.2.2.1,IntKind.wrap .i64 (i + 1)))))) (.leaf (.exit 0,c.2.1))
theorem r154_eq (g:C154 → Tree (XP × Int)) (n:Nat) (ρ:Val) (r l i:Int):roundC A154 Tryz.prog H154 X0 10 154 0 g ((n,ρ),r,l,i) = r154 g ((n,ρ),r,l,i):=by kernel_rfl
def badL (n:Nat) (ρ:Val) (l:Int):Nat → Int → Option (Option Int)
 | 0,_ => none
 | k + 1, i => bif lt i l then (bif inRange i n then (match isWordS (wAt ρ i.toNat) with
   | some b => bif !b then some (some i) else badL n ρ l k (IntKind.wrap .i64 (i + 1))
   | none => none) else none) else some none
def ooD:Option (Option Int) → Bool | some _ => true | none => false
def ooB:Option (Option Int) → Bool | some (some _) => true | _ => false
def ooV:Option (Option Int) → Int | some (some i) => i | _ => 0
def g154 (k:Nat) (c:C154):Tree (XP × Int) :=
 let x:=badL c.1.1 c.1.2 c.2.2.1 k c.2.2.2
 .need (ooD x) (.br (ooB x) (.leaf (.ret,ooV x)) (.leaf (.exit 0,c.2.1)))
theorem g154_sel (k : Nat) (c : C154) : (g154 k c).sel = match badL c.1.1 c.1.2 c.2.2.1 k c.2.2.2 with
  | some (some i) => some (.ret,i)
  | some none => some (.exit 0,c.2.1)
  | none => none:=by
 unfold g154
 cases badL c.1.1 c.1.2 c.2.2.1 k c.2.2.2 with
 | none => rfl
 | some x => cases x <;> rfl
theorem step154 (k:Nat) (c:C154) (x:XP × Int) (h:(g154 (k + 1) c).sel = some x):(roundC A154 Tryz.prog H154 X0 10 154 0 (g154 k) c).sel = some x:=by
 obtain ⟨⟨n,ρ⟩,r,l,i⟩:=c
 rw [r154_eq]
 rw [g154_sel] at h
 unfold badL at h
 unfold r154
 simp only [sel_br,sel_need,sel_leaf,g154_sel]
 revert h
 cases lt i l with
 | false => exact fun h => h
 | true =>
   cases inRange i n with
  | false => exact fun h => h
  | true =>
    simp only
    cases isWordS (wAt ρ i.toNat) with
   | none => exact fun h => h
   | some b => cases b <;> exact fun h => h
theorem core154:∀ k,CoreOk Tryz.prog 154 0 0 S154 E154 (g154 k) :=
 CoreOk.fuel (A:=A154) a154 h154 x0 10 (fun _ => rfl) step154
def gg154 (c:C154):Tree (XP × Int):=g154 (c.1.1 + 1) c
def X154:HdP:=⟨[],[],[],[((154,0),loopC A154 gg154)],[],0,[]⟩
theorem x154:XOk Tryz.prog X154:=XOk.nil.lxCons (CoreOk.lx (g:=gg154) a154 fun fn c b h1 h2 h3 c0 x hx => core154 _ fn c b h1 h2 h3 c0 x hx)
def badW (n:Nat) (ρ:Val):Option (Option Int):=badL n ρ (toInt64 n) (n + 1) 0
def badO (x:Option (Option Int)):Bool:=bif ooB x then le 0 (ooV x) else false
def G127:List A1 → Option (Bool × AV)
 | [.c (.sl [.str] n ρ),.c (.fn (.func 165) [] [])] => some (ooD (badW n ρ),.one (.c (.bool (badO (badW n ρ)))))
 | _ => none
def t127 (n:Nat) (ρ:Val):Tree AV:=.need (ooD (badW n ρ)) (.br (ooB (badW n ρ)) (.leaf (.one (.c (.bool (le 0 (ooV (badW n ρ))))))) (.leaf (.one (.c (.bool (le 0 (-1)))))))
theorem t127_eq (n:Nat) (ρ:Val):hcTreeP Tryz.prog H154 X154 10 127 [.c (.sl [.str] n ρ),.c (.fn (.func 165) [] [])] = t127 n ρ:=by kernel_rfl
theorem u127 {args:List A1} {r:AV} (h:G127 args = some (true,r)):(hcTreeP Tryz.prog H154 X154 10 127 args).All (fun x => leA x r):=by
 unfold G127 at h
 split at h
 ·rename_i n ρ
  rw [t127_eq]
  simp only [Option.some.injEq,Prod.mk.injEq] at h
  obtain ⟨h1,h2⟩:=h
  rw [← h2]
  unfold t127 badO
  refine ⟨h1,?_⟩
  cases ooB (badW n ρ) <;> exact sel_all rfl leA.refl
 ·cases h
theorem p127:UcOne Tryz.prog 127 (nG G127):=by
 refine ucOneP_of_all (H:=H154) (X:=X154) h154 x154 10 127 ?_
 intro args r h
 exact u127 h
abbrev C182:=((Nat × Val) × (Nat × Val)) × Bool × Int × Int
def S182 (c:C182):St:=mkS 32 [(1,.one (.c (.sl [.str] c.1.2.1 c.1.2.2))),(2,.one (.c (.fn (.func 159) [] []))),(6,.one (.c (.bool c.2.1))),(15,.one (.c (.sl [.int .i64] c.1.1.1 c.1.1.2))),(16,.one (.c (.int .i64 c.2.2.1))),(17,.one (.c (.int .i64 c.2.2.2)))] []
def get182:List (Nat × AV) → Mem → Option C182
 | [(1,.one (.c (.sl [.str] n ρ))),(2,.one (.c (.fn (.func 159) [] []))),(6,.one (.c (.bool b))),(15,.one (.c (.sl [.int .i64] m κ))),(16,.one (.c (.int .i64 l))),(17,.one (.c (.int .i64 i)))],[] => some (((m,κ),(n,ρ)),b,l,i)
 | _,_ => none
theorem get182_ok:∀ l m c,get182 l m = some c → mkS 32 l m = S182 c:=by
 intro l m c h
 unfold get182 at h
 split at h
 ·cases h; rfl
 ·cases h
def E182 (v:Bool):St:=mkS 32 [(6,.one (.c (.bool v)))] []
def getE182:List (Nat × AV) → Mem → Option Bool
 | [(6,.one (.c (.bool v)))],[] => some v
 | _,_ => none
theorem getE182_ok:∀ l m c,getE182 l m = some c → mkS 32 l m = E182 c:=by
 intro l m c h
 unfold getE182 at h
 split at h
 ·cases h; rfl
 ·cases h
def A182:Sx.Frame C182 Bool:=⟨0,32,[1,2,6,15,16,17],get182,S182,[6],getE182,E182⟩
theorem a182:A182.Ok:=.of_eq get182_ok getE182_ok
noncomputable abbrev H182:Hd:=⟨[],[(159,nG G159)],[],[]⟩
theorem h182:HdOk Tryz.prog H182:=HdOk.nil.ucCons p159
def r182 (g:C182 → Tree (XP × Bool)) (c:C182):Tree (XP × Bool) :=
 let i:=c.2.2.2
 let w:=wAt c.1.2.2 i.toNat
 .br (lt i c.2.2.1) (.need (inRange i c.1.1.1) (.need (inRange i c.1.2.1) (.need (nmD (numberS w)) (.br (!operandO (nAt c.1.1.2 i.toNat) w) (.leaf (.ret,false)) (g (c.1,c.2.1,c.2.2.1,IntKind.wrap .i64 (i + 1))))))) (.leaf (.exit 0,c.2.1))
theorem r182_eq (g:C182 → Tree (XP × Bool)) (m:Nat) (κ:Val) (n:Nat) (ρ:Val) (b:Bool) (l i:Int):roundC A182 Tryz.prog H182 X0 10 182 0 g (((m,κ),(n,ρ)),b,l,i) = r182 g (((m,κ),(n,ρ)),b,l,i):=by kernel_rfl
def eqL (m:Nat) (κ:Val) (n:Nat) (ρ:Val) (l:Int):Nat → Int → Option Bool
 | 0,_ => none
 | k + 1,i => bif lt i l then (bif inRange i m then (bif inRange i n then (bif nmD (numberS (wAt ρ i.toNat)) then (bif !operandO (nAt κ i.toNat) (wAt ρ i.toNat) then some false else eqL m κ n ρ l k (IntKind.wrap .i64 (i + 1))) else none) else none) else none) else some true
def g182 (k:Nat) (c:C182):Tree (XP × Bool) :=
 let x:=eqL c.1.1.1 c.1.1.2 c.1.2.1 c.1.2.2 c.2.2.1 k c.2.2.2
 .need (obD x) (.br (obV x) (.leaf (.exit 0,c.2.1)) (.leaf (.ret,false)))
theorem g182_sel (k : Nat) (c : C182) : (g182 k c).sel = match eqL c.1.1.1 c.1.1.2 c.1.2.1 c.1.2.2 c.2.2.1 k c.2.2.2 with
  | some true => some (.exit 0,c.2.1)
  | some false => some (.ret,false)
  | none => none:=by
 unfold g182
 cases eqL c.1.1.1 c.1.1.2 c.1.2.1 c.1.2.2 c.2.2.1 k c.2.2.2 with
 | none => rfl
 | some x => cases x <;> rfl
theorem step182 (k:Nat) (c:C182) (x:XP × Bool) (h:(g182 (k + 1) c).sel = some x):(roundC A182 Tryz.prog H182 X0 10 182 0 (g182 k) c).sel = some x:=by
 obtain ⟨⟨⟨m,κ⟩,⟨n,ρ⟩⟩,b,l,i⟩:=c
 rw [r182_eq]
 rw [g182_sel] at h
 unfold eqL at h
 unfold r182
 simp only [sel_br,sel_need,sel_leaf,g182_sel]
 revert h
 cases lt i l with
 | false => exact fun h => h
 | true =>
   cases inRange i m with
  | false => exact fun h => h
  | true =>
    cases inRange i n with
   | false => exact fun h => h
   | true =>
     cases nmD (numberS (wAt ρ i.toNat)) with
    | false => exact fun h => h
    | true => cases operandO (nAt κ i.toNat) (wAt ρ i.toNat) <;> exact fun h => h
theorem core182:∀ k,CoreOk Tryz.prog 182 0 0 S182 E182 (g182 k) :=
 CoreOk.fuel (A:=A182) a182 h182 x0 10 (fun _ => rfl) step182
def gg182 (c:C182):Tree (XP × Bool):=g182 (c.1.1.1 + 1) c
def X182:HdP:=⟨[],[],[],[((182,0),loopC A182 gg182)],[],0,[]⟩
theorem x182:XOk Tryz.prog X182:=XOk.nil.lxCons (CoreOk.lx (g:=gg182) a182 fun fn c b h1 h2 h3 c0 x hx => core182 _ fn c b h1 h2 h3 c0 x hx)
def eqS (m:Nat) (κ:Val) (n:Nat) (ρ:Val):Option Bool:=bif toInt64 m != toInt64 n then some false else eqL m κ n ρ (toInt64 m) (m + 1) 0
def G182:List A1 → Option (Bool × AV)
 | [.c (.sl [.int .i64] m κ),.c (.sl [.str] n ρ),.c (.fn (.func 159) [] [])] => some (obD (eqS m κ n ρ),.one (.c (.bool (obV (eqS m κ n ρ)))))
 | _ => none
def t182 (m:Nat) (κ:Val) (n:Nat) (ρ:Val):Tree AV :=
 let x:=eqL m κ n ρ (toInt64 m) (m + 1) 0
 .br (toInt64 m != toInt64 n) (.leaf (.one (.c (.bool false)))) (.need (obD x) (.br (obV x) (.leaf (.one (.c (.bool true)))) (.leaf (.one (.c (.bool false))))))
theorem t182_eq (m:Nat) (κ:Val) (n:Nat) (ρ:Val):hcTreeP Tryz.prog H182 X182 10 182 [.c (.sl [.int .i64] m κ),.c (.sl [.str] n ρ),.c (.fn (.func 159) [] [])] = t182 m κ n ρ:=by kernel_rfl
theorem t182_all (m:Nat) (κ:Val) (n:Nat) (ρ:Val) (h:obD (eqS m κ n ρ) = true):(t182 m κ n ρ).All (fun x => leA x (.one (.c (.bool (obV (eqS m κ n ρ)))))):=by
 unfold t182
 unfold eqS at h ⊢
 revert h
 cases (toInt64 m != toInt64 n) with
 | true => exact fun _ => sel_all rfl leA.refl
 | false =>
   simp only [cond_false]
   cases eqL m κ n ρ (toInt64 m) (m + 1) 0 with
  | none => exact fun h => by cases h
  | some b => cases b <;> exact fun _ => sel_all rfl leA.refl
theorem u182 {args:List A1} {r:AV} (h:G182 args = some (true,r)):(hcTreeP Tryz.prog H182 X182 10 182 args).All (fun x => leA x r):=by
 unfold G182 at h
 split at h
 ·rename_i m κ n ρ
  rw [t182_eq]
  simp only [Option.some.injEq,Prod.mk.injEq] at h
  obtain ⟨h1,h2⟩:=h
  rw [← h2]
  exact t182_all m κ n ρ h1
 ·cases h
theorem p182:UcOne Tryz.prog 182 (nG G182):=by
 refine ucOneP_of_all (H:=H182) (X:=X182) h182 x182 10 182 ?_
 intro args r h
 exact u182 h
noncomputable abbrev H164:Hd:=⟨[],[(158,nG G158),(182,nG G182)],[],[]⟩
theorem h164:HdOk Tryz.prog H164:=(HdOk.nil.ucCons p182).ucCons p158
def opEq (n:Nat) (ρ:Val):Option Bool:=eqS (kindsOf (kindC (wAt ρ 0))).length (intsV (kindsOf (kindC (wAt ρ 0)))) (n - 1) (ρ.from 1)
def opOk (ρ:Val):Bool:=!(Nat.beq (kindC (wAt ρ 0)) 0)
def isOpS (n:Nat) (ρ:Val):Option Bool:=bif toInt64 n == 0 then some false else bif opOk ρ then opEq n ρ else some false
def G164:List A1 → Option (Bool × AV)
 | [.c (.sl [.str] n ρ)] => some (obD (isOpS n ρ),.one (.c (.bool (obV (isOpS n ρ)))))
 | _ => none
def t164 (n:Nat) (ρ:Val):Tree AV :=
 .br (toInt64 n == 0) (.leaf (.one (.c (.bool false)))) (.need (inRange 0 n) (.need true (.br (opOk ρ == true)
  (.need (le 0 1 && le 1 (toInt64 n)) (.need (!((opOk ρ == true) && true) || obD (opEq n ρ)) (.leaf (.one (.c (.bool (bif opOk ρ then obV (opEq n ρ) else false)))))))
  (.need (!((opOk ρ == true) && true)) (.leaf (.one (.c (.bool (bif opOk ρ then false else false)))))))))
theorem t164_eq (n:Nat) (ρ:Val):hcTree Tryz.prog H164 10 164 [.c (.sl [.str] n ρ)] = t164 n ρ:=by kernel_rfl
theorem t164_all (n:Nat) (ρ:Val) (h:obD (isOpS n ρ) = true):(t164 n ρ).All (fun x => leA x (.one (.c (.bool (obV (isOpS n ρ)))))):=by
 unfold t164
 unfold isOpS at h ⊢
 revert h
 cases hz:(toInt64 n == 0) with
 | true => exact fun _ => sel_all rfl leA.refl
 | false =>
   have hn:0 < n:=by
    rcases Nat.eq_zero_or_pos n with rfl | h
    ·cases hz
    ·exact h
   have h1:inRange 0 n = true:=by unfold inRange le lt toInt64; simp; omega
   have h2:(le 0 1 && le 1 (toInt64 n)) = true:=by unfold le toInt64; simp; omega
   rw [h1,h2]
   simp only [cond_false]
   cases opOk ρ with
  | false => exact fun _ => sel_all rfl leA.refl
  | true =>
    simp only [cond_true]
    intro h
    refine ⟨(fun h => by cases h),fun _ => ⟨rfl,rfl,(fun _ => ⟨rfl,?_,leA.refl⟩),(fun h => by cases h)⟩⟩
    rw [h]; rfl
theorem u164 {args:List A1} {r:AV} (h:G164 args = some (true,r)):(hcTree Tryz.prog H164 10 164 args).All (fun x => leA x r):=by
 unfold G164 at h
 split at h
 ·rename_i n ρ
  rw [t164_eq]
  simp only [Option.some.injEq,Prod.mk.injEq] at h
  obtain ⟨h1,h2⟩:=h
  rw [← h2]
  exact t164_all n ρ h1
 ·cases h
theorem p164:UcOne Tryz.prog 164 (nG G164):=by
 refine ucOne_of_all (H:=H164) h164 10 164 ?_
 intro args r h
 exact u164 h
def G129:List A1 → Option AV
 | [.c (.str w)] => some (.one (.c (.bool (bif bif strEq w wIf then true else strEq w wRepeat then true else strEq w wRequire))))
 | _ => none
theorem p129:PcOne Tryz.prog 129 G129:=pcOne_of_tree (H:=h00) HdOk.nil 10 129 fun args r h => by
 unfold G129 at h
 split at h
 ·rename_i w
  have hr:=Option.some.inj h
  refine ⟨by rw [← hr]; rfl,.leaf (.one (.c (.bool (bif bif strEq w wIf then true else strEq w wRepeat then true else strEq w wRequire)))),by kernel_rfl,?_⟩
  rw [← hr]
  exact rfl
 ·cases h
abbrev X01:HdP:=⟨[],[],[],[],[],1,[]⟩
noncomputable def t181 (n:Nat) (ρ:Val):Tree AV:=hcTreeP Tryz.prog h00 X01 10 181 [.c (.sl (rtab 0) n ρ),.c .nils,.c (.fn (.func 163) [] [])]
theorem t181_0 (ρ:Val):(t181 0 ρ).sel = some (.one (.c (.bool true))):=by kernel_rfl
theorem t181_1 (n:Nat) (ρ:Val):(t181 (n + 1) ρ).sel = some (.one (.c (.bool false))):=by kernel_rfl
def G181:List A1 → Option (Bool × AV)
 | [.c (.sl es n _),.c .nils,.c (.fn (.func 163) [] [])] => if shEq.shsEq es (rtab 0) then some (true,.one (.c (.bool (Nat.beq n 0)))) else none
 | _ => none
theorem G181_some {args:List A1} {r:AV} (h:G181 args = some (true,r)):∃ n ρ,args = [.c (.sl (rtab 0) n ρ),.c .nils,.c (.fn (.func 163) [] [])] ∧ r = .one (.c (.bool (Nat.beq n 0))):=by
 unfold G181 at h
 split at h
 ·rename_i es n ρ
  split at h
  ·rename_i hs
   simp only [Option.some.injEq,Prod.mk.injEq,true_and] at h
   exact ⟨n,ρ,by rw [shsEq_eq hs],h.symm⟩
  ·cases h
 ·cases h
theorem t181_sel (n:Nat) (ρ:Val):(t181 n ρ).sel = some (.one (.c (.bool (Nat.beq n 0)))):=by
 cases n with
 | zero => exact t181_0 ρ
 | succ n => exact t181_1 n ρ
theorem u181 {args:List A1} {r:AV} (h:G181 args = some (true,r)):(hcTreeP Tryz.prog h00 X01 10 181 args).All (fun x => leA x r):=by
 obtain ⟨n,ρ,e1,e2⟩:=G181_some h
 have hs:=t181_sel n ρ
 unfold t181 at hs
 rw [← e1,← e2] at hs
 exact sel_all hs leA.refl
theorem p181:UcOne Tryz.prog 181 (nG G181):=by
 refine ucOneP_of_all (H:=h00) (X:=X01) HdOk.nil XOk.nil 10 181 ?_
 intro args r h
 exact u181 h
def emptyX (e:RX):Bool:=bif bif strEq e.op (bs []) then e.v == 0 else false then Nat.beq e.n 0 else false
noncomputable abbrev H163:Hd:=⟨[],[(181,nG G181)],[],[]⟩
theorem h163:HdOk Tryz.prog H163:=HdOk.nil.ucCons p181
def G163:List A1 → Option (Bool × AV)
 | [.agg cs,.agg ds] => match expC cs,ds with
  | some e,[.str z,.int .i64 zz,.nils] => if strEq z (bs []) && decide (zz = 0) then some (true,.one (.c (.bool (emptyX e)))) else none
  | _,_ => none
 | _ => none
def t163 (e:RX):Tree AV :=
 let c:=bif strEq e.op (bs []) then e.v == 0 else false
 .need (!((c == true) && true) || true) (.leaf (.one (.c (.bool (emptyX e)))))
theorem t163_eq (e:RX):hcTree Tryz.prog H163 10 163 [.agg e.cells,.agg [.str (bs []),.int .i64 0,.nils]] = t163 e:=by kernel_rfl
theorem G163_some {args:List A1} {r:AV} (h:G163 args = some (true,r)):∃ e:RX,args = [.agg e.cells,.agg [.str (bs []),.int .i64 0,.nils]] ∧ r = .one (.c (.bool (emptyX e))):=by
 unfold G163 at h
 split at h
 ·split at h
  ·rename_i cs ds e z zz he
   split at h
   ·rename_i hc
    simp only [Bool.and_eq_true,decide_eq_true_eq] at hc
    simp only [Option.some.injEq,Prod.mk.injEq,true_and] at h
    rw [expC_some he,strEq_eq hc.1,hc.2]
    exact ⟨e,rfl,h.symm⟩
   ·cases h
  ·cases h
 ·cases h
theorem u163 {args:List A1} {r:AV} (h:G163 args = some (true,r)):(hcTree Tryz.prog H163 10 163 args).All (fun x => leA x r):=by
 obtain ⟨e,e1,e2⟩:=G163_some h
 rw [e1,e2,t163_eq]
 refine ⟨?_,leA.refl⟩
 simp
theorem p163:UcOne Tryz.prog 163 (nG G163):=by
 refine ucOne_of_all (H:=H163) h163 10 163 ?_
 intro args r h
 exact u163 h
def stmC:List CV → Option RS
 | [.str kd, .sl [.str] wn wr, .str o, .int .i64 v, .sl es n ρ, .sl es1 bn br, .sl es2 en er, .int .i64 a] =>
   if shEq.shsEq es (rtab 0) && shEq.shsEq es1 (rtab 1) && shEq.shsEq es2 (rtab 1) then some ⟨kd,wn,wr,⟨o,v,n,ρ⟩,bn,br,en,er,a⟩ else none
 | _ => none
theorem stmC_some {cs:List CV} {s:RS} (h:stmC cs = some s):cs = s.cells:=by
 unfold stmC at h
 split at h
 ·split at h
  ·rename_i hc
   simp only [Bool.and_eq_true] at hc
   cases h
   rw [shsEq_eq hc.1.1,shsEq_eq hc.1.2,shsEq_eq hc.2]
   rfl
  ·cases h
 ·cases h
noncomputable abbrev H134:Hd:=⟨[],[(163,nG G163),(164,nG G164),(127,nG G127)],[],[]⟩
theorem h134:HdOk Tryz.prog H134:=((HdOk.nil.ucCons p127).ucCons p164).ucCons p163
def fldD (s:RS):Bool :=
 bif strEq s.kind wDo then obD (isOpS s.wn s.wρ) else bif strEq s.kind wIf then true else bif strEq s.kind wRepeat then true else bif strEq s.kind wRequire then true
  else bif strEq s.kind wSay then (!((lt 0 (toInt64 s.wn) == true) && true) || ooD (badW s.wn s.wρ)) else true
def fldV (s:RS):Bool :=
 bif strEq s.kind wDo then (bif bif obV (isOpS s.wn s.wρ) then emptyX s.cond else false then toInt64 s.en == 0 else false)
 else bif strEq s.kind wIf then toInt64 s.wn == 0
 else bif strEq s.kind wRepeat then (bif bif bif toInt64 s.wn == 0 then toInt64 s.en == 0 else false then strEq s.cond.op wNum else false then le s.cond.v 99 else false)
 else bif strEq s.kind wRequire then (bif bif toInt64 s.wn == 0 then toInt64 s.bn == 0 else false then toInt64 s.en == 0 else false)
 else bif strEq s.kind wSay then (bif bif bif bif lt 0 (toInt64 s.wn) then !badO (badW s.wn s.wρ) else false then emptyX s.cond else false then toInt64 s.bn == 0 else false then toInt64 s.en == 0 else false)
 else false
def G134:List A1 → Option (Bool × AV)
 | [.agg cs] => match stmC cs with
  | some s => some (fldD s,.one (.c (.bool (fldV s))))
  | none => none
 | _ => none
def t134 (s:RS):Tree AV :=
 let L:=fun b:Bool => Tree.leaf (AV.one (.c (.bool b)))
 .need true (.br (strEq s.kind wDo) (.need (obD (isOpS s.wn s.wρ)) (L (bif bif obV (isOpS s.wn s.wρ) then emptyX s.cond else false then toInt64 s.en == 0 else false)))
  (.br (strEq s.kind wIf) (L (toInt64 s.wn == 0))
  (.br (strEq s.kind wRepeat) (L (bif bif bif toInt64 s.wn == 0 then toInt64 s.en == 0 else false then strEq s.cond.op wNum else false then le s.cond.v 99 else false))
  (.br (strEq s.kind wRequire) (L (bif bif toInt64 s.wn == 0 then toInt64 s.bn == 0 else false then toInt64 s.en == 0 else false))
  (.br (strEq s.kind wSay) (.need (!((lt 0 (toInt64 s.wn) == true) && true) || ooD (badW s.wn s.wρ)) (L (bif bif bif bif lt 0 (toInt64 s.wn) then !badO (badW s.wn s.wρ) else false then emptyX s.cond else false then toInt64 s.bn == 0 else false then toInt64 s.en == 0 else false)))
  (L false))))))
theorem t134_eq (s:RS):hcTree Tryz.prog H134 10 134 [.agg s.cells] = t134 s:=by kernel_rfl
theorem t134_all (s:RS) (h:fldD s = true):(t134 s).All (fun x => leA x (.one (.c (.bool (fldV s))))):=by
 unfold t134
 unfold fldD at h
 unfold fldV
 revert h
 cases strEq s.kind wDo with
 | true => exact fun h => ⟨rfl,(fun _ => ⟨h,leA.refl⟩),(fun h => by cases h)⟩
 | false =>
 cases strEq s.kind wIf with
 | true => exact fun _ => sel_all rfl leA.refl
 | false =>
 cases strEq s.kind wRepeat with
 | true => exact fun _ => sel_all rfl leA.refl
 | false =>
 cases strEq s.kind wRequire with
 | true => exact fun _ => sel_all rfl leA.refl
 | false =>
 cases strEq s.kind wSay with
 | true => exact fun h => ⟨rfl,(fun h => by cases h),fun _ => ⟨(fun h => by cases h),fun _ => ⟨(fun h => by cases h),fun _ => ⟨(fun h => by cases h),fun _ => ⟨(fun _ => ⟨h,leA.refl⟩),(fun h => by cases h)⟩⟩⟩⟩⟩
 | false => exact fun _ => sel_all rfl leA.refl
theorem G134_some {args:List A1} {r:AV} (h:G134 args = some (true,r)):∃ s:RS,args = [.agg s.cells] ∧ fldD s = true ∧ r = .one (.c (.bool (fldV s))):=by
 unfold G134 at h
 split at h
 ·split at h
  ·rename_i cs s hs
   simp only [Option.some.injEq,Prod.mk.injEq] at h
   exact ⟨s,by rw [stmC_some hs],h.1,h.2.symm⟩
  ·cases h
 ·cases h
theorem u134 {args:List A1} {r:AV} (h:G134 args = some (true,r)):(hcTree Tryz.prog H134 10 134 args).All (fun x => leA x r):=by
 obtain ⟨s,e1,h1,e2⟩:=G134_some h
 rw [e1,e2,t134_eq]
 exact t134_all s h1
theorem p134:UcOne Tryz.prog 134 (nG G134):=by
 refine ucOne_of_all (H:=H134) h134 10 134 ?_
 intro args r h
 exact u134 h
end Go.Proofs.YtiefjlcakpdfeaaGreat
