/-
 Part SpZC of the proof: RcL RcM RcN RdA RdB RdC RdD EngFo RdE RdF RdI RpB.
-/
import Derived.Test.YtiefjlcakpdfeaaGreatSpZB
import Derived.Test.YtiefjlcakpdfeaaGreatSpY
import Derived.Test.YtiefjlcakpdfeaaGreatSpX
import Derived.Lib.IndexLaws
namespace Go.Proofs.YtiefjlcakpdfeaaGreat
open Go Go.Sx Go.RowKit Rb
set_option maxRecDepth 100000
structure DBk where
 e:Int
 a:Int
 kn:Nat
 kρ:Val
 x:RU
abbrev CBk:=DBk × Int
def anysN:Nat → List CV
 | 0 => []
 | n + 1 => .any :: anysN n
def lpC (e a:Int):List CV:=[.any,.any,.any,.any,.any,.any,.any,.any,.any,.any,.any,.any,.ptr 2 0,.int .i64 e,.int .i64 a] ++ anysN 61
def memB (d:DBk):Mem:=[some (25,[.any,.any]),some (102,[.sl Ro.siSh d.x.sn d.x.sρ,.sl [.int .i64] d.x.cn d.x.cρ,.os 10 1,.any,.bool true,.int .i64 d.x.bg,.int .i64 d.x.at_]),some (98,[.ptr 1 0]),none,none,none,none,
 some (23,[.row false [.rt 1] d.kn d.kρ]),some (100,[.os 7 1]),some (0,.lp 15 0 .ready :: lpC d.e d.a),some (9,[.row false [.str] d.x.pn d.x.pρ])]
def SB9 (c:CBk):St:=mkS 19 [(0,.one (.c (.yld 9))),(1,.one (.c (.ptr 8 0))),(3,.one (.c (.int .i64 c.2)))] (memB c.1)
def EB9 (d:DBk):St:=mkS 19 [] (memB d)
def lpE:List CV → Option (Int × Int)
 | _ :: _ :: _ :: _ :: _ :: _ :: _ :: _ :: _ :: _ :: _ :: _ :: .ptr 2 0 :: .int .i64 e :: .int .i64 a :: r => if Nat.beq r.length 61 then some (e,a) else none
 | _ => none
def flat2 (cs:List CV):Bool:=cs.all closedC && Nat.beq cs.length 2 && !isRowL cs
def getMB:Mem → Option DBk
 | [some (25, c25), some (102, [c0, c1, .os 10 1, _, .bool true, .int .i64 bg, .int .i64 at_]), some (98, [.ptr 1 0]), none, none, none, none, some (23, [.row false [.rt 1] kn kρ]), some (100, [.os 7 1]), some (0, .lp 15 0 .ready :: cells), some (9, [.row false [.str] pn pρ])] =>
   if flat2 c25 then (match plC Ro.siSh c0,plC [.int .i64] c1,lpE cells with
    | some (sn,sρ),some (cn,cρ),some (e,a) => some ⟨e,a,kn,kρ,⟨sn,sρ,cn,cρ,pn,pρ,0,.zero,bg,at_⟩⟩
    | _,_,_ => none) else none
 | _ => none
theorem getMB_some {m : Mem} {d : DBk} (h : getMB m = some d) : ∃ c25 c0 c1 c3 cells, flat2 c25 = true ∧ plC Ro.siSh c0 = some (d.x.sn, d.x.sρ) ∧ plC [.int .i64] c1 = some (d.x.cn, d.x.cρ) ∧ lpE cells = some (d.e, d.a) ∧
  m = [some (25,c25),some (102,[c0,c1,.os 10 1,c3,.bool true,.int .i64 d.x.bg,.int .i64 d.x.at_]),some (98,[.ptr 1 0]),none,none,none,none,some (23,[.row false [.rt 1] d.kn d.kρ]),some (100,[.os 7 1]),some (0,.lp 15 0 .ready :: cells),some (9,[.row false [.str] d.x.pn d.x.pρ])]:=by
 unfold getMB at h
 split at h
 ·split at h
  ·rename_i hf
   split at h
   ·rename_i h0 h1 h2
    cases h
    exact ⟨_,_,_,_,_,hf,h0,h1,h2,rfl⟩
   ·cases h
  ·cases h
 ·cases h
theorem anysN_nth:∀ {n j:Nat} {d:CV},nth (anysN n) j = some d → isAny d = true
 | 0,_,_,h => by simp [anysN,nth] at h
 | n + 1,0,d,h => by simp only [anysN,nth,Option.some.injEq] at h; subst h; rfl
 | n + 1,j + 1,d,h => anysN_nth (n:=n) (j:=j) h
theorem lpC_wk {cells:List CV} {e a:Int} (h:lpE cells = some (e,a)):(lpC e a).length = cells.length ∧ ∀ j d,nth (lpC e a) j = some d → isAny d = true ∨ nth cells j = some d:=by
 unfold lpE at h
 split at h
 ·split at h
  ·rename_i r hr
   have hr:=Nat.eq_of_beq_eq_true hr
   cases h
   refine ⟨by simp [lpC,anysN,hr],fun j d hj => ?_⟩
   match j,hj with
   | 0,hj => cases hj; exact .inl rfl
   | 1,hj => cases hj; exact .inl rfl
   | 2,hj => cases hj; exact .inl rfl
   | 3,hj => cases hj; exact .inl rfl
   | 4,hj => cases hj; exact .inl rfl
   | 5,hj => cases hj; exact .inl rfl
   | 6,hj => cases hj; exact .inl rfl
   | 7,hj => cases hj; exact .inl rfl
   | 8,hj => cases hj; exact .inl rfl
   | 9,hj => cases hj; exact .inl rfl
   | 10,hj => cases hj; exact .inl rfl
   | 11,hj => cases hj; exact .inl rfl
   | 12,hj => cases hj; exact .inr rfl
   | 13,hj => cases hj; exact .inr rfl
   | 14,hj => cases hj; exact .inr rfl
   | j + 15,hj => exact .inl (anysN_nth (n:=61) (j:=j) hj)
  ·cases h
 ·cases h
theorem flat2_le {cs:List CV} (h:flat2 cs = true):cs.all closedC = true ∧ isRowL cs = false ∧ LeL cs [.any,.any]:=by
 simp only [flat2,Bool.and_eq_true,Bool.not_eq_true'] at h
 obtain ⟨⟨h1,h2⟩,h3⟩:=h
 have h2:=Nat.eq_of_beq_eq_true h2
 refine ⟨h1,h3,?_⟩
 match cs,h2 with
 | [a,b],_ => exact .cons leC_any (.cons leC_any .nil)
theorem getMB_ok {m:Mem} {d:DBk} (h:getMB m = some d) (P:Program) (F:Nat → Prop) (w:World) (bs:List BI) (hm:MemRel P F w bs m):MemRel P F w bs (memB d):=by
 obtain ⟨c25,c0,c1,c3,cells,hf,h0,h1,h2,rfl⟩:=getMB_some h
 obtain ⟨a1,a2,a3⟩:=flat2_le hf
 have k1:=hm.cellsTo (b:=1) (T:=102) rfl (plC_row h0 _) (ds:=[.sl Ro.siSh d.x.sn d.x.sρ,.sl [.int .i64] d.x.cn d.x.cρ,.os 10 1,.any,.bool true,.int .i64 d.x.bg,.int .i64 d.x.at_]) rfl fun _ _ _ _ h => (cells2 (fun _ hv => plC_ok h0 hv) (fun _ hv => plC_ok h1 hv) h).setAny 3
 have k2:=mem_wk (b:=0) rfl a2 a1 a3 rfl rfl P F w bs k1
 obtain ⟨b1,b2⟩:=lpC_wk h2
 exact k2.lpWk (b:=9) rfl b1 b2
def getB9 (l:List (Nat × AV)) (m:Mem):Option CBk:=match l with
 | [(0,.one (.c (.yld 9))),(1,.one (.c (.ptr 8 0))),(3,.one (.c (.int .i64 i)))] => (match getMB m with
  | some d => some (d,i)
  | none => none)
 | _ => none
def getBE (l:List (Nat × AV)) (m:Mem):Option DBk:=match l with
 | [] => getMB m
 | _ => none
theorem getB9_ok:∀ l m c,getB9 l m = some c → StWk (mkS 19 l m) (SB9 c):=by
 intro l m c h
 unfold getB9 at h
 split at h
 ·split at h
  ·rename_i hd
   cases h
   exact mkS_wk LeSl.refl (getMB_ok hd)
  ·cases h
 ·cases h
theorem getBE_ok:∀ l m c,getBE l m = some c → StWk (mkS 19 l m) (EB9 c):=by
 intro l m c h
 unfold getBE at h
 split at h
 ·exact mkS_wk LeSl.refl (getMB_ok h)
 ·cases h
def AB9:Sx.Frame CBk DBk:=⟨10,19,[0,1,3],getB9,SB9,[],getBE,EB9⟩
theorem aB9:AB9.Ok:=⟨getB9_ok,getBE_ok⟩
def r109 (B:BF) (g:CBk → Tree (XE × DBk)) (c:CBk):Tree (XE × DBk) :=
 let o:=B true (blkN c.1.kρ c.2) (blkD c.1.kρ c.2) (nk true c.1.x)
 let y:=ov1 (0,rU0) o
 let d:DBk:={ c.1 with x:=nk true y.2 }
 .br (le 0 c.2) (.need (inRange c.2 c.1.kn) (.need (os1 o) (.br (!true) (.leaf (.ret,d)) (g (d,IntKind.wrap .i64 (c.2 - 1)))))) (.leaf (.exit 0,{ c.1 with x:=nk true c.1.x }))
theorem r109_eq (C:ChF) (B:BF) (g:CBk → Tree (XE × DBk)) (c:CBk):roundL AB9 Tryz.prog (H15 C B) 10 109 0 g c = r109 B g c:=by kernel_rfl
def undoS (B:BF) (kn:Nat) (kρ:Val):Nat → Int → RU → Option RU
 | 0,_,_ => none
 | k + 1,i,x => bif le 0 i then nd (inRange i kn) ((B true (blkN kρ i) (blkD kρ i) (nk true x)).bind fun y => undoS B kn kρ k (IntKind.wrap .i64 (i - 1)) (nk true y.2)) else some (nk true x)
def gB9 (B:BF) (k:Nat) (c:CBk):Tree (XE × DBk) :=
 let o:=undoS B c.1.kn c.1.kρ k c.2 c.1.x
 .need (os1 o) (.leaf (.exit 0,{ c.1 with x:=ov1 rU0 o }))
theorem gB9_sel (B:BF) (k:Nat) (c:CBk):(gB9 B k c).sel = (undoS B c.1.kn c.1.kρ k c.2 c.1.x).bind fun x => some (.exit 0,{ c.1 with x:=x }):=by
 unfold gB9
 cases undoS B c.1.kn c.1.kρ k c.2 c.1.x <;> rfl
theorem stepB9 (C:ChF) (B:BF) (k:Nat) (c:CBk) (x:XE × DBk) (h:(gB9 B (k + 1) c).sel = some x):(roundL AB9 Tryz.prog (H15 C B) 10 109 0 (gB9 B k) c).sel = some x:=by
 rw [r109_eq]
 rw [gB9_sel] at h
 unfold undoS at h
 unfold r109
 simp only [sel_br,sel_need,sel_leaf,gB9_sel]
 revert h
 cases le 0 c.2 with
 | false => exact fun h => h
 | true =>
 cases inRange c.2 c.1.kn with
 | false => exact fun h => h
 | true =>
 simp only [nd,cond_true]
 cases B true (blkN c.1.kρ c.2) (blkD c.1.kρ c.2) (nk true c.1.x) with
 | none => exact fun h => h
 | some y => exact fun h => h
theorem coreB9 {C:ChF} (hC:UcOne Tryz.prog 29 (nG (G29 C))) {B:BF} (hB:McOne Tryz.prog 52 (clG2 (u52 B))):∀ k,LCore Tryz.prog 109 0 10 SB9 EB9 (gB9 B k) :=
 LCore.fuel (A:=AB9) aB9 (h15 hC hB) 10 (fun _ => rfl) (stepB9 C B)
def gB91 (B:BF) (c:CBk):Tree (XE × DBk):=gB9 B (c.1.kn + 1) c
theorem coreB91 {C:ChF} (hC:UcOne Tryz.prog 29 (nG (G29 C))) {B:BF} (hB:McOne Tryz.prog 52 (clG2 (u52 B))):LCore Tryz.prog 109 0 10 SB9 EB9 (gB91 B):=fun fn c b h1 h2 h3 c0 x hx => coreB9 hC hB _ fn c b h1 h2 h3 c0 x hx
def LB9 (B:BF):Nat → St → Tree (XE × St):=moveH 1 2 (loopE AB9 (gB91 B))
noncomputable abbrev HR (C:ChF) (B:BF):Hd:=⟨[],[(29,nG (G29 C)),(51,nG G51u)],[((109,0),LB9 B)],[(52,clG2 (u52 B))]⟩
theorem hR {C:ChF} (hC:UcOne Tryz.prog 29 (nG (G29 C))) {B:BF} (hB:McOne Tryz.prog 52 (clG2 (u52 B))):HdOk Tryz.prog (HR C B) :=
 HdOk.lhCons (h15 hC hB) fun fn c b h1 h2 h3 => moveH_ok 1 2 (LCore.ok (A:=AB9) aB9 (coreB91 hC hB) fn c b h1 h2 h3)
structure RunR where
 sn:Nat
 sρ:Val
 pn:Nat
 pρ:Val
 a:Int
 e:Int
def rr0:RunR:=⟨0,.zero,0,.zero,0,0⟩
def encRun (x:RunR):AV:=.tup [.c (.sl Ro.siSh x.sn x.sρ),.c (.sl [.str] x.pn x.pρ),.c (.int .i64 x.a),.c (.int .i64 x.e)]
abbrev RunF:=ByteArray → Nat → Val → Nat → Val → Nat → Val → Option RunR
def iniR (n:Nat) (ρ:Val) (q:Nat) (τ:Val):RU:=⟨n,ρ,q,τ,0,.zero,0,.zero,0,0⟩
def undoing (x:RU):RU:=⟨x.sn,x.sρ,x.cn,x.cρ,x.pn,x.pρ,0,.zero,0,x.at_⟩
def runS (C:ChF) (B:BF):RunF:=fun name m κ n ρ q τ =>
 (C name m κ n ρ).bind fun c => bif c.2 != 0 then some ⟨0,.zero,0,.zero,c.1,c.2⟩ else nd (smallB n ρ) ((B false m κ (iniR n ρ q τ)).bind fun y =>
  bif y.1 == 0 then some ⟨y.2.sn,y.2.sρ,y.2.pn,y.2.pρ,0,0⟩ else (undoS B y.2.kn y.2.kρ (y.2.kn + 1) (IntKind.wrap .i64 (toInt64 y.2.kn - 1)) (undoing y.2)).bind fun z => some ⟨z.sn,z.sρ,z.pn,z.pρ,y.2.at_,y.1⟩)
def t15 (C:ChF) (B:BF) (name:ByteArray) (m:Nat) (κ:Val) (n:Nat) (ρ:Val) (q:Nat) (τ:Val):Tree AV :=
 let c:=C name m κ n ρ
 let cv:=ov1 (0,0) c
 let b:=B false m κ (iniR n ρ q τ)
 let y:=ov1 (0,rU0) b
 let z:=undoS B y.2.kn y.2.kρ (y.2.kn + 1) (IntKind.wrap .i64 (toInt64 y.2.kn - 1)) (undoing y.2)
 let zv:=ov1 rU0 z
 .need (os1 c) (.br (cv.2 != 0) (.leaf (.tup [.c .nils,.c .nils,.c (.int .i64 cv.1),.c (.int .i64 cv.2)])) (.need (smallB n ρ) (.need (os1 b)
  (.br (y.1 == 0) (.leaf (encRun ⟨y.2.sn,y.2.sρ,y.2.pn,y.2.pρ,0,0⟩)) (.need (os1 z) (.leaf (encRun ⟨zv.sn,zv.sρ,zv.pn,zv.pρ,y.2.at_,y.1⟩)))))))
theorem t15_eq (C : ChF) (B : BF) (name : ByteArray) (m : Nat) (κ : Val) (n : Nat) (ρ : Val) (q : Nat) (τ : Val) :
  hcTree Tryz.prog (HR C B) 10 15 [.agg [.str name,.sl (rtab 1) m κ],.c (.sl Ro.siSh n ρ),.c (.sl [.int .i64] q τ)] = t15 C B name m κ n ρ q τ:=by kernel_rfl
theorem t15_eqn (C : ChF) (B : BF) (name : ByteArray) (m : Nat) (κ : Val) (n : Nat) (ρ : Val) :
  hcTree Tryz.prog (HR C B) 10 15 [.agg [.str name,.sl (rtab 1) m κ],.c (.sl Ro.siSh n ρ),.c .nils] = t15 C B name m κ n ρ 0 .zero:=by kernel_rfl
theorem nil2_le {a e:Int}:leA (.tup [.c .nils,.c .nils,.c (.int .i64 a),.c (.int .i64 e)]) (encRun ⟨0,.zero,0,.zero,a,e⟩) :=
 leA_tup (.cons (.c fun _ _ _ h => by cases h; exact .slnil) (.cons (.c fun _ _ _ h => by cases h; exact .slnil) (.cons (.c leC.refl) (.cons (.c leC.refl) .nil))))
theorem t15_say (C:ChF) (B:BF) (name:ByteArray) (m:Nat) (κ:Val) (n:Nat) (ρ:Val) (q:Nat) (τ:Val):Sy encRun (t15 C B name m κ n ρ q τ) (runS C B name m κ n ρ q τ):=by
 unfold t15 runS
 cases C name m κ n ρ with
 | none => exact trivial
 | some c =>
 simp only [os1,ov1,Option.bind]
 refine Sy.need rfl (Sy.cond (fun _ => Sy.ret' nil2_le) fun _ => Sy.nd id fun _ => ?_)
 cases B false m κ (iniR n ρ q τ) with
 | none => exact trivial
 | some y =>
 simp only
 refine Sy.need rfl (Sy.cond (fun _ => Sy.ret) fun _ => ?_)
 cases undoS B y.2.kn y.2.kρ (y.2.kn + 1) (IntKind.wrap .i64 (toInt64 y.2.kn - 1)) (undoing y.2) with
 | none => exact trivial
 | some z => exact Sy.need rfl Sy.ret
def G15 (R:RunF):List A1 → Option (Bool × AV)
 | [.agg [.str name,.sl es' m κ],.c (.sl es n ρ),c] => if shEq.shsEq es' (rtab 1) && shEq.shsEq es Ro.siSh then (match c with
  | .c (.sl [.int .i64] q τ) => some (os1 (R name m κ n ρ q τ),encRun (ov1 rr0 (R name m κ n ρ q τ)))
  | .c .nils => some (os1 (R name m κ n ρ 0 .zero),encRun (ov1 rr0 (R name m κ n ρ 0 .zero)))
  | _ => none) else none
 | _ => none
theorem p15 {C:ChF} (hC:UcOne Tryz.prog 29 (nG (G29 C))) {B:BF} (hB:McOne Tryz.prog 52 (clG2 (u52 B))):UcOne Tryz.prog 15 (nG (G15 (runS C B))):=by
 refine ucOne_of_tree (H:=HR C B) (hR hC hB) 10 15 ?_
 intro args r h
 unfold G15 at h
 split at h
 ·rename_i name es' m κ es n ρ c
  split at h
  ·rename_i hs
   rw [Bool.and_eq_true] at hs
   rw [shsEq_eq hs.1,shsEq_eq hs.2]
   split at h
   ·rename_i q τ
    simp only [Option.some.injEq,Prod.mk.injEq] at h
    refine ⟨_,t15_eq C B name m κ n ρ q τ,?_⟩
    have:=t15_say C B name m κ n ρ q τ
    cases hr:runS C B name m κ n ρ q τ with
    | none => rw [hr] at h; cases h.1
    | some x => rw [hr] at h this; rw [← h.2]; exact this
   ·simp only [Option.some.injEq,Prod.mk.injEq] at h
    refine ⟨_,t15_eqn C B name m κ n ρ,?_⟩
    have:=t15_say C B name m κ n ρ 0 .zero
    cases hr:runS C B name m κ n ρ 0 .zero with
    | none => rw [hr] at h; cases h.1
    | some x => rw [hr] at h this; rw [← h.2]; exact this
   ·cases h
  ·cases h
 ·cases h
def eqWL (n:Nat) (ρ:Val) (m:Nat) (σ:Val) (l:Int):Nat → Int → Option Bool
 | 0,_ => none
 | k + 1,i => bif lt i l then nd (inRange i n) (nd (inRange i m) (bif !strEq (wd ρ i.toNat) (wd σ i.toNat) then some false else eqWL n ρ m σ l k (IntKind.wrap .i64 (i + 1)))) else some true
def eqWS (n:Nat) (ρ:Val) (m:Nat) (σ:Val):Option Bool:=bif toInt64 n != toInt64 m then some false else eqWL n ρ m σ (toInt64 n) (n + 1) 0
def G16:List A1 → Option (Bool × AV)
 | [.c (.sl [.str] n ρ),.c (.sl [.str] m σ)] => some (os1 (eqWS n ρ m σ),encBo (ov1 false (eqWS n ρ m σ)))
 | _ => none
structure C16 where
 n:Nat
 ρ:Val
 m:Nat
 σ:Val
 l:Int
 i:Int
def eB (b:Bool):St:=mkS 26 [(4,.one (.c (.bool b)))] []
def getB16:List (Nat × AV) → Mem → Option Bool
 | [(4,.one (.c (.bool b)))],[] => some b
 | _,_ => none
theorem getB16_ok:∀ l m c,getB16 l m = some c → mkS 26 l m = eB c:=by
 intro l m c h
 unfold getB16 at h
 split at h
 ·cases h; rfl
 ·cases h
def S16b (c:C16 × Bool):St:=mkS 26 [(0,.one (.c (.sl [.str] c.1.n c.1.ρ))),(1,.one (.c (.sl [.str] c.1.m c.1.σ))),(4,.one (.c (.bool c.2))),(12,.one (.c (.int .i64 c.1.l))),(13,.one (.c (.int .i64 c.1.i)))] []
def get16b:List (Nat × AV) → Mem → Option (C16 × Bool)
 | [(0,.one (.c (.sl [.str] n ρ))),(1,.one (.c (.sl [.str] m σ))),(4,.one (.c (.bool b))),(12,.one (.c (.int .i64 l))),(13,.one (.c (.int .i64 i)))],[] => some (⟨n,ρ,m,σ,l,i⟩,b)
 | _,_ => none
theorem get16b_ok:∀ l m c,get16b l m = some c → mkS 26 l m = S16b c:=by
 intro l m c h
 unfold get16b at h
 split at h
 ·cases h; rfl
 ·cases h
def A16:Sx.Frame (C16 × Bool) Bool:=⟨0,26,[0,1,4,12,13],get16b,S16b,[4],getB16,eB⟩
theorem a16:A16.Ok:=.of_eq get16b_ok getB16_ok
def r16 (g:C16 × Bool → Tree (XP × Bool)) (c:C16 × Bool):Tree (XP × Bool) :=
 .br (lt c.1.i c.1.l) (.need (inRange c.1.i c.1.n) (.need (inRange c.1.i c.1.m) (.br (!strEq (wd c.1.ρ c.1.i.toNat) (wd c.1.σ c.1.i.toNat)) (.leaf (.ret,false)) (g ({ c.1 with i:=IntKind.wrap .i64 (c.1.i + 1) },c.2))))) (.leaf (.exit 0,c.2))
theorem r16_eq (g:C16 × Bool → Tree (XP × Bool)) (c:C16 × Bool):roundC A16 Tryz.prog h00 Go.Proofs.YtiefjlcakpdfeaaGreat.X0 10 16 0 g c = r16 g c:=by kernel_rfl
def g16 (k:Nat) (c:C16 × Bool):Tree (XP × Bool) :=
 let o:=eqWL c.1.n c.1.ρ c.1.m c.1.σ c.1.l k c.1.i
 .need (os1 o) (.br (ov1 false o) (.leaf (.exit 0,c.2)) (.leaf (.ret,false)))
theorem g16_sel (k:Nat) (c:C16 × Bool):(g16 k c).sel = (eqWL c.1.n c.1.ρ c.1.m c.1.σ c.1.l k c.1.i).bind fun b => some (bif b then (.exit 0,c.2) else (.ret,false)):=by
 unfold g16
 cases eqWL c.1.n c.1.ρ c.1.m c.1.σ c.1.l k c.1.i with
 | none => rfl
 | some b => cases b <;> rfl
theorem step16 (k:Nat) (c:C16 × Bool) (x:XP × Bool) (h:(g16 (k + 1) c).sel = some x):(roundC A16 Tryz.prog h00 Go.Proofs.YtiefjlcakpdfeaaGreat.X0 10 16 0 (g16 k) c).sel = some x:=by
 rw [r16_eq]
 rw [g16_sel] at h
 unfold eqWL at h
 unfold r16
 simp only [sel_br,sel_need,sel_leaf,g16_sel]
 revert h
 cases lt c.1.i c.1.l with
 | false => exact fun h => h
 | true =>
 cases inRange c.1.i c.1.n with
 | false => exact fun h => h
 | true =>
 cases inRange c.1.i c.1.m with
 | false => exact fun h => h
 | true => cases strEq (wd c.1.ρ c.1.i.toNat) (wd c.1.σ c.1.i.toNat) <;> exact fun h => h
theorem core16:∀ k,CoreOk Tryz.prog 16 0 0 S16b eB (g16 k):=CoreOk.fuel (A:=A16) a16 HdOk.nil Go.Proofs.YtiefjlcakpdfeaaGreat.x0 10 (fun _ => rfl) step16
def gg16 (c:C16 × Bool):Tree (XP × Bool):=g16 (c.1.n + 1) c
def X16:HdP:=⟨[],[],[],[((16,0),loopC A16 gg16)],[],0,[]⟩
theorem x16:XOk Tryz.prog X16:=XOk.lxCons XOk.nil (CoreOk.lx (g:=gg16) a16 fun fn c b h1 h2 h3 c0 x hx => core16 _ fn c b h1 h2 h3 c0 x hx)
def t16 (n:Nat) (ρ:Val) (m:Nat) (σ:Val):Tree AV :=
 let o:=eqWL n ρ m σ (toInt64 n) (n + 1) 0
 .br (toInt64 n != toInt64 m) (.leaf (encBo false)) (.need (os1 o) (.br (ov1 false o) (.leaf (encBo true)) (.leaf (encBo false))))
theorem t16_eq (n:Nat) (ρ:Val) (m:Nat) (σ:Val):hcTreeP Tryz.prog h00 X16 10 16 [.c (.sl [.str] n ρ),.c (.sl [.str] m σ)] = t16 n ρ m σ:=by kernel_rfl
theorem t16_say (n:Nat) (ρ:Val) (m:Nat) (σ:Val):Sy encBo (t16 n ρ m σ) (eqWS n ρ m σ):=by
 unfold t16 eqWS
 refine Sy.cond (fun _ => Sy.ret) fun _ => ?_
 cases eqWL n ρ m σ (toInt64 n) (n + 1) 0 with
 | none => exact trivial
 | some b =>
   cases b with
  | true => exact Sy.need rfl (Sy.br1 rfl Sy.ret)
  | false => exact Sy.need rfl (Sy.br0 rfl Sy.ret)
theorem p16:UcOne Tryz.prog 16 (nG G16):=by
 refine ucOneP_of_all (H:=h00) (X:=X16) HdOk.nil x16 10 16 ?_
 intro args r h
 unfold G16 at h
 split at h
 ·rename_i n ρ m σ
  simp only [Option.some.injEq,Prod.mk.injEq] at h
  rw [t16_eq]
  have:=t16_say n ρ m σ
  cases hp:eqWS n ρ m σ with
  | none => rw [hp] at h; cases h.1
  | some x => rw [hp] at h this; rw [← h.2]; exact this
 ·cases h
def samS (a b:Val):Bool :=
 ((((((((a.at 0).N [] == (b.at 0).N [] && (a.at 1).N [] == (b.at 1).N []) && (a.at 2).N [] == (b.at 2).N []) && (a.at 3).N [] == (b.at 3).N []) &&
   Ro.eqL ⟨⟨(a.at 4).L [],a.at 4⟩,⟨(b.at 4).L [],b.at 4⟩⟩) && (a.at 5).N [] == (b.at 5).N []) && (a.at 6).B [] == (b.at 6).B []) && (a.at 7).B [] == (b.at 7).B [])
def fewB (n:Nat):Bool:=Nat.ble n 100000
def samC:A1 → A1 → Option (Bool × Bool)
 | .agg [.int .i64 a, .int .i64 r, .int .i64 e, .int .i64 p, .sl s1 n ρ, .int .i64 s, .bool l, .bool c], .agg [.int .i64 a', .int .i64 r', .int .i64 e', .int .i64 p', .sl s2 k σ, .int .i64 s', .bool l', .bool c'] =>
   if shEq.shsEq s1 Ro.spSh && shEq.shsEq s2 Ro.spSh then some (fewB n,((((((((a == a' && r == r') && e == e') && p == p') && Ro.eqL ⟨⟨n,ρ⟩,⟨k,σ⟩⟩) && s == s') && l == l') && c == c'))) else none
 | _,_ => none
def G20:List A1 → Option (Bool × AV)
 | [x,y] => (match samC x y with
  | some (c,b) => some (c,encBo b)
  | none => none)
 | _ => none
theorem fewB_ok {n:Nat} (h:fewB n = true):dec (Ro.fewN n) = true:=dec_iff.2 (by
 have:=Nat.le_of_ble_eq_true h
 show n ≤ 4611686018427387904
 omega)
theorem p20:TcOne Tryz.prog 20 (nG G20):=TcOne.le Ro.p17 fun args r h => by
 unfold G20 at h
 split at h
 ·rename_i x y
  split at h
  ·rename_i c b hc
   simp only [Option.some.injEq,Prod.mk.injEq] at h
   unfold samC at hc
   split at hc
   ·split at hc
    ·rename_i hs
     rw [Bool.and_eq_true] at hs
     have e1:=shsEq_eq hs.1
     have e2:=shsEq_eq hs.2
     subst e1
     subst e2
     simp only [Option.some.injEq,Prod.mk.injEq] at hc
     have hf:fewB _ = true:=hc.1.trans h.1
     have hd:=fewB_ok hf
     show some (dec _,_) = some (true,r)
     rw [hd,← h.2,← hc.2]
     rfl
    ·cases hc
   ·cases hc
  ·cases h
 ·cases h
def eqSL (n:Nat) (ρ:Val) (m:Nat) (σ:Val) (l:Int):Nat → Int → Option Bool
 | 0,_ => none
 | k + 1,i => bif lt i l then nd (inRange i n) (nd (inRange i m) (nd (fewB (((ρ.at i.toNat).at 4).L [])) (bif !samS (ρ.at i.toNat) (σ.at i.toNat) then some false else eqSL n ρ m σ l k (IntKind.wrap .i64 (i + 1))))) else some true
def eqSS (n:Nat) (ρ:Val) (m:Nat) (σ:Val):Option Bool:=bif toInt64 n != toInt64 m then some false else eqSL n ρ m σ (toInt64 n) (n + 1) 0
def G19:List A1 → Option (Bool × AV)
 | [.c (.sl es n ρ),.c (.sl es' m σ),.c (.fn (.func 20) [] [])] => if shEq.shsEq es Ro.siSh && shEq.shsEq es' Ro.siSh then some (os1 (eqSS n ρ m σ),encBo (ov1 false (eqSS n ρ m σ))) else none
 | _ => none
def S19 (c:C16 × Bool):St:=mkS 32 [(1,.one (.c (.sl Ro.siSh c.1.m c.1.σ))),(2,.one (.c (.fn (.func 20) [] []))),(6,.one (.c (.bool c.2))),(15,.one (.c (.sl Ro.siSh c.1.n c.1.ρ))),(16,.one (.c (.int .i64 c.1.l))),(17,.one (.c (.int .i64 c.1.i)))] []
def get19:List (Nat × AV) → Mem → Option (C16 × Bool)
 | [(1,.one (.c (.sl es m σ))),(2,.one (.c (.fn (.func 20) [] []))),(6,.one (.c (.bool b))),(15,.one (.c (.sl es' n ρ))),(16,.one (.c (.int .i64 l))),(17,.one (.c (.int .i64 i)))],[] => if shEq.shsEq es Ro.siSh && shEq.shsEq es' Ro.siSh then some (⟨n,ρ,m,σ,l,i⟩,b) else none
 | _,_ => none
theorem get19_ok:∀ l m c,get19 l m = some c → mkS 32 l m = S19 c:=by
 intro l m c h
 unfold get19 at h
 split at h
 ·split at h
  ·rename_i hs
   rw [Bool.and_eq_true] at hs
   rw [shsEq_eq hs.1,shsEq_eq hs.2]
   cases h; rfl
  ·cases h
 ·cases h
def eB19 (b:Bool):St:=mkS 32 [(6,.one (.c (.bool b)))] []
def getB19:List (Nat × AV) → Mem → Option Bool
 | [(6,.one (.c (.bool b)))],[] => some b
 | _,_ => none
theorem getB19_ok:∀ l m c,getB19 l m = some c → mkS 32 l m = eB19 c:=by
 intro l m c h
 unfold getB19 at h
 split at h
 ·cases h; rfl
 ·cases h
def A19:Sx.Frame (C16 × Bool) Bool:=⟨0,32,[1,2,6,15,16,17],get19,S19,[6],getB19,eB19⟩
theorem a19:A19.Ok:=.of_eq get19_ok getB19_ok
noncomputable abbrev H19:Hd:=⟨[(20,nG G20)],[],[],[]⟩
theorem h19:HdOk Tryz.prog H19:=HdOk.nil.tcCons p20
def r19 (g:C16 × Bool → Tree (XP × Bool)) (c:C16 × Bool):Tree (XP × Bool) :=
 .br (lt c.1.i c.1.l) (.need (inRange c.1.i c.1.n) (.need (inRange c.1.i c.1.m) (.need (fewB (((c.1.ρ.at c.1.i.toNat).at 4).L [])) (.br (!samS (c.1.ρ.at c.1.i.toNat) (c.1.σ.at c.1.i.toNat)) (.leaf (.ret,false)) (g ({ c.1 with i:=IntKind.wrap .i64 (c.1.i + 1) },c.2)))))) (.leaf (.exit 0,c.2))
theorem r19_eq (g:C16 × Bool → Tree (XP × Bool)) (c:C16 × Bool):roundC A19 Tryz.prog H19 Go.Proofs.YtiefjlcakpdfeaaGreat.X0 10 19 0 g c = r19 g c:=by kernel_rfl
def g19 (k:Nat) (c:C16 × Bool):Tree (XP × Bool) :=
 let o:=eqSL c.1.n c.1.ρ c.1.m c.1.σ c.1.l k c.1.i
 .need (os1 o) (.br (ov1 false o) (.leaf (.exit 0,c.2)) (.leaf (.ret,false)))
theorem g19_sel (k:Nat) (c:C16 × Bool):(g19 k c).sel = (eqSL c.1.n c.1.ρ c.1.m c.1.σ c.1.l k c.1.i).bind fun b => some (bif b then (.exit 0,c.2) else (.ret,false)):=by
 unfold g19
 cases eqSL c.1.n c.1.ρ c.1.m c.1.σ c.1.l k c.1.i with
 | none => rfl
 | some b => cases b <;> rfl
theorem step19 (k:Nat) (c:C16 × Bool) (x:XP × Bool) (h:(g19 (k + 1) c).sel = some x):(roundC A19 Tryz.prog H19 Go.Proofs.YtiefjlcakpdfeaaGreat.X0 10 19 0 (g19 k) c).sel = some x:=by
 rw [r19_eq]
 rw [g19_sel] at h
 unfold eqSL at h
 unfold r19
 simp only [sel_br,sel_need,sel_leaf,g19_sel]
 revert h
 cases lt c.1.i c.1.l with
 | false => exact fun h => h
 | true =>
 cases inRange c.1.i c.1.n with
 | false => exact fun h => h
 | true =>
 cases inRange c.1.i c.1.m with
 | false => exact fun h => h
 | true =>
 cases fewB (((c.1.ρ.at c.1.i.toNat).at 4).L []) with
 | false => exact fun h => h
 | true => cases samS (c.1.ρ.at c.1.i.toNat) (c.1.σ.at c.1.i.toNat) <;> exact fun h => h
theorem core19:∀ k,CoreOk Tryz.prog 19 0 0 S19 eB19 (g19 k):=CoreOk.fuel (A:=A19) a19 h19 Go.Proofs.YtiefjlcakpdfeaaGreat.x0 10 (fun _ => rfl) step19
def gg19 (c:C16 × Bool):Tree (XP × Bool):=g19 (c.1.n + 1) c
def X19:HdP:=⟨[],[],[],[((19,0),loopC A19 gg19)],[],0,[]⟩
theorem x19:XOk Tryz.prog X19:=XOk.lxCons XOk.nil (CoreOk.lx (g:=gg19) a19 fun fn c b h1 h2 h3 c0 x hx => core19 _ fn c b h1 h2 h3 c0 x hx)
def t19 (n:Nat) (ρ:Val) (m:Nat) (σ:Val):Tree AV :=
 let o:=eqSL n ρ m σ (toInt64 n) (n + 1) 0
 .br (toInt64 n != toInt64 m) (.leaf (encBo false)) (.need (os1 o) (.br (ov1 false o) (.leaf (encBo true)) (.leaf (encBo false))))
theorem t19_eq (n:Nat) (ρ:Val) (m:Nat) (σ:Val):hcTreeP Tryz.prog H19 X19 10 19 [.c (.sl Ro.siSh n ρ),.c (.sl Ro.siSh m σ),.c (.fn (.func 20) [] [])] = t19 n ρ m σ:=by kernel_rfl
theorem t19_say (n:Nat) (ρ:Val) (m:Nat) (σ:Val):Sy encBo (t19 n ρ m σ) (eqSS n ρ m σ):=by
 unfold t19 eqSS
 refine Sy.cond (fun _ => Sy.ret) fun _ => ?_
 cases eqSL n ρ m σ (toInt64 n) (n + 1) 0 with
 | none => exact trivial
 | some b =>
   cases b with
  | true => exact Sy.need rfl (Sy.br1 rfl Sy.ret)
  | false => exact Sy.need rfl (Sy.br0 rfl Sy.ret)
theorem G19_some {args:List A1} {r:AV} (h:G19 args = some (true,r)):∃ n ρ m σ x,args = [.c (.sl Ro.siSh n ρ),.c (.sl Ro.siSh m σ),.c (.fn (.func 20) [] [])] ∧ eqSS n ρ m σ = some x ∧ r = encBo x:=by
 unfold G19 at h
 split at h
 ·rename_i es n ρ es' m σ
  cases hs:(shEq.shsEq es Ro.siSh && shEq.shsEq es' Ro.siSh) with
  | false => rw [hs] at h; cases h
  | true =>
    rw [hs,if_pos rfl] at h
    rw [Bool.and_eq_true] at hs
    rw [shsEq_eq hs.1,shsEq_eq hs.2]
    cases hp:eqSS n ρ m σ with
   | none => rw [hp] at h; cases h
   | some x => rw [hp] at h; cases h; exact ⟨n,ρ,m,σ,x,rfl,hp,rfl⟩
 ·cases h
theorem u19 {args:List A1} {r:AV} (h:G19 args = some (true,r)):(hcTreeP Tryz.prog H19 X19 10 19 args).All (fun x => leA x r):=by
 obtain ⟨n,ρ,m,σ,x,e1,h1,e2⟩:=G19_some h
 rw [e1,e2,t19_eq]
 have:=t19_say n ρ m σ
 rw [h1] at this
 exact this
theorem p19:UcOne Tryz.prog 19 (nG G19):=by
 refine ucOneP_of_all (H:=H19) (X:=X19) h19 x19 10 19 ?_
 intro args r h
 exact u19 h
noncomputable abbrev hL00:Hd:=⟨[lK],[],[],[]⟩
theorem hL00_ok:HdOk Tryz.prog hL00:=HdOk.lK HdOk.nil
def linP:Val:=Val.ofFlat 3 [.int .i64 1,.int .i64 1,.int .i64 3]
def pairV:Val:=Val.ofFlat 8 [.int .i64 0,.int .i64 1,.int .i64 1,.int .i64 3,.sl Ro.spSh 1 linP,.int .i64 (-1),.bool true,.bool true,
 .int .i64 1,.int .i64 2,.int .i64 1,.int .i64 3,.sl Ro.spSh 1 linP,.int .i64 0,.bool true,.bool true]
def pairA:AV:=.one (.c (.sl Ro.siSh 2 pairV))
def G28:List A1 → Option (Bool × AV)
 | [] => some (true,pairA)
 | _ => none
theorem t28_eq:hcTree Tryz.prog hL00 10 28 [] = .leaf pairA:=by kernel_rfl
theorem G28_some {args:List A1} {r:AV} (h:G28 args = some (true,r)):args = [] ∧ r = pairA:=by
 unfold G28 at h
 split at h
 ·exact ⟨rfl,(congrArg Prod.snd (Option.some.inj h)).symm⟩
 ·cases h
theorem u28 {args:List A1} {r:AV} (h:G28 args = some (true,r)):∃ u,hcTree Tryz.prog hL00 10 28 args = u ∧ u.All (fun z => leA z r):=by
 obtain ⟨e1,e2⟩:=G28_some h
 rw [e1,e2]
 exact ⟨.leaf pairA,t28_eq,(leA.refl (x:=pairA))⟩
theorem p28:UcOne Tryz.prog 28 (nG G28):=by
 refine ucOne_of_tree (H:=hL00) hL00_ok 10 28 ?_
 intro args r h
 exact u28 h
theorem p144n:UcOne Tryz.prog 144 (nG (G144 fun _ _ _ => none)):=by
 intro args r h
 have h:=nG_sel h
 unfold G144 at h
 split at h
 ·cases h
 ·cases h
def P0:Par:=⟨operateS noFo,evalS 20,fun _ _ _ => none⟩
theorem p0Ok:ParOk P0:=⟨p174,p176 20,p144n⟩
def check0:ChF:=checkS 20 20
def block0:BF:=blockF P0 20
def run0:RunF:=runS check0 block0
theorem p29_0:UcOne Tryz.prog 29 (nG (G29 check0)):=p29 20 20
theorem p15_0:UcOne Tryz.prog 15 (nG (G15 run0)):=p15 p29_0 (m52 p0Ok 20)
noncomputable abbrev H7:Hd:=⟨[],[(8,nG G8F),(15,nG (G15 run0)),(16,nG G16),(19,nG G19),(28,nG G28),(29,nG (G29 check0))],[],[]⟩
theorem h7:HdOk Tryz.prog H7:=(((((HdOk.nil.ucCons p29_0).ucCons p28).ucCons p19).ucCons p16).ucCons p15_0).ucCons (p8F 100 20 20 20 (by decide +kernel))
theorem t7_sel:(hcTree Tryz.prog H7 10 7 []).sel = some (encBo true):=by kernel_rfl
def G7:List A1 → Option (Bool × AV)
 | [] => some (true,encBo true)
 | _ => none
theorem G7_some {args:List A1} {r:AV} (h:G7 args = some (true,r)):args = [] ∧ r = encBo true:=by
 unfold G7 at h
 split at h
 ·exact ⟨rfl,(congrArg Prod.snd (Option.some.inj h)).symm⟩
 ·cases h
theorem u7 {args:List A1} {r:AV} (h:G7 args = some (true,r)):(hcTree Tryz.prog H7 10 7 args).All (fun z => leA z r):=by
 obtain ⟨e1,e2⟩:=G7_some h
 rw [e1,e2]
 exact sel_all t7_sel leA.refl
theorem p7:UcOne Tryz.prog 7 (nG G7):=by
 refine ucOne_of_all (H:=H7) h7 10 7 ?_
 intro args r h
 exact u7 h
def fewO (n:Nat) (ρ:Val):Nat → Nat → Option Bool
 | 0,_ => none
 | f + 1,i => bif (bif lt (i:Int) (toInt64 n) then lt (i:Int) 20 else false) then nd (inRange (i:Int) n) (bif lt 20 (toInt64 (((ρ.at i).at 4).L [])) then some false else fewO n ρ f (i + 1)) else some (le (toInt64 n) 20)
def few12 (n:Nat) (ρ:Val):Option Bool:=bif le (toInt64 n) 8 then fewO n ρ 22 0 else some false
def G12:List A1 → Option (Bool × AV)
 | [.c (.sl es n ρ)] => if shEq.shsEq es Ro.siSh then some (os1 (few12 n ρ),encBo (ov1 false (few12 n ρ))) else none
 | _ => none
structure DT where
 z:ByteArray
 nm:ByteArray
 l:Nat
 lρ:Val
 b:Nat
 bρ:Val
def dT0:DT:=⟨bs [],bs [],0,.zero,0,.zero⟩
def encT (d:DT):AV:=.tup [.agg [.str d.nm,.sl (rtab 1) d.b d.bρ],.c (.sl [.str] d.l d.lρ)]
abbrev TgF:=Nat → Val → Nat → Val → Option DT
def G14 (T:TgF):List A1 → Option (Bool × AV)
 | [.c (.sl es n ρ),.c (.sl [.int .u8,.int .u8] m σ)] => if shEq.shsEq es Ro.siSh then some (os1 (T n ρ m σ),encT (ov1 dT0 (T n ρ m σ))) else none
 | _ => none
structure C4w where
 n:Nat
 ρ:Val
 nm:ByteArray
 b:Nat
 bρ:Val
 sn:Nat
 sρ:Val
 pn:Nat
 pρ:Val
 e:Int
 w:Nat
 wρ:Val
 i:Int
def S4w (x:C4w):St:=mkS 129 [(0,.one (.c (.sl Ro.siSh x.n x.ρ))),(9,.one (.c (.ptr 0 0))),(13,.one (.c (.sl Ro.siSh x.sn x.sρ))),(14,.one (.c (.sl [.str] x.pn x.pρ))),(16,.one (.c (.int .i64 x.e))),(17,.one (.c (.os 1 1))),(18,.one (.c (.int .i64 x.i)))]
 [some (25,[.str x.nm,.sl (rtab 1) x.b x.bρ]),some (9,[.row false [.str] x.w x.wρ])]
def get4w (l:List (Nat × AV)) (m:Mem):Option C4w:=match l,m with
 | [(0, .one (.c (.sl es n ρ))), (9, .one (.c (.ptr 0 0))), (13, .one (.c (.sl es1 sn sρ))), (14, .one (.c (.sl [.str] pn pρ))), (16, .one (.c (.int .i64 e))), (17, .one (.c (.os 1 1))), (18, .one (.c (.int .i64 i)))],
   [some (25,[.str nm,.sl es2 b bρ]),some (9,[.row false [.str] w wρ])] =>
   if (shEq.shsEq es Ro.siSh && shEq.shsEq es1 Ro.siSh) && shEq.shsEq es2 (rtab 1) then some ⟨n,ρ,nm,b,bρ,sn,sρ,pn,pρ,e,w,wρ,i⟩ else none
 | _,_ => none
structure D4w where
 n:Nat
 ρ:Val
 sn:Nat
 sρ:Val
 pn:Nat
 pρ:Val
 e:Int
 w:Nat
 wρ:Val
def S4e (x:D4w):St:=mkS 129 [(0,.one (.c (.sl Ro.siSh x.n x.ρ))),(13,.one (.c (.sl Ro.siSh x.sn x.sρ))),(14,.one (.c (.sl [.str] x.pn x.pρ))),(16,.one (.c (.int .i64 x.e))),(17,.one (.c (.os 0 1)))] [some (9,[.row false [.str] x.w x.wρ])]
def get4e (l:List (Nat × AV)) (m:Mem):Option D4w:=match l,m with
 | [(0, .one (.c (.sl es n ρ))), (13, .one (.c (.sl es1 sn sρ))), (14, .one (.c (.sl [.str] pn pρ))), (16, .one (.c (.int .i64 e))), (17, .one (.c (.os 0 1)))], [some (9, [.row false [.str] w wρ])] =>
   if shEq.shsEq es Ro.siSh && shEq.shsEq es1 Ro.siSh then some ⟨n,ρ,sn,sρ,pn,pρ,e,w,wρ⟩ else none
 | _,_ => none
def AW4:Sx.Frame C4w D4w:=⟨0,129,[0,9,13,14,16,17,18],get4w,S4w,[0,13,14,16,17],get4e,S4e⟩
def end4 (x:C4w) (w:Nat) (wρ:Val):D4w:=⟨x.n,x.ρ,x.sn,x.sρ,x.pn,x.pρ,x.e,w,wρ⟩
def undN (bρ:Val) (i:Int):Nat:=((((bρ.at i.toNat).at 5).at 0).at 1).L []
def undV (bρ:Val) (i:Int):Val:=(((bρ.at i.toNat).at 5).at 0).at 1
def wUndoDo:ByteArray:=bs [117,110,100,111,32,100,111,32]
def undL (bρ:Val) (i:Int):ByteArray:=strCat wUndoDo (joinS (undN bρ i) (undV bρ i) spc)
def wantS (b:Nat) (bρ:Val):Nat → Nat → Val → Int → Option (Nat × Val)
 | 0,_,_,_ => none
 | k + 1, w, wρ, i => bif le 0 i then nd (inRange i b) (nd (inRange 0 (((bρ.at i.toNat).at 5).L [])) (nd (joinC (undN bρ i) (undV bρ i) spc) (nd (Nat.ble (wUndoDo.size + (joinS (undN bρ i) (undV bρ i) spc).size) 9223372036854775807) (nd (Nat.ble ((w + 1) * 16) 140737488355328)
   (wantS b bρ k (w + 1) (Val.cat w wρ (Val.ofFlat 1 [.str (undL bρ i)])) (IntKind.wrap .i64 (i - 1))))))) else some (w,wρ)
def gWn (x:C4w):Tree (XE × D4w) :=
 let o:=wantS x.b x.bρ (x.b + 2) x.w x.wρ x.i
 let y:=ov1 (0,.zero) o
 .need (os1 o) (.leaf (.exit 0,end4 x y.1 y.2))
def LW:Nat → St → Tree (XE × St):=loopE AW4 gWn
noncomputable abbrev H4 (T:TgF) (R:RunF):Hd:=⟨[(12,nG G12),(13,nG G13)],[(7,nG G7),(14,nG (G14 T)),(15,nG (G15 R)),(16,nG G16),(18,nG G18),(19,nG G19)],[((4,0),LW)],[(17,ncG (cloneG 9 [.str] 1 16))]⟩
end Go.Proofs.YtiefjlcakpdfeaaGreat
namespace Go.Sx
open Go Go.RowKit
def Tree.follow {α:Type}:List Bool → Tree α → Option (List (Bool × Bool) × α)
 | [],.leaf a => some ([],a)
 | p,.need c t => match t.follow p with
  | some y => some ((c,true) :: y.1,y.2)
  | none => none
 | d :: p,.br c t e => match (bif d then t.follow p else e.follow p) with
  | some y => some ((c,d) :: y.1,y.2)
  | none => none
 | _,_ => none
theorem follow_sel {α:Type}:∀ {t:Tree α} {p:List Bool} {cs:List (Bool × Bool)} {a:α},t.follow p = some (cs,a) → (∀ x ∈ cs,x.1 = x.2) → t.sel = some a
 | .leaf b, p, cs, a, h, _ => by
   cases p with
  | nil =>
    simp only [Tree.follow,Option.some.injEq,Prod.mk.injEq] at h
    simp only [Tree.sel,h.2]
  | cons d p => simp [Tree.follow] at h
 | .need c t, p, cs, a, h, hc => by
   have h':(match t.follow p with | some y => some ((c,true) :: y.1,y.2) | none => none) = some (cs,a):=by
    cases p <;> exact h
   split at h'
   ·rename_i y hy
    simp only [Option.some.injEq,Prod.mk.injEq] at h'
    obtain ⟨rfl,rfl⟩:=h'
    have h1:c = true:=hc (c,true) (by simp)
    subst h1
    simp only [Tree.sel,cond_true]
    exact follow_sel (cs:=y.1) hy (fun x hx => hc x (by simp [hx]))
   ·cases h'
 | .br c t e, p, cs, a, h, hc => by
   cases p with
  | nil => simp [Tree.follow] at h
  | cons d p =>
    simp only [Tree.follow] at h
    split at h
    ·rename_i y hy
     simp only [Option.some.injEq,Prod.mk.injEq] at h
     obtain ⟨rfl,rfl⟩:=h
     have h1:c = d:=hc (c,d) (by simp)
     subst h1
     simp only [Tree.sel]
     cases c
     ·exact follow_sel (cs:=y.1) hy (fun x hx => hc x (by simp [hx]))
     ·exact follow_sel (cs:=y.1) hy (fun x hx => hc x (by simp [hx]))
    ·cases h
 | .fail,p,cs,a,h,_ => by cases p <;> simp [Tree.follow] at h
def okB (cs:List (Bool × Bool)):Bool:=cs.all fun x => x.1 == x.2
theorem okB_ok {cs:List (Bool × Bool)} (h:okB cs = true):∀ x ∈ cs,x.1 = x.2:=fun x hx => by
 have:=List.all_eq_true.1 h x hx
 simpa using this
theorem follow_all {α:Type} {t:Tree α} {p:List Bool} {cs:List (Bool × Bool)} {a:α} (h:t.follow p = some (cs,a)) (hc:okB cs = true) {Q:α → Prop} (hq:Q a):t.All Q:=by
 have hs:=follow_sel h (okB_ok hc)
 have key:∀ {t:Tree α},t.sel = some a → t.All Q:=by
  intro t
  induction t with
  | leaf b =>
    intro h
    simp only [Tree.sel,Option.some.injEq] at h
    subst h
    exact hq
  | br c t e iht ihe =>
    intro h
    exact ⟨fun hc => iht (by simpa [Tree.sel,hc] using h),fun hc => ihe (by simpa [Tree.sel,hc] using h)⟩
  | need c t ih =>
    intro h
    cases c
    ·simp [Tree.sel] at h
    ·exact ⟨rfl,ih (by simpa [Tree.sel] using h)⟩
  | fail => intro h; simp [Tree.sel] at h
 exact key hs
theorem law_of_follow {P : Program} {H : Hd} (hH : HdOk P H) (n f : Nat) {args : List A1} {p : List Bool} {cs : List (Bool × Bool)} {b : Bool} (hu : (evFn P H n f args []).vals.follow p = some (cs, .one (.c (.bool b)))) (hc : okB cs = true) (hb : b = true) {F : Nat → Prop} {W : World} {vs : List Value}
  (hargs:All2 (A1.Rel F W []) args vs):Calls P f vs.toArray W (fun e W' => e = .returned (.bool true) ∧ Below W.heap.size W W') :=
 law_of_tree hH n f (u:=(evFn P H n f args []).vals) rfl (follow_all hu hc (by rw [hb])) hargs
end Go.Sx
namespace Go.Proofs.YtiefjlcakpdfeaaGreat
open Go Go.Sx Go.RowKit Rb
set_option maxRecDepth 100000
noncomputable abbrev v4 (T:TgF) (R:RunF) (n:Nat) (ρ:Val) (m:Nat) (σ:Val) (fl:Int):Tree AV:=(evFn Tryz.prog (H4 T R) 10 4 [.c (.sl Ro.siSh n ρ),.c (.sl [.int .u8,.int .u8] m σ),.c (.int .u8 fl)] []).vals
def and2 (a b:Bool):Bool:=bif a then b else false
theorem stAt_of {κ κ':Val} {i j:Nat} (h:κ.at i = κ'.at j):stAt κ i = stAt κ' j:=by
 unfold stAt
 rw [h]
end Go.Proofs.YtiefjlcakpdfeaaGreat
namespace Go.Proofs.YtiefjlcakpdfeaaGreat
open Go Go.Sx Go.RowKit Rb
set_option maxRecDepth 100000
variable {m n q:Nat} {κ ρ0:Val} {F0:Nat → Nat → Bool}
theorem blt_t {a b:Nat} (h:a < b):Nat.blt a b = true:=by unfold Nat.blt; rw [Nat.ble_eq]; exact h
theorem blt_f {a b:Nat} (h:b ≤ a):Nat.blt a b = false:=by
 cases hb:Nat.blt a b with
 | false => rfl
 | true => unfold Nat.blt at hb; rw [Nat.ble_eq] at hb; omega
end Go.Proofs.YtiefjlcakpdfeaaGreat
namespace Go.Proofs.YtiefjlcakpdfeaaGreat
open Go Go.Sx Go.RowKit Rb
set_option maxRecDepth 100000
def spC (c:UInt8):Bool:=isSp (c.toNat:Int)
def wordC (c:UInt8):Bool:=wordB (c.toNat:Int)
def signC (c:UInt8):Bool:=signB (c.toNat:Int)
def isC (n:Int) (c:UInt8):Bool:=(c.toNat:Int) == n
def skipC:Bool → List UInt8 → List UInt8
 | _,[] => []
 | true,c :: r => bif isC 10 c then skipC false r else skipC true r
 | false,c :: r => bif spC c then skipC false r else bif isC 35 c then skipC true r else c :: r
abbrev LS:=ByteArray × List UInt8 × Int
def tokL (N:Nat):List UInt8 → PR LS Unit
 | [] => .ret () (bs [],[],(N:Int))
 | c :: r => bif wordC c then .ret () (⟨⟨c :: r.takeWhile wordC⟩⟩,r.dropWhile wordC,(N:Int) - (r.length + 1:Nat)) else bif signC c then .ret () (⟨⟨[c]⟩⟩,r,(N:Int) - (r.length + 1:Nat)) else .pan ((N:Int) - (r.length + 1:Nat))
theorem tokL_cons (N:Nat) (c:UInt8) (r:List UInt8):tokL N (c :: r) = bif wordC c then .ret () (⟨⟨c :: r.takeWhile wordC⟩⟩,r.dropWhile wordC,(N:Int) - (r.length + 1:Nat)) else bif signC c then .ret () (⟨⟨[c]⟩⟩,r,(N:Int) - (r.length + 1:Nat)) else .pan ((N:Int) - (r.length + 1:Nat)):=rfl
def LM (N:Nat):Mach LS:=⟨Prod.fst,fun q => q.2.2,fun q => tokL N (skipC false q.2.1)⟩
variable {s:ByteArray}
abbrev lst (s:ByteArray):List UInt8:=s.data.toList
theorem lst_len:(lst s).length = s.size:=rfl
theorem drop_cons {k:Nat} (h:k < s.size):∃ c,(lst s).drop k = c :: (lst s).drop (k + 1) ∧ strAt s k = (c.toNat:Int):=by
 have h':k < (lst s).length:=h
 refine ⟨(lst s)[k],List.drop_eq_getElem_cons h',?_⟩
 unfold strAt
 rw [nth_eq,List.getElem?_eq_getElem h']
theorem wrapS {k:Nat} (h:k ≤ 100000):IntKind.wrap .i64 ((k:Int) + 1) = ((k + 1:Nat):Int):=by rw [Ro.w64_id (by omega) (by omega)]; omega
theorem ltS {k:Nat}:lt (k:Int) (toInt64 s.size) = Nat.blt k s.size:=by
 unfold lt toInt64
 cases h:Nat.blt k s.size with
 | true => unfold Nat.blt at h; rw [Nat.ble_eq] at h; simp; omega
 | false =>
   have:¬ (k + 1 ≤ s.size):=by
    intro h2
    have:Nat.blt k s.size = true:=by unfold Nat.blt; rw [Nat.ble_eq]; exact h2
    rw [this] at h; cases h
   simp; omega
theorem skipC_t:∀ (l:List UInt8),(∀ k:Nat,l[k]? ≠ some 10) → skipC true l = []
 | [],_ => rfl
 | c :: r, h => by
   have h0:isC 10 c = false:=by
    have:=h 0
    unfold isC
    cases hc:((c.toNat:Int) == 10) with
    | false => rfl
    | true =>
      have h2:c.toNat = 10:=by have:=eq_of_beq hc; omega
      have h3:c = 10:=UInt8.toNat_inj.1 (by rw [h2]; rfl)
      exact absurd (by rw [h3]; rfl) this
   unfold skipC
   rw [h0]
   exact skipC_t r fun k => by have:=h (k + 1); simpa using this
theorem skipC_to:∀ (l:List UInt8) (i:Nat),l[i]? = some 10 → (∀ k,k < i → l[k]? ≠ some 10) → skipC true l = skipC false (l.drop i)
 | [],i,h,_ => by simp at h
 | c :: r, 0, h, _ => by
   have:c = 10:=by simpa using h
   subst this
   rfl
 | c :: r, i + 1, h, h2 => by
   have h0:isC 10 c = false:=by
    have:=h2 0 (by omega)
    unfold isC
    cases hc:((c.toNat:Int) == 10) with
    | false => rfl
    | true =>
      have h2:c.toNat = 10:=by have:=eq_of_beq hc; omega
      have h3:c = 10:=UInt8.toNat_inj.1 (by rw [h2]; rfl)
      exact absurd (by rw [h3]; rfl) this
   have e:skipC true (c :: r) = skipC true r:=by
    show (bif isC 10 c then skipC false r else skipC true r) = _
    rw [h0]; rfl
   rw [e,List.drop_succ_cons]
   exact skipC_to r i (by simpa using h) fun k hk => by have:=h2 (k + 1) (by omega); simpa using this
theorem skipF_ok (hs:s.size ≤ 10000):∀ f k,k ≤ s.size → s.size + 1 ≤ f + k → ∃ (b:Bool) (k':Nat),skipF f s (k:Int) = some (b,(k':Int)) ∧ k ≤ k' ∧ k' ≤ s.size ∧ (lst s).drop k' = skipC false ((lst s).drop k)
 | 0,k,h1,h2 => by omega
 | f + 1, k, h1, h2 => by
   unfold skipF
   rw [ltS]
   rcases Nat.lt_or_ge k s.size with hk | hk
   ·obtain ⟨c,e1,e2⟩:=drop_cons hk
    have hr:inRange (k:Int) s.size = true:=by unfold inRange le lt toInt64; simp; omega
    rw [blt_t hk,hr,Int.toNat_natCast,e2,e1]
    simp only [cond_true]
    cases hsp:isSp (c.toNat:Int) with
    | true =>
      obtain ⟨b,k',h3,h4,h5,h6⟩:=skipF_ok hs f (k + 1) (by omega) (by omega)
      refine ⟨b,k',?_,by omega,h5,?_⟩
      ·rw [wrapS (by omega)]; exact h3
      ·rw [h6]
       show _ = (bif spC c then _ else _)
       unfold spC
       rw [hsp]; rfl
    | false =>
      simp only [cond_false]
      cases h35:((c.toNat:Int) == 35) with
     | false =>
       refine ⟨true,k,rfl,Nat.le_refl _,h1,?_⟩
       rw [e1]
       show _ = (bif spC c then _ else bif isC 35 c then _ else _)
       unfold spC isC
       rw [hsp,h35]; rfl
     | true =>
       have hc:(le 0 (k:Int) && le (k:Int) (toInt64 s.size) && le (toInt64 s.size) (toInt64 s.size)) = true:=by unfold le toInt64; simp; omega
       rw [hc]
       simp only [cond_true]
       have hsub:(strSub s (k:Int).toNat s.size).data.toList = (lst s).drop k:=by
        unfold strSub
        rw [Int.toNat_natCast]
        show ((lst s).take s.size).drop k = _
        rw [List.take_of_length_le (by rw [lst_len]; exact Nat.le_refl _)]
       have h10:isC 10 c = false:=by
        have:(c.toNat:Int) = 35:=by simpa using h35
        unfold isC
        rw [this]; rfl
       have hrest:skipC false (c :: (lst s).drop (k + 1)) = skipC true ((lst s).drop k):=by
        rw [e1]
        show (bif spC c then _ else bif isC 35 c then _ else _) = (bif isC 10 c then _ else _)
        unfold spC isC at *
        rw [hsp,h35,h10]; rfl
       rw [hrest]
       have hge:=Lib.indexByte_ge ((lst s).drop k) 10
       rcases Int.lt_or_le (Lib.indexByte ((lst s).drop k) 10) 0 with hi | hi
       ·have hi1:Lib.indexByte ((lst s).drop k) 10 = -1:=by omega
        have hn:=Lib.indexByte_none hi1
        have hN:cmtN s (k:Int) = ((s.size:Nat):Int):=by
         unfold cmtN cmtI
         rw [hsub,hi1]
         show (bif lt (-1) 0 then _ else _) = _
         have:lt (-1) 0 = true:=rfl
         rw [this]
         simp only [cond_true]
         show IntKind.wrap .i64 ((k:Int) + IntKind.wrap .i64 ((s.size:Int) - k)) = _
         rw [Ro.w64_id (x:=(s.size:Int) - k) (by omega) (by omega),Ro.w64_id (by omega) (by omega)]
         omega
        obtain ⟨b,k',h3,h4,h5,h6⟩:=skipF_ok hs f s.size (Nat.le_refl _) (by omega)
        refine ⟨b,k',by rw [hN]; exact h3,by omega,h5,?_⟩
        rw [h6,skipC_t _ hn,List.drop_of_length_le (by rw [lst_len]; exact Nat.le_refl _)]
        rfl
       ·obtain ⟨o,ho⟩ : ∃ o:Nat,Lib.indexByte ((lst s).drop k) 10 = (o:Int):=⟨(Lib.indexByte ((lst s).drop k) 10).toNat,by omega⟩
        obtain ⟨g1,g2⟩:=Lib.indexByte_some ho
        have hlt:k + o < s.size:=by
         have:o < ((lst s).drop k).length:=by
          rcases Nat.lt_or_ge o ((lst s).drop k).length with h | h
          ·exact h
          ·rw [List.getElem?_eq_none h] at g1; cases g1
         rw [List.length_drop,lst_len] at this
         omega
        have ho1:1 ≤ o:=by
         rcases Nat.lt_or_ge 0 o with h | h
         ·exact h
         ·have:o = 0:=by omega
          subst this
          rw [e1] at g1
          have:c = 10:=by simpa using g1
          subst this
          cases h10
        have hN:cmtN s (k:Int) = ((k + o:Nat):Int):=by
         unfold cmtN cmtI
         rw [hsub,ho]
         have:lt (o:Int) 0 = false:=by unfold lt; simp
         rw [this]
         simp only [cond_false]
         rw [Ro.w64_id (by omega) (by omega)]
         omega
        obtain ⟨b,k',h3,h4,h5,h6⟩:=skipF_ok hs f (k + o) (by omega) (by omega)
        refine ⟨b,k',by rw [hN]; exact h3,by omega,h5,?_⟩
        rw [h6,skipC_to _ o g1 g2,List.drop_drop]
   ·have:k = s.size:=by omega
    subst this
    rw [blt_f (Nat.le_refl _)]
    refine ⟨false,s.size,rfl,Nat.le_refl _,Nat.le_refl _,?_⟩
    rw [List.drop_of_length_le (by rw [lst_len]; exact Nat.le_refl _)]
    rfl
theorem letF_ok (hs:s.size ≤ 10000):∀ f k,k ≤ s.size → s.size + 1 ≤ f + k → ∃ k':Nat,letF f s (k:Int) = some (k':Int) ∧ k ≤ k' ∧ k' ≤ s.size ∧ ((lst s).drop k).dropWhile wordC = (lst s).drop k' ∧ ((lst s).drop k).takeWhile wordC = ((lst s).take k').drop k ∧ (((lst s).drop k).head?.any wordC = true → k < k')
 | 0,k,h1,h2 => by omega
 | f + 1, k, h1, h2 => by
   unfold letF
   rw [ltS]
   rcases Nat.lt_or_ge k s.size with hk | hk
   ·obtain ⟨c,e1,e2⟩:=drop_cons hk
    have hr:inRange (k:Int) s.size = true:=by unfold inRange le lt toInt64; simp; omega
    rw [blt_t hk,hr,Int.toNat_natCast,e2,e1]
    simp only [cond_true]
    cases hw:wordB (c.toNat:Int) with
    | true =>
      obtain ⟨k',h3,h4,h5,h6,h7,_⟩:=letF_ok hs f (k + 1) (by omega) (by omega)
      have hw':wordC c = true:=hw
      refine ⟨k',by rw [wrapS (by omega)]; exact h3,by omega,h5,?_,?_,fun _ => by omega⟩
      ·rw [List.dropWhile_cons,hw',if_pos rfl,h6]
      ·rw [List.takeWhile_cons,hw',if_pos rfl,h7]
       have e3:((lst s).take k').drop k = (((lst s).drop k).take (k' - k)):=by rw [List.drop_take]
       have e4:((lst s).take k').drop (k + 1) = (((lst s).drop (k + 1)).take (k' - (k + 1))):=by rw [List.drop_take]
       rw [e3,e4,e1]
       have:k' - k = (k' - (k + 1)) + 1:=by omega
       rw [this,List.take_succ_cons]
    | false =>
      have hw':wordC c = false:=hw
      refine ⟨k,rfl,Nat.le_refl _,h1,?_,?_,?_⟩
      ·rw [List.dropWhile_cons,hw',if_neg (by simp)]
       exact e1.symm
      ·rw [List.takeWhile_cons,hw',if_neg (by simp),List.drop_take,Nat.sub_self,List.take_zero]
      ·intro h
       simp [hw'] at h
   ·have:k = s.size:=by omega
    subst this
    rw [blt_f (Nat.le_refl _)]
    have e:(lst s).drop s.size = []:=List.drop_of_length_le (by rw [lst_len]; exact Nat.le_refl _)
    refine ⟨s.size,rfl,Nat.le_refl _,Nat.le_refl _,?_,?_,?_⟩
    ·rw [e]; rfl
    ·rw [e,List.drop_take,Nat.sub_self,List.take_zero]; rfl
    ·rw [e]; intro h; cases h
def RML (s:ByteArray) (p:PS) (q:LS):Prop:=p.tx = q.1 ∧ p.pos = q.2.2 ∧ ∃ k:Nat,p.nx = (k:Int) ∧ k ≤ s.size ∧ q.2.1 = (lst s).drop k
theorem w32 (c:UInt8):IntKind.wrap .i32 (c.toNat:Int) = (c.toNat:Int):=by
 have:=c.toNat_lt
 have h:∀ n:Nat,n < 256 → IntKind.wrap .i32 (n:Int) = (n:Int):=by
  intro n hn
  simp only [IntKind.wrap,IntKind.bits,IntKind.signed]
  simp
  omega
 exact h _ this
theorem adv_ok (hs:s.size ≤ 10000) {p:PS} {q:LS} (h:RML s p q):PRel Eq (RML s) (fun _ _ => True) (advS s p) (tokL s.size (skipC false q.2.1)):=by
 obtain ⟨_,_,k,hk1,hk2,hk3⟩:=h
 obtain ⟨b,st,h1,h2,h3,h4⟩:=skipF_ok hs (s.size + 1) k hk2 (by omega)
 obtain ⟨n,g1,g2,g3,g4,g5,g6⟩:=letF_ok hs (s.size + 1) st h3 (by omega)
 have e1:skipS s p.nx = some (b,(st:Int)):=by unfold skipS; rw [hk1]; exact h1
 have e2:letS s (st:Int) = some (n:Int):=g1
 unfold advS tokS
 rw [e1]
 simp only [e2]
 rw [hk3,← h4]
 have hcut:cutOk s (st:Int) (n:Int) = true:=by unfold cutOk le toInt64; simp; omega
 rcases Nat.lt_or_ge st s.size with hst | hst
 ·obtain ⟨c,e3,e4⟩:=drop_cons hst
  have hpos:(st:Int) = (s.size:Int) - (((lst s).drop (st + 1)).length + 1:Nat):=by rw [List.length_drop,lst_len]; omega
  rw [e3] at g4 g5 g6 ⊢
  cases hw:wordC c with
  | true =>
    have hlt:=g6 (by simp [hw])
    have hne:((n:Int) == (st:Int)) = false:=by simp; omega
    rw [hne]
    simp only [cond_false,hcut,cond_true,Int.toNat_natCast]
    rw [tokL_cons,hw]
    refine .ret trivial ⟨?_,hpos,n,rfl,g3,?_⟩
    ·show strSub s st n = _
     unfold strSub
     rw [← g5,List.takeWhile_cons,hw]
     rfl
    ·show List.dropWhile wordC _ = _
     rw [← g4,List.dropWhile_cons,hw]
     rfl
  | false =>
    have hn:n = st:=by
     rw [List.takeWhile_cons,hw,if_neg (by simp),List.drop_take] at g5
     have:=congrArg List.length g5
     rw [List.length_take,List.length_drop,lst_len] at this
     simp at this
     omega
    subst hn
    have hlt:lt (n:Int) (toInt64 s.size) = true:=by rw [ltS]; exact blt_t hst
    have hr:inRange (n:Int) s.size = true:=by unfold inRange le lt toInt64; simp; omega
    have h256:lt (c.toNat:Int) 256 = true:=by have:=c.toNat_lt; unfold lt; simp; omega
    have h0:le 0 (c.toNat:Int) = true:=by unfold le; simp
    rw [beq_self_eq_true,hlt,hr,Int.toNat_natCast,e4,w32,h256,h0]
    simp only [cond_true,Bool.and_self]
    rw [tokL_cons,hw]
    simp only [cond_false]
    have hsg:signC c = signB (c.toNat:Int):=rfl
    rw [← hsg]
    cases hsc:signC c with
   | false => exact .pan hpos
   | true =>
     have hcut2:cutOk s (n:Int) ((n + 1:Nat):Int) = true:=by unfold cutOk le toInt64; simp; omega
     simp only [cond_true,wrapS (show n ≤ 100000 by omega),hcut2,Int.toNat_natCast]
     refine .ret trivial ⟨?_,hpos,n + 1,rfl,by omega,rfl⟩
     show strSub s n (n + 1) = _
     unfold strSub
     rw [List.drop_take]
     show (⟨⟨((lst s).drop n).take (n + 1 - n)⟩⟩ : ByteArray) = _
     rw [e3,show n + 1 - n = 1 by omega]
     rfl
 ·have:st = s.size:=by omega
  subst this
  have hn:n = s.size:=by omega
  subst hn
  have e:(lst s).drop s.size = []:=List.drop_of_length_le (by rw [lst_len]; exact Nat.le_refl _)
  have hlt:lt (s.size:Int) (toInt64 s.size) = false:=by rw [ltS]; exact blt_f (Nat.le_refl _)
  rw [beq_self_eq_true,hlt,e]
  simp only [cond_true,cond_false,hcut,Int.toNat_natCast]
  refine .ret trivial ⟨?_,rfl,s.size,rfl,Nat.le_refl _,e.symm⟩
  show strSub s s.size s.size = bs []
  unfold strSub
  rw [List.drop_take,Nat.sub_self,List.take_zero]
  rfl
theorem mrel (hs:s.size ≤ 10000):MRel Eq (MP s) (LM s.size) (RML s) where
 tx:=fun h => h.1
 pos:=fun h => h.2.1
 adv:=adv_ok hs
end Go.Proofs.YtiefjlcakpdfeaaGreat
