/-
 Part SpZ of the proof: RcA RcB RcC RcD RcE EngCl.
-/
import Derived.Test.YtiefjlcakpdfeaaGreatSpY
import Derived.Test.YtiefjlcakpdfeaaGreatSpT
import Derived.Test.YtiefjlcakpdfeaaGreatSpU
import Derived.Test.YtiefjlcakpdfeaaGreatSpW
import Derived.Test.YtiefjlcakpdfeaaGreatSpX
import Derived.Test.YtiefjlcakpdfeaaGreatSpV
import Derived.Test.YtiefjlcakpdfeaaGreatSpN
namespace Go.Proofs.YtiefjlcakpdfeaaGreat.Ro
open Go Go.Sx Go.RowKit Classical
set_option maxRecDepth 100000
namespace Fo
theorem nSites:NcOne Tryz.prog 106 (cloneG 56 siSh 8 72):=clone_nc Tryz.func106 rfl rfl rfl rfl rfl rfl rfl rfl (by kernel_rfl) rfl (fun n ρ => by kernel_rfl)
 (fun n ρ => stC siSh n ρ true) (fun n ρ => mkS 8 [(0,.one (.c (.sl siSh n ρ))),(2,.one (.c (.os 1 8))),(3,.one (.c (.sl siSh n ρ))),(4,.one (.c (.bool false))),(5,.one (.c (.os 0 8))),(6,.one (.c (.sl siSh n ρ))),(7,.one (.c (.os 1 8)))] [none,some (56,[.row false siSh (0 + n) (Val.cat 0 (Val.ofFlat 8 []) ρ)])])
 (fun n ρ => by kernel_rfl) (fun n ρ => by kernel_rfl) (fun n ρ => rfl) (fun n ρ => by kernel_rfl) (fun n ρ => by kernel_rfl) (fun n ρ => rfl)
noncomputable abbrev HCa:Hd:=⟨H37.pc,H15.hc,[],H37.mc⟩
theorem hCa:HdOk Tryz.prog HCa:=⟨⟨h37.pc.pc,h15.pc.hc,h37.pc.mc⟩,h37.lh⟩
noncomputable abbrev HC:Hd:=⟨HCa.pc,(75,nG Gcln) :: HCa.hc,[],(106,ncG (cloneG 56 siSh 8 72)) :: HCa.mc⟩
theorem hC:HdOk Tryz.prog HC:=(hCa.ucCons uCln).mcCons nSites.mc
theorem at_upd1 (ρ:Val) (i f:Nat) (x:CV) (k g:Nat):((ρ.upd i f x).at k).at g = if k = i ∧ g = f then .ofC x else (ρ.at k).at g:=by
 have e:((ρ.upd i f x).at k).at g = (pickV (Nat.beq k i) (.byFst fun g => pickV (Nat.beq g f) (.ofC x) ((ρ.at k).at g)) (ρ.at k)).at g:=rfl
 rw [e]
 by_cases hk:k = i
 ·subst hk
  rw [Nat.beq_refl]
  have e2:(pickV true (.byFst fun g => pickV (Nat.beq g f) (.ofC x) ((ρ.at k).at g)) (ρ.at k)).at g = pickV (Nat.beq g f) (.ofC x) ((ρ.at k).at g):=rfl
  rw [e2]
  by_cases hg:g = f
  ·subst hg
   rw [Nat.beq_refl,if_pos ⟨rfl,rfl⟩]; rfl
  ·rw [if_neg (fun h => hg h.2)]
   have:Nat.beq g f = false:=by
    cases h:Nat.beq g f
    ·rfl
    ·exact (hg (Nat.eq_of_beq_eq_true h)).elim
   rw [this]; rfl
 ·rw [if_neg (fun h => hk h.1)]
  have:Nat.beq k i = false:=by
   cases h:Nat.beq k i
   ·rfl
   ·exact (hk (Nat.eq_of_beq_eq_true h)).elim
  rw [this]; rfl
theorem sameV_upd {n:Nat} {ρ σ:Val} (h:sameV siSh n ρ σ) (j:Nat):sameV siSh n (ρ.upds j 4 [.sl spSh (((ρ.at j).at 4).L []) ((ρ.at j).at 4)]) σ:=by
 intro i f s hi hf
 rw [← h i f s hi hf]
 show cellOf s (((ρ.upd j 4 _).at i).at f) = _
 rw [at_upd1]
 split
 ·rename_i hh
  obtain ⟨rfl,rfl⟩:=hh
  simp only [nth,Option.some.injEq] at hf
  subst hf
  show cellOf (.sl spSh) (Val.ofC (.sl spSh (((ρ.at i).at 4).L []) ((ρ.at i).at 4))) = _
  rw [ofC_sl]
 ·rfl
theorem sameV_at {n:Nat} {ρ σ:Val} (h:sameV siSh n ρ σ) {i:Nat} (hi:i < n):((ρ.at i).at 4).L [] = ((σ.at i).at 4).L []:=by
 have:=h i 4 (.sl spSh) hi rfl
 simp only [cellOf,CV.sl.injEq] at this
 exact this.2.1
namespace Ca
structure C where
 l:Ses
 m:Int
structure V where
 ρ:Val
 i:Int
def S (c:C) (v:V):St:=mkS 24 [(3,.one (.c (.os 0 8))),(8,.one (.c (I c.m))),(9,.one (.c (I v.i)))] [some (56,[.row false siSh c.l.n v.ρ])]
def up4 (ρ:Val) (i:Nat):Val:=ρ.upds i 4 [.sl spSh (((ρ.at i).at 4).L []) ((ρ.at i).at 4)]
def TX (c:C) (v:V):Tree (XE × V) :=
 .br (lt v.i c.m) (.need (inRange v.i c.l.n) (.need (Nat.ble ((0 + ((v.ρ.at v.i.toNat).at 4).L []) * 24) 140737488355328) (.need (inRange v.i c.l.n) (.leaf (.normal,⟨up4 v.ρ v.i.toNat,IntKind.i64.wrap (v.i + 1)⟩))))) (.leaf (.exit 0,v))
theorem t (c:C) (v:V):((evCode Tryz.prog HC (evFn Tryz.prog HC 10) 51 0 1 (loopBody Tryz.prog 51 0) (S c v)).bind fun y => gcT [3,8,9] 0 y) = (TX c v).bind fun y => .leaf (y.1,S c y.2):=by kernel_rfl
def ups (ρ:Val):Nat → Val
 | 0 => ρ
 | i + 1 => up4 (ups ρ i) i
theorem ups_same (ρ:Val) (n:Nat):∀ i,sameV siSh n (ups ρ i) ρ
 | 0 => fun _ _ _ _ _ => rfl
 | i + 1 => sameV_upd (ups_same ρ n i) i
def st (c:C) (i:Nat):V:=⟨ups c.l.ρ i,i⟩
def good (c:C):Prop:=c.m = toInt64 c.l.n ∧ smallS c.l
theorem sq (c:C) (h:good c):Sq (TX c) (fun v => (c.l.n - v.i).toNat) (st c) (st c) c.l.n (fun _ => false) .ret (.exit 0) where
 out:=by simp
 hit:=by simp
 meas i hi:=by show ((c.l.n:Int) - (i:Int)).toNat = _; omega
 round i hi:=by
  obtain ⟨hm,hn,hs⟩:=h
  have hsi:=hs i hi
  have hw:IntKind.i64.wrap ((i:Int) + 1) = ((i + 1:Nat):Int):=by rw [w64_id (by omega) (by omega)]; omega
  refine ⟨fun _ => ⟨inR hi,?_,inR hi,?_⟩,fun hlt => ?_⟩
  ·show Nat.ble ((0 + (((ups c.l.ρ i).at i).at 4).L []) * 24) 140737488355328 = true
   rw [sameV_at (ups_same c.l.ρ c.l.n i) hi]
   exact small_ble hsi
  ·show (XE.normal,(⟨up4 (ups c.l.ρ i) i,IntKind.i64.wrap ((i:Int) + 1)⟩ : V)) = (.normal,st c (i + 1))
   rw [hw]; rfl
  ·have:lt (i:Int) c.m = false:=hlt
   rw [hm,ltF hi] at this; cases this
 stop:=by
  refine ⟨fun hlt => ?_,fun _ => rfl⟩
  have:lt (c.l.n:Int) c.m = true:=hlt
  rw [h.1,ltS] at this; cases this
def get:List (Nat × AV) → Mem → Option (C × V)
 | [(3,.one (.c (.os 0 8))),(8,.one (.c (.int .i64 m))),(9,.one (.c (.int .i64 i)))],[some (56,[.row false [.int .i64,.int .i64,.int .i64,.int .i64,.sl [.int .i64,.int .i64,.int .i64],.int .i64,.bool,.bool] n ρ])] => some (⟨⟨n,ρ⟩,m⟩,⟨ρ,i⟩)
 | _,_ => none
noncomputable def L:Nat → St → Tree (XE × St):=lqH [3,8,9] 0 24 get fun c v => lq1 (S c) (good c ∧ v = st c 0) (.exit 0) ⟨c.l.ρ,c.l.n⟩
theorem ok (fn:Func) (c b:Code) (hf:Tryz.prog.funcs[51]? = some fn) (hc:fn.body = some c) (hb:nthLoop c 0 = some b):LoopOk Tryz.prog b L :=
 lq1_ok hC 10 51 0 hf hc hb [3,8,9] 0 24 S TX t get (fun l m c v h => by unfold get at h; split at h <;> simp at h; obtain ⟨rfl,rfl⟩:=h; rfl)
  good (fun c v => (c.l.n - v.i).toNat) st (fun c => c.l.n) (.exit 0) sq (fun c => ⟨c.l.ρ,c.l.n⟩)
  (fun c _ => StWk.row (tmps:=mkL [(3,.one (.c (.os 0 8))),(8,.one (.c (I c.m))),(9,.one (.c (I c.l.n)))] 24 0) (b:=0) rfl (ups_same c.l.ρ c.l.n c.l.n))
end Ca
noncomputable abbrev HC1:Hd:=⟨HC.pc,HC.hc,[((51,0),Ca.L)],HC.mc⟩
theorem hC1:HdOk Tryz.prog HC1:=HdOk.lhCons hC Ca.ok
noncomputable def Gcop:List A1 → Tree (AV × Mem)
 | [.c (.sl [.int .i64, .int .i64, .int .i64, .int .i64, .sl [.int .i64, .int .i64, .int .i64], .int .i64, .bool, .bool] n ρ)] =>
   .need (dec (smallS ⟨n,ρ⟩)) (.leaf (.one (.c (.os 0 8)),[some (56,[.row false siSh n ρ])]))
 | _ => .fail
theorem nCop:NcOne Tryz.prog 51 Gcop:=ncOne_of_tree hC1 10 51 fun args r m h => by
 unfold Gcop at h; split at h
 ·rename_i n ρ
  simp only [Tree.sel] at h
  cases hs:dec (smallS ⟨n,ρ⟩)
  ·rw [hs] at h; simp at h
  rw [hs] at h
  simp only [cond_true,Option.some.injEq,Prod.mk.injEq] at h
  obtain ⟨rfl,rfl⟩:=h
  have hsm:=dec_iff.1 hs
  refine ⟨.need (Nat.ble ((0 + n) * 72) 140737488355328) (.need (dec (Ca.good ⟨⟨n,ρ⟩,toInt64 n⟩ ∧ (⟨ρ,0⟩ : Ca.V) = Ca.st ⟨⟨n,ρ⟩,toInt64 n⟩ 0)) (.leaf (.one (.c (.os 0 8)),[some (56,[.row false siSh n ρ])]))),by kernel_rfl,?_,dec_iff.2 ⟨⟨rfl,hsm⟩,rfl⟩,WkO.refl⟩
  have:=hsm.1
  exact Nat.ble_eq_true_of_le (by simp only at this; omega)
 ·simp [Tree.sel] at h
end Fo
end Go.Proofs.YtiefjlcakpdfeaaGreat.Ro
namespace Go.Proofs.YtiefjlcakpdfeaaGreat
open Go Go.Sx Go.RowKit Rb
set_option maxRecDepth 100000
def rK:Nat × (List A1 → Tree AV):=(4294967289,fun _ => .fail)
theorem HdOk.rK {P:Program} {pc hc lh mc} (h:HdOk P ⟨pc,hc,lh,mc⟩):HdOk P ⟨rK :: pc,hc,lh,mc⟩:=h.tcCons (f:=4294967289) (fun _ _ h => by simp [Tree.sel] at h)
noncomputable abbrev HW0:Hd:=⟨[(86,oG G86)],[(162,nG G162)],[],[]⟩
theorem hW0:HdOk Tryz.prog HW0:=(HdOk.nil.ucCons p162).pcCons p86
def wdAt (ρ:Val) (i:Int):ByteArray:=((ρ.at i.toNat).at 0).S []
def callSh (es:List Sh):Bool:=match es with
 | [.sl a,.sl [.str],.int .i64] => shEq.shsEq a Ro.siSh
 | _ => false
theorem callSh_eq {es:List Sh} (h:callSh es = true):es = [.sl Ro.siSh,.sl [.str],.int .i64]:=by
 unfold callSh at h
 split at h
 ·rw [shsEq_eq h]
 ·cases h
def G200:List A1 → Option (Bool × AV)
 | [.c (.rop es 0 ρ),.c (.int .i64 i)] => if callSh es then some (inRange i ((ρ.at 1).L []) && nmD (numberS (wdAt (ρ.at 1) i)),.one (.c (.int .i64 (nmV (numberS (wdAt (ρ.at 1) i)))))) else none
 | _ => none
theorem p200:TcOne Tryz.prog 200 (nG G200):=by
 refine tcOne_of_tree (H:=HW0) hW0 10 200 ?_
 intro args r h
 unfold G200 at h
 split at h
 ·rename_i es ρ i
  split at h
  ·rename_i hs
   rw [callSh_eq hs]
   simp only [Option.some.injEq,Prod.mk.injEq,Bool.and_eq_true] at h
   obtain ⟨⟨h1,h2⟩,rfl⟩:=h
   exact ⟨rfl,.need (inRange i ((ρ.at 1).L [])) (.need (nmD (numberS (wdAt (ρ.at 1) i))) (.leaf (.one (.c (.int .i64 (nmV (numberS (wdAt (ρ.at 1) i)))))))),by kernel_rfl,h1,h2,rfl⟩
  ·cases h
 ·cases h
def srcC (sn:Nat) (wn:Nat) (wρ:Val) (i:Int):Bool:=inRange i wn && (!siteO (wdAt wρ i) || inRange (siteV (wdAt wρ i)) sn)
def srcV (sρ:Val) (wρ:Val) (i:Int):Int:=bif !siteO (wdAt wρ i) then -1 else ((sρ.at (siteV (wdAt wρ i)).toNat).at 0).N []
def G201:List A1 → Option (Bool × AV)
 | [.c (.rop es 0 ρ),.c (.int .i64 i)] => if callSh es then some (srcC ((ρ.at 0).L []) ((ρ.at 1).L []) (ρ.at 1) i,.one (.c (.int .i64 (srcV (ρ.at 0) (ρ.at 1) i)))) else none
 | _ => none
theorem p201:TcOne Tryz.prog 201 (nG G201):=by
 refine tcOne_of_tree (H:=HW0) hW0 10 201 ?_
 intro args r h
 unfold G201 at h
 split at h
 ·rename_i es ρ i
  split at h
  ·rename_i hs
   rw [callSh_eq hs]
   simp only [Option.some.injEq,Prod.mk.injEq] at h
   obtain ⟨h1,rfl⟩:=h
   unfold srcC at h1
   rw [Bool.and_eq_true] at h1
   obtain ⟨h1,h2⟩:=h1
   refine ⟨rfl,.need (inRange i ((ρ.at 1).L [])) (.br (!siteO (wdAt (ρ.at 1) i)) (.leaf (.one (.c (.int .i64 (-1))))) (.need (inRange (siteV (wdAt (ρ.at 1) i)) ((ρ.at 0).L [])) (.leaf (.one (.c (.int .i64 (((((ρ.at 0).at (siteV (wdAt (ρ.at 1) i)).toNat).at 0).N [])))))))),by kernel_rfl,h1,fun h => ?_,fun h => ⟨?_,?_⟩⟩
   ·unfold srcV; rw [h]; rfl
   ·rw [h] at h2; simpa using h2
   ·unfold srcV; rw [h]; rfl
  ·cases h
 ·cases h
noncomputable abbrev HOa:Hd:=⟨Ro.H37.pc,Ro.H15.hc,[],Ro.H37.mc⟩
theorem hOa:HdOk Tryz.prog HOa:=⟨⟨Ro.h37.pc.pc,Ro.h15.pc.hc,Ro.h37.pc.mc⟩,Ro.h37.lh⟩
noncomputable abbrev HOb:Hd:=⟨rK :: (86,oG G86) :: (200,nG G200) :: (201,nG G201) :: HOa.pc,HOa.hc,[],(51,ncG Ro.Fo.Gcop) :: HOa.mc⟩
theorem hOb:HdOk Tryz.prog HOb:=HdOk.rK ((((hOa.mcCons Ro.Fo.nCop.mc).tcCons p201).tcCons p200).pcCons p86)
def fK (f:Nat):Nat × (List A1 → Tree AV):=(f,fun _ => .fail)
theorem HdOk.fK {P:Program} {pc hc lh mc} (h:HdOk P ⟨pc,hc,lh,mc⟩) (f:Nat):HdOk P ⟨fK f :: pc,hc,lh,mc⟩:=h.tcCons (f:=f) (fun _ _ h => by simp [Tree.sel] at h)
noncomputable abbrev HOp:Hd:=⟨fK 192 :: fK 202 :: fK 203 :: HOb.pc,HOb.hc,[],HOb.mc⟩
theorem hOp:HdOk Tryz.prog HOp:=HdOk.fK (HdOk.fK (HdOk.fK hOb 203) 202) 192
def wd (σ:Val) (i:Nat):ByteArray:=((σ.at i).at 0).S []
def errT (k:Int):Tree AV:=.leaf (.tup [.c .nils,.c (.int .i64 k)])
noncomputable def finT (n:Nat) (ρ:Val):Tree AV:=.need (dec (Ro.fewS ⟨n,ρ⟩)) (.br (Ro.ckE ⟨n,ρ⟩ != 0) (errT (Ro.ckE ⟨n,ρ⟩)) (.leaf (.tup [.c (.sl Ro.siSh n ρ),.c (.int .i64 0)])))
noncomputable def setT (n:Nat) (ρ:Val) (t:Int) (k:Int) (x:Ro.Sit):Tree AV :=
 .br (k == 0) (.need (inRange t n) (.br (k != 0) (errT k) (finT n (ρ.upds t.toNat 0 (Ro.Fo.cs (Ro.Fo.okT k x)))))) (.br (k != 0) (errT k) (finT n ρ))
noncomputable def flagT (n:Nat) (ρ:Val) (m:Nat) (t:Int) (f:Nat) (b:Bool):Tree AV:=.need (inRange 0 m) (.need (inRange t n) (.br false (errT 0) (finT n (ρ.upds t.toNat f [.bool b]))))
noncomputable def t174 (n:Nat) (ρ:Val) (m:Nat) (σ:Val):Tree AV :=
 let t:=siteV (wd σ 1)
 let x:=Ro.siAt (ρ.at t.toNat)
 let w:=wd σ 0
 let y:=nmV (numberS (wdAt σ 2))
 let num:=inRange 2 m && nmD (numberS (wdAt σ 2))
 let src:=srcV ρ σ 3
 let sm:=dec (Ro.small x.n)
 .need (inRange 1 m) (.need (dec (Ro.Fo.smallS ⟨n,ρ⟩)) (.need (inRange 0 m)
  (.br (strEq w wPromote) (.need (inRange t n) (.need num (.need sm (setT n ρ t (Ro.proE x y) (Ro.pro x y)))))
  (.br (strEq w wIsolate) (.need (inRange t n) (.need sm (setT n ρ t (Ro.isoE x) (Ro.iso x))))
  (.br (strEq w wDemote) (.need (inRange t n) (.need num (.need (srcC n m σ 3) (.need sm (setT n ρ t (Ro.demoE x y src) (Ro.demo x y src))))))
  (.br (strEq w wRejoin) (.need (inRange t n) (.need num (.need (srcC n m σ 3) (.need sm (setT n ρ t (Ro.rejE x y src) (Ro.rej x y src))))))
  (.br (strEq w wSynced) (.need (inRange t n) (.need num .fail))
  (.br (strEq w wUp) (flagT n ρ m t 6 (strEq w wUp))
  (.br (strEq w wDown) (flagT n ρ m t 6 (strEq w wUp))
  (.br (strEq w wConnect) (flagT n ρ m t 7 (strEq w wConnect))
  (.br (strEq w wDisconnect) (flagT n ρ m t 7 (strEq w wConnect))
  (.br (strEq w wFailover) .fail (.br (strEq w wResolve) .fail .fail)))))))))))))
theorem t174_eq (n:Nat) (ρ:Val) (m:Nat) (σ:Val):hcTree Tryz.prog HOp 10 174 [.c (.sl Ro.siSh n ρ),.c (.sl [.str] m σ)] = t174 n ρ m σ:=by kernel_rfl
def allB (p:Nat → Bool):Nat → Bool
 | 0 => true
 | n + 1 => allB p n && p n
theorem allB_ok {p:Nat → Bool}:∀ {n:Nat},allB p n = true → ∀ i,i < n → p i = true
 | 0,_,i,hi => by omega
 | n + 1, h, i, hi => by
   simp only [allB,Bool.and_eq_true] at h
   rcases Nat.lt_or_ge i n with h1 | h1
   ·exact allB_ok h.1 i h1
   ·obtain rfl:i = n:=by omega
    exact h.2
def smallB (n:Nat) (ρ:Val):Bool:=Nat.ble n 1000 && allB (fun i => Nat.ble (((ρ.at i).at 4).L []) 100000) n
theorem smallB_ok {n:Nat} {ρ:Val} (h:smallB n ρ = true):Ro.Fo.smallS ⟨n,ρ⟩:=by
 unfold smallB at h
 rw [Bool.and_eq_true] at h
 exact ⟨Nat.le_of_ble_eq_true h.1,fun i hi => Nat.le_of_ble_eq_true (allB_ok h.2 i hi)⟩
theorem smallB_few {n:Nat} {ρ:Val} (h:smallB n ρ = true):dec (Ro.fewS ⟨n,ρ⟩) = true:=dec_iff.2 (Ro.Fo.small_fewS (smallB_ok h))
abbrev OR:=Option (Int × Val)
def finS (n:Nat) (ρ:Val):OR:=bif smallB n ρ then some (Ro.ckE ⟨n,ρ⟩,ρ) else none
def setS (n:Nat) (ρ:Val) (t:Int) (k:Int) (x:Ro.Sit):OR:=bif k == 0 then (bif inRange t n then finS n (ρ.upds t.toNat 0 (Ro.Fo.cs (Ro.Fo.okT k x))) else none) else some (k,ρ)
def flagS (n:Nat) (ρ:Val) (t:Int) (f:Nat) (b:Bool):OR:=bif inRange t n then finS n (ρ.upds t.toNat f [.bool b]) else none
def nd {α:Type} (c:Bool) (x:Option α):Option α:=bif c then x else none
def operateS (fo:Nat → Val → Int → OR) (n:Nat) (ρ:Val) (m:Nat) (σ:Val):OR :=
 let t:=siteV (wd σ 1)
 let x:=Ro.siAt (ρ.at t.toNat)
 let w:=wd σ 0
 let y:=nmV (numberS (wdAt σ 2))
 let num:=inRange 2 m && nmD (numberS (wdAt σ 2))
 let src:=srcV ρ σ 3
 nd (inRange 1 m) (nd (smallB n ρ) (nd (inRange 0 m)
  (bif strEq w wPromote then nd (inRange t n) (nd num (setS n ρ t (Ro.proE x y) (Ro.pro x y)))
  else bif strEq w wIsolate then nd (inRange t n) (setS n ρ t (Ro.isoE x) (Ro.iso x))
  else bif strEq w wDemote then nd (inRange t n) (nd num (nd (srcC n m σ 3) (setS n ρ t (Ro.demoE x y src) (Ro.demo x y src))))
  else bif strEq w wRejoin then nd (inRange t n) (nd num (nd (srcC n m σ 3) (setS n ρ t (Ro.rejE x y src) (Ro.rej x y src))))
  else bif strEq w wSynced then none
  else bif strEq w wUp then flagS n ρ t 6 (strEq w wUp)
  else bif strEq w wDown then flagS n ρ t 6 (strEq w wUp)
  else bif strEq w wConnect then flagS n ρ t 7 (strEq w wConnect)
  else bif strEq w wDisconnect then flagS n ρ t 7 (strEq w wConnect)
  else bif strEq w wFailover then fo n ρ t
  else none)))
def encO (n:Nat) (x:Int × Val):AV:=.tup [.c (.sl Ro.siSh (bif x.1 == 0 then n else 0) x.2),.c (.int .i64 x.1)]
def SayO (n:Nat) (T:Tree AV):OR → Prop
 | none => True
 | some x => T.All (fun z => leA z (encO n x))
theorem SayO.none {n:Nat} {T:Tree AV}:SayO n T none:=trivial
theorem SayO.cond {n:Nat} {c:Bool} {T E:Tree AV} {a b:OR} (h1:c = true → SayO n T a) (h2:c = false → SayO n E b):SayO n (.br c T E) (bif c then a else b):=by
 cases c with
 | true =>
   have:=h1 rfl
   show SayO n _ a
   cases a with
  | none => exact trivial
  | some y => exact ⟨fun _ => this,(fun h => by cases h)⟩
 | false =>
   have:=h2 rfl
   show SayO n _ b
   cases b with
  | none => exact trivial
  | some y => exact ⟨(fun h => by cases h),fun _ => this⟩
theorem SayO.nd {n:Nat} {c d:Bool} {T:Tree AV} {a:OR} (h:c = true → d = true) (h1:c = true → SayO n T a):SayO n (.need d T) (Go.Proofs.YtiefjlcakpdfeaaGreat.nd c a):=by
 cases c with
 | false => exact trivial
 | true =>
   have:=h1 rfl
   show SayO n _ a
   cases a with
  | none => exact trivial
  | some y => exact ⟨h rfl,this⟩
theorem SayO.need {n:Nat} {d:Bool} {T:Tree AV} {a:OR} (h:d = true) (h1:SayO n T a):SayO n (.need d T) a:=by
 cases a with
 | none => exact trivial
 | some y => exact ⟨h,h1⟩
theorem le_nilO {n:Nat} {k:Int} {ρ:Val} (hk:(k == 0) = false):leA (.tup [.c .nils,.c (.int .i64 k)]) (encO n (k,ρ)):=by
 unfold encO
 simp only [hk,cond_false]
 exact leA_tup (.cons (.c fun _ _ _ h => by cases h; exact .slnil) (.cons (.c leC.refl) .nil))
theorem errT_say {n:Nat} {k:Int} {ρ:Val} (hk:(k == 0) = false):SayO n (errT k) (some (k,ρ)):=le_nilO hk
theorem finT_say {n:Nat} {ρ:Val}:SayO n (finT n ρ) (finS n ρ):=by
 unfold finT finS
 refine SayO.nd smallB_few fun _ => ?_
 cases hk:(Ro.ckE ⟨n,ρ⟩ == 0) with
 | false =>
   have h1:(Ro.ckE ⟨n,ρ⟩ != 0) = true:=by simp [bne,hk]
   rw [h1]
   exact ⟨fun _ => le_nilO hk,(fun h => by cases h)⟩
 | true =>
   have h1:(Ro.ckE ⟨n,ρ⟩ != 0) = false:=by simp [bne,hk]
   rw [h1]
   refine ⟨(fun h => by cases h),fun _ => ?_⟩
   unfold encO
   simp only [hk,cond_true]
   have h0:Ro.ckE ⟨n,ρ⟩ = 0:=by simpa using hk
   rw [h0]
   exact leA.refl
theorem setT_say {n:Nat} {ρ:Val} {t k:Int} {x:Ro.Sit}:SayO n (setT n ρ t k x) (setS n ρ t k x):=by
 unfold setT setS
 refine SayO.cond (fun hk => ?_) fun hk => ?_
 ·refine SayO.nd id fun _ => ?_
  have h1:(k != 0) = false:=by simp [bne,hk]
  rw [h1]
  exact SayO.cond (c:=false) (a:=none) (fun h => by cases h) fun _ => finT_say
 ·have h1:(k != 0) = true:=by simp [bne,hk]
  rw [h1]
  exact SayO.cond (c:=true) (b:=none) (fun _ => errT_say hk) (fun h => by cases h)
theorem flagT_say {n m:Nat} {ρ:Val} {t:Int} {f:Nat} {b:Bool} (hm:inRange 0 m = true):SayO n (flagT n ρ m t f b) (flagS n ρ t f b):=by
 unfold flagT flagS
 refine SayO.need hm (SayO.nd id fun _ => SayO.cond (c:=false) (a:=none) (fun h => by cases h) fun _ => finT_say)
theorem small_at {n:Nat} {ρ:Val} {t:Int} (h:smallB n ρ = true) (ht:inRange t n = true):dec (Ro.small (Ro.siAt (ρ.at t.toNat)).n) = true:=by
 have hs:=smallB_ok h
 have hn:n ≤ 1000:=hs.1
 unfold inRange le lt toInt64 at ht
 simp at ht
 exact dec_iff.2 (hs.2 t.toNat (by simp only; omega))
def noFo:Nat → Val → Int → OR:=fun _ _ _ => none
theorem t174_say {n:Nat} {ρ:Val} {m:Nat} {σ:Val}:SayO n (t174 n ρ m σ) (operateS noFo n ρ m σ):=by
 unfold t174 operateS
 refine SayO.nd id fun _ => SayO.nd (fun h => dec_iff.2 (smallB_ok h)) fun hs => SayO.nd id fun hm => ?_
 refine SayO.cond (fun _ => SayO.nd id fun ht => SayO.nd id fun _ => SayO.need (small_at hs ht) setT_say) fun _ => ?_
 refine SayO.cond (fun _ => SayO.nd id fun ht => SayO.need (small_at hs ht) setT_say) fun _ => ?_
 refine SayO.cond (fun _ => SayO.nd id fun ht => SayO.nd id fun _ => SayO.nd id fun _ => SayO.need (small_at hs ht) setT_say) fun _ => ?_
 refine SayO.cond (fun _ => SayO.nd id fun ht => SayO.nd id fun _ => SayO.nd id fun _ => SayO.need (small_at hs ht) setT_say) fun _ => ?_
 refine SayO.cond (fun _ => SayO.none) fun _ => ?_
 refine SayO.cond (fun _ => flagT_say hm) fun _ => ?_
 refine SayO.cond (fun _ => flagT_say hm) fun _ => ?_
 refine SayO.cond (fun _ => flagT_say hm) fun _ => ?_
 refine SayO.cond (fun _ => flagT_say hm) fun _ => ?_
 exact SayO.cond (fun _ => SayO.none) fun _ => SayO.none
def orB:OR → Bool | some _ => true | none => false
def orV:OR → Int × Val | some x => x | none => (0,.zero)
abbrev OpF:=Nat → Val → Nat → Val → OR
def G174 (O:OpF):List A1 → Option (Bool × AV)
 | [.c (.sl es n ρ),.c (.sl [.str] m σ)] => if shEq.shsEq es Ro.siSh then some (orB (O n ρ m σ),encO n (orV (O n ρ m σ))) else none
 | _ => none
theorem G174_some {O:OpF} {args:List A1} {r:AV} (h:G174 O args = some (true,r)):∃ n ρ m σ x,args = [.c (.sl Ro.siSh n ρ),.c (.sl [.str] m σ)] ∧ O n ρ m σ = some x ∧ r = encO n x:=by
 unfold G174 at h
 split at h
 ·rename_i es n ρ m σ
  split at h
  ·rename_i hs
   rw [shsEq_eq hs]
   simp only [Option.some.injEq,Prod.mk.injEq] at h
   cases ho:O n ρ m σ with
   | none => rw [ho] at h; cases h.1
   | some x => rw [ho] at h; exact ⟨n,ρ,m,σ,x,rfl,ho,h.2.symm⟩
  ·cases h
 ·cases h
theorem u174 {args:List A1} {r:AV} (h:G174 (operateS noFo) args = some (true,r)):(hcTree Tryz.prog HOp 10 174 args).All (fun x => leA x r):=by
 obtain ⟨n,ρ,m,σ,x,e1,h1,e2⟩:=G174_some h
 rw [e1,e2,t174_eq]
 have:=t174_say (n:=n) (ρ:=ρ) (m:=m) (σ:=σ)
 rw [h1] at this
 exact this
theorem p174:UcOne Tryz.prog 174 (nG (G174 (operateS noFo))):=by
 refine ucOne_of_all (H:=HOp) hOp 10 174 ?_
 intro args r h
 exact u174 h
def wlist (ρ:Val):Nat → List ByteArray
 | 0 => []
 | n + 1 => wlist ρ n ++ [wd ρ n]
theorem wlist_len (ρ:Val):∀ n,(wlist ρ n).length = n
 | 0 => rfl
 | n + 1 => by simp [wlist,wlist_len ρ n]
theorem wlist_at (ρ:Val):∀ (n i:Nat),i < n → (wlist ρ n)[i]? = some (wd ρ i)
 | 0,_,h => by omega
 | n + 1, i, h => by
   unfold wlist
   rcases Nat.lt_or_ge i n with h1 | h1
   ·rw [List.getElem?_append_left (by rw [wlist_len]; exact h1)]
    exact wlist_at ρ n i h1
   ·obtain rfl:i = n:=by omega
    rw [List.getElem?_append_right (by rw [wlist_len]; omega),wlist_len]
    simp
def joinL (n:Nat) (ρ:Val) (sep:ByteArray):List UInt8:=Lib.join ((wlist ρ n).map (·.data.toList)) sep.data.toList
def joinS (n:Nat) (ρ:Val) (sep:ByteArray):ByteArray:=⟨(joinL n ρ sep).toArray⟩
def joinC (n:Nat) (ρ:Val) (sep:ByteArray):Bool:=Nat.ble n 140737488355328 && Nat.ble (joinL n ρ sep).length 140737488355328
def G18:List A1 → Option (Bool × AV)
 | [.c (.sl [.str] n ρ),.c (.str sep)] => some (joinC n ρ sep,.one (.c (.str (joinS n ρ sep))))
 | _ => none
theorem p18:UcOne Tryz.prog 18 (nG G18):=by
 intro args r hG hcl F w vs hargs
 have h:=nG_sel hG
 unfold G18 at h
 split at h
 ·rename_i n ρ sep
  simp only [Option.some.injEq,Prod.mk.injEq] at h
  obtain ⟨h1,rfl⟩:=h
  unfold joinC at h1
  rw [Bool.and_eq_true] at h1
  have hn:=Nat.le_of_ble_eq_true h1.1
  have hl:=Nat.le_of_ble_eq_true h1.2
  have zero:∀ a c,n = 0 → Calls Tryz.prog 18 #[.slice a 0 c,.string sep] w fun e w2 => ∃ v,e = .returned v ∧ Below w.heap.size w w2 ∧ AV.Rel (fun p => F p ∧ p < w.heap.size) w2 [] (.one (.c (.str (joinS n ρ sep)))) v:=by
   intro a c h0
   subst h0
   refine (Tryz.strings_Join_none a c sep w).mono fun e w2 ⟨he,hw⟩ => ?_
   subst hw
   exact ⟨_,he,Below.refl _ _,CV.Rel.str _⟩
  cases hargs with
  | cons a1 a2 => cases a2 with
   | cons a2 a3 =>
     cases a3
     cases a2
     cases a1 with
    | slnil => exact zero _ _ rfl
    | sl val hc h0 hcell hr =>
      rename_i cap a
      rcases Nat.eq_zero_or_pos n with hz | hp
      ·subst hz; exact zero _ _ rfl
      ·obtain ⟨e1,e2,_⟩:=h0 hp
       have ha:a = ⟨a.block,a.off,none⟩:=by rw [← e1]
       rw [ha]
       have key:=Tryz.strings_Join a.block a.off cap (wlist ρ n) sep w (fun j x hj => by
        have hjn:j < n:=by
         have:=(List.getElem?_eq_some_iff.1 hj).1
         rwa [wlist_len] at this
        rw [wlist_at ρ n j hjn] at hj
        obtain rfl:=Option.some.inj hj
        have:=hcell j 0 hjn (by simp)
        have e:a.off + (j * [Sh.str].length + 0) = a.off + j:=by simp
        rw [e] at this
        rw [this]
        have h3:=hr j 0 .str hjn rfl
        generalize val j 0 = z at h3
        cases h3
        rfl) e2 (by rw [wlist_len]; exact hn) (by rw [wlist_len]; exact hc) hl
       rw [wlist_len] at key
       refine key.mono fun e w2 ⟨he,hw⟩ => ?_
       exact ⟨_,he,hw,CV.Rel.str _⟩
 ·cases h
theorem TcOne.le {P:Program} {f:Nat} {G G':List A1 → Option (Bool × AV)} (h:TcOne P f (nG G)) (hg:∀ args r,G' args = some (true,r) → G args = some (true,r)):TcOne P f (nG G'):=by
 intro args r hs
 refine h args r ?_
 have:=hg args r (nG_sel hs)
 unfold nG
 rw [this]
 rfl
def G13:List A1 → Option (Bool × AV)
 | [.c (.sl es n ρ)] => if shEq.shsEq es Ro.siSh then some (smallB n ρ,Ro.two (Ro.ckI ⟨n,ρ⟩) (Ro.ckE ⟨n,ρ⟩)) else none
 | _ => none
theorem p13:TcOne Tryz.prog 13 (nG G13):=TcOne.le Ro.p34 fun args r h => by
 unfold G13 at h
 split at h
 ·split at h
  ·rename_i es n ρ hs
   rw [shsEq_eq hs]
   simp only [Option.some.injEq,Prod.mk.injEq] at h
   obtain ⟨h1,rfl⟩:=h
   show some (dec (Ro.fewS ⟨n,ρ⟩),_) = some (true,_)
   rw [smallB_few h1]
  ·cases h
 ·cases h
def G51:List A1 → Tree (AV × Mem)
 | [.c (.sl es n ρ)] => if shEq.shsEq es Ro.siSh then .need (smallB n ρ) (.leaf (.one (.c (.os 0 8)),[some (56,[.row false Ro.siSh n ρ])])) else .fail
 | _ => .fail
theorem n51:NcOne Tryz.prog 51 G51:=by
 intro args r m h
 refine Ro.Fo.nCop args r m ?_
 unfold G51 at h
 split at h
 ·split at h
  ·rename_i es n ρ hs
   rw [shsEq_eq hs]
   simp only [Tree.sel] at h
   cases hb:smallB n ρ with
   | false => rw [hb] at h; cases h
   | true =>
     rw [hb] at h
     simp only [cond_true,Option.some.injEq] at h
     show (Tree.need (dec (Ro.Fo.smallS ⟨n,ρ⟩)) _).sel = _
     rw [dec_iff.2 (smallB_ok hb)]
     simp only [Tree.sel,cond_true,h]
  ·cases h
 ·cases h
abbrev G8F:=G8 20 20 (blK 101 20)
end Go.Proofs.YtiefjlcakpdfeaaGreat
namespace Go.Sx
open Go Go.RowKit
variable {P:Program}
def evFnK (P:Program) (H:Hd) (X:HdP) (n f K:Nat) (args:List A1) (mem:Mem):Tree (Out × Mem) :=
 match nth P.funcs.toList f with
 | some fn => match fn.body with
  | some c => if Nat.ble args.length fn.ntmps then
    (evCodeP P H X (evFn P H n) (evFnP P H X n) f K 0 c ⟨⟨args.map (fun a => ⟨[],.one a⟩) ++ List.replicate (fn.ntmps - args.length) ⟨[],.any⟩,mem⟩,[]⟩).bind fun x => match x.1 with
     | .exit _ => .fail
     | .goto _ => .fail
     | .pan y => leaveP P H X (evFn P H n) (evFnP P H X n) fn x.2.s x.2.dl (some y) x.2.s.mem
     | _ => leaveP P H X (evFn P H n) (evFnP P H X n) fn x.2.s x.2.dl none x.2.s.mem
    else .fail
  | none => .fail
 | none => .fail
theorem evFnK_ok {H : Hd} (hH : HdOk P H) {X : HdP} (hX : XOk P X) (n f K : Nat) {args : List A1} {mem : Mem} {r : Out} {mem' : Mem} (h : (evFnK P H X n f K args mem).sel = some (r, mem')) (hK : K ≤ mem.length)
  {F:Nat → Prop} {w:World} {bs:List BI} {vs:List Value} (hm:MemRel P F w bs mem) (hargs:All2 (A1.Rel F w bs) args vs) :
  Calls P f vs.toArray w (fun e w' => ∃ F' bs',Ext K F w bs F' w' bs' ∧ MemRel P F' w' bs' mem' ∧ r.Ends F' w' bs' e):=by
 unfold evFnK at h
 split at h
 rotate_left
 ·simp [Tree.sel] at h
 rename_i fn hfn
 split at h
 rotate_left
 ·simp [Tree.sel] at h
 rename_i c hb
 split at h
 rotate_left
 ·simp [Tree.sel] at h
 rename_i hle
 obtain ⟨⟨x,s1⟩,h1,h2⟩:=sel_bind h
 rw [nth_eq,Array.getElem?_toList] at hfn
 have hst:=init_ok (nt:=fn.ntmps) hm hargs (by simpa using hle)
 have hKb:K ≤ bs.length:=by rw [hm.len]; exact hK
 refine calls_of_wp_defers hfn hb (evCodeP_ok hH.pc hX.rx hX.nc (evFn_ok hH n) (evFnP_ok hH hX n) f K c 0 _ h1 (fun i b hh hi hk => hH.lh f fn c i b hh hfn hb hi (by simpa using hk)) (fun i b hh hi hk => hX.lx f fn c i b hh hfn hb hi (by simpa using hk)) (fun b hh hi hk => hX.sx f fn c b hh hfn hb hi hk) hKb (hst.toP .nil) fun F' w' bs' a' e he hs' hx => ?_)
 have key:∀ (pan:Option CV) (u:FrameMode),(leaveP P H X (evFn P H n) (evFnP P H X n) fn s1.s s1.dl pan s1.s.mem).sel = some (r,mem') → UMode F' w' bs' pan u → Leaves P fn a'.tmps (fun e w' => ∃ F' bs',Ext K F w bs F' w' bs' ∧ MemRel P F' w' bs' mem' ∧ r.Ends F' w' bs' e) a'.defers u w':=by
  intro pan u hl hu
  have:=leaveP_ok hH hX.xs (evFn_ok hH n) (evFnP_ok hH hX n) s1.dl pan s1.s.mem hl hs'.st hs'.ds hu
  exact leaveP_ok.leaves_mono (fun e w2 ⟨F2,bs2,he2,hm2,hr2⟩ => ⟨F2,bs2,he.trans he2 (he.le hKb),hm2,hr2⟩) _ _ _ this
 cases x with
 | normal => cases hx; exact key none .returning h2 rfl
 | ret => cases hx; exact key none .returning h2 rfl
 | pan y => obtain ⟨v,rfl,hv⟩:=hx; exact key (some y) _ h2 ⟨v,rfl,hv⟩
 | exit k => simp [Tree.sel] at h2
 | goto k => simp [Tree.sel] at h2
def ownCell (b o:Nat) (T:TypeId) (es:List Sh) (mem:Mem):Mem:=((⟨[],mem⟩ : St).ownM b o T es).mem
theorem ownCell_ok {F w bs mem} (hm : MemRel P F w bs mem) (b o : Nat) (T : TypeId) (es : List Sh) :
  ∃ bs',Ext bs.length F w bs F w bs' ∧ MemRel P F w bs' (ownCell b o T es mem):=by
 have hs:StRel P [] F w bs ⟨[],mem⟩ { tmps:=#[],defers:=[] }:=⟨rfl,rfl,fun i sl x h => by simp [nth] at h,hm⟩
 obtain ⟨bs',he,_,hs'⟩:=hs.place (.ownM b o T es) (Nat.le_refl _)
 exact ⟨bs',he,hs'.mem⟩
def isRow1:Option (TypeId × List CV) → Bool
 | some (_,[.row false _ _ _]) => true
 | _ => false
def okLay:Mem → Bool
 | some (_,cs) :: r => cs.all (fun x => closedC x || hasOs x) && !isRowL cs && r.all isRow1
 | _ => false
def fixB (p:Nat) (x:BI) (e:Option (TypeId × List CV)):BI:=bif isRow1 e && Nat.beq x.cap 0 then ⟨p,x.n,x.cap⟩ else x
def bsFix (p:Nat):List BI → Mem → List BI
 | x :: l,e :: m => fixB p x e :: bsFix p l m
 | l,_ => l
theorem bsFix_len (p:Nat):∀ (l:List BI) (m:Mem),(bsFix p l m).length = l.length
 | [],[] => rfl
 | [],_ :: _ => rfl
 | _ :: _,[] => rfl
 | x :: l,e :: m => by simp [bsFix,bsFix_len p l m]
theorem bsFix_nth (p : Nat) : ∀ (l : List BI) (m : Mem) (k : Nat) (y : BI), nth (bsFix p l m) k = some y → ∃ x, nth l k = some x ∧ y.n = x.n ∧ y.cap = x.cap ∧ (0 < x.cap → y = x) ∧
  (∀ T cs,nth m k = some (some (T,cs)) → isRowL cs = false → y = x) ∧ (isRow1 ((nth m k).getD none) = true → x.cap = 0 → y.p = p)
 | [],m,k,y,h => by cases m <;> simp [bsFix,nth] at h
 | x :: l,[],k,y,h => ⟨y,h,rfl,rfl,fun _ => rfl,fun _ _ _ _ => rfl,fun hr => by simp [nth,isRow1] at hr⟩
 | x :: l, e :: m, 0, y, h => by
   simp only [bsFix,nth,Option.some.injEq] at h
   subst h
   refine ⟨x,rfl,?_,?_,fun h0 => ?_,fun T cs hc hr => ?_,fun hr h0 => ?_⟩
   ·unfold fixB; cases (isRow1 e && Nat.beq x.cap 0) <;> rfl
   ·unfold fixB; cases (isRow1 e && Nat.beq x.cap 0) <;> rfl
   ·have : Nat.beq x.cap 0 = false := by
     cases hb:Nat.beq x.cap 0
     ·rfl
     ·have:=Nat.eq_of_beq_eq_true hb; omega
    unfold fixB
    rw [this,Bool.and_false]; rfl
   ·simp only [nth,Option.some.injEq] at hc
    subst hc
    have:isRow1 (some (T,cs)) = false:=by
     unfold isRow1
     split
     ·rename_i he
      simp only [Option.some.injEq,Prod.mk.injEq] at he
      rw [he.2] at hr
      simp [isRowL] at hr
     ·rfl
    unfold fixB
    rw [this,Bool.false_and]; rfl
   ·simp only [nth,Option.getD_some] at hr
    unfold fixB
    rw [hr,h0]; rfl
 | x :: l,e :: m,k + 1,y,h => bsFix_nth p l m k y h
theorem okLay_ent {m : Mem} (h : okLay m = true) {k : Nat} {T : TypeId} {cs : List CV} (hk : nth m k = some (some (T, cs))) :
  (k = 0 ∧ isRowL cs = false ∧ ∀ x ∈ cs,closedC x = true ∨ hasOs x = true) ∨ (0 < k ∧ ∃ es n ρ,cs = [.row false es n ρ]):=by
 unfold okLay at h
 split at h
 ·rename_i T' cs' r
  simp only [Bool.and_eq_true,Bool.not_eq_true',List.all_eq_true,Bool.or_eq_true] at h
  obtain ⟨⟨h1,h2⟩,h3⟩:=h
  cases k with
  | zero =>
    simp only [nth,Option.some.injEq,Prod.mk.injEq] at hk
    obtain ⟨rfl,rfl⟩:=hk
    exact .inl ⟨rfl,h2,h1⟩
  | succ k =>
    have:=h3 _ (nth_mem (l:=r) (k:=k) hk)
    unfold isRow1 at this
    split at this
    ·rename_i es n ρ he
     simp only [Option.some.injEq,Prod.mk.injEq] at he
     obtain ⟨rfl,rfl⟩:=he
     exact .inr ⟨by omega,_,_,_,rfl⟩
    ·cases this
 ·cases h
theorem MemRel.fix {F w bs m} (hm : MemRel P F w bs m) (ho : okLay m = true) (hall : ∀ k, k < m.length → ∃ T cs, nth m k = some (some (T, cs))) : MemRel P F w (bsFix w.heap.size bs m) m ∧ (∀ x, nth bs 0 = some x → nth (bsFix w.heap.size bs m) 0 = some x) ∧
  ∀ y ∈ bsFix w.heap.size bs m,(∃ k T cs,nth m k = some (some (T,cs)) ∧ liveL y cs ∧ nth bs k = some y) ∨ y.p = w.heap.size:=by
 have hl:(bsFix w.heap.size bs m).length = m.length:=by rw [bsFix_len]; exact hm.len
 have live:∀ k y T cs,nth (bsFix w.heap.size bs m) k = some y → nth m k = some (some (T,cs)) → liveL y cs → nth bs k = some y:=by
  intro k y T cs hk hc hv
  obtain ⟨x,hx,h1,h2,h3,h4,h5⟩:=bsFix_nth _ _ _ _ _ hk
  rcases okLay_ent ho hc with ⟨_,hr,_⟩ | ⟨_,es,n,ρ,rfl⟩
  ·rw [h4 T cs hc hr]; exact hx
  ·rw [h3 (by rw [← h2]; exact hv.2)]; exact hx
 refine ⟨⟨hl,fun k x T cs hk hc hv => hm.loc k x T cs (live k x T cs hk hc hv) hc hv,fun k k' x x' T cs T' cs' a1 a2 a3 a4 a5 a6 a7 => hm.inj k k' x x' T cs T' cs' (live _ _ _ _ a1 a3 a5) (live _ _ _ _ a2 a4 a6) a3 a4 a5 a6 a7,
  fun k T cs x hc hr hk => ?_,fun k T fz es n ρ x hc hk => ?_,fun k T f i st cs x hc hk => ?_⟩,fun x hx => ?_,fun y hy => ?_⟩
 ·have hb:=live k x T cs hk hc (liveL_of hr)
  obtain ⟨vs,g1,g2⟩:=hm.cont k T cs x hc hr hb
  refine ⟨vs,g1,?_⟩
  rcases okLay_ent ho hc with ⟨_,_,hcl⟩ | ⟨_,es,n,ρ,rfl⟩
  ·have one : ∀ c v, (closedC c = true ∨ hasOs c = true) → CV.Rel F w bs c v → CV.Rel F w (bsFix w.heap.size bs m) c v := by
    intro c v hc hd
    rcases hc with h1 | h1
    ·exact hd.closed h1
    ·cases c with
     | os b sz =>
       cases hd with
      | os hb0 hbase =>
        rename_i x0 base
        have hlt:=nth_lt hb0
        rw [← bsFix_len w.heap.size bs m] at hlt
        have hy:nth (bsFix w.heap.size bs m) b = some (bsFix w.heap.size bs m)[b]:=by rw [nth_eq]; exact List.getElem?_eq_getElem hlt
        obtain ⟨x2,hx2,e1,e2,e3,_,_⟩:=bsFix_nth _ _ _ _ _ hy
        rw [hb0] at hx2
        simp only [Option.some.injEq] at hx2
        subst hx2
        rw [← e1,← e2]
        exact .os hy fun h0 => by rw [e2] at h0; rw [e3 h0]; exact hbase h0
     | _ => simp [hasOs] at h1
   have all:∀ {l:List CV} {vs:List Value},All2 (CV.Rel F w bs) l vs → (∀ x ∈ l,closedC x = true ∨ hasOs x = true) → All2 (CV.Rel F w (bsFix w.heap.size bs m)) l vs:=by
    intro l vs h
    induction h with
    | nil => intro _; exact .nil
    | cons hd _ ih => intro hl; exact .cons (one _ _ (hl _ (by simp)) hd) (ih fun x hx => hl x (List.mem_cons_of_mem _ hx))
   exact all g2 hcl
  ·simp [isRowL] at hr
 ·obtain ⟨y,hy,e1,e2,e3,_,_⟩:=bsFix_nth _ _ _ _ _ hk
  have h:=hm.row k T fz es n ρ y hc hy
  refine ⟨by rw [e1]; exact h.len,by rw [e2]; exact h.le,by rw [e2]; exact h.mx,fun h0 => ?_,fun h0 => ?_⟩
  ·rw [e2] at h0
   rw [e3 h0]
   exact h.blk h0
  ·rw [e2] at h0
   rw [e3 h0]
   exact h.frz h0
 ·rcases okLay_ent ho hc with ⟨_,hr,_⟩ | ⟨_,es,n,ρ,e⟩
  ·simp [isRowL] at hr
  ·simp at e
 ·have hlt:=nth_lt hx
  rw [← bsFix_len w.heap.size bs m] at hlt
  have hy:nth (bsFix w.heap.size bs m) 0 = some (bsFix w.heap.size bs m)[0]:=by rw [nth_eq]; exact List.getElem?_eq_getElem hlt
  obtain ⟨x2,hx2,_,_,_,e4,_⟩:=bsFix_nth _ _ _ _ _ hy
  rw [hx] at hx2
  simp only [Option.some.injEq] at hx2
  subst hx2
  rw [bsFix_len,hm.len] at hlt
  obtain ⟨T,cs,hc⟩:=hall 0 hlt
  rcases okLay_ent ho hc with ⟨_,hr,_⟩ | ⟨h0,_⟩
  ·rw [hy,e4 T cs hc hr]
  ·omega
 ·obtain ⟨k,hk⟩:=mem_nth hy
  have hlt:=nth_lt hk
  rw [bsFix_len,hm.len] at hlt
  obtain ⟨T,cs,hc⟩:=hall k hlt
  obtain ⟨x2,hx2,_,e2,e3,e4,e5⟩:=bsFix_nth _ _ _ _ _ hk
  rcases okLay_ent ho hc with ⟨_,hr,_⟩ | ⟨h0,es,n,ρ,rfl⟩
  ·exact .inl ⟨k,T,cs,hc,liveL_of hr,live k y T cs hk hc (liveL_of hr)⟩
  ·rcases Nat.eq_zero_or_pos x2.cap with h0 | h0
   ·exact .inr (e5 (by rw [hc]; rfl) h0)
   ·have hv:liveL y [.row false es n ρ]:=⟨rfl,by rw [e2]; exact h0⟩
    exact .inl ⟨k,T,_,hc,hv,live k y T _ hk hc hv⟩
structure Clus (X:Type) where
 lay:X → Mem
 get:Mem → Option X
 prep:Nat → Mem → Mem
structure Clus.Ok {X:Type} (C:Clus X):Prop where
 get:∀ m x,C.get m = some x → ∀ (P:Program) F w bs,MemRel P F w bs m → MemRel P F w bs (C.lay x)
 liv:∀ m x,C.get m = some x → ∀ k y T cs,nth (C.lay x) k = some (some (T,cs)) → liveL y cs → ∃ T' cs',nth m k = some (some (T',cs')) ∧ liveL y cs'
 ok:∀ x,okLay (C.lay x) = true
 prep:∀ (P:Program) F w bs b mem,MemRel P F w bs mem → ∃ bs',Ext bs.length F w bs F w bs' ∧ MemRel P F w bs' (C.prep b mem)
theorem okLay_all {m:Mem} (h:okLay m = true):∀ k,k < m.length → ∃ T cs,nth m k = some (some (T,cs)):=by
 unfold okLay at h
 split at h
 ·rename_i T' cs' r
  simp only [Bool.and_eq_true,List.all_eq_true] at h
  intro k hk
  cases k with
  | zero => exact ⟨T',cs',rfl⟩
  | succ k =>
    have hlt:k < r.length:=by simpa using hk
    have hn:nth r k = some r[k]:=by rw [nth_eq]; exact List.getElem?_eq_getElem hlt
    have:=h.2 _ (nth_mem hn)
    unfold isRow1 at this
    split at this
    ·rename_i T es n ρ he
     exact ⟨T,_,by show nth r k = _; rw [hn,he]⟩
    ·cases this
 ·cases h
def ownAll (b:Nat):List (Nat × TypeId × List Sh) → Mem → Mem
 | [],m => m
 | (o,T,es) :: r,m => ownAll b r (ownCell b o T es m)
theorem ownAll_ok {F w} (b:Nat):∀ (l:List (Nat × TypeId × List Sh)) {bs mem},MemRel P F w bs mem → ∃ bs',Ext bs.length F w bs F w bs' ∧ MemRel P F w bs' (ownAll b l mem)
 | [],bs,_,hm => ⟨bs,Ext.refl,hm⟩
 | (o, T, es) :: r, bs, _, hm => by
   obtain ⟨bs1,e1,h1⟩:=ownCell_ok hm b o T es
   obtain ⟨bs2,e2,h2⟩:=ownAll_ok b r h1
   exact ⟨bs2,e1.trans e2 e1.le,h2⟩
def anyCell (b o:Nat) (mem:Mem):Mem :=
 match nth mem b with
 | some (some (T,cs)) => if isRowL cs || isRowL (setN cs o .any) then mem else setN mem b (some (T,setN cs o .any))
 | _ => mem
theorem All2.setAny {F w bs} {l:List CV} {vs:List Value} (h:All2 (CV.Rel F w bs) l vs):∀ (o:Nat),All2 (CV.Rel F w bs) (setN l o .any) vs:=by
 induction h with
 | nil => intro o; exact .nil
 | cons hd h' ih =>
   intro o
   cases o with
  | zero => exact .cons (.any hd.one) h'
  | succ o => exact .cons hd (ih o)
theorem anyCell_ok {F w bs mem} (hm:MemRel P F w bs mem) (b o:Nat):MemRel P F w bs (anyCell b o mem):=by
 unfold anyCell
 split
 ·rename_i T cs hb
  split
  ·exact hm
  ·rename_i hr
   simp only [Bool.or_eq_true,not_or,Bool.not_eq_true] at hr
   exact hm.cellsTo hb hr.1 hr.2 fun x vs _ _ h => h.setAny o
 ·exact hm
def clusPm (b:Nat) (mem:Mem):List Nat:=b :: idsE mem b
def clusGet {X:Type} (C:Clus X) (b:Nat) (mem:Mem):Option X :=
 if nodupN (clusPm b mem) && (clusPm b mem).all (fun k => Nat.blt k mem.length) then C.get ((clusPm b mem).map (renE (clusPm b mem) mem)) else none
theorem clusGet_ok {X : Type} {C : Clus X} (hC : C.Ok) {b : Nat} {mem : Mem} {x : X} (h : clusGet C b mem = some x) {F w bs} (hm : MemRel P F w bs mem) :
  nodupN (clusPm b mem) = true ∧ (∀ k ∈ clusPm b mem,k < mem.length) ∧ C.get ((clusPm b mem).map (renE (clusPm b mem) mem)) = some x ∧ MemRel P F w (renB (clusPm b mem) bs) (C.lay x):=by
 unfold clusGet at h
 split at h
 ·rename_i hc
  rw [Bool.and_eq_true,List.all_eq_true] at hc
  have hlt:∀ k ∈ clusPm b mem,k < mem.length:=fun k hk => Nat.blt_eq.mp (hc.2 k hk)
  exact ⟨hc.1,hlt,h,hC.get _ _ h _ _ _ _ (hm.ren hc.1 hlt)⟩
 ·cases h
def killAll:List Nat → Mem → Mem
 | [],m => m
 | k :: r,m => killAll r (setN m k none)
theorem killAll_len:∀ (l:List Nat) (m:Mem),(killAll l m).length = m.length
 | [],_ => rfl
 | k :: r,m => by unfold killAll; rw [killAll_len r,setN_length]
theorem killAll_ok {F w bs}:∀ (l:List Nat) {mem:Mem},MemRel P F w bs mem → MemRel P F w bs (killAll l mem)
 | [],_,h => h
 | k :: r,_,h => killAll_ok r (h.kill k)
theorem killAll_nth:∀ (l:List Nat) {m:Mem} {k:Nat} {T:TypeId} {cs:List CV},nth (killAll l m) k = some (some (T,cs)) → k ∉ l ∧ nth m k = some (some (T,cs))
 | [],_,_,_,_,h => ⟨by simp,h⟩
 | j :: r, m, k, T, cs, h => by
   obtain ⟨h1,h2⟩:=killAll_nth r (m:=setN m j none) h
   rcases nth_setN h2 with ⟨_,e⟩ | ⟨hne,h2⟩
   ·cases e
   ·exact ⟨by simp only [List.mem_cons,not_or]; exact ⟨hne,h1⟩,h2⟩
def clusPut (b:Nat) (mem m':Mem):Mem :=
 let J:=killAll (clusPm b mem) mem ++ m'.map (shE mem.length)
 match nth J mem.length with
 | some e => setN (setN J mem.length none) b e
 | none => J
def clG {X:Type} (C:Clus X) (u:List A1 → X → Tree (AV × X)):List A1 → Mem → Tree (AV × Mem)
 | .c (.ptr b 0) :: rest, mem => if (frz1s mem rest).2.all closedA then
   let m:=C.prep b (frz1s mem rest).1
   match clusGet C b m with
   | some x => (u (frz1s mem rest).2 x).bind fun z => if closedAV z.1 then .leaf (z.1,clusPut b m (C.lay z.2)) else .fail
   | none => .fail
   else .fail
 | _,_ => .fail
def clusOut {X:Type} (C:Clus X) (y:Out × Mem):Tree (AV × X) :=
 match y.1 with
 | .ret a => if closedAV (frzA y.2 a).2 then (match clusGet C 0 (frzA y.2 a).1 with
  | some x => .leaf ((frzA y.2 a).2,x)
  | none => .fail) else .fail
 | .pan _ => .fail
def clusEv {X:Type} (C:Clus X) (P:Program) (H:Hd) (Xp:HdP) (n f:Nat) (rest:List A1) (x:X):Tree (AV × X) :=
 (evFnK P H Xp n f 1 (.c (.ptr 0 0) :: rest) (C.lay x)).bind (clusOut C)
theorem renB_mem {pm:List Nat} {bs:List BI} (hl:∀ k ∈ pm,k < bs.length) {y:BI} (hy:y ∈ renB pm bs):y ∈ bs:=by
 simp only [renB,List.mem_map] at hy
 obtain ⟨k,hk,rfl⟩:=hy
 obtain ⟨x,hb⟩ : ∃ x,nth bs k = some x:=⟨bs[k]'(hl k hk),by rw [nth_eq]; exact List.getElem?_eq_getElem (hl k hk)⟩
 rw [hb]
 exact nth_mem hb
theorem renB_at {pm:List Nat} {bs:List BI} (hl:∀ k ∈ pm,k < bs.length) {i:Nat} {y:BI} (hy:nth (renB pm bs) i = some y):∃ j,nth pm i = some j ∧ nth bs j = some y:=by
 have hi:=nth_lt hy
 simp only [renB,List.length_map] at hi
 obtain ⟨j,hp⟩ : ∃ j,nth pm i = some j:=⟨pm[i],by rw [nth_eq]; exact List.getElem?_eq_getElem hi⟩
 obtain ⟨x,hb⟩ : ∃ x,nth bs j = some x:=⟨bs[j]'(hl j (nth_mem hp)),by rw [nth_eq]; exact List.getElem?_eq_getElem (hl j (nth_mem hp))⟩
 refine ⟨_,hp,?_⟩
 rw [renB_nth hp hb] at hy
 rw [hb]; exact hy
theorem clG_ok {X : Type} {C : Clus X} (hC : C.Ok) {H : Hd} (hH : HdOk P H) {Xp : HdP} (hX : XOk P Xp) (n f : Nat) {u : List A1 → X → Tree (AV × X)}
  (hu:∀ rest x z,(u rest x).sel = some z → ∃ y,(clusEv C P H Xp n f rest x).sel = some y ∧ leA y.1 z.1 ∧ ∀ F w bs,MemRel P F w bs (C.lay y.2) → MemRel P F w bs (C.lay z.2)):McOne P f (clG C u):=by
 intro args mem r mem' h F w bs vs hm hargs
 unfold clG at h
 split at h
 rotate_left
 ·simp [Tree.sel] at h
 rename_i b rest
 split at h
 rotate_left
 ·simp [Tree.sel] at h
 rename_i hrest
 cases hargs with
 | cons hp hvs =>
 rename_i v0 vs
 obtain ⟨F1,ef,hmf,hvs⟩:=frz1s_ok hm hvs
 generalize (frz1s mem rest).2 = rest at h hrest hvs
 generalize (frz1s mem _).1 = memf at h hmf
 have hp:=A1.Rel.grow ef.grow hp
 suffices key:Calls P f (v0 :: vs).toArray w (fun e w' => ∃ v F' bs',e = .returned v ∧ Ext bs.length F1 w bs F' w' bs' ∧ MemRel P F' w' bs' mem' ∧ AV.Rel F' w' bs' r v) from
  key.mono fun e w' ⟨v,F',bs',h1,h2,h3,h4⟩ => ⟨v,F',bs',h1,ef.trans h2 (Nat.le_refl _),h3,h4⟩
 clear hm ef
 have hm:=hmf
 obtain ⟨bs1,e1,hm1⟩:=hC.prep P F1 w bs b memf hm
 simp only at h
 generalize C.prep b memf = m at h hm1
 split at h
 rotate_left
 ·simp [Tree.sel] at h
 rename_i x hx
 obtain ⟨z,hz,h2⟩:=sel_bind h
 split at h2
 rotate_left
 ·simp [Tree.sel] at h2
 rename_i hcz
 simp only [Tree.sel,Option.some.injEq,Prod.mk.injEq] at h2
 obtain ⟨rfl,rfl⟩:=h2
 obtain ⟨hnd,hlt,hget,hsub⟩:=clusGet_ok hC hx hm1
 obtain ⟨hfix,hfix0,hfixm⟩:=hsub.fix (hC.ok x) (okLay_all (hC.ok x))
 have hltb:∀ k ∈ clusPm b m,k < bs1.length:=fun k hk => by rw [hm1.len]; exact hlt k hk
 have hpos:∀ x:X,1 ≤ (C.lay x).length:=fun x => by
  have:=hC.ok x
  cases hl:C.lay x with
  | nil => rw [hl] at this; simp [okLay] at this
  | cons _ _ => simp
 generalize hbsS:bsFix w.heap.size (renB (clusPm b m) bs1) (C.lay x) = bsS at hfix hfix0 hfixm
 have away:∀ k y T cs,nth bs1 k = some y → nth m k = some (some (T,cs)) → liveL y cs → k ∉ clusPm b m → ∀ z ∈ bsS,z.p ≠ y.p:=by
  intro k y T cs hk hc hl hn z hz e
  rcases hfixm z hz with ⟨i,T1,cs1,g1,g2,g3⟩ | g
  ·obtain ⟨T2,cs2,k1,k2⟩:=hC.liv _ _ hget i z T1 cs1 g1 g2
   obtain ⟨j,j1,j2⟩:=renB_at hltb g3
   rw [nth_eq,List.getElem?_map] at k1
   simp only [Option.map_eq_some_iff] at k1
   obtain ⟨j',hj',k1⟩:=k1
   rw [← nth_eq,j1] at hj'
   simp only [Option.some.injEq] at hj'
   subst hj'
   unfold renE at k1
   split at k1
   ·rename_i T3 cs3 hm3
    simp only [Option.some.injEq,Prod.mk.injEq] at k1
    obtain ⟨rfl,rfl⟩:=k1
    have:=hm1.inj j k z y _ cs3 T cs j2 hk hm3 hc (ren_live k2) hl e
    subst this
    exact hn (nth_mem j1)
   ·cases k1
  ·have:=(hm1.loc k y T cs hk hc hl).2
   omega
 have inbs:∀ z ∈ bsS,z ∈ bs1 ∨ z.p = w.heap.size:=by
  intro z hz
  rcases hfixm z hz with ⟨i,T1,cs1,g1,g2,g3⟩ | g
  ·obtain ⟨j,_,j2⟩:=renB_at hltb g3
   exact .inl (nth_mem j2)
  ·exact .inr g
 cases hp with
 | ptr hx0 =>
 rename_i x0
 have hb1:nth bs1 b = some x0:=e1.pre b x0 (nth_lt hx0) hx0
 have hS0:nth bsS 0 = some x0:=hfix0 x0 (renB_nth (pm:=clusPm b m) (b':=0) rfl hb1)
 have hargs1:All2 (A1.Rel F1 w bsS) (.c (.ptr 0 0) :: rest) (.pointer (some ⟨x0.p,0,none⟩) :: vs):=.cons (CV.Rel.ptr (x:=x0) hS0) (closed_args hvs hrest)
 obtain ⟨y,hy1,hy2,hy3⟩:=hu rest x z hz
 unfold clusEv at hy1
 obtain ⟨⟨o,m1⟩,h4,h5⟩:=sel_bind hy1
 refine (evFnK_ok hH hX n f 1 h4 (hpos x) hfix hargs1).mono fun e w' ⟨F1',bs',hext,hm',hend⟩ => ?_
 unfold clusOut at h5
 split at h5
 rotate_left
 ·simp [Tree.sel] at h5
 rename_i a hoa
 simp only at hoa
 subst hoa
 split at h5
 rotate_left
 ·simp [Tree.sel] at h5
 rename_i hca
 split at h5
 rotate_left
 ·simp [Tree.sel] at h5
 rename_i x' hx'
 simp only [Tree.sel,Option.some.injEq] at h5
 subst h5
 obtain ⟨v,rfl,hv⟩:=hend
 obtain ⟨F2,e2,hm2,r2⟩:=frzA_ok hm' hv
 have hS1:1 ≤ bsS.length:=nth_lt hS0
 have e3:=hext.trans e2 (hext.le hS1)
 obtain ⟨hnd2,hlt2,_,hsub2⟩:=clusGet_ok hC hx' hm2
 have hlt2b:∀ k ∈ clusPm 0 (frzA m1 a).1,k < bs'.length:=fun k hk => by rw [hm2.len]; exact hlt2 k hk
 have hsub3:=hy3 _ _ _ hsub2
 have hb0:nth bs' 0 = some x0:=e3.pre 0 x0 (by omega) hS0
 have hB0:nth (renB (clusPm 0 (frzA m1 a).1) bs') 0 = some x0:=renB_nth (pm:=clusPm 0 (frzA m1 a).1) (b':=0) rfl hb0
 have hBm:∀ z ∈ renB (clusPm 0 (frzA m1 a).1) bs',z ∈ bs':=fun z hz => renB_mem hlt2b hz
 generalize renB (clusPm 0 (frzA m1 a).1) bs' = bs2 at hsub3 hB0 hBm
 have he1:Ext bs1.length F1 w bs1 F2 w' bs1:=by
  refine ⟨e3.size,e3.F1,fun p hF hps hb => e3.F2 p hF hps fun z hz => ?_,fun p hp hb => e3.same p hp (hb.imp id fun hb z hz => ?_),e3.os,e3.tape,e3.output,fun _ _ _ h => h,fun z hz => .inl ⟨z,hz,rfl⟩⟩
  ·rcases inbs z hz with h | h
   ·exact hb z h
   ·omega
  ·rcases inbs z hz with h | h
   ·exact hb z h
   ·omega
 have hkm:MemRel P F2 w' bs1 (killAll (clusPm b m) m):=(killAll_ok (clusPm b m) hm1).move he1 fun k y T cs hk hc hl => by
  obtain ⟨hn,hc⟩:=killAll_nth _ hc
  obtain ⟨g1,g2⟩:=hm1.loc k y T cs hk hc hl
  have ha:=away k y T cs hk hc hl hn
  exact ⟨e3.F2 y.p g1 g2 ha,e3.same y.p g2 (.inr ha)⟩
 have hj:=hkm.join hsub3 fun k y T cs hk hc hl z hz e => by
  obtain ⟨hn,hc⟩:=killAll_nth _ hc
  obtain ⟨g1,g2⟩:=hm1.loc k y T cs hk hc hl
  rcases e3.mem z (hBm z hz) with ⟨z',hz',e'⟩ | hs
  ·exact away k y T cs hk hc hl hn z' hz' (e'.trans e.symm)
  ·omega
 have hL:bs1.length = m.length:=hm1.len
 rw [hL] at hj
 obtain ⟨T0,cs0,h00⟩:=okLay_all (hC.ok z.2) 0 (hpos z.2)
 have hr0:isRowL cs0 = false:=by
  rcases okLay_ent (hC.ok z.2) h00 with ⟨_,h,_⟩ | ⟨h,_⟩
  ·exact h
  ·omega
 have hJL:nth (killAll (clusPm b m) m ++ (C.lay z.2).map (shE m.length)) m.length = some (some (T0,cs0.map (shC m.length))):=by
  have:=nth_shift (killAll (clusPm b m) m) ((C.lay z.2).map (shE m.length)) 0
  rw [killAll_len,Nat.add_zero] at this
  rw [this,nth_eq,List.getElem?_map,← nth_eq,h00]
  rfl
 have hbL:b < m.length:=by rw [← hL]; exact nth_lt hb1
 have hBL:nth (bs1 ++ bs2) m.length = some x0:=by
  have:=nth_shift bs1 bs2 0
  rw [Nat.add_zero,hL] at this
  rw [this]
  exact hB0
 have hBb:nth (bs1 ++ bs2) b = some x0:=nth_append hb1
 have hrs:isRowL (cs0.map (shC m.length)) = false:=by
  cases hh:isRowL (cs0.map (shC m.length)) with
  | false => rfl
  | true =>
    exfalso
    unfold isRowL at hh
    split at hh
    ·rename_i he; rw [sh_row he] at hr0; simp [isRowL] at hr0
    ·rename_i he; obtain ⟨ds,e,_⟩:=sh_lp he; rw [e] at hr0; simp [isRowL] at hr0
    ·cases hh
 have hfin:MemRel P F2 w' (bs1 ++ bs2) (clusPut b m (C.lay z.2)):=by
  unfold clusPut
  simp only [hJL]
  have hk:=hj.kill m.length
  obtain ⟨g1,g2⟩:=hj.loc m.length x0 T0 _ hBL hJL (liveL_of hrs)
  refine hk.put hBb (fun T cs h => ?_) (fun _ => ⟨g1,g2⟩) (fun _ k y T' cs' hk' hc hl e => ?_) (fun _ => hj.cont m.length T0 _ x0 hJL hrs hBL) (fun fz es n ρ h => ?_) (fun f i st cs' h => ?_)
  ·rcases nth_setN h with ⟨_,h⟩ | ⟨_,h⟩
   ·cases h
   ·rcases nth_app h with ⟨_,h⟩ | ⟨h1,_⟩
    ·exact (killAll_nth _ h).1 (by simp [clusPm])
    ·rw [killAll_len] at h1; omega
  ·rcases nth_setN hc with ⟨_,h⟩ | ⟨hne,hc⟩
   ·cases h
   ·exact hne (hj.inj k m.length y x0 T' cs' T0 _ hk' hBL hc hJL hl (liveL_of hrs) e)
  ·rw [h] at hrs; simp [isRowL] at hrs
  ·rw [h] at hrs; simp [isRowL] at hrs
 have eF:Ext bs1.length F1 w bs1 F2 w' (bs1 ++ bs2):=by
  refine ⟨he1.size,he1.F1,he1.F2,he1.same,he1.os,he1.tape,he1.output,fun k y hk hy => nth_append hy,fun y hy => ?_⟩
  rcases List.mem_append.1 hy with h | h
  ·exact .inl ⟨y,h,rfl⟩
  ·rcases e3.mem y (hBm y h) with ⟨z',hz',e'⟩ | hs
   ·rcases inbs z' hz' with h | h
    ·exact .inl ⟨z',h,e'⟩
    ·exact .inr (by omega)
   ·exact .inr hs
 refine ⟨v,F2,_,rfl,e1.trans eF e1.le,hfin,?_⟩
 have hv0:AV.Rel F2 w' [] z.1 v:=hy2 _ _ _ (r2.closed hca)
 exact hv0.closed hcz
end Go.Sx
