/-
 Part SpY of the proof: RolF RolG RolH RolK RolL RolZ RolZa RolZb RolZc RolZd EngQa FaiE FaiF FaiG EngNc.
-/
import Derived.Test.YtiefjlcakpdfeaaGreatSpX
import Derived.Test.YtiefjlcakpdfeaaGreatSpO
import Derived.Test.YtiefjlcakpdfeaaGreatSpR
namespace Go.Proofs.YtiefjlcakpdfeaaGreat.Ro
open Go Go.Sx Classical
set_option maxRecDepth 100000
def chk (a r e p:Int) (l:Ln) (s:Int):Int :=
 bif !sit a then 2 else bif !(le 0 r && le r 5) then 18 else bif (!tim e || !tim p) || (e == 0 && r != 0) then 2 else bif !corr l then 3 else bif lt e (hd l).e then 13 else bif (hd l).t != p then 22 else bif (rcv r && !oth s a) || (!rcv r && s != -1) then 1 else 0
theorem all_of_sel {α:Type} {r:α}:∀ {t:Tree α},t.sel = some r → t.All (fun z => z = r)
 | .leaf a, h => by
   simp only [Tree.sel,Option.some.injEq] at h
   exact h
 | .br c t e,h => ⟨fun hc => all_of_sel (by simpa [Tree.sel,hc] using h),fun hc => all_of_sel (by simpa [Tree.sel,hc] using h)⟩
 | .need c t, h => by
   cases c
   ·simp [Tree.sel] at h
   ·exact ⟨rfl,all_of_sel (by simpa [Tree.sel] using h)⟩
 | .fail,h => by simp [Tree.sel] at h
theorem tree23 (q1 q2 te tp eo co he ht ra rb pre:Bool) (hp:pre = true):(Tree.br (!q1) (Tree.leaf (AV.one (A1.c (I 2))))
 (Tree.br (!q2) (Tree.leaf (AV.one (A1.c (I 18))))
  (Tree.br (!te)
   (Tree.br (!te) (Tree.leaf (AV.one (A1.c (I 2))))
    (Tree.need (pre)
     (Tree.br (!co) (Tree.leaf (AV.one (A1.c (I 3))))
      (Tree.need (pre)
       (Tree.br (he) (Tree.leaf (AV.one (A1.c (I 13))))
        (Tree.need (pre)
         (Tree.br (ht) (Tree.leaf (AV.one (A1.c (I 22))))
          (Tree.br (ra)
           (Tree.br (ra) (Tree.leaf (AV.one (A1.c (I 1))))
            (Tree.leaf (AV.one (A1.c (I 0)))))
           (Tree.br (rb) (Tree.leaf (AV.one (A1.c (I 1))))
            (Tree.leaf (AV.one (A1.c (I 0)))))))))))))
   (Tree.br (!tp)
    (Tree.br (!tp) (Tree.leaf (AV.one (A1.c (I 2))))
     (Tree.need (pre)
      (Tree.br (!co) (Tree.leaf (AV.one (A1.c (I 3))))
       (Tree.need (pre)
        (Tree.br (he) (Tree.leaf (AV.one (A1.c (I 13))))
         (Tree.need (pre)
          (Tree.br (ht) (Tree.leaf (AV.one (A1.c (I 22))))
           (Tree.br (ra)
            (Tree.br (ra) (Tree.leaf (AV.one (A1.c (I 1))))
             (Tree.leaf (AV.one (A1.c (I 0)))))
            (Tree.br (rb) (Tree.leaf (AV.one (A1.c (I 1))))
             (Tree.leaf (AV.one (A1.c (I 0)))))))))))))
    (Tree.br eo (Tree.leaf (AV.one (A1.c (I 2))))
     (Tree.need (pre)
      (Tree.br (!co) (Tree.leaf (AV.one (A1.c (I 3))))
       (Tree.need (pre)
        (Tree.br (he) (Tree.leaf (AV.one (A1.c (I 13))))
         (Tree.need (pre)
          (Tree.br (ht) (Tree.leaf (AV.one (A1.c (I 22))))
           (Tree.br (ra)
            (Tree.br (ra) (Tree.leaf (AV.one (A1.c (I 1))))
             (Tree.leaf (AV.one (A1.c (I 0)))))
            (Tree.br (rb) (Tree.leaf (AV.one (A1.c (I 1))))
             (Tree.leaf (AV.one (A1.c (I 0))))))))))))))))).sel = some (AV.one (.c (I (bif !q1 then 2 else bif !q2 then 18 else bif (!te || !tp) || eo then 2 else bif !co then 3 else bif he then 13 else bif ht then 22 else bif ra || rb then 1 else 0)))):=by
 subst hp
 cases q1
 ·rfl
 cases q2
 ·rfl
 cases te
 ·rfl
 cases tp
 ·rfl
 cases eo
 ·cases co
  ·rfl
  cases he
  ·cases ht
   ·cases ra <;> cases rb <;> rfl
   ·rfl
  ·rfl
 ·rfl
noncomputable def Gchk:List A1 → Option (Bool × AV)
 | [.agg [.int .i64 a,.int .i64 r,.int .i64 e,.int .i64 p,.sl [.int .i64,.int .i64,.int .i64] n ρ,.int .i64 s,.bool _,.bool _]] => some (dec (fewN n),.one (.c (I (chk a r e p ⟨n,ρ⟩ s))))
 | _ => none
theorem sit3 (a:Int):(le 0 a && le a 3) = sit a:=by
 unfold sit
 rw [Bool.eq_iff_iff]
 simp only [Bool.and_eq_true,le_iff,lt_iff]
 omega
theorem p23:TcOne Tryz.prog 47 (nG Gchk):=tcOne_of_tree h7 10 47 fun args r h => by
 unfold Gchk at h; split at h
 ·rename_i a r e p n ρ s l c
  obtain ⟨hp,rfl⟩:=Prod.mk.inj (Option.some.inj h)
  have ht:=tree23 (le 0 a && le a 3) (le 0 r && le r 5) (tim e) (tim p) (e == 0 && r != 0) (corr ⟨n,ρ⟩) (lt e (hd ⟨n,ρ⟩).e) ((hd ⟨n,ρ⟩).t != p) (rcv r && !oth s a) (!rcv r && s != -1) (dec (fewN n)) hp
  rw [sit3] at ht
  refine ⟨rfl,_,?_,all_of_sel ht⟩
  rw [← sit3]
  kernel_rfl
 ·cases h
noncomputable abbrev H8:Hd:=⟨(47,nG Gchk) :: H7.pc,[],[],H7.mc⟩
theorem h8:HdOk Tryz.prog H8:=h7.tcCons p23
structure LL where
 l:Ln
 m:Ln
def dif (ρ σ:Val) (i:Nat):Bool :=
 !(((ρ.at i).at 0).N [] == ((σ.at i).at 0).N [] && (((ρ.at i).at 1).N [] == ((σ.at i).at 1).N [] && (((ρ.at i).at 2).N [] == ((σ.at i).at 2).N [] && true)))
def difL (c:LL) (i:Nat):Bool:=dif c.l.ρ c.m.ρ i
def eqL (c:LL):Bool:=bif c.l.n == c.m.n then !(anyB (difL c) c.l.n) else false
def TXe (c:LL) (i:Int):Tree (XE × Int) :=
 .br (lt i (toInt64 c.l.n)) (.need (inRange i c.l.n) (.need (inRange i c.m.n) (.br (dif c.l.ρ c.m.ρ i.toNat) (.leaf (.ret,i)) (.leaf (.normal,IntKind.i64.wrap (i + 1)))))) (.leaf (.exit 0,i))
theorem sqE (c:LL) (he:c.l.n = c.m.n) (hn:fewN c.l.n):Sq (TXe c) (fun i => (c.l.n - i).toNat) (fun i => (i:Int)) (fun i => (i:Int)) c.l.n (difL c) .ret (.exit 0) where
 out:=by simp
 hit:=by simp
 meas i hi:=by
  show ((c.l.n:Int) - (i:Int)).toNat = c.l.n - i
  omega
 round i hi:=by
  unfold fewN at hn
  have hl:lt (i:Int) (toInt64 c.l.n) = true:=ltF hi
  have hw:IntKind.i64.wrap ((i:Int) + 1) = ((i + 1:Nat):Int):=by rw [w64_id (by omega) (by omega)]; omega
  refine ⟨fun _ => ⟨inR hi,inR (he ▸ hi),fun hb => ?_,fun hb => ?_⟩,fun h => ?_⟩
  ·have:difL c i = true:=hb
   simp only [Tree.All,this,if_true]
  ·have:difL c i = false:=hb
   simp only [Tree.All,this,Bool.false_eq_true,if_false]
   rw [hw]
  ·rw [hl] at h; cases h
 stop:=by
  refine ⟨fun h => ?_,fun _ => rfl⟩
  rw [ltS] at h; cases h
noncomputable def invE (c:LL) (v:Int):Bool:=dec ((c.l.n = c.m.n ∧ fewN c.l.n) ∧ ∃ i:Nat,i ≤ c.l.n ∧ v = (i:Int))
def runE (c:LL) (v:Int):XE × Int:=fin (TXe c) (fun i => (c.l.n - i).toNat) v
noncomputable def GE:List A1 → Option (Bool × AV)
 | [.c (.sl [.int .i64,.int .i64,.int .i64] n ρ),.c (.sl [.int .i64,.int .i64,.int .i64] k σ)] => some (dec (fewN n),.one (.c (.bool (eqL ⟨⟨n,ρ⟩,⟨k,σ⟩⟩))))
 | _ => none
theorem allE (c : LL) (hn : fewN c.l.n) : (Tree.br (toInt64 c.l.n != toInt64 c.m.n) (.leaf (AV.one (.c (.bool false)))) (.need (invE c 0) (.br (eqXE (runE c 0).1 .ret) (.leaf (AV.one (.c (.bool false))))
  (.need (eqXE (runE c 0).1 (.exit 0)) (.leaf (AV.one (.c (.bool true)))))))).All (fun z => z = .one (.c (.bool (eqL c)))):=by
 refine ⟨fun h => ?_,fun h => ?_⟩
 ·have hne:c.l.n ≠ c.m.n:=fun e => by rw [e] at h; simp at h
  show _ = _
  simp [eqL,hne]
 ·have he : c.l.n = c.m.n := by
   have h':(c.l.n:Int) = (c.m.n:Int):=by simp at h; exact h
   omega
  have hs:=sqE c he hn
  have hi:invE c 0 = true:=dec_iff.2 ⟨⟨he,hn⟩,0,Nat.zero_le _,rfl⟩
  have hf:runE c 0 = _:=hs.fin0
  refine ⟨hi,?_⟩
  rw [hf]
  have hb:(c.l.n == c.m.n) = true:=by simp [he]
  unfold eqL
  rw [hb]
  cases anyB (difL c) c.l.n
  ·exact ⟨fun h => (by cases h),fun _ => ⟨rfl,rfl⟩⟩
  ·exact ⟨fun _ => rfl,fun h => (by cases h)⟩
def S46 (c:LL) (i:Int):St:=mkS 26 [(0,.one (.c (.sl spSh c.l.n c.l.ρ))),(1,.one (.c (.sl spSh c.m.n c.m.ρ))),(4,.one (.c (.bool false))),(5,.one (.c (I i)))] []
theorem t46 (c:LL) (i:Int):((evCode Tryz.prog H8 (evFn Tryz.prog H8 10) 57 0 1 (loopBody Tryz.prog 57 0) (S46 c i)).bind fun y => gcT [0,1,4,5] 0 y) = (TXe c i).bind fun y => .leaf (y.1,S46 c y.2):=by kernel_rfl
def get46:List (Nat × AV) → Mem → Option (LL × Int)
 | [(0,.one (.c (.sl [.int .i64,.int .i64,.int .i64] n ρ))),(1,.one (.c (.sl [.int .i64,.int .i64,.int .i64] k σ))),(4,.one (.c (.bool false))),(5,.one (.c (.int .i64 i)))],[] => some (⟨⟨n,ρ⟩,⟨k,σ⟩⟩,i)
 | _,_ => none
noncomputable def L46:Nat → St → Tree (XE × St):=loopH [0,1,4,5] 0 26 get46 invE S46 runE [.ret,.exit 0]
theorem l46 (fn:Func) (c b:Code) (hf:Tryz.prog.funcs[57]? = some fn) (hc:fn.body = some c) (hb:nthLoop c 0 = some b):LoopOk Tryz.prog b L46 :=
 loopOk_of h8 10 57 0 hf hc hb [0,1,4,5] 0 26 S46 TXe t46 get46 invE (fun c i => (c.l.n - i).toNat) [.ret,.exit 0]
  (fun l m c v h => by unfold get46 at h; split at h <;> simp at h; obtain ⟨rfl,rfl⟩:=h; rfl)
  (rounds_of fun c v hv => by
   have h:=(dec_iff.1 hv).1
   exact (sqE c h.1 h.2).rounds fun x => by unfold invE; rw [dec_iff]; exact ⟨fun h => h.2,fun k => ⟨h,k⟩⟩)
noncomputable abbrev H46:Hd:=⟨H8.pc,[],[((57,0),L46)],H8.mc⟩
theorem h46:HdOk Tryz.prog H46:=HdOk.lhCons h8 l46
theorem p46:TcOne Tryz.prog 57 (nG GE):=tcOne_of_tree h46 10 57 fun args r h => by
 unfold GE at h; split at h
 ·rename_i n ρ k σ
  obtain ⟨hp,rfl⟩:=Prod.mk.inj (Option.some.inj h)
  refine ⟨rfl,_,?_,allE ⟨⟨n,ρ⟩,⟨k,σ⟩⟩ (dec_iff.1 hp)⟩
  kernel_rfl
 ·cases h
noncomputable def G17:List A1 → Option (Bool × AV)
 | [.agg [.int .i64 a,.int .i64 r,.int .i64 e,.int .i64 p,.sl [.int .i64,.int .i64,.int .i64] n ρ,.int .i64 s,.bool l,.bool c],.agg [.int .i64 a',.int .i64 r',.int .i64 e',.int .i64 p',.sl [.int .i64,.int .i64,.int .i64] k σ,.int .i64 s',.bool l',.bool c']] => some (dec (fewN n),.one (.c (.bool (((((((a == a' && r == r') && e == e') && p == p') && eqL ⟨⟨n,ρ⟩,⟨k,σ⟩⟩) && s == s') && l == l') && c == c'))))
 | _ => none
noncomputable abbrev H9:Hd:=⟨(57,nG GE) :: H8.pc,[],[],H8.mc⟩
theorem h9:HdOk Tryz.prog H9:=h8.tcCons p46
theorem p17:TcOne Tryz.prog 20 (nG G17):=tcOne_of_tree h9 10 20 fun args r h => by
 unfold G17 at h; split at h
 ·rename_i a r e p n ρ s l c a' r' e' p' k σ s' l' c'
  obtain ⟨hp,rfl⟩:=Prod.mk.inj (Option.some.inj h)
  refine ⟨rfl,.need (!((((((a == a' && r == r') && e == e') && p == p') == true) && true)) || dec (fewN n)) (.leaf (.one (.c (.bool (((((((a == a' && r == r') && e == e') && p == p') && eqL ⟨⟨n,ρ⟩,⟨k,σ⟩⟩) && s == s') && l == l') && c == c'))))),?_,by rw [hp,Bool.or_true]; exact ⟨rfl,rfl⟩⟩
  kernel_rfl
 ·cases h
noncomputable abbrev H10:Hd:=⟨(20,nG G17) :: H9.pc,[],[],H9.mc⟩
theorem h10:HdOk Tryz.prog H10:=h9.tcCons p17
noncomputable abbrev H11:Hd:=H10
theorem h11:HdOk Tryz.prog H11:=h10
noncomputable abbrev H12:Hd:=H11
theorem h12:HdOk Tryz.prog H12:=h11
def dmd (ok:Bool) (x e:Int):Int:=bif !ok && e == 0 then x else e
def G40:List A1 → Mem → Tree (AV × Mem)
 | [.c (.ptr 5 0),.c (.bool ok),.c (.int .i64 x)],m0 :: m1 :: m2 :: m3 :: m4 :: some (222,[.int .i64 c0,c1,c2,c3,c4,c5,c6,c7,.int .i64 e]) :: r => .leaf (.tup [],m0 :: m1 :: m2 :: m3 :: m4 :: some (222,[.int .i64 c0,c1,c2,c3,c4,c5,c6,c7,.int .i64 (dmd ok x e)]) :: r)
 | [.c (.ptr 6 0),.c (.bool ok),.c (.int .i64 x)],m0 :: m1 :: m2 :: m3 :: m4 :: m5 :: some (222,[.int .i64 c0,c1,c2,c3,c4,c5,c6,c7,.int .i64 e]) :: r => .leaf (.tup [],m0 :: m1 :: m2 :: m3 :: m4 :: m5 :: some (222,[.int .i64 c0,c1,c2,c3,c4,c5,c6,c7,.int .i64 (dmd ok x e)]) :: r)
 | _,_ => .fail
theorem q40:McOne Tryz.prog 151 G40:=mcOne_of_tree h12 10 151 fun args mem r mem' h => by
 unfold G40 at h
 split at h
 ·rename_i ok x m0 m1 m2 m3 m4 c0 c1 c2 c3 c4 c5 c6 c7 e rest
  simp only [Tree.sel,Option.some.injEq,Prod.mk.injEq] at h
  obtain ⟨rfl,rfl⟩:=h
  refine ⟨.br (!ok && e == 0) (.leaf (.tup [],m0 :: m1 :: m2 :: m3 :: m4 :: some (222,[.int .i64 c0,c1,c2,c3,c4,c5,c6,c7,.int .i64 x]) :: rest)) (.leaf (.tup [],m0 :: m1 :: m2 :: m3 :: m4 :: some (222,[.int .i64 c0,c1,c2,c3,c4,c5,c6,c7,.int .i64 e]) :: rest)),by kernel_rfl,fun hc => ?_,fun hc => ?_⟩
  ·show _ = _
   unfold dmd
   rw [hc]; rfl
  ·show _ = _
   unfold dmd
   rw [hc]; rfl
 ·rename_i ok x m0 m1 m2 m3 m4 m5 c0 c1 c2 c3 c4 c5 c6 c7 e rest
  simp only [Tree.sel,Option.some.injEq,Prod.mk.injEq] at h
  obtain ⟨rfl,rfl⟩:=h
  refine ⟨.br (!ok && e == 0) (.leaf (.tup [],m0 :: m1 :: m2 :: m3 :: m4 :: m5 :: some (222,[.int .i64 c0,c1,c2,c3,c4,c5,c6,c7,.int .i64 x]) :: rest)) (.leaf (.tup [],m0 :: m1 :: m2 :: m3 :: m4 :: m5 :: some (222,[.int .i64 c0,c1,c2,c3,c4,c5,c6,c7,.int .i64 e]) :: rest)),by kernel_rfl,fun hc => ?_,fun hc => ?_⟩
  ·show _ = _
   unfold dmd
   rw [hc]; rfl
  ·show _ = _
   unfold dmd
   rw [hc]; rfl
 ·simp [Tree.sel] at h
noncomputable abbrev H13:Hd:=⟨H12.pc,[],[],(151,G40) :: H12.mc⟩
theorem h13:HdOk Tryz.prog H13:=h12.mcCons q40
structure Sit where
 a:Int
 r:Int
 e:Int
 p:Int
 n:Nat
 ρ:Val
 s:Int
 l:Bool
 c:Bool
def Sit.cv (x:Sit):A1:=.agg [I x.a,I x.r,I x.e,I x.p,.sl spSh x.n x.ρ,I x.s,.bool x.l,.bool x.c]
def chkS (x:Sit):Int:=chk x.a x.r x.e x.p ⟨x.n,x.ρ⟩ x.s
def Zr (k:Int):AV:=.tup [.agg [I 0,I 0,I 0,I 0,.nils,I 0,.bool false,.bool false],.c (I k)]
def Sok (x:Sit):AV:=.tup [x.cv,.c (I 0)]
def okOr (k:Int) (x:Sit):AV:=.tup [.agg [I (bif k == 0 then x.a else 0),I (bif k == 0 then x.r else 0),I (bif k == 0 then x.e else 0),I (bif k == 0 then x.p else 0),.sl spSh (bif k == 0 then x.n else 0) x.ρ,I (bif k == 0 then x.s else 0),.bool (k == 0 && x.l),.bool (k == 0 && x.c)],.c (I k)]
theorem leC_nils {es:List Sh} {ρ:Val}:leC .nils (.sl es 0 ρ):=fun _ _ _ h => by cases h; exact .slnil
theorem le_Zr {k j:Int} {x:Sit} (hj:j = k) (hk:(j == 0) = false):leA (Zr j) (okOr k x):=by
 subst hj
 unfold Zr okOr
 rw [hk]
 refine leA_tup (.cons (.agg ?_) (.cons le1.refl .nil))
 exact .cons leC.refl (.cons leC.refl (.cons leC.refl (.cons leC.refl (.cons leC_nils (.cons leC.refl (.cons leC.refl (.cons leC.refl .nil)))))))
theorem le_Sok {k:Int} {x y:Sit} (hk:(k == 0) = true) (hy:y = x):leA (Sok y) (okOr k x):=by
 have hk0:k = 0:=by simpa using hk
 subst hk0; subst hy
 exact leA.refl
def small (n:Nat):Prop:=n ≤ 100000
theorem small_few {n:Nat} (h:small n):dec (fewN n) = true:=dec_iff.2 (by unfold small at h; unfold fewN; omega)
theorem small_ble {n:Nat} (h:small n):Nat.ble ((0 + n) * 24) 140737488355328 = true:=Nat.ble_eq_true_of_le (by unfold small at h; omega)
theorem all_prog {n:Nat} {k:Int} {x y:Sit} (hs:small n) (hy:y = x):(Tree.need (Nat.ble ((0 + n) * 24) 140737488355328) (.need (dec (fewN n)) (.br (k != 0) (.leaf (Zr k)) (.leaf (Sok y))))).All (fun z => leA z (okOr k x)):=by
 refine ⟨small_ble hs,small_few hs,fun h => le_Zr rfl (by simpa [bne] using h),fun h => le_Sok (by simpa [bne] using h) hy⟩
def chain (e:Int):List (Bool × Int) → Int
 | [] => e
 | (ok,k) :: r => chain (dmd ok k e) r
def pro (x:Sit) (y:Int):Sit:={ x with r:=1,e:=y,s:=-1 }
def proE (x:Sit) (y:Int):Int:=chain (chkS x) [(x.l,12),((x.r == 0 && toInt64 x.n == 0) || x.r == 2 || x.r == 3,18),(lt x.e y,13),(le y 1073741824,2)]
noncomputable def Gpro:List A1 → Option (Bool × AV)
 | [.agg [.int .i64 a,.int .i64 r,.int .i64 e,.int .i64 p,.sl [.int .i64,.int .i64,.int .i64] n ρ,.int .i64 s,.bool l,.bool c],.c (.int .i64 y)] => some (dec (small n),okOr (proE ⟨a,r,e,p,n,ρ,s,l,c⟩ y) (pro ⟨a,r,e,p,n,ρ,s,l,c⟩ y))
 | _ => none
theorem u13:UcOne Tryz.prog 124 (nG Gpro):=ucOne_of_tree h13 12 124 fun args r h => by
 unfold Gpro at h; split at h
 ·rename_i a r e p n ρ s l c y
  obtain ⟨hp,rfl⟩:=Prod.mk.inj (Option.some.inj h)
  exact ⟨_,by kernel_rfl,all_prog (dec_iff.1 hp) rfl⟩
 ·cases h
def demo (x:Sit) (y src:Int):Sit:={ x with r:=bif src == -1 then 5 else 2,e:=y,s:=src }
def demoE (x:Sit) (y src:Int):Int:=chain (chkS x) [(x.r == 1,18),(le x.e y,13),(le y 1073741824,2),(src == -1 || oth src x.a,1)]
noncomputable def Gdem:List A1 → Option (Bool × AV)
 | [.agg [.int .i64 a,.int .i64 r,.int .i64 e,.int .i64 p,.sl [.int .i64,.int .i64,.int .i64] n ρ,.int .i64 s,.bool l,.bool c],.c (.int .i64 y),.c (.int .i64 src)] => some (dec (small n),okOr (demoE ⟨a,r,e,p,n,ρ,s,l,c⟩ y src) (demo ⟨a,r,e,p,n,ρ,s,l,c⟩ y src))
 | _ => none
theorem all_two {Q : AV → Prop} {b : Bool} {k : Int} {x1 x2 : Sit} (h1 : k = 0 → b = true → Q (Sok x1)) (h2 : k = 0 → b = false → Q (Sok x2)) (h3 : (k == 0) = false → Q (Zr k)) :
  (Tree.br b (.br (k != 0) (.leaf (Zr k)) (.leaf (Sok x1))) (.br (k != 0) (.leaf (Zr k)) (.leaf (Sok x2)))).All Q :=
 ⟨fun hb => ⟨fun hk => h3 (by simpa [bne] using hk),fun hk => h1 (by simpa [bne] using hk) hb⟩,fun hb => ⟨fun hk => h3 (by simpa [bne] using hk),fun hk => h2 (by simpa [bne] using hk) hb⟩⟩
theorem u15:UcOne Tryz.prog 122 (nG Gdem):=ucOne_of_tree h13 12 122 fun args r h => by
 unfold Gdem at h; split at h
 ·rename_i a r e p n ρ s l c y src
  obtain ⟨hp,rfl⟩:=Prod.mk.inj (Option.some.inj h)
  have hp:=dec_iff.1 hp
  refine ⟨.need (Nat.ble ((0 + n) * 24) 140737488355328) (.need (dec (fewN n)) (Tree.br (src == -1) (.br (demoE ⟨a,r,e,p,n,ρ,s,l,c⟩ y src != 0) (.leaf (Zr (demoE ⟨a,r,e,p,n,ρ,s,l,c⟩ y src))) (.leaf (Sok ⟨a,5,y,p,n,ρ,src,l,c⟩))) (.br (demoE ⟨a,r,e,p,n,ρ,s,l,c⟩ y src != 0) (.leaf (Zr (demoE ⟨a,r,e,p,n,ρ,s,l,c⟩ y src))) (.leaf (Sok ⟨a,2,y,p,n,ρ,src,l,c⟩))))),by kernel_rfl,small_ble hp,small_few hp,all_two (fun hk hb => ?_) (fun hk hb => ?_) (fun hk => le_Zr rfl hk)⟩
  ·exact le_Sok (by rw [hk]; rfl) (by unfold demo; rw [hb]; rfl)
  ·exact le_Sok (by rw [hk]; rfl) (by unfold demo; rw [hb]; rfl)
 ·cases h
def iso (x:Sit):Sit:={ x with r:=3,s:=-1 }
def isoE (x:Sit):Int:=chain (chkS x) [(x.r == 2,18)]
noncomputable def Giso:List A1 → Option (Bool × AV)
 | [.agg [.int .i64 a,.int .i64 r,.int .i64 e,.int .i64 p,.sl [.int .i64,.int .i64,.int .i64] n ρ,.int .i64 s,.bool l,.bool c]] => some (dec (small n),okOr (isoE ⟨a,r,e,p,n,ρ,s,l,c⟩) (iso ⟨a,r,e,p,n,ρ,s,l,c⟩))
 | _ => none
theorem u24:UcOne Tryz.prog 125 (nG Giso):=ucOne_of_tree h13 12 125 fun args r h => by
 unfold Giso at h; split at h
 ·rename_i a r e p n ρ s l c
  obtain ⟨hp,rfl⟩:=Prod.mk.inj (Option.some.inj h)
  exact ⟨_,by kernel_rfl,all_prog (k:=isoE ⟨a,r,e,p,n,ρ,s,l,c⟩) (y:=iso ⟨a,r,e,p,n,ρ,s,l,c⟩) (dec_iff.1 hp) rfl⟩
 ·cases h
def rej (x:Sit) (y src:Int):Sit:={ x with r:=bif x.r == 3 && y == x.e then 2 else 4,e:=y,s:=src }
def rejE (x:Sit) (y src:Int):Int:=chain (chkS x) [(x.r != 1 && x.r != 2,18),(le x.e y && y != 0,13),(le y 1073741824,2),(oth src x.a,1)]
noncomputable def Grej:List A1 → Option (Bool × AV)
 | [.agg [.int .i64 a,.int .i64 r,.int .i64 e,.int .i64 p,.sl [.int .i64,.int .i64,.int .i64] n ρ,.int .i64 s,.bool l,.bool c],.c (.int .i64 y),.c (.int .i64 src)] => some (dec (small n),okOr (rejE ⟨a,r,e,p,n,ρ,s,l,c⟩ y src) (rej ⟨a,r,e,p,n,ρ,s,l,c⟩ y src))
 | _ => none
theorem u26:UcOne Tryz.prog 126 (nG Grej):=ucOne_of_tree h13 12 126 fun args r h => by
 unfold Grej at h; split at h
 ·rename_i a r e p n ρ s l c y src
  obtain ⟨hp,rfl⟩:=Prod.mk.inj (Option.some.inj h)
  have hp:=dec_iff.1 hp
  refine ⟨.need (Nat.ble ((0 + n) * 24) 140737488355328) (.need (dec (fewN n)) (Tree.br (r == 3 && y == e) (.br (rejE ⟨a,r,e,p,n,ρ,s,l,c⟩ y src != 0) (.leaf (Zr (rejE ⟨a,r,e,p,n,ρ,s,l,c⟩ y src))) (.leaf (Sok ⟨a,2,y,p,n,ρ,src,l,c⟩))) (.br (rejE ⟨a,r,e,p,n,ρ,s,l,c⟩ y src != 0) (.leaf (Zr (rejE ⟨a,r,e,p,n,ρ,s,l,c⟩ y src))) (.leaf (Sok ⟨a,4,y,p,n,ρ,src,l,c⟩))))),by kernel_rfl,small_ble hp,small_few hp,all_two (fun hk hb => ?_) (fun hk hb => ?_) (fun hk => le_Zr rfl hk)⟩
  ·exact le_Sok (by rw [hk]; rfl) (by unfold rej; rw [hb]; rfl)
  ·exact le_Sok (by rw [hk]; rfl) (by unfold rej; rw [hb]; rfl)
 ·cases h
noncomputable abbrev H14:Hd:=⟨H13.pc,[(124,nG Gpro),(122,nG Gdem),(125,nG Giso),(126,nG Grej)],[],H13.mc⟩
theorem h14:HdOk Tryz.prog H14:=(((h13.ucCons u26).ucCons u24).ucCons u15).ucCons u13
noncomputable abbrev H15:Hd:=H14
theorem h15:HdOk Tryz.prog H15:=h14
end Go.Proofs.YtiefjlcakpdfeaaGreat.Ro
namespace Go.Proofs.YtiefjlcakpdfeaaGreat.Ro
open Go Go.Sx Go.RowKit Classical
set_option maxRecDepth 100000
abbrev siSh:List Sh:=[.int .i64,.int .i64,.int .i64,.int .i64,.sl spSh,.int .i64,.bool,.bool]
structure Ses where
 n:Nat
 ρ:Val
def siAt (v:Val):Sit:=⟨(v.at 0).N [],(v.at 1).N [],(v.at 2).N [],(v.at 3).N [],(v.at 4).L [],v.at 4,(v.at 5).N [],(v.at 6).B [],(v.at 7).B []⟩
def Ses.at (l:Ses) (i:Nat):Sit:=siAt (l.ρ.at i)
structure VI where
 r:Int
 i:Int
def TXi (m:Int) (n:Nat) (bad:Nat → Bool) (v:VI):Tree (XE × VI) :=
 .br (lt v.i m) (.need (inRange v.i n) (.br (bad v.i.toNat) (.leaf (.ret,⟨v.i,v.i⟩)) (.leaf (.normal,⟨v.r,IntKind.i64.wrap (v.i + 1)⟩)))) (.leaf (.exit 0,v))
def stI (i:Nat):VI:=⟨0,i⟩
def sbI (i:Nat):VI:=⟨i,i⟩
def μI (n:Nat) (v:VI):Nat:=(n - v.i).toNat
theorem sqI {m:Int} {n:Nat} (bad:Nat → Bool) (hm:m = toInt64 n) (hn:fewN n):Sq (TXi m n bad) (μI n) stI sbI n bad .ret (.exit 0) where
 out:=by simp
 hit:=by simp
 meas i hi:=by unfold μI stI; simp only; omega
 round i hi:=by
  unfold fewN at hn
  have hw:IntKind.i64.wrap ((i:Int) + 1) = ((i + 1:Nat):Int):=by rw [w64_id (by omega) (by omega)]; omega
  refine ⟨fun _ => ⟨inR hi,fun hb => ?_,fun hb => ?_⟩,fun h => ?_⟩
  ·have:bad i = true:=hb
   simp only [Tree.All,this,if_true]
   rfl
  ·have:bad i = false:=hb
   simp only [Tree.All,this,Bool.false_eq_true,if_false]
   show (XE.normal,(⟨0,IntKind.i64.wrap ((i:Int) + 1)⟩ : VI)) = _
   rw [hw]; rfl
  ·have:lt (i:Int) m = false:=h
   rw [hm,ltF hi] at this; cases this
 stop:=by
  refine ⟨fun h => ?_,fun _ => rfl⟩
  have:lt (n:Int) m = true:=h
  rw [hm,ltS] at this; cases this
def fndB (l:Ses) (y:Sit) (i:Nat):Bool:=(l.at i).a == y.a
def fndC (l:Ses) (y:Sit) (i:Nat):Bool:=(l.at i).r == y.r && (l.at i).e == y.e
structure C56 where
 l:Ses
 m:Int
 y:Sit
def mem56 (y:Sit):Mem:=[some (56,[I y.a,I y.r,I y.e,I y.p,.sl spSh y.n y.ρ,I y.s,.bool y.l,.bool y.c])]
def S56B (c:C56) (v:VI):St:=mkS 19 [(0,.one (.c (.sl siSh c.l.n c.l.ρ))),(1,.one (.c (.fn (.func 49) [] [.ptr 0 0]))),(4,.one (.c (I v.r))),(7,.one (.c (I c.m))),(8,.one (.c (I v.i)))] (mem56 c.y)
def S56C (c:C56) (v:VI):St:=mkS 19 [(0,.one (.c (.sl siSh c.l.n c.l.ρ))),(1,.one (.c (.fn (.func 50) [] [.ptr 0 0]))),(4,.one (.c (I v.r))),(7,.one (.c (I c.m))),(8,.one (.c (I v.i)))] (mem56 c.y)
theorem t56B (c:C56) (v:VI):((evCode Tryz.prog H15 (evFn Tryz.prog H15 10) 105 1 1 (loopBody Tryz.prog 105 0) (S56B c v)).bind fun y => gcT [0,1,4,7,8] 1 y) = (TXi c.m c.l.n (fndB c.l c.y) v).bind fun y => .leaf (y.1,S56B c y.2):=by kernel_rfl
theorem t56C (c:C56) (v:VI):((evCode Tryz.prog H15 (evFn Tryz.prog H15 10) 105 1 1 (loopBody Tryz.prog 105 0) (S56C c v)).bind fun y => gcT [0,1,4,7,8] 1 y) = (TXi c.m c.l.n (fndC c.l c.y) v).bind fun y => .leaf (y.1,S56C c y.2):=by kernel_rfl
noncomputable def inv56 (c:C56) (v:VI):Bool:=dec ((c.m = toInt64 c.l.n ∧ fewN c.l.n) ∧ ∃ i,i ≤ c.l.n ∧ v = stI i)
def run56B (c:C56) (v:VI):XE × VI:=fin (TXi c.m c.l.n (fndB c.l c.y)) (μI c.l.n) v
def run56C (c:C56) (v:VI):XE × VI:=fin (TXi c.m c.l.n (fndC c.l c.y)) (μI c.l.n) v
def get56B:List (Nat × AV) → Mem → Option (C56 × VI)
 | [(0, .one (.c (.sl [.int .i64, .int .i64, .int .i64, .int .i64, .sl [.int .i64, .int .i64, .int .i64], .int .i64, .bool, .bool] n ρ))), (1, .one (.c (.fn (.func 49) [] [.ptr 0 0]))), (4, .one (.c (.int .i64 r))), (7, .one (.c (.int .i64 m))), (8, .one (.c (.int .i64 i)))],
   [some (56,[.int .i64 a,.int .i64 ro,.int .i64 e,.int .i64 p,.sl [.int .i64,.int .i64,.int .i64] k σ,.int .i64 s,.bool l,.bool c])] => some (⟨⟨n,ρ⟩,m,⟨a,ro,e,p,k,σ,s,l,c⟩⟩,⟨r,i⟩)
 | _,_ => none
def get56C:List (Nat × AV) → Mem → Option (C56 × VI)
 | [(0, .one (.c (.sl [.int .i64, .int .i64, .int .i64, .int .i64, .sl [.int .i64, .int .i64, .int .i64], .int .i64, .bool, .bool] n ρ))), (1, .one (.c (.fn (.func 50) [] [.ptr 0 0]))), (4, .one (.c (.int .i64 r))), (7, .one (.c (.int .i64 m))), (8, .one (.c (.int .i64 i)))],
   [some (56,[.int .i64 a,.int .i64 ro,.int .i64 e,.int .i64 p,.sl [.int .i64,.int .i64,.int .i64] k σ,.int .i64 s,.bool l,.bool c])] => some (⟨⟨n,ρ⟩,m,⟨a,ro,e,p,k,σ,s,l,c⟩⟩,⟨r,i⟩)
 | _,_ => none
noncomputable def L56B:Nat → St → Tree (XE × St):=loopH [0,1,4,7,8] 1 19 get56B inv56 S56B run56B [.ret,.exit 0]
noncomputable def L56C:Nat → St → Tree (XE × St):=loopH [0,1,4,7,8] 1 19 get56C inv56 S56C run56C [.ret,.exit 0]
theorem l56B (fn:Func) (c b:Code) (hf:Tryz.prog.funcs[105]? = some fn) (hc:fn.body = some c) (hb:nthLoop c 0 = some b):LoopOk Tryz.prog b L56B :=
 loopOk_of h15 10 105 0 hf hc hb [0,1,4,7,8] 1 19 S56B (fun c => TXi c.m c.l.n (fndB c.l c.y)) t56B get56B inv56 (fun c => μI c.l.n) [.ret,.exit 0]
  (fun l m c v h => by unfold get56B at h; split at h <;> simp at h; obtain ⟨rfl,rfl⟩:=h; rfl)
  (rounds_of fun c v hv => by
   have h:=(dec_iff.1 hv).1
   exact (sqI (fndB c.l c.y) h.1 h.2).rounds fun x => by unfold inv56; rw [dec_iff]; exact ⟨fun h => h.2,fun k => ⟨h,k⟩⟩)
theorem l56C (fn:Func) (c b:Code) (hf:Tryz.prog.funcs[105]? = some fn) (hc:fn.body = some c) (hb:nthLoop c 0 = some b):LoopOk Tryz.prog b L56C :=
 loopOk_of h15 10 105 0 hf hc hb [0,1,4,7,8] 1 19 S56C (fun c => TXi c.m c.l.n (fndC c.l c.y)) t56C get56C inv56 (fun c => μI c.l.n) [.ret,.exit 0]
  (fun l m c v h => by unfold get56C at h; split at h <;> simp at h; obtain ⟨rfl,rfl⟩:=h; rfl)
  (rounds_of fun c v hv => by
   have h:=(dec_iff.1 hv).1
   exact (sqI (fndC c.l c.y) h.1 h.2).rounds fun x => by unfold inv56; rw [dec_iff]; exact ⟨fun h => h.2,fun k => ⟨h,k⟩⟩)
noncomputable abbrev HaB:Hd:=⟨H15.pc,H15.hc,[((105,0),L56B)],H15.mc⟩
theorem haB:HdOk Tryz.prog HaB:=HdOk.lhCons h15 l56B
noncomputable abbrev HaC:Hd:=⟨H15.pc,H15.hc,[((105,0),L56C)],H15.mc⟩
theorem haC:HdOk Tryz.prog HaC:=HdOk.lhCons h15 l56C
def T30 {α:Type} (iv:Bool) (x:XE × VI) (f:Bool → α):Tree α:=.need iv (.br (eqXE x.1 .ret) (.leaf (f (le 0 x.2.r))) (.need (eqXE x.1 (.exit 0)) (.leaf (f false))))
theorem T30_all {α:Type} {iv:Bool} {x:XE × VI} {f:Bool → α} {n:Nat} {bad:Nat → Bool} (h:iv = true) (hx:x = bif anyB bad n then (.ret,sbI (firstB bad n)) else (.exit 0,stI n)):(T30 iv x f).All (fun z => z = f (anyB bad n)):=by
 subst h
 refine ⟨rfl,fun h => ?_,fun h => ?_⟩
 ·cases hb:anyB bad n
  ·rw [hb] at hx; subst hx; cases h
  ·rw [hb] at hx; subst hx
   have:le 0 ((firstB bad n:Nat):Int) = true:=by rw [le_iff]; omega
   show f (le 0 ((firstB bad n:Nat):Int)) = _
   rw [this]
 ·cases hb:anyB bad n
  ·rw [hb] at hx; subst hx
   exact ⟨rfl,rfl⟩
  ·rw [hb] at hx; subst hx; cases h
theorem iv56 {c:C56} (hm:c.m = toInt64 c.l.n) (hn:fewN c.l.n):inv56 c (stI 0) = true:=dec_iff.2 ⟨⟨hm,hn⟩,0,Nat.zero_le _,rfl⟩
noncomputable def G30:List A1 → Mem → Tree (AV × Mem)
 | [.c (.sl [.int .i64, .int .i64, .int .i64, .int .i64, .sl [.int .i64, .int .i64, .int .i64], .int .i64, .bool, .bool] n ρ), .c (.fn (.func 49) [] [.ptr 0 0])], [some (56, [.int .i64 a, .int .i64 ro, .int .i64 e, .int .i64 p, .sl [.int .i64, .int .i64, .int .i64] k σ, .int .i64 s, .bool l, .bool c])] =>
   .need (dec (fewN n)) (.leaf (.one (.c (.bool (anyB (fndB ⟨n,ρ⟩ ⟨a,ro,e,p,k,σ,s,l,c⟩) n))),[some (56,[.int .i64 a,.int .i64 ro,.int .i64 e,.int .i64 p,.sl spSh k σ,.int .i64 s,.bool l,.bool c])]))
 | [.c (.sl [.int .i64, .int .i64, .int .i64, .int .i64, .sl [.int .i64, .int .i64, .int .i64], .int .i64, .bool, .bool] n ρ), .c (.fn (.func 50) [] [.ptr 0 0])], [some (56, [.int .i64 a, .int .i64 ro, .int .i64 e, .int .i64 p, .sl [.int .i64, .int .i64, .int .i64] k σ, .int .i64 s, .bool l, .bool c])] =>
   .need (dec (fewN n)) (.leaf (.one (.c (.bool (anyB (fndC ⟨n,ρ⟩ ⟨a,ro,e,p,k,σ,s,l,c⟩) n))),[some (56,[.int .i64 a,.int .i64 ro,.int .i64 e,.int .i64 p,.sl spSh k σ,.int .i64 s,.bool l,.bool c])]))
 | _,_ => .fail
noncomputable def G30B:List A1 → Mem → Tree (AV × Mem)
 | [.c (.sl [.int .i64, .int .i64, .int .i64, .int .i64, .sl [.int .i64, .int .i64, .int .i64], .int .i64, .bool, .bool] n ρ), .c (.fn (.func 49) [] [.ptr 0 0])], [some (56, [.int .i64 a, .int .i64 ro, .int .i64 e, .int .i64 p, .sl [.int .i64, .int .i64, .int .i64] k σ, .int .i64 s, .bool l, .bool c])] =>
   .need (dec (fewN n)) (.leaf (.one (.c (.bool (anyB (fndB ⟨n,ρ⟩ ⟨a,ro,e,p,k,σ,s,l,c⟩) n))),[some (56,[.int .i64 a,.int .i64 ro,.int .i64 e,.int .i64 p,.sl spSh k σ,.int .i64 s,.bool l,.bool c])]))
 | _,_ => .fail
noncomputable def G30C:List A1 → Mem → Tree (AV × Mem)
 | [.c (.sl [.int .i64, .int .i64, .int .i64, .int .i64, .sl [.int .i64, .int .i64, .int .i64], .int .i64, .bool, .bool] n ρ), .c (.fn (.func 50) [] [.ptr 0 0])], [some (56, [.int .i64 a, .int .i64 ro, .int .i64 e, .int .i64 p, .sl [.int .i64, .int .i64, .int .i64] k σ, .int .i64 s, .bool l, .bool c])] =>
   .need (dec (fewN n)) (.leaf (.one (.c (.bool (anyB (fndC ⟨n,ρ⟩ ⟨a,ro,e,p,k,σ,s,l,c⟩) n))),[some (56,[.int .i64 a,.int .i64 ro,.int .i64 e,.int .i64 p,.sl spSh k σ,.int .i64 s,.bool l,.bool c])]))
 | _,_ => .fail
theorem q30B:McOne Tryz.prog 48 G30B:=mcOne_of_tree haB 10 48 fun args mem r mem' h => by
 unfold G30B at h
 split at h
 ·rename_i n ρ a ro e p k σ s l c
  cases hp:dec (fewN n)
  ·rw [hp] at h; simp [Tree.sel] at h
  ·rw [hp] at h
   simp only [Tree.sel,cond_true,Option.some.injEq,Prod.mk.injEq] at h
   obtain ⟨rfl,rfl⟩:=h
   have hf:=dec_iff.1 hp
   exact ⟨T30 (inv56 ⟨⟨n,ρ⟩,toInt64 n,⟨a,ro,e,p,k,σ,s,l,c⟩⟩ (stI 0)) (run56B ⟨⟨n,ρ⟩,toInt64 n,⟨a,ro,e,p,k,σ,s,l,c⟩⟩ (stI 0)) (fun b => (.one (.c (.bool b)),mem56 ⟨a,ro,e,p,k,σ,s,l,c⟩)),by kernel_rfl,T30_all (f:=fun b => (AV.one (.c (.bool b)),mem56 ⟨a,ro,e,p,k,σ,s,l,c⟩)) (iv56 (c:=⟨⟨n,ρ⟩,toInt64 n,⟨a,ro,e,p,k,σ,s,l,c⟩⟩) rfl hf) (show run56B ⟨⟨n,ρ⟩,toInt64 n,⟨a,ro,e,p,k,σ,s,l,c⟩⟩ (stI 0) = _ from (sqI (fndB ⟨n,ρ⟩ ⟨a,ro,e,p,k,σ,s,l,c⟩) rfl hf).fin0)⟩
 ·simp [Tree.sel] at h
theorem q30C:McOne Tryz.prog 48 G30C:=mcOne_of_tree haC 10 48 fun args mem r mem' h => by
 unfold G30C at h
 split at h
 ·rename_i n ρ a ro e p k σ s l c
  cases hp:dec (fewN n)
  ·rw [hp] at h; simp [Tree.sel] at h
  ·rw [hp] at h
   simp only [Tree.sel,cond_true,Option.some.injEq,Prod.mk.injEq] at h
   obtain ⟨rfl,rfl⟩:=h
   have hf:=dec_iff.1 hp
   exact ⟨T30 (inv56 ⟨⟨n,ρ⟩,toInt64 n,⟨a,ro,e,p,k,σ,s,l,c⟩⟩ (stI 0)) (run56C ⟨⟨n,ρ⟩,toInt64 n,⟨a,ro,e,p,k,σ,s,l,c⟩⟩ (stI 0)) (fun b => (.one (.c (.bool b)),mem56 ⟨a,ro,e,p,k,σ,s,l,c⟩)),by kernel_rfl,T30_all (f:=fun b => (AV.one (.c (.bool b)),mem56 ⟨a,ro,e,p,k,σ,s,l,c⟩)) (iv56 (c:=⟨⟨n,ρ⟩,toInt64 n,⟨a,ro,e,p,k,σ,s,l,c⟩⟩) rfl hf) (show run56C ⟨⟨n,ρ⟩,toInt64 n,⟨a,ro,e,p,k,σ,s,l,c⟩⟩ (stI 0) = _ from (sqI (fndC ⟨n,ρ⟩ ⟨a,ro,e,p,k,σ,s,l,c⟩) rfl hf).fin0)⟩
 ·simp [Tree.sel] at h
theorem q30:McOne Tryz.prog 48 G30:=fun args mem r mem' h => by
 unfold G30 at h
 split at h
 ·exact q30B _ _ _ _ h
 ·exact q30C _ _ _ _ h
 ·simp [Tree.sel] at h
noncomputable abbrev H30:Hd:=⟨H15.pc,H15.hc,[],(48,G30) :: H15.mc⟩
theorem h30:HdOk Tryz.prog H30:=h15.mcCons q30
structure VJ where
 k:Int
 r:Int
 q:Int
def fndD (l:Ses) (y:Sit) (k:Nat):Bool:=((l.at k).r == 1 && y.r == 1) && (l.at k).e == y.e
def stJ (k:Nat):VJ:=⟨k,0,0⟩
def fewS (l:Ses):Prop:=fewN l.n ∧ ∀ i,i < l.n → fewN (l.at i).n
theorem fndCD (l:Ses) (x:Sit) (n:Nat):(x.r == 1 && anyB (fndC l x) n) = anyB (fndD l x) n:=by
 cases hr:(x.r == 1)
 ·rw [Bool.false_and,eq_comm,← Bool.not_eq_true]
  intro h
  obtain ⟨i,_,h⟩:=anyB_iff.1 h
  unfold fndD at h
  rw [hr] at h
  simp at h
 ·rw [Bool.true_and]
  refine anyB_congr fun i _ _ => ?_
  have hx:x.r = 1:=by simpa using hr
  unfold fndC fndD
  rw [hr,hx,Bool.and_true]
def wrgS (l:Ses) (i:Nat):Bool:=(chkS (l.at i) != 0 || anyB (fndB l (l.at i)) i) || anyB (fndD l (l.at i)) i
def wrgE (l:Ses) (i:Nat):Int:=bif chkS (l.at i) != 0 then chkS (l.at i) else bif anyB (fndB l (l.at i)) i then 8 else 19
def sbS (l:Ses) (i:Nat):VJ:=⟨i,i,wrgE l i⟩
def μS (n:Nat) (v:VJ):Nat:=(n - v.k).toNat
theorem wrgS_1 {l:Ses} {i:Nat} (h:(chkS (l.at i) != 0) = true):wrgS l i = true ∧ wrgE l i = chkS (l.at i):=by
 unfold wrgS wrgE; rw [h]; exact ⟨rfl,rfl⟩
theorem wrgS_2 {l:Ses} {i:Nat} (h:(chkS (l.at i) != 0) = false) (h2:anyB (fndB l (l.at i)) i = true):wrgS l i = true ∧ wrgE l i = 8:=by
 unfold wrgS wrgE; rw [h,h2]; exact ⟨rfl,rfl⟩
theorem wrgS_3 {l:Ses} {i:Nat} (h:(chkS (l.at i) != 0) = false) (h2:anyB (fndB l (l.at i)) i = false) (h3:anyB (fndD l (l.at i)) i = true):wrgS l i = true ∧ wrgE l i = 19:=by
 unfold wrgS wrgE; rw [h,h2,h3]; exact ⟨rfl,rfl⟩
theorem wrgS_0 {l:Ses} {i:Nat} (h:(chkS (l.at i) != 0) = false) (h2:anyB (fndB l (l.at i)) i = false) (h3:anyB (fndD l (l.at i)) i = false):wrgS l i = false:=by
 unfold wrgS; rw [h,h2,h3]; rfl
structure C34 where
 l:Ses
 j:Ses
 m:Int
def S34 (c:C34) (v:VJ):St:=mkS 43 [(0,.one (.c (.sl siSh c.l.n c.l.ρ))),(2,.one (.c (I v.r))),(3,.one (.c (I v.q))),(10,.one (.c (.sl siSh c.j.n c.j.ρ))),(11,.one (.c (I c.m))),(12,.one (.c (I v.k)))] []
noncomputable def TX34 (c:C34) (v:VJ):Tree (XE × VJ) :=
 let x:=c.j.at v.k.toNat
 let nx:VJ:=⟨IntKind.i64.wrap (v.k + 1),v.r,v.q⟩
 let rest (b:Bool):Tree (XE × VJ):=.br (x.r == 1 && b) (.leaf (.ret,⟨v.k,v.k,19⟩)) (.leaf (.normal,nx))
 .br (lt v.k c.m) (.need (inRange v.k c.j.n) (.need (dec (fewN x.n)) (.br (chkS x != 0) (.leaf (.ret,⟨v.k,v.k,chkS x⟩)) (.need (le 0 v.k && le v.k (toInt64 c.l.n)) (.need (dec (fewN v.k.toNat)) (.br (anyB (fndB ⟨v.k.toNat,c.l.ρ⟩ x) v.k.toNat) (.leaf (.ret,⟨v.k,v.k,8⟩))
  (.br ((x.r == 1) == true) (.need (le 0 v.k && le v.k (toInt64 c.l.n)) (.br ((x.r == 1) == true) (.need (dec (fewN v.k.toNat)) (rest (anyB (fndC ⟨v.k.toNat,c.l.ρ⟩ x) v.k.toNat))) (rest false)))
   (.br ((x.r == 1) == true) .fail (rest false))))))))) (.leaf (.exit 0,v))
theorem t34 (c:C34) (v:VJ):((evCode Tryz.prog H30 (evFn Tryz.prog H30 10) 13 0 1 (loopBody Tryz.prog 13 0) (S34 c v)).bind fun y => gcT [0,2,3,10,11,12] 0 y) = (TX34 c v).bind fun y => .leaf (y.1,S34 c y.2):=by kernel_rfl
theorem sq34 (l:Ses) {m:Int} (hm:m = toInt64 l.n) (hn:fewS l):Sq (TX34 ⟨l,l,m⟩) (μS l.n) stJ (sbS l) l.n (wrgS l) .ret (.exit 0) where
 out:=by simp
 hit:=by simp
 meas k hk:=by unfold μS stJ; simp only; omega
 round k hk:=by
  have hf:=hn.2 k hk
  have hn:=hn.1
  have hk':fewN k:=by unfold fewN at hn ⊢; omega
  have hkk:fewN ((k:Int).toNat):=hk'
  unfold fewN at hn
  have hw:IntKind.i64.wrap ((k:Int) + 1) = ((k + 1:Nat):Int):=by rw [w64_id (by omega) (by omega)]; omega
  have hs:(le 0 (k:Int) && le (k:Int) (toInt64 l.n)) = true:=by
   rw [Bool.and_eq_true,le_iff,le_iff]
   exact ⟨by omega,by show (k:Int) ≤ (l.n:Int); omega⟩
  have nxt:∀ {r},anyB (fndD l (l.at k)) k = r → (chkS (l.at k) != 0) = false → anyB (fndB l (l.at k)) k = false → r = false → if wrgS l k then (XE.normal,(⟨IntKind.i64.wrap ((k:Int) + 1),0,0⟩ : VJ)) = (.ret,sbS l k) else (XE.normal,(⟨IntKind.i64.wrap ((k:Int) + 1),0,0⟩ : VJ)) = (.normal,stJ (k + 1)):=fun h1 h2 h3 h4 => by
   rw [wrgS_0 h2 h3 (h1.trans h4),hw]; rfl
  refine ⟨fun _ => ⟨inR hk,dec_iff.2 hf,fun h1 => ?_,fun h1 => ⟨hs,dec_iff.2 hkk,fun h2 => ?_,fun h2 => ⟨fun g => ⟨hs,fun _ => ⟨dec_iff.2 hkk,fun h3 => ?_,fun h3 => ?_⟩,fun ng => ?_⟩,fun g => ⟨fun g' => ?_,fun _ => ⟨fun h3 => ?_,fun _ => ?_⟩⟩⟩⟩⟩,fun h => ?_⟩
  ·obtain ⟨b,e⟩:=wrgS_1 (l:=l) (i:=k) h1
   show if wrgS l k then _ else _
   rw [b,if_pos rfl]
   show (XE.ret,(⟨k,k,chkS (l.at k)⟩ : VJ)) = (.ret,⟨k,k,wrgE l k⟩)
   rw [e]
  ·obtain ⟨b,e⟩:=wrgS_2 (l:=l) (i:=k) h1 h2
   show if wrgS l k then _ else _
   rw [b,if_pos rfl]
   show (XE.ret,(⟨k,k,8⟩ : VJ)) = (.ret,⟨k,k,wrgE l k⟩)
   rw [e]
  ·have h3:((l.at k).r == 1 && anyB (fndC l (l.at k)) k) = true:=h3
   rw [fndCD] at h3
   obtain ⟨b,e⟩:=wrgS_3 (l:=l) (i:=k) h1 h2 h3
   show if wrgS l k then _ else _
   rw [b,if_pos rfl]
   show (XE.ret,(⟨k,k,19⟩ : VJ)) = (.ret,⟨k,k,wrgE l k⟩)
   rw [e]
  ·have h3:((l.at k).r == 1 && anyB (fndC l (l.at k)) k) = false:=h3
   rw [fndCD] at h3
   exact nxt h3 h1 h2 rfl
  ·rw [g] at ng; cases ng
  ·rw [g] at g'; cases g'
  ·rw [Bool.and_false] at h3; cases h3
  ·have h3 : ((l.at k).r == 1 && anyB (fndC l (l.at k)) k) = false := by
    have g:(((l.at k).r == 1) == true) = false:=g
    have g:((l.at k).r == 1) = false:=by cases hh:((l.at k).r == 1) <;> simp_all
    rw [g]; rfl
   rw [fndCD] at h3
   exact nxt h3 h1 h2 rfl
  ·have:lt (k:Int) m = false:=h
   rw [hm,ltF hk] at this; cases this
 stop:=by
  refine ⟨fun h => ?_,fun _ => rfl⟩
  have:lt (l.n:Int) m = true:=h
  rw [hm,ltS] at this; cases this
noncomputable def inv34 (c:C34) (v:VJ):Bool:=dec ((c.j = c.l ∧ c.m = toInt64 c.l.n ∧ fewS c.l) ∧ ∃ i,i ≤ c.l.n ∧ v = stJ i)
noncomputable def run34 (c:C34) (v:VJ):XE × VJ:=fin (TX34 c) (μS c.l.n) v
def get34:List (Nat × AV) → Mem → Option (C34 × VJ)
 | [(0,.one (.c (.sl [.int .i64,.int .i64,.int .i64,.int .i64,.sl [.int .i64,.int .i64,.int .i64],.int .i64,.bool,.bool] n ρ))),(2,.one (.c (.int .i64 r))),(3,.one (.c (.int .i64 q))),(10,.one (.c (.sl [.int .i64,.int .i64,.int .i64,.int .i64,.sl [.int .i64,.int .i64,.int .i64],.int .i64,.bool,.bool] n2 ρ2))),(11,.one (.c (.int .i64 m))),(12,.one (.c (.int .i64 k)))],[] => some (⟨⟨n,ρ⟩,⟨n2,ρ2⟩,m⟩,⟨k,r,q⟩)
 | _,_ => none
noncomputable def L34:Nat → St → Tree (XE × St):=loopH [0,2,3,10,11,12] 0 43 get34 inv34 S34 run34 [.ret,.exit 0]
theorem l34 (fn:Func) (c b:Code) (hf:Tryz.prog.funcs[13]? = some fn) (hc:fn.body = some c) (hb:nthLoop c 0 = some b):LoopOk Tryz.prog b L34 :=
 loopOk_of h30 10 13 0 hf hc hb [0,2,3,10,11,12] 0 43 S34 TX34 t34 get34 inv34 (fun c => μS c.l.n) [.ret,.exit 0] (Q:=fun (c:C34) y => (∃ i,i < c.l.n ∧ wrgS c.l i = true ∧ y = (.ret,sbS c.l i)) ∨ y = (.exit 0,stJ c.l.n))
  (fun l m c v h => by unfold get34 at h; split at h <;> simp at h; obtain ⟨rfl,rfl⟩:=h; rfl)
  (rounds_of fun c v hv => by
   obtain ⟨l,j,m⟩:=c
   have h:=(dec_iff.1 hv).1
   have hj:j = l:=h.1
   subst hj
   exact (sq34 j h.2.1 h.2.2).rounds (inv:=fun v => inv34 ⟨j,j,m⟩ v = true) fun x => by unfold inv34; rw [dec_iff]; exact ⟨fun h => h.2,fun k => ⟨h,k⟩⟩)
noncomputable abbrev H36:Hd:=⟨H30.pc,H30.hc,[((13,0),L34)],H30.mc⟩
theorem h36:HdOk Tryz.prog H36:=HdOk.lhCons h30 l34
def ckI (l:Ses):Int:=bif lt 4 (toInt64 l.n) then 0 else bif anyB (wrgS l) l.n then (firstB (wrgS l) l.n:Nat) else 0
def ckE (l:Ses):Int:=bif lt 4 (toInt64 l.n) then 6 else bif anyB (wrgS l) l.n then wrgE l (firstB (wrgS l) l.n) else 0
def two (i e:Int):AV:=.tup [.c (I i),.c (I e)]
def T34 (n:Nat) (iv:Bool) (x:XE × VJ):Tree AV:=.br (lt 4 (toInt64 n)) (.leaf (two 0 6)) (.need iv (.br (eqXE x.1 .ret) (.leaf (two x.2.r x.2.q)) (.need (eqXE x.1 (.exit 0)) (.leaf (two 0 0)))))
theorem T34_all {l:Ses} {iv:Bool} {x:XE × VJ} (h:iv = true) (hx:x = bif anyB (wrgS l) l.n then (.ret,sbS l (firstB (wrgS l) l.n)) else (.exit 0,stJ l.n)):(T34 l.n iv x).All (fun z => z = two (ckI l) (ckE l)):=by
 subst h
 refine ⟨fun h => ?_,fun h => ⟨rfl,fun h2 => ?_,fun h2 => ?_⟩⟩
 ·unfold ckI ckE; rw [h]; rfl
 ·cases hb:anyB (wrgS l) l.n
  ·rw [hb] at hx; subst hx; cases h2
  ·rw [hb] at hx; subst hx
   unfold ckI ckE; rw [h,hb]; rfl
 ·cases hb:anyB (wrgS l) l.n
  ·rw [hb] at hx; subst hx
   refine ⟨rfl,?_⟩
   unfold ckI ckE; rw [h,hb]; rfl
  ·rw [hb] at hx; subst hx; cases h2
noncomputable def G34:List A1 → Option (Bool × AV)
 | [.c (.sl [.int .i64,.int .i64,.int .i64,.int .i64,.sl [.int .i64,.int .i64,.int .i64],.int .i64,.bool,.bool] n ρ)] => some (dec (fewS ⟨n,ρ⟩),two (ckI ⟨n,ρ⟩) (ckE ⟨n,ρ⟩))
 | _ => none
theorem p34:TcOne Tryz.prog 13 (nG G34):=tcOne_of_tree h36 12 13 fun args r h => by
 unfold G34 at h; split at h
 ·rename_i n ρ
  obtain ⟨hp,rfl⟩:=Prod.mk.inj (Option.some.inj h)
  have hf:=dec_iff.1 hp
  exact ⟨rfl,T34 n (inv34 ⟨⟨n,ρ⟩,⟨n,ρ⟩,toInt64 n⟩ (stJ 0)) (run34 ⟨⟨n,ρ⟩,⟨n,ρ⟩,toInt64 n⟩ (stJ 0)),by kernel_rfl,T34_all (l:=⟨n,ρ⟩) (dec_iff.2 ⟨⟨rfl,rfl,hf⟩,0,Nat.zero_le _,rfl⟩) (show run34 ⟨⟨n,ρ⟩,⟨n,ρ⟩,toInt64 n⟩ (stJ 0) = _ from (sq34 ⟨n,ρ⟩ rfl hf).fin0)⟩
 ·cases h
noncomputable abbrev H37:Hd:=⟨(13,nG G34) :: H15.pc,H15.hc,[],H15.mc⟩
theorem h37:HdOk Tryz.prog H37:=h15.tcCons p34
end Go.Proofs.YtiefjlcakpdfeaaGreat.Ro
namespace Go.Sx
open Go Go.RowKit Classical
variable {P:Program}
theorem outT_mem {X:Type} {S:X → St} {y:XE × X}:∀ {es:List XE},y.1 ∈ es → (outT S y es).sel = some (y.1,S y.2)
 | [],h => by cases h
 | [e], h => by
   have h:y.1 = e:=by simpa using h
   simp only [outT,Tree.sel,h]
   rw [eqXE_iff.2 rfl]; rfl
 | e :: e' :: r, h => by
   simp only [outT,Tree.sel]
   cases he:eqXE y.1 e
   ·simp only [cond_false]
    refine outT_mem ?_
    rcases List.mem_cons.1 h with h | h
    ·rw [eqXE_iff.2 h] at he; cases he
    ·exact h
   ·simp only [cond_true]
    rw [eqXE_iff.1 he]
noncomputable def lq1 {V:Type} (S:V → St) (ok:Prop) (e0:XE) (v0:V):Tree (XE × St):=.need (dec ok) (.leaf (e0,S v0))
def lqH {C V:Type} (keep:List Nat) (k0 nt:Nat) (get:List (Nat × AV) → Mem → Option (C × V)) (T:C → V → Tree (XE × St)) (K:Nat) (s:St):Tree (XE × St) :=
 if s.tmps.length == nt && Nat.ble K k0 then
  match s.gc keep k0 with
  | some s' => match getKept s' keep with
   | some l => match get l s'.mem with
    | some (c,v) => T c v
    | none => .fail
   | none => .fail
  | none => .fail
 else .fail
theorem lq_gen {H : Hd} (hH : HdOk P H) (d f i : Nat) {fn : Func} {c b : Code} (hf : P.funcs[f]? = some fn) (hc : fn.body = some c) (hb : nthLoop c i = some b) {C V : Type} (keep : List Nat) (k0 nt : Nat) (S : C → V → St) (TX : C → V → Tree (XE × V))
  (hT:∀ c v,((evCode P H (evFn P H d) f k0 (i + 1) (loopBody P f i) (S c v)).bind fun y => gcT keep k0 y) = (TX c v).bind fun y => .leaf (y.1,S c y.2))
  (get:List (Nat × AV) → Mem → Option (C × V)) (hget:∀ l m c v,get l m = some (c,v) → mkS nt l m = S c v)
  (good:C → Prop) (μ:C → V → Nat) (st sb:C → Nat → V) (n:C → Nat) (bad:C → Nat → Bool) (e1 e0:XE)
  (hsq:∀ c,good c → Sq (TX c) (μ c) (st c) (sb c) (n c) (bad c) e1 e0) (T:C → V → Tree (XE × St))
  (hw:∀ c v x,(T c v).sel = some x → good c ∧ v = st c 0 ∧ ∃ s1,(x.1,s1) = (bif anyB (bad c) (n c) then (e1,S c (sb c (firstB (bad c) (n c)))) else (e0,S c (st c (n c)))) ∧ StWk s1 x.2) :
  LoopOk P b (lqH keep k0 nt get T):=by
 have hl:=loopOk_of hH d f i hf hc hb keep k0 nt S TX hT get (fun c v => dec (good c ∧ ∃ i,i ≤ n c ∧ v = st c i)) μ [e1,e0] (Q:=fun c y => (∃ i,i < n c ∧ bad c i = true ∧ y = (e1,sb c i)) ∨ y = (e0,st c (n c))) hget
  (fun c v hv => by
   have hg:=(dec_iff.1 hv).1
   exact (hsq c hg).rounds (inv:=fun v => dec (good c ∧ ∃ i,i ≤ n c ∧ v = st c i) = true) (fun x => by rw [dec_iff]; exact ⟨fun h => h.2,fun k => ⟨hg,k⟩⟩) v hv)
 refine hl.wk fun K s x hx => ?_
 unfold lqH at hx
 unfold loopH
 split at hx
 ·rename_i hlen
  rw [if_pos hlen]
  cases hg:s.gc keep k0 with
  | none => rw [hg] at hx; simp [Tree.sel] at hx
  | some s' =>
    rw [hg] at hx
    simp only at hx ⊢
    cases hl:getKept s' keep with
   | none => rw [hl] at hx; simp [Tree.sel] at hx
   | some l =>
     rw [hl] at hx
     simp only at hx ⊢
     cases hgt:get l s'.mem with
    | none => rw [hgt] at hx; simp [Tree.sel] at hx
    | some p =>
      obtain ⟨cc,v⟩:=p
      rw [hgt] at hx
      simp only at hx ⊢
      obtain ⟨hgood,rfl,s1,h1,h2⟩:=hw cc v x hx
      have hfin:=(hsq cc hgood).fin0
      refine ⟨s1,?_,h2⟩
      simp only [Tree.sel,dec_iff.2 (show good cc ∧ ∃ i,i ≤ n cc ∧ st cc 0 = st cc i from ⟨hgood,0,Nat.zero_le _,rfl⟩),cond_true]
      rw [hfin]
      cases hany:anyB (bad cc) (n cc)
      ·rw [hany] at h1
       simp only [cond_false,Prod.mk.injEq] at h1 ⊢
       rw [outT_mem (by simp),h1.1,h1.2]
      ·rw [hany] at h1
       simp only [cond_true,Prod.mk.injEq] at h1 ⊢
       rw [outT_mem (by simp),h1.1,h1.2]
 ·simp [Tree.sel] at hx
theorem lq1_ok {H : Hd} (hH : HdOk P H) (d f i : Nat) {fn : Func} {c b : Code} (hf : P.funcs[f]? = some fn) (hc : fn.body = some c) (hb : nthLoop c i = some b) {C V : Type} (keep : List Nat) (k0 nt : Nat) (S : C → V → St) (TX : C → V → Tree (XE × V))
  (hT:∀ c v,((evCode P H (evFn P H d) f k0 (i + 1) (loopBody P f i) (S c v)).bind fun y => gcT keep k0 y) = (TX c v).bind fun y => .leaf (y.1,S c y.2))
  (get:List (Nat × AV) → Mem → Option (C × V)) (hget:∀ l m c v,get l m = some (c,v) → mkS nt l m = S c v)
  (good:C → Prop) (μ:C → V → Nat) (st:C → Nat → V) (n:C → Nat) (e0:XE)
  (hsq:∀ c,good c → Sq (TX c) (μ c) (st c) (st c) (n c) (fun _ => false) .ret e0) (v0:C → V)
  (h0:∀ c,good c → StWk (S c (st c (n c))) (S c (v0 c))) :
  LoopOk P b (lqH keep k0 nt get fun c v => lq1 (S c) (good c ∧ v = st c 0) e0 (v0 c)) :=
 lq_gen hH d f i hf hc hb keep k0 nt S TX hT get hget good μ st st n (fun _ _ => false) .ret e0 hsq _ fun c v x hx => by
  unfold lq1 at hx
  simp only [Tree.sel] at hx
  cases hd:dec (good c ∧ v = st c 0)
  ·rw [hd] at hx; simp at hx
  ·rw [hd] at hx
   obtain ⟨hg,hv⟩:=dec_iff.1 hd
   simp only [cond_true,Option.some.injEq] at hx
   subst hx
   have hno:anyB (fun _ => false) (n c) = false:=anyB_none fun _ _ => rfl
   exact ⟨hg,hv,_,by rw [hno]; rfl,h0 c hg⟩
end Go.Sx
namespace Go.Proofs.YtiefjlcakpdfeaaGreat.Ro
open Go Go.Sx Go.RowKit Classical
set_option maxRecDepth 100000
namespace Fo
def out (l:Ses) (t:Int):Bool:=lt t 0 || le (toInt64 l.n) t
def Gcln:List A1 → Option (Bool × AV)
 | [.c (.sl [.int .i64,.int .i64,.int .i64] n ρ)] => some (Nat.ble ((0 + n) * 24) 140737488355328,.one (.c (.sl spSh n ρ)))
 | _ => none
theorem uCln:UcOne Tryz.prog 75 (nG Gcln):=ucOne_of_tree h37 10 75 fun args r h => by
 unfold Gcln at h; split at h
 ·rename_i n ρ
  obtain ⟨hp,rfl⟩:=Prod.mk.inj (Option.some.inj h)
  refine ⟨.need (Nat.ble ((0 + n) * 24) 140737488355328) (.leaf (.one (.c (.sl spSh n ρ)))),by kernel_rfl,hp,leA.refl⟩
 ·cases h
end Fo
end Go.Proofs.YtiefjlcakpdfeaaGreat.Ro
namespace Go.Proofs.YtiefjlcakpdfeaaGreat.Ro
open Go Go.Sx Go.RowKit Classical
set_option maxRecDepth 100000
set_option maxHeartbeats 4000000
namespace Fo
def sameV (es:List Sh) (n:Nat) (ρ σ:Val):Prop:=∀ i f s,i < n → nth es f = some s → cellOf s ((ρ.at i).at f) = cellOf s ((σ.at i).at f)
theorem ofC_sl {es:List Sh} (v:Val):Val.ofC (.sl es (v.L []) v) = v:=by
 obtain ⟨B,N,S,L⟩:=v
 show (⟨B,N,S,_⟩ : Val) = ⟨B,N,S,L⟩
 congr 1
 funext p
 cases p <;> rfl
def cs (x:Sit):List CV:=[I x.a,I x.r,I x.e,I x.p,.sl spSh x.n x.ρ,I x.s,.bool x.l,.bool x.c]
def okT (k:Int) (x:Sit):Sit:=⟨bif k == 0 then x.a else 0,bif k == 0 then x.r else 0,bif k == 0 then x.e else 0,bif k == 0 then x.p else 0,bif k == 0 then x.n else 0,x.ρ,bif k == 0 then x.s else 0,k == 0 && x.l,k == 0 && x.c⟩
def smallS (l:Ses):Prop:=l.n ≤ 1000 ∧ ∀ i,i < l.n → small (l.at i).n
theorem small_fewS {l:Ses} (h:smallS l):fewS l:=⟨by unfold fewN; have:=h.1; omega,fun i hi => dec_iff.1 (small_few (h.2 i hi))⟩
end Fo
end Go.Proofs.YtiefjlcakpdfeaaGreat.Ro
namespace Go.Sx
open Go Go.RowKit
variable {P:Program}
theorem ncOne_of_tree {H : Hd} (hH : HdOk P H) (n f : Nat) {G : List A1 → Tree (AV × Mem)}
  (h:∀ args r m,(G args).sel = some (r,m) → ∃ u,evFn P H n f args [] = u ∧ u.All (fun y => WkO (.ret y.1,y.2) (.ret r,m))):NcOne P f G:=by
 intro args r m hG _ F w vs hargs
 obtain ⟨u,hu,ha⟩:=h args r m hG
 rw [← hu] at ha
 obtain ⟨y,hsel,hw⟩:=all_sel ha
 refine (evFn_ok0 hH n f args y.1 y.2 hsel F w [] vs MemRel.nil hargs).mono fun e w2 ⟨v,F',bs',he,hext,hm',hr⟩ => ?_
 obtain ⟨F2,bs2,e2,m2,v2,hv2,r2⟩:=hw P F' w2 bs' (.returned v) hm' ⟨v,rfl,hr⟩
 simp only [Ending.returned.injEq] at hv2
 subst hv2
 exact ⟨v,F2,bs2,he,hext.trans e2 (Nat.le_refl _),m2,r2⟩
end Go.Sx
