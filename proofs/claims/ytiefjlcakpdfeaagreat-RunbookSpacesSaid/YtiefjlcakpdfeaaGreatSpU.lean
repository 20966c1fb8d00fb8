/-
 Part SpU of the proof: RbM RbG RbH RbI RbJ.
-/
import Derived.Test.YtiefjlcakpdfeaaGreatSpT
namespace Go.Proofs.YtiefjlcakpdfeaaGreat
open Go Go.Sx Go.RowKit Rb
set_option maxRecDepth 100000
variable {σ α β γ ε τ:Type}
structure Alg (ε τ:Type) where
 ex:ByteArray → Int → List ε → ε
 st:ByteArray → List ByteArray → ε → List τ → List τ → Int → τ
variable (M:Mach σ)
def failM (s:σ):PR σ α:=.pan (M.pos s)
def takeM (t:ByteArray) (s:σ):PR σ Bool:=bif strEq (M.tx s) t then (M.adv s).bind fun _ s' => .ret true s' else .ret false s
def expectM (t:ByteArray) (s:σ):PR σ Unit:=(takeM M t s).bind fun c s' => bif c then .ret () s' else failM M s'
def wordM (ok:Bool) (s:σ):PR σ ByteArray:=bif ok then (M.adv s).bind fun _ s' => .ret (M.tx s) s' else failM M s
def numberM (most:Int) (s:σ):PR σ Int :=
 match numberS (M.tx s) with
 | none => .stuck
 | some (n,ok) => (wordM M (bif ok then le n most else false) s).bind fun _ s' => .ret n s'
def siteM (s:σ):PR σ Int:=(wordM M (siteO (M.tx s)) s).bind fun _ s' => .ret (siteV (M.tx s)) s'
def plainM (s:σ):PR σ ByteArray :=
 match isWordS (M.tx s) with
 | none => .stuck
 | some c => wordM M c s
def wPromote:=bs [112,114,111,109,111,116,101]
def wSynced:=bs [115,121,110,99,101,100]
def wDemote:=bs [100,101,109,111,116,101]
def wRejoin:=bs [114,101,106,111,105,110]
def wIsolate:=bs [105,115,111,108,97,116,101]
def wUp:=bs [117,112]
def wDown:=bs [100,111,119,110]
def wConnect:=bs [99,111,110,110,101,99,116]
def wDisconnect:=bs [100,105,115,99,111,110,110,101,99,116]
def wFailover:=bs [102,97,105,108,111,118,101,114]
def wResolve:=bs [114,101,115,111,108,118,101]
def wNone:=bs [110,111,110,101]
def kindC (w:ByteArray):Nat :=
 bif (strEq w wPromote || strEq w wSynced) then 1 else bif strEq w wDemote then 2 else bif strEq w wRejoin then 3
  else bif (strEq w wIsolate || (strEq w wUp || (strEq w wDown || (strEq w wConnect || (strEq w wDisconnect || (strEq w wFailover || strEq w wResolve)))))) then 4 else 0
def kindsOf:Nat → List Int
 | 1 => [0,1]
 | 2 => [0,1,2]
 | 3 => [0,1,0]
 | 4 => [0]
 | _ => []
def operandO (kind:Int) (w:ByteArray):Bool:=bif kind == 1 then nmO (numberS w) else bif kind == 2 then (bif siteO w then true else strEq w wNone) else siteO w
def opWordM (kind:Int) (s:σ):PR σ ByteArray:=bif nmD (numberS (M.tx s)) then wordM M (operandO kind (M.tx s)) s else .stuck
def opWordsM:List Int → σ → PR σ (List ByteArray)
 | [],s => .ret [] s
 | k :: r,s => (opWordM M k s).bind fun w s1 => (opWordsM r s1).bind fun l s2 => .ret (w :: l) s2
def operationM (s:σ):PR σ (List ByteArray) :=
 (wordM M (!(Nat.beq (kindC (M.tx s)) 0)) s).bind fun w s1 => (opWordsM M (kindsOf (kindC (M.tx s))) s1).bind fun l s2 => .ret (w :: l) s2
def wOr:=bs [111,114]
def wAnd:=bs [97,110,100]
def wNot:=bs [110,111,116]
def wEq:=bs [61]
def wLt:=bs [60]
def wGt:=bs [62]
def wPlus:=bs [43]
def wMinus:=bs [45]
def wOpen:=bs [40]
def wClose:=bs [41]
def wNum:=bs [110,117,109]
def wPrimary:=bs [112,114,105,109,97,114,121]
def wSites:=bs [115,105,116,101,115]
def wEpoch:=bs [101,112,111,99,104]
def wApplied:=bs [97,112,112,108,105,101,100]
def wRole:=bs [114,111,108,101]
def wAlive:=bs [97,108,105,118,101]
def wConnected:=bs [99,111,110,110,101,99,116,101,100]
variable (A:Alg ε τ)
def tryM (operand:σ → PR σ ε) (again:ε → σ → PR σ ε) (e:ε):List ByteArray → σ → PR σ ε
 | [],s => .ret e s
 | o :: r,s => (takeM M o s).bind fun c s1 => bif c then (operand s1).bind fun x s2 => again (A.ex o 0 [e,x]) s2 else tryM operand again e r s1
def chainM (ops:List ByteArray) (operand:σ → PR σ ε):Nat → ε → σ → PR σ ε
 | 0,_,_ => .stuck
 | k + 1,e,s => tryM M A operand (chainM ops operand k) e ops s
def atomM (expr:σ → PR σ ε) (s:σ):PR σ ε :=
 bif (strEq (M.tx s) wPrimary || strEq (M.tx s) wSites) then (M.adv s).bind fun _ s1 => .ret (A.ex (M.tx s) 0 []) s1
 else bif (strEq (M.tx s) wEpoch || (strEq (M.tx s) wApplied || (strEq (M.tx s) wRole || (strEq (M.tx s) wAlive || strEq (M.tx s) wConnected)))) then (M.adv s).bind fun _ s1 => (siteM M s1).bind fun n s2 => .ret (A.ex (M.tx s) n []) s2
 else bif strEq (M.tx s) wOpen then (M.adv s).bind fun _ s1 => (expr s1).bind fun e s2 => (expectM M wClose s2).bind fun _ s3 => .ret e s3
 else (numberM M 1073741824 s).bind fun n s1 => .ret (A.ex wNum n []) s1
def sumM (expr:σ → PR σ ε) (k:Nat) (s:σ):PR σ ε:=(atomM M A expr s).bind fun e s1 => chainM M A [wPlus,wMinus] (atomM M A expr) k e s1
def oneM (one expr:σ → PR σ ε) (k:Nat) (s:σ):PR σ ε :=
 (takeM M wNot s).bind fun c s1 => bif c then (one s1).bind fun e s2 => .ret (A.ex wNot 0 [e]) s2
  else (sumM M A expr k s1).bind fun e s2 => tryM M A (sumM M A expr k) (fun x s3 => .ret x s3) e [wEq,wLt,wGt] s2
def bothM (one expr:σ → PR σ ε) (k:Nat) (s:σ):PR σ ε:=(oneM M A one expr k s).bind fun e s1 => chainM M A [wAnd] (oneM M A one expr k) k e s1
def exprM (one expr:σ → PR σ ε) (k:Nat) (s:σ):PR σ ε:=(bothM M A one expr k s).bind fun e s1 => chainM M A [wOr] (bothM M A one expr k) k e s1
def exs (K:Nat):Nat → (σ → PR σ ε) × (σ → PR σ ε)
 | 0 => (fun _ => .stuck,fun _ => .stuck)
 | d + 1 => (oneM M A (exs K d).1 (exs K d).2 K,exprM M A (exs K d).1 (exs K d).2 K)
def wDo:=bs [100,111]
def wUndo:=bs [117,110,100,111]
def wIf:=bs [105,102]
def wElse:=bs [101,108,115,101]
def wRepeat:=bs [114,101,112,101,97,116]
def wRequire:=bs [114,101,113,117,105,114,101]
def wSay:=bs [115,97,121]
def wSemi:=bs [59]
def wBegin:=bs [123]
def wEnd:=bs [125]
def wRunbook:=bs [114,117,110,98,111,111,107]
def noEx:ε:=A.ex (bs []) 0 []
def wordsM:Nat → σ → PR σ (List ByteArray)
 | 0,_ => .stuck
 | k + 1,s => (takeM M wSemi s).bind fun c s1 => bif c then .ret [] s1 else (plainM M s1).bind fun w s2 => (wordsM k s2).bind fun l s3 => .ret (w :: l) s3
def blockL (st:σ → PR σ τ):Nat → σ → PR σ (List τ)
 | 0,_ => .stuck
 | k + 1,s => (takeM M wEnd s).bind fun c s1 => bif c then .ret [] s1 else (st s1).bind fun x s2 => (blockL st k s2).bind fun l s3 => .ret (x :: l) s3
def blockM (st:σ → PR σ τ) (k:Nat) (s:σ):PR σ (List τ):=(expectM M wBegin s).bind fun _ s1 => blockL M st k s1
def statementM (expr:σ → PR σ ε) (block:σ → PR σ (List τ)) (k:Nat) (s:σ):PR σ τ :=
 bif strEq (M.tx s) wDo then (M.adv s).bind fun _ s1 => (operationM M s1).bind fun w s2 => (takeM M wUndo s2).bind fun c s3 =>
  bif c then (block s3).bind fun l s4 => (expectM M wSemi s4).bind fun _ s5 => .ret (A.st (M.tx s) w (noEx A) l [] (M.pos s)) s5
  else (expectM M wSemi s3).bind fun _ s4 => .ret (A.st (M.tx s) w (noEx A) [] [] (M.pos s)) s4
 else bif strEq (M.tx s) wIf then (M.adv s).bind fun _ s1 => (expr s1).bind fun e s2 => (block s2).bind fun l s3 => (takeM M wElse s3).bind fun c s4 =>
  bif c then (block s4).bind fun r s5 => .ret (A.st (M.tx s) [] e l r (M.pos s)) s5 else .ret (A.st (M.tx s) [] e l [] (M.pos s)) s4
 else bif strEq (M.tx s) wRepeat then (M.adv s).bind fun _ s1 => (numberM M 99 s1).bind fun n s2 => (block s2).bind fun l s3 => .ret (A.st (M.tx s) [] (A.ex wNum n []) l [] (M.pos s)) s3
 else bif strEq (M.tx s) wRequire then (M.adv s).bind fun _ s1 => (expr s1).bind fun e s2 => (expectM M wSemi s2).bind fun _ s3 => .ret (A.st (M.tx s) [] e [] [] (M.pos s)) s3
 else bif strEq (M.tx s) wSay then (M.adv s).bind fun _ s1 => (plainM M s1).bind fun w s2 => (wordsM M k s2).bind fun l s3 => .ret (A.st (M.tx s) (w :: l) (noEx A) [] [] (M.pos s)) s3
 else failM M s
def sts (K:Nat):Nat → (σ → PR σ τ) × (σ → PR σ (List τ))
 | 0 => (fun _ => .stuck,fun _ => .stuck)
 | d + 1 => (statementM M A (exs M A K K).2 (sts K d).2 K,blockM M (statementM M A (exs M A K K).2 (sts K d).2 K) K)
end Go.Proofs.YtiefjlcakpdfeaaGreat
namespace Go.Proofs.YtiefjlcakpdfeaaGreat
open Go Go.Sx Go.RowKit Rb
set_option maxRecDepth 100000
def MP (s:ByteArray):Mach PS:=⟨PS.tx,PS.pos,advS s⟩
def encB (b:Bool):AV:=.one (.c (.bool b))
def encS (b:ByteArray):AV:=.one (.c (.str b))
def encI64 (n:Int):AV:=.one (.c (.int .i64 n))
def panT (a:Int):Tree (Out × List CV):=.leaf (.pan (panV a),anys4)
def retT (a:AV) (s:ByteArray) (p:PS):Tree (Out × List CV):=.leaf (.ret a,cellsP s p)
theorem Tells.bind {α β:Type} {d:α} {x:PR PS α} {K:α → PS → Tree (Out × List CV)} {enc:β → AV} {s:ByteArray} {f:α → PS → PR PS β} (h:∀ v p,Tells (K v p) enc s (f v p)):Tells (nxT d x K panT) enc s (x.bind f):=by
 cases x with
 | stuck => exact trivial
 | pan a => exact Tells.of_pan rfl
 | ret v p =>
   have:=h v p
   show Tells _ enc s (f v p)
   cases hf:f v p with
  | stuck => exact trivial
  | ret w q => rw [hf] at this; exact this
  | pan a => rw [hf] at this; exact this
theorem Tells.cond {β:Type} {c:Bool} {A B:Tree (Out × List CV)} {enc:β → AV} {s:ByteArray} {x y:PR PS β} (h1:Tells A enc s x) (h2:Tells B enc s y):Tells (.br c A B) enc s (bif c then x else y):=by
 cases c
 ·show Tells _ enc s y
  cases y with
  | stuck => exact trivial
  | ret w q => exact h2
  | pan a => exact h2
 ·show Tells _ enc s x
  cases x with
  | stuck => exact trivial
  | ret w q => exact h1
  | pan a => exact h1
theorem Tells.notc {β:Type} {c:Bool} {A B:Tree (Out × List CV)} {enc:β → AV} {s:ByteArray} {x y:PR PS β} (h1:Tells A enc s x) (h2:Tells B enc s y):Tells (.br (!c) B A) enc s (bif c then x else y):=by
 cases c
 ·show Tells _ enc s y
  cases y with
  | stuck => exact trivial
  | ret w q => exact h2
  | pan a => exact h2
 ·show Tells _ enc s x
  cases x with
  | stuck => exact trivial
  | ret w q => exact h1
  | pan a => exact h1
theorem Tells.ret {β:Type} {enc:β → AV} {s:ByteArray} {v:β} {p:PS}:Tells (retT (enc v) s p) enc s (.ret v p):=Tells.of_ret rfl
theorem Tells.pan {β:Type} {enc:β → AV} {s:ByteArray} {a:Int}:Tells (panT a) enc s (.pan a:PR PS β):=Tells.of_pan rfl
theorem Tells.need {β:Type} {c:Bool} {A:Tree (Out × List CV)} {enc:β → AV} {s:ByteArray} {x:PR PS β} (h:c = true → Tells A enc s x):Tells (.need c A) enc s (bif c then x else .stuck):=by
 cases c
 ·exact trivial
 ·have:=h rfl
  show Tells _ enc s x
  cases x with
  | stuck => exact trivial
  | ret w q => exact this
  | pan a => exact this
def spU {α:Type} (F:ByteArray → PS → PR PS α) (rest:List A1) (s:ByteArray) (p:PS):PR PS α:=match rest with | [] => F s p | _ => .stuck
def spW {α:Type} (F:ByteArray → ByteArray → PS → PR PS α) (rest:List A1) (s:ByteArray) (p:PS):PR PS α:=match rest with | [.c (.str w)] => F w s p | _ => .stuck
def spB {α:Type} (F:Bool → ByteArray → PS → PR PS α) (rest:List A1) (s:ByteArray) (p:PS):PR PS α:=match rest with | [.c (.bool b)] => F b s p | _ => .stuck
def spI {α:Type} (F:Int → ByteArray → PS → PR PS α) (rest:List A1) (s:ByteArray) (p:PS):PR PS α:=match rest with | [.c (.int .i64 n)] => F n s p | _ => .stuck
section
variable {P:Program} {α:Type} {H:Hd} {X:HdP} {d:α} {enc:α → AV}
theorem px_U (hH:HdOk P H) (hX:XOk P X) (k f:Nat) {F:ByteArray → PS → PR PS α} (h:∀ s n t a,Tells (oneZ P H X k f 82 [] [.str s,.int .i64 n,.str t,.int .i64 a]) enc s (F s ⟨n,t,a⟩)):PxOne P f (localG 82 (uOf d enc (spU F))):=px_of hH hX k f fun rest s n t a => by
 unfold spU
 split
 ·exact h s n t a
 ·exact trivial
theorem px_W (hH:HdOk P H) (hX:XOk P X) (k f:Nat) {F:ByteArray → ByteArray → PS → PR PS α} (h:∀ w s n t a,Tells (oneZ P H X k f 82 [.c (.str w)] [.str s,.int .i64 n,.str t,.int .i64 a]) enc s (F w s ⟨n,t,a⟩)):PxOne P f (localG 82 (uOf d enc (spW F))):=px_of hH hX k f fun rest s n t a => by
 unfold spW
 split
 ·exact h _ s n t a
 ·exact trivial
theorem px_B (hH:HdOk P H) (hX:XOk P X) (k f:Nat) {F:Bool → ByteArray → PS → PR PS α} (h:∀ w s n t a,Tells (oneZ P H X k f 82 [.c (.bool w)] [.str s,.int .i64 n,.str t,.int .i64 a]) enc s (F w s ⟨n,t,a⟩)):PxOne P f (localG 82 (uOf d enc (spB F))):=px_of hH hX k f fun rest s n t a => by
 unfold spB
 split
 ·exact h _ s n t a
 ·exact trivial
theorem px_I (hH:HdOk P H) (hX:XOk P X) (k f:Nat) {F:Int → ByteArray → PS → PR PS α} (h:∀ w s n t a,Tells (oneZ P H X k f 82 [.c (.int .i64 w)] [.str s,.int .i64 n,.str t,.int .i64 a]) enc s (F w s ⟨n,t,a⟩)):PxOne P f (localG 82 (uOf d enc (spI F))):=px_of hH hX k f fun rest s n t a => by
 unfold spI
 split
 ·exact h _ s n t a
 ·exact trivial
end
noncomputable abbrev H31:Hd:=⟨[pF 31,pF 32,pF 33,pF 36,pF 85,pF 133,pF 211,(86,oG G86)],[(87,nG G87),(162,nG G162)],[],[]⟩
theorem h31:HdOk Tryz.prog H31:=(((((((((HdOk.nil.ucCons p162).ucCons p87).pcCons p86).pF 211).pF 133).pF 85).pF 36).pF 33).pF 32).pF 31
abbrev X31:HdP:=⟨[(31,localG 82 (uOf () encU sp31))],[],[],[],[],0,[31]⟩
theorem x31:XOk Tryz.prog X31:=XOk.nil.loCons px31 (LocFn.localG _ _)
def t85 (s w:ByteArray) (p:PS):Tree (Out × List CV) :=
 .br (!strEq p.tx w) (retT (encB false) s p) (nxT () (advS s p) (fun _ p1 => retT (encB true) s p1) panT)
theorem t85_eq (s t w:ByteArray) (n a:Int):oneZ Tryz.prog H31 X31 10 85 82 [.c (.str w)] [.str s,.int .i64 n,.str t,.int .i64 a] = t85 s w ⟨n,t,a⟩:=by kernel_rfl
abbrev u85:=uOf false encB (spW fun w s p => takeM (MP s) w p)
theorem px85:PxOne Tryz.prog 85 (localG 82 u85):=px_W h31 x31 10 85 fun w s n t a => by
 rw [t85_eq]
 exact Tells.notc (Tells.bind fun _ p => Tells.ret) Tells.ret
def t33 (ok:Bool) (s:ByteArray) (p:PS):Tree (Out × List CV) :=
 .br (!ok) (panT p.pos) (nxT () (advS s p) (fun _ p1 => retT (encS p.tx) s p1) panT)
theorem t33_eq (s t:ByteArray) (ok:Bool) (n a:Int):oneZ Tryz.prog H31 X31 10 33 82 [.c (.bool ok)] [.str s,.int .i64 n,.str t,.int .i64 a] = t33 ok s ⟨n,t,a⟩:=by kernel_rfl
abbrev u33:=uOf (bs []) encS (spB fun ok s p => wordM (MP s) ok p)
theorem px33:PxOne Tryz.prog 33 (localG 82 u33):=px_B h31 x31 10 33 fun ok s n t a => by
 rw [t33_eq]
 exact Tells.notc (Tells.bind fun _ p => Tells.ret) Tells.pan
abbrev X33:HdP:=⟨[(33,localG 82 u33),(85,localG 82 u85),(31,localG 82 (uOf () encU sp31))],[],[],[],[],0,[33,85,31]⟩
theorem x33:XOk Tryz.prog X33:=(x31.loCons px85 (LocFn.localG _ _)).loCons px33 (LocFn.localG _ _)
def t32 (s w:ByteArray) (p:PS):Tree (Out × List CV) :=
 nxT false (takeM (MP s) w p) (fun c p1 => .br (!c) (panT p1.pos) (retT (encU ()) s p1)) panT
theorem t32_eq (s t w:ByteArray) (n a:Int):oneZ Tryz.prog H31 X33 10 32 82 [.c (.str w)] [.str s,.int .i64 n,.str t,.int .i64 a] = t32 s w ⟨n,t,a⟩:=by kernel_rfl
abbrev u32:=uOf () encU (spW fun w s p => expectM (MP s) w p)
theorem px32:PxOne Tryz.prog 32 (localG 82 u32):=px_W h31 x33 10 32 fun w s n t a => by
 rw [t32_eq]
 exact Tells.bind fun c p => Tells.notc Tells.ret Tells.pan
def t133 (most:Int) (s:ByteArray) (p:PS):Tree (Out × List CV) :=
 .need (nmD (numberS p.tx)) (nxT (bs []) (wordM (MP s) (bif nmO (numberS p.tx) then le (nmV (numberS p.tx)) most else false) p) (fun _ p1 => retT (encI64 (nmV (numberS p.tx))) s p1) panT)
theorem t133_eq (s t:ByteArray) (most n a:Int):oneZ Tryz.prog H31 X33 10 133 82 [.c (.int .i64 most)] [.str s,.int .i64 n,.str t,.int .i64 a] = t133 most s ⟨n,t,a⟩:=by kernel_rfl
abbrev u133:=uOf 0 encI64 (spI fun most s p => numberM (MP s) most p)
theorem px133:PxOne Tryz.prog 133 (localG 82 u133):=px_I h31 x33 10 133 fun most s n t a => by
 rw [t133_eq]
 unfold t133 numberM
 show Tells _ _ _ (match numberS t with | none => .stuck | some (n,ok) => _)
 simp only
 cases numberS t with
 | none => exact trivial
 | some r =>
   obtain ⟨v,ok⟩:=r
   exact Tells.need (c:=true) fun _ => Tells.bind fun _ p => Tells.ret
def t211 (s:ByteArray) (p:PS):Tree (Out × List CV) :=
 nxT (bs []) (wordM (MP s) (siteO p.tx) p) (fun _ p1 => retT (encI64 (siteV p.tx)) s p1) panT
theorem t211_eq (s t:ByteArray) (n a:Int):oneZ Tryz.prog H31 X33 10 211 82 [] [.str s,.int .i64 n,.str t,.int .i64 a] = t211 s ⟨n,t,a⟩:=by kernel_rfl
abbrev u211:=uOf 0 encI64 (spU fun s p => siteM (MP s) p)
theorem px211:PxOne Tryz.prog 211 (localG 82 u211):=px_U h31 x33 10 211 fun s n t a => by
 rw [t211_eq]
 exact Tells.bind fun _ p => Tells.ret
def lK:Nat × (List A1 → Tree AV):=(4294967292,fun _ => .fail)
theorem HdOk.lK {P:Program} {pc hc lh mc} (h:HdOk P ⟨pc,hc,lh,mc⟩):HdOk P ⟨lK :: pc,hc,lh,mc⟩:=h.tcCons (f:=4294967292) (fun _ _ h => by simp [Tree.sel] at h)
noncomputable abbrev HL0:Hd:=⟨[lK],[],[],[]⟩
theorem hL0:HdOk Tryz.prog HL0:=HdOk.lK HdOk.nil
def intsV (l:List Int):Val:=Val.ofFlat 1 (l.map (.int .i64))
def kindsA (w:ByteArray):AV:=.tup [.c (.sl [.int .i64] (kindsOf (kindC w)).length (intsV (kindsOf (kindC w)))),.c (.bool (!(Nat.beq (kindC w) 0)))]
def G158:List A1 → Option (Bool × AV)
 | [.c (.str w)] => some (true,kindsA w)
 | _ => none
def t158 (w:ByteArray):Tree AV :=
 let L:=fun l:List Int => Tree.leaf (AV.tup [.c (.sl [.int .i64] l.length (intsV l)),.c (.bool true)])
 let A:=L [0,1]
 let Z:=Tree.leaf (AV.tup [.c .nils,.c (.bool false)])
 let B:=L [0]
 let R4:=.br (strEq w wIsolate) (.br (strEq w wIsolate) B Z) (.br (strEq w wUp) (.br (strEq w wUp) B Z) (.br (strEq w wDown) (.br (strEq w wDown) B Z) (.br (strEq w wConnect) (.br (strEq w wConnect) B Z)
  (.br (strEq w wDisconnect) (.br (strEq w wDisconnect) B Z) (.br (strEq w wFailover) (.br (strEq w wFailover) B Z) (.br (strEq w wResolve) B Z))))))
 let R1:=.br (strEq w wDemote) (L [0,1,2]) (.br (strEq w wRejoin) (L [0,1,0]) R4)
 .br (strEq w wPromote) (.br (strEq w wPromote) A R1) (.br (strEq w wSynced) A R1)
theorem t158_eq (w:ByteArray):hcTree Tryz.prog HL0 10 158 [.c (.str w)] = t158 w:=by kernel_rfl
theorem leA_nilk {es:List Sh} {ρ:Val} {b:Bool}:leA (.tup [.c .nils,.c (.bool b)]) (.tup [.c (.sl es 0 ρ),.c (.bool b)]) :=
 leA_tup (.cons (.c fun _ _ _ h => by cases h; exact .slnil) (.cons (.c leC.refl) .nil))
theorem t158_all (w:ByteArray):(t158 w).All (fun x => leA x (kindsA w)):=by
 unfold t158 kindsA kindC
 cases strEq w wPromote with
 | true => exact sel_all rfl leA.refl
 | false =>
 cases strEq w wSynced with
 | true => exact sel_all rfl leA.refl
 | false =>
 cases strEq w wDemote with
 | true => exact sel_all rfl leA.refl
 | false =>
 cases strEq w wRejoin with
 | true => exact sel_all rfl leA.refl
 | false =>
 cases strEq w wIsolate with
 | true => exact sel_all rfl leA.refl
 | false =>
 cases strEq w wUp with
 | true => exact sel_all rfl leA.refl
 | false =>
 cases strEq w wDown with
 | true => exact sel_all rfl leA.refl
 | false =>
 cases strEq w wConnect with
 | true => exact sel_all rfl leA.refl
 | false =>
 cases strEq w wDisconnect with
 | true => exact sel_all rfl leA.refl
 | false =>
 cases strEq w wFailover with
 | true => exact sel_all rfl leA.refl
 | false =>
 cases strEq w wResolve with
 | true => exact sel_all rfl leA.refl
 | false => exact sel_all rfl leA_nilk
theorem p158:UcOne Tryz.prog 158 (nG G158):=by
 refine ucOne_of_tree (H:=HL0) hL0 10 158 ?_
 intro args r h
 unfold G158 at h
 split at h
 ·rename_i w
  simp only [Option.some.injEq,Prod.mk.injEq,true_and] at h
  subst h
  exact ⟨_,t158_eq w,t158_all w⟩
 ·cases h
noncomputable abbrev HO:Hd:=⟨[(86,oG G86)],[(162,nG G162)],[],[]⟩
theorem hO:HdOk Tryz.prog HO:=(HdOk.nil.ucCons p162).pcCons p86
def G159:List A1 → Option (Bool × AV)
 | [.c (.int .i64 k),.c (.str w)] => some (nmD (numberS w),.one (.c (.bool (operandO k w))))
 | _ => none
def t159 (k:Int) (w:ByteArray):Tree AV :=
 .need (nmD (numberS w)) (.br (k == 1) (.leaf (.one (.c (.bool (nmO (numberS w)))))) (.br (k == 2) (.leaf (.one (.c (.bool (bif siteO w then true else strEq w wNone))))) (.leaf (.one (.c (.bool (siteO w)))))))
theorem t159_eq (k:Int) (w:ByteArray):hcTree Tryz.prog HO 10 159 [.c (.int .i64 k),.c (.str w)] = t159 k w:=by kernel_rfl
theorem p159:UcOne Tryz.prog 159 (nG G159):=by
 refine ucOne_of_tree (H:=HO) hO 10 159 ?_
 intro args r h
 unfold G159 at h
 split at h
 ·rename_i k w
  simp only [Option.some.injEq,Prod.mk.injEq] at h
  obtain ⟨h1,rfl⟩:=h
  refine ⟨_,t159_eq k w,?_⟩
  unfold t159 operandO
  refine ⟨h1,?_⟩
  cases (k == 1) with
  | true => exact sel_all rfl leA.refl
  | false => cases (k == 2) <;> exact sel_all rfl leA.refl
 ·cases h
noncomputable abbrev H131:Hd:=⟨[pF 31,pF 32,pF 33,pF 36,pF 85,(86,oG G86)],[(158,nG G158),(159,nG G159)],[],[]⟩
theorem h131:HdOk Tryz.prog H131:=((((((((HdOk.nil.ucCons p159).ucCons p158).pcCons p86).pF 85).pF 36).pF 33).pF 32).pF 31)
abbrev X131:HdP:=⟨[(33,localG 82 u33),(85,localG 82 u85),(31,localG 82 (uOf () encU sp31))],[],[],[],[],4,[33,85,31]⟩
theorem x131:XOk Tryz.prog X131:=((XOk.nil.loCons px31 (LocFn.localG _ _)).loCons px85 (LocFn.localG _ _)).loCons px33 (LocFn.localG _ _)
def encW (l:List ByteArray):AV:=.one (.c (.sl [.str] l.length (wordsV l)))
def row1 (w:ByteArray):Val:=Val.ofFlat 1 [.str w]
def t131r (s:ByteArray) (n:Nat) (ρ:Val):Nat → Nat → Nat → Val → PS → Tree (Out × List CV)
 | 0,_,_,_,_ => .fail
 | k + 1, j, m, σ, p => .br (lt (j : Int) (toInt64 n)) (.need (inRange (j : Int) n) (.need (nmD (numberS p.tx)) (nxT (bs []) (wordM (MP s) (operandO (((ρ.at j).at 0).N []) p.tx) p) (fun w p1 => .need (Nat.ble ((m + 1) * 16) 140737488355328) (t131r s n ρ k (j + 1) (m + 1) (Val.cat m σ (row1 w)) p1)) panT)))
   (.leaf (.ret (.one (.c (.sl [.str] m σ))),cellsP s p))
def t131 (s:ByteArray) (p:PS):Tree (Out × List CV) :=
 nxT (bs []) (wordM (MP s) (!(Nat.beq (kindC p.tx) 0)) p) (fun w p1 => t131r s (kindsOf (kindC p.tx)).length (intsV (kindsOf (kindC p.tx))) 4 0 1 (row1 w) p1) panT
theorem t131_eq (s t:ByteArray) (n a:Int):oneZ Tryz.prog H131 X131 10 131 82 [] [.str s,.int .i64 n,.str t,.int .i64 a] = .need true (t131 s ⟨n,t,a⟩):=by kernel_rfl
theorem nth_map' {α β:Type} (f:α → β):∀ (l:List α) (i:Nat),nth (l.map f) i = (nth l i).map f
 | [],_ => rfl
 | _ :: _,0 => rfl
 | _ :: l,i + 1 => nth_map' f l i
theorem wordsV_at (l:List ByteArray) (i:Nat) (w:ByteArray) (h:nth l i = some w):((wordsV l).at i).at 0 = Val.ofC (.str w):=by
 show (match nth (l.map .str) (i * 1 + 0) with | some x => Val.ofC x | none => Val.zero) = _
 rw [Nat.mul_one,Nat.add_zero,nth_map',h]
 rfl
theorem nth_append_lt {α:Type}:∀ (l r:List α) (i:Nat),i < l.length → nth (l ++ r) i = nth l i
 | [],_,_,h => by simp at h
 | _ :: _,_,0,_ => rfl
 | _ :: l,r,i + 1,h => nth_append_lt l r i (by simpa using h)
theorem nth_append_len {α:Type}:∀ (l:List α) (x:α) (r:List α),nth (l ++ x :: r) l.length = some x
 | [],_,_ => rfl
 | _ :: l,x,r => nth_append_len l x r
theorem nth_some_of_lt {α:Type}:∀ (l:List α) (i:Nat),i < l.length → ∃ x,nth l i = some x
 | [],_,h => by simp at h
 | a :: _,0,_ => ⟨a,rfl⟩
 | _ :: l,i + 1,h => nth_some_of_lt l i (by simpa using h)
def RowIs (σ:Val) (l:List ByteArray):Prop:=∀ i w,nth l i = some w → (((σ.at i).at 0).S []) = w
theorem RowIs.snoc {σ:Val} {l:List ByteArray} (h:RowIs σ l) (w:ByteArray):RowIs (Val.cat l.length σ (row1 w)) (l ++ [w]):=by
 intro i x hx
 show (bif Nat.blt i l.length then ((σ.at i).at 0).S [] else ((row1 w).at (i - l.length)).S (0 :: [])) = x
 by_cases hi:i < l.length
 ·rw [nth_append_lt _ _ _ hi] at hx
  rw [show Nat.blt i l.length = true from Nat.blt_eq.mpr hi]
  exact h i x hx
 ·have hlt:=nth_lt hx
  simp only [List.length_append,List.length_cons,List.length_nil] at hlt
  have hi2:i = l.length:=by omega
  subst hi2
  rw [nth_append_len] at hx
  have hb:Nat.blt l.length l.length = false:=by
   cases hh:Nat.blt l.length l.length
   ·rfl
   ·have:=Nat.blt_eq.mp hh; omega
  rw [hb,Nat.sub_self]
  exact Option.some.inj hx
theorem RowIs.le {σ:Val} {l:List ByteArray} (h:RowIs σ l):leA (.one (.c (.sl [.str] l.length σ))) (encW l):=by
 refine leA_one (.c (leC_ext fun i f s hi hs => ?_))
 obtain ⟨w,hw⟩:=nth_some_of_lt l i hi
 cases f with
 | zero =>
   simp only [nth,Option.some.injEq] at hs
   subst hs
   have h2:=h i w hw
   have h3:=wordsV_at l i w hw
   rw [h3]
   show CV.str _ = CV.str _
   rw [h2]
   rfl
 | succ f => simp [nth] at hs
theorem intsV_at (l:List Int) (i:Nat) (k:Int) (h:nth l i = some k):(((intsV l).at i).at 0).N [] = k:=by
 show Val.N (match nth (l.map (.int .i64)) (i * 1 + 0) with | some x => Val.ofC x | none => Val.zero) [] = _
 rw [Nat.mul_one,Nat.add_zero,nth_map',h]
 rfl
theorem PR.bind_assoc {σ α β γ:Type} (x:PR σ α) (f:α → σ → PR σ β) (g:β → σ → PR σ γ):(x.bind f).bind g = x.bind fun v s => (f v s).bind g:=by cases x <;> rfl
theorem nth_drop' {α:Type}:∀ (l:List α) (j:Nat) (x:α) (r:List α),l.drop j = x :: r → nth l j = some x ∧ l.drop (j + 1) = r
 | [],j,x,r,h => by simp at h
 | a :: l,0,x,r,h => by simp at h; exact ⟨congrArg some h.1,h.2⟩
 | _ :: l,j + 1,x,r,h => nth_drop' l j x r (by simpa using h)
theorem t131r_tells (s : ByteArray) (ks : List Int) (hks : ks.length ≤ 3) : ∀ (r : List Int) (j k : Nat) (σ : Val) (p : PS) (l : List ByteArray), ks.drop j = r → j + r.length = ks.length → r.length < k → l.length = j + 1 → RowIs σ l →
  Tells (t131r s ks.length (intsV ks) k j l.length σ p) encW s ((opWordsM (MP s) r p).bind fun r' q => .ret (l ++ r') q)
 | [], j, k, σ, p, l, hd, hj, hk, hl, hr => by
   obtain ⟨k,rfl⟩ : ∃ k',k = k' + 1:=⟨k - 1,by omega⟩
   have hlt:lt (j:Int) (toInt64 ks.length) = false:=by
    unfold lt toInt64
    simp at hj ⊢
    omega
   show Tells (.br (lt (j:Int) (toInt64 ks.length)) _ _) encW s (.ret (l ++ []) p)
   rw [hlt,List.append_nil]
   exact ⟨_,rfl,.ret hr.le LeL.refl rfl⟩
 | c :: r, j, k, σ, p, l, hd, hj, hk, hl, hr => by
   obtain ⟨k,rfl⟩ : ∃ k',k = k' + 1:=⟨k - 1,by omega⟩
   obtain ⟨h1,h2⟩:=nth_drop' ks j c r hd
   have hlen:j < ks.length:=nth_lt h1
   have hlt:lt (j:Int) (toInt64 ks.length) = true:=by
    unfold lt toInt64
    simp
    omega
   have hin:inRange (j:Int) ks.length = true:=by
    unfold inRange le lt toInt64
    simp
    omega
   have hkind:(((intsV ks).at j).at 0).N [] = c:=intsV_at ks j c h1
   have hble:Nat.ble ((l.length + 1) * 16) 140737488355328 = true:=Nat.ble_eq.mpr (by simp only [List.length_cons] at hj; omega)
   show Tells (.br (lt (j:Int) (toInt64 ks.length)) (.need (inRange (j:Int) ks.length) (.need (nmD (numberS p.tx)) (nxT (bs []) (wordM (MP s) (operandO (((intsV ks).at j).at 0 |>.N []) p.tx) p) (fun w p1 => .need (Nat.ble ((l.length + 1) * 16) 140737488355328) (t131r s ks.length (intsV ks) k (j + 1) (l.length + 1) (Val.cat l.length σ (row1 w)) p1)) panT))) _) encW s (((opWordM (MP s) c p).bind fun w s1 => (opWordsM (MP s) r s1).bind fun l s2 => .ret (w :: l) s2).bind fun r' q => .ret (l ++ r') q)
   rw [hlt,hin,hkind,hble]
   unfold opWordM
   show Tells _ encW s (((bif nmD (numberS p.tx) then wordM (MP s) (operandO c p.tx) p else .stuck).bind _).bind _)
   cases nmD (numberS p.tx) with
  | false => exact trivial
  | true =>
    simp only [cond_true]
    cases wordM (MP s) (operandO c p.tx) p with
   | stuck => exact trivial
   | pan a => exact Tells.of_pan rfl
   | ret w p1 =>
     have ih:=t131r_tells s ks hks r (j + 1) k (Val.cat l.length σ (row1 w)) p1 (l ++ [w]) h2 (by simp only [List.length_cons] at hj; omega) (by simp only [List.length_cons] at hk; omega) (by simp [hl]) (hr.snoc w)
     have e:(((PR.ret w p1).bind fun w s1 => (opWordsM (MP s) r s1).bind fun l s2 => .ret (w :: l) s2).bind fun r' q => .ret (l ++ r') q) = (opWordsM (MP s) r p1).bind fun r' q => PR.ret (l ++ [w] ++ r') q:=by
      show ((opWordsM (MP s) r p1).bind _).bind _ = _
      rw [PR.bind_assoc]
      congr 1
      funext v q
      show PR.ret (l ++ (w :: v)) q = _
      rw [List.append_assoc]
      rfl
     rw [e]
     rw [List.length_append] at ih
     exact ih
theorem kindsOf_le (w:ByteArray):(kindsOf (kindC w)).length ≤ 3:=by
 unfold kindsOf
 split <;> simp
abbrev u131:=uOf [] encW (spU fun s p => operationM (MP s) p)
theorem px131:PxOne Tryz.prog 131 (localG 82 u131):=px_U h131 x131 10 131 fun s n t a => by
 rw [t131_eq]
 have h:Tells (t131 s ⟨n,t,a⟩) encW s (operationM (MP s) ⟨n,t,a⟩):=Tells.bind fun w p1 => by
  have:=t131r_tells s (kindsOf (kindC t)) (kindsOf_le t) _ 0 4 (row1 w) p1 [w] rfl (by simp) (by have:=kindsOf_le t; simp; omega) rfl (by
   intro i x hx
   match i,hx with
   | 0,hx => exact Option.some.inj hx
   | i + 1,hx => simp [nth] at hx)
  exact this
 cases hx:operationM (MP s) ⟨n,t,a⟩ with
 | stuck => exact trivial
 | ret v q => rw [hx] at h; exact h
 | pan a => rw [hx] at h; exact h
structure RX where
 op:ByteArray
 v:Int
 n:Nat
 ρ:Val
def RX.cells (e:RX):List CV:=[.str e.op,.int .i64 e.v,.sl (rtab 0) e.n e.ρ]
def exR (op:ByteArray) (v:Int) (l:List RX):RX:=⟨op,v,l.length,Val.ofFlat 3 (l.flatMap RX.cells)⟩
structure RS where
 kind:ByteArray
 wn:Nat
 wρ:Val
 cond:RX
 bn:Nat
 bρ:Val
 en:Nat
 eρ:Val
 at_:Int
def RS.cells (s:RS):List CV:=[.str s.kind,.sl [.str] s.wn s.wρ,.str s.cond.op,.int .i64 s.cond.v,.sl (rtab 0) s.cond.n s.cond.ρ,.sl (rtab 1) s.bn s.bρ,.sl (rtab 1) s.en s.eρ,.int .i64 s.at_]
def blkV (l:List RS):Val:=Val.ofFlat 8 (l.flatMap RS.cells)
def stR (kind:ByteArray) (words:List ByteArray) (cond:RX) (body els:List RS) (at_:Int):RS:=⟨kind,words.length,wordsV words,cond,body.length,blkV body,els.length,blkV els,at_⟩
def AR:Alg RX RS:=⟨exR,stR⟩
def dX:RX:=exR (bs []) 0 []
def encX (e:RX):AV:=.one (.agg e.cells)
abbrev U132 (E:ByteArray → PS → PR PS RX):=uOf dX encX (spU E)
noncomputable abbrev H204:Hd:=⟨[lK,pF 31,pF 32,pF 33,pF 36,pF 85,pF 132,pF 133,pF 160,pF 161,pF 180,pF 197,pF 204,pF 211],[],[],[]⟩
theorem h204:HdOk Tryz.prog H204:=HdOk.lK (((((((((((((HdOk.nil.pF 211).pF 204).pF 197).pF 180).pF 161).pF 160).pF 133).pF 132).pF 85).pF 36).pF 33).pF 32).pF 31)
abbrev pxs0:List (Nat × (List A1 → Mem → Tree (Out × Mem))):=[(211,localG 82 u211),(133,localG 82 u133),(32,localG 82 u32),(33,localG 82 u33),(85,localG 82 u85),(31,localG 82 (uOf () encU sp31))]
abbrev X204 (E:ByteArray → PS → PR PS RX):HdP:=⟨(132,localG 82 (U132 E)) :: pxs0,[],[],[],[],0,[132,211,133,32,33,85,31]⟩
theorem x204 {E:ByteArray → PS → PR PS RX} (hE:PxOne Tryz.prog 132 (localG 82 (U132 E))):XOk Tryz.prog (X204 E) :=
 ((((x33.loCons px32 (LocFn.localG _ _)).loCons px133 (LocFn.localG _ _)).loCons px211 (LocFn.localG _ _)).loCons hE (LocFn.localG _ _))
def leafX (op:ByteArray) (v:Int) (s:ByteArray) (p:PS):Tree (Out × List CV):=.leaf (.ret (.one (.agg [.str op,.int .i64 v,.nils])),cellsP s p)
def t204 (E:ByteArray → PS → PR PS RX) (s:ByteArray) (p:PS):Tree (Out × List CV) :=
 let A:=nxT () (advS s p) (fun _ p1 => leafX p.tx 0 s p1) panT
 let B:=nxT () (advS s p) (fun _ p1 => nxT 0 (siteM (MP s) p1) (fun n p2 => leafX p.tx n s p2) panT) panT
 let C:=nxT () (advS s p) (fun _ p1 => nxT dX (E s p1) (fun e p2 => nxT () (expectM (MP s) wClose p2) (fun _ p3 => retT (encX e) s p3) panT) panT) panT
 let D:=nxT 0 (numberM (MP s) 1073741824 p) (fun n p1 => leafX wNum n s p1) panT
 let R2:=.br (strEq p.tx wOpen) C D
 let R1:=.br (strEq p.tx wEpoch) (.br (strEq p.tx wEpoch) B R2) (.br (strEq p.tx wApplied) (.br (strEq p.tx wApplied) B R2) (.br (strEq p.tx wRole) (.br (strEq p.tx wRole) B R2)
  (.br (strEq p.tx wAlive) (.br (strEq p.tx wAlive) B R2) (.br (strEq p.tx wConnected) B R2))))
 .br (strEq p.tx wPrimary) (.br (strEq p.tx wPrimary) A R1) (.br (strEq p.tx wSites) A R1)
theorem t204_eq (E:ByteArray → PS → PR PS RX) (s t:ByteArray) (n a:Int):oneZ Tryz.prog H204 (X204 E) 10 204 82 [] [.str s,.int .i64 n,.str t,.int .i64 a] = t204 E s ⟨n,t,a⟩:=by kernel_rfl
theorem leafX_tells {op:ByteArray} {v:Int} {s:ByteArray} {p:PS}:Tells (leafX op v s p) encX s (.ret (exR op v []) p) :=
 ⟨_,rfl,.ret (leA_one (.agg (.cons leC.refl (.cons leC.refl (.cons (fun _ _ _ h => by cases h; exact .slnil) .nil))))) LeL.refl rfl⟩
theorem Tells.or2 {β : Type} {c1 c2 : Bool} {A B : Tree (Out × List CV)} {enc : β → AV} {s : ByteArray} {x y : PR PS β} (h1 : Tells A enc s x) (h2 : Tells B enc s y) :
  Tells (.br c1 (.br c1 A B) (.br c2 A B)) enc s (bif (c1 || c2) then x else y):=by
 have k1:∀ T:Tree (Out × List CV),T.sel = A.sel → Tells T enc s x:=fun T e => by
  cases x with
  | stuck => exact trivial
  | ret v p => obtain ⟨z,hz,hl⟩:=h1; exact ⟨z,by rw [e]; exact hz,hl⟩
  | pan a => obtain ⟨z,hz,hl⟩:=h1; exact ⟨z,by rw [e]; exact hz,hl⟩
 have k2:∀ T:Tree (Out × List CV),T.sel = B.sel → Tells T enc s y:=fun T e => by
  cases y with
  | stuck => exact trivial
  | ret v p => obtain ⟨z,hz,hl⟩:=h2; exact ⟨z,by rw [e]; exact hz,hl⟩
  | pan a => obtain ⟨z,hz,hl⟩:=h2; exact ⟨z,by rw [e]; exact hz,hl⟩
 cases c1 <;> cases c2
 ·exact k2 _ rfl
 ·exact k1 _ rfl
 ·exact k1 _ rfl
 ·exact k1 _ rfl
theorem Tells.or5 {β : Type} {c1 c2 c3 c4 c5 : Bool} {A B : Tree (Out × List CV)} {enc : β → AV} {s : ByteArray} {x y : PR PS β} (h1 : Tells A enc s x) (h2 : Tells B enc s y) :
  Tells (.br c1 (.br c1 A B) (.br c2 (.br c2 A B) (.br c3 (.br c3 A B) (.br c4 (.br c4 A B) (.br c5 A B))))) enc s (bif (c1 || (c2 || (c3 || (c4 || c5)))) then x else y):=by
 have k1:∀ T:Tree (Out × List CV),T.sel = A.sel → Tells T enc s x:=fun T e => by
  cases x with
  | stuck => exact trivial
  | ret v p => obtain ⟨z,hz,hl⟩:=h1; exact ⟨z,by rw [e]; exact hz,hl⟩
  | pan a => obtain ⟨z,hz,hl⟩:=h1; exact ⟨z,by rw [e]; exact hz,hl⟩
 have k2:∀ T:Tree (Out × List CV),T.sel = B.sel → Tells T enc s y:=fun T e => by
  cases y with
  | stuck => exact trivial
  | ret v p => obtain ⟨z,hz,hl⟩:=h2; exact ⟨z,by rw [e]; exact hz,hl⟩
  | pan a => obtain ⟨z,hz,hl⟩:=h2; exact ⟨z,by rw [e]; exact hz,hl⟩
 cases c1
 ·cases c2
  ·cases c3
   ·cases c4
    ·cases c5
     ·exact k2 _ rfl
     ·exact k1 _ rfl
    ·exact k1 _ rfl
   ·exact k1 _ rfl
  ·exact k1 _ rfl
 ·exact k1 _ rfl
abbrev U204 (E:ByteArray → PS → PR PS RX):=uOf dX encX (spU fun s p => atomM (MP s) AR (E s) p)
theorem px204 {E:ByteArray → PS → PR PS RX} (hE:PxOne Tryz.prog 132 (localG 82 (U132 E))):PxOne Tryz.prog 204 (localG 82 (U204 E)):=px_U h204 (x204 hE) 10 204 fun s n t a => by
 rw [t204_eq]
 unfold t204 atomM
 refine Tells.or2 (Tells.bind fun _ p1 => leafX_tells) (Tells.or5 (Tells.bind fun _ p1 => Tells.bind fun m p2 => leafX_tells) (Tells.cond ?_ ?_))
 ·exact Tells.bind fun _ p1 => Tells.bind fun e p2 => Tells.bind fun _ p3 => Tells.ret
 ·exact Tells.bind fun m p1 => leafX_tells
def leAB (x y:AV):Prop:=∀ (F:Nat → Prop) (w:World) (bs:List BI) (v:Value),AV.Rel F w bs x v → AV.Rel F w bs y v
theorem leAB.refl {x:AV}:leAB x x:=fun _ _ _ _ h => h
theorem leAB.of {x y:AV} (h:leA x y) (hc:closedAV x = true):leAB x y:=fun F w bs v hx =>
 AV.Rel.grow (bs:=[]) ⟨Nat.le_refl _,fun _ _ h => h,fun _ _ _ => rfl,fun k p h => by simp [nth] at h⟩ (h F w v (hx.closed hc))
inductive LeSl:List (Nat × AV) → List (Nat × AV) → Prop
 | nil:LeSl [] []
 | cons {i x y l r}:leAB x y → LeSl l r → LeSl ((i,x) :: l) ((i,y) :: r)
theorem LeSl.look {l r:List (Nat × AV)} (h:LeSl l r) (i:Nat):(lookN r i = none) ∨ ∃ x y,lookN l i = some x ∧ lookN r i = some y ∧ leAB x y:=by
 induction h with
 | nil => exact .inl rfl
 | @cons k x y l r hxy _ ih =>
   simp only [lookN]
   by_cases hk:(k == i) = true
   ·rw [if_pos hk,if_pos hk]
    exact .inr ⟨x,y,rfl,rfl,hxy⟩
   ·rw [if_neg hk,if_neg hk]
    exact ih
theorem mkS_wk {n:Nat} {l r:List (Nat × AV)} {m m':Mem} (hl:LeSl l r) (hm:∀ (P:Program) F w bs,MemRel P F w bs m → MemRel P F w bs m'):StWk (mkS n l m) (mkS n r m'):=by
 intro P D F w bs a hs
 refine ⟨hs.defers,?_,fun i sl x h1 h2 => ?_,hm P F w bs hs.mem⟩
 ·have:=hs.len
  simp only [mkS] at this ⊢
  rw [← this]
  have key:∀ (l:List (Nat × AV)) n i,(mkL l n i).length = n:=by
   intro l n
   induction n with
   | zero => intro i; rfl
   | succ n ih => intro i; simp [mkL,ih]
  rw [key,key]
 ·simp only [mkS] at h1
  rw [mkL_nth] at h1
  split at h1
  rotate_left
  ·cases h1
  rename_i hlt
  simp only [Option.some.injEq,Nat.zero_add] at h1
  rcases hl.look i with hn | ⟨u,v,hu,hv,hle⟩
  ·rw [hn] at h1
   subst h1
   exact ⟨fun _ => trivial,fun h => (h KH_nil).elim⟩
  ·rw [hv] at h1
   subst h1
   have:=hs.slots i ⟨[],u⟩ x (by simp only [mkS]; rw [mkL_nth,if_pos hlt,Nat.zero_add,hu]) h2
   exact ⟨fun hk => hle _ _ _ _ (this.1 hk),fun h => (h KH_nil).elim⟩
theorem mem_wk {T : TypeId} {cs ds : List CV} {b : Nat} {m m' : Mem} (hb : nth m b = some (some (T, cs))) (hr : isRowL cs = false) (hc : cs.all closedC = true) (hl : LeL cs ds) (hr' : isRowL ds = false) (hm : setN m b (some (T, ds)) = m') :
  ∀ (P:Program) F w bs,MemRel P F w bs m → MemRel P F w bs m':=fun _ _ _ _ h => hm ▸ h.cellsLe hb hr hc hl hr'
abbrev CE:=CP × RX
abbrev DE:=Option (CP × RX)
def any3:List CV:=[.any,.any,.any]
def opsA (os:List ByteArray):AV:=.one (.c (.sl [.str] os.length (wordsV os)))
def SZ (os:List ByteArray) (fo:Nat) (c:CP):St :=
 mkS 29 [(0,.one (.c (.ptr 0 0))),(1,opsA os),(2,.one (.c (.fn (.func fo) [.ptr 0 0] []))),(6,.one (.c (.ptr 2 0)))] [some (82,cellsP c.1 c.2),some (50,any3),some (50,any3)]
def SL (os:List ByteArray) (fo:Nat) (c:CE):St :=
 mkS 29 [(0,.one (.c (.ptr 0 0))),(1,opsA os),(2,.one (.c (.fn (.func fo) [.ptr 0 0] []))),(6,.one (.c (.ptr 2 0))),(7,.one (.c (.ptr 3 0)))] [some (82,cellsP c.1.1 c.1.2),some (50,any3),some (50,any3),some (50,c.2.cells)]
def SE (c:DE):St:=match c with
 | some c => mkS 29 [(6,.one (.c (.ptr 2 0)))] [some (82,cellsP c.1.1 c.1.2),some (50,any3),some (50,c.2.cells)]
 | none => mkS 29 [(6,.one (.c (.ptr 2 0)))] [some (82,anys4),some (50,any3),some (50,any3)]
def okOps (n:Nat) (ρ:Val):Nat → List ByteArray → Bool
 | j,[] => Nat.beq n j
 | j,w :: r => strEq (((ρ.at j).at 0).S []) w && okOps n ρ (j + 1) r
def flat3 (cs:List CV):Bool:=cs.all closedC && Nat.beq cs.length 3 && !isRowL cs
def flat4 (cs:List CV):Bool:=cs.all closedC && Nat.beq cs.length 4 && !isRowL cs
def expC:List CV → Option RX
 | [.str o,.int .i64 v,.sl es n ρ] => if shEq.shsEq es (rtab 0) then some ⟨o,v,n,ρ⟩ else none
 | _ => none
def parC:List CV → Option CP
 | [.str s,.int .i64 n,.str t,.int .i64 a] => some (s,⟨n,t,a⟩)
 | _ => none
def getZ (os:List ByteArray) (fo:Nat):List (Nat × AV) → Mem → Option CP
 | [(0, .one (.c (.ptr 0 0))), (1, .one (.c (.sl [.str] n ρ))), (2, .one (.c (.fn (.func f) [.ptr 0 0] []))), (6, .one (.c (.ptr 2 0)))], [some (82, c0), some (50, c1), some (50, c2)] =>
   if Nat.beq f fo && okOps n ρ 0 os && flat3 c1 && flat3 c2 then parC c0 else none
 | _,_ => none
def getL (os:List ByteArray) (fo:Nat):List (Nat × AV) → Mem → Option CE
 | [(0, .one (.c (.ptr 0 0))), (1, .one (.c (.sl [.str] n ρ))), (2, .one (.c (.fn (.func f) [.ptr 0 0] []))), (6, .one (.c (.ptr 2 0))), (7, .one (.c (.ptr 3 0)))], [some (82, c0), some (50, c1), some (50, c2), some (50, c3)] =>
   if Nat.beq f fo && okOps n ρ 0 os && flat3 c1 && flat3 c2 then (match parC c0,expC c3 with | some p,some e => some (p,e) | _,_ => none) else none
 | _,_ => none
def getE:List (Nat × AV) → Mem → Option DE
 | [(6, .one (.c (.ptr 2 0)))], [some (82, c0), some (50, c1), some (50, c2)] =>
   if flat3 c1 then (match parC c0,expC c2 with
    | some p,some e => some (some (p,e))
    | _,_ => if flat4 c0 && flat3 c2 then some none else none) else none
 | _,_ => none
theorem okOps_len {n:Nat} {ρ:Val}:∀ {os:List ByteArray} {j:Nat},okOps n ρ j os = true → n = j + os.length
 | [],j,h => by simpa using Nat.eq_of_beq_eq_true h
 | w :: r, j, h => by
   simp only [okOps,Bool.and_eq_true] at h
   have:=okOps_len h.2
   simp only [List.length_cons]
   omega
theorem okOps_at {n:Nat} {ρ:Val}:∀ {os:List ByteArray} {j:Nat},okOps n ρ j os = true → ∀ i w,nth os i = some w → ((ρ.at (j + i)).at 0).S [] = w
 | [],_,_,i,w,h => by simp [nth] at h
 | x :: r, j, h, 0, w, hw => by
   simp only [okOps,Bool.and_eq_true] at h
   simp only [nth,Option.some.injEq] at hw
   subst hw
   exact strEq_eq h.1
 | x :: r, j, h, i + 1, w, hw => by
   simp only [okOps,Bool.and_eq_true] at h
   have:=okOps_at h.2 i w hw
   rwa [show j + 1 + i = j + (i + 1) by omega] at this
theorem okOps_le {n:Nat} {ρ:Val} {os:List ByteArray} (h:okOps n ρ 0 os = true):leAB (.one (.c (.sl [.str] n ρ))) (opsA os):=by
 have hn:=okOps_len h
 rw [Nat.zero_add] at hn
 subst hn
 refine leAB.of (RowIs.le (l:=os) (σ:=ρ) fun i w hw => ?_) rfl
 have:=okOps_at h i w hw
 rwa [Nat.zero_add] at this
theorem flat3_le {cs:List CV} (h:flat3 cs = true):cs.all closedC = true ∧ isRowL cs = false ∧ LeL cs any3:=by
 simp only [flat3,Bool.and_eq_true,Bool.not_eq_true'] at h
 obtain ⟨⟨h1,h2⟩,h3⟩:=h
 have h2:=Nat.eq_of_beq_eq_true h2
 refine ⟨h1,h3,?_⟩
 match cs,h2 with
 | [a,b,c],_ => exact .cons leC_any (.cons leC_any (.cons leC_any .nil))
theorem flat4_le {cs:List CV} (h:flat4 cs = true):cs.all closedC = true ∧ isRowL cs = false ∧ LeL cs anys4:=by
 simp only [flat4,Bool.and_eq_true,Bool.not_eq_true'] at h
 obtain ⟨⟨h1,h2⟩,h3⟩:=h
 have h2:=Nat.eq_of_beq_eq_true h2
 refine ⟨h1,h3,?_⟩
 match cs,h2 with
 | [a,b,c,d],_ => exact .cons leC_any (.cons leC_any (.cons leC_any (.cons leC_any .nil)))
theorem expC_some {cs:List CV} {e:RX} (h:expC cs = some e):cs = e.cells:=by
 unfold expC at h
 split at h
 ·split at h
  ·rename_i hs
   have:=shsEq_eq hs
   subst this
   cases h; rfl
  ·cases h
 ·cases h
theorem parC_some {cs:List CV} {c:CP} (h:parC cs = some c):cs = cellsP c.1 c.2:=by
 unfold parC at h
 split at h
 ·cases h; rfl
 ·cases h
theorem getZ_ok (os:List ByteArray) (fo:Nat):∀ l m c,getZ os fo l m = some c → StWk (mkS 29 l m) (SZ os fo c):=by
 intro l m c h
 unfold getZ at h
 split at h
 ·rename_i n ρ f c0 c1 c2
  split at h
  ·rename_i hc
   simp only [Bool.and_eq_true] at hc
   obtain ⟨⟨⟨hf,ho⟩,h1⟩,h2⟩:=hc
   have hf:=Nat.eq_of_beq_eq_true hf
   subst hf
   rw [parC_some h]
   obtain ⟨a1,a2,a3⟩:=flat3_le h1
   obtain ⟨b1,b2,b3⟩:=flat3_le h2
   refine mkS_wk (.cons leAB.refl (.cons (okOps_le ho) (.cons leAB.refl (.cons leAB.refl .nil)))) fun P F w bs hm => ?_
   exact mem_wk (b:=2) (m:=[some (82,cellsP c.1 c.2),some (50,any3),some (50,c2)]) rfl b2 b1 b3 rfl rfl P F w bs (mem_wk (b:=1) rfl a2 a1 a3 rfl rfl P F w bs hm)
  ·cases h
 ·cases h
theorem getL_ok (os:List ByteArray) (fo:Nat):∀ l m c,getL os fo l m = some c → StWk (mkS 29 l m) (SL os fo c):=by
 intro l m c h
 unfold getL at h
 split at h
 ·rename_i n ρ f c0 c1 c2 c3
  split at h
  ·rename_i hc
   simp only [Bool.and_eq_true] at hc
   obtain ⟨⟨⟨hf,ho⟩,h1⟩,h2⟩:=hc
   have hf:=Nat.eq_of_beq_eq_true hf
   subst hf
   split at h
   ·rename_i p e hp he
    cases h
    rw [parC_some hp,expC_some he]
    obtain ⟨a1,a2,a3⟩:=flat3_le h1
    obtain ⟨b1,b2,b3⟩:=flat3_le h2
    refine mkS_wk (.cons leAB.refl (.cons (okOps_le ho) (.cons leAB.refl (.cons leAB.refl (.cons leAB.refl .nil))))) fun P F w bs hm => ?_
    exact mem_wk (b:=2) (m:=[some (82,cellsP p.1 p.2),some (50,any3),some (50,c2),some (50,e.cells)]) rfl b2 b1 b3 rfl rfl P F w bs (mem_wk (b:=1) rfl a2 a1 a3 rfl rfl P F w bs hm)
   ·cases h
  ·cases h
 ·cases h
theorem getE_ok:∀ l m c,getE l m = some c → StWk (mkS 29 l m) (SE c):=by
 intro l m c h
 unfold getE at h
 split at h
 ·rename_i c0 c1 c2
  split at h
  ·rename_i h1
   obtain ⟨a1,a2,a3⟩:=flat3_le h1
   split at h
   ·rename_i p e hp he
    cases h
    rw [parC_some hp,expC_some he]
    exact mkS_wk (.cons leAB.refl .nil) (mem_wk (b:=1) rfl a2 a1 a3 rfl rfl)
   ·split at h
    ·rename_i h2
     cases h
     rw [Bool.and_eq_true] at h2
     obtain ⟨b1,b2,b3⟩:=flat4_le h2.1
     obtain ⟨d1,d2,d3⟩:=flat3_le h2.2
     refine mkS_wk (.cons leAB.refl .nil) fun P F w bs hm => ?_
     exact mem_wk (b:=2) (m:=[some (82,anys4),some (50,any3),some (50,c2)]) rfl d2 d1 d3 rfl rfl P F w bs (mem_wk (b:=0) (m:=[some (82,c0),some (50,any3),some (50,c2)]) rfl b2 b1 b3 rfl rfl P F w bs (mem_wk (b:=1) rfl a2 a1 a3 rfl rfl P F w bs hm))
    ·cases h
  ·cases h
 ·cases h
def AL (os:List ByteArray) (fo:Nat):Sx.Frame CE DE:=⟨3,29,[0,1,2,6,7],getL os fo,SL os fo,[6],getE,SE⟩
def AZ (os:List ByteArray) (fo:Nat):Sx.Frame CP DE:=⟨3,29,[0,1,2,6],getZ os fo,SZ os fo,[6],getE,SE⟩
theorem aL (os:List ByteArray) (fo:Nat):(AL os fo).Ok:=⟨getL_ok os fo,getE_ok⟩
theorem aZ (os:List ByteArray) (fo:Nat):(AZ os fo).Ok:=⟨getZ_ok os fo,getE_ok⟩
end Go.Proofs.YtiefjlcakpdfeaaGreat
