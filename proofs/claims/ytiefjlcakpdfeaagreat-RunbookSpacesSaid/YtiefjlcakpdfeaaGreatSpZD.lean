/-
 Part SpZD of the proof: RpC RpD RdK RpE RpF RpG RpH.
-/
import Derived.Test.YtiefjlcakpdfeaaGreatSpZC
import Derived.Test.YtiefjlcakpdfeaaGreatSpZB
namespace Go.Proofs.YtiefjlcakpdfeaaGreat
open Go Go.Sx Go.RowKit Rb
set_option maxRecDepth 100000
section
variable {σ α β ε τ:Type}
def okP (x:PR σ α) (Q:α → σ → Prop):Prop:=match x with
 | .stuck => False
 | .pan _ => True
 | .ret v s => Q v s
theorem okP.bind {x:PR σ α} {f:α → σ → PR σ β} {Q:α → σ → Prop} {Q':β → σ → Prop} (h:okP x Q) (hf:∀ v s,Q v s → okP (f v s) Q'):okP (x.bind f) Q':=by
 cases x with
 | stuck => exact h
 | pan a => exact trivial
 | ret v s => exact hf v s h
theorem okP.cond {c:Bool} {x y:PR σ α} {Q:α → σ → Prop} (h1:c = true → okP x Q) (h2:c = false → okP y Q):okP (bif c then x else y) Q:=by
 cases c with
 | true => exact h1 rfl
 | false => exact h2 rfl
theorem okP.mono {x:PR σ α} {Q Q':α → σ → Prop} (h:okP x Q) (hq:∀ v s,Q v s → Q' v s):okP x Q':=by
 cases x with
 | stuck => exact h
 | pan a => exact trivial
 | ret v s => exact hq v s h
def tokN (t:ByteArray):Nat:=bif strEq t (bs []) then 0 else 1
theorem tokN_le (t:ByteArray):tokN t ≤ 1:=by unfold tokN; cases strEq t (bs []) <;> decide
theorem tokN_of {t:ByteArray} {f:ByteArray → Bool} (h:f t = true) (h0:f (bs []) = false):tokN t = 1:=by
 unfold tokN
 cases he:strEq t (bs []) with
 | false => rfl
 | true =>
   rw [(strEq_iff _ _).1 he,h0] at h
   cases h
structure MOk (M:Mach σ) (I:σ → Prop) (μ:σ → Nat) (W:ByteArray → Prop):Prop where
 tok:∀ s,I s → W (M.tx s)
 adv:∀ s,I s → okP (M.adv s) fun _ s' => I s' ∧ μ s' + tokN (M.tx s) ≤ μ s
 num:∀ s,I s → nmD (numberS (M.tx s)) = true
 wrd:∀ s,I s → obD (isWordS (M.tx s)) = true
 nam:∀ s,I s → nameN (M.tx s) = true
structure AOk (A:Alg ε τ) (W:ByteArray → Prop) (DE:Nat → ε → Prop) (DT:Nat → τ → Prop):Prop where
 ex:∀ {k op v l},l.length ≤ 2 → (∀ x ∈ l,DE k x) → DE (k + 1) (A.ex op v l)
 em:∀ {k k' e},k ≤ k' → DE k e → DE k' e
 st:∀ {k kd w e b x p},w.length ≤ k → (∀ u ∈ w,W u) → DE k e → b.length ≤ k → (∀ y ∈ b,DT k y) → x.length ≤ k → (∀ y ∈ x,DT k y) → DT (k + 1) (A.st kd w e b x p)
 tm:∀ {k k' t},k ≤ k' → DT k t → DT k' t
variable {M:Mach σ} {I:σ → Prop} {μ:σ → Nat} {W:ByteArray → Prop} (hM:MOk M I μ W)
include hM
theorem take_ok {t:ByteArray} (ht:strEq t (bs []) = false) {s:σ} (h:I s):okP (takeM M t s) fun c s' => I s' ∧ μ s' + (bif c then 1 else 0) ≤ μ s:=by
 unfold takeM
 refine .cond (fun hc => ?_) fun _ => ⟨h,Nat.le_refl _⟩
 refine (hM.adv s h).bind fun _ s' h2 => ⟨h2.1,?_⟩
 have:tokN (M.tx s) = 1:=by rw [(strEq_iff _ _).1 hc]; unfold tokN; rw [ht]; rfl
 simp only [cond_true]
 omega
theorem expect_ok {t:ByteArray} (ht:strEq t (bs []) = false) {s:σ} (h:I s):okP (expectM M t s) fun _ s' => I s' ∧ μ s' + 1 ≤ μ s:=by
 unfold expectM
 refine (take_ok hM ht h).bind fun c s' h2 => ?_
 cases c with
 | true => exact h2
 | false => exact trivial
theorem word_ok {ok:Bool} {s:σ} (h:I s) (hk:ok = true → tokN (M.tx s) = 1):okP (wordM M ok s) fun w s' => I s' ∧ μ s' + 1 ≤ μ s ∧ W w:=by
 unfold wordM
 refine .cond (fun hc => ?_) fun _ => trivial
 refine (hM.adv s h).bind fun _ s' h2 => ⟨h2.1,?_,hM.tok s h⟩
 have:=hk hc
 omega
omit hM in
theorem num_tok {w:ByteArray} (h:nmO (numberS w) = true):tokN w = 1:=tokN_of (f:=fun w => nmO (numberS w)) h (by kernel_rfl)
theorem number_ok {most:Int} {s:σ} (h:I s):okP (numberM M most s) fun _ s' => I s' ∧ μ s' + 1 ≤ μ s:=by
 unfold numberM
 have h1:=hM.num s h
 cases hn:numberS (M.tx s) with
 | none => rw [hn] at h1; cases h1
 | some y =>
   obtain ⟨n,ok⟩:=y
   refine (word_ok hM h fun hc => ?_).bind fun _ s' h2 => ⟨h2.1,h2.2.1⟩
   have:ok = true:=by cases ok <;> first | rfl | cases hc
   subst this
   exact num_tok (by rw [hn]; rfl)
omit hM in
theorem site_tok {w:ByteArray} (h:siteO w = true):tokN w = 1:=tokN_of (f:=siteO) h (by kernel_rfl)
theorem site_ok {s:σ} (h:I s):okP (siteM M s) fun _ s' => I s' ∧ μ s' + 1 ≤ μ s:=by
 unfold siteM
 exact (word_ok hM h fun hc => site_tok hc).bind fun _ s' h2 => ⟨h2.1,h2.2.1⟩
theorem plain_ok {s:σ} (h:I s):okP (plainM M s) fun w s' => I s' ∧ μ s' + 1 ≤ μ s ∧ W w:=by
 unfold plainM
 have h1:=hM.wrd s h
 cases hn:isWordS (M.tx s) with
 | none => rw [hn] at h1; cases h1
 | some y =>
   refine word_ok hM h fun hc => tokN_of (f:=fun w => obV (isWordS w)) (by rw [hn]; exact hc) (by kernel_rfl)
omit hM in
theorem operand_tok {k:Int} {w:ByteArray} (h:operandO k w = true):tokN w = 1:=by
 refine tokN_of (f:=operandO k) h ?_
 unfold operandO
 have e1:nmO (numberS (bs [])) = false:=by kernel_rfl
 have e2:siteO (bs []) = false:=by kernel_rfl
 have e3:strEq (bs []) wNone = false:=by kernel_rfl
 rw [e1,e2,e3]
 cases k == 1 <;> cases k == 2 <;> rfl
theorem opWord_ok {k:Int} {s:σ} (h:I s):okP (opWordM M k s) fun w s' => I s' ∧ μ s' + 1 ≤ μ s ∧ W w:=by
 unfold opWordM
 rw [hM.num s h]
 exact word_ok hM h fun hc => operand_tok hc
theorem opWords_ok:∀ (l:List Int) {s:σ},I s → okP (opWordsM M l s) fun w s' => I s' ∧ μ s' + w.length ≤ μ s ∧ ∀ u ∈ w,W u
 | [],_,h => ⟨h,Nat.le_refl _,fun u hu => by cases hu⟩
 | k :: r, s, h => by
   unfold opWordsM
   refine (opWord_ok hM h).bind fun w s1 h1 => (opWords_ok r h1.1).bind fun l s2 h2 => ⟨h2.1,?_,fun u hu => ?_⟩
   ·simp only [List.length_cons]
    omega
   ·rcases List.mem_cons.1 hu with rfl | hu
    ·exact h1.2.2
    ·exact h2.2.2 u hu
theorem operation_ok {s:σ} (h:I s):okP (operationM M s) fun w s' => I s' ∧ μ s' + 1 ≤ μ s ∧ μ s' + w.length ≤ μ s ∧ ∀ u ∈ w,W u:=by
 unfold operationM
 refine (word_ok hM h fun hc => tokN_of (f:=fun w => !(Nat.beq (kindC w) 0)) hc (by kernel_rfl)).bind fun w s1 h1 => (opWords_ok hM _ h1.1).bind fun l s2 h2 => ⟨h2.1,by omega,?_,fun u hu => ?_⟩
 ·simp only [List.length_cons]
  omega
 ·rcases List.mem_cons.1 hu with rfl | hu
  ·exact h1.2.2
  ·exact h2.2.2 u hu
variable {A:Alg ε τ} {DE:Nat → ε → Prop} {DT:Nat → τ → Prop} (hA:AOk A W DE DT)
include hA
abbrev FE (I:σ → Prop) (μ:σ → Nat) (DE:Nat → ε → Prop) (m:Nat) (f:σ → PR σ ε):Prop:=∀ s,I s → μ s < m → okP (f s) fun e s' => I s' ∧ μ s' + 1 ≤ μ s ∧ DE (μ s - μ s') e
theorem try_ok {m B : Nat} {o : σ → PR σ ε} (ho : FE I μ DE m o) {g : ε → σ → PR σ ε} {j : Nat}
  (hg:∀ e s1,I s1 → μ s1 < j → μ s1 ≤ B → DE (B - μ s1) e → okP (g e s1) fun e' s' => I s' ∧ μ s' ≤ μ s1 ∧ DE (B - μ s') e') :
  ∀ (l:List ByteArray),(∀ w ∈ l,strEq w (bs []) = false) → ∀ {e:ε} {s:σ},I s → μ s ≤ j → μ s < m → μ s ≤ B → DE (B - μ s) e →
  okP (tryM M A o g e l s) fun e' s' => I s' ∧ μ s' ≤ μ s ∧ DE (B - μ s') e'
 | [],_,_,_,h,_,_,_,hd => ⟨h,Nat.le_refl _,hd⟩
 | w :: r, hw, e, s, h, hj, hm, hB, hd => by
   unfold tryM
   refine (take_ok hM (hw w (by simp)) h).bind fun c s1 h1 => ?_
   cases c with
  | true =>
    simp only [cond_true] at h1 ⊢
    refine (ho s1 h1.1 (by omega)).bind fun x s2 h2 => ?_
    refine (hg _ s2 h2.1 (by omega) (by omega) ?_).mono fun e' s' h3 => ⟨h3.1,by omega,h3.2.2⟩
    have:B - μ s2 = (B - μ s2 - 1) + 1:=by omega
    rw [this]
    refine hA.ex (by simp) fun y hy => ?_
    rcases List.mem_cons.1 hy with rfl | hy
    ·exact hA.em (by omega) hd
    ·rcases List.mem_cons.1 hy with rfl | hy
     ·exact hA.em (by omega) h2.2.2
     ·cases hy
  | false =>
    simp only [cond_false] at h1 ⊢
    exact (try_ok ho hg r (fun w hw' => hw w (by simp [hw'])) h1.1 (by omega) (by omega) (by omega) (hA.em (by omega) hd)).mono fun e' s' h3 => ⟨h3.1,by omega,h3.2.2⟩
theorem chain_ok {m B : Nat} {o : σ → PR σ ε} (ho : FE I μ DE m o) {ops : List ByteArray} (hops : ∀ w ∈ ops, strEq w (bs []) = false) : ∀ (k : Nat) (e : ε) (s : σ), I s → μ s < k → μ s < m → μ s ≤ B → DE (B - μ s) e →
  okP (chainM M A ops o k e s) fun e' s' => I s' ∧ μ s' ≤ μ s ∧ DE (B - μ s') e'
 | 0,_,_,_,h,_,_,_ => by omega
 | k + 1, e, s, h, hk, hm, hB, hd => by
   show okP (tryM M A o (chainM M A ops o k) e ops s) _
   exact try_ok hM hA ho (j:=μ s) (fun e s1 h1 h2 h3 h4 => chain_ok ho hops k e s1 h1 (by omega) (by omega) h3 h4) ops hops h (Nat.le_refl _) hm hB hd
theorem atom_ok {m m':Nat} {x:σ → PR σ ε} (hx:FE I μ DE m' x) (hm:m ≤ m' + 1):FE I μ DE m (atomM M A x):=by
 intro s h hs
 have hnil:∀ (k:Nat) (op:ByteArray) (v:Int),0 < k → DE k (A.ex op v []):=fun k op v hk => by
  have:k = (k - 1) + 1:=by omega
  rw [this]
  exact hA.ex (Nat.zero_le _) fun y hy => by cases hy
 unfold atomM
 refine .cond (fun hc => ?_) fun _ => .cond (fun hc => ?_) fun _ => .cond (fun hc => ?_) fun _ => ?_
 ·have ht:tokN (M.tx s) = 1:=tokN_of (f:=fun w => strEq w wPrimary || strEq w wSites) hc (by kernel_rfl)
  refine (hM.adv s h).bind fun _ s1 h1 => ⟨h1.1,by omega,hnil _ _ _ (by omega)⟩
 ·have ht:tokN (M.tx s) = 1:=tokN_of (f:=fun w => strEq w wEpoch || (strEq w wApplied || (strEq w wRole || (strEq w wAlive || strEq w wConnected)))) hc (by kernel_rfl)
  refine (hM.adv s h).bind fun _ s1 h1 => (site_ok hM h1.1).bind fun n s2 h2 => ⟨h2.1,by omega,hnil _ _ _ (by omega)⟩
 ·have ht:tokN (M.tx s) = 1:=tokN_of (f:=fun w => strEq w wOpen) hc (by kernel_rfl)
  refine (hM.adv s h).bind fun _ s1 h1 => (hx s1 h1.1 (by omega)).bind fun e s2 h2 => (expect_ok hM (by kernel_rfl) h2.1).bind fun _ s3 h3 => ⟨h3.1,by omega,hA.em (by omega) h2.2.2⟩
 ·refine (number_ok hM h).bind fun n s1 h1 => ⟨h1.1,by omega,hnil _ _ _ (by omega)⟩
omit hM hA in
theorem ops2 {a b:ByteArray} (ha:strEq a (bs []) = false) (hb:strEq b (bs []) = false):∀ w ∈ [a,b],strEq w (bs []) = false:=by
 intro w hw
 rcases List.mem_cons.1 hw with rfl | hw
 ·exact ha
 ·rcases List.mem_cons.1 hw with rfl | hw
  ·exact hb
  ·cases hw
omit hM hA in
theorem ops1 {a:ByteArray} (ha:strEq a (bs []) = false):∀ w ∈ [a],strEq w (bs []) = false:=by
 intro w hw
 rcases List.mem_cons.1 hw with rfl | hw
 ·exact ha
 ·cases hw
theorem chainE_ok {m K:Nat} {o:σ → PR σ ε} (ho:FE I μ DE m o) {ops:List ByteArray} (hops:∀ w ∈ ops,strEq w (bs []) = false) (hK:m ≤ K):FE I μ DE m fun s => (o s).bind fun e s1 => chainM M A ops o K e s1:=by
 intro s h hs
 refine (ho s h hs).bind fun e s1 h1 => ?_
 refine (chain_ok hM hA (B:=μ s) ho hops K e s1 h1.1 (by omega) (by omega) (by omega) h1.2.2).mono fun e' s' h2 => ⟨h2.1,by omega,h2.2.2⟩
theorem sum_ok {m m' K:Nat} {x:σ → PR σ ε} (hx:FE I μ DE m' x) (hm:m ≤ m' + 1) (hK:m ≤ K):FE I μ DE m (sumM M A x K) :=
 chainE_ok hM hA (atom_ok hM hA hx hm) (ops2 (by kernel_rfl) (by kernel_rfl)) hK
theorem one_ok {m m' K:Nat} {o x:σ → PR σ ε} (ho:FE I μ DE m' o) (hx:FE I μ DE m' x) (hm:m ≤ m' + 1) (hK:m ≤ K):FE I μ DE m (oneM M A o x K):=by
 intro s h hs
 unfold oneM
 refine (take_ok hM (by kernel_rfl) h).bind fun c s1 h1 => ?_
 cases c with
 | true =>
   simp only [cond_true] at h1 ⊢
   refine (ho s1 h1.1 (by omega)).bind fun e s2 h2 => ⟨h2.1,by omega,?_⟩
   have:μ s - μ s2 = (μ s - μ s2 - 1) + 1:=by omega
   rw [this]
   refine hA.ex (by simp) fun y hy => ?_
   rcases List.mem_cons.1 hy with rfl | hy
   ·exact hA.em (by omega) h2.2.2
   ·cases hy
 | false =>
   simp only [cond_false] at h1 ⊢
   have hsum:=sum_ok hM hA hx hm hK
   refine (hsum s1 h1.1 (by omega)).bind fun e s2 h2 => ?_
   refine (try_ok hM hA (B:=μ s) (j:=μ s2) hsum (g:=fun x s3 => .ret x s3) (fun e s1 h3 _ _ h4 => ⟨h3,Nat.le_refl _,h4⟩) [wEq,wLt,wGt] ?_ h2.1 (Nat.le_refl _) (by omega) (by omega) (hA.em (by omega) h2.2.2)).mono fun e' s' h3 => ⟨h3.1,by omega,h3.2.2⟩
   intro w hw
   rcases List.mem_cons.1 hw with rfl | hw
   ·kernel_rfl
   ·exact ops2 (by kernel_rfl) (by kernel_rfl) w hw
theorem both_ok {m m' K:Nat} {o x:σ → PR σ ε} (ho:FE I μ DE m' o) (hx:FE I μ DE m' x) (hm:m ≤ m' + 1) (hK:m ≤ K):FE I μ DE m (bothM M A o x K) :=
 chainE_ok hM hA (one_ok hM hA ho hx hm hK) (ops1 (by kernel_rfl)) hK
theorem expr_ok {m m' K:Nat} {o x:σ → PR σ ε} (ho:FE I μ DE m' o) (hx:FE I μ DE m' x) (hm:m ≤ m' + 1) (hK:m ≤ K):FE I μ DE m (exprM M A o x K) :=
 chainE_ok hM hA (both_ok hM hA ho hx hm hK) (ops1 (by kernel_rfl)) hK
theorem exs_ok (K:Nat):∀ d,d ≤ K → FE I μ DE d (exs M A K d).1 ∧ FE I μ DE d (exs M A K d).2
 | 0,_ => ⟨fun s _ h => by omega,fun s _ h => by omega⟩
 | d + 1,h => ⟨one_ok hM hA (exs_ok K d (by omega)).1 (exs_ok K d (by omega)).2 (Nat.le_refl _) h,expr_ok hM hA (exs_ok K d (by omega)).1 (exs_ok K d (by omega)).2 (Nat.le_refl _) h⟩
abbrev FT (I:σ → Prop) (μ:σ → Nat) (DT:Nat → τ → Prop) (m:Nat) (f:σ → PR σ τ):Prop:=∀ s,I s → μ s < m → okP (f s) fun t s' => I s' ∧ μ s' + 1 ≤ μ s ∧ DT (μ s - μ s') t
abbrev FB (I:σ → Prop) (μ:σ → Nat) (DT:Nat → τ → Prop) (m:Nat) (f:σ → PR σ (List τ)):Prop:=∀ s,I s → μ s < m → okP (f s) fun l s' => I s' ∧ μ s' + 1 + l.length ≤ μ s ∧ ∀ t ∈ l,DT (μ s - μ s') t
omit hA in
theorem words_ok:∀ (k:Nat) (s:σ),I s → μ s < k → okP (wordsM M k s) fun w s' => I s' ∧ μ s' + w.length ≤ μ s ∧ ∀ u ∈ w,W u
 | 0,_,_,h => by omega
 | k + 1, s, h, hk => by
   unfold wordsM
   refine (take_ok hM (by kernel_rfl) h).bind fun c s1 h1 => ?_
   cases c with
  | true => exact ⟨h1.1,by simp only [List.length_nil]; omega,fun u hu => by cases hu⟩
  | false =>
    simp only [cond_false] at h1 ⊢
    refine (plain_ok hM h1.1).bind fun w s2 h2 => (words_ok k s2 h2.1 (by omega)).bind fun l s3 h3 => ⟨h3.1,by simp only [List.length_cons]; omega,fun u hu => ?_⟩
    rcases List.mem_cons.1 hu with rfl | hu
    ·exact h2.2.2
    ·exact h3.2.2 u hu
theorem blockL_ok {m:Nat} {st:σ → PR σ τ} (hs:FT I μ DT m st):∀ (k:Nat) (s:σ),I s → μ s < k → μ s < m → okP (blockL M st k s) fun l s' => I s' ∧ μ s' + 1 + l.length ≤ μ s ∧ ∀ t ∈ l,DT (μ s - μ s') t
 | 0,_,_,h,_ => by omega
 | k + 1, s, h, hk, hm => by
   unfold blockL
   refine (take_ok hM (by kernel_rfl) h).bind fun c s1 h1 => ?_
   cases c with
  | true => exact ⟨h1.1,by simp only [cond_true] at h1; simp only [List.length_nil]; omega,fun t ht => by cases ht⟩
  | false =>
    simp only [cond_false] at h1 ⊢
    refine (hs s1 h1.1 (by omega)).bind fun x s2 h2 => (blockL_ok hs k s2 h2.1 (by omega) (by omega)).bind fun l s3 h3 => ⟨h3.1,by simp only [List.length_cons]; omega,fun t ht => ?_⟩
    rcases List.mem_cons.1 ht with rfl | ht
    ·exact hA.tm (by omega) h2.2.2
    ·exact hA.tm (by omega) (h3.2.2 t ht)
theorem block_ok {m K:Nat} {st:σ → PR σ τ} (hs:FT I μ DT m st) (hK:m ≤ K):FB I μ DT m (blockM M st K):=by
 intro s h hm
 unfold blockM
 refine (expect_ok hM (by kernel_rfl) h).bind fun _ s1 h1 => (blockL_ok hM hA hs K s1 h1.1 (by omega) (by omega)).mono fun l s' h2 => ⟨h2.1,by omega,fun t ht => hA.tm (by omega) (h2.2.2 t ht)⟩
theorem statement_ok {m m' K:Nat} {x:σ → PR σ ε} (hx:FE I μ DE K x) {b:σ → PR σ (List τ)} (hb:FB I μ DT m' b) (hm:m ≤ m' + 1) (hK:m ≤ K):FT I μ DT m (statementM M A x b K):=by
 intro s h hs
 have hst:∀ {k kd w e b x p},0 < k → w.length ≤ k - 1 → (∀ u ∈ w,W u) → DE (k - 1) e → b.length ≤ k - 1 → (∀ y ∈ b,DT (k - 1) y) → x.length ≤ k - 1 → (∀ y ∈ x,DT (k - 1) y) → DT k (A.st kd w e b x p):=fun {k} _ _ _ _ _ _ hk h1 h2 h3 h4 h5 h6 h7 => by
  have:k = (k - 1) + 1:=by omega
  rw [this]
  exact hA.st h1 h2 h3 h4 h5 h6 h7
 have hnil:∀ (k:Nat) (op:ByteArray) (v:Int),0 < k → DE k (A.ex op v []):=fun k op v hk => by
  have:k = (k - 1) + 1:=by omega
  rw [this]
  exact hA.ex (Nat.zero_le _) fun y hy => by cases hy
 have hn:∀ k,∀ y ∈ ([]:List τ),DT k y:=fun k y hy => by cases hy
 have hw:∀ u ∈ ([]:List ByteArray),W u:=fun u hu => by cases hu
 have z:∀ k,([]:List τ).length ≤ k:=fun k => Nat.zero_le _
 have zw:∀ k,([]:List ByteArray).length ≤ k:=fun k => Nat.zero_le _
 unfold statementM
 refine .cond (fun hc => ?_) fun _ => .cond (fun hc => ?_) fun _ => .cond (fun hc => ?_) fun _ => .cond (fun hc => ?_) fun _ => .cond (fun hc => ?_) fun _ => trivial
 ·have ht:tokN (M.tx s) = 1:=tokN_of (f:=fun w => strEq w wDo) hc (by kernel_rfl)
  refine (hM.adv s h).bind fun _ s1 h1 => (operation_ok hM h1.1).bind fun w s2 h2 => (take_ok hM (by kernel_rfl) h2.1).bind fun c s3 h3 => ?_
  cases c with
  | true =>
    simp only [cond_true] at h3 ⊢
    refine (hb s3 h3.1 (by omega)).bind fun l s4 h4 => (expect_ok hM (by kernel_rfl) h4.1).bind fun _ s5 h5 => ⟨h5.1,by omega,hst (by omega) (by omega) h2.2.2.2 (hnil _ _ _ (by omega)) (by omega) (fun y hy => hA.tm (by omega) (h4.2.2 y hy)) (z _) (hn _)⟩
  | false =>
    simp only [cond_false] at h3 ⊢
    refine (expect_ok hM (by kernel_rfl) h3.1).bind fun _ s4 h4 => ⟨h4.1,by omega,hst (by omega) (by omega) h2.2.2.2 (hnil _ _ _ (by omega)) (z _) (hn _) (z _) (hn _)⟩
 ·have ht:tokN (M.tx s) = 1:=tokN_of (f:=fun w => strEq w wIf) hc (by kernel_rfl)
  refine (hM.adv s h).bind fun _ s1 h1 => (hx s1 h1.1 (by omega)).bind fun e s2 h2 => (hb s2 h2.1 (by omega)).bind fun l s3 h3 => (take_ok hM (by kernel_rfl) h3.1).bind fun c s4 h4 => ?_
  cases c with
  | true =>
    simp only [cond_true] at h4 ⊢
    refine (hb s4 h4.1 (by omega)).bind fun r s5 h5 => ⟨h5.1,by omega,hst (by omega) (zw _) hw (hA.em (by omega) h2.2.2) (by omega) (fun y hy => hA.tm (by omega) (h3.2.2 y hy)) (by omega) (fun y hy => hA.tm (by omega) (h5.2.2 y hy))⟩
  | false =>
    simp only [cond_false] at h4 ⊢
    exact ⟨h4.1,by omega,hst (by omega) (zw _) hw (hA.em (by omega) h2.2.2) (by omega) (fun y hy => hA.tm (by omega) (h3.2.2 y hy)) (z _) (hn _)⟩
 ·have ht:tokN (M.tx s) = 1:=tokN_of (f:=fun w => strEq w wRepeat) hc (by kernel_rfl)
  refine (hM.adv s h).bind fun _ s1 h1 => (number_ok hM h1.1).bind fun n s2 h2 => (hb s2 h2.1 (by omega)).bind fun l s3 h3 => ⟨h3.1,by omega,hst (by omega) (zw _) hw (hnil _ _ _ (by omega)) (by omega) (fun y hy => hA.tm (by omega) (h3.2.2 y hy)) (z _) (hn _)⟩
 ·have ht:tokN (M.tx s) = 1:=tokN_of (f:=fun w => strEq w wRequire) hc (by kernel_rfl)
  refine (hM.adv s h).bind fun _ s1 h1 => (hx s1 h1.1 (by omega)).bind fun e s2 h2 => (expect_ok hM (by kernel_rfl) h2.1).bind fun _ s3 h3 => ⟨h3.1,by omega,hst (by omega) (zw _) hw (hA.em (by omega) h2.2.2) (z _) (hn _) (z _) (hn _)⟩
 ·have ht:tokN (M.tx s) = 1:=tokN_of (f:=fun w => strEq w wSay) hc (by kernel_rfl)
  refine (hM.adv s h).bind fun _ s1 h1 => (plain_ok hM h1.1).bind fun w s2 h2 => (words_ok hM K s2 h2.1 (by omega)).bind fun l s3 h3 => ⟨h3.1,by omega,hst (by omega) (by simp only [List.length_cons]; omega) (fun u hu => ?_) (hnil _ _ _ (by omega)) (z _) (hn _) (z _) (hn _)⟩
  rcases List.mem_cons.1 hu with rfl | hu
  ·exact h2.2.2
  ·exact h3.2.2 u hu
theorem sts_ok (K:Nat):∀ d,d ≤ K → FT I μ DT d (sts M A K d).1 ∧ FB I μ DT d (sts M A K d).2
 | 0,_ => ⟨fun s _ h => by omega,fun s _ h => by omega⟩
 | d + 1,h => ⟨statement_ok hM hA (exs_ok hM hA K K (Nat.le_refl _)).2 (sts_ok K d (by omega)).2 (Nat.le_refl _) h,block_ok hM hA (statement_ok hM hA (exs_ok hM hA K K (Nat.le_refl _)).2 (sts_ok K d (by omega)).2 (Nat.le_refl _) h) h⟩
omit hA in
theorem book_ok {m:Nat} {b:σ → PR σ (List τ)} (hb:FB I μ DT m b) {s:σ} (h:I s) (hs:μ s < m) (hA:AOk A W DE DT):okP (bookM M b s) fun x _ => W x.1 ∧ x.2.length ≤ m ∧ ∀ t ∈ x.2,DT m t:=by
 unfold bookM
 refine (hM.adv s h).bind fun _ s1 h1 => (expect_ok hM (by kernel_rfl) h1.1).bind fun _ s2 h2 => ?_
 rw [hM.nam s2 h2.1]
 refine (word_ok hM h2.1 fun hc => tokN_of (f:=isNameS) hc (by kernel_rfl)).bind fun w s3 h3 => (hb s3 h3.1 (by omega)).bind fun l s4 h4 => ?_
 exact .cond (fun _ => trivial) fun _ => ⟨h3.2.2,by show l.length ≤ m; omega,fun t ht => hA.tm (by omega) (h4.2.2 t ht)⟩
end
end Go.Proofs.YtiefjlcakpdfeaaGreat
namespace Go.Proofs.YtiefjlcakpdfeaaGreat
open Go Go.Sx Go.RowKit Rb
set_option maxRecDepth 100000
theorem wordF_some {s:ByteArray} (hs:s.size ≤ 10000):∀ f (k:Nat),k ≤ s.size → s.size + 1 ≤ f + k → obD (wordF f s (toInt64 s.size) (k:Int)) = true
 | 0,k,h1,h2 => by omega
 | f + 1, k, h1, h2 => by
   unfold wordF
   rw [ltS]
   rcases Nat.lt_or_ge k s.size with hk | hk
   ·have hr:inRange (k:Int) s.size = true:=by unfold inRange le lt toInt64; simp; omega
    rw [blt_t hk,hr,wrapS (by omega)]
    cases wordB (strAt s (k:Int).toNat) with
    | true => exact wordF_some hs f (k + 1) (by omega) (by omega)
    | false => rfl
   ·rw [blt_f hk]; rfl
theorem isWord_some {s:ByteArray} (hs:s.size ≤ 10000):obD (isWordS s) = true:=by
 have:=wordF_some hs (s.size + 1) 0 (by omega) (by omega)
 unfold isWordS
 cases h:wordF (s.size + 1) s (toInt64 s.size) 0 with
 | none => rw [show ((0:Nat):Int) = 0 from rfl,h] at this; cases this
 | some b => rfl
theorem numF_some {s:ByteArray} (hs:s.size ≤ 10000):∀ f (k:Nat) (n:Int),k ≤ s.size → s.size + 1 ≤ f + k → nfD (numF f s (toInt64 s.size) n (k:Int)) = true
 | 0,k,n,h1,h2 => by omega
 | f + 1, k, n, h1, h2 => by
   unfold numF
   rw [ltS]
   rcases Nat.lt_or_ge k s.size with hk | hk
   ·have hr:inRange (k:Int) s.size = true:=by unfold inRange le lt toInt64; simp; omega
    rw [blt_t hk,hr,wrapS (by omega)]
    cases digitB (strAt s (k:Int).toNat) with
    | true => exact numF_some hs f (k + 1) _ (by omega) (by omega)
    | false => rfl
   ·rw [blt_f hk]; rfl
theorem number_some {s:ByteArray} (hs:s.size ≤ 10000):nmD (numberS s) = true:=by
 have:=numF_some hs (s.size + 1) 0 0 (by omega) (by omega)
 unfold numberS
 cases (bif bif strEq s (bs []) then true else bif lt 1 (toInt64 s.size) then strAt s 0 == 48 else false then true else lt 10 (toInt64 s.size)) with
 | true => rfl
 | false =>
   cases h:numF (s.size + 1) s (toInt64 s.size) 0 0 with
  | none => rw [show ((0:Nat):Int) = 0 from rfl,h] at this; cases this
  | some y =>
    obtain ⟨b,n,i⟩:=y
    cases b <;> rfl
theorem word_pos {s:ByteArray} (h:obV (isWordS s) = true):inRange 0 s.size = true:=by
 unfold isWordS at h
 cases hw:wordF (s.size + 1) s (toInt64 s.size) 0 with
 | none => rw [hw] at h; cases h
 | some b =>
   rw [hw] at h
   cases b with
  | false => cases h
  | true =>
    have h:lt 0 (toInt64 s.size) = true:=h
    unfold lt toInt64 at h
    unfold inRange le lt toInt64
    simp at h ⊢
    omega
theorem name_some {s:ByteArray} (hs:s.size ≤ 10000):nameN s = true:=by
 unfold nameN
 rw [isWord_some hs]
 cases h:obV (isWordS s) with
 | false => rfl
 | true =>
   have:=word_pos h
   rw [this]
   simp
theorem skipC_len:∀ (b:Bool) (l:List UInt8),(skipC b l).length ≤ l.length
 | _,[] => by cases ‹Bool› <;> exact Nat.le_refl _
 | true, c :: r => by
   show (bif isC 10 c then skipC false r else skipC true r).length ≤ _
   cases isC 10 c with
  | true => exact Nat.le_succ_of_le (skipC_len false r)
  | false => exact Nat.le_succ_of_le (skipC_len true r)
 | false, c :: r => by
   show (bif spC c then skipC false r else bif isC 35 c then skipC true r else c :: r).length ≤ _
   cases spC c with
  | true => exact Nat.le_succ_of_le (skipC_len false r)
  | false =>
    cases isC 35 c with
   | true => exact Nat.le_succ_of_le (skipC_len true r)
   | false => exact Nat.le_refl _
def IL (q:LS):Prop:=q.1.size ≤ 10000 ∧ q.2.1.length ≤ 10000
def μL (q:LS):Nat:=q.2.1.length + tokN q.1
theorem dropWhile_len (p:UInt8 → Bool):∀ l:List UInt8,(l.dropWhile p).length ≤ l.length
 | [] => Nat.le_refl _
 | c :: r => by
   rw [List.dropWhile_cons]
   split
   ·exact Nat.le_succ_of_le (dropWhile_len p r)
   ·exact Nat.le_refl _
theorem takeWhile_len (p:UInt8 → Bool):∀ l:List UInt8,(l.takeWhile p).length ≤ l.length
 | [] => Nat.le_refl _
 | c :: r => by
   rw [List.takeWhile_cons]
   split
   ·exact Nat.succ_le_succ (takeWhile_len p r)
   ·exact Nat.zero_le _
theorem tokL_ok (N:Nat):∀ (l:List UInt8),l.length ≤ 10000 → okP (tokL N l) fun _ q => IL q ∧ μL q ≤ l.length
 | [],_ => ⟨⟨by show (0:Nat) ≤ 10000; omega,by show (0:Nat) ≤ 10000; omega⟩,by show 0 + tokN (bs []) ≤ 0; exact Nat.le_of_eq (by kernel_rfl)⟩
 | c :: r, h => by
   have h1:=dropWhile_len wordC r
   have h2:=takeWhile_len wordC r
   simp only [List.length_cons] at h
   rw [tokL_cons]
   refine .cond (fun _ => ⟨⟨?_,?_⟩,?_⟩) fun _ => .cond (fun _ => ⟨⟨?_,?_⟩,?_⟩) fun _ => trivial
   ·show (c :: r.takeWhile wordC).length ≤ _
    simp only [List.length_cons]
    omega
   ·show (r.dropWhile wordC).length ≤ _
    omega
   ·have:=tokN_le (⟨⟨c :: r.takeWhile wordC⟩⟩ : ByteArray)
    show (r.dropWhile wordC).length + tokN (⟨⟨c :: r.takeWhile wordC⟩⟩ : ByteArray) ≤ r.length + 1
    omega
   ·show 1 ≤ 10000
    omega
   ·show r.length ≤ _
    omega
   ·have:=tokN_le (⟨⟨[c]⟩⟩ : ByteArray)
    show r.length + tokN (⟨⟨[c]⟩⟩ : ByteArray) ≤ r.length + 1
    omega
def WL (w:ByteArray):Prop:=w.size ≤ 10000
theorem lm_ok (N:Nat):MOk (LM N) IL μL WL where
 tok:=fun s h => h.1
 adv:=fun s h => by
  have h1:=skipC_len false s.2.1
  refine (tokL_ok N (skipC false s.2.1) (by have:=h.2; omega)).mono fun _ q h2 => ⟨h2.1,?_⟩
  have:=h2.2
  show μL q + tokN s.1 ≤ s.2.1.length + tokN s.1
  omega
 num:=fun s h => number_some h.1
 wrd:=fun s h => isWord_some h.1
 nam:=fun s h => name_some h.1
inductive AstX where
 | mk (op:ByteArray) (v:Int) (l:List AstX)
inductive AstS where
 | mk (kd:ByteArray) (w:List ByteArray) (e:AstX) (b x:List AstS) (p:Int)
def AF:Alg AstX AstS:=⟨.mk,.mk⟩
mutual
def AstX.den:AstX → RX
 | .mk op v l => exR op v (AstX.dens l)
def AstX.dens:List AstX → List RX
 | [] => []
 | a :: r => a.den :: AstX.dens r
end
mutual
def AstS.den:AstS → RS
 | .mk kd w e b x p => stR kd w e.den (AstS.dens b) (AstS.dens x) p
def AstS.dens:List AstS → List RS
 | [] => []
 | a :: r => a.den :: AstS.dens r
end
theorem dens_of:∀ {l:List RX} {l':List AstX},All2 (fun x a => x = a.den) l l' → l = AstX.dens l'
 | _,_,.nil => rfl
 | _,_,.cons h r => by rw [h,dens_of r]; rfl
theorem densS_of:∀ {l:List RS} {l':List AstS},All2 (fun x a => x = a.den) l l' → l = AstS.dens l'
 | _,_,.nil => rfl
 | _,_,.cons h r => by rw [h,densS_of r]; rfl
theorem arf:ARel Eq AR AF (fun x a => x = a.den) (fun x a => x = a.den) where
 ex:=fun h => by rw [dens_of h]; rfl
 st:=fun he hb hx hp => by rw [he,densS_of hb,densS_of hx,hp]; rfl
inductive DX:Nat → AstX → Prop where
 | mk {k:Nat} {op:ByteArray} {v:Int} {l:List AstX} (hl:l.length ≤ 2) (h:∀ x ∈ l,DX k x):DX (k + 1) (.mk op v l)
theorem DX.mono:∀ {k:Nat} {e:AstX},DX k e → ∀ {k'},k ≤ k' → DX k' e:=by
 intro k e h
 induction h with
 | mk hl h ih =>
   intro k' hk
   match k',hk with
  | k' + 1,hk => exact .mk hl fun x hx => ih x hx (Nat.le_of_succ_le_succ hk)
inductive DS:Nat → AstS → Prop where
 | mk {k:Nat} {kd:ByteArray} {w:List ByteArray} {e:AstX} {b x:List AstS} {p:Int} (hw:w.length ≤ k) (hu:∀ u ∈ w,WL u) (hb:b.length ≤ k) (hb':∀ y ∈ b,DS k y) (hx:x.length ≤ k) (hx':∀ y ∈ x,DS k y) (he:DX k e):DS (k + 1) (.mk kd w e b x p)
theorem DS.mono:∀ {k:Nat} {e:AstS},DS k e → ∀ {k'},k ≤ k' → DS k' e:=by
 intro k e h
 induction h with
 | mk hw hu hb hb' hx hx' he ihb ihx =>
   intro k' hk
   match k',hk with
  | k' + 1,hk => exact .mk (by omega) hu (by omega) (fun y hy => ihb y hy (Nat.le_of_succ_le_succ hk)) (by omega) (fun y hy => ihx y hy (Nat.le_of_succ_le_succ hk)) (he.mono (Nat.le_of_succ_le_succ hk))
theorem af_ok:AOk AF WL DX DS where
 ex:=fun h1 h2 => .mk h1 h2
 em:=fun hk h => h.mono hk
 st:=fun h1 h2 h3 h4 h5 h6 h7 => .mk h1 h2 h4 h5 h6 h7 h3
 tm:=fun hk h => h.mono hk
def bookL (N:Nat) (l:List UInt8):PR LS (ByteArray × List AstS):=bookM (LM N) (sts (LM N) AF 10000 10000).2 (bs [],l,0)
theorem bookL_ok (N:Nat) {l:List UInt8} (hl:l.length ≤ 9000):okP (bookL N l) fun x _ => WL x.1 ∧ x.2.length ≤ 10000 ∧ ∀ t ∈ x.2,DS 10000 t:=by
 refine book_ok (lm_ok N) (sts_ok (lm_ok N) af_ok 10000 10000 (Nat.le_refl _)).2 ⟨by show (0:Nat) ≤ 10000; omega,by show l.length ≤ _; omega⟩ ?_ af_ok
 show l.length + tokN (bs []) < 10000
 have:=tokN_le (bs [])
 omega
theorem bookP_rel {s:ByteArray} (hs:s.size ≤ 9000):PRel Eq (RML s) (fun x x' => x.1 = x'.1 ∧ All2 (fun t a => t = a.den) x.2 x'.2) (bookM (MP s) (sts (MP s) AR 10000 10000).2 ⟨0,bs [],0⟩) (bookL s.size (lst s)) :=
 bookM_rel (mrel (by omega)) (sts_rel (mrel (by omega)) arf 10000 10000).2 _ _ ⟨rfl,rfl,0,rfl,Nat.zero_le _,rfl⟩
end Go.Proofs.YtiefjlcakpdfeaaGreat
namespace Go.Proofs.YtiefjlcakpdfeaaGreat
open Go Go.Sx Go.RowKit Rb
set_option maxRecDepth 100000
variable {n m:Nat} {ρ σ:Val}
theorem inR {k n:Nat} (h:k < n):inRange (k:Int) n = true:=by unfold inRange le lt toInt64; simp; omega
end Go.Proofs.YtiefjlcakpdfeaaGreat
namespace Go.Proofs.YtiefjlcakpdfeaaGreat
open Go Go.Sx Go.RowKit Rb
set_option maxRecDepth 100000
theorem flat8s:∀ (l:List RS) (i:Nat) (t:RS),nth l i = some t → ∀ f,f < 8 → nth (l.flatMap RS.cells) (i * 8 + f) = nth t.cells f
 | [],i,t,h,_,_ => by simp [nth] at h
 | a :: r, 0, t, h, f, hf => by
   have:a = t:=by simpa [nth] using h
   subst this
   rw [List.flatMap_cons,nth_eq,nth_eq,Nat.zero_mul,Nat.zero_add,List.getElem?_append_left (by show f < 8; exact hf)]
 | a :: r, i + 1, t, h, f, hf => by
   have h:nth r i = some t:=h
   have hl:(RS.cells a).length = 8:=rfl
   rw [List.flatMap_cons,nth_eq,List.getElem?_append_right (by rw [hl]; omega),hl,← nth_eq]
   have:(i + 1) * 8 + f - 8 = i * 8 + f:=by omega
   rw [this]
   exact flat8s r i t h f hf
theorem blkVf {l:List RS} {i:Nat} {t:RS} (h:nth l i = some t) {f:Nat} (hf:f < 8):((blkV l).at i).at f = match nth t.cells f with | some x => .ofC x | none => .zero:=by
 show (match nth (l.flatMap RS.cells) (i * 8 + f) with | some x => Val.ofC x | none => .zero) = _
 rw [flat8s l i t h f hf]
theorem blkV_st {l : List RS} {i : Nat} {t : RS} (h : nth l i = some t) : (stAt (blkV l) i).kind = t.kind ∧ (stAt (blkV l) i).wn = t.wn ∧ (stAt (blkV l) i).wρ = .ofC (.sl [.str] t.wn t.wρ) ∧
  (stAt (blkV l) i).cond = ⟨t.cond.op,t.cond.v,t.cond.n,.ofC (.sl (rtab 0) t.cond.n t.cond.ρ)⟩ ∧ (stAt (blkV l) i).bn = t.bn ∧ (stAt (blkV l) i).bρ = boxV t.bn t.bρ ∧ (stAt (blkV l) i).en = t.en ∧ (stAt (blkV l) i).eρ = boxV t.en t.eρ ∧ (stAt (blkV l) i).at_ = t.at_:=by
 have h0:=blkVf h (f:=0) (by omega)
 have h1:=blkVf h (f:=1) (by omega)
 have h2:=blkVf h (f:=2) (by omega)
 have h3:=blkVf h (f:=3) (by omega)
 have h4:=blkVf h (f:=4) (by omega)
 have h5:=blkVf h (f:=5) (by omega)
 have h6:=blkVf h (f:=6) (by omega)
 have h7:=blkVf h (f:=7) (by omega)
 unfold stAt
 rw [h0,h1,h2,h3,h4,h5,h6,h7]
 exact ⟨rfl,rfl,rfl,rfl,rfl,rfl,rfl,rfl,rfl⟩
theorem expL_some {R:RE} {n:Nat} {ρ:Val} {d:Int} (hn:n ≤ 2) (hR:∀ i,opD (R (kidX ρ i) (IntKind.wrap .i64 (d + 1))) = true):∀ f (k:Nat),k ≤ n → n + 1 ≤ f + k → opD (expL R n ρ (toInt64 n) d f (k:Int)) = true
 | 0,k,h1,h2 => by omega
 | f + 1, k, h1, h2 => by
   unfold expL
   rcases Nat.lt_or_ge k n with hk | hk
   ·have e1:lt (k:Int) (toInt64 n) = true:=by unfold lt toInt64; simp; exact hk
    rw [e1,inR hk,Int.toNat_natCast,wrapS (by omega)]
    have:=hR k
    cases hr:R (kidX ρ k) (IntKind.wrap .i64 (d + 1)) with
    | none => rw [hr] at this; cases this
    | some x =>
      simp only [cond_true]
      cases x != 0 with
     | true => rfl
     | false => exact expL_some hn hR f (k + 1) (by omega) (by omega)
   ·have e1:lt (k:Int) (toInt64 n) = false:=by unfold lt toInt64; simp; omega
    rw [e1]; rfl
theorem kidsN_le (c:Nat):0 ≤ kidsN c ∧ kidsN c ≤ 2:=by
 unfold kidsN
 split <;> exact ⟨by decide,by decide⟩
theorem expF_some:∀ f (e:RX) (d:Nat),d ≤ 33 → 34 ≤ f + d → opD (expF f e (d:Int)) = true
 | 0, e, d, h1, h2 => by
   omega
 | f + 1, e, d, h1, h2 => by
   show opD (expG (expF f) e (d:Int)) = true
   unfold expG
   cases hb:expB e with
  | true => rfl
  | false =>
    cases hd:lt 32 (d:Int) with
   | true => rfl
   | false =>
     have hd':d ≤ 32:=by unfold lt at hd; simp at hd; omega
     have hn:e.n ≤ 2:=by
      unfold expB at hb
      simp only at hb
      cases h0 : !(!(Nat.beq (kidsC e.op) 0)) with
      | true => rw [h0] at hb; cases hb
      | false =>
        rw [h0] at hb
        cases h3:(toInt64 e.n != kidsN (kidsC e.op)) with
       | true => rw [h3] at hb; cases hb
       | false =>
         have:=kidsN_le (kidsC e.op)
         unfold toInt64 at h3
         simp at h3
         omega
     refine expL_some hn (fun i => ?_) (e.n + 1) 0 (by omega) (by omega)
     rw [wrapS (by omega)]
     exact expF_some f _ (d + 1) (by omega) (by omega)
theorem badL_some {n:Nat} {ρ:Val} (hn:n ≤ 10000) (h:∀ i,i < n → (wAt ρ i).size ≤ 10000):∀ f (k:Nat),k ≤ n → n + 1 ≤ f + k → ooD (badL n ρ (toInt64 n) f (k:Int)) = true
 | 0,k,h1,h2 => by omega
 | f + 1, k, h1, h2 => by
   unfold badL
   rcases Nat.lt_or_ge k n with hk | hk
   ·have e1:lt (k:Int) (toInt64 n) = true:=by unfold lt toInt64; simp; exact hk
    rw [e1,inR hk,Int.toNat_natCast,wrapS (by omega)]
    have:=isWord_some (h k hk)
    cases hr:isWordS (wAt ρ k) with
    | none => rw [hr] at this; cases this
    | some x =>
      simp only [cond_true]
      cases x with
     | false => rfl
     | true => exact badL_some hn h f (k + 1) (by omega) (by omega)
   ·have e1:lt (k:Int) (toInt64 n) = false:=by unfold lt toInt64; simp; omega
    rw [e1]; rfl
theorem eqL_some {m n:Nat} {κ ρ:Val} (hmn:m = n) (hn:n ≤ 10000) (h:∀ i,i < n → (wAt ρ i).size ≤ 10000):∀ f (k:Nat),k ≤ m → m + 1 ≤ f + k → obD (eqL m κ n ρ (toInt64 m) f (k:Int)) = true
 | 0,k,h1,h2 => by omega
 | f + 1, k, h1, h2 => by
   subst hmn
   unfold eqL
   rcases Nat.lt_or_ge k m with hk | hk
   ·have e1:lt (k:Int) (toInt64 m) = true:=by unfold lt toInt64; simp; exact hk
    rw [e1,inR hk,Int.toNat_natCast,wrapS (by omega),number_some (h k hk)]
    simp only [cond_true]
    cases operandO (nAt κ k) (wAt ρ k) with
    | false => rfl
    | true => exact eqL_some rfl hn h f (k + 1) (by omega) (by omega)
   ·have e1:lt (k:Int) (toInt64 m) = false:=by unfold lt toInt64; simp; omega
    rw [e1]; rfl
theorem isOp_some {n:Nat} {ρ:Val} (hn:n ≤ 10000) (h:∀ i,i < n → (wAt ρ i).size ≤ 10000):obD (isOpS n ρ) = true:=by
 unfold isOpS
 cases h0:(toInt64 n == 0) with
 | true => rfl
 | false =>
   cases opOk ρ with
  | false => rfl
  | true =>
    show obD (opEq n ρ) = true
    unfold opEq eqS
    cases hm:(toInt64 (kindsOf (kindC (wAt ρ 0))).length != toInt64 (n - 1)) with
   | true => rfl
   | false =>
     have he:(kindsOf (kindC (wAt ρ 0))).length = n - 1:=by unfold toInt64 at hm; simp at hm; omega
     have hn0:0 < n:=by unfold toInt64 at h0; simp at h0; omega
     refine eqL_some he (by omega) (fun i hi => ?_) _ 0 (by omega) (by omega)
     have:wAt (ρ.from 1) i = wAt ρ (1 + i):=rfl
     rw [this]
     exact h _ (by omega)
theorem fldD_some {s:RS} (hn:s.wn ≤ 10000) (h:∀ i,i < s.wn → (wAt s.wρ i).size ≤ 10000):fldD s = true:=by
 unfold fldD
 rw [isOp_some hn h]
 have hb:ooD (badW s.wn s.wρ) = true:=badL_some hn h _ 0 (by omega) (by omega)
 rw [hb]
 cases strEq s.kind wDo <;> cases strEq s.kind wIf <;> cases strEq s.kind wRepeat <;> cases strEq s.kind wRequire <;> cases strEq s.kind wSay <;> first | rfl | simp
inductive SR:AstS → AstS → Prop where
 | mk {kd:ByteArray} {w:List ByteArray} {e:AstX} {b b' x x':List AstS} {p p':Int} (hb:All2 SR b b') (hx:All2 SR x x'):SR (.mk kd w e b x p) (.mk kd w e b' x' p')
theorem dens_len:∀ l:List AstS,(AstS.dens l).length = l.length
 | [] => rfl
 | a :: r => by show (AstS.dens r).length + 1 = r.length + 1; rw [dens_len r]
theorem dens_nth:∀ (l:List AstS) (i:Nat),nth (AstS.dens l) i = (nth l i).map AstS.den
 | [],i => by simp [AstS.dens,nth]
 | a :: r,0 => rfl
 | a :: r,i + 1 => dens_nth r i
theorem all2_nth {α β:Type} {R:α → β → Prop}:∀ {l:List α} {r:List β},All2 R l r → ∀ {i:Nat},i < l.length → ∃ a b,nth l i = some a ∧ nth r i = some b ∧ R a b
 | _,_,.nil,i,h => by simp at h
 | _,_,.cons ha hr,0,_ => ⟨_,_,rfl,rfl,ha⟩
 | _,_,.cons ha hr,i + 1,h => all2_nth hr (i:=i) (by simpa using h)
theorem nth_memA {α:Type}:∀ {l:List α} {i:Nat} {a:α},nth l i = some a → a ∈ l
 | [],i,a,h => by simp [nth] at h
 | b :: r, 0, a, h => by have : b = a := by simpa [nth] using h
                         subst this; simp
 | b :: r,i + 1,a,h => List.mem_cons_of_mem _ (nth_memA (l:=r) (i:=i) h)
def LieL (l:List AstS) (ρ:Val):Prop:=∀ i,ρ.at i = (blkV (AstS.dens l)).at i
theorem LieL.box (b:List AstS) (n:Nat):LieL b (boxV n (blkV (AstS.dens b))):=fun _ => rfl
theorem lie_st {l : List AstS} {ρ : Val} (h : LieL l ρ) {i : Nat} {kd : ByteArray} {w : List ByteArray} {e : AstX} {b x : List AstS} {p : Int} (hi : nth l i = some (.mk kd w e b x p)) :
  (stAt ρ i).kind = kd ∧ (stAt ρ i).wn = w.length ∧ (stAt ρ i).wρ = .ofC (.sl [.str] w.length (wordsV w)) ∧ (stAt ρ i).cond = ⟨e.den.op,e.den.v,e.den.n,.ofC (.sl (rtab 0) e.den.n e.den.ρ)⟩ ∧
  (stAt ρ i).bn = b.length ∧ LieL b (stAt ρ i).bρ ∧ (stAt ρ i).en = x.length ∧ LieL x (stAt ρ i).eρ ∧ (stAt ρ i).at_ = p:=by
 have hn:nth (AstS.dens l) i = some (stR kd w e.den (AstS.dens b) (AstS.dens x) p):=by rw [dens_nth,hi]; rfl
 have e0:stAt ρ i = stAt (blkV (AstS.dens l)) i:=stAt_of (h i)
 rw [e0]
 obtain ⟨a1,a2,a3,a4,a5,a6,a7,a8,a9⟩:=blkV_st hn
 refine ⟨a1,a2,a3,a4,a5.trans (dens_len b),?_,a7.trans (dens_len x),?_,a9⟩
 ·rw [a6]; exact LieL.box b _
 ·rw [a8]; exact LieL.box x _
theorem wordsV_size {w:List ByteArray} (hu:∀ u ∈ w,WL u) {n:Nat}:∀ i,i < w.length → (wAt (.ofC (.sl [.str] n (wordsV w))) i).size ≤ 10000:=by
 intro i hi
 obtain ⟨u,hu2⟩:=nth_some_of_lt w i hi
 have h1:=wordsV_at w i u hu2
 have h2:wAt (.ofC (.sl [.str] n (wordsV w))) i = u:=by
  show (((wordsV w).at i).at 0).S [] = u
  rw [h1]
  rfl
 rw [h2]
 exact hu u (nth_memA hu2)
theorem cntL_rel {R : RC} {n : Nat} {ρ ρ' : Val} (hn : n ≤ 10000) (h : ∀ i, i < n → R (bodN ρ i) (bodV ρ i) = R (bodN ρ' i) (bodV ρ' i) ∧ R (elsN ρ i) (elsV ρ i) = R (elsN ρ' i) (elsV ρ' i) ∧ cD (R (bodN ρ i) (bodV ρ i)) = true ∧ cD (R (elsN ρ i) (elsV ρ i)) = true) :
  ∀ f (k:Nat) (a b:Int),k ≤ n → n + 1 ≤ f + k → cntL R n ρ (toInt64 n) f (k:Int) a b = cntL R n ρ' (toInt64 n) f (k:Int) a b ∧ cD (cntL R n ρ (toInt64 n) f (k:Int) a b) = true
 | 0,k,a,b,h1,h2 => by omega
 | f + 1, k, a, b, h1, h2 => by
   unfold cntL
   rcases Nat.lt_or_ge k n with hk | hk
   ·have e1:lt (k:Int) (toInt64 n) = true:=by unfold lt toInt64; simp; exact hk
    obtain ⟨g1,g2,g3,g4⟩:=h k hk
    rw [e1,inR hk,Int.toNat_natCast,wrapS (by omega),← g1,← g2]
    simp only [cond_true]
    cases hb:R (bodN ρ k) (bodV ρ k) with
    | none => rw [hb] at g3; cases g3
    | some y =>
      cases he:R (elsN ρ k) (elsV ρ k) with
     | none => rw [he] at g4; cases g4
     | some z => exact cntL_rel hn h f (k + 1) _ _ (by omega) (by omega)
   ·have e1:lt (k:Int) (toInt64 n) = false:=by unfold lt toInt64; simp; omega
    rw [e1]; exact ⟨rfl,rfl⟩
theorem cnt_rel:∀ (d k:Nat) (l l':List AstS) (ρ ρ':Val),k < d → All2 SR l l' → l.length ≤ 10000 → (∀ t ∈ l,DS k t) → k ≤ 10000 → LieL l ρ → LieL l' ρ' → cntF d l.length ρ = cntF d l'.length ρ' ∧ cD (cntF d l.length ρ) = true
 | 0,k,_,_,_,_,h,_,_,_,_,_,_ => by omega
 | d + 1, k, l, l', ρ, ρ', hk, hr, hl, hd, hk1, h1, h2 => by
   have hll:l'.length = l.length:=hr.length.symm
   rw [hll]
   show cntL (cntF d) l.length ρ (toInt64 l.length) (l.length + 1) 0 0 0 = cntL (cntF d) l.length ρ' (toInt64 l.length) (l.length + 1) 0 0 0 ∧ cD (cntL (cntF d) l.length ρ (toInt64 l.length) (l.length + 1) 0 0 0) = true
   refine cntL_rel hl (fun i hi => ?_) (l.length + 1) 0 0 0 (by omega) (by omega)
   obtain ⟨t,t',e1,e2,hs⟩:=all2_nth hr hi
   have hdt:=hd t (nth_memA e1)
   cases hs with
  | mk hb hx =>
   cases hdt with
  | mk hw hu hb1 hb2 hx1 hx2 =>
   obtain ⟨a1,a2,a3,a4,a5,a6,a7,a8,a9⟩:=lie_st h1 e1
   obtain ⟨b1,b2,b3,b4,b5,b6,b7,b8,b9⟩:=lie_st h2 e2
   have c1:bodN ρ i = _:=a5
   have c2:elsN ρ i = _:=a7
   have c3:bodN ρ' i = _:=b5
   have c4:elsN ρ' i = _:=b7
   rw [c1,c2,c3,c4]
   obtain ⟨g1,g2⟩:=cnt_rel d _ _ _ (bodV ρ i) (bodV ρ' i) (by omega) hb (by omega) hb2 (by omega) a6 b6
   obtain ⟨g3,g4⟩:=cnt_rel d _ _ _ (elsV ρ i) (elsV ρ' i) (by omega) hx (by omega) hx2 (by omega) a8 b8
   exact ⟨g1,g3,g2,g4⟩
theorem blkL_rel {f : Nat} {R : RBl} {n : Nat} {ρ ρ' : Val} (hn : n ≤ 10000)
  (h:∀ i,i < n → fldD (stAt ρ i) = true ∧ fldD (stAt ρ' i) = true ∧ fldV (stAt ρ i) = fldV (stAt ρ' i) ∧ (stAt ρ i).kind = (stAt ρ' i).kind ∧ (stAt ρ i).cond = (stAt ρ' i).cond ∧ opD (expF f (stAt ρ i).cond 1) = true ∧
   R (stAt ρ i).bn (stAt ρ i).bρ = R (stAt ρ' i).bn (stAt ρ' i).bρ ∧ R (stAt ρ i).en (stAt ρ i).eρ = R (stAt ρ' i).en (stAt ρ' i).eρ ∧ opD (R (stAt ρ i).bn (stAt ρ i).bρ) = true ∧ opD (R (stAt ρ i).en (stAt ρ i).eρ) = true) :
  ∀ g (k:Nat),k ≤ n → n + 1 ≤ g + k → blkL f R n ρ (toInt64 n) g (k:Int) = blkL f R n ρ' (toInt64 n) g (k:Int) ∧ opD (blkL f R n ρ (toInt64 n) g (k:Int)) = true
 | 0,k,h1,h2 => by omega
 | g + 1, k, h1, h2 => by
   unfold blkL
   rcases Nat.lt_or_ge k n with hk | hk
   ·have e1:lt (k:Int) (toInt64 n) = true:=by unfold lt toInt64; simp; exact hk
    obtain ⟨g1,g2,g3,g4,g5,g6,g7,g8,g9,g10⟩:=h k hk
    rw [e1,inR hk,Int.toNat_natCast,wrapS (by omega),g1,g2,← g3,← g4,← g5,← g7,← g8]
    simp only [cond_true]
    cases !fldV (stAt ρ k) with
    | true => exact ⟨rfl,rfl⟩
    | false =>
      simp only [cond_false]
      have hx:∃ x,(bif condB (stAt ρ k).kind then expF f (stAt ρ k).cond 1 else some 0) = some x:=by
       cases condB (stAt ρ k).kind with
       | false => exact ⟨0,rfl⟩
       | true =>
         cases he:expF f (stAt ρ k).cond 1 with
        | none => rw [he] at g6; cases g6
        | some x => exact ⟨x,rfl⟩
      obtain ⟨x,hx⟩:=hx
      rw [hx]
      simp only
      cases x != 0 with
     | true => exact ⟨rfl,rfl⟩
     | false =>
       simp only [cond_false]
       cases hb:R (stAt ρ k).bn (stAt ρ k).bρ with
      | none => rw [hb] at g9; cases g9
      | some y =>
        simp only
        cases y != 0 with
       | true => exact ⟨rfl,rfl⟩
       | false =>
         simp only [cond_false]
         cases he:R (stAt ρ k).en (stAt ρ k).eρ with
        | none => rw [he] at g10; cases g10
        | some z =>
          simp only
          cases z != 0 with
         | true => exact ⟨rfl,rfl⟩
         | false => exact blkL_rel hn h g (k + 1) (by omega) (by omega)
   ·have e1:lt (k:Int) (toInt64 n) = false:=by unfold lt toInt64; simp; omega
    rw [e1]; exact ⟨rfl,rfl⟩
theorem fldV_of {s s':RS} (h1:s.kind = s'.kind) (h2:s.wn = s'.wn) (h3:s.wρ = s'.wρ) (h4:s.cond = s'.cond) (h5:s.bn = s'.bn) (h6:s.en = s'.en):fldV s = fldV s':=by
 unfold fldV
 rw [h1,h2,h3,h4,h5,h6]
theorem blk_rel {f:Nat} (hf:40 ≤ f):∀ (d k:Nat) (l l':List AstS) (ρ ρ':Val),k < d → All2 SR l l' → l.length ≤ 10000 → (∀ t ∈ l,DS k t) → k ≤ 10000 → LieL l ρ → LieL l' ρ' → blkF f d l.length ρ = blkF f d l'.length ρ' ∧ opD (blkF f d l.length ρ) = true
 | 0,k,_,_,_,_,h,_,_,_,_,_,_ => by omega
 | d + 1, k, l, l', ρ, ρ', hk, hr, hl, hd, hk1, h1, h2 => by
   have hll:l'.length = l.length:=hr.length.symm
   rw [hll]
   show blkL f (blkF f d) l.length ρ (toInt64 l.length) (l.length + 1) 0 = blkL f (blkF f d) l.length ρ' (toInt64 l.length) (l.length + 1) 0 ∧ opD (blkL f (blkF f d) l.length ρ (toInt64 l.length) (l.length + 1) 0) = true
   refine blkL_rel hl (fun i hi => ?_) (l.length + 1) 0 (by omega) (by omega)
   obtain ⟨t,t',e1,e2,hs⟩:=all2_nth hr hi
   have hdt:=hd t (nth_memA e1)
   cases hs with
  | mk hb hx =>
   cases hdt with
  | mk hw hu hb1 hb2 hx1 hx2 =>
   obtain ⟨a1,a2,a3,a4,a5,a6,a7,a8,a9⟩:=lie_st h1 e1
   obtain ⟨b1,b2,b3,b4,b5,b6,b7,b8,b9⟩:=lie_st h2 e2
   have hlb:=hb.length
   have hlx:=hx.length
   obtain ⟨g1,g2⟩:=blk_rel hf d _ _ _ (stAt ρ i).bρ (stAt ρ' i).bρ (by omega) hb (by omega) hb2 (by omega) a6 b6
   obtain ⟨g3,g4⟩:=blk_rel hf d _ _ _ (stAt ρ i).eρ (stAt ρ' i).eρ (by omega) hx (by omega) hx2 (by omega) a8 b8
   refine ⟨?_,?_,?_,a1.trans b1.symm,a4.trans b4.symm,expF_some f _ 1 (by omega) (by omega),?_,?_,?_,?_⟩
   ·refine fldD_some (by rw [a2]; omega) fun j hj => ?_
    rw [a2] at hj
    rw [a3]
    exact wordsV_size hu j hj
   ·refine fldD_some (by rw [b2]; omega) fun j hj => ?_
    rw [b2] at hj
    rw [b3]
    exact wordsV_size hu j hj
   ·exact fldV_of (a1.trans b1.symm) (a2.trans b2.symm) (a3.trans b3.symm) (a4.trans b4.symm) (by rw [a5,b5,hlb]) (by rw [a7,b7,hlx])
   ·rw [a5,b5]; exact g1
   ·rw [a7,b7]; exact g3
   ·rw [a5]; exact g2
   ·rw [a7]; exact g4
theorem formed_rel {f d k : Nat} (hf : 40 ≤ f) (hk : k < d) (hk1 : k ≤ 10000) {name : ByteArray} (hn : name.size ≤ 10000) {l l' : List AstS} (hr : All2 SR l l') (hl : l.length ≤ 10000) (hd : ∀ t ∈ l, DS k t) :
  formedS f d name l.length (blkV (AstS.dens l)) = formedS f d name l'.length (blkV (AstS.dens l')) ∧ opD (formedS f d name l.length (blkV (AstS.dens l))) = true:=by
 unfold formedS
 obtain ⟨g1,g2⟩:=cnt_rel d k l l' _ _ hk hr hl hd hk1 (fun _ => rfl) (fun _ => rfl)
 obtain ⟨g3,g4⟩:=blk_rel hf d k l l' _ _ hk hr hl hd hk1 (fun _ => rfl) (fun _ => rfl)
 rw [name_some hn,← g1,← g3]
 simp only [cond_true]
 cases !isNameS name with
 | true => exact ⟨trivial,rfl⟩
 | false =>
   simp only [cond_false]
   cases hc:cntF d l.length (blkV (AstS.dens l)) with
  | none => rw [hc] at g2; cases g2
  | some y =>
    obtain ⟨a,b⟩:=y
    simp only
    cases lt 4096 a with
   | true => exact ⟨trivial,rfl⟩
   | false =>
     simp only [cond_false]
     cases lt 16 b with
    | true => exact ⟨trivial,rfl⟩
    | false => exact ⟨trivial,g4⟩
theorem SR.refl:∀ t:AstS,SR t t:=by
 suffices h:∀ n (t:AstS),SizeOf.sizeOf t ≤ n → SR t t from fun t => h (SizeOf.sizeOf t) t (Nat.le_refl _)
 intro n
 induction n with
 | zero => intro t ht; cases t; simp at ht
 | succ n ih =>
   intro t ht
   cases t with
  | mk kd w e b x p =>
    have hL:∀ l:List AstS,SizeOf.sizeOf l ≤ n → All2 SR l l:=by
     intro l
     induction l with
     | nil => exact fun _ => .nil
     | cons a r ihr =>
       intro hl
       simp at hl
       exact .cons (ih a (by omega)) (ihr (by omega))
    simp at ht
    exact .mk (hL b (by omega)) (hL x (by omega))
theorem SR.reflL:∀ l:List AstS,All2 SR l l
 | [] => .nil
 | a :: r => .cons (SR.refl a) (SR.reflL r)
abbrev ABook:=ByteArray × List AstS × Int × Int
def toBook (x:ABook):Book:=(x.1,AstS.dens x.2.1,x.2.2)
def errN (x:ByteArray × List AstS):Int:=opN (formedS 40 10001 x.1 x.2.length (blkV (AstS.dens x.2)))
def endL:PR LS (ByteArray × List AstS) → ABook
 | .stuck => (bs [],[],0,0)
 | .pan a => (bs [],[],a,4)
 | .ret x _ => bif errN x != 0 then (bs [],[],0,errN x) else (x.1,x.2,0,0)
def parseA (s:ByteArray):ABook:=bif lt 8192 (toInt64 s.size) then (bs [],[],0,5) else endL (bookL s.size (lst s))
theorem parse_eq (s:ByteArray) (hs:s.size ≤ 9000):parseS 40 10001 (blK 10000 10000) s = some (toBook (parseA s)):=by
 unfold parseS parseA
 cases lt 8192 (toInt64 s.size) with
 | true => rfl
 | false =>
   simp only [cond_false]
   have h1:=bookP_rel hs
   have h2:=bookL_ok s.size (l:=lst s) hs
   show endK 40 10001 (bookM (MP s) (sts (MP s) AR 10000 10000).2 ⟨0,bs [],0⟩) = _
   cases hb:bookL s.size (lst s) with
  | stuck => rw [hb] at h2; exact h2.elim
  | pan a =>
    rw [hb] at h1
    cases hp:bookM (MP s) (sts (MP s) AR 10000 10000).2 ⟨0,bs [],0⟩ with
   | stuck => rw [hp] at h1; cases h1
   | pan a' => rw [hp] at h1; cases h1 with | pan h => subst h; rfl
   | ret v s' => rw [hp] at h1; cases h1
  | ret x q =>
    rw [hb] at h1 h2
    obtain ⟨w1,w2,w3⟩:=h2
    cases hp:bookM (MP s) (sts (MP s) AR 10000 10000).2 ⟨0,bs [],0⟩ with
   | stuck => rw [hp] at h1; cases h1
   | pan a' => rw [hp] at h1; cases h1
   | ret v s' =>
     rw [hp] at h1
     cases h1 with
    | ret hv hs' =>
     obtain ⟨v1,v2⟩:=v
     obtain ⟨x1,x2⟩:=x
     obtain ⟨rfl,hl⟩:=hv
     have hl:=densS_of hl
     simp only at hl
     subst hl
     have hf:=(formed_rel (f:=40) (d:=10001) (k:=10000) (Nat.le_refl _) (by omega) (Nat.le_refl _) w1 (SR.reflL x2) w2 w3).2
     unfold endK endL errN
     simp only [dens_len]
     cases he:formedS 40 10001 v1 x2.length (blkV (AstS.dens x2)) with
    | none => rw [he] at hf; cases hf
    | some e =>
      simp only [opN]
      cases e != 0 <;> rfl
theorem parse_same {N N' : Nat} {l l' : List UInt8} {RP : Int → Int → Prop} {R : LS → LS → Prop} (hl : l.length ≤ 9000)
  (h:PRel RP R (fun x x' => x.1 = x'.1 ∧ All2 SR x.2 x'.2) (bookL N l) (bookL N' l')) :
  (endL (bookL N l)).1 = (endL (bookL N' l')).1 ∧ All2 SR (endL (bookL N l)).2.1 (endL (bookL N' l')).2.1 ∧ (endL (bookL N l)).2.2.2 = (endL (bookL N' l')).2.2.2:=by
 have h2:=bookL_ok N hl
 cases hb:bookL N l with
 | stuck => rw [hb] at h2; exact h2.elim
 | pan a =>
   rw [hb] at h
   cases hp:bookL N' l' with
  | stuck => rw [hp] at h; cases h
  | pan a' => exact ⟨rfl,.nil,rfl⟩
  | ret v s' => rw [hp] at h; cases h
 | ret x q =>
   rw [hb] at h h2
   obtain ⟨w1,w2,w3⟩:=h2
   cases hp:bookL N' l' with
  | stuck => rw [hp] at h; cases h
  | pan a' => rw [hp] at h; cases h
  | ret v s' =>
    rw [hp] at h
    cases h with
   | ret hv hs' =>
    obtain ⟨v1,v2⟩:=v
    obtain ⟨x1,x2⟩:=x
    obtain ⟨e1,hl2⟩:=hv
    simp only at e1 hl2
    subst e1
    have hf:=(formed_rel (f:=40) (d:=10001) (k:=10000) (Nat.le_refl _) (by omega) (Nat.le_refl _) w1 hl2 w2 w3).1
    have he:errN (x1,x2) = errN (x1,v2):=by unfold errN; exact congrArg opN hf
    have e2:endL (.ret (x1,x2) q) = bif errN (x1,x2) != 0 then (bs [],[],0,errN (x1,x2)) else (x1,x2,0,0):=rfl
    have e3:endL (.ret (x1,v2) s') = bif errN (x1,v2) != 0 then (bs [],[],0,errN (x1,v2)) else (x1,v2,0,0):=rfl
    rw [e2,e3,he]
    cases errN (x1,v2) != 0 with
   | true => exact ⟨rfl,.nil,rfl⟩
   | false => exact ⟨rfl,hl2,rfl⟩
theorem af_sr:ARel (fun _ _ => True) AF AF Eq SR where
 ex:=fun {op v l l'} h => by
  have:l = l':=by
   induction h with
   | nil => rfl
   | cons a _ ih => rw [a,ih]
  rw [this]
 st:=fun he hb hx _ => by subst he; exact .mk hb hx
structure C98 where
 n:Nat
 ρ:Val
 m:Nat
 σ:Val
 r:Bool
 i:Int
def S98 (c:C98):St:=mkS 26 [(0,.one (.c (.sl [.str] c.n c.ρ))),(1,.one (.c (.sl [.str] c.m c.σ))),(4,.one (.c (.bool c.r))),(5,.one (.c (.int .i64 c.i)))] []
def get98 (l:List (Nat × AV)) (m:Mem):Option C98:=match l,m with
 | [(0,.one (.c (.sl [.str] n ρ))),(1,.one (.c (.sl [.str] k σ))),(4,.one (.c (.bool r))),(5,.one (.c (.int .i64 i)))],[] => some ⟨n,ρ,k,σ,r,i⟩
 | _,_ => none
theorem get98_ok:∀ l m c,get98 l m = some c → mkS 26 l m = S98 c:=by
 intro l m c h
 unfold get98 at h
 split at h
 ·cases h; rfl
 ·cases h
def E98 (n:Nat) (b:Bool):St:=mkS n [(4,.one (.c (.bool b)))] []
def getE98 (l:List (Nat × AV)) (m:Mem):Option Bool:=match l,m with
 | [(4,.one (.c (.bool b)))],[] => some b
 | _,_ => none
theorem getE98_ok (n:Nat):∀ l m c,getE98 l m = some c → mkS n l m = E98 n c:=by
 intro l m c h
 unfold getE98 at h
 split at h
 ·cases h; rfl
 ·cases h
def A98:Sx.Frame C98 Bool:=⟨0,26,[0,1,4,5],get98,S98,[4],getE98,E98 26⟩
theorem a98:A98.Ok:=.of_eq get98_ok (getE98_ok 26)
noncomputable abbrev H00:Hd:=⟨[],[],[],[]⟩
def r98 (g:C98 → Tree (XE × Bool)) (c:C98):Tree (XE × Bool) :=
 .br (lt c.i (toInt64 c.n)) (.need (inRange c.i c.n) (.need (inRange c.i c.m) (.br (!strEq (wd c.ρ c.i.toNat) (wd c.σ c.i.toNat)) (.leaf (.ret,false)) (g { c with i:=IntKind.wrap .i64 (c.i + 1) })))) (.leaf (.exit 0,c.r))
theorem r98_eq (g:C98 → Tree (XE × Bool)) (c:C98):roundL A98 Tryz.prog H00 10 98 0 g c = r98 g c:=by kernel_rfl
def g98 (k:Nat) (c:C98):Tree (XE × Bool) :=
 let o:=eqWL c.n c.ρ c.m c.σ (toInt64 c.n) k c.i
 .need (os1 o) (.br (ov1 false o) (.leaf (.exit 0,c.r)) (.leaf (.ret,false)))
def out98 (r:Bool):Option Bool → Option (XE × Bool)
 | some b => some (bif b then (.exit 0,r) else (.ret,false))
 | none => none
theorem g98_sel (k:Nat) (c:C98):(g98 k c).sel = out98 c.r (eqWL c.n c.ρ c.m c.σ (toInt64 c.n) k c.i):=by
 unfold g98
 cases eqWL c.n c.ρ c.m c.σ (toInt64 c.n) k c.i with
 | none => rfl
 | some b => cases b <;> rfl
theorem step98 (k:Nat) (c:C98) (x:XE × Bool) (h:(g98 (k + 1) c).sel = some x):(roundL A98 Tryz.prog H00 10 98 0 (g98 k) c).sel = some x:=by
 rw [r98_eq]
 rw [g98_sel] at h
 unfold eqWL at h
 unfold r98
 simp only [sel_br,sel_need,sel_leaf,g98_sel]
 revert h
 cases lt c.i (toInt64 c.n) with
 | false => exact fun h => h
 | true =>
 cases inRange c.i c.n with
 | false => exact fun h => h
 | true =>
 cases inRange c.i c.m with
 | false => exact fun h => h
 | true =>
 cases !strEq (wd c.ρ c.i.toNat) (wd c.σ c.i.toNat) <;> exact fun h => h
theorem core98:∀ k,LCore Tryz.prog 98 0 0 S98 (E98 26) (g98 k):=LCore.fuel (A:=A98) a98 HdOk.nil 10 (fun _ => rfl) step98
def g98w (c:C98):Tree (XE × Bool):=g98 (c.n + 1) c
noncomputable abbrev H98:Hd:=⟨[],[],[((98,0),loopE A98 g98w)],[]⟩
theorem h98:HdOk Tryz.prog H98:=HdOk.lhCons HdOk.nil fun fn c b h1 h2 h3 => LCore.ok (A:=A98) a98 (fun fn c b h1 h2 h3 c0 x hx => core98 (c0.n + 1) fn c b h1 h2 h3 c0 x hx) fn c b h1 h2 h3
def t98 (n:Nat) (ρ:Val) (m:Nat) (σ:Val):Tree AV :=
 let o:=eqWL n ρ m σ (toInt64 n) (n + 1) 0
 .br (toInt64 n != toInt64 m) (.leaf (encBo false)) (.need (os1 o) (.br (ov1 false o) (.leaf (encBo true)) (.leaf (encBo false))))
theorem t98_eq (n:Nat) (ρ:Val) (m:Nat) (σ:Val):(evFn Tryz.prog H98 10 98 [.c (.sl [.str] n ρ),.c (.sl [.str] m σ)] []).vals = t98 n ρ m σ:=by kernel_rfl
theorem t98_all {n:Nat} {ρ:Val} {m:Nat} {σ:Val} (h:os1 (eqWS n ρ m σ) = true):(t98 n ρ m σ).All (fun z => z = encBo (ov1 false (eqWS n ρ m σ))):=by
 unfold t98
 unfold eqWS at h ⊢
 revert h
 cases (toInt64 n != toInt64 m) with
 | true => exact fun _ => sel_all rfl rfl
 | false =>
   simp only [cond_false]
   intro h
   cases ho:eqWL n ρ m σ (toInt64 n) (n + 1) 0 with
  | none => rw [ho] at h; cases h
  | some b => cases b <;> exact sel_all rfl rfl
theorem p98:TcOne Tryz.prog 98 (nG G16):=tcOne_of_tree h98 10 98 fun args r h => by
 unfold G16 at h
 split at h
 ·rename_i n ρ m σ
  simp only [Option.some.injEq,Prod.mk.injEq] at h
  obtain ⟨h1,rfl⟩:=h
  refine ⟨rfl,_,t98_eq n ρ m σ,?_⟩
  exact t98_all h1
 ·cases h
end Go.Proofs.YtiefjlcakpdfeaaGreat
