/-
 Part SpZF of the proof: RpR RpS.
-/
import Derived.Test.YtiefjlcakpdfeaaGreatSpZE
namespace Go.Proofs.YtiefjlcakpdfeaaGreat
open Go Go.Shelf Go.RowKit Go.Lib
variable {P:Program} {ρ:Ren}
theorem next_step (w wr : World) (s : ByteArray) (i : Nat) (hk : wr.heap[w.heap.size]? = some (.stringIter s i)) (hB : Below w.heap.size w wr) (h : i < s.size) :
  ∃ w1:World,(∀ ty,(Instr.next (.pointer (some ⟨w.heap.size,0,none⟩)) true ty).run P wr = .ok (.tuple #[.bool true,.int .i64 i,.int .i32 (Utf8.decode s i).1]) w1) ∧ w1.heap[w.heap.size]? = some (.stringIter s (i + (Utf8.decode s i).2)) ∧ Below w.heap.size w w1:=by
 have hlt:w.heap.size < wr.heap.size:=(Array.getElem?_eq_some_iff.1 hk).1
 refine ⟨_,fun ty => next_at wr w.heap.size s i ty hk h,?_,?_⟩
 ·simp [hlt]
 ·refine ⟨hB.os,hB.tape,hB.output,?_,fun k hk => ?_⟩
  ·have:=hB.size
   simpa using this
  ·rw [← hB.block k hk]
   show (wr.heap.setIfInBounds _ _)[k]? = _
   rw [Array.getElem?_setIfInBounds_ne (by omega)]
set_option maxHeartbeats 8000000 in
set_option maxRecDepth 1000000 in
theorem ia_short (L : Lays.n153 P ρ) (s chars : ByteArray) (w : World) (h2 : 2 ≤ chars.size) (h8 : s.size ≤ 8) (hca : ∀ b ∈ chars.data.toList, b.toNat < 128)
  (h152:∀ (r:Int) (w:World),128 ≤ r → Calls P (ρ.f 152) #[.string chars,.int .i32 r] w fun e w' => e = .returned (.int .i64 (-1)) ∧ Below w.heap.size w w') :
  Calls P (ρ.f 153) #[.string s,.string chars] w fun e w' => e = .returned (.int .i64 (Lib.indexAny s.data.toList chars.data.toList)) ∧ Below w.heap.size w w':=by
 have HC:Aside (∀ b ∈ chars.data.toList,b.toNat < 128):=hca
 clear hca
 have H152:Aside (∀ (r:Int) (w:World),128 ≤ r → Calls P (ρ.f 152) #[.string chars,.int .i32 r] w fun e w' => e = .returned (.int .i64 (-1)) ∧ Below w.heap.size w w'):=h152
 clear h152
 have hemp:chars.toList.isEmpty = false:=by
  rw [Lib.toList_data]
  cases h:chars.data.toList with
  | nil => have:=Lib.size_eq chars; rw [h,List.length_nil] at this; omega
  | cons _ _ => rfl
 have hn1:((chars.size:Int) == 1) = false:=beq_eq_false_iff_ne.2 (by omega)
 have h8z:decide ((8:Int) < (s.size:Int)) = false:=decide_eq_false (by omega)
 have t3:=L.t3; have a3:=L.a3; have z3:=L.z3; have v3:=L.v3
 have t4:=L.t4; have a4:=L.a4; have z4:=L.z4; have v4:=L.v4
 have t5:=L.t5; have a5:=L.a5; have z5:=L.z5; have v5:=L.v5
 have t9:=L.t9; have a9:=L.a9; have z9:=L.z9; have v9:=L.v9
 have t21:=L.t21; have a21:=L.a21; have z21:=L.z21; have v21:=L.v21
 have e152:∀ args w,(callFunc (ρ.f 152) args).run P w = .ok (.enter (ρ.f 152) args) w:=enters_of L.f152 (by kernel_rfl) rfl
 have e226:∀ args w,(callFunc (ρ.f 226) args).run P w = .ok (.enter (ρ.f 226) args) w:=enters_of L.f226 (by kernel_rfl) rfl
 go_enter L.f153,Body.n153_ntmps ρ
 go_wp2_with (go_at_fn (ρ.f 226); refine (Any.strings_shouldUseASCIISet { L with } _ _).mono ?_; rintro e w' ⟨rfl,hw⟩; rw [hw,h8z])
 go_loopg [9,10] s.size (fun g _ _ wx => ∃ i:Nat,g = s.size - i ∧ wx.heap[w.heap.size]? = some (.stringIter s i) ∧ Below w.heap.size w wx ∧ Lib.NoAny s.data.toList chars.data.toList i)
 case atStart => exact ⟨0,rfl,World.iter_heap w s 0,(Below.refl _ w).alloc (Nat.le_refl _) _,Lib.NoAny.zero _ _⟩
 case round =>
  obtain ⟨i,hig,hit,hB,hno⟩:=hrel
  have HN:Aside (Lib.NoAny s.data.toList chars.data.toList i):=hno
  have HB:Aside (Below w.heap.size w wr):=hB
  clear hno
  by_cases hi:i < s.size
  ·obtain ⟨w1,hnx,hit1,hB1⟩:=next_step (P:=P) w wr s i hit hB hi
   clear hit hB
   have HI:Aside (w1.heap[w.heap.size]? = some (.stringIter s (i + (Utf8.decode s i).2))):=hit1
   have HB1:Aside (Below w.heap.size w w1):=hB1
   clear hit1 hB1
   obtain ⟨x,hx⟩ : ∃ x:UInt8,s[i]'hi = x:=⟨_,rfl⟩
   have hxl:s.data.toList[i]? = some x:=by rw [← hx]; exact Lib.data_getElem? s i hi
   have Hx:Aside (s.data.toList[i]? = some x):=hxl
   have hwd:=Lib.decode_width_pos s i hi
   have Hin:Aside (∀ k b,1 ≤ k → k < (Utf8.decode s i).2 → s.data.toList[i + k]? = some b → 128 ≤ b.toNat):=fun k b h1 h2 h3 => decode_in s i k h1 h2 h3
   by_cases hx128:x.toNat < 128
   ·have hd:=decode_ascii s i hi (by rw [hx]; exact hx128)
    rw [hx] at hd
    rw [hd] at hnx HI
    clear hxl hx hd Hin hwd
    have hcon:=Lib.contains_iff_indexByte chars.data.toList x
    have hback:((x.toNat:Int)).toNat.toUInt8 = x:=by simp
    cases hin:chars.data.toList.contains x
    ·rw [hin] at hcon
     have hlt:¬ ((0:Int) ≤ Lib.indexByte chars.data.toList x):=of_decide_eq_false hcon.symm
     clear hcon
     go_wp2_with (go_at_fn (ρ.f 152); refine (Any.strings_IndexRune_ascii { L with } _ _ _ (by omega) (by omega)).mono ?_; rintro e w' ⟨rfl,hw⟩; rw [hw,hback])
     go_roundg (s.size - (i + 1))
     case measure => omega
     case rel => exact ⟨i + 1,rfl,HI.out,HB1.out,HN.out.succ Hx.out hin⟩
    ·rw [hin] at hcon
     have hge:(0:Int) ≤ Lib.indexByte chars.data.toList x:=of_decide_eq_true hcon.symm
     clear hcon
     go_wp2_with (go_at_fn (ρ.f 152); refine (Any.strings_IndexRune_ascii { L with } _ _ _ (by omega) (by omega)).mono ?_; rintro e w' ⟨rfl,hw⟩; rw [hw,hback])
     go_ret
     exact ⟨by rw [Lib.indexAny_hit HN.out Hx.out hin]; rfl,HB1.out⟩
   ·have hh:=(decode_high s i hi (by rw [hx]; omega)).1
    have HW:Aside (Lib.NoAny s.data.toList chars.data.toList (i + (Utf8.decode s i).2)):=noAny_wide HN.out HC.out fun k b h1 h2 => by
     rcases Nat.eq_zero_or_pos k with h | h
     ·subst h
      rw [Nat.add_zero,hxl] at h2
      cases h2
      omega
     ·exact Hin.out k b h h1 h2
    obtain ⟨r,hr⟩ : ∃ r:Int,((Utf8.decode s i).1:Int) = r:=⟨_,rfl⟩
    obtain ⟨wd,hwd2⟩ : ∃ wd:Nat,(Utf8.decode s i).2 = wd:=⟨_,rfl⟩
    have hr0:128 ≤ r:=by omega
    rw [hr] at hnx
    rw [hwd2] at HI HW hwd
    clear hxl hx Hin hh hr hwd2
    go_wp2_with (go_at_fn (ρ.f 152); refine (H152.out _ _ hr0).mono ?_; rintro e w' ⟨rfl,hw⟩)
    go_roundg (s.size - (i + wd))
    case measure => omega
    case rel =>
     exact ⟨i + wd,rfl,by rw [hw.block _ ((Array.getElem?_eq_some_iff.1 HI.out).1)]; exact HI.out,HB1.out.trans (hw.mono HB1.out.size),HW.out⟩
  ·have hnx:=fun ty => next_no (P:=P) wr w.heap.size s i ty hit hi
   clear hit hB
   go_wp2
   go_ret
   exact ⟨by rw [Lib.indexAny_none (fun j b hj hb => HN.out j b (by rw [← Lib.size_eq] at hj; omega) hb)]; rfl,HB.out⟩
end Go.Proofs.YtiefjlcakpdfeaaGreat
namespace Go.Proofs.YtiefjlcakpdfeaaGreat
open Go Go.Sx Go.RowKit Rb
set_option maxRecDepth 100000
def iAny (s:ByteArray):Int:=Lib.indexAny (lst s) [32,9,10]
theorem spaces_ascii:∀ b ∈ wSpaces.data.toList,b.toNat < 128:=by
 have:wSpaces.data.toList = [32,9,10]:=rfl
 rw [this]
 intro b hb
 simp only [List.mem_cons,List.not_mem_nil,or_false] at hb
 rcases hb with rfl | rfl | rfl <;> decide
theorem hv116:∀ w,(zeroValue 121).run Tryz.prog w = .ok (.agg (Array.replicate 256 (.bool false))) w :=
 (zero_of_info (P:=Tryz.prog) (show (Tryz.prog.info? 121).map (fun i => (i.zero,i.size)) = some (some (.agg (Array.replicate 256 (.bool false))),256) from by kernel_rfl)).1
theorem iAny_calls (s:ByteArray) (hs:s.size ≤ 100000) (w:World):Calls Tryz.prog 22 #[.string s,.string wSpaces] w fun e w' => e = .returned (.int .i64 (iAny s)) ∧ Below w.heap.size w w':=by
 rcases Nat.lt_or_ge 8 s.size with h | h
 ·refine (Tryz.strings_IndexAny_long hv116 s wSpaces w (by decide) h (by omega) (by decide) fun j b hb => spaces_ascii b (List.mem_of_getElem? hb)).mono fun e w' ⟨h1,h2⟩ => ⟨h1,?_⟩
  subst h2
  refine ((Below.refl _ w).alloc (Nat.le_refl _) _).alloc ?_ _
  exact ((Below.refl _ w).alloc (Nat.le_refl _) _).size
 ·exact ia_short Tryz.lays153 s wSpaces w (by decide) h spaces_ascii fun r w h => ir_high h w
theorem p22:UcOne Tryz.prog 22 (nG (G22 iAny)):=by
 intro args r hG hcl F w vs hargs
 have h:=nG_sel hG
 unfold G22 at h
 split at h
 ·rename_i s t
  split at h
  ·rename_i ht
   have ht:=(strEq_iff _ _).1 ht
   subst ht
   simp only [Option.some.injEq,Prod.mk.injEq] at h
   obtain ⟨hb,rfl⟩:=h
   cases hargs with
   | cons a1 a2 => cases a2 with
    | cons a2 a3 =>
      cases a3
      cases a1; cases a2
      refine (iAny_calls s (Nat.le_of_ble_eq_true hb) w).mono fun e w2 ⟨he,hw⟩ => ?_
      exact ⟨.int .i64 (iAny s),he,hw,CV.Rel.int _ _⟩
  ·cases h
 ·cases h
theorem indexAny_some:∀ (l chars:List UInt8),0 ≤ Lib.indexAny l chars → ∃ (i:Nat) (x:UInt8),Lib.indexAny l chars = (i:Int) ∧ l[i]? = some x ∧ chars.contains x = true
 | [], chars, h => by
   have:Lib.indexAny [] chars = -1:=rfl
   rw [this] at h
   omega
 | b :: l, chars, h => by
   unfold Lib.indexAny at h ⊢
   split at h
   ·rename_i hc
    exact ⟨0,b,if_pos hc,rfl,hc⟩
   ·rename_i hc
    split at h
    ·omega
    ·rename_i h1
     have hge:=Lib.indexAny_ge chars l
     have hne:Lib.indexAny l chars ≠ -1:=fun e => h1 (beq_iff_eq.2 e)
     obtain ⟨i,x,e1,e2,e3⟩:=indexAny_some l chars (by omega)
     refine ⟨i + 1,x,?_,by simpa using e2,e3⟩
     rw [if_neg hc,if_neg h1,e1]
     push_cast
     rfl
theorem iAny_sp (t:ByteArray) (h:0 ≤ iAny t):∃ c,(lst t)[(iAny t).toNat]? = some c ∧ spC c = true:=by
 obtain ⟨i,x,e1,e2,e3⟩:=indexAny_some (lst t) [32,9,10] h
 refine ⟨x,?_,?_⟩
 ·show (lst t)[(Lib.indexAny (lst t) [32,9,10]).toNat]? = _
  rw [e1]
  exact e2
 ·simp only [List.contains_cons,List.contains_nil,Bool.or_false,Bool.or_eq_true,beq_iff_eq] at e3
  rcases e3 with rfl | rfl | rfl <;> rfl
theorem argStr_eq (ρ:Val):argOf Tryz.prog 9 [.str] ρ = .c (.str ((ρ.at 0).S [])):=by kernel_rfl
theorem argU16_eq (ρ:Val):argOf Tryz.prog 59 [.int .u16] ρ = .c (.int .u16 ((ρ.at 0).N [])):=by kernel_rfl
theorem u16_two {n:Int} (h:(Lit.int .u16 n).wf = true):0 ≤ n ∧ n ≤ 65535:=by
 simpa [Lit.wf,IntKind.min,IntKind.max,IntKind.signed,IntKind.bits] using h
end Go.Proofs.YtiefjlcakpdfeaaGreat
