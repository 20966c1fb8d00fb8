/-
  The roles of sites: CheckAll as a summary.
-/
import Derived.Test.YtjiennnkbompkaaRolZc
namespace Go.Proofs.Ytjiennnkbompkaa
open Go Go.Sx Go.RowKit Classical

set_option maxRecDepth 100000

/-- the place of the first error, and the error -/
def ckI (l : Ses) : Int := bif lt 4 (toInt64 l.n) then 0 else bif anyB (wrgS l) l.n then (firstB (wrgS l) l.n : Nat) else 0
def ckE (l : Ses) : Int := bif lt 4 (toInt64 l.n) then 6 else bif anyB (wrgS l) l.n then wrgE l (firstB (wrgS l) l.n) else 0

def two (i e : Int) : AV := .tup [.c (I i), .c (I e)]
def T34 (n : Nat) (iv : Bool) (x : XE × VJ) : Tree AV := .br (lt 4 (toInt64 n)) (.leaf (two 0 6)) (.need iv (.br (eqXE x.1 .ret) (.leaf (two x.2.r x.2.q)) (.need (eqXE x.1 (.exit 0)) (.leaf (two 0 0)))))

theorem T34_all {l : Ses} {iv : Bool} {x : XE × VJ} (h : iv = true) (hx : x = bif anyB (wrgS l) l.n then (.ret, sbS l (firstB (wrgS l) l.n)) else (.exit 0, stJ l.n)) : (T34 l.n iv x).All (fun z => z = two (ckI l) (ckE l)) := by
  subst h
  refine ⟨fun h => ?_, fun h => ⟨rfl, fun h2 => ?_, fun h2 => ?_⟩⟩
  · unfold ckI ckE; rw [h]; rfl
  · cases hb : anyB (wrgS l) l.n
    · rw [hb] at hx; subst hx; cases h2
    · rw [hb] at hx; subst hx
      unfold ckI ckE; rw [h, hb]; rfl
  · cases hb : anyB (wrgS l) l.n
    · rw [hb] at hx; subst hx
      refine ⟨rfl, ?_⟩
      unfold ckI ckE; rw [h, hb]; rfl
    · rw [hb] at hx; subst hx; cases h2

noncomputable def G34 : List A1 → Option (Bool × AV)
  | [.c (.sl [.int .i64, .int .i64, .int .i64, .int .i64, .sl [.int .i64, .int .i64, .int .i64], .int .i64, .bool, .bool] n ρ)] => some (dec (fewS ⟨n, ρ⟩), two (ckI ⟨n, ρ⟩) (ckE ⟨n, ρ⟩))
  | _ => none

theorem p34 : TcOne Try.prog 34 (nG G34) := tcOne_of_tree h36 12 34 fun args r h => by
  unfold G34 at h; split at h
  · rename_i n ρ
    obtain ⟨hp, rfl⟩ := Prod.mk.inj (Option.some.inj h)
    have hf := dec_iff.1 hp
    exact ⟨rfl, T34 n (inv34 ⟨⟨n, ρ⟩, ⟨n, ρ⟩, toInt64 n⟩ (stJ 0)) (run34 ⟨⟨n, ρ⟩, ⟨n, ρ⟩, toInt64 n⟩ (stJ 0)), by kernel_rfl, T34_all (l := ⟨n, ρ⟩) (dec_iff.2 ⟨⟨rfl, rfl, hf⟩, 0, Nat.zero_le _, rfl⟩) (show run34 ⟨⟨n, ρ⟩, ⟨n, ρ⟩, toInt64 n⟩ (stJ 0) = _ from (sq34 ⟨n, ρ⟩ rfl hf).fin0)⟩
  · cases h

theorem p35 : TcOne Try.prog 35 (nG G34) := tcOne_of_tree h36 12 35 fun args r h => by
  unfold G34 at h; split at h
  · rename_i n ρ
    obtain ⟨hp, rfl⟩ := Prod.mk.inj (Option.some.inj h)
    have hf := dec_iff.1 hp
    exact ⟨rfl, T34 n (inv35o ⟨n, ρ⟩ (stJ 0)) (run35 ⟨n, ρ⟩ (stJ 0)), by kernel_rfl, T34_all (l := ⟨n, ρ⟩) (dec_iff.2 ⟨hf, 0, Nat.zero_le _, rfl⟩) (show run35 ⟨n, ρ⟩ (stJ 0) = _ from (sq35 ⟨n, ρ⟩ hf).fin0)⟩
  · cases h

noncomputable abbrev H37 : Hd := ⟨(30, nG G30A) :: (34, nG G34) :: (35, nG G34) :: H15.pc, H15.hc, [], H15.mc⟩
theorem h37 : HdOk Try.prog H37 := ((h15.tcCons p35).tcCons p34).tcCons p30A

end Go.Proofs.Ytjiennnkbompkaa
