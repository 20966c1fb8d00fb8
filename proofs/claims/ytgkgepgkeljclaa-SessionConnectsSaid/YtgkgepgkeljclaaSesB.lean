/-
  The session: Dial, Expire, Close, Receive.
-/
import Derived.Test.YtgkgepgkeljclaaSesA
namespace Go.Proofs.Ytgkgepgkeljclaa
open Go Go.Sx

set_option maxRecDepth 100000

/-- does Dial succeed? -/
def dlO (a b c d e f n m : Int) : Bool := bif chk a b c d e f != 0 then false else bif e != 0 then false else bif !dln n m then false else bif d == 1073741824 then false else true
def dlE (a b c d e f n m : Int) : Int := bif chk a b c d e f != 0 then chk a b c d e f else bif e != 0 then 26 else bif !dln n m then 24 else bif d == 1073741824 then 11 else 0

def dialV (a b c d e f n m : Int) : AV :=
  .tup [.agg [I (bif dlO a b c d e f n m then a else 0), I (bif dlO a b c d e f n m then b else 0), I (bif dlO a b c d e f n m then c else 0), I (bif dlO a b c d e f n m then IntKind.i64.wrap (d + 1) else 0), I (bif dlO a b c d e f n m then 1 else 0), I (bif dlO a b c d e f n m then IntKind.i64.wrap (n + m) else 0)],
    .c (.sl msgSh (bif dlO a b c d e f n m then 1 else 0) (msgV 5 a b c (IntKind.i64.wrap (d + 1)))), .c (I (dlE a b c d e f n m))]

def Gdial : List A1 → Option AV
  | [.agg [.int .i64 a, .int .i64 b, .int .i64 c, .int .i64 d, .int .i64 e, .int .i64 f], .c (.int .i64 n), .c (.int .i64 m)] => some (dialV a b c d e f n m)
  | _ => none

theorem dial_eq (a b c k x y : Int) (p1 p2 p3 p4 : Bool) (ρ : Val) :
    (AV.tup
  [.agg [I (bif p1 then 0 else bif p2 then 0 else bif p3 then 0 else bif p4 then 0 else a),
        I (bif p1 then 0 else bif p2 then 0 else bif p3 then 0 else bif p4 then 0 else b),
        I (bif p1 then 0 else bif p2 then 0 else bif p3 then 0 else bif p4 then 0 else c),
        I (bif p1 then 0 else bif p2 then 0 else bif p3 then 0 else bif p4 then 0 else x),
        I (bif p1 then 0 else bif p2 then 0 else bif p3 then 0 else bif p4 then 0 else 1),
        I (bif p1 then 0 else bif p2 then 0 else bif p3 then 0 else bif p4 then 0 else y)],
    .c (.sl msgSh (bif p1 then 0 else bif p2 then 0 else bif p3 then 0 else bif p4 then 0 else 1) ρ),
    .c (I (bif p1 then k else bif p2 then 26 else bif p3 then 24 else bif p4 then 11 else 0))]) =
    (let ok := bif p1 then false else bif p2 then false else bif p3 then false else bif p4 then false else true
     .tup [.agg [I (bif ok then a else 0), I (bif ok then b else 0), I (bif ok then c else 0), I (bif ok then x else 0), I (bif ok then 1 else 0), I (bif ok then y else 0)],
      .c (.sl msgSh (bif ok then 1 else 0) ρ), .c (I (bif p1 then k else bif p2 then 26 else bif p3 then 24 else bif p4 then 11 else 0))]) := by
  cases p1 <;> cases p2 <;> cases p3 <;> cases p4 <;> rfl

theorem q20 : HcOne Try.prog 20 Gdial := hcOne_of_ev h4 10 20 fun args r h => by
  unfold Gdial at h; split at h
  · rename_i a b c d e f n m
    obtain rfl := Option.some.inj h
    exact ⟨by kernel_rfl, Eq.trans (by kernel_rfl) (dial_eq a b c (chk a b c d e f) (IntKind.i64.wrap (d + 1)) (IntKind.i64.wrap (n + m)) (chk a b c d e f != 0) (e != 0) (!dln n m) (d == 1073741824) (msgV 5 a b c (IntKind.i64.wrap (d + 1))))⟩
  · cases h
theorem q21 : HcOne Try.prog 21 Gdial := hcOne_of_ev h4 10 21 fun args r h => by
  unfold Gdial at h; split at h
  · rename_i a b c d e f n m
    obtain rfl := Option.some.inj h
    exact ⟨by kernel_rfl, Eq.trans (by kernel_rfl) (dial_eq a b c (chk a b c d e f) (IntKind.i64.wrap (d + 1)) (IntKind.i64.wrap (n + m)) (chk a b c d e f != 0) (e != 0) (!dln n m) (d == 1073741824) (msgV 5 a b c (IntKind.i64.wrap (d + 1))))⟩
  · cases h

/-- does nothing expire? -/
def xpN (a b c d e f n : Int) : Bool := chk a b c d e f != 0 || e != 1 || lt n f

def expV (a b c d e f n m : Int) : AV :=
  .tup [.agg [I a, I b, I c, I d, I (bif xpN a b c d e f n then e else bif dln n m then e else 0), I (bif xpN a b c d e f n then f else bif dln n m then IntKind.i64.wrap (n + m) else 0)],
    .c (.sl msgSh (bif xpN a b c d e f n then 0 else bif dln n m then 1 else 0) (msgV 5 a b c d))]

def Gexp : List A1 → Option AV
  | [.agg [.int .i64 a, .int .i64 b, .int .i64 c, .int .i64 d, .int .i64 e, .int .i64 f], .c (.int .i64 n), .c (.int .i64 m)] => some (expV a b c d e f n m)
  | _ => none

theorem exp_eq (a b c d e f x : Int) (p1 p2 : Bool) (ρ : Val) :
    (AV.tup
  [.agg [I (bif p1 then a else bif p2 then a else a), I (bif p1 then b else bif p2 then b else b), I (bif p1 then c else bif p2 then c else c), I (bif p1 then d else bif p2 then d else d),
      I (bif p1 then e else bif p2 then e else 0), I (bif p1 then f else bif p2 then x else 0)], .c (.sl msgSh (bif p1 then 0 else bif p2 then 1 else 0) ρ)]) =
     .tup [.agg [I a, I b, I c, I d, I (bif p1 then e else bif p2 then e else 0), I (bif p1 then f else bif p2 then x else 0)], .c (.sl msgSh (bif p1 then 0 else bif p2 then 1 else 0) ρ)] := by
  cases p1 <;> cases p2 <;> rfl

theorem exp_eq' (a b c d e f x : Int) (p1 p2 : Bool) (ρ : Val) :
    (AV.tup
  [.agg [I (bif p1 then a else bif !p2 then a else a), I (bif p1 then b else bif !p2 then b else b), I (bif p1 then c else bif !p2 then c else c), I (bif p1 then d else bif !p2 then d else d),
      I (bif p1 then e else bif !p2 then 0 else e), I (bif p1 then f else bif !p2 then 0 else x)], .c (.sl msgSh (bif p1 then 0 else bif !p2 then 0 else 1) ρ)]) =
     .tup [.agg [I a, I b, I c, I d, I (bif p1 then e else bif p2 then e else 0), I (bif p1 then f else bif p2 then x else 0)], .c (.sl msgSh (bif p1 then 0 else bif p2 then 1 else 0) ρ)] := by
  cases p1 <;> cases p2 <;> rfl

theorem q22 : HcOne Try.prog 22 Gexp := hcOne_of_ev h4 10 22 fun args r h => by
  unfold Gexp at h; split at h
  · rename_i a b c d e f n m
    obtain rfl := Option.some.inj h
    exact ⟨by kernel_rfl, Eq.trans (by kernel_rfl) (exp_eq a b c d e f (IntKind.i64.wrap (n + m)) (xpN a b c d e f n) (dln n m) (msgV 5 a b c d))⟩
  · cases h
theorem q23 : HcOne Try.prog 23 Gexp := hcOne_of_ev h4 10 23 fun args r h => by
  unfold Gexp at h; split at h
  · rename_i a b c d e f n m
    obtain rfl := Option.some.inj h
    exact ⟨by kernel_rfl, Eq.trans (by kernel_rfl) (exp_eq' a b c d e f (IntKind.i64.wrap (n + m)) (xpN a b c d e f n) (dln n m) (msgV 5 a b c d))⟩
  · cases h

/-- is there nothing to close? -/
def clN (a b c d e f : Int) : Bool := chk a b c d e f != 0 || e == 0

def closeV (a b c d e f : Int) : AV :=
  .tup [.agg [I a, I b, I c, I d, I (bif clN a b c d e f then e else 0), I (bif clN a b c d e f then f else 0)], .c (.sl msgSh (bif clN a b c d e f then 0 else 1) (msgV 7 a b c d))]

def Gclose : List A1 → Option AV
  | [.agg [.int .i64 a, .int .i64 b, .int .i64 c, .int .i64 d, .int .i64 e, .int .i64 f]] => some (closeV a b c d e f)
  | _ => none

theorem close_eq (a b c d e f : Int) (p1 : Bool) (ρ : Val) :
    (AV.tup
  [.agg [I (bif p1 then a else a), I (bif p1 then b else b), I (bif p1 then c else c), I (bif p1 then d else d),
      I (bif p1 then e else 0), I (bif p1 then f else 0)], .c (.sl msgSh (bif p1 then 0 else 1) ρ)]) =
     .tup [.agg [I a, I b, I c, I d, I (bif p1 then e else 0), I (bif p1 then f else 0)], .c (.sl msgSh (bif p1 then 0 else 1) ρ)] := by
  cases p1 <;> rfl

theorem q24 : HcOne Try.prog 24 Gclose := hcOne_of_ev h4 10 24 fun args r h => by
  unfold Gclose at h; split at h
  · rename_i a b c d e f
    obtain rfl := Option.some.inj h
    exact ⟨by kernel_rfl, Eq.trans (by kernel_rfl) (close_eq a b c d e f (clN a b c d e f) (msgV 7 a b c d))⟩
  · cases h
theorem q25 : HcOne Try.prog 25 Gclose := hcOne_of_ev h4 10 25 fun args r h => by
  unfold Gclose at h; split at h
  · rename_i a b c d e f
    obtain rfl := Option.some.inj h
    exact ⟨by kernel_rfl, Eq.trans (by kernel_rfl) (close_eq a b c d e f (clN a b c d e f) (msgV 7 a b c d))⟩
  · cases h

/-- what a message does: the session behind it, and what is sent: how many, the kind, number and epoch -/
structure R where
  c : Int
  d : Int
  e : Int
  f : Int
  n : Nat
  k : Int
  mc : Int
  md : Int

/-- rj: the message is refused; h5: it is MsgHello; h, w: it is handled as MsgHello, as MsgWelcome (else as MsgReset) -/
def recv (rj h5 h w : Bool) (c d e f nu ep : Int) : R :=
  bif rj then ⟨c, d, e, f, 0, 0, 0, 0⟩
  else bif lt ep c then ⟨c, d, e, f, bif h5 then 1 else 0, 7, c, d⟩
  else
    let c' := bif lt c ep then ep else c
    let e' := bif lt c ep then 0 else e
    let f' := bif lt c ep then 0 else f
    bif h then
      bif lt d nu || (nu == d && !(e' == 0)) then ⟨c', nu, 2, 0, 1, 6, c', nu⟩
      else bif e' == 0 then ⟨c', d, e', f', 1, 7, c', d⟩
      else ⟨c', d, e', f', 0, 0, 0, 0⟩
    else bif w then
      bif nu != d then ⟨c', d, e', f', 0, 0, 0, 0⟩
      else bif e' == 0 then ⟨c', d, e', f', 1, 7, c', d⟩
      else ⟨c', d, 2, 0, 0, 0, 0, 0⟩
    else bif le d nu then ⟨c', nu, 0, 0, 0, 0, 0, 0⟩
    else ⟨c', d, e', f', 0, 0, 0, 0⟩

def rjP (a b c d e f k fr to nu ep : Int) : Bool :=
  chk a b c d e f != 0 || fr != b || to != a || !tim ep || !tim nu || lt (IntKind.i64.wrap (k - 5)) 0 || lt 2 (IntKind.i64.wrap (k - 5))
def rcP (a b c d e f k fr to nu ep : Int) : R := recv (rjP a b c d e f k fr to nu ep) (k == 5) (IntKind.i64.wrap (k - 5) == 0) (IntKind.i64.wrap (k - 5) == 0 + 1) c d e f nu ep

def recvV (a b : Int) (r : R) : AV := .tup [.agg [I a, I b, I r.c, I r.d, I r.e, I r.f], .c (.sl msgSh r.n (msgV r.k a b r.mc r.md))]

def GrecvP : List A1 → Option AV
  | [.agg [.int .i64 a, .int .i64 b, .int .i64 c, .int .i64 d, .int .i64 e, .int .i64 f], .c (.int .i64 _), .agg [.int .i64 k, .int .i64 fr, .int .i64 to, .int .i64 nu, .int .i64 _, .int .i64 ep, .sl [.int .i64] _ _, .sl [.int .u8] _ _]] => some (recvV a b (rcP a b c d e f k fr to nu ep))
  | _ => none

theorem leA_of {x y r : AV} (h : x = y) (k : leA y r) : leA x r := h ▸ k

theorem leA_nop {l : List CV} {ρ σ : Val} : leA (.tup [.agg l, .c (.sl msgSh 0 ρ)]) (.tup [.agg l, .c (.sl msgSh 0 σ)]) :=
  leA_tup (.cons le1.refl (.cons (.c (leC_sl rfl fun h => (h rfl).elim)) .nil))

theorem recP_le (a b c d e f nu ep : Int) (rj h5 h w : Bool) : leA (AV.tup
  [A1.agg
      [CV.int IntKind.i64
          (bif
              rj then
            a
          else
            bif lt ep c then bif h5 then a else a
            else
              bif lt c ep then
                bif h then
                  bif lt d nu then bif lt d nu then a else a else bif nu == d && false then a else a
                else bif w then bif nu != d then a else a else bif le d nu then a else a
              else
                bif h then
                  bif lt d nu then bif lt d nu then a else bif e == 0 then a else a
                  else bif nu == d && !e == 0 then a else bif e == 0 then a else a
                else
                  bif w then bif nu != d then a else bif e == 0 then a else a
                  else bif le d nu then a else a),
        CV.int IntKind.i64
          (bif
              rj then
            b
          else
            bif lt ep c then bif h5 then b else b
            else
              bif lt c ep then
                bif h then
                  bif lt d nu then bif lt d nu then b else b else bif nu == d && false then b else b
                else bif w then bif nu != d then b else b else bif le d nu then b else b
              else
                bif h then
                  bif lt d nu then bif lt d nu then b else bif e == 0 then b else b
                  else bif nu == d && !e == 0 then b else bif e == 0 then b else b
                else
                  bif w then bif nu != d then b else bif e == 0 then b else b
                  else bif le d nu then b else b),
        CV.int IntKind.i64
          (bif
              rj then
            c
          else
            bif lt ep c then bif h5 then c else c
            else
              bif lt c ep then
                bif h then
                  bif lt d nu then bif lt d nu then ep else ep else bif nu == d && false then ep else ep
                else
                  bif w then bif nu != d then ep else ep
                  else bif le d nu then ep else ep
              else
                bif h then
                  bif lt d nu then bif lt d nu then c else bif e == 0 then c else c
                  else bif nu == d && !e == 0 then c else bif e == 0 then c else c
                else
                  bif w then bif nu != d then c else bif e == 0 then c else c
                  else bif le d nu then c else c),
        CV.int IntKind.i64
          (bif
              rj then
            d
          else
            bif lt ep c then bif h5 then d else d
            else
              bif lt c ep then
                bif h then
                  bif lt d nu then bif lt d nu then nu else d else bif nu == d && false then nu else d
                else
                  bif w then bif nu != d then d else d else bif le d nu then nu else d
              else
                bif h then
                  bif lt d nu then bif lt d nu then nu else bif e == 0 then d else d
                  else bif nu == d && !e == 0 then nu else bif e == 0 then d else d
                else
                  bif w then bif nu != d then d else bif e == 0 then d else d
                  else bif le d nu then nu else d),
        CV.int IntKind.i64
          (bif
              rj then
            e
          else
            bif lt ep c then bif h5 then e else e
            else
              bif lt c ep then
                bif h then
                  bif lt d nu then bif lt d nu then 2 else 0 else bif nu == d && false then 2 else 0
                else bif w then bif nu != d then 0 else 0 else bif le d nu then 0 else 0
              else
                bif h then
                  bif lt d nu then bif lt d nu then 2 else bif e == 0 then e else e
                  else bif nu == d && !e == 0 then 2 else bif e == 0 then e else e
                else
                  bif w then bif nu != d then e else bif e == 0 then e else 2
                  else bif le d nu then 0 else e),
        CV.int IntKind.i64
          (bif
              rj then
            f
          else
            bif lt ep c then bif h5 then f else f
            else
              bif lt c ep then
                bif h then
                  bif lt d nu then bif lt d nu then 0 else 0 else bif nu == d && false then 0 else 0
                else bif w then bif nu != d then 0 else 0 else bif le d nu then 0 else 0
              else
                bif h then
                  bif lt d nu then bif lt d nu then 0 else bif e == 0 then f else f
                  else bif nu == d && !e == 0 then 0 else bif e == 0 then f else f
                else
                  bif w then bif nu != d then f else bif e == 0 then f else 0
                  else bif le d nu then 0 else f)],
    A1.c
      (CV.sl
        [Sh.int IntKind.i64, Sh.int IntKind.i64, Sh.int IntKind.i64, Sh.int IntKind.i64, Sh.int IntKind.i64,
          Sh.int IntKind.i64, Sh.sl [Sh.int IntKind.i64], Sh.sl [Sh.int IntKind.u8]]
        (bif
            rj then
          0
        else
          bif lt ep c then bif h5 then 1 else 0
          else
            bif lt c ep then
              bif h then
                bif lt d nu then bif lt d nu then 1 else 1 else bif nu == d && false then 1 else 1
              else bif w then bif nu != d then 0 else 1 else 0
            else
              bif h then
                bif lt d nu then bif lt d nu then 1 else bif e == 0 then 1 else 0
                else bif nu == d && !e == 0 then 1 else bif e == 0 then 1 else 0
              else bif w then bif nu != d then 0 else bif e == 0 then 1 else 0 else 0)
        (pickV (lt ep c)
          (Val.ofFlat 8
            [CV.int IntKind.i64 7, CV.int IntKind.i64 a, CV.int IntKind.i64 b, CV.int IntKind.i64 d,
              CV.int IntKind.i64 0, CV.int IntKind.i64 c, CV.nils, CV.nils])
          (pickV (lt c ep)
            (pickV (h)
              (pickV (lt d nu)
                (pickV (lt d nu)
                  (Val.ofFlat 8
                    [CV.int IntKind.i64 6, CV.int IntKind.i64 a, CV.int IntKind.i64 b, CV.int IntKind.i64 nu,
                      CV.int IntKind.i64 0, CV.int IntKind.i64 ep, CV.nils, CV.nils])
                  (Val.ofFlat 8
                    [CV.int IntKind.i64 7, CV.int IntKind.i64 a, CV.int IntKind.i64 b, CV.int IntKind.i64 d,
                      CV.int IntKind.i64 0, CV.int IntKind.i64 ep, CV.nils, CV.nils]))
                (pickV (nu == d && false)
                  (Val.ofFlat 8
                    [CV.int IntKind.i64 6, CV.int IntKind.i64 a, CV.int IntKind.i64 b, CV.int IntKind.i64 nu,
                      CV.int IntKind.i64 0, CV.int IntKind.i64 ep, CV.nils, CV.nils])
                  (Val.ofFlat 8
                    [CV.int IntKind.i64 7, CV.int IntKind.i64 a, CV.int IntKind.i64 b, CV.int IntKind.i64 d,
                      CV.int IntKind.i64 0, CV.int IntKind.i64 ep, CV.nils, CV.nils])))
              (Val.ofFlat 8
                [CV.int IntKind.i64 7, CV.int IntKind.i64 a, CV.int IntKind.i64 b, CV.int IntKind.i64 d,
                  CV.int IntKind.i64 0, CV.int IntKind.i64 ep, CV.nils, CV.nils]))
            (pickV (h)
              (pickV (lt d nu)
                (pickV (lt d nu)
                  (Val.ofFlat 8
                    [CV.int IntKind.i64 6, CV.int IntKind.i64 a, CV.int IntKind.i64 b, CV.int IntKind.i64 nu,
                      CV.int IntKind.i64 0, CV.int IntKind.i64 c, CV.nils, CV.nils])
                  (Val.ofFlat 8
                    [CV.int IntKind.i64 7, CV.int IntKind.i64 a, CV.int IntKind.i64 b, CV.int IntKind.i64 d,
                      CV.int IntKind.i64 0, CV.int IntKind.i64 c, CV.nils, CV.nils]))
                (pickV (nu == d && !e == 0)
                  (Val.ofFlat 8
                    [CV.int IntKind.i64 6, CV.int IntKind.i64 a, CV.int IntKind.i64 b, CV.int IntKind.i64 nu,
                      CV.int IntKind.i64 0, CV.int IntKind.i64 c, CV.nils, CV.nils])
                  (Val.ofFlat 8
                    [CV.int IntKind.i64 7, CV.int IntKind.i64 a, CV.int IntKind.i64 b, CV.int IntKind.i64 d,
                      CV.int IntKind.i64 0, CV.int IntKind.i64 c, CV.nils, CV.nils])))
              (Val.ofFlat 8
                [CV.int IntKind.i64 7, CV.int IntKind.i64 a, CV.int IntKind.i64 b, CV.int IntKind.i64 d,
                  CV.int IntKind.i64 0, CV.int IntKind.i64 c, CV.nils, CV.nils])))))]) (recvV a b (recv rj h5 h w c d e f nu ep)) := by
  unfold recvV recv
  have hq : (nu != d) = !(nu == d) := rfl
  rw [hq]
  have hlt : lt d nu = true → (nu == d) = false := fun h => by
    have := (lt_iff d nu).1 h
    simp; omega
  generalize lt d nu = x1 at *
  generalize (nu == d) = x2 at *
  generalize lt ep c = x3
  generalize lt c ep = x4
  generalize le d nu = x5
  generalize hx6 : (e == 0) = x6
  cases rj
  case true => exact leA_nop
  cases x3
  case true => cases h5 <;> first | exact leA.refl | exact leA_nop
  cases h
  case true =>
    cases x1 <;> cases x2 <;> first | (exfalso; simp at hlt; done) | skip
    all_goals (cases x4 <;> cases x6 <;> simp only [cond_true, cond_false, hx6, Bool.or_true, Bool.or_false, Bool.and_true, Bool.and_false, Bool.not_true, Bool.not_false, beq_self_eq_true] <;> first | exact leA.refl | exact leA_nop)
  cases w
  case true => cases x2 <;> cases x4 <;> cases x6 <;> simp only [cond_true, cond_false, hx6, Bool.not_true, Bool.not_false, beq_self_eq_true] <;> first | exact leA.refl | exact leA_nop
  cases x5 <;> cases x4 <;> first | exact leA.refl | exact leA_nop

theorem rjP_in {a b c d e f k fr to nu ep : Int} (h : rjP a b c d e f k fr to nu ep = false) : inRange (IntKind.i64.wrap (k - 5)) 3 = true := by
  unfold rjP at h
  simp only [Bool.or_eq_false_iff] at h
  refine inRange_iff.2 ?_
  have h1 : ¬ IntKind.i64.wrap (k - 5) < 0 := fun hh => by have := (lt_iff _ _).2 hh; rw [h.1.2] at this; cases this
  have h2 : ¬ 2 < IntKind.i64.wrap (k - 5) := fun hh => by have := (lt_iff _ _).2 hh; rw [h.2] at this; cases this
  omega

theorem safe11 (a b c d e f k fr to nu ep : Int) : Tree.Safe (Tree.br
  (chk a b c d e f != 0 || fr != b || to != a || !tim ep || !tim nu || lt (IntKind.i64.wrap (k - 5)) 0 ||
    lt 2 (IntKind.i64.wrap (k - 5)))
  (Tree.leaf PUnit.unit)
  (Tree.br (lt ep c) (Tree.br (k == 5) (Tree.need true (Tree.leaf PUnit.unit)) (Tree.leaf PUnit.unit))
    (Tree.br (lt c ep)
      (Tree.need (inRange (IntKind.i64.wrap (k - 5)) 3)
        (Tree.br (IntKind.i64.wrap (k - 5) == 0)
          (Tree.br (lt d nu)
            (Tree.br (lt d nu) (Tree.need true (Tree.leaf PUnit.unit))
              (Tree.br true (Tree.need true (Tree.leaf PUnit.unit)) (Tree.leaf PUnit.unit)))
            (Tree.br (nu == d && false) (Tree.need true (Tree.leaf PUnit.unit))
              (Tree.br true (Tree.need true (Tree.leaf PUnit.unit)) (Tree.leaf PUnit.unit))))
          (Tree.br (IntKind.i64.wrap (k - 5) == 0 + 1)
            (Tree.br (nu != d) (Tree.leaf PUnit.unit)
              (Tree.br true (Tree.need true (Tree.leaf PUnit.unit)) (Tree.leaf PUnit.unit)))
            (Tree.br (le d nu) (Tree.leaf PUnit.unit) (Tree.leaf PUnit.unit)))))
      (Tree.need (inRange (IntKind.i64.wrap (k - 5)) 3)
        (Tree.br (IntKind.i64.wrap (k - 5) == 0)
          (Tree.br (lt d nu)
            (Tree.br (lt d nu) (Tree.need true (Tree.leaf PUnit.unit))
              (Tree.br (e == 0) (Tree.need true (Tree.leaf PUnit.unit)) (Tree.leaf PUnit.unit)))
            (Tree.br (nu == d && !e == 0) (Tree.need true (Tree.leaf PUnit.unit))
              (Tree.br (e == 0) (Tree.need true (Tree.leaf PUnit.unit)) (Tree.leaf PUnit.unit))))
          (Tree.br (IntKind.i64.wrap (k - 5) == 0 + 1)
            (Tree.br (nu != d) (Tree.leaf PUnit.unit)
              (Tree.br (e == 0) (Tree.need true (Tree.leaf PUnit.unit)) (Tree.leaf PUnit.unit)))
            (Tree.br (le d nu) (Tree.leaf PUnit.unit) (Tree.leaf PUnit.unit)))))))) :=
  ⟨fun _ => trivial, fun h => have hr := rjP_in (a := a) (b := b) (c := c) (d := d) (e := e) (f := f) (k := k) (fr := fr) (to := to) (nu := nu) (ep := ep) h
    by simp only [Tree.Safe, hr, implies_true, and_self]⟩

theorem q11 : HcOne Try.prog 11 GrecvP := hcOne_of_le h4 10 11 fun args r h => by
  unfold GrecvP at h; split at h
  · rename_i a b c d e f n k fr to nu va ep i σ j τ
    obtain rfl := Option.some.inj h
    refine ⟨needs_of_conds (u := Tree.br
  (chk a b c d e f != 0 || fr != b || to != a || !tim ep || !tim nu || lt (IntKind.i64.wrap (k - 5)) 0 ||
    lt 2 (IntKind.i64.wrap (k - 5)))
  (Tree.leaf PUnit.unit)
  (Tree.br (lt ep c) (Tree.br (k == 5) (Tree.need true (Tree.leaf PUnit.unit)) (Tree.leaf PUnit.unit))
    (Tree.br (lt c ep)
      (Tree.need (inRange (IntKind.i64.wrap (k - 5)) 3)
        (Tree.br (IntKind.i64.wrap (k - 5) == 0)
          (Tree.br (lt d nu)
            (Tree.br (lt d nu) (Tree.need true (Tree.leaf PUnit.unit))
              (Tree.br true (Tree.need true (Tree.leaf PUnit.unit)) (Tree.leaf PUnit.unit)))
            (Tree.br (nu == d && false) (Tree.need true (Tree.leaf PUnit.unit))
              (Tree.br true (Tree.need true (Tree.leaf PUnit.unit)) (Tree.leaf PUnit.unit))))
          (Tree.br (IntKind.i64.wrap (k - 5) == 0 + 1)
            (Tree.br (nu != d) (Tree.leaf PUnit.unit)
              (Tree.br true (Tree.need true (Tree.leaf PUnit.unit)) (Tree.leaf PUnit.unit)))
            (Tree.br (le d nu) (Tree.leaf PUnit.unit) (Tree.leaf PUnit.unit)))))
      (Tree.need (inRange (IntKind.i64.wrap (k - 5)) 3)
        (Tree.br (IntKind.i64.wrap (k - 5) == 0)
          (Tree.br (lt d nu)
            (Tree.br (lt d nu) (Tree.need true (Tree.leaf PUnit.unit))
              (Tree.br (e == 0) (Tree.need true (Tree.leaf PUnit.unit)) (Tree.leaf PUnit.unit)))
            (Tree.br (nu == d && !e == 0) (Tree.need true (Tree.leaf PUnit.unit))
              (Tree.br (e == 0) (Tree.need true (Tree.leaf PUnit.unit)) (Tree.leaf PUnit.unit))))
          (Tree.br (IntKind.i64.wrap (k - 5) == 0 + 1)
            (Tree.br (nu != d) (Tree.leaf PUnit.unit)
              (Tree.br (e == 0) (Tree.need true (Tree.leaf PUnit.unit)) (Tree.leaf PUnit.unit)))
            (Tree.br (le d nu) (Tree.leaf PUnit.unit) (Tree.leaf PUnit.unit)))))))) (by kernel_rfl) (safe11 a b c d e f k fr to nu ep), ?_⟩
    refine leA_of ?_ (recP_le a b c d e f nu ep (rjP a b c d e f k fr to nu ep) (k == 5) (IntKind.i64.wrap (k - 5) == 0) (IntKind.i64.wrap (k - 5) == 0 + 1))
    kernel_rfl
  · cases h

/-- the reference refuses the message -/
def rjR (a b c d e f k fr to nu ep : Int) : Bool :=
  (chk a b c d e f != 0 || fr != b || to != a || lt ep 0 || lt 1073741824 ep || lt nu 0 || lt 1073741824 nu) || (k != 5 && k != 6 && k != 7)
def rcR (a b c d e f k fr to nu ep : Int) : R := recv (rjR a b c d e f k fr to nu ep) (k == 5) (k == 5) (k == 6) c d e f nu ep

def GrecvR : List A1 → Option AV
  | [.agg [.int .i64 a, .int .i64 b, .int .i64 c, .int .i64 d, .int .i64 e, .int .i64 f], .c (.int .i64 _), .agg [.int .i64 k, .int .i64 fr, .int .i64 to, .int .i64 nu, .int .i64 _, .int .i64 ep, .sl [.int .i64] _ _, .sl [.int .u8] _ _]] => some (recvV a b (rcR a b c d e f k fr to nu ep))
  | _ => none

theorem recR_le (a b c d e f nu ep : Int) (p q h w : Bool) : leA (AV.tup
  [A1.agg
      [CV.int IntKind.i64
          (bif
              p then
            a
          else
            bif q then a
            else
              bif lt ep c then bif h then a else a
              else
                bif lt c ep then
                  bif h then bif lt nu d && false then a else bif le nu d || false then a else a
                  else bif w then bif nu != d then a else a else bif lt nu d then a else a
                else
                  bif h then bif lt nu d && e != 0 then a else bif le nu d && e == 0 then a else a
                  else bif w then bif nu != d then a else bif e == 0 then a else a else bif lt nu d then a else a),
        CV.int IntKind.i64
          (bif
              p then
            b
          else
            bif q then b
            else
              bif lt ep c then bif h then b else b
              else
                bif lt c ep then
                  bif h then bif lt nu d && false then b else bif le nu d || false then b else b
                  else bif w then bif nu != d then b else b else bif lt nu d then b else b
                else
                  bif h then bif lt nu d && e != 0 then b else bif le nu d && e == 0 then b else b
                  else bif w then bif nu != d then b else bif e == 0 then b else b else bif lt nu d then b else b),
        CV.int IntKind.i64
          (bif
              p then
            c
          else
            bif q then c
            else
              bif lt ep c then bif h then c else c
              else
                bif lt c ep then
                  bif h then bif lt nu d && false then ep else bif le nu d || false then ep else ep
                  else bif w then bif nu != d then ep else ep else bif lt nu d then ep else ep
                else
                  bif h then bif lt nu d && e != 0 then c else bif le nu d && e == 0 then c else c
                  else bif w then bif nu != d then c else bif e == 0 then c else c else bif lt nu d then c else c),
        CV.int IntKind.i64
          (bif
              p then
            d
          else
            bif q then d
            else
              bif lt ep c then bif h then d else d
              else
                bif lt c ep then
                  bif h then bif lt nu d && false then d else bif le nu d || false then d else nu
                  else bif w then bif nu != d then d else d else bif lt nu d then d else nu
                else
                  bif h then bif lt nu d && e != 0 then d else bif le nu d && e == 0 then d else nu
                  else
                    bif w then bif nu != d then d else bif e == 0 then d else d else bif lt nu d then d else nu),
        CV.int IntKind.i64
          (bif
              p then
            e
          else
            bif q then e
            else
              bif lt ep c then bif h then e else e
              else
                bif lt c ep then
                  bif h then bif lt nu d && false then 0 else bif le nu d || false then 0 else 2
                  else bif w then bif nu != d then 0 else 0 else bif lt nu d then 0 else 0
                else
                  bif h then bif lt nu d && e != 0 then e else bif le nu d && e == 0 then e else 2
                  else bif w then bif nu != d then e else bif e == 0 then e else 2 else bif lt nu d then e else 0),
        CV.int IntKind.i64
          (bif
              p then
            f
          else
            bif q then f
            else
              bif lt ep c then bif h then f else f
              else
                bif lt c ep then
                  bif h then bif lt nu d && false then 0 else bif le nu d || false then 0 else 0
                  else bif w then bif nu != d then 0 else 0 else bif lt nu d then 0 else 0
                else
                  bif h then bif lt nu d && e != 0 then f else bif le nu d && e == 0 then f else 0
                  else
                    bif w then bif nu != d then f else bif e == 0 then f else 0 else bif lt nu d then f else 0)],
    A1.c
      (CV.sl
        [Sh.int IntKind.i64, Sh.int IntKind.i64, Sh.int IntKind.i64, Sh.int IntKind.i64, Sh.int IntKind.i64,
          Sh.int IntKind.i64, Sh.sl [Sh.int IntKind.i64], Sh.sl [Sh.int IntKind.u8]]
        (bif
            p then
          0
        else
          bif q then 0
          else
            bif lt ep c then bif h then 1 else 0
            else
              bif lt c ep then
                bif h then bif lt nu d && false then 0 else bif le nu d || false then 1 else 1
                else bif w then bif nu != d then 0 else 1 else 0
              else
                bif h then bif lt nu d && e != 0 then 0 else bif le nu d && e == 0 then 1 else 1
                else bif w then bif nu != d then 0 else bif e == 0 then 1 else 0 else 0)
        (pickV (lt ep c) (msgV 7 a b c d)
          (pickV (lt c ep)
            (pickV (h) (pickV (le nu d || false) (msgV 7 a b ep d) (msgV 6 a b ep nu)) (msgV 7 a b ep d))
            (pickV (h) (pickV (le nu d && e == 0) (msgV 7 a b c d) (msgV 6 a b c nu)) (msgV 7 a b c d)))))]) (recvV a b (recv (p || q) h h w c d e f nu ep)) := by
  unfold recvV recv
  have hq : (nu != d) = !(nu == d) := rfl
  have hqe : (e != 0) = !(e == 0) := rfl
  rw [hq, hqe]
  have hlt : lt d nu = !le nu d := nle d nu
  have hlt2 : le d nu = !lt nu d := by rw [nle nu d]; simp
  have hle : le nu d = (lt nu d || (nu == d)) := by
    rw [Bool.eq_iff_iff]
    simp only [le_iff, Bool.or_eq_true, lt_iff, beq_iff_eq]
    omega
  have hex : lt nu d = true → (nu == d) = false := fun h => by
    have := (lt_iff nu d).1 h
    simp; omega
  rw [hlt, hlt2, hle]
  generalize lt nu d = x1 at *
  generalize (nu == d) = x2 at *
  generalize lt ep c = x3
  generalize lt c ep = x4
  generalize hx6 : (e == 0) = x6
  cases p
  case true => exact leA_nop
  cases q
  case true => exact leA_nop
  cases x3
  case true => cases h <;> first | exact leA.refl | exact leA_nop
  cases h
  case true =>
    cases x1 <;> cases x2 <;> first | (exfalso; simp at hex; done) | skip
    all_goals (cases x4 <;> cases x6 <;> simp only [cond_true, cond_false, hx6, Bool.or_true, Bool.or_false, Bool.and_true, Bool.and_false, Bool.not_true, Bool.not_false, beq_self_eq_true] <;> first | exact leA.refl | exact leA_nop)
  cases w
  case true => cases x2 <;> cases x4 <;> cases x6 <;> simp only [cond_true, cond_false, hx6, Bool.not_true, Bool.not_false, beq_self_eq_true] <;> first | exact leA.refl | exact leA_nop
  cases x1 <;> cases x4 <;> first | exact leA.refl | exact leA_nop

theorem q12 : HcOne Try.prog 12 GrecvR := hcOne_of_le h4 10 12 fun args r h => by
  unfold GrecvR at h; split at h
  · rename_i a b c d e f n k fr to nu va ep i σ j τ
    obtain rfl := Option.some.inj h
    refine ⟨by kernel_rfl, ?_⟩
    refine leA_of ?_ (recR_le a b c d e f nu ep (chk a b c d e f != 0 || fr != b || to != a || lt ep 0 || lt 1073741824 ep || lt nu 0 || lt 1073741824 nu) (k != 5 && k != 6 && k != 7) (k == 5) (k == 6))
    kernel_rfl
  · cases h

noncomputable abbrev H5 : Hd := ⟨H3.pc, [(11, oG GrecvP), (12, oG GrecvR), (20, oG Gdial), (21, oG Gdial), (22, oG Gexp), (23, oG Gexp), (24, oG Gclose), (25, oG Gclose), (36, oG G36)], []⟩
theorem h5 : HdOk Try.prog H5 := (((((((h4.hcCons q25).hcCons q24).hcCons q23).hcCons q22).hcCons q21).hcCons q20).hcCons q12).hcCons q11

end Go.Proofs.Ytgkgepgkeljclaa
