/-
  CodecApart: its equation.
-/
import Derived.Test.YtpjfaodemfjfjaaBak2
set_option maxRecDepth 100000
set_option linter.unusedVariables false
namespace Go.Proofs.Ytpjfaodemfjfjaa
open Go Go.Sh Go.Proofs

/-- The position that is changed. -/
def pos (l : List Val) (a : Int) : Int := IntKind.i64.wrap ((IntKind.u64.wrap a).tmod (IntKind.u64.wrap ↑l.length))

/-- Behind the two runs of 'write'. -/
noncomputable def apart2 (K : Nat) (l : List Val) (p : Int) (u : Val) (r s : List Int × Bool) : Option (Bool × Unit) :=
  bif !r.2 then (F9 K ()).bind fun r => some (r.1, ()) else bif !s.2 then (F9 K ()).bind fun r => some (r.1, ()) else
    bif kindV u == 0 then
      (F12 K (u, ())).bind fun x => (ix l p).bind fun v => (F12 K (v, ())).bind fun y =>
        bif strEq (strOf r.1) (strOf s.1) == (x.1 == y.1) then (F9 K ()).bind fun r => some (r.1, ()) else some (false, ())
    else bif kindV u == 1 then
      (ix l p).bind fun v => bif strEq (strOf r.1) (strOf s.1) == strEq (strOf u.2.2.2.1) (strOf v.2.2.2.1) then (F9 K ()).bind fun r => some (r.1, ()) else some (false, ())
    else
      (ix l p).bind fun v => (F14 K (u.2.2.2.2, v.2.2.2.2, ())).bind fun z =>
        bif strEq (strOf r.1) (strOf s.1) == z.1 then (F9 K ()).bind fun r => some (r.1, ()) else some (false, ())

theorem eq3 (K : Nat) (l : List Val) (a : Int) (o : Val) : F3 K (l, a, o, ()) =
    bif (l.length : Int) == 0 then (F9 K ()).bind fun r => some (r.1, ()) else
    bif decide ((l.length : Int) > 60) then (F9 K ()).bind fun r => some (r.1, ()) else
    bif IntKind.u64.wrap ↑l.length == 0 then none else
    bif true && decide ((0 + l.length) * Try.prog.bytesOf 27 ≤ 140737488355328) && decide (0 + l.length ≤ 9223372036854775807) then
      bif decide (0 ≤ pos l a) && decide (pos l a < ↑(([] : List Val) ++ l).length) then ((([] : List Val) ++ l)[(pos l a).toNat]?).bind fun v0 =>
      bif decide (0 ≤ pos l a) && decide (pos l a < ↑(([] : List Val) ++ l).length) then ((([] : List Val) ++ l)[(pos l a).toNat]?).bind fun v1 =>
      bif decide (0 ≤ pos l a) && decide (pos l a < ↑(([] : List Val) ++ l).length) then ((([] : List Val) ++ l)[(pos l a).toNat]?).bind fun _ =>
        (F10 K ([], l, ())).bind fun r => (F10 K ([], (([] : List Val) ++ l).set (pos l a).toNat (v0.1, v1.2.1, o.2.2), ())).bind fun s =>
          apart2 K l (pos l a) (v0.1, v1.2.1, o.2.2) (r.1, r.2.1) (s.1, s.2.1)
      else none else none else none
    else none := by kernel_rfl

end Go.Proofs.Ytpjfaodemfjfjaa
