/-
  The law of names, more equations: reading a list by the reference, and the law itself.
-/
import Derived.Test.YtpjfaodemfjfjaaNam
set_option maxRecDepth 100000
namespace Go.Proofs.Ytpjfaodemfjfjaa
open Go Go.Sh Go.Proofs

theorem eq26_6 (K k : Nat) (b : List Int) (a n i : Int) (o : List Nam) : l26_6 K (k + 1) ((b, a, n, i, ()), o, ()) =
  bif decide (i < IntKind.i64.wrap n) then
    (F19 K (b, IntKind.i64.wrap (IntKind.i64.wrap (a + 1) + IntKind.i64.wrap (8 * i)), 8, ())).bind fun x =>
    (F30 K (x.1, ())).bind fun y =>
      bif true && true && decide ((o.length + [y.1].length) * Try.prog.bytesOf 53 ≤ 140737488355328) && decide (o.length + [y.1].length ≤ 9223372036854775807) then
        l26_6 K k ((b, a, n, IntKind.i64.wrap (i + 1), ()), o ++ [y.1], ()) else none
  else some ((a, n, ()), o, ()) := by kernel_rfl

/-- What the law asks of two lists of names, whichever they are. -/
noncomputable def namesL (K : Nat) (b : List Int) (l : List Nam) (a : Int) : Option (Bool × Unit) :=
  (F17 K (b, l, ())).bind fun x =>
  (F24 K (b, l, ())).bind fun y =>
  (F25 K (b, a, ())).bind fun c =>
  (F26 K (b, a, ())).bind fun d =>
  bif strEq (strOf x.1) (strOf y.1) then bif x.2.1 == y.2.1 then
    (F14 K (c.1, d.1, ())).bind fun e => bif e.1 then bif c.2.1 == d.2.1 then bif c.2.2.1 == d.2.2.1 then
    (F9 K ()).bind fun z => some (z.1, ())
  else some (false, ()) else some (false, ()) else some (false, ()) else some (false, ()) else some (false, ())

/-- The number of names that the law tries in every fourth case. -/
def great2 (lo : Int) : Int := IntKind.i64.wrap (254 + IntKind.i64.wrap ((IntKind.u64.wrap lo).tmod 3))

theorem eq7 (K : Nat) (b : List Int) (l : List Nam) (a lo : Int) : F7 K (b, l, a, lo, ()) =
  bif Int.tmod lo 4 == 3 then
    bif decide (0 ≤ great2 lo) && decide (great2 lo ≤ great2 lo) && decide (((Try.prog.bytesOf 53 : Nat) : Int) * great2 lo ≤ 281474976710656) && decide (great2 lo ≤ 9223372036854775807) then
      namesL K b (List.replicate (great2 lo).toNat (((0 : Int), 0, 0, 0, 0, 0, 0, 0) : Nam)) a
    else none
  else namesL K b l a := by kernel_rfl
end Go.Proofs.Ytpjfaodemfjfjaa
