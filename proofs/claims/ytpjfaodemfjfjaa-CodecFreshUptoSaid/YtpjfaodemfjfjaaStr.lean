/-
  The law of byte strings: what the program's functions on byte strings compute, in plain Lean.
-/
import Derived.Test.YtpjfaodemfjfjaaNum2
set_option maxRecDepth 100000
namespace Go.Proofs.Ytpjfaodemfjfjaa
open Go Go.Sh Go.Proofs

theorem eq16 (K : Nat) (b p : List Int) : F16 K (b, p, ()) =
  bif decide ((p.length : Int) > 65535) then some ([], false, ()) else
    (F15 K (b, IntKind.u64.wrap (p.length : Int), 2, ())).bind fun x =>
      bif true && decide ((x.1.length + List.length p) * 1 ≤ 140737488355328) && decide (x.1.length + List.length p ≤ 9223372036854775807) then
        some (x.1 ++ p, true, ()) else none := by kernel_rfl

theorem eq21 (K : Nat) (b p : List Int) : F21 K (b, p, ()) =
  bif decide ((p.length : Int) > 65535) then some ([], false, ()) else
    (F20 K (b, IntKind.u64.wrap (p.length : Int), 2, ())).bind fun x =>
      bif true && decide ((x.1.length + List.length p) * 1 ≤ 140737488355328) && decide (x.1.length + List.length p ≤ 9223372036854775807) then
        some (x.1 ++ p, true, ()) else none := by kernel_rfl

/-- The bytes from i up to j. -/
def sub (b : List Int) (i j : Int) : List Int := List.take (j.toNat - i.toNat) (List.drop i.toNat b)

theorem eq22 (K : Nat) (b : List Int) (a : Int) : F22 K (b, a, ()) =
  (F18 K (b, a, 2, ())).bind fun x =>
    bif !x.2.1 then some ([], 0, false, ()) else
      (F29 K (b, IntKind.i64.wrap (a + 2), IntKind.i64.wrap x.1, ())).bind fun f =>
        bif !f.1 then some ([], 0, false, ()) else
        bif decide (0 ≤ IntKind.i64.wrap (a + 2)) && decide (IntKind.i64.wrap (a + 2) ≤ IntKind.i64.wrap (IntKind.i64.wrap (a + 2) + IntKind.i64.wrap x.1)) &&
            decide (IntKind.i64.wrap (IntKind.i64.wrap (a + 2) + IntKind.i64.wrap x.1) ≤ (b.length : Int)) then
          bif true && decide ((0 + (sub b (IntKind.i64.wrap (a + 2)) (IntKind.i64.wrap (IntKind.i64.wrap (a + 2) + IntKind.i64.wrap x.1))).length) * 1 ≤ 140737488355328) &&
              decide (0 + (sub b (IntKind.i64.wrap (a + 2)) (IntKind.i64.wrap (IntKind.i64.wrap (a + 2) + IntKind.i64.wrap x.1))).length ≤ 9223372036854775807) then
            some (sub b (IntKind.i64.wrap (a + 2)) (IntKind.i64.wrap (IntKind.i64.wrap (a + 2) + IntKind.i64.wrap x.1)), IntKind.i64.wrap (IntKind.i64.wrap (a + 2) + IntKind.i64.wrap x.1), true, ())
          else none
        else none := by kernel_rfl

theorem eq23 (K : Nat) (b : List Int) (a : Int) : F23 K (b, a, ()) =
  (F19 K (b, a, 2, ())).bind fun x =>
    bif !x.2.1 then some ([], 0, false, ()) else
    bif decide (IntKind.i64.wrap x.1 > IntKind.i64.wrap (IntKind.i64.wrap ((b.length : Int) - a) - 2)) then some ([], 0, false, ()) else
        bif decide (0 ≤ IntKind.i64.wrap (a + 2)) && decide (IntKind.i64.wrap (a + 2) ≤ IntKind.i64.wrap (IntKind.i64.wrap (a + 2) + IntKind.i64.wrap x.1)) &&
            decide (IntKind.i64.wrap (IntKind.i64.wrap (a + 2) + IntKind.i64.wrap x.1) ≤ (b.length : Int)) then
          bif true && decide ((0 + (sub b (IntKind.i64.wrap (a + 2)) (IntKind.i64.wrap (IntKind.i64.wrap (a + 2) + IntKind.i64.wrap x.1))).length) * 1 ≤ 140737488355328) &&
              decide (0 + (sub b (IntKind.i64.wrap (a + 2)) (IntKind.i64.wrap (IntKind.i64.wrap (a + 2) + IntKind.i64.wrap x.1))).length ≤ 9223372036854775807) then
            some ([] ++ sub b (IntKind.i64.wrap (a + 2)) (IntKind.i64.wrap (IntKind.i64.wrap (a + 2) + IntKind.i64.wrap x.1)), IntKind.i64.wrap (IntKind.i64.wrap (a + 2) + IntKind.i64.wrap x.1), true, ())
          else none
        else none := by kernel_rfl

/-- What the law asks of two byte strings, whichever they are. -/
noncomputable def strings (K : Nat) (b p : List Int) (a : Int) : Option (Bool × Unit) :=
  (F16 K (b, p, ())).bind fun x =>
  (F21 K (b, p, ())).bind fun y =>
  (F22 K (b, a, ())).bind fun c =>
  (F23 K (b, a, ())).bind fun d =>
  bif strEq (strOf x.1) (strOf y.1) then bif x.2.1 == y.2.1 then bif strEq (strOf c.1) (strOf d.1) then bif c.2.1 == d.2.1 then bif c.2.2.1 == d.2.2.1 then
    (F9 K ()).bind fun z => some (z.1, ())
  else some (false, ()) else some (false, ()) else some (false, ()) else some (false, ()) else some (false, ())

/-- The length that the law tries in every fourth case. -/
def great (lo : Int) : Int := IntKind.i64.wrap (65534 + IntKind.i64.wrap ((IntKind.u64.wrap lo).tmod 3))

theorem eq6 (K : Nat) (b p : List Int) (a lo : Int) : F6 K (b, p, a, lo, ()) =
  bif Int.tmod lo 4 == 3 then
    bif decide (0 ≤ great lo) && decide (great lo ≤ great lo) && decide (((Try.prog.bytesOf 5 : Nat) : Int) * great lo ≤ 281474976710656) && decide (great lo ≤ 9223372036854775807) then
      strings K b (List.replicate (great lo).toNat 0) a
    else none
  else strings K b p a := by kernel_rfl
end Go.Proofs.Ytpjfaodemfjfjaa
