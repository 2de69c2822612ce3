/-
  The functions of CodecBack as equations.
-/
import Derived.Test.YtpjfaodemfjfjaaNam4
set_option maxRecDepth 100000
set_option linter.unusedVariables false
namespace Go.Proofs.Ytpjfaodemfjfjaa
open Go Go.Sh Go.Proofs

abbrev Val := Int × Int × Int × List Int × List Nam
def kindV (v : Val) : Int := IntKind.i64.wrap ((IntKind.u64.wrap v.1).tmod 3)
def widthV (v : Val) : Int := IntKind.i64.wrap (1 + IntKind.i64.wrap ((IntKind.u64.wrap v.2.1).tmod 8))

theorem eq27 (K : Nat) (v : Val) : F27 K (v, ()) = some (widthV v, ()) := by kernel_rfl
theorem eq11 (K : Nat) (v : Val) : F11 K (v, ()) = some (kindV v, ()) := by kernel_rfl
theorem eq12 (K : Nat) (v : Val) : F12 K (v, ()) =
    bif widthV v == 8 then some (v.2.2.1, ()) else
      bif decide (IntKind.u64.wrap (IntKind.i64.wrap (8 * widthV v)) < 0) then none else
        some (IntKind.u64.wrap ↑(BitVec.ofInt 64 v.2.2.1 &&& BitVec.ofInt 64 (IntKind.u64.wrap (shl .u64 1 (IntKind.u64.wrap (IntKind.i64.wrap (8 * widthV v))) - 1))).toNat, ()) := by kernel_rfl

theorem eq10_3 (K k : Nat) (b : List Int) (l : List Val) (ok : Bool) (i : Int) : l10_3 K (k + 1) ((b, l, ok, i, ()), ()) =
    bif decide (i < l.length) then
      bif ok then
        (ix l i).bind fun v => bif kindV v == 0 then
          (ix l i).bind fun v1 => (ix l i).bind fun v2 => (F15 K (b, v1.2.2.1, widthV v2, ())).bind fun r => l10_3 K k ((r.1, l, ok, IntKind.i64.wrap (i + 1), ()), ())
        else bif kindV v == 1 then
          (ix l i).bind fun v1 => (F16 K (b, v1.2.2.2.1, ())).bind fun r => l10_3 K k ((r.1, l, r.2.1, IntKind.i64.wrap (i + 1), ()), ())
        else
          (ix l i).bind fun v1 => (F17 K (b, v1.2.2.2.2, ())).bind fun r => l10_3 K k ((r.1, l, r.2.1, IntKind.i64.wrap (i + 1), ()), ())
      else some ((b, ok, ()), ())
    else some ((b, ok, ()), ()) := by kernel_rfl

theorem eq10 (K : Nat) (b : List Int) (l : List Val) : F10 K (b, l, ()) = (l10_3 K K ((b, l, true, 0, ()), ())).bind fun r => some (r.1.1, r.1.2.1, ()) := by kernel_rfl

theorem eq8_6 (K k : Nat) (l : List Val) (i : Int) : l8_6 K (k + 1) ((l, i, ()), ()) =
    bif decide (i < l.length) then
      (ix l i).bind fun v => bif decide (↑(List.length v.2.2.2.1) > (65535 : Int)) then (F9 K ()).bind fun r => some (Sum.inr ((r.1, ()), ())) else
        (ix l i).bind fun v1 => bif decide (↑(List.length v1.2.2.2.2) > (255 : Int)) then (F9 K ()).bind fun r => some (Sum.inr ((r.1, ()), ())) else
          l8_6 K k ((l, IntKind.i64.wrap (i + 1), ()), ())
    else some (Sum.inl ((), ())) := by kernel_rfl

theorem eq8_13 (K k : Nat) (b : List Int) (l : List Val) (a i : Int) : l8_13 K (k + 1) ((l, b, a, i, ()), ()) =
    bif decide (i < l.length) then
      (ix l i).bind fun v => bif kindV v == 0 then
        (ix l i).bind fun v1 => (F18 K (b, a, widthV v1, ())).bind fun r => bif !r.2.1 then some (Sum.inr ((false, ()), ())) else
          (ix l i).bind fun v3 => (F12 K (v3, ())).bind fun n => bif r.1 != n.1 then some (Sum.inr ((false, ()), ())) else
            (ix l i).bind fun v5 => l8_13 K k ((l, b, IntKind.i64.wrap (a + widthV v5), IntKind.i64.wrap (i + 1), ()), ())
      else bif kindV v == 1 then
        (F22 K (b, a, ())).bind fun r => bif !r.2.2.1 then some (Sum.inr ((false, ()), ())) else
          (ix l i).bind fun v3 => bif !strEq (strOf r.1) (strOf v3.2.2.2.1) then some (Sum.inr ((false, ()), ())) else
            l8_13 K k ((l, b, r.2.1, IntKind.i64.wrap (i + 1), ()), ())
      else
        (F25 K (b, a, ())).bind fun r => bif !r.2.2.1 then some (Sum.inr ((false, ()), ())) else
          (ix l i).bind fun v3 => (F14 K (r.1, v3.2.2.2.2, ())).bind fun s => bif !s.1 then some (Sum.inr ((false, ()), ())) else
            l8_13 K k ((l, b, r.2.1, IntKind.i64.wrap (i + 1), ()), ())
    else some (Sum.inl ((b, a, ()), ())) := by kernel_rfl

theorem eq8 (K : Nat) (b : List Int) (l : List Val) : F8 K (b, l, ()) =
    bif decide (↑l.length > (60 : Int)) then (F9 K ()).bind fun r => some (r.1, ()) else
      (F10 K (b, l, ())).bind fun r => bif !r.2.1 then
        (l8_6 K K ((l, 0, ()), ())).bind fun s => match s with | .inl _ => some (false, ()) | .inr r => some (r.1.1, ())
      else (l8_13 K K ((l, r.1, ↑b.length, 0, ()), ())).bind fun s => match s with
        | .inl s => bif s.1.2.1 == ↑(List.length s.1.1) then (F9 K ()).bind fun r => some (r.1, ()) else some (false, ())
        | .inr r => some (r.1.1, ()) := by kernel_rfl

end Go.Proofs.Ytpjfaodemfjfjaa
