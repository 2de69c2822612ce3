/-
  CodecFresh: its equations.
-/
import Derived.Test.YtpjfaodemfjfjaaFre
import Derived.Test.YtpjfaodemfjfjaaApa2
set_option maxRecDepth 100000
set_option linter.unusedVariables false
namespace Go.Proofs.Ytpjfaodemfjfjaa
open Go Go.Sh Go.Proofs

def flip8 (d : Int) : Int := IntKind.u8.wrap ↑(BitVec.ofInt 8 d ^^^ BitVec.ofInt 8 255).toNat

theorem in4a (K k : Nat) (t : ByteArray) (i n : Int) (p a b c : List Int) : l4_13a K (k + 1) ((t, i, (), n, ()), (p, a, b, c, ())) =
    bif decide (i < (a.length : Int)) then (bif decide (0 ≤ i) && decide (i < (a.length : Int)) then (a[i.toNat]?).bind fun d => (bif decide (0 ≤ i) && decide (i < (a.length : Int)) then (a[i.toNat]?).bind fun _ =>
      l4_13a K k ((t, IntKind.i64.wrap (i + 1), (), n, ()), (p, a.set i.toNat (flip8 d), b, c, ())) else none) else none) else some ((t, (), n, ()), (p, a, b, c, ())) := by kernel_rfl
theorem in4b (K k : Nat) (t : ByteArray) (i n : Int) (p a b c : List Int) : l4_13b K (k + 1) ((t, i, (), n, ()), (p, a, b, c, ())) =
    bif decide (i < (b.length : Int)) then (bif decide (0 ≤ i) && decide (i < (b.length : Int)) then (b[i.toNat]?).bind fun d => (bif decide (0 ≤ i) && decide (i < (b.length : Int)) then (b[i.toNat]?).bind fun _ =>
      l4_13b K k ((t, IntKind.i64.wrap (i + 1), (), n, ()), (p, a, b.set i.toNat (flip8 d), c, ())) else none) else none) else some ((t, (), n, ()), (p, a, b, c, ())) := by kernel_rfl
theorem in4c (K k : Nat) (t : ByteArray) (i n : Int) (p a b c : List Int) : l4_13c K (k + 1) ((t, i, (), n, ()), (p, a, b, c, ())) =
    bif decide (i < (c.length : Int)) then (bif decide (0 ≤ i) && decide (i < (c.length : Int)) then (c[i.toNat]?).bind fun d => (bif decide (0 ≤ i) && decide (i < (c.length : Int)) then (c[i.toNat]?).bind fun _ =>
      l4_13c K k ((t, IntKind.i64.wrap (i + 1), (), n, ()), (p, a, b, c.set i.toNat (flip8 d), ())) else none) else none) else some ((t, (), n, ()), (p, a, b, c, ())) := by kernel_rfl

theorem out4 (K k : Nat) (t : ByteArray) (n : Int) (p a b c : List Int) : l4_10 K (k + 1) ((t, (), n, ()), (p, a, b, c, ())) =
    bif decide (n < 3) then (bif decide (0 ≤ n) && decide (n < 3) then
      (bif decide (n = 0) then (l4_13a K K ((t, 0, (), n, ()), (p, a, b, c, ()))).bind fun r => l4_10 K k ((r.1.1, (), IntKind.i64.wrap (r.1.2.2.1 + 1), ()), r.2)
       else bif decide (n = 1) then (l4_13b K K ((t, 0, (), n, ()), (p, a, b, c, ()))).bind fun r => l4_10 K k ((r.1.1, (), IntKind.i64.wrap (r.1.2.2.1 + 1), ()), r.2)
       else bif decide (n = 2) then (l4_13c K K ((t, 0, (), n, ()), (p, a, b, c, ()))).bind fun r => l4_10 K k ((r.1.1, (), IntKind.i64.wrap (r.1.2.2.1 + 1), ()), r.2)
       else none) else none) else some ((t, ()), (p, ())) := by kernel_rfl

def cap4 (a b : List Int) : Int := IntKind.i64.wrap (IntKind.i64.wrap ((a.length : Int) + b.length) + 40)
def buf4 (a b : List Int) : List Int := List.replicate 0 (0 : Int) ++ a ++ b
def view4 (a b : List Int) : List Int := ((buf4 a b).drop 0).take ((a.length : Int).toNat - 0)

theorem eq4 (K : Nat) (a b c : List Int) (v n : Int) (m : List Nam) : F4 K (a, b, c, v, n, m, ()) =
    bif true && decide (0 ≤ cap4 a b) && decide (((Try.prog.bytesOf 5 : Nat) : Int) * cap4 a b ≤ 281474976710656) && decide (cap4 a b ≤ 9223372036854775807) then
    (bif true && decide ((0 + a.length) * 1 ≤ 140737488355328) && decide (0 + a.length ≤ 9223372036854775807) then
    (bif true && decide (((List.replicate 0 (0 : Int) ++ a).length + b.length) * 1 ≤ 140737488355328) && decide ((List.replicate 0 (0 : Int) ++ a).length + b.length ≤ 9223372036854775807) then
    (bif true && decide (0 ≤ (a.length : Int)) && decide ((a.length : Int) ≤ ((buf4 a b).length : Int)) then
      (F15 K (view4 a b, v, n, ())).bind fun x => (F16 K (view4 a b, c, ())).bind fun y => (F17 K (view4 a b, m, ())).bind fun z =>
        bif decide ((x.1.length : Int) < (a.length : Int)) then some (false, ()) else bif !strEq (strOf (buf4 a b)) (strOf (buf4 a b)) then some (false, ()) else
        (l4_10 K K ((strOf (buf4 a b), (), 0, ()), (buf4 a b, x.1, y.1, z.1, ()))).bind fun r =>
          bif strEq (strOf r.2.1) r.1.1 then (F9 K ()).bind fun r => some (r.1, ()) else some (false, ())
    else none) else none) else none) else none := by kernel_rfl

end Go.Proofs.Ytpjfaodemfjfjaa
