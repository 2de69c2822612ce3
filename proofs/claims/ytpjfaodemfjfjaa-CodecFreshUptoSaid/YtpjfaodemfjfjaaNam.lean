/-
  The law of names: what the program's functions on lists of names compute, in plain Lean.
-/
import Derived.Test.YtpjfaodemfjfjaaStr2
set_option maxRecDepth 100000
namespace Go.Proofs.Ytpjfaodemfjfjaa
open Go Go.Sh Go.Proofs

/-- A name: eight bytes. -/
abbrev NT : Ty := .pr (.int .u8) (.pr (.int .u8) (.pr (.int .u8) (.pr (.int .u8) (.pr (.int .u8) (.pr (.int .u8) (.pr (.int .u8) (.int .u8)))))))
abbrev Nam : Type := Int × Int × Int × Int × Int × Int × Int × Int
def nb (x : Nam) : List Int := [x.1, x.2.1, x.2.2.1, x.2.2.2.1, x.2.2.2.2.1, x.2.2.2.2.2.1, x.2.2.2.2.2.2.1, x.2.2.2.2.2.2.2]
/-- Go's indexing. -/
def ix {α : Type} (l : List α) (i : Int) : Option α := bif decide (0 ≤ i) then l[i.toNat]? else none

theorem eq17_5 (K k : Nat) (l : List Nam) (n i : Int) (o : List Int) : l17_5 K (k + 1) ((l, n, i, ()), o, ()) =
  bif decide (i < n) then
    (ix l i).bind fun x =>
      bif true && decide ((o.length + (nb x).length) * 1 ≤ 140737488355328) && decide (o.length + (nb x).length ≤ 9223372036854775807) then
        l17_5 K k ((l, n, IntKind.i64.wrap (i + 1), ()), o ++ nb x, ()) else none
  else some ((), o, ()) := by kernel_rfl

theorem eq17 (K : Nat) (b : List Int) (l : List Nam) : F17 K (b, l, ()) =
  bif decide ((l.length : Int) > 255) then some ([], false, ()) else
    (F15 K (b, IntKind.u64.wrap (l.length : Int), 1, ())).bind fun x =>
      (l17_5 K K ((l, (l.length : Int), 0, ()), x.1, ())).bind fun y => some (y.2.1, true, ()) := by kernel_rfl

theorem eq24_5 (K k : Nat) (l : List Nam) (i : Int) (o : List Int) : l24_5 K (k + 1) ((l, i, ()), o, ()) =
  bif decide (i < (l.length : Int)) then
    (ix l i).bind fun x =>
      bif true && decide ((o.length + (nb x).length) * 1 ≤ 140737488355328) && decide (o.length + (nb x).length ≤ 9223372036854775807) then
        l24_5 K k ((l, IntKind.i64.wrap (i + 1), ()), o ++ nb x, ()) else none
  else some ((), o, ()) := by kernel_rfl

theorem eq24 (K : Nat) (b : List Int) (l : List Nam) : F24 K (b, l, ()) =
  bif decide ((l.length : Int) > 255) then some ([], false, ()) else
    (F20 K (b, IntKind.u64.wrap (l.length : Int), 1, ())).bind fun x =>
      (l24_5 K K ((l, 0, ()), x.1, ())).bind fun y => some (y.2.1, true, ()) := by kernel_rfl

theorem eq14_4 (K k : Nat) (a b : List Nam) (i : Int) : l14_4 K (k + 1) ((a, b, i, ()), ()) =
  bif decide (i < (a.length : Int)) then
    (ix a i).bind fun x => (ix b i).bind fun y =>
      bif !(eqTy NT x y) then some (.inr ((false, ()), ())) else l14_4 K k ((a, b, IntKind.i64.wrap (i + 1), ()), ())
  else some (.inl ((), ())) := by kernel_rfl

theorem eq14 (K : Nat) (a b : List Nam) : F14 K (a, b, ()) =
  bif (a.length : Int) != (b.length : Int) then some (false, ()) else
    (l14_4 K K ((a, b, 0, ()), ())).bind fun y => match y with
      | .inl _ => some (true, ())
      | .inr z => some (z.1.1, ()) := by kernel_rfl

/-- The first of a list, or another. -/
def hd0 (l : List Int) (x : Int) : Int := l.head?.getD x
/-- The bytes from a on. -/
def from_ (b : List Int) (a : Int) : List Int := sub b a (b.length : Int)
/-- A name with bytes laid over it. -/
def over8 (x : Nam) (m : List Int) : Nam :=
  (hd0 m x.1, hd0 m.tail x.2.1, hd0 m.tail.tail x.2.2.1, hd0 m.tail.tail.tail x.2.2.2.1, hd0 m.tail.tail.tail.tail x.2.2.2.2.1, hd0 m.tail.tail.tail.tail.tail x.2.2.2.2.2.1,
    hd0 m.tail.tail.tail.tail.tail.tail x.2.2.2.2.2.2.1, hd0 m.tail.tail.tail.tail.tail.tail.tail x.2.2.2.2.2.2.2)

theorem eq25_7 (K k : Nat) (b : List Int) (a n i : Int) (l : List Nam) : l25_7 K (k + 1) ((b, a, n, i, ()), l, ()) =
  bif decide (i < n) then
    bif decide (0 ≤ i) && decide (i < (l.length : Int)) then
      bif decide (0 ≤ a) && decide (a ≤ (b.length : Int)) && decide ((b.length : Int) ≤ (b.length : Int)) then
        (l[i.toNat]? : Option Nam).bind fun x => (l[i.toNat]? : Option Nam).bind fun _ =>
          l25_7 K k ((b, IntKind.i64.wrap (a + 8), n, IntKind.i64.wrap (i + 1), ()), l.set i.toNat (over8 x (from_ b a)), ())
      else none
    else none
  else some ((a, ()), l, ()) := by kernel_rfl

theorem eq25 (K : Nat) (b : List Int) (a : Int) : F25 K (b, a, ()) =
  (F18 K (b, a, 1, ())).bind fun x =>
    bif !x.2.1 then some ([], 0, false, ()) else
    (F29 K (b, IntKind.i64.wrap (a + 1), IntKind.i64.wrap (8 * IntKind.i64.wrap x.1), ())).bind fun f =>
      bif !f.1 then some ([], 0, false, ()) else
      bif decide (0 ≤ x.1) && decide (x.1 ≤ x.1) && decide (((Try.prog.bytesOf 53 : Nat) : Int) * x.1 ≤ 281474976710656) && decide (x.1 ≤ 9223372036854775807) then
        (l25_7 K K ((b, IntKind.i64.wrap (a + 1), ((List.replicate x.1.toNat (((0 : Int), 0, 0, 0, 0, 0, 0, 0) : Nam)).length : Int), 0, ()), List.replicate x.1.toNat (((0 : Int), 0, 0, 0, 0, 0, 0, 0) : Nam), ())).bind fun y =>
          some (y.2.1, y.1.1, true, ())
      else none := by kernel_rfl

theorem eq30 (K : Nat) (v : Int) : F30 K (v, ()) = some ((low v 56, low v 48, low v 40, low v 32, low v 24, low v 16, low v 8, IntKind.u8.wrap v), ()) := by kernel_rfl

theorem eq26 (K : Nat) (b : List Int) (a : Int) : F26 K (b, a, ()) =
  (F19 K (b, a, 1, ())).bind fun x =>
    bif !x.2.1 then some ([], 0, false, ()) else
    bif decide (IntKind.i64.wrap (8 * IntKind.i64.wrap x.1) > IntKind.i64.wrap (IntKind.i64.wrap ((b.length : Int) - a) - 1)) then some ([], 0, false, ()) else
      (l26_6 K K ((b, a, x.1, 0, ()), [], ())).bind fun y =>
        some (y.2.1, IntKind.i64.wrap (IntKind.i64.wrap (y.1.1 + 1) + IntKind.i64.wrap (8 * IntKind.i64.wrap y.1.2.1)), true, ()) := by kernel_rfl

end Go.Proofs.Ytpjfaodemfjfjaa
