/-
  The law of numbers: what the program's functions on numbers compute, in plain Lean.
-/
import Derived.Test.YtpjfaodemfjfjaaCod
set_option maxRecDepth 100000
namespace Go.Proofs.Ytpjfaodemfjfjaa
open Go Go.Sh Go.Proofs

theorem wrap64 {x : Int} (h : -9223372036854775808 ≤ x) (h' : x ≤ 9223372036854775807) : IntKind.i64.wrap x = x := by
  simp only [IntKind.wrap, IntKind.bits, IntKind.signed]
  simp
  omega

theorem eq29 (K : Nat) (l : List Int) (a n : Int) : F29 K (l, a, n, ()) = bif decide (a ≥ 0) then
  bif decide (a ≤ (l.length : Int)) then some (decide (n ≤ IntKind.i64.wrap ((l.length : Int) - a)), ()) else some (false, ())
  else some (false, ()) := by kernel_rfl

theorem eq28 (K : Nat) (l : List Int) (n : Int) : F28 K (l, n, ()) =
  bif decide ((0 : Int) ≤ (l.length : Int)) && decide ((l.length : Int) ≤ IntKind.i64.wrap ((l.length : Int) + n)) &&
        decide (((Try.prog.bytesOf 5 : Nat) : Int) * IntKind.i64.wrap ((l.length : Int) + n) ≤ 281474976710656) &&
      decide (IntKind.i64.wrap ((l.length : Int) + n) ≤ 9223372036854775807) then
  some
    (List.take (List.replicate ((l.length : Int)).toNat (0 : Int)).length l ++
        List.drop (List.length l) (List.replicate ((l.length : Int)).toNat (0 : Int)), ())
  else none := by kernel_rfl

/-- The byte that is appended in a round. -/
def low (v i : Int) : Int := IntKind.u8.wrap (shr .u64 v i)

theorem eq15_4 (K k : Nat) (v i : Int) (o : List Int) : l15_4 K (k + 1) ((v, i, ()), o, ()) =
  bif decide (i ≥ 0) then
  bif decide (IntKind.i64.wrap (8 * i) < 0) then none
  else
    bif true && decide ((o.length + [low v (IntKind.i64.wrap (8 * i))].length) * 1 ≤ 140737488355328) &&
          decide (o.length + [low v (IntKind.i64.wrap (8 * i))].length ≤ 9223372036854775807) then
      l15_4 K k ((v, IntKind.i64.wrap (i - 1), ()), o ++ [low v (IntKind.i64.wrap (8 * i))], ())
    else none
  else some ((), o, ()) := by kernel_rfl

theorem eq15 (K : Nat) (l : List Int) (v n : Int) : F15 K (l, v, n, ()) =
  (F28 K (l, minI (maxI n 0) 8, ())).bind fun x =>
    (l15_4 K K ((v, IntKind.i64.wrap (minI (maxI n 0) 8 - 1), ()), x.1, ())).bind fun y => some (y.2.1, ()) := by kernel_rfl

theorem eq20_3 (K k : Nat) (v i : Int) (o : List Int) : l20_3 K (k + 1) ((v, i, ()), o, ()) =
  bif decide (i ≥ 0) then
  bif decide (IntKind.u64.wrap (IntKind.i64.wrap (8 * i)) < 0) then none
  else
    bif true && decide ((o.length + [low v (IntKind.u64.wrap (IntKind.i64.wrap (8 * i)))].length) * 1 ≤ 140737488355328) &&
          decide (o.length + [low v (IntKind.u64.wrap (IntKind.i64.wrap (8 * i)))].length ≤ 9223372036854775807) then
      l20_3 K k ((v, IntKind.i64.wrap (i - 1), ()), o ++ [low v (IntKind.u64.wrap (IntKind.i64.wrap (8 * i)))], ())
    else none
  else some ((), o, ()) := by kernel_rfl

theorem eq20 (K : Nat) (l : List Int) (v n : Int) : F20 K (l, v, n, ()) =
  bif true && decide ((0 + List.length l) * 1 ≤ 140737488355328) && decide (0 + List.length l ≤ 9223372036854775807) then
    (l20_3 K K ((v, IntKind.i64.wrap (maxI 0 (minI n 8) - 1), ()), [] ++ l, ())).bind fun y => some (y.2.1, ())
  else none := by kernel_rfl

/-- A number with one byte more behind it. -/
def step (v c : Int) : Int := IntKind.u64.wrap ↑(BitVec.ofInt 64 (shl .u64 v 8) ||| BitVec.ofInt 64 (IntKind.u64.wrap c)).toNat

theorem eq18_5 (K k : Nat) (v n i : Int) (l : List Int) : l18_5 K (k + 1) ((v, l, n, i, ()), ()) =
  bif decide (i < n) then
    (bif decide (0 ≤ i) then l[i.toNat]? else none : Option Int).bind fun c => l18_5 K k ((step v c, l, n, IntKind.i64.wrap (i + 1), ()), ())
  else some ((v, ()), ()) := by kernel_rfl

theorem eq18 (K : Nat) (b : List Int) (a w : Int) : F18 K (b, a, w, ()) =
  bif decide (w < 1) then some (0, false, ())
  else
  bif decide (w > 8) then some (0, false, ())
  else
    (F29 K (b, a, w, ())).bind fun f =>
        bif !f.1 then some (0, false, ())
        else
          bif decide (0 ≤ a) && decide (a ≤ IntKind.i64.wrap (a + w)) && decide (IntKind.i64.wrap (a + w) ≤ (b.length : Int)) then
            (l18_5 K K ((0, List.take ((IntKind.i64.wrap (a + w)).toNat - Int.toNat a) (List.drop (Int.toNat a) b),
                    ((List.take ((IntKind.i64.wrap (a + w)).toNat - Int.toNat a) (List.drop (Int.toNat a) b)).length : Int), 0, ()), ())).bind fun y => some (y.1.1, true, ())
          else none := by kernel_rfl

theorem eq19_5 (K k : Nat) (b : List Int) (a w v i : Int) : l19_5 K (k + 1) ((b, a, w, v, i, ()), ()) =
  bif decide (i < w) then
    (bif decide (0 ≤ IntKind.i64.wrap (a + i)) then b[(IntKind.i64.wrap (a + i)).toNat]? else none : Option Int).bind fun c =>
      l19_5 K k ((b, a, w, step v c, IntKind.i64.wrap (i + 1), ()), ())
  else some ((v, ()), ()) := by kernel_rfl

theorem eq19 (K : Nat) (b : List Int) (a w : Int) : F19 K (b, a, w, ()) =
  bif decide (w < 1) then some (0, false, ())
  else bif decide (w > 8) then some (0, false, ())
  else bif decide (a < 0) then some (0, false, ())
  else bif decide (a > IntKind.i64.wrap ((b.length : Int) - w)) then some (0, false, ())
  else (l19_5 K K ((b, a, w, 0, 0, ()), ())).bind fun y => some (y.1.1, true, ()) := by kernel_rfl

theorem eq13 (K : Nat) (a b : List Int) : F13 K (a, b, ()) = some (strEq (strOf a) (strOf b), ()) := by kernel_rfl

theorem eq5 (K : Nat) (b : List Int) (v w a s : Int) : F5 K (b, v, w, a, s, ()) =
  (F18 K (b, a, s, ())).bind fun x =>
  (F19 K (b, a, s, ())).bind fun y =>
  (F15 K (b, v, w, ())).bind fun p =>
  (F20 K (b, v, w, ())).bind fun q =>
  (F13 K (p.1, q.1, ())).bind fun e =>
  bif e.1 then bif x.1 == y.1 then bif x.2.1 == y.2.1 then (F9 K ()).bind fun z => some (z.1, ())
  else some (false, ()) else some (false, ()) else some (false, ()) := by kernel_rfl

end Go.Proofs.Ytpjfaodemfjfjaa
