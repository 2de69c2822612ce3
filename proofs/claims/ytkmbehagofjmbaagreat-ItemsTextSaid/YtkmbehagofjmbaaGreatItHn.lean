/-
  The hash, in plain words: the program's and the document's.
-/
import Derived.Test.YtkmbehagofjmbaaGreatItH
set_option maxRecDepth 100000
set_option linter.unusedVariables false
namespace Go.Proofs.YtkmbehagofjmbaaGreat
open Go Go.Sh Go.Proofs

/- numbers of 64 bits -/
def w64 (x : Int) : Int := IntKind.u64.wrap x
def or64 (a b : Int) : Int := w64 ↑(BitVec.ofInt 64 a ||| BitVec.ofInt 64 b).toNat
def xor64 (a b : Int) : Int := w64 ↑(BitVec.ofInt 64 a ^^^ BitVec.ofInt 64 b).toNat
def rot64 (v k : Int) : Int := or64 (shl .u64 v k) (shr .u64 v (w64 (64 - k)))

/-- One step of the mixing. -/
def mixS (x y : Int) : Int × Int := (w64 (rot64 (w64 (x + y)) 32 * 11400714819323198485), xor64 (rot64 y 13) (w64 (x + y)))

theorem eq84 (K : Nat) (x y : Int) : F84 K (x, y, ()) = some ((mixS x y).1, (mixS x y).2, ()) := by kernel_rfl

def G84 (x : Int × Int × Unit) : Option (Int × Int × Unit) := some ((mixS x.1 x.2.1).1, (mixS x.1 x.2.1).2, ())
theorem con84 : Con Tryz.prog 84 A84 I84 R84 O84 G84 := Con.nice raw84 fun x y h => ⟨0, by obtain ⟨a, b, u⟩ := x; exact (eq84 0 a b).trans h⟩

def mixN : Nat → Int × Int → Int × Int
  | 0, p => p
  | n + 1, p => mixN n (mixS p.1 p.2)

theorem eq107_step (K k : Nat) (m i x y : Int) : l107_1 K (k + 1) ((m, i, ()), ((x, y), ())) = bif decide (i < m) then l107_1 K k ((m, IntKind.i64.wrap (i + 1), ()), (((mixS x y).1, (mixS x y).2), ())) else some ((), (x, y), ()) := by kernel_rfl
theorem eq107 (K : Nat) (n x y : Int) : F107 K ((n, ()), ((x, y), ())) = match l107_1 K K ((n, 0, ()), ((x, y), ())) with | some v => some ((), ((v.2.1.1, v.2.1.2), ())) | none => none := by kernel_rfl

theorem eq107_2 (k : Nat) (x y : Int) : F107 (k + 3) ((2, ()), ((x, y), ())) = some ((), (((mixN 2 (x, y)).1, (mixN 2 (x, y)).2), ())) := by kernel_rfl
theorem eq107_4 (k : Nat) (x y : Int) : F107 (k + 5) ((4, ()), ((x, y), ())) = some ((), (((mixN 4 (x, y)).1, (mixN 4 (x, y)).2), ())) := by kernel_rfl

def G107 (x : (Int × Unit) × ((Int × Int) × Unit)) : Option (Unit × ((Int × Int) × Unit)) :=
  if x.1.1 = 2 then some ((), (((mixN 2 x.2.1).1, (mixN 2 x.2.1).2), ())) else if x.1.1 = 4 then some ((), (((mixN 4 x.2.1).1, (mixN 4 x.2.1).2), ())) else none

theorem con107 : Con Tryz.prog 107 A107 I107 R107 O107 G107 := Con.nice raw107 fun x y h => ⟨5, by
  obtain ⟨⟨n, u⟩, ⟨a, b⟩, v⟩ := x
  unfold G107 at h
  split at h
  · rename_i e
    have e : n = 2 := e
    subst e
    exact (eq107_2 2 a b).trans h
  · split at h
    · rename_i e
      have e : n = 4 := e
      subst e
      exact (eq107_4 0 a b).trans h
    · cases h⟩

abbrev Nm := Int × Int × Int × Int × Int × Int × Int × Int
def byt8 (x : Int) : Int := IntKind.u8.wrap x
def nameN (v : Int) : Nm := (byt8 (shr .u64 v 56), byt8 (shr .u64 v 48), byt8 (shr .u64 v 40), byt8 (shr .u64 v 32), byt8 (shr .u64 v 24), byt8 (shr .u64 v 16), byt8 (shr .u64 v 8), byt8 v)
theorem eq85 (K : Nat) (v : Int) : F85 K (v, ()) = some (nameN v, ()) := by kernel_rfl
theorem eq108 (K : Nat) (v : Int) : F108 K (v, ()) = some (nameN v, ()) := by kernel_rfl
def G85 (x : Int × Unit) : Option (Nm × Unit) := some (nameN x.1, ())
theorem con85 : Con Tryz.prog 85 A85 I85 R85 O85 G85 := Con.nice raw85 fun x y h => ⟨0, by obtain ⟨a, u⟩ := x; exact (eq85 0 a).trans h⟩
theorem con108 : Con Tryz.prog 108 A108 I108 R108 O108 G85 := Con.nice raw108 fun x y h => ⟨0, by obtain ⟨a, u⟩ := x; exact (eq108 0 a).trans h⟩

/- words -/
def w8 (a b c d e f g h : Int) : Int :=
  or64 (or64 (or64 (or64 (or64 (or64 (or64 (shl .u64 (w64 a) 56) (shl .u64 (w64 b) 48)) (shl .u64 (w64 c) 40)) (shl .u64 (w64 d) 32)) (shl .u64 (w64 e) 24)) (shl .u64 (w64 f) 16)) (shl .u64 (w64 g) 8)) (w64 h)

def W8 (b : List Int) : Option (Int × Unit) :=
  match b[0]? with
  | none => none
  | some v0 => match b[1]? with
    | none => none
    | some v1 => match b[2]? with
      | none => none
      | some v2 => match b[3]? with
        | none => none
        | some v3 => match b[4]? with
          | none => none
          | some v4 => match b[5]? with
            | none => none
            | some v5 => match b[6]? with
              | none => none
              | some v6 => match b[7]? with
                | none => none
                | some v7 => some (w8 v0 v1 v2 v3 v4 v5 v6 v7, ())

theorem eq83_long (K : Nat) (b : List Int) (h : decide ((b.length : Int) ≥ 8) = true) : F83 K (b, ()) = W8 b := by
  have e : F83 K (b, ()) = bif decide ((b.length : Int) ≥ 8) then W8 b else F83 K (b, ()) := by
    rw [h]
    have e2 : F83 K (b, ()) = bif decide ((b.length : Int) ≥ 8) then W8 b else (match l83_5 K K ((b, 0, 0, ()), ()) with | some v => some (v.1.1, ()) | none => none) := by kernel_rfl
    rw [e2, h]
    rfl
  rw [e, h]
  rfl


/-- The number of 8 bytes, as Number reckons it. -/
def num8 (a b c d e f g h : Int) : Int :=
  or64 (shl .u64 (or64 (shl .u64 (or64 (shl .u64 (or64 (shl .u64 (or64 (shl .u64 (or64 (shl .u64 (or64 (shl .u64 (or64 (shl .u64 0 8) (w64 a)) 8) (w64 b)) 8) (w64 c)) 8) (w64 d)) 8) (w64 e)) 8) (w64 f)) 8) (w64 g)) 8) (w64 h)

theorem eq106_if (K : Nat) (b : List Int) : F106 K (b, ()) = bif decide ((b.length : Int) ≥ 8) then W8 b else some (num8 (b.head?.getD 0) (b.tail.head?.getD 0) (b.tail.tail.head?.getD 0) (b.tail.tail.tail.head?.getD 0) (b.tail.tail.tail.tail.head?.getD 0) (b.tail.tail.tail.tail.tail.head?.getD 0) (b.tail.tail.tail.tail.tail.tail.head?.getD 0) (b.tail.tail.tail.tail.tail.tail.tail.head?.getD 0), ()) := by kernel_rfl

theorem eq106_long (K : Nat) (b : List Int) (h : decide ((b.length : Int) ≥ 8) = true) : F106 K (b, ()) = W8 b := by
  rw [eq106_if, h]
  rfl

def wd : List Int → Int
  | [] => 0
  | [a] => or64 0 (shl .u64 (w64 a) 56)
  | [a, b] => or64 (or64 0 (shl .u64 (w64 a) 56)) (shl .u64 (w64 b) 48)
  | [a, b, c] => or64 (or64 (or64 0 (shl .u64 (w64 a) 56)) (shl .u64 (w64 b) 48)) (shl .u64 (w64 c) 40)
  | [a, b, c, d] => or64 (or64 (or64 (or64 0 (shl .u64 (w64 a) 56)) (shl .u64 (w64 b) 48)) (shl .u64 (w64 c) 40)) (shl .u64 (w64 d) 32)
  | [a, b, c, d, e] => or64 (or64 (or64 (or64 (or64 0 (shl .u64 (w64 a) 56)) (shl .u64 (w64 b) 48)) (shl .u64 (w64 c) 40)) (shl .u64 (w64 d) 32)) (shl .u64 (w64 e) 24)
  | [a, b, c, d, e, f] => or64 (or64 (or64 (or64 (or64 (or64 0 (shl .u64 (w64 a) 56)) (shl .u64 (w64 b) 48)) (shl .u64 (w64 c) 40)) (shl .u64 (w64 d) 32)) (shl .u64 (w64 e) 24)) (shl .u64 (w64 f) 16)
  | [a, b, c, d, e, f, g] => or64 (or64 (or64 (or64 (or64 (or64 (or64 0 (shl .u64 (w64 a) 56)) (shl .u64 (w64 b) 48)) (shl .u64 (w64 c) 40)) (shl .u64 (w64 d) 32)) (shl .u64 (w64 e) 24)) (shl .u64 (w64 f) 16)) (shl .u64 (w64 g) 8)
  | a :: b :: c :: d :: e :: f :: g :: h :: _ => w8 a b c d e f g h

theorem eq83_0 (k : Nat) : F83 (k + 10) ([], ()) = some (wd [], ()) := by kernel_rfl
theorem eq106_0 (K : Nat) : F106 K ([], ()) = some (num8 0 0 0 0 0 0 0 0, ()) := by kernel_rfl
theorem eq83_1 (k : Nat) (a : Int) : F83 (k + 10) ([a], ()) = some (wd [a], ()) := by kernel_rfl
theorem eq106_1 (K : Nat) (a : Int) : F106 K ([a], ()) = some (num8 a 0 0 0 0 0 0 0, ()) := by kernel_rfl
theorem eq83_2 (k : Nat) (a b : Int) : F83 (k + 10) ([a, b], ()) = some (wd [a, b], ()) := by kernel_rfl
theorem eq106_2 (K : Nat) (a b : Int) : F106 K ([a, b], ()) = some (num8 a b 0 0 0 0 0 0, ()) := by kernel_rfl
theorem eq83_3 (k : Nat) (a b c : Int) : F83 (k + 10) ([a, b, c], ()) = some (wd [a, b, c], ()) := by kernel_rfl
theorem eq106_3 (K : Nat) (a b c : Int) : F106 K ([a, b, c], ()) = some (num8 a b c 0 0 0 0 0, ()) := by kernel_rfl
theorem eq83_4 (k : Nat) (a b c d : Int) : F83 (k + 10) ([a, b, c, d], ()) = some (wd [a, b, c, d], ()) := by kernel_rfl
theorem eq106_4 (K : Nat) (a b c d : Int) : F106 K ([a, b, c, d], ()) = some (num8 a b c d 0 0 0 0, ()) := by kernel_rfl
theorem eq83_5 (k : Nat) (a b c d e : Int) : F83 (k + 10) ([a, b, c, d, e], ()) = some (wd [a, b, c, d, e], ()) := by kernel_rfl
theorem eq106_5 (K : Nat) (a b c d e : Int) : F106 K ([a, b, c, d, e], ()) = some (num8 a b c d e 0 0 0, ()) := by kernel_rfl
theorem eq83_6 (k : Nat) (a b c d e f : Int) : F83 (k + 10) ([a, b, c, d, e, f], ()) = some (wd [a, b, c, d, e, f], ()) := by kernel_rfl
theorem eq106_6 (K : Nat) (a b c d e f : Int) : F106 K ([a, b, c, d, e, f], ()) = some (num8 a b c d e f 0 0, ()) := by kernel_rfl
theorem eq83_7 (k : Nat) (a b c d e f g : Int) : F83 (k + 10) ([a, b, c, d, e, f, g], ()) = some (wd [a, b, c, d, e, f, g], ()) := by kernel_rfl
theorem eq106_7 (K : Nat) (a b c d e f g : Int) : F106 K ([a, b, c, d, e, f, g], ()) = some (num8 a b c d e f g 0, ()) := by kernel_rfl
end Go.Proofs.YtkmbehagofjmbaaGreat
