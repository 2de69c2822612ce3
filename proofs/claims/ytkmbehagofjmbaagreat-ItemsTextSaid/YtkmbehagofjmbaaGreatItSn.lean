/-
  The hash: the two sums are one.
-/
import Derived.Test.YtkmbehagofjmbaaGreatItS
set_option maxRecDepth 100000
set_option linter.unusedVariables false
namespace Go.Proofs.YtkmbehagofjmbaaGreat
open Go Go.Sh Go.Proofs

def okCut (i : Int) (n : Nat) : Bool := decide (0 ≤ i) && decide (i ≤ (n : Int)) && decide ((n : Int) ≤ (n : Int))
def restAt (b : List Int) (i : Int) : List Int := (b.drop i.toNat).take ((b.length : Int).toNat - i.toNat)

theorem step50 (K k : Nat) (b : List Int) (x y i : Int) (nm : Nm) : l50_3 K (k + 1) ((b, x, y, i, ()), (nm, ())) =
    bif decide (i < (b.length : Int)) then
      bif okCut i b.length then l50_3 K k ((b, (mixN 2 (xor64 x (wd (restAt b i)), y)).1, (mixN 2 (xor64 x (wd (restAt b i)), y)).2, IntKind.i64.wrap (i + 8), ()), ((nm.1, nm.2.1, nm.2.2.1, nm.2.2.2.1, nm.2.2.2.2.1, nm.2.2.2.2.2.1, nm.2.2.2.2.2.2.1, nm.2.2.2.2.2.2.2), ())) else none
    else some ((b, x, y, ()), ((nm.1, nm.2.1, nm.2.2.1, nm.2.2.2.1, nm.2.2.2.2.1, nm.2.2.2.2.2.1, nm.2.2.2.2.2.2.1, nm.2.2.2.2.2.2.2), ())) := by kernel_rfl

theorem step61 (K k : Nat) (b : List Int) (x y i : Int) (nm : Nm) : l61_3 K (k + 1) ((b, i, ()), ((x, y), nm, ())) =
    bif decide (i < (b.length : Int)) then
      bif okCut i b.length then l61_3 K k ((b, IntKind.i64.wrap (i + 8), ()), (((mixN 2 (xor64 x (wd (restAt b i)), y)).1, (mixN 2 (xor64 x (wd (restAt b i)), y)).2), (nm.1, nm.2.1, nm.2.2.1, nm.2.2.2.1, nm.2.2.2.2.1, nm.2.2.2.2.2.1, nm.2.2.2.2.2.2.1, nm.2.2.2.2.2.2.2), ())) else none
    else some ((b, ()), ((x, y), (nm.1, nm.2.1, nm.2.2.1, nm.2.2.2.1, nm.2.2.2.2.1, nm.2.2.2.2.2.1, nm.2.2.2.2.2.2.1, nm.2.2.2.2.2.2.2), ())) := by kernel_rfl

def endSum (n : Nat) (p : Int × Int) : Nm := nameN (xor64 (mixN 4 (p.1, xor64 p.2 (w64 n))).1 (mixN 4 (p.1, xor64 p.2 (w64 n))).2)
def startX : Int := 2611923443488327891
def startY : Int := 1376283091369227076
def zeroN : Nm := (0, 0, 0, 0, 0, 0, 0, 0)

theorem end50 (k : Nat) (b : List Int) : F50 (k + 5) (b, ()) = match l50_3 (k + 5) (k + 5) ((b, startX, startY, 0, ()), (zeroN, ())) with | some v => some (endSum v.1.1.length (v.1.2.1, v.1.2.2.1), ()) | none => none := by kernel_rfl
theorem end61 (K : Nat) (b : List Int) : F61 K (b, ()) = match l61_3 K K ((b, 0, ()), ((startX, startY), zeroN, ())) with | some v => some (endSum v.1.1.length (v.2.1.1, v.2.1.2), ()) | none => none := by kernel_rfl

def sumR : Nat → List Int → Int × Int → Int × Int
  | 0, _, p => p
  | _ + 1, [], p => p
  | n + 1, a :: l, p => sumR n ((a :: l).drop 8) (mixN 2 (xor64 p.1 (wd (a :: l)), p.2))

theorem wrapI {x : Int} (h : -9223372036854775808 ≤ x) (h' : x ≤ 9223372036854775807) : IntKind.i64.wrap x = x := by
  simp only [IntKind.wrap, IntKind.bits, IntKind.signed]
  simp
  split <;> omega

theorem restAt_drop (b : List Int) (i : Nat) : restAt b i = b.drop i := by
  unfold restAt
  rw [Int.toNat_natCast, Int.toNat_natCast]
  exact List.take_of_length_le (by simp)

theorem okCut_yes {b : List Int} {i : Nat} (h : i ≤ b.length) : okCut i b.length = true := by
  simp [okCut, h]

theorem sumR_nil (m : Nat) (p : Int × Int) : sumR m [] p = p := by cases m <;> rfl
theorem sumR_step {m : Nat} {l : List Int} (p : Int × Int) (h : l ≠ []) : sumR (m + 1) l p = sumR m (l.drop 8) (mixN 2 (xor64 p.1 (wd l), p.2)) := by
  cases l with
  | nil => exact absurd rfl h
  | cons a l => rfl

theorem loop50 (K k : Nat) (b : List Int) (hb : b.length ≤ 4611686018427387904) : ∀ (m i : Nat) (x y : Int), b.length - i ≤ m → i ≤ b.length + 8 →
    l50_3 K (k + m + 1) ((b, x, y, (i : Int), ()), (zeroN, ())) = some ((b, (sumR m (b.drop i) (x, y)).1, (sumR m (b.drop i) (x, y)).2, ()), (zeroN, ()))
  | m, i, x, y, h, hi => by
    rw [step50]
    by_cases hlt : i < b.length
    · obtain ⟨m, rfl⟩ : ∃ m', m = m' + 1 := ⟨m - 1, by omega⟩
      rw [decide_eq_true (by omega : (i : Int) < (b.length : Int)), cond_true, okCut_yes (by omega), cond_true, restAt_drop, wrapI (by omega) (by omega)]
      have := loop50 K k b hb m (i + 8) (mixN 2 (xor64 x (wd (b.drop i)), y)).1 (mixN 2 (xor64 x (wd (b.drop i)), y)).2 (by omega) (by omega)
      rw [sumR_step _ (by simp; omega), List.drop_drop]
      exact this
    · rw [decide_eq_false (by omega), cond_false, List.drop_eq_nil_of_le (by omega), sumR_nil]
  termination_by m => m

theorem loop61 (K k : Nat) (b : List Int) (hb : b.length ≤ 4611686018427387904) : ∀ (m i : Nat) (x y : Int), b.length - i ≤ m → i ≤ b.length + 8 →
    l61_3 K (k + m + 1) ((b, (i : Int), ()), ((x, y), zeroN, ())) = some ((b, ()), (((sumR m (b.drop i) (x, y)).1, (sumR m (b.drop i) (x, y)).2), zeroN, ()))
  | m, i, x, y, h, hi => by
    rw [step61]
    by_cases hlt : i < b.length
    · obtain ⟨m, rfl⟩ : ∃ m', m = m' + 1 := ⟨m - 1, by omega⟩
      rw [decide_eq_true (by omega : (i : Int) < (b.length : Int)), cond_true, okCut_yes (by omega), cond_true, restAt_drop, wrapI (by omega) (by omega)]
      have := loop61 K k b hb m (i + 8) (mixN 2 (xor64 x (wd (b.drop i)), y)).1 (mixN 2 (xor64 x (wd (b.drop i)), y)).2 (by omega) (by omega)
      rw [sumR_step _ (by simp; omega), List.drop_drop]
      exact this
    · rw [decide_eq_false (by omega), cond_false, List.drop_eq_nil_of_le (by omega), sumR_nil]
  termination_by m => m

/-- The name of a byte string. -/
def sumN (b : List Int) : Nm := endSum b.length (sumR b.length b (startX, startY))

theorem sum50 (b : List Int) (hb : b.length ≤ 4611686018427387904) : F50 (b.length + 1 + 5) (b, ()) = some (sumN b, ()) := by
  rw [end50]
  have := loop50 (b.length + 1 + 5) 5 b hb b.length 0 startX startY (by omega) (by omega)
  rw [show b.length + 1 + 5 = 5 + b.length + 1 by omega] at this ⊢
  rw [show ((0 : Nat) : Int) = 0 from rfl] at this
  rw [this]
  rfl

theorem sum61 (b : List Int) (hb : b.length ≤ 4611686018427387904) : F61 (5 + b.length + 1) (b, ()) = some (sumN b, ()) := by
  rw [end61]
  have := loop61 (5 + b.length + 1) 5 b hb b.length 0 startX startY (by omega) (by omega)
  rw [show ((0 : Nat) : Int) = 0 from rfl] at this
  rw [this]
  rfl

def Gsum (x : List Int × Unit) : Option (Nm × Unit) := if x.1.length ≤ 4611686018427387904 then some (sumN x.1, ()) else none
abbrev G50 := Gsum
abbrev G61 := Gsum
theorem Gsum_yes {b : List Int} {u : Unit} (h : b.length ≤ 4611686018427387904) : Gsum (b, u) = some (sumN b, ()) := if_pos h
theorem Gsum_no {b : List Int} {u : Unit} (h : ¬ b.length ≤ 4611686018427387904) : Gsum (b, u) = none := if_neg h
theorem nice50 (b : List Int) (u : Unit) (y : Nm × Unit) (h : Gsum (b, u) = some y) : ∃ K, F50 K (b, u) = some y := by
  by_cases hb : b.length ≤ 4611686018427387904
  · rw [Gsum_yes hb] at h
    rw [← h]
    exact ⟨_, sum50 b hb⟩
  · rw [Gsum_no hb] at h
    cases h
theorem nice61 (b : List Int) (u : Unit) (y : Nm × Unit) (h : Gsum (b, u) = some y) : ∃ K, F61 K (b, u) = some y := by
  by_cases hb : b.length ≤ 4611686018427387904
  · rw [Gsum_yes hb] at h
    rw [← h]
    exact ⟨_, sum61 b hb⟩
  · rw [Gsum_no hb] at h
    cases h
theorem con50 : Con Tryz.prog 50 A50 I50 R50 O50 Gsum := Con.nice raw50 fun x y h => nice50 x.1 x.2 y h
theorem con61 : Con Tryz.prog 61 A61 I61 R61 O61 Gsum := Con.nice raw61 fun x y h => nice61 x.1 x.2 y h
end Go.Proofs.YtkmbehagofjmbaaGreat
