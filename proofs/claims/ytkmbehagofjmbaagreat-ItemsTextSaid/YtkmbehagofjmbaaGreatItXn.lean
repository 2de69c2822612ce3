import Derived.Test.YtkmbehagofjmbaaGreatItX
set_option maxRecDepth 100000
set_option linter.unusedVariables false
namespace Go.Proofs.YtkmbehagofjmbaaGreat
open Go Go.Sh Go.Proofs

theorem eq22 (K : Nat) (b : List Int) (u : Unit) : F22 K (b, u) = match Gsum (b, ()) with | some v => some ((v.1.1, v.1.2.1, v.1.2.2.1, v.1.2.2.2.1, v.1.2.2.2.2.1, v.1.2.2.2.2.2.1, v.1.2.2.2.2.2.2.1, v.1.2.2.2.2.2.2.2), ()) | none => none := by kernel_rfl
theorem eq29 (K : Nat) (b : List Int) (u : Unit) : F29 K (b, u) = match Gsum (b, ()) with | some v => some ((v.1.1, v.1.2.1, v.1.2.2.1, v.1.2.2.2.1, v.1.2.2.2.2.1, v.1.2.2.2.2.2.1, v.1.2.2.2.2.2.2.1, v.1.2.2.2.2.2.2.2), ()) | none => none := by kernel_rfl
theorem nice22 (b : List Int) (u : Unit) (y : Nm × Unit) (h : Gsum (b, u) = some y) : ∃ K, F22 K (b, u) = some y := by
  refine ⟨0, ?_⟩
  rw [eq22]
  rw [show Gsum (b, ()) = some y from h]
theorem nice29 (b : List Int) (u : Unit) (y : Nm × Unit) (h : Gsum (b, u) = some y) : ∃ K, F29 K (b, u) = some y := by
  refine ⟨0, ?_⟩
  rw [eq29]
  rw [show Gsum (b, ()) = some y from h]
abbrev G22 := Gsum
abbrev G29 := Gsum
theorem con22 : Con Tryz.prog 22 A22 I22 R22 O22 Gsum := Con.nice raw22 fun x y h => nice22 x.1 x.2 y h
theorem con29 : Con Tryz.prog 29 A29 I29 R29 O29 Gsum := Con.nice raw29 fun x y h => nice29 x.1 x.2 y h

def cmpB (b c : List Int) : Int := Extern.BytealgCompare.cmp (strOf b) (strOf c)
theorem eq51 (K : Nat) (b c : List Int) (u : Unit) : F51 K (b, c, u) = some (cmpB b c, ()) := by kernel_rfl
def G51 (x : List Int × List Int × Unit) : Option (Int × Unit) := some (cmpB x.1 x.2.1, ())
theorem con51 : Con Tryz.prog 51 A51 I51 R51 O51 G51 := Con.nice raw51 fun x y h => ⟨0, (eq51 0 x.1 x.2.1 x.2.2).trans h⟩

theorem eq52_nil (K : Nat) (u : Unit) : F52 K ([], u) = some ([], ()) := by kernel_rfl
theorem eq52_cons (K : Nat) (a : Int) (b : List Int) (u : Unit) : F52 K (a :: b, u) = bif decide ((0 + (a :: b).length) * 1 ≤ 140737488355328) && decide (0 + (a :: b).length ≤ 9223372036854775807) then some ([] ++ (a :: b), ()) else none := by kernel_rfl
def G52 (x : List Int × Unit) : Option (List Int × Unit) := if x.1.length ≤ 140737488355328 then some (x.1, ()) else none
theorem nice52 (b : List Int) (u : Unit) (y : List Int × Unit) (h : G52 (b, u) = some y) : ∃ K, F52 K (b, u) = some y := by
  refine ⟨0, ?_⟩
  by_cases hb : b.length ≤ 140737488355328
  · rw [show G52 (b, u) = some (b, ()) from if_pos hb] at h
    rw [← h]
    cases b with
    | nil => exact eq52_nil 0 u
    | cons a b =>
      rw [eq52_cons, show (decide ((0 + (a :: b).length) * 1 ≤ 140737488355328) && decide (0 + (a :: b).length ≤ 9223372036854775807)) = true from by simp at hb ⊢; omega]
      rfl
  · rw [show G52 (b, u) = none from if_neg hb] at h
    cases h
theorem con52 : Con Tryz.prog 52 A52 I52 R52 O52 G52 := Con.nice raw52 fun x y h => nice52 x.1 x.2 y h
end Go.Proofs.YtkmbehagofjmbaaGreat
