/-
  The law ItemsText, as its statement has it: at every argument it returns true and leaves its arguments as they were.
-/
import Derived.Test.YtkmbehagofjmbaaGreatRowT
import Derived.Test.YtkmbehagofjmbaaGreatItLn
namespace Go.Proofs.YtkmbehagofjmbaaGreat
open Go Go.Sh Go.Proofs Go.ChangeShapes Go.WideShapes Go.ChangeAt Go.RowKit
set_option linter.unusedVariables false
namespace text25a

theorem law : ∀ x : slotsDen A5, argsWf A5 x → F5 (39 + 60 + 1) x = some (true, ()) := by
  rintro ⟨l, n, a, f, u⟩ _
  exact law5 l n a f u

set_option maxRecDepth 100000 in
theorem lifted (os : Os) (started : os.Started) (H : Type) (enc : TypeId × Value → H) :
    ReturnsInHanded {} Tryz.checked os 5 .any (Rows.itemsTextSpec.pre6 enc Tryz.prog Tryz.f5 Rows.itemsTextRow.domain false) (Rows.itemsTextSpec.post enc Tryz.prog Tryz.f5 false true false false) := by
  refine returnsInHanded_of_change (C := Tryz.checked) own started (by kernel_rfl) Tryz.func5
    (ChangeSpec.witness6 (enc := enc) (C := Tryz.checked) false ⟨#[], #[.slice none 0 0, .agg #[.int .u8 0, .int .u8 0, .int .u8 0, .int .u8 0, .int .u8 0, .int .u8 0, .int .u8 0, .int .u8 0], .int .i64 0, .int .i64 0], []⟩ 8 (by kernel_rfl) (by kernel_rfl) (by kernel_rfl) (by kernel_rfl)) ?_
  intro W base args ds gs before hval hW _ _
  exact row_contract_any (spec := Rows.itemsTextSpec) laidOut (by kernel_rfl) (by kernel_rfl) (raw5 (39 + 60 + 1)) (by kernel_rfl) (by kernel_rfl) Tryz.underlying4 rfl
    (fun ds h => by
      have h : ds.length = 4 := h.trans (by kernel_rfl)
      match ds, h with
      | [d0, d1, d2, d3], _ => exact ⟨rfl, rfl, rfl⟩) args ds gs before (fun x hw _ => law x hw) hval hW

theorem over : Rows.ItemsTextSaid :=
  OpenClaim.holds_of_wide 5 Tryz.f5 rfl rfl rfl rfl rfl rfl rfl ⟨rfl, rfl, rfl, rfl, rfl⟩ rfl rfl rfl rfl rfl (by kernel_rfl) Tryz.func5 (by kernel_rfl)
    (of_decide_eq_true (by kernel_rfl)) (by unfold Func.isWrapper; first | (rw [if_pos (by decide +kernel)]; kernel_rfl) | (rw [if_neg (by decide +kernel)]; exact ⟨rfl, rfl⟩))
    (fun os started H enc _ => lifted os started H enc)

theorem proved : Rows.ItemsTextSaid := over
end text25a
end Go.Proofs.YtkmbehagofjmbaaGreat
