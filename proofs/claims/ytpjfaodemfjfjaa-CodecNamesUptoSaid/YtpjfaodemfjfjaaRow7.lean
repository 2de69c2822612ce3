/-
  The law CodecNames, as its statement has it: at every argument of bulk at most 1048576 it returns true and leaves its arguments as they were.
-/
import Derived.Test.YtpjfaodemfjfjaaRowG
import Derived.Test.YtpjfaodemfjfjaaNam4
namespace Go.Proofs.Ytpjfaodemfjfjaa
open Go Go.Sh Go.Proofs Go.ChangeShapes Go.WideShapes Go.ChangeAt Go.RowKit
set_option linter.unusedVariables false
namespace names7

theorem law : ∀ x : slotsDen A7, argsWf A7 x → argsBulk A7 x ≤ 1048576 → F7 300 x = some (true, ()) := by
  rintro ⟨b, l, a, lo, ⟨⟩⟩ ⟨⟨_, hb⟩, _⟩ hk
  refine law7 b l a lo ?_ fun n hn => ?_
  · have h := bulk_ints (k := .u8) b
    have hk : (Ty.sl (.int .u8)).bulk b + _ ≤ 1048576 := hk
    omega
  · have h := hb n hn
    have h2 : 0 ≤ n ∧ n ≤ 255 := by simpa [Ty.wf, Lit.wf, IntKind.min, IntKind.max, IntKind.signed, IntKind.bits] using h
    omega

set_option maxRecDepth 100000 in
theorem lifted (os : Os) (started : os.Started) (H : Type) (enc : TypeId × Value → H) (F : Stop.Interp) :
    ReturnsInHanded {} Try.checked os 7 .any ((Rows.OpenSpec.upto Rows.codecNamesSpec).pre6 enc Try.prog Try.f7 Rows.codecNamesUptoRow.domain false) (((Rows.OpenSpec.upto Rows.codecNamesSpec).at F).post enc Try.prog Try.f7 false true false false) := by
  refine returnsInHanded_of_cond (C := Try.checked) (s := Rows.OpenSpec.upto Rows.codecNamesSpec) (k := Rows.uptoSmall) rfl own started (by kernel_rfl) Try.func7
    (OpenSpec.witness (enc := enc) (C := Try.checked) (s := Rows.OpenSpec.upto Rows.codecNamesSpec) (k := Rows.uptoSmall) rfl false ⟨#[], #[.slice none 0 0, .slice none 0 0, .int .i64 0, .int .i64 0], []⟩ 8 (by kernel_rfl) (by kernel_rfl) (by kernel_rfl)
      (x := ([.nil, .nil, .lit (.int .i64 0), .lit (.int .i64 0)], [], [])) (by kernel_rfl) rfl (by kernel_rfl)) ?_
  intro W base args ds gs before hval hW _ hk _
  exact row_contract (spec := Rows.codecNamesSpec) laidOut (by kernel_rfl) (by kernel_rfl) (con7 300) (by kernel_rfl) (by kernel_rfl) Try.underlying4 rfl
    (fun ds h => by
      have h : ds.length = 4 := h.trans (by kernel_rfl)
      match ds, h with
      | [d0, d1, d2, d3], _ => exact ⟨rfl, rfl, rfl⟩) law args ds gs before hval hW hk

theorem over : Rows.codecNamesUptoRow.holds Try.pinned (Rows.OpenSpec.upto Rows.codecNamesSpec) :=
  OpenClaim.holds_of_cond 7 Try.f7 rfl rfl rfl rfl rfl rfl rfl ⟨rfl, rfl, rfl, rfl, rfl⟩ rfl rfl rfl rfl rfl (by kernel_rfl) Try.func7 (by kernel_rfl)
    (of_decide_eq_true (by kernel_rfl)) (by unfold Func.isWrapper; first | (rw [if_pos (by decide +kernel)]; kernel_rfl) | (rw [if_neg (by decide +kernel)]; exact ⟨rfl, rfl⟩))
    (fun os started H enc _ F => lifted os started H enc F)

theorem proved : Rows.CodecNamesUptoSaid := over
end names7
end Go.Proofs.Ytpjfaodemfjfjaa
