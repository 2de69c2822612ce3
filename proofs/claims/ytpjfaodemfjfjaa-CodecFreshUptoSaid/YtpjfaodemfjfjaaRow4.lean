/-
  The law CodecFresh, as its statement has it: at every argument of bulk at most 1048576 it returns true and leaves its arguments as they were.
-/
import Derived.Test.YtpjfaodemfjfjaaRowG
import Derived.Test.YtpjfaodemfjfjaaFre3
namespace Go.Proofs.Ytpjfaodemfjfjaa
open Go Go.Sh Go.Proofs Go.ChangeShapes Go.WideShapes Go.ChangeAt Go.RowKit
set_option linter.unusedVariables false
namespace fresh4

theorem law : ∀ x : slotsDen A4, argsWf A4 x → argsBulk A4 x ≤ 1048576 → F4 1200000 x = some (true, ()) := by
  rintro ⟨a, b, c, v, n, m, ⟨⟩⟩ _ hk
  refine law4 a b c v n m ?_
  have h1 := bulk_ints (k := .u8) a
  have h2 := bulk_ints (k := .u8) b
  have h3 := bulk_ints (k := .u8) c
  have h4 := bulk_len (t := .pr (.int .u8) (.pr (.int .u8) (.pr (.int .u8) (.pr (.int .u8) (.pr (.int .u8) (.pr (.int .u8) (.pr (.int .u8) (.int .u8)))))))) (fun _ => by simp only [Ty.bulk]; omega) m
  have hk : (Ty.sl (.int .u8)).bulk a + ((Ty.sl (.int .u8)).bulk b + ((Ty.sl (.int .u8)).bulk c + (1 + (1 + ((Ty.sl (.pr (.int .u8) (.pr (.int .u8) (.pr (.int .u8) (.pr (.int .u8) (.pr (.int .u8) (.pr (.int .u8) (.pr (.int .u8) (.int .u8))))))))).bulk m + 0))))) ≤ 1048576 := hk
  omega

set_option maxRecDepth 100000 in
theorem lifted (os : Os) (started : os.Started) (H : Type) (enc : TypeId × Value → H) (F : Stop.Interp) :
    ReturnsInHanded {} Try.checked os 4 .any ((Rows.OpenSpec.upto Rows.codecFreshSpec).pre6 enc Try.prog Try.f4 Rows.codecFreshUptoRow.domain false) (((Rows.OpenSpec.upto Rows.codecFreshSpec).at F).post enc Try.prog Try.f4 false true false false) := by
  refine returnsInHanded_of_cond (C := Try.checked) (s := Rows.OpenSpec.upto Rows.codecFreshSpec) (k := Rows.uptoSmall) rfl own started (by kernel_rfl) Try.func4
    (OpenSpec.witness (enc := enc) (C := Try.checked) (s := Rows.OpenSpec.upto Rows.codecFreshSpec) (k := Rows.uptoSmall) rfl false ⟨#[], #[.slice none 0 0, .slice none 0 0, .slice none 0 0, .int .u64 0, .int .i64 0, .slice none 0 0], []⟩ 8 (by kernel_rfl) (by kernel_rfl) (by kernel_rfl)
      (x := ([.nil, .nil, .nil, .lit (.int .u64 0), .lit (.int .i64 0), .nil], [], [])) (by kernel_rfl) rfl (by kernel_rfl)) ?_
  intro W base args ds gs before hval hW _ hk _
  exact row_contract (spec := Rows.codecFreshSpec) laidOut (by kernel_rfl) (by kernel_rfl) (con4 1200000) (by kernel_rfl) (by kernel_rfl) Try.underlying4 rfl
    (fun ds h => by
      have h : ds.length = 6 := h.trans (by kernel_rfl)
      match ds, h with
      | [d0, d1, d2, d3, d4, d5], _ => exact ⟨rfl, rfl, rfl⟩) law args ds gs before hval hW hk

theorem over : Rows.codecFreshUptoRow.holds Try.pinned (Rows.OpenSpec.upto Rows.codecFreshSpec) :=
  OpenClaim.holds_of_cond 4 Try.f4 rfl rfl rfl rfl rfl rfl rfl ⟨rfl, rfl, rfl, rfl, rfl⟩ rfl rfl rfl rfl rfl (by kernel_rfl) Try.func4 (by kernel_rfl)
    (of_decide_eq_true (by kernel_rfl)) (by unfold Func.isWrapper; first | (rw [if_pos (by decide +kernel)]; kernel_rfl) | (rw [if_neg (by decide +kernel)]; exact ⟨rfl, rfl⟩))
    (fun os started H enc _ F => lifted os started H enc F)

theorem proved : Rows.CodecFreshUptoSaid := over
end fresh4
end Go.Proofs.Ytpjfaodemfjfjaa
