/-
  The law CodecApart, as its statement has it: at every argument of bulk at most 1048576 it returns true and leaves its arguments as they were.
-/
import Derived.Test.YtpjfaodemfjfjaaRowG
import Derived.Test.YtpjfaodemfjfjaaApa2
namespace Go.Proofs.Ytpjfaodemfjfjaa
open Go Go.Sh Go.Proofs Go.ChangeShapes Go.WideShapes Go.ChangeAt Go.RowKit
set_option linter.unusedVariables false
namespace apart3

theorem wf_byte {n : Int} (h : (Ty.int .u8).wf n) : 0 ≤ n ∧ n < 256 := by
  have h2 : 0 ≤ n ∧ n ≤ 255 := by simpa [Ty.wf, Lit.wf, IntKind.min, IntKind.max, IntKind.signed, IntKind.bits] using h
  omega

theorem wf_u64 {n : Int} (h : (Ty.int .u64).wf n) : 0 ≤ n ∧ n < 18446744073709551616 := by
  have h2 : 0 ≤ n ∧ n ≤ 18446744073709551615 := by simpa [Ty.wf, Lit.wf, IntKind.min, IntKind.max, IntKind.signed, IntKind.bits] using h
  omega

theorem wf_bytes {b : List Int} (h : ∀ x ∈ b, (Ty.int .u8).wf x) : Bytes b := fun n hn => wf_byte (h n hn)

theorem wf_nam {x : Nam} (h : NT.wf x) : Bytes (nb x) := by
  obtain ⟨h0, h1, h2, h3, h4, h5, h6, h7⟩ := h
  intro n hn
  simp only [nb, List.mem_cons, List.not_mem_nil, or_false] at hn
  rcases hn with rfl | rfl | rfl | rfl | rfl | rfl | rfl | rfl <;> exact wf_byte ‹_›

abbrev VT : Ty := .pr (.int .i64) (.pr (.int .i64) (.pr (.int .u64) (.pr (.sl (.int .u8)) (.sl NT))))

theorem wf_val {v : Val} (h : VT.wf v) : Okay v :=
  ⟨wf_u64 h.2.2.1, wf_bytes h.2.2.2.1.2, fun x hx => wf_nam (h.2.2.2.2.2 x hx)⟩

theorem nt_bulk (x : Nam) : NT.bulk x = 8 := rfl

theorem sum_const {α : Type} (f : α → Nat) (c : Nat) (h : ∀ x, f x = c) : ∀ l : List α, (l.map f).sum = c * l.length
  | [] => by simp
  | x :: l => by simp [h x, sum_const f c h l, Nat.mul_add, Nat.add_comm]

theorem val_bulk (v : Val) : VT.bulk v = 5 + (Ty.int .u8).sl.bulk v.2.2.2.1 - 1 + 8 * v.2.2.2.2.length := by
  have e : (Ty.sl NT).bulk v.2.2.2.2 = 8 * v.2.2.2.2.length + 1 := congrArg (· + 1) (sum_const NT.bulk 8 nt_bulk _)
  show 1 + (1 + (1 + ((Ty.int .u8).sl.bulk v.2.2.2.1 + (Ty.sl NT).bulk v.2.2.2.2))) = _
  rw [e]
  omega

theorem sz_bulk : ∀ l : List Val, (l.map szV).sum ≤ 12 * (Ty.sl VT).bulk l
  | [] => by simp
  | v :: l => by
    have h := sz_bulk l
    have e : (Ty.sl VT).bulk (v :: l) = VT.bulk v + (Ty.sl VT).bulk l := by
      show (VT.bulk v + (l.map VT.bulk).sum) + 1 = VT.bulk v + ((l.map VT.bulk).sum + 1)
      omega
    have h1 := bulk_ints (k := .u8) v.2.2.2.1
    have h2 := val_bulk v
    simp only [List.map_cons, List.sum_cons, szV, e]
    omega

theorem law : ∀ x : slotsDen A3, argsWf A3 x → argsBulk A3 x ≤ 1048576 → F3 300 x = some (true, ()) := by
  rintro ⟨l, a, o, ⟨⟩⟩ ⟨⟨_, hl⟩, _, ho, _⟩ hk
  have hk : (Ty.sl VT).bulk l + (1 + (VT.bulk o + 0)) ≤ 1048576 := hk
  refine law3 l a o (fun v hv => wf_val (hl v hv)) (wf_val ho) ?_
  have h1 := sz_bulk l
  have h2 := val_bulk o
  have h3 := bulk_ints (k := .u8) o.2.2.2.1
  have h4 : szV o = 12 + o.2.2.2.1.length + 8 * o.2.2.2.2.length := rfl
  omega

set_option maxRecDepth 100000 in
theorem lifted (os : Os) (started : os.Started) (H : Type) (enc : TypeId × Value → H) (F : Stop.Interp) :
    ReturnsInHanded {} Try.checked os 3 .any ((Rows.OpenSpec.upto Rows.codecApartSpec).pre6 enc Try.prog Try.f3 Rows.codecApartUptoRow.domain false) (((Rows.OpenSpec.upto Rows.codecApartSpec).at F).post enc Try.prog Try.f3 false true false false) := by
  refine returnsInHanded_of_cond (C := Try.checked) (s := Rows.OpenSpec.upto Rows.codecApartSpec) (k := Rows.uptoSmall) rfl own started (by kernel_rfl) Try.func3
    (OpenSpec.witness (enc := enc) (C := Try.checked) (s := Rows.OpenSpec.upto Rows.codecApartSpec) (k := Rows.uptoSmall) rfl false ⟨#[], #[.slice none 0 0, .int .i64 0, .agg #[.int .i64 0, .int .i64 0, .int .u64 0, .slice none 0 0, .slice none 0 0]], []⟩ 8 (by kernel_rfl) (by kernel_rfl) (by kernel_rfl)
      (x := ([.nil, .lit (.int .i64 0), .agg [.lit (.int .i64 0), .lit (.int .i64 0), .lit (.int .u64 0), .nil, .nil]], [], [])) (by kernel_rfl) rfl (by kernel_rfl)) ?_
  intro W base args ds gs before hval hW _ hk _
  exact row_contract (spec := Rows.codecApartSpec) laidOut (by kernel_rfl) (by kernel_rfl) (con3 300) (by kernel_rfl) (by kernel_rfl) Try.underlying4 rfl
    (fun ds h => by
      have h : ds.length = 3 := h.trans (by kernel_rfl)
      match ds, h with
      | [d0, d1, d2], _ => exact ⟨rfl, rfl, rfl⟩) law args ds gs before hval hW hk

theorem over : Rows.codecApartUptoRow.holds Try.pinned (Rows.OpenSpec.upto Rows.codecApartSpec) :=
  OpenClaim.holds_of_cond 3 Try.f3 rfl rfl rfl rfl rfl rfl rfl ⟨rfl, rfl, rfl, rfl, rfl⟩ rfl rfl rfl rfl rfl (by kernel_rfl) Try.func3 (by kernel_rfl)
    (of_decide_eq_true (by kernel_rfl)) (by unfold Func.isWrapper; first | (rw [if_pos (by decide +kernel)]; kernel_rfl) | (rw [if_neg (by decide +kernel)]; exact ⟨rfl, rfl⟩))
    (fun os started H enc _ F => lifted os started H enc F)

theorem proved : Rows.CodecApartUptoSaid := over
end apart3
end Go.Proofs.Ytpjfaodemfjfjaa
