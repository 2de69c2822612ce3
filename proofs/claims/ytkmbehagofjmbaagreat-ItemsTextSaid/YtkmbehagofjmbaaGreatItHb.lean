/-
  The hash: words; the two sums are one.
-/
import Derived.Test.YtkmbehagofjmbaaGreatItHn
set_option maxRecDepth 100000
set_option linter.unusedVariables false
namespace Go.Proofs.YtkmbehagofjmbaaGreat
open Go Go.Sh Go.Proofs

def bv (x : Int) : BitVec 64 := BitVec.ofInt 64 x
def un (b : BitVec 64) : Int := (b.toNat : Int)

theorem bv_un (b : BitVec 64) : bv (un b) = b := by simp [bv, un]
theorem bv_w64 (x : Int) : bv (w64 x) = bv x := by
  apply BitVec.eq_of_toInt_eq
  simp only [w64, IntKind.wrap, bv, BitVec.toInt_ofInt]
  simp [IntKind.signed, IntKind.bits, Int.bmod]
theorem w64_un (b : BitVec 64) : w64 (un b) = un b := by
  have := b.isLt
  simp only [w64, IntKind.wrap, un]
  simp [IntKind.signed, IntKind.bits]
  omega
theorem or64_bv (a b : Int) : or64 a b = un (bv a ||| bv b) := by
  unfold or64
  exact w64_un _
theorem bv_or64 (a b : Int) : bv (or64 a b) = bv a ||| bv b := by rw [or64_bv, bv_un]
theorem bv_shl (a : Int) (k : Nat) (hk : k ≤ 64) : bv (shl .u64 a (k : Int)) = bv a <<< k := by
  have e : shl .u64 a (k : Int) = w64 (a * 2 ^ k) := by
    unfold shl w64
    simp [IntKind.bits, Nat.min_eq_left hk]
  rw [e, bv_w64, BitVec.shiftLeft_eq_mul_twoPow]
  rw [show bv (a * 2 ^ k) = bv a * bv (2 ^ k) from by simp [bv, BitVec.ofInt_mul]]
  congr 1
  have e3 : ((2 : Int) ^ k) = ((2 ^ k : Nat) : Int) := by norm_cast
  rw [e3]
  apply BitVec.eq_of_toNat_eq
  rw [bv, BitVec.ofInt_natCast, BitVec.toNat_ofNat, BitVec.toNat_twoPow]

theorem un_bv (x : Int) : un (bv x) = w64 x := by
  have h : w64 x = x % 18446744073709551616 := by
    simp [w64, IntKind.wrap, IntKind.signed, IntKind.bits]
  rw [h]
  simp only [un, bv, BitVec.toNat_ofInt]
  omega
theorem shl_bv (a : Int) (k : Nat) (hk : k ≤ 64) : shl .u64 a (k : Int) = un (bv a <<< k) := by
  have e : shl .u64 a (k : Int) = w64 (a * 2 ^ k) := by
    unfold shl w64
    simp [IntKind.bits, Nat.min_eq_left hk]
  rw [← bv_shl a k hk, e, bv_w64, un_bv]

theorem num8_bv (a b c d e f g h : Int) : num8 a b c d e f g h = un (bv a <<< 56 ||| bv b <<< 48 ||| bv c <<< 40 ||| bv d <<< 32 ||| bv e <<< 24 ||| bv f <<< 16 ||| bv g <<< 8 ||| bv h) := by
  unfold num8
  have h8 : ∀ x : Int, shl .u64 x 8 = un (bv x <<< 8) := fun x => shl_bv x 8 (by omega)
  simp only [h8, or64_bv, bv_un, bv_w64]
  congr 1
  have h0 : bv 0 = 0#64 := rfl
  simp only [h0, BitVec.shiftLeft_or_distrib, ← BitVec.shiftLeft_add, BitVec.zero_shiftLeft, BitVec.zero_or, Nat.reduceAdd]

theorem w8_bv (a b c d e f g h : Int) : w8 a b c d e f g h = un (bv a <<< 56 ||| bv b <<< 48 ||| bv c <<< 40 ||| bv d <<< 32 ||| bv e <<< 24 ||| bv f <<< 16 ||| bv g <<< 8 ||| bv h) := by
  unfold w8
  have h1 : ∀ x : Int, shl .u64 x 56 = un (bv x <<< 56) := fun x => shl_bv x 56 (by omega)
  have h2 : ∀ x : Int, shl .u64 x 48 = un (bv x <<< 48) := fun x => shl_bv x 48 (by omega)
  have h3 : ∀ x : Int, shl .u64 x 40 = un (bv x <<< 40) := fun x => shl_bv x 40 (by omega)
  have h4 : ∀ x : Int, shl .u64 x 32 = un (bv x <<< 32) := fun x => shl_bv x 32 (by omega)
  have h5 : ∀ x : Int, shl .u64 x 24 = un (bv x <<< 24) := fun x => shl_bv x 24 (by omega)
  have h6 : ∀ x : Int, shl .u64 x 16 = un (bv x <<< 16) := fun x => shl_bv x 16 (by omega)
  have h7 : ∀ x : Int, shl .u64 x 8 = un (bv x <<< 8) := fun x => shl_bv x 8 (by omega)
  simp only [h1, h2, h3, h4, h5, h6, h7, or64_bv, bv_un, bv_w64]

theorem wd_num (b : List Int) (hb : b.length < 8) : wd b = num8 (b[0]?.getD 0) (b[1]?.getD 0) (b[2]?.getD 0) (b[3]?.getD 0) (b[4]?.getD 0) (b[5]?.getD 0) (b[6]?.getD 0) 0 := by
  have h1 : ∀ x : Int, shl .u64 x 56 = un (bv x <<< 56) := fun x => shl_bv x 56 (by omega)
  have h2 : ∀ x : Int, shl .u64 x 48 = un (bv x <<< 48) := fun x => shl_bv x 48 (by omega)
  have h3 : ∀ x : Int, shl .u64 x 40 = un (bv x <<< 40) := fun x => shl_bv x 40 (by omega)
  have h4 : ∀ x : Int, shl .u64 x 32 = un (bv x <<< 32) := fun x => shl_bv x 32 (by omega)
  have h5 : ∀ x : Int, shl .u64 x 24 = un (bv x <<< 24) := fun x => shl_bv x 24 (by omega)
  have h6 : ∀ x : Int, shl .u64 x 16 = un (bv x <<< 16) := fun x => shl_bv x 16 (by omega)
  have h7 : ∀ x : Int, shl .u64 x 8 = un (bv x <<< 8) := fun x => shl_bv x 8 (by omega)
  have h0 : bv 0 = 0#64 := rfl
  rw [num8_bv]
  match b, hb with
  | [], _ => simp [wd, h0]; rfl
  | [a], _ => simp [wd, h1, or64_bv, bv_un, bv_w64, h0]
  | [a, b], _ => simp [wd, h1, h2, or64_bv, bv_un, bv_w64, h0]
  | [a, b, c], _ => simp [wd, h1, h2, h3, or64_bv, bv_un, bv_w64, h0]
  | [a, b, c, d], _ => simp [wd, h1, h2, h3, h4, or64_bv, bv_un, bv_w64, h0]
  | [a, b, c, d, e], _ => simp [wd, h1, h2, h3, h4, h5, or64_bv, bv_un, bv_w64, h0]
  | [a, b, c, d, e, f], _ => simp [wd, h1, h2, h3, h4, h5, h6, or64_bv, bv_un, bv_w64, h0]
  | [a, b, c, d, e, f, g], _ => simp [wd, h1, h2, h3, h4, h5, h6, h7, or64_bv, bv_un, bv_w64, h0]
  | _ :: _ :: _ :: _ :: _ :: _ :: _ :: _ :: r, h => simp at h; omega

theorem w8_num (a b c d e f g h : Int) : w8 a b c d e f g h = num8 a b c d e f g h := by rw [w8_bv, num8_bv]

theorem word83 (k : Nat) : ∀ b : List Int, F83 (k + 10) (b, ()) = some (wd b, ())
  | [] => eq83_0 k
  | [a] => eq83_1 k a
  | [a, b] => eq83_2 k a b
  | [a, b, c] => eq83_3 k a b c
  | [a, b, c, d] => eq83_4 k a b c d
  | [a, b, c, d, e] => eq83_5 k a b c d e
  | [a, b, c, d, e, f] => eq83_6 k a b c d e f
  | [a, b, c, d, e, f, g] => eq83_7 k a b c d e f g
  | a :: b :: c :: d :: e :: f :: g :: h :: r => by
    rw [eq83_long _ _ (by simp only [List.length_cons]; exact decide_eq_true (by omega))]
    rfl

theorem word106 (K : Nat) : ∀ b : List Int, F106 K (b, ()) = some (wd b, ())
  | [] => by rw [wd_num _ (by simp)]; exact eq106_0 K
  | [a] => by rw [wd_num _ (by simp)]; exact eq106_1 K a
  | [a, b] => by rw [wd_num _ (by simp)]; exact eq106_2 K a b
  | [a, b, c] => by rw [wd_num _ (by simp)]; exact eq106_3 K a b c
  | [a, b, c, d] => by rw [wd_num _ (by simp)]; exact eq106_4 K a b c d
  | [a, b, c, d, e] => by rw [wd_num _ (by simp)]; exact eq106_5 K a b c d e
  | [a, b, c, d, e, f] => by rw [wd_num _ (by simp)]; exact eq106_6 K a b c d e f
  | [a, b, c, d, e, f, g] => by rw [wd_num _ (by simp)]; exact eq106_7 K a b c d e f g
  | a :: b :: c :: d :: e :: f :: g :: h :: r => by
    rw [eq106_long _ _ (by simp only [List.length_cons]; exact decide_eq_true (by omega))]
    rfl

def Gwd (x : List Int × Unit) : Option (Int × Unit) := some (wd x.1, ())
theorem con83 : Con Tryz.prog 83 A83 I83 R83 O83 Gwd := Con.nice raw83 fun x y h => ⟨0 + 10, by obtain ⟨b, u⟩ := x; exact (word83 0 b).trans h⟩
theorem con106 : Con Tryz.prog 106 A106 I106 R106 O106 Gwd := Con.nice raw106 fun x y h => ⟨0, by obtain ⟨b, u⟩ := x; exact (word106 0 b).trans h⟩

abbrev G83 := Gwd
abbrev G106 := Gwd
abbrev G108 := G85
end Go.Proofs.YtkmbehagofjmbaaGreat
