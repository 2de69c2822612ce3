/-
  Reading a list of names: plain Lean over the equations.
-/
import Derived.Test.YtpjfaodemfjfjaaNam2
set_option maxRecDepth 100000
namespace Go.Proofs.Ytpjfaodemfjfjaa
open Go Go.Sh Go.Proofs

/-- The name at a place. -/
def nm (b : List Int) (p : Nat) : Nam := (b.getD p 0, b.getD (p + 1) 0, b.getD (p + 2) 0, b.getD (p + 3) 0, b.getD (p + 4) 0, b.getD (p + 5) 0, b.getD (p + 6) 0, b.getD (p + 7) 0)
/-- So many names from a place on. -/
def rdN (b : List Int) (p : Nat) : Nat → List Nam
  | 0 => []
  | r + 1 => nm b p :: rdN b (p + 8) r

theorem rdN_length (b : List Int) : ∀ (r p : Nat), (rdN b p r).length = r
  | 0, _ => rfl
  | r + 1, p => by simp [rdN, rdN_length b r]

theorem from_nat (b : List Int) (p : Nat) : from_ b (p : Int) = b.drop p := by
  unfold from_ sub
  rw [Int.toNat_natCast, Int.toNat_natCast, List.take_of_length_le (by simp)]

theorem hd0_drop (b : List Int) (p : Nat) (x : Int) (h : p < b.length) : hd0 (b.drop p) x = b.getD p 0 := by
  unfold hd0
  rw [List.drop_eq_getElem_cons h]
  simp [List.getD_eq_getElem?_getD, List.getElem?_eq_getElem h]

theorem over8_drop (b : List Int) (p : Nat) (x : Nam) (h : p + 8 ≤ b.length) : over8 x (b.drop p) = nm b p := by
  unfold over8 nm
  simp only [List.tail_drop, Nat.add_assoc]
  rw [hd0_drop b p _ (by omega), hd0_drop b (p + 1) _ (by omega), hd0_drop b _ _ (by omega), hd0_drop b _ _ (by omega), hd0_drop b _ _ (by omega), hd0_drop b _ _ (by omega), hd0_drop b _ _ (by omega), hd0_drop b _ _ (by omega)]

theorem run25 (K : Nat) (b : List Int) (hb : b.length ≤ 70368744177664) : ∀ (r i p k n : Nat) (l : List Nam), l.length = n → n - i = r → i ≤ n → n ≤ 65536 → r < k → p + 8 * r ≤ b.length →
    l25_7 K k ((b, (p : Int), (n : Int), (i : Int), ()), l, ()) = some ((((p + 8 * r : Nat) : Int), ()), l.take i ++ rdN b p r, ()) := by
  intro r
  induction r with
  | zero =>
    intro i p k n l hl h1 h2 _ h3 h4
    obtain ⟨k, rfl⟩ : ∃ k', k = k' + 1 := ⟨k - 1, by omega⟩
    have hi : i = l.length := by omega
    rw [eq25_7, bf (by omega), hi, List.take_length]
    simp [rdN]
  | succ r ih =>
    intro i p k n l hl h1 h2 hn h3 h4
    obtain ⟨k, rfl⟩ : ∃ k', k = k' + 1 := ⟨k - 1, by omega⟩
    have hi : i < l.length := by omega
    rw [eq25_7, bt (by omega), decide_eq_true (show (0 : Int) ≤ i by omega), decide_eq_true (show (i : Int) < l.length by omega), decide_eq_true (show (0 : Int) ≤ p by omega),
      decide_eq_true (show (p : Int) ≤ b.length by omega), decide_eq_true (show (b.length : Int) ≤ b.length by omega), Int.toNat_natCast, List.getElem?_eq_getElem hi]
    simp only [Bool.and_self, cond_true, Option.bind]
    rw [from_nat, over8_drop b p _ (by omega), wrap64 (by omega) (by omega), wrap64 (by omega) (by omega), show ((p : Int) + 8) = ((p + 8 : Nat) : Int) by omega, show ((i : Int) + 1) = ((i + 1 : Nat) : Int) by omega,
      ih (i + 1) (p + 8) k n _ (by simp [hl]) (by omega) (by omega) hn (by omega) (by omega)]
    have e : (l.set i (nm b p)).take (i + 1) = l.take i ++ [nm b p] := by
      rw [List.take_add_one, List.take_set_of_le (Nat.le_refl _)]
      simp [hi]
    rw [e, show p + 8 + 8 * r = p + 8 * (r + 1) by omega, List.append_assoc]
    rfl

theorem getD_bytes {b : List Int} (hb : Bytes b) (p : Nat) : 0 ≤ b.getD p 0 ∧ b.getD p 0 < 256 := by
  by_cases h : p < b.length
  · rw [List.getD_eq_getElem?_getD, List.getElem?_eq_getElem h]
    exact hb _ (List.getElem_mem h)
  · rw [List.getD_eq_getElem?_getD, List.getElem?_eq_none (by omega)]
    exact ⟨by simp, by simp⟩

theorem take_next (b : List Int) (p n : Nat) (h : p < b.length) : (b.drop p).take (n + 1) = b.getD p 0 :: (b.drop (p + 1)).take n := by
  rw [List.drop_eq_getElem_cons h, List.take_succ_cons, List.getD_eq_getElem?_getD, List.getElem?_eq_getElem h]
  rfl

theorem take8 (b : List Int) (p : Nat) (h : p + 8 ≤ b.length) : (b.drop p).take 8 = nb (nm b p) := by
  rw [take_next b p 7 (by omega), take_next b (p + 1) 6 (by omega), take_next b (p + 1 + 1) 5 (by omega), take_next b (p + 1 + 1 + 1) 4 (by omega), take_next b (p + 1 + 1 + 1 + 1) 3 (by omega),
    take_next b (p + 1 + 1 + 1 + 1 + 1) 2 (by omega), take_next b (p + 1 + 1 + 1 + 1 + 1 + 1) 1 (by omega), take_next b (p + 1 + 1 + 1 + 1 + 1 + 1 + 1) 0 (by omega), List.take_zero]
  rfl

theorem low_eq {v : Int} (i : Nat) (hi : i ≤ 63) : low v (i : Int) = IntKind.u8.wrap (v.fdiv (2 ^ i)) := by
  unfold low shr
  rw [Int.toNat_natCast, show min i IntKind.u64.bits = i from Nat.min_eq_left (by show i ≤ 64; omega)]

theorem wrap8 (x : Int) : IntKind.u8.wrap x = x % 256 := by
  simp only [IntKind.wrap, IntKind.bits, IntKind.signed]
  simp

theorem low_div (v : Int) (i : Nat) (hi : i ≤ 63) : low v (i : Int) = v / (2 ^ i) % 256 := by
  rw [low_eq i hi, wrap8, Int.fdiv_eq_ediv_of_nonneg _ (Int.le_of_lt (Int.pow_pos (by decide)))]

theorem low_next (a c : Int) (i : Nat) (hi : i + 8 ≤ 63) (h0 : 0 ≤ c) (h1 : c < 256) : low (a * 256 + c) ((i + 8 : Nat) : Int) = low a (i : Int) := by
  rw [low_div _ _ hi, low_div _ _ (by omega), Int.pow_add, show (2 : Int) ^ 8 = 256 by decide, Int.mul_comm (2 ^ i) 256, ← Int.ediv_ediv_of_nonneg (show (0 : Int) ≤ 256 by decide), show (a * 256 + c) / 256 = a by omega]

theorem low_zero (a c : Int) (h0 : 0 ≤ c) (h1 : c < 256) : low (a * 256 + c) ((0 : Nat) : Int) = c := by
  rw [low_div _ _ (by omega)]
  simp
  omega

/-- Eight bytes, read as a number, and written again. -/
theorem of_read (x : Nam) (hx : Bytes (nb x)) (v : Int) (hv : v = (nb x).foldl step 0) : (low v 56, low v 48, low v 40, low v 32, low v 24, low v 16, low v 8, IntKind.u8.wrap v) = x := by
  obtain ⟨x0, x1, x2, x3, x4, x5, x6, x7⟩ := x
  have b0 : 0 ≤ x0 ∧ x0 < 256 := hx _ (by simp [nb])
  have b1 : 0 ≤ x1 ∧ x1 < 256 := hx _ (by simp [nb])
  have b2 : 0 ≤ x2 ∧ x2 < 256 := hx _ (by simp [nb])
  have b3 : 0 ≤ x3 ∧ x3 < 256 := hx _ (by simp [nb])
  have b4 : 0 ≤ x4 ∧ x4 < 256 := hx _ (by simp [nb])
  have b5 : 0 ≤ x5 ∧ x5 < 256 := hx _ (by simp [nb])
  have b6 : 0 ≤ x6 ∧ x6 < 256 := hx _ (by simp [nb])
  have b7 : 0 ≤ x7 ∧ x7 < 256 := hx _ (by simp [nb])
  obtain ⟨v1, e1⟩ : ∃ v1, v1 = 0 * 256 + x0 := ⟨_, rfl⟩
  obtain ⟨v2, e2⟩ : ∃ v2, v2 = v1 * 256 + x1 := ⟨_, rfl⟩
  obtain ⟨v3, e3⟩ : ∃ v3, v3 = v2 * 256 + x2 := ⟨_, rfl⟩
  obtain ⟨v4, e4⟩ : ∃ v4, v4 = v3 * 256 + x3 := ⟨_, rfl⟩
  obtain ⟨v5, e5⟩ : ∃ v5, v5 = v4 * 256 + x4 := ⟨_, rfl⟩
  obtain ⟨v6, e6⟩ : ∃ v6, v6 = v5 * 256 + x5 := ⟨_, rfl⟩
  obtain ⟨v7, e7⟩ : ∃ v7, v7 = v6 * 256 + x6 := ⟨_, rfl⟩
  have r1 : 0 ≤ v1 ∧ v1 < 256 := by omega
  have r2 : 0 ≤ v2 ∧ v2 < 65536 := by omega
  have r3 : 0 ≤ v3 ∧ v3 < 16777216 := by omega
  have r4 : 0 ≤ v4 ∧ v4 < 4294967296 := by omega
  have r5 : 0 ≤ v5 ∧ v5 < 1099511627776 := by omega
  have r6 : 0 ≤ v6 ∧ v6 < 281474976710656 := by omega
  have r7 : 0 ≤ v7 ∧ v7 < 72057594037927936 := by omega
  have hv8 : v = v7 * 256 + x7 := by
    have s : (nb (x0, x1, x2, x3, x4, x5, x6, x7)).foldl step 0 = step (step (step (step (step (step (step (step 0 x0) x1) x2) x3) x4) x5) x6) x7 := rfl
    rw [hv, s, step_eq (a := 0) (by decide) (by decide) b0.1 b0.2, ← e1, step_eq r1.1 (Int.lt_trans r1.2 (by decide)) b1.1 b1.2, ← e2, step_eq r2.1 (Int.lt_trans r2.2 (by decide)) b2.1 b2.2, ← e3,
      step_eq r3.1 (Int.lt_trans r3.2 (by decide)) b3.1 b3.2, ← e4, step_eq r4.1 (Int.lt_trans r4.2 (by decide)) b4.1 b4.2, ← e5, step_eq r5.1 (Int.lt_trans r5.2 (by decide)) b5.1 b5.2, ← e6,
      step_eq r6.1 (Int.lt_trans r6.2 (by decide)) b6.1 b6.2, ← e7, step_eq r7.1 r7.2 b7.1 b7.2]
  have n7 : ∀ i : Nat, i + 8 ≤ 63 → low v ((i + 8 : Nat) : Int) = low v7 (i : Int) := fun i hi => by rw [hv8]; exact low_next _ _ i hi b7.1 b7.2
  have n6 : ∀ i : Nat, i + 8 ≤ 63 → low v7 ((i + 8 : Nat) : Int) = low v6 (i : Int) := fun i hi => by rw [e7]; exact low_next _ _ i hi b6.1 b6.2
  have n5 : ∀ i : Nat, i + 8 ≤ 63 → low v6 ((i + 8 : Nat) : Int) = low v5 (i : Int) := fun i hi => by rw [e6]; exact low_next _ _ i hi b5.1 b5.2
  have n4 : ∀ i : Nat, i + 8 ≤ 63 → low v5 ((i + 8 : Nat) : Int) = low v4 (i : Int) := fun i hi => by rw [e5]; exact low_next _ _ i hi b4.1 b4.2
  have n3 : ∀ i : Nat, i + 8 ≤ 63 → low v4 ((i + 8 : Nat) : Int) = low v3 (i : Int) := fun i hi => by rw [e4]; exact low_next _ _ i hi b3.1 b3.2
  have n2 : ∀ i : Nat, i + 8 ≤ 63 → low v3 ((i + 8 : Nat) : Int) = low v2 (i : Int) := fun i hi => by rw [e3]; exact low_next _ _ i hi b2.1 b2.2
  have n1 : ∀ i : Nat, i + 8 ≤ 63 → low v2 ((i + 8 : Nat) : Int) = low v1 (i : Int) := fun i hi => by rw [e2]; exact low_next _ _ i hi b1.1 b1.2
  have c56 : low v 56 = x0 := (n7 48 (by decide)).trans ((n6 40 (by decide)).trans ((n5 32 (by decide)).trans ((n4 24 (by decide)).trans ((n3 16 (by decide)).trans ((n2 8 (by decide)).trans ((n1 0 (by decide)).trans (by rw [e1]; exact low_zero _ _ b0.1 b0.2)))))))
  have c48 : low v 48 = x1 := (n7 40 (by decide)).trans ((n6 32 (by decide)).trans ((n5 24 (by decide)).trans ((n4 16 (by decide)).trans ((n3 8 (by decide)).trans ((n2 0 (by decide)).trans (by rw [e2]; exact low_zero _ _ b1.1 b1.2))))))
  have c40 : low v 40 = x2 := (n7 32 (by decide)).trans ((n6 24 (by decide)).trans ((n5 16 (by decide)).trans ((n4 8 (by decide)).trans ((n3 0 (by decide)).trans (by rw [e3]; exact low_zero _ _ b2.1 b2.2)))))
  have c32 : low v 32 = x3 := (n7 24 (by decide)).trans ((n6 16 (by decide)).trans ((n5 8 (by decide)).trans ((n4 0 (by decide)).trans (by rw [e4]; exact low_zero _ _ b3.1 b3.2))))
  have c24 : low v 24 = x4 := (n7 16 (by decide)).trans ((n6 8 (by decide)).trans ((n5 0 (by decide)).trans (by rw [e5]; exact low_zero _ _ b4.1 b4.2)))
  have c16 : low v 16 = x5 := (n7 8 (by decide)).trans ((n6 0 (by decide)).trans (by rw [e6]; exact low_zero _ _ b5.1 b5.2))
  have c8 : low v 8 = x6 := (n7 0 (by decide)).trans (by rw [e7]; exact low_zero _ _ b6.1 b6.2)
  have c0 : IntKind.u8.wrap v = x7 := by rw [wrap8, hv8]; omega
  rw [c56, c48, c40, c32, c24, c16, c8, c0]
end Go.Proofs.Ytpjfaodemfjfjaa
