/-
  The functions on numbers answer as the law says: plain Lean over the equations.
-/
import Derived.Test.YtpjfaodemfjfjaaNum
set_option maxRecDepth 100000
namespace Go.Proofs.Ytpjfaodemfjfjaa
open Go Go.Sh Go.Proofs

theorem bt {p : Prop} [Decidable p] {α : Type} {x y : α} (h : p) : (bif decide p then x else y) = x := by rw [decide_eq_true h]; rfl
theorem bf {p : Prop} [Decidable p] {α : Type} {x y : α} (h : ¬ p) : (bif decide p then x else y) = y := by rw [decide_eq_false h]; rfl

theorem run18 (K : Nat) (l : List Int) (hl : l.length ≤ 140737488355328) : ∀ (r i k : Nat) (v : Int), l.length - i = r → i ≤ l.length → r < k →
    l18_5 K k ((v, l, (l.length : Int), (i : Int), ()), ()) = some (((l.drop i).foldl step v, ()), ()) := by
  intro r
  induction r with
  | zero =>
    intro i k v h1 h2 h3
    obtain ⟨k, rfl⟩ : ∃ k', k = k' + 1 := ⟨k - 1, by omega⟩
    have hi : i = l.length := by omega
    subst hi
    rw [eq18_5, bf (by omega), List.drop_length]
    rfl
  | succ r ih =>
    intro i k v h1 h2 h3
    obtain ⟨k, rfl⟩ : ∃ k', k = k' + 1 := ⟨k - 1, by omega⟩
    have hi : i < l.length := by omega
    rw [eq18_5, bt (by omega), bt (by omega), Int.toNat_natCast, List.getElem?_eq_getElem hi]
    simp only [Option.bind]
    rw [wrap64 (by omega) (by omega)]
    have e : ((i : Int) + 1) = ((i + 1 : Nat) : Int) := by omega
    rw [e, ih (i + 1) k _ (by omega) (by omega) (by omega), List.drop_eq_getElem_cons hi]
    rfl

theorem run19 (K : Nat) (b : List Int) (a w : Nat) (hw : w ≤ 8) (hb : b.length ≤ 140737488355328) (ha : a + w ≤ b.length) : ∀ (r i k : Nat) (v : Int), w - i = r → i ≤ w → r < k →
    l19_5 K k ((b, (a : Int), (w : Int), v, (i : Int), ()), ()) = some (((((b.drop a).take w).drop i).foldl step v, ()), ()) := by
  have hlen : ((b.drop a).take w).length = w := by simp; omega
  intro r
  induction r with
  | zero =>
    intro i k v h1 h2 h3
    obtain ⟨k, rfl⟩ : ∃ k', k = k' + 1 := ⟨k - 1, by omega⟩
    have hi : i = w := by omega
    subst hi
    rw [eq19_5, bf (by omega), List.drop_of_length_le (by omega)]
    rfl
  | succ r ih =>
    intro i k v h1 h2 h3
    obtain ⟨k, rfl⟩ : ∃ k', k = k' + 1 := ⟨k - 1, by omega⟩
    have hi : i < w := by omega
    have hi2 : a + i < b.length := by omega
    have e0 : ((a : Int) + (i : Int)) = ((a + i : Nat) : Int) := by omega
    have e : ((i : Int) + 1) = ((i + 1 : Nat) : Int) := by omega
    rw [eq19_5, bt (by omega), wrap64 (x := (a : Int) + i) (by omega) (by omega), bt (by omega), e0, Int.toNat_natCast, List.getElem?_eq_getElem hi2]
    simp only [Option.bind]
    rw [wrap64 (by omega) (by omega), e, ih (i + 1) k _ (by omega) (by omega) (by omega)]
    have hi3 : i < ((b.drop a).take w).length := by omega
    rw [List.drop_eq_getElem_cons hi3]
    simp

/-- What 'Uint' answers. -/
def uintP (b : List Int) (a w : Int) : Int × Bool :=
  if 1 ≤ w ∧ w ≤ 8 ∧ 0 ≤ a ∧ a + w ≤ b.length then (((b.drop a.toNat).take w.toNat).foldl step 0, true) else (0, false)

theorem uint18 (K : Nat) (hK : 8 < K) (b : List Int) (hb : b.length ≤ 140737488355328) (a w : Int) : F18 K (b, a, w, ()) = some ((uintP b a w).1, (uintP b a w).2, ()) := by
  rw [eq18, uintP]
  by_cases h1 : w < 1
  · rw [bt h1, if_neg (by omega)]
  rw [bf h1]
  by_cases h2 : w > 8
  · rw [bt h2, if_neg (by omega)]
  rw [bf h2, eq29]
  by_cases h3 : a ≥ 0
  case neg => rw [bf h3, if_neg (by omega)]; rfl
  rw [bt h3]
  by_cases h4 : a ≤ (b.length : Int)
  case neg => rw [bf h4, if_neg (by omega)]; rfl
  rw [bt h4, wrap64 (by omega) (by omega)]
  simp only [Option.bind]
  by_cases h5 : w ≤ (b.length : Int) - a
  case neg => rw [decide_eq_false h5, if_neg (by omega)]; rfl
  rw [decide_eq_true h5, if_pos (by omega), wrap64 (by omega) (by omega)]
  obtain ⟨a, rfl⟩ : ∃ n : Nat, a = n := ⟨a.toNat, by omega⟩
  obtain ⟨w, rfl⟩ : ∃ n : Nat, w = n := ⟨w.toNat, by omega⟩
  have e : ((a : Int) + (w : Int)).toNat - Int.toNat a = w := by omega
  have hl : ((b.drop a).take w).length = w := by simp; omega
  rw [e, decide_eq_true (show (0 : Int) ≤ a by omega), decide_eq_true (show (a : Int) ≤ a + w by omega), decide_eq_true (show (a : Int) + w ≤ b.length by omega)]
  simp only [Int.toNat_natCast, Bool.not_true, Bool.and_self, cond_false, cond_true]
  rw [show (0 : Int) = ((0 : Nat) : Int) from rfl, run18 K _ (by omega) w 0 K _ (by omega) (by omega) (by omega)]
  rfl

theorem uint19 (K : Nat) (hK : 8 < K) (b : List Int) (hb : b.length ≤ 140737488355328) (a w : Int) : F19 K (b, a, w, ()) = some ((uintP b a w).1, (uintP b a w).2, ()) := by
  rw [eq19, uintP]
  by_cases h1 : w < 1
  · rw [bt h1, if_neg (by omega)]
  rw [bf h1]
  by_cases h2 : w > 8
  · rw [bt h2, if_neg (by omega)]
  rw [bf h2]
  by_cases h3 : a < 0
  · rw [bt h3, if_neg (by omega)]
  rw [bf h3, wrap64 (by omega) (by omega)]
  by_cases h4 : a > (b.length : Int) - w
  · rw [bt h4, if_neg (by omega)]
  rw [bf h4, if_pos (by omega)]
  obtain ⟨a, rfl⟩ : ∃ n : Nat, a = n := ⟨a.toNat, by omega⟩
  obtain ⟨w, rfl⟩ : ∃ n : Nat, w = n := ⟨w.toNat, by omega⟩
  have := run19 K b a w (by omega) hb (by omega) w 0 K 0 (by omega) (by omega) (by omega)
  simp only [Int.toNat_natCast]
  change (l19_5 K K ((b, (a : Int), (w : Int), 0, ((0 : Nat) : Int), ()), ())).bind _ = _
  rw [this]
  rfl

/-- The bytes of a number, the highest first. -/
def bytesP (v : Int) : Nat → List Int
  | 0 => []
  | i + 1 => low v (8 * i) :: bytesP v i

theorem bytesP_length (v : Int) : ∀ n, (bytesP v n).length = n
  | 0 => rfl
  | n + 1 => by simp [bytesP, bytesP_length v n]

theorem run15 (K : Nat) (v : Int) : ∀ (i k : Nat) (o : List Int), i ≤ 8 → i < k → o.length + i ≤ 140737488355328 →
    l15_4 K k ((v, (i : Int) - 1, ()), o, ()) = some ((), o ++ bytesP v i, ()) := by
  intro i
  induction i with
  | zero =>
    intro k o _ h2 _
    obtain ⟨k, rfl⟩ : ∃ k', k = k' + 1 := ⟨k - 1, by omega⟩
    rw [eq15_4, bf (by omega)]
    simp [bytesP]
  | succ i ih =>
    intro k o h1 h2 h3
    obtain ⟨k, rfl⟩ : ∃ k', k = k' + 1 := ⟨k - 1, by omega⟩
    have e : ((i + 1 : Nat) : Int) - 1 = i := by omega
    rw [eq15_4, e, bt (by omega), wrap64 (x := 8 * (i : Int)) (by omega) (by omega), bf (by omega)]
    simp only [List.length_singleton, Nat.mul_one, Bool.true_and]
    rw [decide_eq_true (show o.length + 1 ≤ 140737488355328 by omega), decide_eq_true (show o.length + 1 ≤ 9223372036854775807 by omega)]
    simp only [Bool.and_self, cond_true]
    rw [wrap64 (by omega) (by omega), ih k _ (by omega) (by omega) (by simp; omega)]
    simp [bytesP]

theorem wrapU {x : Int} (h : 0 ≤ x) (h' : x ≤ 18446744073709551615) : IntKind.u64.wrap x = x := by
  simp only [IntKind.wrap, IntKind.bits, IntKind.signed]
  simp
  omega

theorem run20 (K : Nat) (v : Int) : ∀ (i k : Nat) (o : List Int), i ≤ 8 → i < k → o.length + i ≤ 140737488355328 →
    l20_3 K k ((v, (i : Int) - 1, ()), o, ()) = some ((), o ++ bytesP v i, ()) := by
  intro i
  induction i with
  | zero =>
    intro k o _ h2 _
    obtain ⟨k, rfl⟩ : ∃ k', k = k' + 1 := ⟨k - 1, by omega⟩
    rw [eq20_3, bf (by omega)]
    simp [bytesP]
  | succ i ih =>
    intro k o h1 h2 h3
    obtain ⟨k, rfl⟩ : ∃ k', k = k' + 1 := ⟨k - 1, by omega⟩
    have e : ((i + 1 : Nat) : Int) - 1 = i := by omega
    rw [eq20_3, e, bt (by omega), wrap64 (x := 8 * (i : Int)) (by omega) (by omega), wrapU (by omega) (by omega), bf (by omega)]
    simp only [List.length_singleton, Nat.mul_one, Bool.true_and]
    rw [decide_eq_true (show o.length + 1 ≤ 140737488355328 by omega), decide_eq_true (show o.length + 1 ≤ 9223372036854775807 by omega)]
    simp only [Bool.and_self, cond_true]
    rw [wrap64 (by omega) (by omega), ih k _ (by omega) (by omega) (by simp; omega)]
    simp [bytesP]

/-- A width within 0 and 8. -/
def clamp (n : Int) : Nat := if n < 0 then 0 else if 8 < n then 8 else n.toNat

theorem clamp_le (n : Int) : clamp n ≤ 8 := by unfold clamp; split <;> (try split) <;> omega
theorem clamp15 (n : Int) : minI (maxI n 0) 8 = clamp n := by unfold minI maxI clamp; (repeat' split) <;> omega
theorem clamp20 (n : Int) : maxI 0 (minI n 8) = clamp n := by unfold minI maxI clamp; (repeat' split) <;> omega

theorem bytesOf5 : Try.prog.bytesOf 5 = 1 := by kernel_rfl

theorem ext28 (K : Nat) (l : List Int) (n : Nat) (h : l.length + n ≤ 140737488355328) : F28 K (l, (n : Int), ()) = some (l, ()) := by
  rw [eq28, bytesOf5, wrap64 (by omega) (by omega), decide_eq_true (show (0 : Int) ≤ l.length by omega), decide_eq_true (show (l.length : Int) ≤ l.length + n by omega),
    decide_eq_true (show ((1 : Nat) : Int) * ((l.length : Int) + n) ≤ 281474976710656 by omega), decide_eq_true (show (l.length : Int) + n ≤ 9223372036854775807 by omega)]
  simp

theorem app15 (K : Nat) (hK : 8 < K) (l : List Int) (v n : Int) (h : l.length + clamp n ≤ 140737488355328) : F15 K (l, v, n, ()) = some (l ++ bytesP v (clamp n), ()) := by
  have hc := clamp_le n
  rw [eq15, clamp15, ext28 K l _ h]
  simp only [Option.bind]
  rw [wrap64 (by omega) (by omega), run15 K v _ K l hc (by omega) h]

theorem app20 (K : Nat) (hK : 8 < K) (l : List Int) (v n : Int) (h : l.length + clamp n ≤ 140737488355328) : F20 K (l, v, n, ()) = some (l ++ bytesP v (clamp n), ()) := by
  have hc := clamp_le n
  rw [eq20, clamp20]
  simp only [Nat.zero_add, Nat.mul_one, Bool.true_and, List.nil_append]
  rw [decide_eq_true (show l.length ≤ 140737488355328 by omega), decide_eq_true (show l.length ≤ 9223372036854775807 by omega), wrap64 (by omega) (by omega)]
  simp only [Bool.and_self, cond_true]
  rw [run20 K v _ K l hc (by omega) h]
  rfl

theorem strEq_refl (s : ByteArray) : strEq s s = true := by simp [strEq]

theorem awake9 : F9 16 () = some (true, ()) := by kernel_rfl

theorem law5 (b : List Int) (v w a s : Int) (hb : b.length + 8 ≤ 140737488355328) : F5 16 (b, v, w, a, s, ()) = some (true, ()) := by
  have hc := clamp_le w
  rw [eq5, uint18 16 (by omega) b (by omega), uint19 16 (by omega) b (by omega), app15 16 (by omega) b v w (by omega), app20 16 (by omega) b v w (by omega)]
  simp only [Option.bind]
  rw [eq13]
  simp only [strEq_refl, cond_true, beq_self_eq_true, awake9]

end Go.Proofs.Ytpjfaodemfjfjaa
