/-
  The law of names in plain Lean.
-/
import Derived.Test.YtpjfaodemfjfjaaNam3
set_option maxRecDepth 100000
namespace Go.Proofs.Ytpjfaodemfjfjaa
open Go Go.Sh Go.Proofs

theorem bytesOf53 : Try.prog.bytesOf 53 = 8 := by kernel_rfl

theorem nb_bytes {b : List Int} (hb : Bytes b) (p : Nat) : Bytes (nb (nm b p)) := by
  intro n hn
  simp only [nb, nm, List.mem_cons, List.not_mem_nil, or_false] at hn
  rcases hn with rfl | rfl | rfl | rfl | rfl | rfl | rfl | rfl <;> exact getD_bytes hb _

theorem uint8 (b : List Int) (q : Nat) (h : q + 8 ≤ b.length) : uintP b (q : Int) 8 = ((nb (nm b q)).foldl step 0, true) := by
  unfold uintP
  rw [if_pos (by omega), Int.toNat_natCast, show (8 : Int).toNat = 8 from rfl, take8 b q h]

theorem run26 (K : Nat) (hK : 8 < K) (b : List Int) (hl : b.length ≤ 70368744177664) (hb : Bytes b) (a n : Nat) (hn : n ≤ 255) (ha : a + 1 + 8 * n ≤ b.length) : ∀ (r i k : Nat) (o : List Nam), n - i = r → i ≤ n → r < k → o.length = i →
    l26_6 K k ((b, (a : Int), (n : Int), (i : Int), ()), o, ()) = some (((a : Int), (n : Int), ()), o ++ rdN b (a + 1 + 8 * i) r, ()) := by
  intro r
  induction r with
  | zero =>
    intro i k o h1 h2 h3 h4
    obtain ⟨k, rfl⟩ : ∃ k', k = k' + 1 := ⟨k - 1, by omega⟩
    rw [eq26_6, wrap64 (x := (n : Int)) (by omega) (by omega), bf (by omega)]
    simp [rdN]
  | succ r ih =>
    intro i k o h1 h2 h3 h4
    obtain ⟨k, rfl⟩ : ∃ k', k = k' + 1 := ⟨k - 1, by omega⟩
    rw [eq26_6, wrap64 (x := (n : Int)) (by omega) (by omega), bt (by omega), wrap64 (x := (a : Int) + 1) (by omega) (by omega), wrap64 (x := 8 * (i : Int)) (by omega) (by omega),
      wrap64 (x := (a : Int) + 1 + 8 * (i : Int)) (by omega) (by omega), show (a : Int) + 1 + 8 * (i : Int) = ((a + 1 + 8 * i : Nat) : Int) by omega, uint19 K hK b (by omega), uint8 b _ (by omega)]
    simp only [Option.bind]
    rw [eq30, of_read (nm b (a + 1 + 8 * i)) (nb_bytes hb _) _ rfl, bytesOf53]
    simp only [List.length_singleton, Bool.true_and]
    rw [decide_eq_true (show (o.length + 1) * 8 ≤ 140737488355328 by omega), decide_eq_true (show o.length + 1 ≤ 9223372036854775807 by omega)]
    simp only [Bool.and_self, cond_true]
    rw [wrap64 (by omega) (by omega), show ((i : Int) + 1) = ((i + 1 : Nat) : Int) by omega, ih (i + 1) k _ (by omega) (by omega) (by omega) (by simp [h4]), List.append_assoc]
    rfl

/-- What 'Names' answers. -/
def readN (b : List Int) (a : Int) : List Nam × Int × Bool :=
  if (uintP b a 1).2 = true ∧ a + 1 + 8 * (uintP b a 1).1 ≤ b.length then (rdN b (a + 1).toNat (uintP b a 1).1.toNat, a + 1 + 8 * (uintP b a 1).1, true) else ([], 0, false)

theorem read25 (K : Nat) (hK : 256 < K) (b : List Int) (hl : b.length ≤ 70368744177664) (hb : Bytes b) (a : Int) : F25 K (b, a, ()) = some ((readN b a).1, (readN b a).2.1, (readN b a).2.2, ()) := by
  rw [eq25, uint18 K (by omega) b (by omega), readN]
  have hr := uintP_range hb a 1 (by omega)
  simp only [show ((1 : Nat) : Int) = 1 from rfl] at hr
  rw [show (256 : Int) ^ 1 = 256 by decide] at hr
  cases hok : (uintP b a 1).2 with
  | false => rw [if_neg (by simp)]; rfl
  | true =>
    obtain ⟨_, _, ha, ha2⟩ := uintP_ok hok
    obtain ⟨v, hv⟩ : ∃ v : Nat, (uintP b a 1).1 = v := ⟨(uintP b a 1).1.toNat, by omega⟩
    obtain ⟨a, rfl⟩ : ∃ n : Nat, a = n := ⟨a.toNat, by omega⟩
    rw [hv] at hr ⊢
    simp only [Option.bind, Bool.not_true, cond_false]
    rw [wrap64 (x := (a : Int) + 1) (by omega) (by omega), wrap64 (x := (v : Int)) (by omega) (by omega), wrap64 (x := 8 * (v : Int)) (by omega) (by omega), eq29, bt (by omega), bt (by omega), wrap64 (x := (b.length : Int) - ((a : Int) + 1)) (by omega) (by omega)]
    by_cases h : 8 * (v : Int) ≤ (b.length : Int) - ((a : Int) + 1)
    · rw [decide_eq_true h, if_pos ⟨trivial, by omega⟩, bytesOf53]
      simp only [Bool.not_true, cond_false]
      rw [decide_eq_true (show (0 : Int) ≤ v by omega), decide_eq_true (show (v : Int) ≤ v by omega), decide_eq_true (show ((8 : Nat) : Int) * (v : Int) ≤ 281474976710656 by omega), decide_eq_true (show (v : Int) ≤ 9223372036854775807 by omega), Int.toNat_natCast, List.length_replicate]
      simp only [Bool.and_self, cond_true]
      have := run25 K b hl v 0 (a + 1) K v (List.replicate v ((0, 0, 0, 0, 0, 0, 0, 0) : Nam)) (by simp) (by omega) (by omega) (by omega) (by omega) (by omega)
      rw [show (a : Int) + 1 = ((a + 1 : Nat) : Int) by omega, show (0 : Int) = ((0 : Nat) : Int) from rfl]
      simp only [show (0 : Int) = ((0 : Nat) : Int) from rfl] at this
      rw [this, Int.toNat_natCast]
      simp
    · rw [decide_eq_false h, if_neg (by rintro ⟨_, h'⟩; omega)]
      rfl

theorem read26 (K : Nat) (hK : 256 < K) (b : List Int) (hl : b.length ≤ 70368744177664) (hb : Bytes b) (a : Int) : F26 K (b, a, ()) = some ((readN b a).1, (readN b a).2.1, (readN b a).2.2, ()) := by
  rw [eq26, uint19 K (by omega) b (by omega), readN]
  have hr := uintP_range hb a 1 (by omega)
  simp only [show ((1 : Nat) : Int) = 1 from rfl] at hr
  rw [show (256 : Int) ^ 1 = 256 by decide] at hr
  cases hok : (uintP b a 1).2 with
  | false => rw [if_neg (by simp)]; rfl
  | true =>
    obtain ⟨_, _, ha, ha2⟩ := uintP_ok hok
    obtain ⟨v, hv⟩ : ∃ v : Nat, (uintP b a 1).1 = v := ⟨(uintP b a 1).1.toNat, by omega⟩
    obtain ⟨a, rfl⟩ : ∃ n : Nat, a = n := ⟨a.toNat, by omega⟩
    rw [hv] at hr ⊢
    simp only [Option.bind, Bool.not_true, cond_false]
    rw [wrap64 (x := (v : Int)) (by omega) (by omega), wrap64 (x := 8 * (v : Int)) (by omega) (by omega), wrap64 (x := (b.length : Int) - a) (by omega) (by omega), wrap64 (x := (b.length : Int) - a - 1) (by omega) (by omega)]
    by_cases h : 8 * (v : Int) > (b.length : Int) - a - 1
    · rw [bt h, if_neg (by rintro ⟨_, h'⟩; omega)]
    · rw [bf h, if_pos ⟨trivial, by omega⟩]
      have := run26 K (by omega) b hl hb a v (by omega) (by omega) v 0 K [] (by omega) (by omega) (by omega) rfl
      rw [show (0 : Int) = ((0 : Nat) : Int) from rfl, this]
      simp only
      rw [wrap64 (x := (a : Int) + 1) (by omega) (by omega), wrap64 (x := (v : Int)) (by omega) (by omega), wrap64 (x := 8 * (v : Int)) (by omega) (by omega), wrap64 (by omega) (by omega), Int.toNat_natCast,
        show ((a : Int) + 1).toNat = a + 1 by omega]
      simp

theorem readN_length (b : List Int) (hb : Bytes b) (a : Int) : (readN b a).1.length ≤ 255 := by
  unfold readN
  have hr := uintP_range hb a 1 (by omega)
  simp only [show ((1 : Nat) : Int) = 1 from rfl] at hr
  rw [show (256 : Int) ^ 1 = 256 by decide] at hr
  split
  · rw [rdN_length]; omega
  · simp

theorem awake9' : F9 300 () = some (true, ()) := by kernel_rfl

theorem names_ok (b : List Int) (l : List Nam) (a : Int) (hl : b.length ≤ 70368744177664) (hb : Bytes b) : namesL 300 b l a = some (true, ()) := by
  unfold namesL
  have := readN_length b hb a
  rw [app17 300 (by omega) b l hl, app24 300 (by omega) b l hl, read25 300 (by omega) b hl hb, read26 300 (by omega) b hl hb]
  simp only [Option.bind, strEq_refl, cond_true, beq_self_eq_true]
  rw [same14 300 _ (by omega) (by omega)]
  simp only [cond_true, awake9']

theorem great2_range (lo : Int) : 254 ≤ great2 lo ∧ great2 lo ≤ 256 := by
  have h0 : 0 ≤ IntKind.u64.wrap lo := by
    simp only [IntKind.wrap, IntKind.bits, IntKind.signed]
    simp
    omega
  have h1 : (IntKind.u64.wrap lo).tmod 3 = IntKind.u64.wrap lo % 3 := Int.tmod_eq_emod_of_nonneg h0
  unfold great2
  rw [h1]
  have := Int.emod_nonneg (IntKind.u64.wrap lo) (show (3 : Int) ≠ 0 by decide)
  have := Int.emod_lt_of_pos (IntKind.u64.wrap lo) (show (0 : Int) < 3 by decide)
  rw [wrap64 (x := IntKind.u64.wrap lo % 3) (by omega) (by omega), wrap64 (by omega) (by omega)]
  omega

theorem law7 (b : List Int) (l : List Nam) (a lo : Int) (hl : b.length ≤ 70368744177664) (hb : Bytes b) : F7 300 (b, l, a, lo, ()) = some (true, ()) := by
  rw [eq7, bytesOf53, names_ok b l a hl hb]
  have hg := great2_range lo
  rw [decide_eq_true (show 0 ≤ great2 lo by omega), decide_eq_true (show great2 lo ≤ great2 lo by omega), decide_eq_true (show ((8 : Nat) : Int) * great2 lo ≤ 281474976710656 by omega),
    decide_eq_true (show great2 lo ≤ 9223372036854775807 by omega), names_ok b _ a hl hb]
  cases (Int.tmod lo 4 == 3) <;> rfl

end Go.Proofs.Ytpjfaodemfjfjaa
