/-
  The functions on byte strings answer as the law says: plain Lean over the equations.
-/
import Derived.Test.YtpjfaodemfjfjaaStr
set_option maxRecDepth 100000
namespace Go.Proofs.Ytpjfaodemfjfjaa
open Go Go.Sh Go.Proofs

/-- A list of bytes. -/
def Bytes (l : List Int) : Prop := ∀ n ∈ l, 0 ≤ n ∧ n < 256

theorem step_eq {a c : Int} (h1 : 0 ≤ a) (h2 : a < 72057594037927936) (h3 : 0 ≤ c) (h4 : c < 256) : step a c = a * 256 + c := by
  obtain ⟨a, rfl⟩ : ∃ n : Nat, a = n := ⟨a.toNat, by omega⟩
  obtain ⟨c, rfl⟩ : ∃ n : Nat, c = n := ⟨c.toNat, by omega⟩
  have e1 : shl .u64 (a : Int) 8 = ((a * 256 : Nat) : Int) := by
    show IntKind.u64.wrap ((a : Int) * 2 ^ 8) = _
    rw [wrapU (by omega) (by omega)]
    omega
  have e2 : IntKind.u64.wrap (c : Int) = (c : Int) := wrapU (by omega) (by omega)
  have e3 : (BitVec.ofInt 64 ((a * 256 : Nat) : Int) ||| BitVec.ofInt 64 (c : Int)).toNat = a * 256 + c := by
    rw [BitVec.toNat_or]
    have q1 : (BitVec.ofInt 64 ((a * 256 : Nat) : Int)).toNat = a * 256 := by simp only [BitVec.ofInt_natCast, BitVec.toNat_ofNat]; omega
    have q2 : (BitVec.ofInt 64 (c : Int)).toNat = c := by simp only [BitVec.ofInt_natCast, BitVec.toNat_ofNat]; omega
    rw [q1, q2]
    have := Nat.two_pow_add_eq_or_of_lt (i := 8) (b := c) (by omega) a
    rw [show a * 256 = 2 ^ 8 * a by omega, ← this]
  unfold step
  rw [e1, e2, e3, wrapU (by omega) (by omega)]
  omega

theorem pow_mono {m n : Nat} (h : m ≤ n) : (256 : Int) ^ m ≤ 256 ^ n := by
  have e : ∀ k : Nat, (256 : Int) ^ k = ((256 ^ k : Nat) : Int) := fun k => by simp
  rw [e, e]
  exact Int.ofNat_le.2 (Nat.pow_le_pow_right (by omega) h)

theorem fold_range : ∀ (l : List Int) (v : Int) (m : Nat), Bytes l → 0 ≤ v → v < 256 ^ m → m + l.length ≤ 8 → 0 ≤ l.foldl step v ∧ l.foldl step v < 256 ^ (m + l.length)
  | [], v, m, _, h1, h2, _ => ⟨h1, h2⟩
  | c :: l, v, m, hb, h1, h2, h3 => by
    have hc := hb c (List.mem_cons_self ..)
    simp only [List.length_cons] at h3
    have h7 : (256 : Int) ^ m ≤ 256 ^ 7 := pow_mono (by omega)
    have h8 : (256 : Int) ^ (m + 1) = 256 ^ m * 256 := Int.pow_succ ..
    have hs := step_eq h1 (by omega) hc.1 hc.2
    have := fold_range l (step v c) (m + 1) (fun n hn => hb n (List.mem_cons_of_mem _ hn)) (by rw [hs]; omega) (by rw [hs, h8]; omega) (by omega)
    rw [List.length_cons, show m + (l.length + 1) = m + 1 + l.length by omega]
    exact this

theorem uintP_range {b : List Int} (hb : Bytes b) (a : Int) (w : Nat) (hw : w ≤ 8) : 0 ≤ (uintP b a w).1 ∧ (uintP b a w).1 < 256 ^ w := by
  unfold uintP
  have hp : (0 : Int) < 256 ^ w := Int.pow_pos (by omega)
  split
  · have := fold_range ((b.drop a.toNat).take w) 0 0 (fun n hn => hb n (List.mem_of_mem_drop (List.mem_of_mem_take hn))) (by omega) (by decide) (by simp; omega)
    refine ⟨this.1, Int.lt_of_lt_of_le this.2 ?_⟩
    exact pow_mono (by simp; omega)
  · exact ⟨by simp, hp⟩

theorem uintP_ok {b : List Int} {a w : Int} (h : (uintP b a w).2 = true) : 1 ≤ w ∧ w ≤ 8 ∧ 0 ≤ a ∧ a + w ≤ b.length := by
  unfold uintP at h
  split at h
  · assumption
  · cases h

/-- What 'AppendBytes' answers. -/
def appP (b p : List Int) : List Int × Bool := if p.length > 65535 then ([], false) else (b ++ bytesP p.length 2 ++ p, true)

theorem clamp2 : clamp 2 = 2 := by decide

theorem app16 (K : Nat) (hK : 8 < K) (b p : List Int) (hb : b.length ≤ 70368744177664) : F16 K (b, p, ()) = some ((appP b p).1, (appP b p).2, ()) := by
  rw [eq16, appP]
  by_cases h : p.length > 65535
  · rw [bt (by omega), if_pos h]
  rw [bf (by omega), if_neg h, app15 K hK b _ 2 (by rw [clamp2]; omega), clamp2, wrapU (by omega) (by omega)]
  simp only [Option.bind, List.length_append, bytesP_length, Nat.mul_one, Bool.true_and]
  rw [decide_eq_true (show b.length + 2 + p.length ≤ 140737488355328 by omega), decide_eq_true (show b.length + 2 + p.length ≤ 9223372036854775807 by omega)]
  rfl

theorem app21 (K : Nat) (hK : 8 < K) (b p : List Int) (hb : b.length ≤ 70368744177664) : F21 K (b, p, ()) = some ((appP b p).1, (appP b p).2, ()) := by
  rw [eq21, appP]
  by_cases h : p.length > 65535
  · rw [bt (by omega), if_pos h]
  rw [bf (by omega), if_neg h, app20 K hK b _ 2 (by rw [clamp2]; omega), clamp2, wrapU (by omega) (by omega)]
  simp only [Option.bind, List.length_append, bytesP_length, Nat.mul_one, Bool.true_and]
  rw [decide_eq_true (show b.length + 2 + p.length ≤ 140737488355328 by omega), decide_eq_true (show b.length + 2 + p.length ≤ 9223372036854775807 by omega)]
  rfl

/-- What 'Bytes' answers. -/
def readP (b : List Int) (a : Int) : List Int × Int × Bool :=
  if (uintP b a 2).2 = true ∧ a + 2 + (uintP b a 2).1 ≤ b.length then (sub b (a + 2) (a + 2 + (uintP b a 2).1), a + 2 + (uintP b a 2).1, true) else ([], 0, false)

theorem sub_length (b : List Int) (i j : Int) : (sub b i j).length ≤ b.length := by simp [sub]; omega

theorem read22 (K : Nat) (hK : 8 < K) (b : List Int) (hl : b.length ≤ 70368744177664) (hb : Bytes b) (a : Int) : F22 K (b, a, ()) = some ((readP b a).1, (readP b a).2.1, (readP b a).2.2, ()) := by
  rw [eq22, uint18 K hK b (by omega), readP]
  have hr := uintP_range hb a 2 (by omega)
  simp only [show ((2 : Nat) : Int) = 2 from rfl] at hr
  have h16 : (256 : Int) ^ 2 = 65536 := by decide
  rw [h16] at hr
  cases hok : (uintP b a 2).2 with
  | false => rw [if_neg (by simp)]; rfl
  | true =>
    obtain ⟨_, _, ha, ha2⟩ := uintP_ok hok
    simp only [Option.bind, Bool.not_true, cond_false]
    rw [wrap64 (x := a + 2) (by omega) (by omega), wrap64 (x := (uintP b a 2).1) (by omega) (by omega), eq29, bt (by omega), bt (by omega), wrap64 (x := (b.length : Int) - (a + 2)) (by omega) (by omega)]
    by_cases h : (uintP b a 2).1 ≤ (b.length : Int) - (a + 2)
    · rw [decide_eq_true h, wrap64 (x := a + 2 + (uintP b a 2).1) (by omega) (by omega), if_pos ⟨trivial, by omega⟩]
      simp only [Bool.not_true, cond_false]
      have hs := sub_length b (a + 2) (a + 2 + (uintP b a 2).1)
      rw [decide_eq_true (show 0 ≤ a + 2 by omega), decide_eq_true (show a + 2 ≤ a + 2 + (uintP b a 2).1 by omega), decide_eq_true (show a + 2 + (uintP b a 2).1 ≤ (b.length : Int) by omega),
        decide_eq_true (show (0 + (sub b (a + 2) (a + 2 + (uintP b a 2).1)).length) * 1 ≤ 140737488355328 by omega), decide_eq_true (show 0 + (sub b (a + 2) (a + 2 + (uintP b a 2).1)).length ≤ 9223372036854775807 by omega)]
      rfl
    · rw [decide_eq_false h, if_neg (by rintro ⟨_, h'⟩; omega)]
      rfl

theorem read23 (K : Nat) (hK : 8 < K) (b : List Int) (hl : b.length ≤ 70368744177664) (hb : Bytes b) (a : Int) : F23 K (b, a, ()) = some ((readP b a).1, (readP b a).2.1, (readP b a).2.2, ()) := by
  rw [eq23, uint19 K hK b (by omega), readP]
  have hr := uintP_range hb a 2 (by omega)
  simp only [show ((2 : Nat) : Int) = 2 from rfl] at hr
  have h16 : (256 : Int) ^ 2 = 65536 := by decide
  rw [h16] at hr
  cases hok : (uintP b a 2).2 with
  | false => rw [if_neg (by simp)]; rfl
  | true =>
    obtain ⟨_, _, ha, ha2⟩ := uintP_ok hok
    simp only [Option.bind, Bool.not_true, cond_false]
    rw [wrap64 (x := a + 2) (by omega) (by omega), wrap64 (x := (uintP b a 2).1) (by omega) (by omega), wrap64 (x := (b.length : Int) - a) (by omega) (by omega), wrap64 (x := (b.length : Int) - a - 2) (by omega) (by omega)]
    by_cases h : (uintP b a 2).1 > (b.length : Int) - a - 2
    · rw [bt h, if_neg (by rintro ⟨_, h'⟩; omega)]
    · rw [bf h, wrap64 (x := a + 2 + (uintP b a 2).1) (by omega) (by omega), if_pos ⟨trivial, by omega⟩]
      have hs := sub_length b (a + 2) (a + 2 + (uintP b a 2).1)
      rw [decide_eq_true (show 0 ≤ a + 2 by omega), decide_eq_true (show a + 2 ≤ a + 2 + (uintP b a 2).1 by omega), decide_eq_true (show a + 2 + (uintP b a 2).1 ≤ (b.length : Int) by omega),
        decide_eq_true (show (0 + (sub b (a + 2) (a + 2 + (uintP b a 2).1)).length) * 1 ≤ 140737488355328 by omega), decide_eq_true (show 0 + (sub b (a + 2) (a + 2 + (uintP b a 2).1)).length ≤ 9223372036854775807 by omega)]
      rfl

theorem strings_ok (b p : List Int) (a : Int) (hl : b.length ≤ 70368744177664) (hb : Bytes b) : strings 16 b p a = some (true, ()) := by
  unfold strings
  rw [app16 16 (by omega) b p hl, app21 16 (by omega) b p hl, read22 16 (by omega) b hl hb, read23 16 (by omega) b hl hb]
  simp only [Option.bind, strEq_refl, cond_true, beq_self_eq_true, awake9]

theorem great_range (lo : Int) : 65534 ≤ great lo ∧ great lo ≤ 65536 := by
  have h0 : 0 ≤ IntKind.u64.wrap lo := by
    simp only [IntKind.wrap, IntKind.bits, IntKind.signed]
    simp
    omega
  have h1 : (IntKind.u64.wrap lo).tmod 3 = IntKind.u64.wrap lo % 3 := Int.tmod_eq_emod_of_nonneg h0
  unfold great
  rw [h1]
  have := Int.emod_nonneg (IntKind.u64.wrap lo) (show (3 : Int) ≠ 0 by decide)
  have := Int.emod_lt_of_pos (IntKind.u64.wrap lo) (show (0 : Int) < 3 by decide)
  rw [wrap64 (x := IntKind.u64.wrap lo % 3) (by omega) (by omega), wrap64 (by omega) (by omega)]
  omega

theorem law6 (b p : List Int) (a lo : Int) (hl : b.length ≤ 70368744177664) (hb : Bytes b) : F6 16 (b, p, a, lo, ()) = some (true, ()) := by
  rw [eq6, bytesOf5, strings_ok b p a hl hb]
  have hg := great_range lo
  rw [decide_eq_true (show 0 ≤ great lo by omega), decide_eq_true (show great lo ≤ great lo by omega), decide_eq_true (show ((1 : Nat) : Int) * great lo ≤ 281474976710656 by omega),
    decide_eq_true (show great lo ≤ 9223372036854775807 by omega), strings_ok b _ a hl hb]
  cases (Int.tmod lo 4 == 3) <;> rfl

end Go.Proofs.Ytpjfaodemfjfjaa
