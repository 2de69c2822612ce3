/-
  CodecFresh: the plain law.
-/
import Derived.Test.YtpjfaodemfjfjaaFre2
set_option linter.unusedVariables false
namespace Go.Proofs.Ytpjfaodemfjfjaa
open Go Go.Sh Go.Proofs

theorem run4a (K : Nat) (t : ByteArray) (n : Int) (p b c : List Int) : ∀ (r i k : Nat) (a : List Int), a.length ≤ 140737488355328 → a.length - i = r → i ≤ a.length → r < k →
    ∃ a' : List Int, a'.length = a.length ∧ l4_13a K k ((t, (i : Int), (), n, ()), (p, a, b, c, ())) = some ((t, (), n, ()), (p, a', b, c, ())) := by
  intro r
  induction r with
  | zero =>
    intro i k a hl h1 h2 h3
    obtain ⟨k, rfl⟩ : ∃ k', k = k' + 1 := ⟨k - 1, by omega⟩
    refine ⟨a, rfl, ?_⟩
    rw [in4a, bf (by omega)]
  | succ r ih =>
    intro i k a hl h1 h2 h3
    obtain ⟨k, rfl⟩ : ∃ k', k = k' + 1 := ⟨k - 1, by omega⟩
    have hi : i < a.length := by omega
    have hd : (decide (0 ≤ (i : Int)) && decide ((i : Int) < (a.length : Int))) = true := by
      rw [decide_eq_true (by omega : 0 ≤ (i : Int)), decide_eq_true (by omega : (i : Int) < (a.length : Int))]; rfl
    rw [in4a, bt (by omega), hd, cond_true, Int.toNat_natCast, List.getElem?_eq_getElem hi]
    simp only [Option.bind, cond_true]
    rw [wrap64 (by omega) (by omega)]
    have e : ((i : Int) + 1) = ((i + 1 : Nat) : Int) := by omega
    rw [e]
    obtain ⟨a', hx, h⟩ := ih (i + 1) k (a.set i (flip8 a[i])) (by rw [List.length_set]; exact hl) (by rw [List.length_set]; omega) (by rw [List.length_set]; omega) (by omega)
    exact ⟨a', by rw [hx, List.length_set], h⟩

theorem run4b (K : Nat) (t : ByteArray) (n : Int) (p a c : List Int) : ∀ (r i k : Nat) (b : List Int), b.length ≤ 140737488355328 → b.length - i = r → i ≤ b.length → r < k →
    ∃ b' : List Int, b'.length = b.length ∧ l4_13b K k ((t, (i : Int), (), n, ()), (p, a, b, c, ())) = some ((t, (), n, ()), (p, a, b', c, ())) := by
  intro r
  induction r with
  | zero =>
    intro i k b hl h1 h2 h3
    obtain ⟨k, rfl⟩ : ∃ k', k = k' + 1 := ⟨k - 1, by omega⟩
    refine ⟨b, rfl, ?_⟩
    rw [in4b, bf (by omega)]
  | succ r ih =>
    intro i k b hl h1 h2 h3
    obtain ⟨k, rfl⟩ : ∃ k', k = k' + 1 := ⟨k - 1, by omega⟩
    have hi : i < b.length := by omega
    have hd : (decide (0 ≤ (i : Int)) && decide ((i : Int) < (b.length : Int))) = true := by
      rw [decide_eq_true (by omega : 0 ≤ (i : Int)), decide_eq_true (by omega : (i : Int) < (b.length : Int))]; rfl
    rw [in4b, bt (by omega), hd, cond_true, Int.toNat_natCast, List.getElem?_eq_getElem hi]
    simp only [Option.bind, cond_true]
    rw [wrap64 (by omega) (by omega)]
    have e : ((i : Int) + 1) = ((i + 1 : Nat) : Int) := by omega
    rw [e]
    obtain ⟨b', hx, h⟩ := ih (i + 1) k (b.set i (flip8 b[i])) (by rw [List.length_set]; exact hl) (by rw [List.length_set]; omega) (by rw [List.length_set]; omega) (by omega)
    exact ⟨b', by rw [hx, List.length_set], h⟩

theorem run4c (K : Nat) (t : ByteArray) (n : Int) (p a b : List Int) : ∀ (r i k : Nat) (c : List Int), c.length ≤ 140737488355328 → c.length - i = r → i ≤ c.length → r < k →
    ∃ c' : List Int, c'.length = c.length ∧ l4_13c K k ((t, (i : Int), (), n, ()), (p, a, b, c, ())) = some ((t, (), n, ()), (p, a, b, c', ())) := by
  intro r
  induction r with
  | zero =>
    intro i k c hl h1 h2 h3
    obtain ⟨k, rfl⟩ : ∃ k', k = k' + 1 := ⟨k - 1, by omega⟩
    refine ⟨c, rfl, ?_⟩
    rw [in4c, bf (by omega)]
  | succ r ih =>
    intro i k c hl h1 h2 h3
    obtain ⟨k, rfl⟩ : ∃ k', k = k' + 1 := ⟨k - 1, by omega⟩
    have hi : i < c.length := by omega
    have hd : (decide (0 ≤ (i : Int)) && decide ((i : Int) < (c.length : Int))) = true := by
      rw [decide_eq_true (by omega : 0 ≤ (i : Int)), decide_eq_true (by omega : (i : Int) < (c.length : Int))]; rfl
    rw [in4c, bt (by omega), hd, cond_true, Int.toNat_natCast, List.getElem?_eq_getElem hi]
    simp only [Option.bind, cond_true]
    rw [wrap64 (by omega) (by omega)]
    have e : ((i : Int) + 1) = ((i + 1 : Nat) : Int) := by omega
    rw [e]
    obtain ⟨c', hx, h⟩ := ih (i + 1) k (c.set i (flip8 c[i])) (by rw [List.length_set]; exact hl) (by rw [List.length_set]; omega) (by rw [List.length_set]; omega) (by omega)
    exact ⟨c', by rw [hx, List.length_set], h⟩

theorem out40 (K k : Nat) (t : ByteArray) (p a b c : List Int) : l4_10 K (k + 1) ((t, (), 0, ()), (p, a, b, c, ())) = (l4_13a K K ((t, 0, (), 0, ()), (p, a, b, c, ()))).bind fun r => l4_10 K k ((r.1.1, (), IntKind.i64.wrap (r.1.2.2.1 + 1), ()), r.2) := by kernel_rfl
theorem wr0 : IntKind.i64.wrap ((0 : Int) + 1) = 1 := by decide
theorem outA (K k : Nat) (t : ByteArray) (p a b c a' b' c' : List Int) (h : l4_13a K K ((t, ((0 : Nat) : Int), (), 0, ()), (p, a, b, c, ())) = some ((t, (), 0, ()), (p, a', b', c', ()))) :
    l4_10 K (k + 1) ((t, (), 0, ()), (p, a, b, c, ())) = l4_10 K k ((t, (), 1, ()), (p, a', b', c', ())) := by
  have h : l4_13a K K ((t, 0, (), 0, ()), (p, a, b, c, ())) = some ((t, (), 0, ()), (p, a', b', c', ())) := h
  rw [out40, h, Option.bind_some]
  simp only [wr0]
theorem out41 (K k : Nat) (t : ByteArray) (p a b c : List Int) : l4_10 K (k + 1) ((t, (), 1, ()), (p, a, b, c, ())) = (l4_13b K K ((t, 0, (), 1, ()), (p, a, b, c, ()))).bind fun r => l4_10 K k ((r.1.1, (), IntKind.i64.wrap (r.1.2.2.1 + 1), ()), r.2) := by kernel_rfl
theorem wr1 : IntKind.i64.wrap ((1 : Int) + 1) = 2 := by decide
theorem outB (K k : Nat) (t : ByteArray) (p a b c a' b' c' : List Int) (h : l4_13b K K ((t, ((0 : Nat) : Int), (), 1, ()), (p, a, b, c, ())) = some ((t, (), 1, ()), (p, a', b', c', ()))) :
    l4_10 K (k + 1) ((t, (), 1, ()), (p, a, b, c, ())) = l4_10 K k ((t, (), 2, ()), (p, a', b', c', ())) := by
  have h : l4_13b K K ((t, 0, (), 1, ()), (p, a, b, c, ())) = some ((t, (), 1, ()), (p, a', b', c', ())) := h
  rw [out41, h, Option.bind_some]
  simp only [wr1]
theorem out42 (K k : Nat) (t : ByteArray) (p a b c : List Int) : l4_10 K (k + 1) ((t, (), 2, ()), (p, a, b, c, ())) = (l4_13c K K ((t, 0, (), 2, ()), (p, a, b, c, ()))).bind fun r => l4_10 K k ((r.1.1, (), IntKind.i64.wrap (r.1.2.2.1 + 1), ()), r.2) := by kernel_rfl
theorem wr2 : IntKind.i64.wrap ((2 : Int) + 1) = 3 := by decide
theorem outC (K k : Nat) (t : ByteArray) (p a b c a' b' c' : List Int) (h : l4_13c K K ((t, ((0 : Nat) : Int), (), 2, ()), (p, a, b, c, ())) = some ((t, (), 2, ()), (p, a', b', c', ()))) :
    l4_10 K (k + 1) ((t, (), 2, ()), (p, a, b, c, ())) = l4_10 K k ((t, (), 3, ()), (p, a', b', c', ())) := by
  have h : l4_13c K K ((t, 0, (), 2, ()), (p, a, b, c, ())) = some ((t, (), 2, ()), (p, a', b', c', ())) := h
  rw [out42, h, Option.bind_some]
  simp only [wr2]
theorem out43 (K k : Nat) (t : ByteArray) (p a b c : List Int) : l4_10 K (k + 1) ((t, (), 3, ()), (p, a, b, c, ())) = some ((t, ()), (p, ())) := by kernel_rfl

theorem awake4 : F9 1200000 () = some (true, ()) := by kernel_rfl

theorem outer4 (K k : Nat) (t : ByteArray) (p a b c : List Int) (ha : a.length ≤ 140737488355328) (hb : b.length ≤ 140737488355328) (hc : c.length ≤ 140737488355328) (hka : a.length < K) (hkb : b.length < K) (hkc : c.length < K) :
    l4_10 K (k + 4) ((t, (), 0, ()), (p, a, b, c, ())) = some ((t, ()), (p, ())) := by
  obtain ⟨a', ha', h1⟩ := run4a K t 0 p b c a.length 0 K a ha (by omega) (by omega) hka
  obtain ⟨b', hb', h2⟩ := run4b K t 1 p a' c b.length 0 K b hb (by omega) (by omega) hkb
  obtain ⟨c', hc', h3⟩ := run4c K t 2 p a' b' c.length 0 K c hc (by omega) (by omega) hkc
  rw [show k + 4 = (k + 3) + 1 from rfl, outA K (k + 3) t p a b c a' b c h1, show k + 3 = (k + 2) + 1 from rfl, outB K (k + 2) t p a' b c a' b' c h2, show k + 2 = (k + 1) + 1 from rfl, outC K (k + 1) t p a' b' c a' b' c' h3, out43]

theorem law4 (a b c : List Int) (v n : Int) (m : List Nam) (h : a.length + b.length + c.length + m.length ≤ 1048576) : F4 1200000 (a, b, c, v, n, m, ()) = some (true, ()) := by
  have hw : cap4 a b = (a.length : Int) + b.length + 40 := by
    unfold cap4
    have e1 : IntKind.i64.wrap ((a.length : Int) + b.length) = (a.length : Int) + b.length := wrap64 (by omega) (by omega)
    rw [e1, wrap64 (by omega) (by omega)]
  have hbuf : buf4 a b = a ++ b := by unfold buf4; simp
  have hview : view4 a b = a := by unfold view4; rw [hbuf]; simp
  have hcl := clamp_le n
  rw [eq4, hw, hview, hbuf, bytesOf5]
  rw [decide_eq_true (by omega : (0 : Int) ≤ a.length + b.length + 40), decide_eq_true (by omega : ((1 : Nat) : Int) * ((a.length : Int) + b.length + 40) ≤ 281474976710656), decide_eq_true (by omega : (a.length : Int) + b.length + 40 ≤ 9223372036854775807),
    decide_eq_true (by omega : (0 + a.length) * 1 ≤ 140737488355328), decide_eq_true (by omega : 0 + a.length ≤ 9223372036854775807),
    decide_eq_true (by simp; omega : ((List.replicate 0 (0 : Int) ++ a).length + b.length) * 1 ≤ 140737488355328), decide_eq_true (by simp; omega : (List.replicate 0 (0 : Int) ++ a).length + b.length ≤ 9223372036854775807),
    decide_eq_true (by omega : (0 : Int) ≤ a.length), decide_eq_true (by simp; omega : (a.length : Int) ≤ ((a ++ b).length : Int))]
  simp only [Bool.and_self, cond_true]
  rw [app15 _ (by decide) a v n (by omega), app16 _ (by decide) a c (by omega), app17 _ (by decide) a m (by omega)]
  simp only [Option.bind]
  have l1 : (a ++ bytesP v (clamp n)).length = a.length + clamp n := by rw [List.length_append, bytesP_length]
  have l2 : (appP a c).1.length ≤ 1048576 + 2 := by
    unfold appP
    split
    · simp
    · simp only [List.length_append, bytesP_length]; omega
  have l3 : (appN a m).1.length ≤ 1048576 + 1 + 8 * 255 := by
    unfold appN
    split
    · simp
    · simp only [List.length_append, bytesP_length, allB_length]; omega
  rw [bf (by rw [l1]; omega), strEq_refl]
  have ho := outer4 1200000 1199996 (strOf (a ++ b)) (a ++ b) (a ++ bytesP v (clamp n)) (appP a c).1 (appN a m).1 (by omega) (by omega) (by omega) (by omega) (by omega) (by omega)
  have ho : l4_10 1200000 1200000 ((strOf (a ++ b), (), 0, ()), (a ++ b, a ++ bytesP v (clamp n), (appP a c).1, (appN a m).1, ())) = _ := ho
  rw [ho]
  simp only [Bool.not_true, cond_false, strEq_refl, cond_true, Option.bind]
  rw [awake4]

end Go.Proofs.Ytpjfaodemfjfjaa
