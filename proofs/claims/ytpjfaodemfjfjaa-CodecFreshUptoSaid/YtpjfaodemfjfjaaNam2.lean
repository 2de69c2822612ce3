/-
  The functions on lists of names answer as the law says: plain Lean over the equations.
-/
import Derived.Test.YtpjfaodemfjfjaaNam1
set_option maxRecDepth 100000
namespace Go.Proofs.Ytpjfaodemfjfjaa
open Go Go.Sh Go.Proofs

theorem nb_length (x : Nam) : (nb x).length = 8 := rfl

theorem ix_nat {α : Type} (l : List α) (i : Nat) : ix l (i : Int) = l[i]? := by
  unfold ix
  rw [bt (by omega), Int.toNat_natCast]

def allB (l : List Nam) : List Int := l.flatMap nb
theorem allB_cons (x : Nam) (l : List Nam) : allB (x :: l) = nb x ++ allB l := rfl
theorem allB_length : ∀ l : List Nam, (allB l).length = 8 * l.length
  | [] => rfl
  | x :: l => by rw [allB_cons, List.length_append, nb_length, allB_length l, List.length_cons]; omega

theorem run17 (K : Nat) (l : List Nam) (hl : l.length ≤ 65536) : ∀ (r i k : Nat) (o : List Int), l.length - i = r → i ≤ l.length → r < k → o.length + 8 * r ≤ 140737488355328 →
    l17_5 K k ((l, (l.length : Int), (i : Int), ()), o, ()) = some ((), o ++ allB (l.drop i), ()) := by
  intro r
  induction r with
  | zero =>
    intro i k o h1 h2 h3 _
    obtain ⟨k, rfl⟩ : ∃ k', k = k' + 1 := ⟨k - 1, by omega⟩
    have hi : i = l.length := by omega
    subst hi
    rw [eq17_5, bf (by omega), List.drop_length]
    simp [allB]
  | succ r ih =>
    intro i k o h1 h2 h3 h4
    obtain ⟨k, rfl⟩ : ∃ k', k = k' + 1 := ⟨k - 1, by omega⟩
    have hi : i < l.length := by omega
    rw [eq17_5, bt (by omega), ix_nat, List.getElem?_eq_getElem hi]
    simp only [Option.bind]
    rw [decide_eq_true (show (o.length + (nb l[i]).length) * 1 ≤ 140737488355328 by rw [nb_length]; omega), decide_eq_true (show o.length + (nb l[i]).length ≤ 9223372036854775807 by rw [nb_length]; omega), wrap64 (by omega) (by omega)]
    have e : ((i : Int) + 1) = ((i + 1 : Nat) : Int) := by omega
    simp only [Bool.and_self, cond_true]
    rw [e, ih (i + 1) k _ (by omega) (by omega) (by omega) (by rw [List.length_append, nb_length]; omega), List.drop_eq_getElem_cons hi, allB_cons, List.append_assoc]

theorem run24 (K : Nat) (l : List Nam) (hl : l.length ≤ 65536) : ∀ (r i k : Nat) (o : List Int), l.length - i = r → i ≤ l.length → r < k → o.length + 8 * r ≤ 140737488355328 →
    l24_5 K k ((l, (i : Int), ()), o, ()) = some ((), o ++ allB (l.drop i), ()) := by
  intro r
  induction r with
  | zero =>
    intro i k o h1 h2 h3 _
    obtain ⟨k, rfl⟩ : ∃ k', k = k' + 1 := ⟨k - 1, by omega⟩
    have hi : i = l.length := by omega
    subst hi
    rw [eq24_5, bf (by omega), List.drop_length]
    simp [allB]
  | succ r ih =>
    intro i k o h1 h2 h3 h4
    obtain ⟨k, rfl⟩ : ∃ k', k = k' + 1 := ⟨k - 1, by omega⟩
    have hi : i < l.length := by omega
    rw [eq24_5, bt (by omega), ix_nat, List.getElem?_eq_getElem hi]
    simp only [Option.bind]
    rw [decide_eq_true (show (o.length + (nb l[i]).length) * 1 ≤ 140737488355328 by rw [nb_length]; omega), decide_eq_true (show o.length + (nb l[i]).length ≤ 9223372036854775807 by rw [nb_length]; omega), wrap64 (by omega) (by omega)]
    have e : ((i : Int) + 1) = ((i + 1 : Nat) : Int) := by omega
    simp only [Bool.and_self, cond_true]
    rw [e, ih (i + 1) k _ (by omega) (by omega) (by omega) (by rw [List.length_append, nb_length]; omega), List.drop_eq_getElem_cons hi, allB_cons, List.append_assoc]

/-- What 'AppendNames' answers. -/
def appN (b : List Int) (l : List Nam) : List Int × Bool := if l.length > 255 then ([], false) else (b ++ bytesP l.length 1 ++ allB l, true)

theorem clamp1 : clamp 1 = 1 := by decide

theorem app17 (K : Nat) (hK : 256 < K) (b : List Int) (l : List Nam) (hb : b.length ≤ 70368744177664) : F17 K (b, l, ()) = some ((appN b l).1, (appN b l).2, ()) := by
  rw [eq17, appN]
  by_cases h : l.length > 255
  · rw [bt (by omega), if_pos h]
  rw [bf (by omega), if_neg h, app15 K (by omega) b _ 1 (by rw [clamp1]; omega), clamp1, wrapU (by omega) (by omega)]
  simp only [Option.bind]
  have := run17 K l (by omega) l.length 0 K (b ++ bytesP l.length 1) (by omega) (by omega) (by omega) (by rw [List.length_append, bytesP_length]; omega)
  rw [show (0 : Int) = ((0 : Nat) : Int) from rfl, this]
  rfl

theorem app24 (K : Nat) (hK : 256 < K) (b : List Int) (l : List Nam) (hb : b.length ≤ 70368744177664) : F24 K (b, l, ()) = some ((appN b l).1, (appN b l).2, ()) := by
  rw [eq24, appN]
  by_cases h : l.length > 255
  · rw [bt (by omega), if_pos h]
  rw [bf (by omega), if_neg h, app20 K (by omega) b _ 1 (by rw [clamp1]; omega), clamp1, wrapU (by omega) (by omega)]
  simp only [Option.bind]
  have := run24 K l (by omega) l.length 0 K (b ++ bytesP l.length 1) (by omega) (by omega) (by omega) (by rw [List.length_append, bytesP_length]; omega)
  rw [show (0 : Int) = ((0 : Nat) : Int) from rfl, this]
  rfl

theorem eqTy_refl (x : Nam) : eqTy NT x x = true := by simp [eqTy]

theorem run14 (K : Nat) (l : List Nam) (hl : l.length ≤ 9223372036854775807 - 1) : ∀ (r i k : Nat), l.length - i = r → i ≤ l.length → r < k → l14_4 K k ((l, l, (i : Int), ()), ()) = some (.inl ((), ())) := by
  intro r
  induction r with
  | zero =>
    intro i k h1 h2 h3
    obtain ⟨k, rfl⟩ : ∃ k', k = k' + 1 := ⟨k - 1, by omega⟩
    rw [eq14_4, bf (by omega)]
  | succ r ih =>
    intro i k h1 h2 h3
    obtain ⟨k, rfl⟩ : ∃ k', k = k' + 1 := ⟨k - 1, by omega⟩
    have hi : i < l.length := by omega
    rw [eq14_4, bt (by omega), ix_nat, List.getElem?_eq_getElem hi]
    simp only [Option.bind, eqTy_refl, Bool.not_true, cond_false]
    rw [wrap64 (by omega) (by omega), show ((i : Int) + 1) = ((i + 1 : Nat) : Int) by omega, ih (i + 1) k (by omega) (by omega) (by omega)]

theorem same14 (K : Nat) (l : List Nam) (hl : l.length < K) (hl2 : l.length ≤ 9223372036854775806) : F14 K (l, l, ()) = some (true, ()) := by
  rw [eq14]
  have := run14 K l hl2 l.length 0 K (by omega) (by omega) hl
  rw [show (0 : Int) = ((0 : Nat) : Int) from rfl, this]
  simp
end Go.Proofs.Ytpjfaodemfjfjaa
