/-
  ItemsText: the law in plain words.
-/
import Derived.Test.YtkmbehagofjmbaaGreatItL
set_option maxRecDepth 100000
set_option linter.unusedVariables false
namespace Go.Proofs.YtkmbehagofjmbaaGreat
open Go Go.Sh Go.Proofs

def etaN (n : Nm) : Nm := (n.1, n.2.1, n.2.2.1, n.2.2.2.1, n.2.2.2.2.1, n.2.2.2.2.2.1, n.2.2.2.2.2.2.1, n.2.2.2.2.2.2.2)
def headT (l : List (List Int)) (f : Int) : List (List Int) := (l.drop 0).take (f.toNat - 0)
def tailT (l : List (List Int)) (f : Int) : List (List Int) := (l.drop f.toNat).take ((l.length : Int).toNat - f.toNat)

/-- What the law asks, once the name stands. -/
def cont5 (l : List (List Int)) (f : Int) (n : Nm) : Option (Bool × Unit) :=
  match Gtext (l, etaN n, ()) with
  | none => none
  | some r1 => match Gtext (l, etaN n, ()) with
    | none => none
    | some r2 =>
      bif okCut f l.length then
        bif true && decide ((0 + (tailT l f).length) * 24 ≤ 140737488355328) && decide (0 + (tailT l f).length ≤ 9223372036854775807) then
          bif true && decide (0 ≤ f) && decide (f ≤ (l.length : Int)) then
            bif true && decide ((([] ++ tailT l f).length + (headT l f).length) * 24 ≤ 140737488355328) && decide (([] ++ tailT l f).length + (headT l f).length ≤ 9223372036854775807) then
              match Gtext ([] ++ tailT l f ++ headT l f, etaN n, ()) with
              | none => none
              | some r3 => bif strEq (strOf r1.1) (strOf r2.1) then
                  bif r1.2.1 == r2.2.1 then
                    bif strEq (strOf r3.1) (strOf r1.1) then
                      bif r3.2.1 == r1.2.1 then some (true, ()) else some (false, ())
                    else some (false, ())
                  else some (false, ())
                else some (false, ())
            else none
          else none
        else none
      else none

theorem step5 (K k : Nat) (l : List (List Int)) (a f i : Int) (n : Nm) : l5_4 K (k + 1) ((l, a, f, i, ()), (n, ())) =
    bif decide (i < (l.length : Int)) then
      match textAt l i with
      | none => none
      | some t => bif decide ((t.length : Int) > 2000) then some (Sum.inr (((true, ()), ()))) else l5_4 K k ((l, a, f, IntKind.i64.wrap (i + 1), ()), (etaN n, ()))
    else some (Sum.inl ((l, a, f, ()), (etaN n, ()))) := by kernel_rfl

theorem end5 (K : Nat) (l : List (List Int)) (n : Nm) (a f : Int) (u : Unit) : F5 K (l, n, a, f, u) =
    bif decide ((l.length : Int) > 60) then some (true, ())
    else bif decide (f < 0) then some (true, ())
    else bif decide (f > (l.length : Int)) then some (true, ())
    else match l5_4 K K ((l, a, f, 0, ()), (etaN n, ())) with
      | none => none
      | some (.inl v) =>
        bif decide (v.1.2.1 ≥ 0) then
          bif decide (v.1.2.1 < (v.1.1.length : Int)) then
            match textAt v.1.1 v.1.2.1 with
            | none => none
            | some t => match Gsum (t, ()) with
              | none => none
              | some m => cont5 v.1.1 v.1.2.2.1 m.1
          else cont5 v.1.1 v.1.2.2.1 v.2.1
        else cont5 v.1.1 v.1.2.2.1 v.2.1
      | some (.inr v) => some (v.1.1, ()) := by kernel_rfl

theorem etaN_eq (n : Nm) : etaN n = n := rfl

theorem loop5 (K k : Nat) (l : List (List Int)) (a f : Int) (n : Nm) (hl : l.length ≤ 60) : ∀ (m i : Nat), l.length - i ≤ m → i ≤ l.length →
    l5_4 K (k + m + 1) ((l, a, f, (i : Int), ()), (n, ())) = some (.inr ((true, ()), ())) ∨
      ((∀ t ∈ l.drop i, t.length ≤ 2000) ∧ l5_4 K (k + m + 1) ((l, a, f, (i : Int), ()), (n, ())) = some (.inl ((l, a, f, ()), (n, ()))))
  | m, i, h, hi => by
    rw [step5]
    by_cases hlt : i < l.length
    · obtain ⟨m, rfl⟩ : ∃ m', m = m' + 1 := ⟨m - 1, by omega⟩
      rw [decide_eq_true (by omega : (i : Int) < (l.length : Int)), cond_true, textAt_some hlt]
      simp only
      by_cases hb : l[i].length > 2000
      · rw [decide_eq_true (by omega : (l[i].length : Int) > 2000), cond_true]
        exact .inl rfl
      · rw [decide_eq_false (by omega : ¬ (l[i].length : Int) > 2000), cond_false, wrapI (by omega) (by omega), etaN_eq]
        have e : ((i : Int) + 1) = ((i + 1 : Nat) : Int) := by omega
        rw [e]
        rcases loop5 K k l a f n hl m (i + 1) (by omega) (by omega) with h1 | ⟨h1, h2⟩
        · exact .inl h1
        · refine .inr ⟨fun t ht => ?_, h2⟩
          rw [List.drop_eq_getElem_cons hlt] at ht
          rcases List.mem_cons.1 ht with rfl | ht
          · omega
          · exact h1 t ht
    · rw [decide_eq_false (by omega), cond_false, List.drop_eq_nil_of_le (by omega)]
      exact .inr ⟨fun _ h => (by cases h), rfl⟩
  termination_by m => m

theorem strEq_of {a b : List Int} (h : L a = L b) : strEq (strOf a) (strOf b) = true := by
  rw [strEq_L, h]
  exact beq_self_eq_true _

theorem cont5_true (l : List (List Int)) (f : Int) (n : Nm) (hl : l.length ≤ 60) (ht : ∀ t ∈ l, t.length ≤ 2000) (h0 : 0 ≤ f) (h1 : f ≤ (l.length : Int)) : cont5 l f n = some (true, ()) := by
  have small_of : ∀ m : List (List Int), m.length ≤ 60 → (∀ t ∈ m, t ∈ l) → smallB m = true := by
    intro m hm hsub
    simp only [smallB, Bool.and_eq_true, decide_eq_true_eq, List.all_eq_true]
    exact ⟨by omega, fun t h => by have := ht t (hsub t h); omega⟩
  have eT : tailT l f = l.drop f.toNat := by
    unfold tailT
    rw [Int.toNat_natCast]
    exact List.take_of_length_le (by simp)
  have eH : headT l f = l.take f.toNat := by
    unfold headT
    rw [List.drop_zero, Nat.sub_zero]
  have hsum : (l.drop f.toNat).length + (l.take f.toNat).length ≤ 60 := by
    simp
    omega
  have hmem : ∀ t, t ∈ l.drop f.toNat ++ l.take f.toNat ↔ t ∈ l := by
    intro t
    rw [List.mem_append, or_comm, ← List.mem_append, List.take_append_drop]
  unfold cont5
  rw [etaN_eq, Gtext_yes (small_of l hl fun t h => h), eT, eH]
  simp only
  have hc : okCut f l.length = true := by
    simp [okCut, h0, h1]
  rw [hc, cond_true]
  have c1 : (true && decide ((0 + (l.drop f.toNat).length) * 24 ≤ 140737488355328) && decide (0 + (l.drop f.toNat).length ≤ 9223372036854775807)) = true := by
    simp only [Bool.true_and, Bool.and_eq_true, decide_eq_true_eq]
    omega
  have c2 : (true && decide (0 ≤ f) && decide (f ≤ (l.length : Int))) = true := by
    simp only [Bool.true_and, Bool.and_eq_true, decide_eq_true_eq]
    omega
  have c3 : (true && decide ((([] ++ l.drop f.toNat).length + (l.take f.toNat).length) * 24 ≤ 140737488355328) && decide (([] ++ l.drop f.toNat).length + (l.take f.toNat).length ≤ 9223372036854775807)) = true := by
    simp only [Bool.true_and, Bool.and_eq_true, decide_eq_true_eq, List.nil_append]
    omega
  rw [c1, cond_true, c2, cond_true, c3, cond_true, List.nil_append]
  rw [Gtext_yes (small_of _ (by rw [List.length_append]; exact hsum) fun t h => (hmem t).1 h)]
  simp only
  obtain ⟨p1, p2⟩ := textR_perm (nm := n) hmem
  rw [strEq_of rfl, strEq_of p2, p1, cond_true, cond_true, beq_self_eq_true, cond_true, cond_true]

theorem law5 (l : List (List Int)) (n : Nm) (a f : Int) (u : Unit) : F5 (39 + 60 + 1) (l, n, a, f, u) = some (true, ()) := by
  rw [end5]
  by_cases hl : (l.length : Int) > 60
  · rw [decide_eq_true hl]; rfl
  rw [decide_eq_false hl, cond_false]
  by_cases hf : f < 0
  · rw [decide_eq_true hf]; rfl
  rw [decide_eq_false hf, cond_false]
  by_cases hf2 : f > (l.length : Int)
  · rw [decide_eq_true hf2]; rfl
  rw [decide_eq_false hf2, cond_false, etaN_eq]
  rcases loop5 (39 + 60 + 1) 39 l a f n (by omega) 60 0 (by omega) (by omega) with h | ⟨h1, h2⟩
  · rw [show ((0 : Nat) : Int) = 0 from rfl] at h
    rw [h]
  · rw [show ((0 : Nat) : Int) = 0 from rfl] at h2
    rw [h2]
    rw [List.drop_zero] at h1
    have fin : ∀ m : Nm, cont5 l f m = some (true, ()) := fun m => cont5_true l f m (by omega) h1 (by omega) (by omega)
    simp only [fin]
    by_cases ha : a ≥ 0
    · rw [decide_eq_true ha, cond_true]
      by_cases hb : a < (l.length : Int)
      · rw [decide_eq_true hb, cond_true]
        obtain ⟨j, rfl⟩ : ∃ j : Nat, a = j := ⟨a.toNat, by omega⟩
        have hj : j < l.length := by omega
        rw [textAt_some hj]
        simp only
        rw [Gsum_yes (by have := h1 _ (List.getElem_mem hj); omega)]
      · rw [decide_eq_false hb]; rfl
    · rw [decide_eq_false ha]; rfl
end Go.Proofs.YtkmbehagofjmbaaGreat
