/-
  The smallest text with a name.
-/
import Derived.Test.YtkmbehagofjmbaaGreatItO
set_option maxRecDepth 100000
set_option linter.unusedVariables false
namespace Go.Proofs.YtkmbehagofjmbaaGreat
open Go Go.Sh Go.Proofs

def eqNm (a b : Nm) : Bool := eqTy (tyArr (.int .u8) 8) a b
def textAt (l : List (List Int)) (i : Int) : Option (List Int) := bif decide (0 ≤ i) then l[i.toNat]? else none

theorem step23 (K k : Nat) (best : List Int) (found : Bool) (texts : List (List Int)) (len i : Int) (nm : Nm) :
    l23_4 K (k + 1) ((best, found, texts, len, i, ()), (nm, ())) =
    bif decide (i < len) then
      match textAt texts i with
      | none => none
      | some t => match Gsum (t, ()) with
        | none => none
        | some v => bif eqNm (v.1.1, v.1.2.1, v.1.2.2.1, v.1.2.2.2.1, v.1.2.2.2.2.1, v.1.2.2.2.2.2.1, v.1.2.2.2.2.2.2.1, v.1.2.2.2.2.2.2.2) (nm.1, nm.2.1, nm.2.2.1, nm.2.2.2.1, nm.2.2.2.2.1, nm.2.2.2.2.2.1, nm.2.2.2.2.2.2.1, nm.2.2.2.2.2.2.2) then
            bif !found then l23_4 K k ((t, true, texts, len, IntKind.i64.wrap (i + 1), ()), ((nm.1, nm.2.1, nm.2.2.1, nm.2.2.2.1, nm.2.2.2.2.1, nm.2.2.2.2.2.1, nm.2.2.2.2.2.2.1, nm.2.2.2.2.2.2.2), ()))
            else bif decide (cmpB t best < 0) then l23_4 K k ((t, true, texts, len, IntKind.i64.wrap (i + 1), ()), ((nm.1, nm.2.1, nm.2.2.1, nm.2.2.2.1, nm.2.2.2.2.1, nm.2.2.2.2.2.1, nm.2.2.2.2.2.2.1, nm.2.2.2.2.2.2.2), ()))
            else l23_4 K k ((best, found, texts, len, IntKind.i64.wrap (i + 1), ()), ((nm.1, nm.2.1, nm.2.2.1, nm.2.2.2.1, nm.2.2.2.2.1, nm.2.2.2.2.2.1, nm.2.2.2.2.2.2.1, nm.2.2.2.2.2.2.2), ()))
          else l23_4 K k ((best, found, texts, len, IntKind.i64.wrap (i + 1), ()), ((nm.1, nm.2.1, nm.2.2.1, nm.2.2.2.1, nm.2.2.2.2.1, nm.2.2.2.2.2.1, nm.2.2.2.2.2.2.1, nm.2.2.2.2.2.2.2), ()))
    else some ((best, found, ()), ()) := by kernel_rfl

theorem step24 (K k : Nat) (best : List Int) (found : Bool) (texts : List (List Int)) (i : Int) (nm : Nm) :
    l24_4 K (k + 1) ((texts, best, found, i, ()), (nm, ())) =
    bif decide (i < (texts.length : Int)) then
      match textAt texts i with
      | none => none
      | some t => match Gsum (t, ()) with
        | none => none
        | some v => bif eqNm (v.1.1, v.1.2.1, v.1.2.2.1, v.1.2.2.2.1, v.1.2.2.2.2.1, v.1.2.2.2.2.2.1, v.1.2.2.2.2.2.2.1, v.1.2.2.2.2.2.2.2) (nm.1, nm.2.1, nm.2.2.1, nm.2.2.2.1, nm.2.2.2.2.1, nm.2.2.2.2.2.1, nm.2.2.2.2.2.2.1, nm.2.2.2.2.2.2.2) then
            bif !found then
              match textAt texts i with
              | none => none
              | some t => l24_4 K k ((texts, t, true, IntKind.i64.wrap (i + 1), ()), ((nm.1, nm.2.1, nm.2.2.1, nm.2.2.2.1, nm.2.2.2.2.1, nm.2.2.2.2.2.1, nm.2.2.2.2.2.2.1, nm.2.2.2.2.2.2.2), ()))
            else match textAt texts i with
              | none => none
              | some u => bif strLt (strOf u) (strOf best) then
                  match textAt texts i with
                  | none => none
                  | some t => l24_4 K k ((texts, t, true, IntKind.i64.wrap (i + 1), ()), ((nm.1, nm.2.1, nm.2.2.1, nm.2.2.2.1, nm.2.2.2.2.1, nm.2.2.2.2.2.1, nm.2.2.2.2.2.2.1, nm.2.2.2.2.2.2.2), ()))
                else l24_4 K k ((texts, best, found, IntKind.i64.wrap (i + 1), ()), ((nm.1, nm.2.1, nm.2.2.1, nm.2.2.2.1, nm.2.2.2.2.1, nm.2.2.2.2.2.1, nm.2.2.2.2.2.2.1, nm.2.2.2.2.2.2.2), ()))
          else l24_4 K k ((texts, best, found, IntKind.i64.wrap (i + 1), ()), ((nm.1, nm.2.1, nm.2.2.1, nm.2.2.2.1, nm.2.2.2.2.1, nm.2.2.2.2.2.1, nm.2.2.2.2.2.2.1, nm.2.2.2.2.2.2.2), ()))
    else some ((best, found, ()), ()) := by kernel_rfl

theorem end23 (K : Nat) (texts : List (List Int)) (nm : Nm) (u : Unit) : F23 K (texts, nm, u) =
    match l23_4 K K (([], false, texts, (texts.length : Int), 0, ()), ((nm.1, nm.2.1, nm.2.2.1, nm.2.2.2.1, nm.2.2.2.2.1, nm.2.2.2.2.2.1, nm.2.2.2.2.2.2.1, nm.2.2.2.2.2.2.2), ())) with
    | none => none
    | some v => match G52 (v.1.1, ()) with
      | none => none
      | some b => some (b.1, v.1.2.1, ()) := by kernel_rfl

theorem end24 (K : Nat) (texts : List (List Int)) (nm : Nm) (u : Unit) : F24 K (texts, nm, u) =
    match l24_4 K K ((texts, [], false, 0, ()), ((nm.1, nm.2.1, nm.2.2.1, nm.2.2.2.1, nm.2.2.2.2.1, nm.2.2.2.2.2.1, nm.2.2.2.2.2.2.1, nm.2.2.2.2.2.2.2), ())) with
    | none => none
    | some v => bif true && decide ((0 + v.1.1.length) * 1 ≤ 140737488355328) && decide (0 + v.1.1.length ≤ 9223372036854775807) then some ([] ++ v.1.1, v.1.2.1, ()) else none := by kernel_rfl

def pickT (nm : Nm) (p : List Int × Bool) (t : List Int) : List Int × Bool :=
  bif eqNm (sumN t) nm then (bif !p.2 then (t, true) else bif bl (L t) (L p.1) then (t, true) else p) else p

def textR (nm : Nm) (l : List (List Int)) : List Int × Bool := l.foldl (pickT nm) ([], false)

def small (l : List (List Int)) : Prop := l.length ≤ 4611686018427387904 ∧ ∀ t ∈ l, t.length ≤ 140737488355328

theorem textAt_some {l : List (List Int)} {i : Nat} (h : i < l.length) : textAt l (i : Int) = some l[i] := by
  unfold textAt
  rw [decide_eq_true (by omega : (0 : Int) ≤ (i : Int)), cond_true, Int.toNat_natCast, List.getElem?_eq_getElem h]

theorem loop23 (K k : Nat) (texts : List (List Int)) (nm : Nm) (hs : small texts) : ∀ (m i : Nat) (p : List Int × Bool), texts.length - i ≤ m → i ≤ texts.length →
    l23_4 K (k + m + 1) ((p.1, p.2, texts, (texts.length : Int), (i : Int), ()), (nm, ())) = some ((((texts.drop i).foldl (pickT nm) p).1, ((texts.drop i).foldl (pickT nm) p).2, ()), ())
  | m, i, p, h, hi => by
    rw [step23]
    by_cases hlt : i < texts.length
    · obtain ⟨m, rfl⟩ : ∃ m', m = m' + 1 := ⟨m - 1, by omega⟩
      have hl1 := hs.1
      have hl2 := hs.2 _ (List.getElem_mem hlt)
      have ih := fun q => loop23 K k texts nm hs m (i + 1) q (by omega) (by omega)
      rw [decide_eq_true (by omega : (i : Int) < (texts.length : Int)), cond_true, textAt_some hlt]
      simp only
      rw [Gsum_yes (by omega), wrapI (by omega) (by omega), List.drop_eq_getElem_cons hlt, List.foldl_cons, cmp_lt]
      simp only
      have e : ((i : Int) + 1) = ((i + 1 : Nat) : Int) := by omega
      rw [e]
      rw [show pickT nm p texts[i] = (bif eqNm (sumN texts[i]) nm then (bif !p.2 then (texts[i], true) else bif bl (L texts[i]) (L p.1) then (texts[i], true) else p) else p) from rfl]
      cases h1 : eqNm (sumN texts[i]) nm with
      | false =>
        rw [cond_false, cond_false]
        exact ih p
      | true =>
        rw [cond_true, cond_true]
        cases h2 : (!p.2) with
        | true => rw [cond_true, cond_true]; exact ih (texts[i], true)
        | false =>
          rw [cond_false, cond_false]
          cases h3 : bl (L texts[i]) (L p.1) with
          | true => rw [cond_true, cond_true]; exact ih (texts[i], true)
          | false => rw [cond_false, cond_false]; exact ih p
    · rw [decide_eq_false (by omega), cond_false, List.drop_eq_nil_of_le (by omega)]
      rfl
  termination_by m => m

theorem loop24 (K k : Nat) (texts : List (List Int)) (nm : Nm) (hs : small texts) : ∀ (m i : Nat) (p : List Int × Bool), texts.length - i ≤ m → i ≤ texts.length →
    l24_4 K (k + m + 1) ((texts, p.1, p.2, (i : Int), ()), (nm, ())) = some ((((texts.drop i).foldl (pickT nm) p).1, ((texts.drop i).foldl (pickT nm) p).2, ()), ())
  | m, i, p, h, hi => by
    rw [step24]
    by_cases hlt : i < texts.length
    · obtain ⟨m, rfl⟩ : ∃ m', m = m' + 1 := ⟨m - 1, by omega⟩
      have hl1 := hs.1
      have hl2 := hs.2 _ (List.getElem_mem hlt)
      have ih := fun q => loop24 K k texts nm hs m (i + 1) q (by omega) (by omega)
      rw [decide_eq_true (by omega : (i : Int) < (texts.length : Int)), cond_true, textAt_some hlt]
      simp only
      rw [Gsum_yes (by omega), wrapI (by omega) (by omega), List.drop_eq_getElem_cons hlt, List.foldl_cons, strLt_bl]
      simp only
      have e : ((i : Int) + 1) = ((i + 1 : Nat) : Int) := by omega
      rw [e]
      rw [show pickT nm p texts[i] = (bif eqNm (sumN texts[i]) nm then (bif !p.2 then (texts[i], true) else bif bl (L texts[i]) (L p.1) then (texts[i], true) else p) else p) from rfl]
      cases h1 : eqNm (sumN texts[i]) nm with
      | false =>
        rw [cond_false, cond_false]
        exact ih p
      | true =>
        rw [cond_true, cond_true]
        cases h2 : (!p.2) with
        | true => rw [cond_true, cond_true]; exact ih (texts[i], true)
        | false =>
          rw [cond_false, cond_false]
          cases h3 : bl (L texts[i]) (L p.1) with
          | true => rw [cond_true, cond_true]; exact ih (texts[i], true)
          | false => rw [cond_false, cond_false]; exact ih p
    · rw [decide_eq_false (by omega), cond_false, List.drop_eq_nil_of_le (by omega)]
      rfl
  termination_by m => m
end Go.Proofs.YtkmbehagofjmbaaGreat
