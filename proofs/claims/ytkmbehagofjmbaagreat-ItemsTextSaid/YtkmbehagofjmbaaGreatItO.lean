/-
  The order of byte strings.
-/
import Derived.Test.YtkmbehagofjmbaaGreatItT
set_option linter.unusedVariables false
set_option linter.unusedSimpArgs false
namespace Go.Proofs.YtkmbehagofjmbaaGreat
open Go Go.Sh Go.Proofs

abbrev bl := Op.bytesLess

theorem bl_irr : ∀ a : List UInt8, bl a a = false
  | [] => rfl
  | a :: l => by simp [bl, Op.bytesLess]; exact bl_irr l

theorem bl_trans : ∀ {a b c : List UInt8}, bl a b = true → bl b c = true → bl a c = true
  | _, [], _, h, _ => by simp [bl, Op.bytesLess] at h
  | [], _ :: _, [], _, h => by simp [bl, Op.bytesLess] at h
  | [], _ :: _, _ :: _, _, _ => rfl
  | _ :: _, _ :: _, [], _, h => by simp [bl, Op.bytesLess] at h
  | a :: x, b :: y, c :: z, h, k => by
    simp only [bl, Op.bytesLess, Bool.or_eq_true, Bool.and_eq_true, decide_eq_true_eq, beq_iff_eq] at h k ⊢
    rcases h with h | ⟨rfl, h⟩ <;> rcases k with k | ⟨rfl, k⟩
    · exact .inl (UInt8.lt_trans h k)
    · exact .inl h
    · exact .inl k
    · exact .inr ⟨rfl, bl_trans h k⟩

theorem bl_tri : ∀ {a b : List UInt8}, bl a b = false → bl b a = false → a = b
  | [], [], _, _ => rfl
  | [], _ :: _, h, _ => by simp [bl, Op.bytesLess] at h
  | _ :: _, [], _, h => by simp [bl, Op.bytesLess] at h
  | a :: x, b :: y, h, k => by
    simp only [bl, Op.bytesLess, Bool.or_eq_false_iff, decide_eq_false_iff_not, Bool.and_eq_false_iff, beq_eq_false_iff_ne] at h k
    have e : a = b := Classical.byContradiction fun hne => (UInt8.lt_or_lt_of_ne hne).elim h.1 k.1
    subst e
    have h2 := h.2.resolve_left (fun hh => hh rfl)
    have k2 := k.2.resolve_left (fun hh => hh rfl)
    rw [bl_tri h2 k2]

theorem loop_eq (bs : ByteArray) : ∀ (m i : Nat) (r : List UInt8), bs.size - i = m → ByteArray.toList.loop bs i r = r.reverse ++ bs.data.toList.drop i
  | 0, i, r, h => by
    have hs : bs.size = bs.data.toList.length := by rw [Array.length_toList]; rfl
    rw [ByteArray.toList.loop, if_neg (by omega), List.drop_eq_nil_of_le (by omega), List.append_nil]
  | m + 1, i, r, h => by
    have hs : bs.size = bs.data.toList.length := by rw [Array.length_toList]; rfl
    rw [ByteArray.toList.loop, if_pos (by omega), loop_eq bs m (i + 1) _ (by omega)]
    have hi : i < bs.data.toList.length := by omega
    rw [List.drop_eq_getElem_cons hi]
    have : bs.get! i = bs.data.toList[i] := by
      show bs.data[i]! = _
      rw [getElem!_pos bs.data i (by simpa using hi)]
      simp
    simp [this]

theorem toList_eq (bs : ByteArray) : bs.toList = bs.data.toList := by
  rw [ByteArray.toList, loop_eq bs _ 0 [] rfl]
  simp

theorem get_eq (l : List UInt8) (i : Nat) : (ByteArray.mk l.toArray)[i]! = l[i]! := by
  by_cases h : i < l.length
  · rw [getElem!_pos (ByteArray.mk l.toArray) i (by simpa [ByteArray.size] using h), getElem!_pos l i h]
    rfl
  · rw [getElem!_neg (ByteArray.mk l.toArray) i (by simpa [ByteArray.size] using h), getElem!_neg l i h]

def cmpL (a b : List UInt8) : Int :=
  match (List.range (min a.length b.length)).find? fun i => a[i]! != b[i]! with
  | some i => if a[i]! < b[i]! then -1 else 1
  | none => if a.length < b.length then -1 else if a.length > b.length then 1 else 0

theorem cmpL_less : ∀ a b : List UInt8, decide (cmpL a b < 0) = bl a b
  | a, [] => by simp [cmpL, bl, Op.bytesLess]; split <;> omega
  | [], b :: y => by simp [cmpL, bl, Op.bytesLess]
  | a :: x, b :: y => by
    have ih := cmpL_less x y
    unfold cmpL bl Op.bytesLess
    rw [show min (a :: x).length (b :: y).length = min x.length y.length + 1 by simp, List.range_succ_eq_map, List.find?_cons]
    by_cases hab : a = b
    · subst hab
      simp only [List.getElem!_cons_zero, bne_self_eq_false, List.find?_map]
      have : (fun i => (a :: x)[i]! != (a :: y)[i]!) ∘ Nat.succ = fun i => x[i]! != y[i]! := by
        funext i
        simp
      rw [this]
      have ih : decide (cmpL x y < 0) = Op.bytesLess x y := ih
      rw [← ih]
      unfold cmpL
      cases h : List.find? (fun i => x[i]! != y[i]!) (List.range (min x.length y.length)) with
      | none => simp
      | some i => simp
    · simp only [List.getElem!_cons_zero, (by simpa using hab : (a != b) = true)]
      by_cases h2 : a < b <;> simp [h2, hab]

def L (t : List Int) : List UInt8 := t.map Sh.byteOf

theorem toList_strOf (t : List Int) : (strOf t).toList = L t := by
  rw [toList_eq]
  rfl

theorem cmp_lt (a b : List Int) : decide (cmpB a b < 0) = bl (L a) (L b) := by
  rw [← cmpL_less]
  have h : cmpB a b = cmpL (L a) (L b) := by
    unfold cmpB Extern.BytealgCompare.cmp cmpL
    have e1 : ∀ i : Nat, (strOf a)[i]! = (L a)[i]! := fun i => get_eq _ i
    have e2 : ∀ i : Nat, (strOf b)[i]! = (L b)[i]! := fun i => get_eq _ i
    have e3 : (strOf a).size = (L a).length := by simp [strOf, L, ByteArray.size]
    have e4 : (strOf b).size = (L b).length := by simp [strOf, L, ByteArray.size]
    simp only [e1, e2, e3, e4]
    cases List.find? (fun i => (L a)[i]! != (L b)[i]!) (List.range (min (L a).length (L b).length)) <;> rfl
  rw [h]

theorem strLt_bl (a b : List Int) : strLt (strOf a) (strOf b) = bl (L a) (L b) := by
  unfold strLt
  rw [toList_strOf, toList_strOf]

theorem strEq_L (a b : List Int) : strEq (strOf a) (strOf b) = (L a == L b) := by
  unfold strEq
  rw [toList_strOf, toList_strOf]
end Go.Proofs.YtkmbehagofjmbaaGreat
