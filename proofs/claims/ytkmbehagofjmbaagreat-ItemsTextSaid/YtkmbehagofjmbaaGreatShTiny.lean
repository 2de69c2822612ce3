/-
  sort.Slice at lists of no element or one. No project text.
-/
import Derived.Test.YtkmbehagofjmbaaGreatShDyn
namespace Go.Sh

/-- At this slice type sort.Slice leaves what lies as it lies, where there is nothing to sort. -/
def TinyOk (P : Program) (f : FuncId) (t : TypeId) : Prop :=
  ∀ (p : Option Addr) (n c : Nat), n ≤ 1 → ∀ (lf : Fn) (la lb : Array Value) (w : World),
    Calls P f #[.iface t (.slice p n c), .func lf la lb] w fun e w' => e = .returned (.tuple #[]) ∧ On w w' ∧ ∀ b, b < w.heap.size → w'.heap[b]? = w.heap[b]?

def tinySort {R : Type} (ts : List TypeId) (_d : Nat) (as : List SS) (lk : Lk) (κ : SS → List Ef → Option R) : Option R :=
  match as with
  | [.val (.one (.own i)), .val (.one (.own j))] => match lk i, lk j with
    | some (.ifc t v), some (.clo _ _) => match v with
      | .at (.slice none 0 0) => bif memN t ts then κ (.tup []) [] else none
      | .own k => match lk k with
        | some (.arr _ _ l) => bif memN t ts && Nat.ble l.length 1 then κ (.tup []) [] else none
        | _ => none
      | _ => none
    | _, _ => none
  | _ => none

theorem tinySort_det {R : Type} {ts : List TypeId} : DetSum (tinySort (R := R) ts) := by
  intro d as lk κ r h
  unfold tinySort at h
  split at h
  · rename_i i j
    split at h
    · rename_i t v g c h1 h2
      split at h
      · obtain ⟨hb, h⟩ := bif_some h
        exact ⟨_, _, h, fun κ' r' hk => by simp only [tinySort, h1, h2, hb, cond_true]; exact hk⟩
      · split at h
        · rename_i h3
          obtain ⟨hb, h⟩ := bif_some h
          exact ⟨_, _, h, fun κ' r' hk => by simp only [tinySort, h1, h2, h3, hb, cond_true]; exact hk⟩
        · cases h
      · cases h
    · cases h
  · cases h

section
variable {C : Ctx} {hd : Nat → Value} {S : St} {tmps : Array Value} {w w' : World}

/-- Something has run that leaves what lay as it lay. -/
theorem Inv.past (I : Inv C hd S tmps w) (on : On w w') (hmem : ∀ b, b < w.heap.size → w'.heap[b]? = w.heap[b]?) : Inv C hd S tmps w' :=
  I.call (K := []) (ins := []) (news := []) (hdT := hd) (W := fun _ => False) on (fun _ _ => rfl) (fun _ h => by cases h) (fun _ h => by cases h) (by simp) (fun _ h => h.elim) (fun b hb _ => hmem b hb) (fun _ h => by cases h)
    (fun _ h => by cases h) (fun _ h => by cases h)

theorem tinySort_ok {R : Type} {f : FuncId} {ts : List TypeId} (hts : ∀ t ∈ ts, TinyOk C.P f t) : SumOk C f (tinySort (R := R) ts) := by
  intro hd S lk tmps w d as vals κ r I hsub hargs hk
  have fin : ∀ (t : TypeId) (p : Option Addr) (n c : Nat) (lf : Fn) (la lb : Array Value), n ≤ 1 → memN t ts = true → κ (.tup []) [] = some r → vals = [.iface t (.slice p n c), .func lf la lb] →
      Calls C.P f vals.toArray w fun e w' => ∃ v hd' es s, e = .returned v ∧ κ s es = some r ∧ Inv C hd' (apps es S) tmps w' ∧ SSRel w' (C.F hd' (apps es S)) hd' s v := by
    intro t p n c lf la lb hn ht hk hv
    subst hv
    refine (hts t (memN_mem ht) p n c hn lf la lb w).mono ?_
    rintro e w' ⟨rfl, on, hm⟩
    exact ⟨_, hd, [], .tup [], rfl, hk, I.past on hm, #[], rfl, trivial⟩
  unfold tinySort at hk
  split at hk
  · rename_i i j
    split at hk
    · rename_i t v g c h1 h2
      match vals, hargs with
      | [x, y], ⟨hx, hy, _⟩ =>
        have hx : x = hd i ∧ isHdl x = true := hx
        have hy : y = hd j ∧ isHdl y = true := hy
        obtain ⟨xv, e1, hxv⟩ := I.objs _ (look_mem (hsub _ _ h1))
        obtain ⟨cs, e2, _⟩ := I.objs _ (look_mem (hsub _ _ h2))
        have e1 : hd i = .iface t xv := e1
        have e2 : hd j = .func (.func g) #[] cs := e2
        rw [e1] at hx
        rw [e2] at hy
        split at hk
        · obtain ⟨hb, hk⟩ := bif_some hk
          have hxv : xv = .slice none 0 0 := hxv
          exact fin t none 0 0 _ _ _ (by omega) hb hk (by rw [hx.1, hy.1, hxv])
        · split at hk
          · rename_i k _ e t' l h3
            obtain ⟨hb, hk⟩ := bif_some hk
            simp only [Bool.and_eq_true] at hb
            have hxv : xv = hd k ∧ isHdl xv = true := hxv
            obtain ⟨xs, ho, _⟩ := I.objs _ (look_mem (hsub _ _ h3))
            have ho : w.ownsRow 0 e t'.nc (hd k) l.length xs := ho
            rcases ho.2 with ⟨h4, _⟩ | ⟨g', cap, cur, h4, _⟩
            · exact fin t none 0 0 _ _ _ (by omega) hb.1 hk (by rw [hx.1, hy.1, hxv.1, h4])
            · exact fin t _ _ _ _ _ _ (Nat.le_of_ble_eq_true hb.2) hb.1 hk (by rw [hx.1, hy.1, hxv.1, h4])
          · cases hk
        · cases hk
    · cases hk
  · cases hk

end

theorem tiny_raw {P : Program} {f : FuncId} {ts : List TypeId} (hts : ∀ t ∈ ts, TinyOk P f t) : RawOk P [⟨f, fun d xs lk κ => tinySort ts d xs lk κ⟩] :=
  ⟨⟨fun C hC => tinySort_ok (by subst hC; exact hts), tinySort_det⟩, trivial⟩

end Go.Sh
