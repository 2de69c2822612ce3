/-
  A region that draws its order, IV: every order serves. No project text.
-/
import Derived.Test.YtkmbehagofjmbaaGreatShDraw3
namespace Go.Sh

section
variable {R : Type} {C : Ctx} {ds : List Deferred} {E : Sums R} {os : Array Oper}

theorem any_ok (hE : ∀ f g, E f = some g → SumOk C f g) (hQ : ∀ f g, E f = some g → DetSum g) (hd0 : drawOk C.P os = true) {Q : Exit → Act → World → Prop} {κ : St → Option R} {r : R}
    (hK : ∀ hd' S' tmps' w', κ S' = some r → Inv C hd' S' tmps' w' → Q .normal { tmps := tmps', defers := ds } w') :
    ∀ (fuel : Nat) (listed : Array Bool) (H : List Fp) (hd : Nat → Value) (S : St) (tmps : Array Value) (w : World), listed.size = os.size → Closed os listed → (rest os listed).length = fuel → Inv C hd S tmps w →
      opsD C.P E os (befores os.toList []) (rest os listed) H S κ = some r → wpAny C.P .any os Q fuel listed { tmps, defers := ds } w := by
  simp only [drawOk, Bool.and_eq_true] at hd0
  obtain ⟨_, hall⟩ := hd0
  have chk := fun (i : Nat) (o : Oper) (hi : os[i]? = some o) => all_zipIdx hall (i := i) (o := o) (by simpa using hi)
  have hbef : ∀ k m, (befores os.toList [])[k]? = some m → ∀ j, m.testBit j = true → Needs os k j := befores_ok os.toList [] (by simp) (by simp)
  have hneeds : ∀ k j, ((befores os.toList []).getD k 0).testBit j = true → Needs os k j := by
    intro k j h
    cases hq : (befores os.toList [])[k]? with
    | none => simp [List.getD, hq] at h
    | some m => exact hbef k m hq j (by simpa [List.getD, hq] using h)
  have hrest : ∀ (listed : Array Bool) (i : Nat), i ∈ rest os listed ↔ i < os.size ∧ listed.getD i true = false := by
    intro listed i; simp [rest]
  have hready : ∀ (listed : Array Bool) (i : Nat), i ∈ Region.ready .any os listed ↔ i ∈ rest os listed ∧ DepsListed os i listed := by
    intro listed i
    simp only [Region.ready, List.mem_filter, List.mem_range, hrest, Bool.and_eq_true, Bool.not_eq_true']
    constructor
    · rintro ⟨h1, h2, h3⟩
      refine ⟨⟨h1, h2⟩, fun o ho e he hbd => ?_⟩
      rw [ho] at h3
      simp only [Option.map_some, Option.getD_some, Array.all_eq_true'] at h3
      have := h3 e he
      rw [hbd] at this
      simpa using this
    · rintro ⟨⟨h1, h2⟩, h3⟩
      refine ⟨h1, h2, ?_⟩
      have ho : os[i]? = some os[i] := by simp [h1]
      rw [ho]
      simp only [Option.map_some, Option.getD_some, Array.all_eq_true']
      intro e he
      cases hbd : Region.binds .any e with
      | false => rfl
      | true => simp [h3 _ ho e he hbd]
  have hfalse : ∀ (listed : Array Bool) (i : Nat), listed.size = os.size → i < os.size → (listed.getD i false = true ↔ ¬ listed.getD i true = false) := by
    intro listed i hsz hi
    have : listed[i]? = some (listed[i]'(by omega)) := by simp [hsz, hi]
    simp [Array.getD_eq_getD_getElem?, this]
  intro fuel
  induction fuel with
  | zero =>
    intro listed H hd S tmps w hsz hc hf I h
    have h0 : rest os listed = [] := List.eq_nil_of_length_eq_zero hf
    rw [h0] at h
    refine ⟨?_, hK _ _ _ _ h I⟩
    cases hr : Region.ready .any os listed with
    | nil => rfl
    | cons i l => have := ((hready listed i).1 (by rw [hr]; exact .head _)).1; rw [h0] at this; cases this
  | succ fuel ih =>
    intro listed H hd S tmps w hsz hc hf I h
    refine ⟨?_, ?_⟩
    · intro hr
      -- the least one that is left is ready
      exfalso
      cases hrs : rest os listed with
      | nil => rw [hrs] at hf; cases hf
      | cons i l =>
        have hs := rest_sorted os listed
        rw [hrs] at hs
        have hi : i ∈ rest os listed := by rw [hrs]; exact .head _
        have hi' := (hrest listed i).1 hi
        have : i ∈ Region.ready .any os listed := by
          refine (hready listed i).2 ⟨hi, fun o ho e he hbd => ?_⟩
          have hb2 := (Array.all_eq_true'.1 (chk i o ho)) e he
          have hlt : e.on < i := by simpa [hbd, Nat.blt_eq] using hb2
          rw [hfalse listed e.on hsz (by omega)]
          intro hn
          have hin : e.on ∈ rest os listed := (hrest listed e.on).2 ⟨by omega, hn⟩
          rw [hrs] at hin
          rcases List.mem_cons.1 hin with h1 | h1
          · omega
          · have := (List.pairwise_cons.1 hs).1 e.on h1; omega
        rw [hr] at this; cases this
    · intro i hi
      obtain ⟨hir, hdeps⟩ := (hready listed i).1 hi
      obtain ⟨hilt, _⟩ := (hrest listed i).1 hir
      obtain ⟨A, B, hAB⟩ := List.append_of_mem hir
      have ho : os[i]? = some os[i] := by simp [hilt]
      have hset := rest_set hir hsz hAB
      have hA : ∀ a ∈ A, a < i ∧ a < os.size ∧ ¬ listed.getD a false = true := by
        intro a ha
        have hs := rest_sorted os listed
        rw [hAB] at hs
        have h1 := (List.pairwise_append.1 hs).2.2 a ha i (.head _)
        have h2 := (hrest listed a).1 (by rw [hAB]; exact List.mem_append_left _ ha)
        exact ⟨h1, h2.1, fun h3 => (hfalse listed a hsz h2.1).1 h3 h2.2⟩
      have hclosed : Closed os (listed.setIfInBounds i true) := by
        have hmono : ∀ k, listed.getD k false = true → (listed.setIfInBounds i true).getD k false = true := by
          intro k hk
          by_cases hki : i = k
          · subst hki; simp [Array.getD_eq_getD_getElem?, hsz, hilt]
          · simpa [Array.getD_eq_getD_getElem?, Array.getElem?_setIfInBounds_ne hki] using hk
        intro k hk o hok e he hbd
        by_cases hki : i = k
        · subst hki; exact hmono _ (hdeps o hok e he hbd)
        · refine hmono _ (hc k ?_ o hok e he hbd)
          simpa [Array.getD_eq_getD_getElem?, Array.getElem?_setIfInBounds_ne hki] using hk
      have hlen : (rest os (listed.setIfInBounds i true)).length = fuel := by
        rw [hset]
        have := congrArg List.length hAB
        simp only [List.length_append, List.length_cons, hf] at this ⊢
        omega
      rw [hAB] at h
      have hbit : ∀ a ∈ A, ((befores os.toList []).getD i 0).testBit a = false := by
        intro a ha
        cases hb : ((befores os.toList []).getD i 0).testBit a with
        | false => rfl
        | true => exact absurd (hneeds i a hb listed hc hdeps) (hA a ha).2.2
      obtain ⟨v, es, hy, _, hr⟩ := take_first hQ ho A hbit h
      have next : ∀ hd' S' tmps' w', (fun S' => opsD C.P E os (befores os.toList []) (A ++ B) (fpOf os i os[i] S v es :: H) S' κ) S' = some r → Inv C hd' S' tmps' w' →
          wpAny C.P .any os Q fuel (listed.setIfInBounds i true) { tmps := tmps', defers := ds } w' := by
        intro hd' S' tmps' w' hk I'
        exact ih _ _ hd' S' tmps' w' (by simp [hsz]) hclosed hlen I' (by rw [hset]; exact hk)
      exact step2_wp hE ho I (κ := fun S' => opsD C.P E os (befores os.toList []) (A ++ B) (fpOf os i os[i] S v es :: H) S' κ) (hy S (Agr.refl _ _) (fun v es S' => opsD C.P E os (befores os.toList []) (A ++ B) (fpOf os i os[i] S _ _ :: H) (setDst os[i] v (apps es S')) κ) r hr) next

theorem draw_wp (hE : ∀ f g, E f = some g → SumOk C f g) (hQ : ∀ f g, E f = some g → DetSum g) (hd0 : drawOk C.P os = true) {Q : Exit → Act → World → Prop} {κ : St → Option R} {r : R} {id : Nat}
    (hK : ∀ hd' S' tmps' w', κ S' = some r → Inv C hd' S' tmps' w' → Q .normal { tmps := tmps', defers := ds } w') {hd : Nat → Value} {S : St} {tmps : Array Value} {w : World} (I : Inv C hd S tmps w)
    (h : opsD C.P E os (befores os.toList []) (List.range os.size) [] S κ = some r) : (Code.region id os true).wp C.P Q { tmps, defers := ds } w := by
  have hm : C.P.follows .mixedOrders = true := by
    simp only [drawOk, Bool.and_eq_true] at hd0; exact hd0.1
  refine wp_region_any hm (any_ok hE hQ hd0 hK os.size _ [] hd S tmps _ (by simp) ?_ ?_ I.drew ?_)
  · intro k hk
    exfalso
    by_cases hlt : k < os.size <;> simp [Array.getD_eq_getD_getElem?, hlt] at hk
  · have : rest os (Array.replicate os.size false) = List.range os.size := by
      unfold rest
      refine List.filter_eq_self.2 fun i hi => ?_
      have hi : i < os.size := by simpa using hi
      simp [Array.getD_eq_getD_getElem?, hi]
    rw [this, List.length_range]
  · have : rest os (Array.replicate os.size false) = List.range os.size := by
      unfold rest
      refine List.filter_eq_self.2 fun i hi => ?_
      have hi : i < os.size := by simpa using hi
      simp [Array.getD_eq_getD_getElem?, hi]
    rw [this]
    exact h

end
end Go.Sh
