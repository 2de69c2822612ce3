import Derived.Test.YtkmbehagofjmbaaGreatItTn
set_option maxRecDepth 100000
set_option linter.unusedVariables false
namespace Go.Proofs.YtkmbehagofjmbaaGreat
open Go Go.Sh Go.Proofs

def smallB (l : List (List Int)) : Bool := decide (l.length ≤ 4611686018427387904) && l.all fun t => decide (t.length ≤ 140737488355328)
theorem smallB_ok {l : List (List Int)} (h : smallB l = true) : small l := by
  simp only [smallB, Bool.and_eq_true, decide_eq_true_eq, List.all_eq_true] at h
  exact h

theorem fold_mem (nm : Nm) : ∀ (l : List (List Int)) (p : List Int × Bool), (l.foldl (pickT nm) p).1 = p.1 ∨ (l.foldl (pickT nm) p).1 ∈ l
  | [], p => .inl rfl
  | t :: l, p => by
    rw [List.foldl_cons]
    have h : pickT nm p t = p ∨ pickT nm p t = (t, true) := by
      unfold pickT
      cases eqNm (sumN t) nm with
      | false => exact .inl rfl
      | true =>
        cases !p.2 with
        | true => exact .inr rfl
        | false =>
          cases bl (L t) (L p.1) with
          | true => exact .inr rfl
          | false => exact .inl rfl
    rcases h with h | h <;> rw [h]
    · rcases fold_mem nm l p with h | h
      · exact .inl h
      · exact .inr (.tail _ h)
    · rcases fold_mem nm l (t, true) with h | h
      · exact .inr (by rw [h]; exact .head _)
      · exact .inr (.tail _ h)

theorem textR_len {nm : Nm} {l : List (List Int)} (h : small l) : (textR nm l).1.length ≤ 140737488355328 := by
  rcases fold_mem nm l ([], false) with e | e
  · unfold textR
    rw [e]
    simp
  · exact h.2 _ e

def Gtext (x : List (List Int) × Nm × Unit) : Option (List Int × Bool × Unit) := if smallB x.1 = true then some ((textR x.2.1 x.1).1, (textR x.2.1 x.1).2, ()) else none
theorem Gtext_yes {l : List (List Int)} {nm : Nm} {u : Unit} (h : smallB l = true) : Gtext (l, nm, u) = some ((textR nm l).1, (textR nm l).2, ()) := if_pos h
theorem Gtext_no {l : List (List Int)} {nm : Nm} {u : Unit} (h : ¬ smallB l = true) : Gtext (l, nm, u) = none := if_neg h

theorem nice23 (l : List (List Int)) (nm : Nm) (u : Unit) (y : List Int × Bool × Unit) (h : Gtext (l, nm, u) = some y) : ∃ K, F23 K (l, nm, u) = some y := by
  by_cases hb : smallB l = true
  · rw [Gtext_yes hb] at h
    have hs := smallB_ok hb
    refine ⟨0 + l.length + 1, ?_⟩
    rw [end23, ← h]
    have := loop23 (0 + l.length + 1) 0 l nm hs l.length 0 ([], false) (by omega) (by omega)
    have e : l23_4 (0 + l.length + 1) (0 + l.length + 1) (([], false, l, (l.length : Int), 0, ()), ((nm.1, nm.2.1, nm.2.2.1, nm.2.2.2.1, nm.2.2.2.2.1, nm.2.2.2.2.2.1, nm.2.2.2.2.2.2.1, nm.2.2.2.2.2.2.2), ())) = some (((textR nm l).1, (textR nm l).2, ()), ()) := this
    rw [e]
    simp only
    rw [show G52 ((textR nm l).1, ()) = some ((textR nm l).1, ()) from if_pos (textR_len hs)]
  · rw [Gtext_no hb] at h
    cases h

theorem nice24 (l : List (List Int)) (nm : Nm) (u : Unit) (y : List Int × Bool × Unit) (h : Gtext (l, nm, u) = some y) : ∃ K, F24 K (l, nm, u) = some y := by
  by_cases hb : smallB l = true
  · rw [Gtext_yes hb] at h
    have hs := smallB_ok hb
    refine ⟨0 + l.length + 1, ?_⟩
    rw [end24, ← h]
    have := loop24 (0 + l.length + 1) 0 l nm hs l.length 0 ([], false) (by omega) (by omega)
    have e : l24_4 (0 + l.length + 1) (0 + l.length + 1) ((l, [], false, 0, ()), ((nm.1, nm.2.1, nm.2.2.1, nm.2.2.2.1, nm.2.2.2.2.1, nm.2.2.2.2.2.1, nm.2.2.2.2.2.2.1, nm.2.2.2.2.2.2.2), ())) = some (((textR nm l).1, (textR nm l).2, ()), ()) := this
    rw [e]
    simp only
    have hl := textR_len (nm := nm) hs
    have hc : (true && decide ((0 + (textR nm l).1.length) * 1 ≤ 140737488355328) && decide (0 + (textR nm l).1.length ≤ 9223372036854775807)) = true := by
      simp
      omega
    rw [hc, cond_true, List.nil_append]
  · rw [Gtext_no hb] at h
    cases h

abbrev G23 := Gtext
abbrev G24 := Gtext
theorem con23 : Con Tryz.prog 23 A23 I23 R23 O23 Gtext := Con.nice raw23 fun x y h => nice23 x.1 x.2.1 x.2.2 y h
theorem con24 : Con Tryz.prog 24 A24 I24 R24 O24 Gtext := Con.nice raw24 fun x y h => nice24 x.1 x.2.1 x.2.2 y h

/- what stands at the end -/
theorem fold_best (nm : Nm) : ∀ (l : List (List Int)) (p : List Int × Bool) (seen : List (List Int)),
    (∀ t ∈ seen, eqNm (sumN t) nm = true → p.2 = true ∧ bl (L t) (L p.1) = false) → (p.2 = true → p.1 ∈ seen ∧ eqNm (sumN p.1) nm = true) →
    (∀ t ∈ seen ++ l, eqNm (sumN t) nm = true → (l.foldl (pickT nm) p).2 = true ∧ bl (L t) (L (l.foldl (pickT nm) p).1) = false) ∧
      ((l.foldl (pickT nm) p).2 = true → (l.foldl (pickT nm) p).1 ∈ seen ++ l ∧ eqNm (sumN (l.foldl (pickT nm) p).1) nm = true)
  | [], p, seen, h1, h2 => by simpa using ⟨h1, h2⟩
  | t :: l, p, seen, h1, h2 => by
    rw [List.foldl_cons, show seen ++ t :: l = (seen ++ [t]) ++ l by simp]
    have taken : eqNm (sumN t) nm = true → (∀ u ∈ seen, eqNm (sumN u) nm = true → bl (L u) (L t) = false) → _ := fun hn hu => fold_best nm l (t, true) (seen ++ [t]) (fun u hu' hun => by
      rcases List.mem_append.1 hu' with hu' | hu'
      · exact ⟨rfl, hu u hu' hun⟩
      · rw [List.mem_singleton] at hu'
        subst hu'
        exact ⟨rfl, bl_irr _⟩) (fun _ => ⟨by simp, hn⟩)
    have kept : (eqNm (sumN t) nm = true → p.2 = true ∧ bl (L t) (L p.1) = false) → _ := fun ht => fold_best nm l p (seen ++ [t]) (fun u hu' hun => by
      rcases List.mem_append.1 hu' with hu' | hu'
      · exact h1 u hu' hun
      · rw [List.mem_singleton] at hu'
        subst hu'
        exact ht hun) (fun hp => ⟨List.mem_append_left _ (h2 hp).1, (h2 hp).2⟩)
    unfold pickT
    cases hn : eqNm (sumN t) nm with
    | false => exact kept (fun h => by rw [hn] at h; cases h)
    | true =>
      cases hf : p.2 with
      | false => exact taken hn (fun u hu hun => by have := (h1 u hu hun).1; rw [hf] at this; cases this)
      | true =>
        cases hl : bl (L t) (L p.1) with
        | true =>
          refine taken hn (fun u hu hun => ?_)
          have := (h1 u hu hun).2
          cases hc : bl (L u) (L t) with
          | false => rfl
          | true => rw [bl_trans hc hl] at this; cases this
        | false =>
          have : (p.1, p.2) = p := rfl
          exact kept (fun _ => ⟨hf, hl⟩)

theorem fold_none (nm : Nm) : ∀ (l : List (List Int)) (p : List Int × Bool), p.2 = false → p.1 = [] → (l.foldl (pickT nm) p).2 = false → (l.foldl (pickT nm) p).1 = []
  | [], p, _, h, _ => h
  | t :: l, p, h1, h2, h3 => by
    rw [List.foldl_cons] at h3 ⊢
    have hstay : ∀ (l : List (List Int)) (q : List Int × Bool), q.2 = true → (l.foldl (pickT nm) q).2 = true := by
      intro l
      induction l with
      | nil => intro q h; exact h
      | cons u l ih =>
        intro q h
        rw [List.foldl_cons]
        apply ih
        unfold pickT
        cases eqNm (sumN u) nm with
        | false => exact h
        | true =>
          cases !q.2 with
          | true => rfl
          | false => cases bl (L u) (L q.1) with
            | true => rfl
            | false => exact h
    have hp : pickT nm p t = p ∨ pickT nm p t = (t, true) := by
      unfold pickT
      cases eqNm (sumN t) nm with
      | false => exact .inl rfl
      | true =>
        cases !p.2 with
        | true => exact .inr rfl
        | false => cases bl (L t) (L p.1) with
          | true => exact .inr rfl
          | false => exact .inl rfl
    rcases hp with e | e
    · rw [e] at h3 ⊢; exact fold_none nm l p h1 h2 h3
    · rw [e, hstay l (t, true) rfl] at h3; cases h3

/-- Whatever the order of the texts. -/
theorem textR_perm {nm : Nm} {l m : List (List Int)} (h : ∀ t, t ∈ l ↔ t ∈ m) : (textR nm l).2 = (textR nm m).2 ∧ L (textR nm l).1 = L (textR nm m).1 := by
  have hl := fold_best nm l ([], false) [] (fun _ h => by cases h) (fun h => by cases h)
  have hm := fold_best nm m ([], false) [] (fun _ h => by cases h) (fun h => by cases h)
  simp only [List.nil_append] at hl hm
  have he : (textR nm l).2 = (textR nm m).2 := by
    cases h1 : (textR nm l).2 with
    | true =>
      obtain ⟨a, b⟩ := hl.2 h1
      exact ((hm.1 _ ((h _).1 a) b).1).symm
    | false =>
      cases h2 : (textR nm m).2 with
      | false => rfl
      | true =>
        obtain ⟨a, b⟩ := hm.2 h2
        have := (hl.1 _ ((h _).2 a) b).1
        exact h1.symm.trans this
  refine ⟨he, ?_⟩
  cases h1 : (textR nm l).2 with
  | true =>
    have h2 : (textR nm m).2 = true := he ▸ h1
    obtain ⟨a, b⟩ := hl.2 h1
    obtain ⟨c, d⟩ := hm.2 h2
    exact bl_tri (hm.1 _ ((h _).1 a) b).2 (hl.1 _ ((h _).2 c) d).2
  | false =>
    have h2 : (textR nm m).2 = false := he ▸ h1
    rw [show (textR nm l).1 = [] from fold_none nm l _ rfl rfl h1, show (textR nm m).1 = [] from fold_none nm m _ rfl rfl h2]
end Go.Proofs.YtkmbehagofjmbaaGreat
