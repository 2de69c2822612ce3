/-
  Contracts over the shadow evaluator, III: how they are used. No project text.
-/
import Derived.Test.YtkmbehagofjmbaaGreatShCon2
namespace Go.Sh

theorem enc_flat_at : ∀ (t : Ty) (x : t.den), t.flat = true → ∀ v ∈ enc t x, ∃ u, v = SV.at u := by
  intro t
  induction t with
  | sl t ih => intro x h; cases h
  | pr a b iha ihb =>
    intro x h v hv
    simp only [Ty.flat, Bool.and_eq_true] at h
    simp only [enc, List.mem_append] at hv
    rcases hv with hv | hv
    · exact iha _ h.1 v hv
    · exact ihb _ h.2 v hv
  | un => intro x _ v hv; simp [enc] at hv
  | _ => intro x _ v hv; simp only [enc, List.mem_singleton] at hv; exact ⟨_, hv⟩

section
variable {w : World} {G F' : Nat → Prop} {hd0 hd' : Nat → Value}

/-- Data where less is forbidden, or that forbid nothing. -/
theorem all2_conv {t : Ty} {x : t.den} {vs : List Value} (hc : (∀ b, b < w.heap.size → F' b → G b) ∨ t.flat = true) (h : all2 (SVRel w G hd0) (enc t x) vs) : all2 (SVRel w F' hd') (enc t x) vs := by
  rcases hc with hc | hc
  · exact all2_data t x vs (all2.mono (fun a b hab => SVRel.keep (⟨fun _ _ _ => rfl, hc⟩ : Keeps w w G F') (fun _ _ => rfl) hab) h)
  · have key : ∀ (l : List SV) (vs : List Value), (∀ v ∈ l, ∃ u, v = SV.at u) → all2 (SVRel w G hd0) l vs → all2 (SVRel w F' hd') l vs := by
      intro l
      induction l with
      | nil => intro vs _ h; cases vs <;> exact h
      | cons v l ih =>
        intro vs hr h
        cases vs with
        | nil => exact h.elim
        | cons u vs =>
          obtain ⟨u', hu⟩ := hr v (.head _)
          subst hu
          exact ⟨h.1, ih vs (fun x hx => hr x (.tail _ hx)) h.2⟩
    exact key _ vs (enc_flat_at t x hc) h

theorem encCP_conv {ρ : Nat → Nat} : ∀ {l : List CP} {x : cpDen l} {vs : List Value}, ((∀ b, b < w.heap.size → F' b → G b) ∨ cpFlat l = true) → (∀ i ∈ cpIds l, hd0 i = hd' (ρ i)) → all2 (SVRel w G hd0) (encCP (fun i => i) l x) vs → all2 (SVRel w F' hd') (encCP ρ l x) vs
  | [], x, vs, _, _, h => by cases vs <;> exact h
  | .dat t :: l, x, vs, hc, hr, h => by
    obtain ⟨c, d, rfl, h1, h2⟩ := all2.split h
    refine all2.app (all2_conv (hc.imp id fun h => ?_) h1) (encCP_conv (hc.imp id fun h => ?_) (fun i hi => hr i (by simpa [cpIds] using hi)) h2)
    · simp only [cpFlat, Bool.and_eq_true] at h; exact h.1
    · simp only [cpFlat, Bool.and_eq_true] at h; exact h.2
  | .own i :: l, x, [], _, _, h => h.elim
  | .own i :: l, x, v :: vs, hc, hr, h => by
    obtain ⟨h1, h2⟩ := h
    refine ⟨?_, encCP_conv (hc.imp id fun h => by simpa [cpFlat] using h) (fun i hi => hr i (.tail _ hi)) h2⟩
    have := hr i (.head _)
    simp only [SVRel] at h1 ⊢
    rw [← this]
    exact h1
  | .ptr i :: l, x, [], _, _, h => h.elim
  | .ptr i :: l, x, v :: vs, hc, hr, h => by
    obtain ⟨h1, h2⟩ := h
    refine ⟨?_, encCP_conv (hc.imp id fun h => by simpa [cpFlat] using h) (fun i hi => hr i (.tail _ hi)) h2⟩
    have := hr i (.head _)
    simp only [SVRel] at h1 ⊢
    rw [← this]
    exact h1
  | .fn f :: l, x, [], _, _, h => h.elim
  | .fn f :: l, x, v :: vs, hc, hr, h => by
    obtain ⟨h1, h2⟩ := h
    exact ⟨h1, encCP_conv (hc.imp id fun h => by simpa [cpFlat] using h) (fun i hi => hr i (by simpa [cpIds] using hi)) h2⟩

theorem one_conv {t : Ty} {x : t.den} {v : Value} (hc : (∀ b, b < w.heap.size → F' b → G b) ∨ t.flat = true) (h : SVRel w G hd0 (encOne t x) v) : SVRel w F' hd' (encOne t x) v := by
  cases t with
  | int k => exact h
  | bool => exact h
  | str => exact h
  | un => trivial
  | pr a b => trivial
  | sl t =>
    rcases hc with hc | hc
    · exact SVRel.keep (⟨fun _ _ _ => rfl, hc⟩ : Keeps w w G F') (hd := hd0) (hd' := hd') (fun i hi => by cases hi) h
    · cases hc

theorem valRel_flat {agg : Bool} {t : Ty} {x : t.den} {v : Value} (hf : t.flat = true) (h : valRel w G agg t x v) : valRel w F' agg t x v := by
  cases agg with
  | true => obtain ⟨cs, e, h⟩ := h; exact ⟨cs, e, t.cells_flat _ _ hf h⟩
  | false => exact t.cells_flat _ _ hf h

theorem map_conv {mt : TypeId} {ka va : Bool} {kt vt : Ty} {l : List (Nat × (kt.den × vt.den))} {c : Nat} {nl : Bool} {v : Value} (hc : (∀ b, b < w.heap.size → F' b → G b) ∨ (kt.flat = true ∧ vt.flat = true)) (h : ObRel w G hd0 v (.map mt ka va kt vt l c nl)) :
    ObRel w F' hd' v (.map mt ka va kt vt l c nl) := by
  rcases hc with hc | hc
  · exact map_keep (⟨fun _ _ _ => rfl, hc⟩ : Keeps w w G F') (fun _ _ => rfl) h
  · rcases h with h | ⟨r, es, e, hg, hl, h2⟩
    · exact .inl h
    · exact .inr ⟨r, es, e, hg, all2.mono (fun _ _ h => ⟨h.1, valRel_flat hc.1 h.2.1, valRel_flat hc.2 h.2.2⟩) hl, h2⟩

theorem obs_conv {ρ : Nat → Nat} : ∀ {os : List (Nat × OPat)} {x : objsDen os}, ((∀ b, b < w.heap.size → F' b → G b) ∨ obsFlat os = true) → (∀ i ∈ obsIds os, hd0 i = hd' (ρ i)) → (∀ k ∈ oids os, hd0 k = hd' (ρ k)) →
    (∀ p ∈ encObjs (fun i => i) os x, ObRel w G hd0 (hd0 p.1) p.2) → ∀ p ∈ encObjs ρ os x, ObRel w F' hd' (hd' p.1) p.2 := by
  intro os
  induction os with
  | nil => intro x _ _ _ _ p hp; simp [encObjs] at hp
  | cons q os ih =>
    obtain ⟨k, q⟩ := q
    intro x hc hi hv h p hp
    have hv0 : hd0 k = hd' (ρ k) := hv k (.head _)
    have hv1 : ∀ j ∈ oids os, hd0 j = hd' (ρ j) := fun j hj => hv j (.tail _ hj)
    cases q with
    | box t =>
      simp only [obsFlat, Bool.and_eq_true] at hc
      simp only [encObjs, List.mem_cons] at hp h
      rcases hp with rfl | hp
      · obtain ⟨b, cur, e, h1, h2, h3⟩ := h _ (.inl rfl)
        exact ⟨b, cur, e, by rw [← hv0]; exact h1, h2, all2_conv (hc.imp id And.left) h3⟩
      · exact ih (hc.imp id And.right) (fun i hi' => hi i (by simpa [obsIds] using hi')) hv1 (fun p hp => h p (.inr hp)) p hp
    | arr e t =>
      simp only [obsFlat, Bool.and_eq_true] at hc
      simp only [encObjs, List.mem_cons] at hp h
      rcases hp with rfl | hp
      · obtain ⟨xs, h1, h2⟩ := h _ (.inl rfl)
        refine ⟨xs, by simp only at h1 ⊢; rw [← hv0]; exact h1, rows.mono (fun a c hac => ?_) h2⟩
        rcases hc with hc | hc
        · exact t.cells_keep (⟨fun _ _ _ => rfl, hc⟩ : Keeps w w G F') a c hac
        · exact t.cells_flat a c hc.1 hac
      · exact ih (hc.imp id And.right) (fun i hi' => hi i (by simpa [obsIds] using hi')) hv1 (fun p hp => h p (.inr hp)) p hp
    | mix c =>
      simp only [obsFlat, Bool.and_eq_true] at hc
      simp only [encObjs, List.mem_cons] at hp h
      rcases hp with rfl | hp
      · obtain ⟨b, cur, e, h1, h2, h3⟩ := h _ (.inl rfl)
        exact ⟨b, cur, e, by rw [← hv0]; exact h1, h2, encCP_conv (hc.imp id And.left) (fun i hi' => hi i (by simp only [obsIds, List.mem_append]; exact .inl hi')) h3⟩
      · exact ih (hc.imp id And.right) (fun i hi' => hi i (by simp only [obsIds, List.mem_append]; exact .inr hi')) hv1 (fun p hp => h p (.inr hp)) p hp
    | clo g c =>
      simp only [obsFlat, Bool.and_eq_true] at hc
      simp only [encObjs, List.mem_cons] at hp h
      rcases hp with rfl | hp
      · obtain ⟨cs, h1, h3⟩ := h _ (.inl rfl)
        exact ⟨cs, by rw [← hv0]; exact h1, encCP_conv (hc.imp id And.left) (fun i hi' => hi i (by simp only [obsIds, List.mem_append]; exact .inl hi')) h3⟩
      · exact ih (hc.imp id And.right) (fun i hi' => hi i (by simp only [obsIds, List.mem_append]; exact .inr hi')) hv1 (fun p hp => h p (.inr hp)) p hp
    | ifc t i =>
      simp only [encObjs, List.mem_cons] at hp h
      rcases hp with rfl | hp
      · obtain ⟨x', h1, h3⟩ := h _ (.inl rfl)
        refine ⟨x', by rw [← hv0]; exact h1, ?_⟩
        have := hi i (.head _)
        simp only [SVRel] at h3 ⊢
        rw [← this]; exact h3
      · exact ih (hc.imp id fun h => by simpa [obsFlat] using h) (fun i hi' => hi i (.tail _ hi')) hv1 (fun p hp => h p (.inr hp)) p hp
    | map mt ka va kt vt nl =>
      simp only [obsFlat, Bool.and_eq_true] at hc
      simp only [encObjs, List.mem_cons] at hp h
      rcases hp with rfl | hp
      · have := map_conv (hd' := hd') (F' := F') (hc.imp id And.left) (h _ (.inl rfl))
        simp only at this ⊢
        rw [← hv0]; exact this
      · exact ih (hc.imp id And.right) (fun i hi' => hi i (by simpa [obsIds] using hi')) hv1 (fun p hp => h p (.inr hp)) p hp
    | iter m =>
      simp only [encObjs, List.mem_cons] at hp h
      rcases hp with rfl | hp
      · obtain ⟨b, h1, h2⟩ := h _ (.inl rfl)
        refine ⟨b, by rw [← hv0]; exact h1, ?_⟩
        rw [← hi m (.head _)]; exact h2
      · exact ih (hc.imp id fun h => by simpa [obsFlat] using h) (fun i hi' => hi i (.tail _ hi')) hv1 (fun p hp => h p (.inr hp)) p hp

theorem res_conv {ρ : Nat → Nat} : ∀ {rs : List RPat} {j : Nat} {y : resDen rs} {vs : List Value}, ((∀ b, b < w.heap.size → F' b → G b) ∨ resFlat rs = true) → (∀ i ∈ resIds rs, hd0 i = hd' (ρ i)) → (∀ k ∈ ownIds j rs, hd0 k = hd' (ρ k)) →
    all2 (CvRel w G hd0) (resCvs (fun i => i) j rs y) vs → all2 (CvRel w F' hd') (resCvs ρ j rs y) vs
  | [], j, y, vs, _, _, _, h => by cases vs <;> exact h
  | .one t :: rs, j, y, [], _, _, _, h => h.elim
  | .agg t :: rs, j, y, [], _, _, _, h => h.elim
  | .own e t :: rs, j, y, [], _, _, _, h => h.elim
  | .obj i :: rs, j, y, [], _, _, _, h => h.elim
  | .ptr i :: rs, j, y, [], _, _, _, h => h.elim
  | .mix c :: rs, j, y, [], _, _, _, h => h.elim
  | .mp _ _ _ _ _ :: rs, j, y, [], _, _, _, h => h.elim
  | .mp mt ka va kt vt :: rs, j, y, v :: vs, hc, hi, hk, h => by
    simp only [resFlat, Bool.and_eq_true] at hc
    obtain ⟨h1, h2⟩ := h
    refine ⟨?_, res_conv (hc.imp id And.right) (fun i hi' => hi i (by simpa [resIds] using hi')) (fun k hk' => hk k (.tail _ hk')) h2⟩
    have := hk _ (.head _)
    have h1 : v = hd0 (mapAt j) ∧ isHdl v = true := h1
    show v = hd' (ρ (mapAt j)) ∧ isHdl v = true
    rw [← this]
    exact h1
  | .one t :: rs, j, y, v :: vs, hc, hi, hk, h => by
    simp only [resFlat, Bool.and_eq_true] at hc
    exact ⟨one_conv (hc.imp id And.left) h.1, res_conv (hc.imp id And.right) (fun i hi' => hi i (by simpa [resIds] using hi')) (fun k hk' => hk k (by simpa [ownIds] using hk')) h.2⟩
  | .agg t :: rs, j, y, v :: vs, hc, hi, hk, h => by
    simp only [resFlat, Bool.and_eq_true] at hc
    obtain ⟨⟨cs, hx, hl⟩, h2⟩ := h
    exact ⟨⟨cs, hx, all2_conv (hc.imp id And.left) hl⟩, res_conv (hc.imp id And.right) (fun i hi' => hi i (by simpa [resIds] using hi')) (fun k hk' => hk k (by simpa [ownIds] using hk')) h2⟩
  | .own e t :: rs, j, y, v :: vs, hc, hi, hk, h => by
    simp only [resFlat, Bool.and_eq_true] at hc
    obtain ⟨h1, h2⟩ := h
    refine ⟨?_, res_conv (hc.imp id And.right) (fun i hi' => hi i (by simpa [resIds] using hi')) (fun k hk' => hk k (.tail _ hk')) h2⟩
    have := hk _ (.head _)
    have h1 : v = hd0 (ownAt j) ∧ isHdl v = true := h1
    show v = hd' (ρ (ownAt j)) ∧ isHdl v = true
    rw [← this]
    exact h1
  | .obj i :: rs, j, y, v :: vs, hc, hi, hk, h => by
    obtain ⟨h1, h2⟩ := h
    refine ⟨?_, res_conv (hc.imp id fun h => by simpa [resFlat] using h) (fun i hi' => hi i (.tail _ hi')) (fun k hk' => hk k (by simpa [ownIds] using hk')) h2⟩
    have := hi i (.head _)
    have h1 : v = hd0 i ∧ isHdl v = true := h1
    show v = hd' (ρ i) ∧ isHdl v = true
    rw [← this]
    exact h1
  | .ptr i :: rs, j, y, v :: vs, hc, hi, hk, h => by
    obtain ⟨h1, h2⟩ := h
    refine ⟨?_, res_conv (hc.imp id fun h => by simpa [resFlat] using h) (fun i hi' => hi i (.tail _ hi')) (fun k hk' => hk k (by simpa [ownIds] using hk')) h2⟩
    have := hi i (.head _)
    have h1 : ∃ b, hd0 i = .pointer (some ⟨b, 0, none⟩) ∧ v = .pointer (some ⟨b, 0, none⟩) := h1
    show ∃ b, hd' (ρ i) = .pointer (some ⟨b, 0, none⟩) ∧ v = .pointer (some ⟨b, 0, none⟩)
    rw [← this]
    exact h1
  | .mix c :: rs, j, y, v :: vs, hc, hi, hk, h => by
    simp only [resFlat, Bool.and_eq_true] at hc
    obtain ⟨⟨cs, hx, hl⟩, h2⟩ := h
    exact ⟨⟨cs, hx, encCP_conv (hc.imp id And.left) (fun i hi' => hi i (by simp only [resIds, List.mem_append]; exact .inl hi')) hl⟩, res_conv (hc.imp id And.right) (fun i hi' => hi i (by simp only [resIds, List.mem_append]; exact .inr hi')) (fun k hk' => hk k (by simpa [ownIds] using hk')) h2⟩

theorem owns_conv {ρ : Nat → Nat} : ∀ {rs : List RPat} {j : Nat} {y : resDen rs}, ((∀ b, b < w.heap.size → F' b → G b) ∨ resFlat rs = true) → (∀ k ∈ ownIds j rs, hd0 k = hd' (ρ k)) →
    (∀ p ∈ resObs (fun i => i) j rs y, ObRel w G hd0 (hd0 p.1) p.2) → ∀ p ∈ resObs ρ j rs y, ObRel w F' hd' (hd' p.1) p.2
  | [], j, y, _, _, _ => fun p hp => by simp [resObs] at hp
  | .one t :: rs, j, y, hc, hk, h => by
    simp only [resFlat, Bool.and_eq_true] at hc
    exact owns_conv (rs := rs) (j := j + 1) (hc.imp id And.right) (fun k hk' => hk k (by simpa [ownIds] using hk')) h
  | .agg t :: rs, j, y, hc, hk, h => by
    simp only [resFlat, Bool.and_eq_true] at hc
    exact owns_conv (rs := rs) (j := j + 1) (hc.imp id And.right) (fun k hk' => hk k (by simpa [ownIds] using hk')) h
  | .mp mt ka va kt vt :: rs, j, y, hc, hk, h => by
    simp only [resFlat, Bool.and_eq_true] at hc
    intro p hp
    simp only [resObs, List.mem_cons] at hp h
    rcases hp with rfl | hp
    · have h1 := map_conv (hd' := hd') (F' := F') (hc.imp id And.left) (h _ (.inl rfl))
      have := hk _ (.head _)
      simp only at h1 ⊢
      rw [← this]; exact h1
    · exact owns_conv (rs := rs) (j := j + 1) (hc.imp id And.right) (fun k hk' => hk k (.tail _ hk')) (fun p hp => h p (.inr hp)) p hp
  | .obj i :: rs, j, y, hc, hk, h => owns_conv (rs := rs) (j := j + 1) (hc.imp id fun h => by simpa [resFlat] using h) (fun k hk' => hk k (by simpa [ownIds] using hk')) h
  | .ptr i :: rs, j, y, hc, hk, h => owns_conv (rs := rs) (j := j + 1) (hc.imp id fun h => by simpa [resFlat] using h) (fun k hk' => hk k (by simpa [ownIds] using hk')) h
  | .mix c :: rs, j, y, hc, hk, h => by
    simp only [resFlat, Bool.and_eq_true] at hc
    exact owns_conv (rs := rs) (j := j + 1) (hc.imp id And.right) (fun k hk' => hk k (by simpa [ownIds] using hk')) h
  | .own e t :: rs, j, y, hc, hk, h => by
    simp only [resFlat, Bool.and_eq_true] at hc
    intro p hp
    simp only [resObs, List.mem_cons] at hp h
    rcases hp with rfl | hp
    · obtain ⟨xs, h1, h2⟩ := h _ (.inl rfl)
      have := hk _ (.head _)
      refine ⟨xs, by simp only at h1 ⊢; rw [← this]; exact h1, rows.mono (fun a c hac => ?_) h2⟩
      rcases hc with hc | hc
      · exact t.cells_keep (⟨fun _ _ _ => rfl, hc⟩ : Keeps w w G F') a c hac
      · exact t.cells_flat a c hc.1 hac
    · exact owns_conv (rs := rs) (j := j + 1) (hc.imp id And.right) (fun k hk' => hk k (.tail _ hk')) (fun p hp => h p (.inr hp)) p hp
end

theorem mem_without {i : Nat} {b : List Nat} : ∀ {l : List Nat}, i ∈ without b l ↔ i ∈ l ∧ i ∉ b
  | [] => by simp [without]
  | j :: l => by
    simp only [without]
    cases hm : memN j b with
    | true =>
      simp only [cond_true, List.mem_cons, mem_without (l := l)]
      constructor
      · rintro ⟨h1, h2⟩; exact ⟨.inr h1, h2⟩
      · rintro ⟨rfl | h1, h2⟩
        · exact absurd (memN_mem hm) h2
        · exact ⟨h1, h2⟩
    | false =>
      simp only [cond_false, List.mem_cons, mem_without (l := l)]
      constructor
      · rintro (rfl | ⟨h1, h2⟩)
        · exact ⟨.inl rfl, fun h => by rw [mem_memN h] at hm; cases hm⟩
        · exact ⟨.inr h1, h2⟩
      · rintro ⟨rfl | h1, h2⟩
        · exact .inl rfl
        · exact .inr ⟨h1, h2⟩

theorem partN_spec (ids : List Nat) : ∀ (l : List (Nat × Ob)), (∀ p, p ∈ (partN ids l).1 ↔ p ∈ l ∧ p.1 ∈ ids) ∧ (∀ p, p ∈ (partN ids l).2 ↔ p ∈ l ∧ p.1 ∉ ids) ∧ ((partN ids l).2.map (·.1)).Sublist (l.map (·.1))
  | [] => by simp [partN]
  | (i, o) :: l => by
    obtain ⟨h1, h2, h3⟩ := partN_spec ids l
    simp only [partN]
    cases hm : memN i ids with
    | true =>
      have hi := memN_mem hm
      refine ⟨fun p => ?_, fun p => ?_, h3.cons _⟩
      · simp only [cond_true, List.mem_cons, h1]
        constructor
        · rintro (rfl | ⟨h, h'⟩)
          · exact ⟨.inl rfl, hi⟩
          · exact ⟨.inr h, h'⟩
        · rintro ⟨rfl | h, h'⟩
          · exact .inl rfl
          · exact .inr ⟨h, h'⟩
      · simp only [cond_true, List.mem_cons, h2]
        constructor
        · rintro ⟨h, h'⟩; exact ⟨.inr h, h'⟩
        · rintro ⟨rfl | h, h'⟩
          · exact absurd hi h'
          · exact ⟨h, h'⟩
    | false =>
      have hi : i ∉ ids := fun h => by rw [mem_memN h] at hm; cases hm
      refine ⟨fun p => ?_, fun p => ?_, h3.cons_cons _⟩
      · simp only [cond_false, List.mem_cons, h1]
        constructor
        · rintro ⟨h, h'⟩; exact ⟨.inr h, h'⟩
        · rintro ⟨rfl | h, h'⟩
          · exact absurd h' hi
          · exact ⟨h, h'⟩
      · simp only [cond_false, List.mem_cons, h2]
        constructor
        · rintro (rfl | ⟨h, h'⟩)
          · exact ⟨.inl rfl, hi⟩
          · exact ⟨.inr h, h'⟩
        · rintro ⟨rfl | h, h'⟩
          · exact .inl rfl
          · exact .inr ⟨h, h'⟩

theorem encObjs_at {ρ : Nat → Nat} : ∀ {os : List (Nat × OPat)} {x : objsDen os} {k : Nat}, k ∈ oids os → ∃ p ∈ encObjs ρ os x, p.1 = ρ k
  | (j, .box t) :: os, x, k, h => by
    rcases List.mem_cons.1 h with rfl | h
    · exact ⟨_, .head _, rfl⟩
    · obtain ⟨p, h1, h2⟩ := encObjs_at (ρ := ρ) (x := x.2) h; exact ⟨p, .tail _ h1, h2⟩
  | (j, .arr e t) :: os, x, k, h => by
    rcases List.mem_cons.1 h with rfl | h
    · exact ⟨_, .head _, rfl⟩
    · obtain ⟨p, h1, h2⟩ := encObjs_at (ρ := ρ) (x := x.2) h; exact ⟨p, .tail _ h1, h2⟩
  | (j, .mix c) :: os, x, k, h => by
    rcases List.mem_cons.1 h with rfl | h
    · exact ⟨_, .head _, rfl⟩
    · obtain ⟨p, h1, h2⟩ := encObjs_at (ρ := ρ) (x := x.2) h; exact ⟨p, .tail _ h1, h2⟩
  | (j, .clo _ _) :: os, x, k, h => by
    rcases List.mem_cons.1 h with rfl | h
    · exact ⟨_, .head _, rfl⟩
    · obtain ⟨p, h1, h2⟩ := encObjs_at (ρ := ρ) (x := x.2) h; exact ⟨p, .tail _ h1, h2⟩
  | (j, .ifc _ _) :: os, x, k, h => by
    rcases List.mem_cons.1 h with rfl | h
    · exact ⟨_, .head _, rfl⟩
    · obtain ⟨p, h1, h2⟩ := encObjs_at (ρ := ρ) (os := os) (x := x) h; exact ⟨p, .tail _ h1, h2⟩
  | (j, .map _ _ _ _ _ _) :: os, x, k, h => by
    rcases List.mem_cons.1 h with rfl | h
    · exact ⟨_, .head _, rfl⟩
    · obtain ⟨p, h1, h2⟩ := encObjs_at (ρ := ρ) (x := x.2) h; exact ⟨p, .tail _ h1, h2⟩
  | (j, .iter _) :: os, x, k, h => by
    rcases List.mem_cons.1 h with rfl | h
    · exact ⟨_, .head _, rfl⟩
    · obtain ⟨p, h1, h2⟩ := encObjs_at (ρ := ρ) (x := x.2) h; exact ⟨p, .tail _ h1, h2⟩

theorem resObs_at {ρ : Nat → Nat} : ∀ {rs : List RPat} {j : Nat} {y : resDen rs} {k : Nat}, k ∈ ownIds j rs → ∃ p ∈ resObs ρ j rs y, p.1 = ρ k
  | .one t :: rs, j, y, k, h => resObs_at (rs := rs) (j := j + 1) (y := y.2) (by simpa [ownIds] using h)
  | .agg t :: rs, j, y, k, h => resObs_at (rs := rs) (j := j + 1) (y := y.2) (by simpa [ownIds] using h)
  | .obj i :: rs, j, y, k, h => resObs_at (rs := rs) (j := j + 1) (y := y) (by simpa [ownIds] using h)
  | .ptr i :: rs, j, y, k, h => resObs_at (rs := rs) (j := j + 1) (y := y) (by simpa [ownIds] using h)
  | .mix c :: rs, j, y, k, h => resObs_at (rs := rs) (j := j + 1) (y := y.2) (by simpa [ownIds] using h)
  | .own e t :: rs, j, y, k, h => by
    rcases List.mem_cons.1 h with rfl | h
    · exact ⟨_, .head _, rfl⟩
    · obtain ⟨p, h1, h2⟩ := resObs_at (ρ := ρ) (rs := rs) (j := j + 1) (y := y.2) h; exact ⟨p, .tail _ h1, h2⟩
  | .mp _ _ _ _ _ :: rs, j, y, k, h => by
    rcases List.mem_cons.1 h with rfl | h
    · exact ⟨_, .head _, rfl⟩
    · obtain ⟨p, h1, h2⟩ := resObs_at (ρ := ρ) (rs := rs) (j := j + 1) (y := y.2) h; exact ⟨p, .tail _ h1, h2⟩

theorem ids_resObs {ρ : Nat → Nat} : ∀ (rs : List RPat) (j : Nat) (y : resDen rs), (resObs ρ j rs y).map (·.1) = (ownIds j rs).map ρ
  | [], _, _ => rfl
  | .one t :: rs, j, y => ids_resObs rs (j + 1) y.2
  | .agg t :: rs, j, y => ids_resObs rs (j + 1) y.2
  | .obj i :: rs, j, y => ids_resObs rs (j + 1) y
  | .ptr i :: rs, j, y => ids_resObs rs (j + 1) y
  | .mix c :: rs, j, y => ids_resObs rs (j + 1) y.2
  | .own e t :: rs, j, y => by simp only [resObs, ownIds, List.map_cons, ids_resObs rs (j + 1) y.2]
  | .mp _ _ _ _ _ :: rs, j, y => by simp only [resObs, ownIds, List.map_cons, ids_resObs rs (j + 1) y.2]

theorem inj_of_nodup_map {f : Nat → Nat} : ∀ {l : List Nat}, (l.map f).Nodup → ∀ a ∈ l, ∀ b ∈ l, f a = f b → a = b
  | [], _, a, ha, _, _, _ => by cases ha
  | x :: l, h, a, ha, b, hb, e => by
    simp only [List.map_cons, List.nodup_cons] at h
    rcases List.mem_cons.1 ha with ha | ha <;> rcases List.mem_cons.1 hb with hb | hb
    · rw [ha, hb]
    · exact absurd (List.mem_map.2 ⟨b, hb, by rw [← e, ha]⟩) h.1
    · exact absurd (List.mem_map.2 ⟨a, ha, by rw [e, hb]⟩) h.1
    · exact inj_of_nodup_map h.2 a ha b hb e

theorem nodup_map_of_inj {f : Nat → Nat} : ∀ {l : List Nat}, l.Nodup → (∀ a ∈ l, ∀ b ∈ l, f a = f b → a = b) → (l.map f).Nodup
  | [], _, _ => List.nodup_nil
  | x :: l, h, hi => by
    rw [List.nodup_cons] at h
    simp only [List.map_cons, List.nodup_cons]
    refine ⟨fun hm => ?_, nodup_map_of_inj h.2 fun a ha b hb => hi a (.tail _ ha) b (.tail _ hb)⟩
    obtain ⟨y, hy, e⟩ := List.mem_map.1 hm
    exact h.1 (hi y (.tail _ hy) x (.head _) e ▸ hy)

end Go.Sh
