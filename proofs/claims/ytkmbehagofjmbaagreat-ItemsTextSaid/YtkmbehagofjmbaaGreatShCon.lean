/-
  Contracts over the shadow evaluator, I: how they are proved. No project text.
-/
import Derived.Test.YtkmbehagofjmbaaGreatShLoop
namespace Go.Sh

section
variable {C : Ctx} {hd : Nat → Value} {S : St} {tmps : Array Value} {w w' : World}

/-- One result. -/
def resVal (tmps : Array Value) : ResultVar → Sem Value
  | .tmp t => Pure.pure (tmps.getD t undef)
  | .cell a t => do loadVar t (← asAddr (tmps.getD a undef))

theorem resVals_ok (I : Inv C hd S tmps w) {R : Type} : ∀ (rv : List ResultVar) (κ : List SS → Option R) (r : R), resVals C.P S rv κ = some r →
    ∃ ss vs, (rv.mapM (resVal tmps)).run C.P w = Result.ok vs w ∧ all2 (SSRel w (C.F hd S) hd) ss vs ∧ κ ss = some r
  | [], κ, r, h => ⟨[], [], by simp, trivial, h⟩
  | .tmp t :: rv, κ, r, h => by
    obtain ⟨ss, vs, hrun, hss, hk⟩ := resVals_ok I rv _ r h
    have ht := I.rd (.tmp t) []
    exact ⟨_ :: ss, _ :: vs, by simp only [List.mapM_cons, Sem.run_bind, resVal, Sem.run_pure, Result.andThen_ok, hrun]; rfl, ⟨ht, hss⟩, hk⟩
  | .cell a t :: rv, κ, r, h => by
    simp only [resVals] at h
    have ha := I.rd (.tmp a) []
    have ha : SSRel w (C.F hd S) hd (nth S.slots a) (tmps.getD a undef) := ha
    obtain ⟨v, s, hv, hk, hs⟩ := load_val I (Sub.all S) ha h
    obtain ⟨ss, vs, hrun, hss, hk⟩ := resVals_ok I rv _ r hk
    have h1 : (resVal tmps (.cell a t)).run C.P w = .ok v w := by
      simp only [resVal]
      generalize tmps.getD a undef = p at *
      cases p with
      | pointer q =>
        cases q with
        | some q => simpa [Instr.loadAt, Instr.sureAddr, asAddr] using hv
        | none => simp [Instr.loadAt, Instr.sureAddr] at hv
      | _ => simp [Instr.loadAt, Instr.sureAddr] at hv
    exact ⟨_ :: ss, _ :: vs, by simp only [List.mapM_cons, Sem.run_bind, h1, Sem.run_pure, Result.andThen_ok, hrun], ⟨hs, hss⟩, hk⟩

theorem run_results {P : Program} {fn : Func} {vs : List Value} (h : (fn.results.toList.mapM (resVal tmps)).run P w = Result.ok vs w) : (results fn tmps).run P w = .ok (pack vs) w := by
  have e : (fn.results.mapM (resVal tmps)).run P w = .ok vs.toArray w := by
    rw [← Array.toArray_toList (xs := fn.results), List.mapM_toArray]
    simp only [Sem.run_map, h, Result.andThen_ok]
  have e2 : results fn tmps = (do let vs ← fn.results.mapM (resVal tmps); Pure.pure (if h : vs.size = 1 then vs[0] else .tuple vs) : Sem Value) := by
    unfold results
    congr 1
  rw [e2]
  simp only [Sem.run_bind, e, Result.andThen_ok, Sem.run_pure]
  congr 1
  match vs with
  | [] => rfl
  | [v] => rfl
  | v :: v2 :: vs => simp [pack]

theorem mem_encObjs {ρ : Nat → Nat} : ∀ {os : List (Nat × OPat)} {x : objsDen os} {p : Nat × Ob}, p ∈ encObjs ρ os x → ∃ k ∈ oids os, p.1 = ρ k
  | (k, .box _) :: os, x, p, h => by
    simp only [encObjs, List.mem_cons] at h
    rcases h with rfl | h
    · exact ⟨k, .head _, rfl⟩
    · obtain ⟨k', h1, h2⟩ := mem_encObjs h; exact ⟨k', .tail _ h1, h2⟩
  | (k, .arr _ _) :: os, x, p, h => by
    simp only [encObjs, List.mem_cons] at h
    rcases h with rfl | h
    · exact ⟨k, .head _, rfl⟩
    · obtain ⟨k', h1, h2⟩ := mem_encObjs h; exact ⟨k', .tail _ h1, h2⟩
  | (k, .mix _) :: os, x, p, h => by
    simp only [encObjs, List.mem_cons] at h
    rcases h with rfl | h
    · exact ⟨k, .head _, rfl⟩
    · obtain ⟨k', h1, h2⟩ := mem_encObjs h; exact ⟨k', .tail _ h1, h2⟩
  | (k, .clo _ _) :: os, x, p, h => by
    simp only [encObjs, List.mem_cons] at h
    rcases h with rfl | h
    · exact ⟨k, .head _, rfl⟩
    · obtain ⟨k', h1, h2⟩ := mem_encObjs h; exact ⟨k', .tail _ h1, h2⟩
  | (k, .ifc _ _) :: os, x, p, h => by
    simp only [encObjs, List.mem_cons] at h
    rcases h with rfl | h
    · exact ⟨k, .head _, rfl⟩
    · obtain ⟨k', h1, h2⟩ := mem_encObjs h; exact ⟨k', .tail _ h1, h2⟩
  | (k, .map _ _ _ _ _ _) :: os, x, p, h => by
    simp only [encObjs, List.mem_cons] at h
    rcases h with rfl | h
    · exact ⟨k, .head _, rfl⟩
    · obtain ⟨k', h1, h2⟩ := mem_encObjs h; exact ⟨k', .tail _ h1, h2⟩
  | (k, .iter _) :: os, x, p, h => by
    simp only [encObjs, List.mem_cons] at h
    rcases h with rfl | h
    · exact ⟨k, .head _, rfl⟩
    · obtain ⟨k', h1, h2⟩ := mem_encObjs h; exact ⟨k', .tail _ h1, h2⟩

theorem mem_resObs {ρ : Nat → Nat} : ∀ {rs : List RPat} {j : Nat} {y : resDen rs} {p : Nat × Ob}, p ∈ resObs ρ j rs y → ∃ k ∈ ownIds j rs, p.1 = ρ k
  | .one _ :: rs, j, y, p, h => by simp only [resObs] at h; exact mem_resObs (j := j + 1) h
  | .agg _ :: rs, j, y, p, h => by simp only [resObs] at h; exact mem_resObs (j := j + 1) h
  | .own _ _ :: rs, j, y, p, h => by
    simp only [resObs, List.mem_cons] at h
    rcases h with rfl | h
    · exact ⟨_, .head _, rfl⟩
    · obtain ⟨k', h1, h2⟩ := mem_resObs (j := j + 1) h; exact ⟨k', .tail _ h1, h2⟩
  | .mp _ _ _ _ _ :: rs, j, y, p, h => by
    simp only [resObs, List.mem_cons] at h
    rcases h with rfl | h
    · exact ⟨_, .head _, rfl⟩
    · obtain ⟨k', h1, h2⟩ := mem_resObs (j := j + 1) h; exact ⟨k', .tail _ h1, h2⟩
  | .obj _ :: rs, j, y, p, h => by simp only [resObs] at h; exact mem_resObs (j := j + 1) h
  | .ptr _ :: rs, j, y, p, h => by simp only [resObs] at h; exact mem_resObs (j := j + 1) h
  | .mix _ :: rs, j, y, p, h => by simp only [resObs] at h; exact mem_resObs (j := j + 1) h

theorem mem_bound {σ : Names} {k i : Nat} (h : nameOf σ k = some i) : ∀ {l : List Nat}, k ∈ l → (k, i) ∈ bound σ l
  | j :: l, hk => by
    rcases List.mem_cons.1 hk with rfl | hk
    · simp only [bound, h]; exact .head _
    · simp only [bound]
      split
      · exact .tail _ (mem_bound h hk)
      · exact mem_bound h hk

theorem bound_mem {σ : Names} {k i : Nat} : ∀ {l : List Nat}, (k, i) ∈ bound σ l → k ∈ l ∧ nameOf σ k = some i
  | j :: l, h => by
    simp only [bound] at h
    split at h
    · rename_i i' hn
      rcases List.mem_cons.1 h with h | h
      · cases h; exact ⟨.head _, hn⟩
      · obtain ⟨h1, h2⟩ := bound_mem h; exact ⟨.tail _ h1, h2⟩
    · obtain ⟨h1, h2⟩ := bound_mem h; exact ⟨.tail _ h1, h2⟩

/-- Two names of one object are one name, where the objects are listed once. -/
theorem bound_inj {σ : Names} {a b i : Nat} {l : List Nat} (hn : ((bound σ l).map (·.2)).Nodup) (ha : (a, i) ∈ bound σ l) (hb : (b, i) ∈ bound σ l) : a = b := by
  have key : ∀ m : List (Nat × Nat), (m.map (·.2)).Nodup → (a, i) ∈ m → (b, i) ∈ m → a = b := by
    intro m
    induction m with
    | nil => intro _ h; cases h
    | cons p m ih =>
      intro hn h1 h2
      simp only [List.map_cons, List.nodup_cons] at hn
      rcases List.mem_cons.1 h1 with h1 | h1 <;> rcases List.mem_cons.1 h2 with h2 | h2
      · rw [← h1] at h2; exact (Prod.mk.inj h2).1.symm
      · exact absurd (List.mem_map.2 ⟨_, h2, by rw [← h1]⟩) hn.1
      · exact absurd (List.mem_map.2 ⟨_, h1, by rw [← h2]⟩) hn.1
      · exact ih hn.2 h1 h2
  exact key _ hn ha hb

/-- What a name of the results is worth. -/
def worth (hd : Nat → Value) (σ : Names) (k : Nat) : Value :=
  match nameOf σ k with
  | some i => hd i
  | none => bif Nat.beq (k % 2) 1 then .map none else .slice none 0 0

theorem worth_bound {σ : Names} {k : Nat} (h : isBound σ k = true) : worth hd σ k = hd (named σ k) ∧ nameOf σ k = some (named σ k) := by
  unfold isBound at h
  split at h
  · rename_i i hi
    unfold worth named
    rw [hi]
    exact ⟨rfl, rfl⟩
  · cases h

theorem mem_oids {os : List (Nat × OPat)} : oids os = os.map (·.1) := by
  induction os with
  | nil => rfl
  | cons p os ih => obtain ⟨i, p⟩ := p; simp only [oids, ih, List.map_cons]

theorem cp_ids {l : List CP} {i : Nat} (h : CP.own i ∈ l ∨ CP.ptr i ∈ l) : i ∈ cpIds l := by
  induction l with
  | nil => rcases h with h | h <;> cases h
  | cons p l ih =>
    rcases h with h | h <;> rcases List.mem_cons.1 h with h1 | h1
    · subst h1; exact .head _
    · cases p <;> simp only [cpIds] <;> first | exact ih (.inl h1) | exact .tail _ (ih (.inl h1))
    · subst h1; exact .head _
    · cases p <;> simp only [cpIds] <;> first | exact ih (.inr h1) | exact .tail _ (ih (.inr h1))

/-- Objects under other names, and with less forbidden. -/
theorem ObRel_enc {F' : Nat → Prop} {hd0 hd' : Nat → Value} : ∀ {os : List (Nat × OPat)} {x : objsDen os} {v : Nat → Value}, (∀ i ∈ obsIds os, hd0 i = hd' i) → (∀ k ∈ oids os, v k = hd' k) →
    (∀ p ∈ encObjs (fun i => i) os x, ObRel w F' hd0 (v p.1) p.2) → ∀ p ∈ encObjs (fun i => i) os x, ObRel w F' hd' (hd' p.1) p.2 := by
  intro os
  induction os with
  | nil => intro x v _ _ _ p hp; simp [encObjs] at hp
  | cons q os ih =>
    obtain ⟨k, q⟩ := q
    intro x v hi hv h p hp
    have hv0 : v k = hd' k := hv k (.head _)
    have hv1 : ∀ j ∈ oids os, v j = hd' j := fun j hj => hv j (.tail _ hj)
    cases q with
    | box t =>
      simp only [encObjs, List.mem_cons] at hp h
      rcases hp with rfl | hp
      · obtain ⟨b, cur, e, h1, h2, h3⟩ := h _ (.inl rfl)
        exact ⟨b, cur, e, by rw [← hv0]; exact h1, h2, all2_data t _ _ h3⟩
      · exact ih (fun i hi' => hi i (by simpa [obsIds] using hi')) hv1 (fun p hp => h p (.inr hp)) p hp
    | arr e t =>
      simp only [encObjs, List.mem_cons] at hp h
      rcases hp with rfl | hp
      · obtain ⟨xs, h1, h2⟩ := h _ (.inl rfl)
        exact ⟨xs, by simp only at h1 ⊢; rw [← hv0]; exact h1, h2⟩
      · exact ih (fun i hi' => hi i (by simpa [obsIds] using hi')) hv1 (fun p hp => h p (.inr hp)) p hp
    | mix c =>
      simp only [encObjs, List.mem_cons] at hp h
      rcases hp with rfl | hp
      · obtain ⟨b, cur, e, h1, h2, h3⟩ := h _ (.inl rfl)
        exact ⟨b, cur, e, by rw [← hv0]; exact h1, h2, encCP_ren (ρ := fun i => i) c _ _ (fun i hi' => hi i (by simp only [obsIds, List.mem_append]; exact .inl (cp_ids hi'))) h3⟩
      · exact ih (fun i hi' => hi i (by simp only [obsIds, List.mem_append]; exact .inr hi')) hv1 (fun p hp => h p (.inr hp)) p hp
    | clo g c =>
      simp only [encObjs, List.mem_cons] at hp h
      rcases hp with rfl | hp
      · obtain ⟨cs, h1, h3⟩ := h _ (.inl rfl)
        exact ⟨cs, by rw [← hv0]; exact h1, encCP_ren (ρ := fun i => i) c _ _ (fun i hi' => hi i (by simp only [obsIds, List.mem_append]; exact .inl (cp_ids hi'))) h3⟩
      · exact ih (fun i hi' => hi i (by simp only [obsIds, List.mem_append]; exact .inr hi')) hv1 (fun p hp => h p (.inr hp)) p hp
    | ifc t i =>
      simp only [encObjs, List.mem_cons] at hp h
      rcases hp with rfl | hp
      · obtain ⟨x', h1, h3⟩ := h _ (.inl rfl)
        refine ⟨x', by rw [← hv0]; exact h1, ?_⟩
        have := hi i (.head _)
        simp only [SVRel] at h3 ⊢
        rw [← this]; exact h3
      · exact ih (fun i hi' => hi i (.tail _ hi')) hv1 (fun p hp => h p (.inr hp)) p hp
    | map mt ka va kt vt nl =>
      simp only [encObjs, List.mem_cons] at hp h
      rcases hp with rfl | hp
      · have := h _ (.inl rfl)
        simp only at this ⊢
        rw [← hv0]; exact this
      · exact ih (fun i hi' => hi i (by simpa [obsIds] using hi')) hv1 (fun p hp => h p (.inr hp)) p hp
    | iter m =>
      simp only [encObjs, List.mem_cons] at hp h
      rcases hp with rfl | hp
      · obtain ⟨b, h1, h2⟩ := h _ (.inl rfl)
        refine ⟨b, by rw [← hv0]; exact h1, ?_⟩
        rw [← hi m (.head _)]; exact h2
      · exact ih (fun i hi' => hi i (.tail _ hi')) hv1 (fun p hp => h p (.inr hp)) p hp

theorem ownOf_ok (I : Inv C hd S tmps w) {G : Nat → Prop} (hG : ∀ b, b < w.heap.size → G b → C.F hd S b) {e : TypeId} {t : Ty} {σ : Names} {k : Nat} (hk2 : k % 2 = 0) {v : SV} {l : List t.den} {x : Value} (h : ownOf S e t (nameOf σ k) v = some l)
    (hx : SVRel w (C.F hd S) hd v x) : SVRel w G (worth hd σ) (.own k) x ∧ ObRel w G (worth hd σ) (worth hd σ k) (.arr e t l) ∧ ∀ i, nameOf σ k = some i → ∃ o, (i, o) ∈ S.objs := by
  have kk : Keeps w w (C.F hd S) G := ⟨fun _ _ _ => rfl, hG⟩
  cases v with
  | own j =>
    simp only [ownOf] at h
    split at h
    · rename_i i hi
      obtain ⟨hj, h0⟩ := bif_some h
      clear h
      have h := h0
      clear h0
      have hj := Nat.eq_of_beq_eq_true hj
      subst hj
      have hw : worth hd σ k = hd j := by unfold worth; rw [hi]
      split at h
      · rename_i e' u m hlk
        obtain ⟨he, h1⟩ := bif_some h
        clear h
        have he := Nat.eq_of_beq_eq_true he
        subst he
        obtain ⟨rfl, hc⟩ := castL_eq h1
        simp only at hc
        subst hc
        obtain ⟨xs, ho, hr⟩ := I.objs _ (look_mem hlk)
        refine ⟨⟨by rw [hw]; exact hx.1, hx.2⟩, ⟨xs, by rw [hw]; exact ho, rows.mono (u.cells_keep kk) hr⟩, fun i' hi' => ?_⟩
        rw [hi] at hi'
        simp only [Option.some.injEq] at hi'
        subst hi'
        exact ⟨_, look_mem hlk⟩
      · cases h
    · cases h
  | «at» v =>
    cases v with
    | slice p n c =>
      cases p with
      | some p => simp [ownOf] at h
      | none =>
        cases n with
        | succ n => simp [ownOf] at h
        | zero =>
          cases c with
          | succ c => simp [ownOf] at h
          | zero =>
            simp only [ownOf] at h
            split at h
            · rename_i hn
              simp only [Option.some.injEq] at h
              have hw : worth hd σ k = .slice none 0 0 := by unfold worth; rw [hn, hk2]; rfl
              cases hx
              subst h
              exact ⟨⟨by rw [hw], rfl⟩, ⟨[], by rw [hw]; exact World.ownsRow_nil _ _ _ _, rfl⟩, fun i hi => by rw [hn] at hi; cases hi⟩
            · cases h
    | _ => simp [ownOf] at h
  | fz t l => simp [ownOf] at h
  | vw i n o l => simp [ownOf] at h
  | ptr i o => simp [ownOf] at h
  | ep i n a j => simp [ownOf] at h
  | bs i off n t => simp [ownOf] at h
  | es i n a j m t => simp [ownOf] at h
  | fp t d j => simp [ownOf] at h
  | dead => simp [ownOf] at h

theorem ownOf_mem {e : TypeId} {t : Ty} {nm : Option Nat} {v : SV} {l : List t.den} (h : ownOf S e t nm v = some l) : ∀ i, nm = some i → ∃ o, (i, o) ∈ S.objs := by
  rintro i rfl
  cases v with
  | own j =>
    simp only [ownOf] at h
    obtain ⟨hj, h0⟩ := bif_some h
    clear h
    have hj := Nat.eq_of_beq_eq_true hj
    subst hj
    split at h0
    · rename_i hlk; exact ⟨_, look_mem hlk⟩
    · cases h0
  | «at» v =>
    cases v with
    | slice p n c =>
      cases p with
      | some p => simp [ownOf] at h
      | none =>
        cases n with
        | succ n => simp [ownOf] at h
        | zero =>
          cases c with
          | succ c => simp [ownOf] at h
          | zero => simp [ownOf] at h
    | _ => simp [ownOf] at h
  | fz t l => simp [ownOf] at h
  | vw i n o l => simp [ownOf] at h
  | ptr i o => simp [ownOf] at h
  | ep i n a j => simp [ownOf] at h
  | bs i off n t => simp [ownOf] at h
  | es i n a j m t => simp [ownOf] at h
  | fp t d j => simp [ownOf] at h
  | dead => simp [ownOf] at h

theorem mapOf_ok (I : Inv C hd S tmps w) {G : Nat → Prop} (hG : ∀ b, b < w.heap.size → G b → C.F hd S b) {mt : TypeId} {ka va : Bool} {kt vt : Ty} {σ : Names} {k : Nat} (hk2 : k % 2 = 1) {v : SV} {l : List (Nat × (kt.den × vt.den)) × Nat} {x : Value}
    (h : mapOf S mt ka va kt vt (nameOf σ k) v = some l) (hx : SVRel w (C.F hd S) hd v x) :
    SVRel w G (worth hd σ) (.own k) x ∧ ObRel w G (worth hd σ) (worth hd σ k) (.map mt ka va kt vt l.1 l.2 true) ∧ ∀ i, nameOf σ k = some i → ∃ o, (i, o) ∈ S.objs := by
  have kk : Keeps w w (C.F hd S) G := ⟨fun _ _ _ => rfl, hG⟩
  unfold mapOf at h
  split at h
  · rename_i j
    split at h
    · rename_i i hi
      obtain ⟨hj, h0⟩ := bif_some h
      clear h
      have hj := Nat.eq_of_beq_eq_true hj
      subst hj
      have hw : worth hd σ k = hd j := by unfold worth; rw [hi]
      split at h0
      · rename_i mt' ka' va' k' v' m c nl hlk
        obtain ⟨he, h1⟩ := bif_some h0
        clear h0
        simp only [Bool.and_eq_true, beq_iff_eq] at he
        obtain ⟨⟨e1, rfl⟩, rfl⟩ := he
        have e1 := Nat.eq_of_beq_eq_true e1
        subst e1
        split at h1
        · rename_i m' hm
          simp only [Option.some.injEq] at h1
          subst h1
          obtain ⟨rfl, rfl, hc⟩ := castM_ok hm
          simp only at hc
          subst hc
          have hob := map_keep (hd' := worth hd σ) kk (fun _ _ => rfl) (I.objs _ (look_mem hlk))
          refine ⟨⟨by rw [hw]; exact hx.1, hx.2⟩, ?_, fun i' hi' => ?_⟩
          · rw [hw]
            rcases hob with ⟨_, h2⟩ | h2
            · exact .inl ⟨rfl, h2⟩
            · exact .inr h2
          · rw [hi] at hi'
            simp only [Option.some.injEq] at hi'
            subst hi'
            exact ⟨_, look_mem hlk⟩
        · cases h1
      · cases h0
    · cases h
  · split at h
    · rename_i hn
      simp only [Option.some.injEq] at h
      have hw : worth hd σ k = .map none := by unfold worth; rw [hn, hk2]; rfl
      cases hx
      subst h
      exact ⟨⟨by rw [hw], rfl⟩, .inl ⟨rfl, hw, rfl, rfl⟩, fun i hi => by rw [hn] at hi; cases hi⟩
    · cases h
  · cases h

theorem mapOf_mem {mt : TypeId} {ka va : Bool} {kt vt : Ty} {nm : Option Nat} {v : SV} {l : List (Nat × (kt.den × vt.den)) × Nat} (h : mapOf S mt ka va kt vt nm v = some l) : ∀ i, nm = some i → ∃ o, (i, o) ∈ S.objs := by
  rintro i rfl
  unfold mapOf at h
  split at h
  · simp only at h
    obtain ⟨hj, h0⟩ := bif_some h
    have hj := Nat.eq_of_beq_eq_true hj
    subst hj
    split at h0
    · rename_i hlk; exact ⟨_, look_mem hlk⟩
    · cases h0
  · cases h
  · cases h

/-- The lists of the call's own among the results are there. -/
theorem resDec_mem {keep : List Nat} {σ : Names} : ∀ (rs : List RPat) (j : Nat) (l : List SS) (y : resDen rs), resDec S keep σ j rs l = some y → ∀ k ∈ ownIds j rs, ∀ i, nameOf σ k = some i → ∃ o, (i, o) ∈ S.objs := by
  intro rs
  induction rs with
  | nil => intro j l y _ k hk; cases hk
  | cons p rs ih =>
    intro j l y h k hk i hi
    cases l with
    | nil => cases p <;> simp [resDec] at h
    | cons s l =>
      cases s with
      | tup _ => cases p <;> simp [resDec] at h
      | val c =>
        cases p with
        | one t =>
          cases c <;> simp only [resDec] at h <;> try (cases h; done)
          split at h
          · rename_i a b ha hb; exact ih (j + 1) l b hb k hk i hi
          · cases h
        | agg t =>
          cases c <;> simp only [resDec] at h <;> try (cases h; done)
          split at h
          · rename_i a b ha hb; exact ih (j + 1) l b hb k hk i hi
          · cases h
        | own e t =>
          cases c <;> simp only [resDec] at h <;> try (cases h; done)
          split at h
          · rename_i v a b ha hb
            simp only [ownIds, List.mem_cons] at hk
            rcases hk with rfl | hk
            · exact ownOf_mem ha i hi
            · exact ih (j + 1) l b hb k hk i hi
          · cases h
        | obj q =>
          cases c with
          | agg _ => simp [resDec] at h
          | one v =>
            cases v <;> (try (simp [resDec] at h; done))
            simp only [resDec] at h
            obtain ⟨_, h1⟩ := bif_some h
            exact ih (j + 1) l y h1 k hk i hi
        | ptr q =>
          cases c with
          | agg _ => simp [resDec] at h
          | one v =>
            cases v <;> (try (simp [resDec] at h; done))
            rename_i i' o
            cases o with
            | succ o => simp [resDec] at h
            | zero =>
              simp only [resDec] at h
              obtain ⟨_, h1⟩ := bif_some h
              exact ih (j + 1) l y h1 k hk i hi
        | mix q =>
          cases c <;> simp only [resDec] at h <;> try (cases h; done)
          split at h
          · rename_i a b ha hb; exact ih (j + 1) l b hb k hk i hi
          · cases h
        | mp mt ka va kt vt =>
          cases c <;> simp only [resDec] at h <;> try (cases h; done)
          split at h
          · rename_i v a b ha hb
            simp only [ownIds, List.mem_cons] at hk
            rcases hk with rfl | hk
            · exact mapOf_mem ha i hi
            · exact ih (j + 1) l b hb k hk i hi
          · cases h

theorem resDec_ok (I : Inv C hd S tmps w) {keep : List Nat} {G : Nat → Prop} (L : Lets C hd S w keep G) {σ : Names} :
    ∀ (rs : List RPat) (j : Nat) (l : List SS) (y : resDen rs) (vs : List Value), (∀ k ∈ resIds rs, isBound σ k = true) → resDec S keep σ j rs l = some y → all2 (SSRel w (C.F hd S) hd) l vs →
      all2 (CvRel w G (worth hd σ)) (resCvs (fun i => i) j rs y) vs ∧ ∀ p ∈ resObs (fun i => i) j rs y, ObRel w G (worth hd σ) (worth hd σ p.1) p.2 := by
  intro rs
  induction rs with
  | nil =>
    intro j l y vs _ h hv
    cases l with
    | nil => cases vs with
      | nil => exact ⟨trivial, fun p hp => by simp [resObs] at hp⟩
      | cons _ _ => exact hv.elim
    | cons _ _ => simp [resDec] at h
  | cons p rs ih =>
    intro j l y vs hi h hv
    cases l with
    | nil => cases p <;> simp [resDec] at h
    | cons s l =>
      cases vs with
      | nil => exact hv.elim
      | cons v vs =>
        obtain ⟨hs, hl⟩ := hv
        cases s with
        | tup _ => cases p <;> simp [resDec] at h
        | val c =>
          cases p with
          | one t =>
            cases c <;> simp only [resDec] at h <;> try (cases h; done)
            split at h
            · rename_i sv a b ha hb
              simp only [Option.some.injEq] at h
              subst h
              obtain ⟨h1, h2⟩ := ih (j + 1) l b vs (fun k hk => hi k (by simpa [resIds] using hk)) hb hl
              exact ⟨⟨encOne_ok t a v (decSAll_ok I (Sub.all S) L ha (vs := [v]) ⟨hs, trivial⟩), h1⟩, h2⟩
            · cases h
          | agg t =>
            cases c <;> simp only [resDec] at h <;> try (cases h; done)
            split at h
            · rename_i sv a b ha hb
              simp only [Option.some.injEq] at h
              subst h
              obtain ⟨vs', rfl, hvs'⟩ := hs
              obtain ⟨h1, h2⟩ := ih (j + 1) l b vs (fun k hk => hi k (by simpa [resIds] using hk)) hb hl
              exact ⟨⟨⟨vs', rfl, enc_ok t a _ (decSAll_ok I (Sub.all S) L ha hvs')⟩, h1⟩, h2⟩
            · cases h
          | own e t =>
            cases c <;> simp only [resDec] at h <;> try (cases h; done)
            split at h
            · rename_i sv a b ha hb
              simp only [Option.some.injEq] at h
              subst h
              obtain ⟨h3, h4, _⟩ := ownOf_ok I L.less (by simp only [ownAt]; omega) ha hs
              obtain ⟨h1, h2⟩ := ih (j + 1) l b vs (fun k hk => hi k (by simpa [resIds] using hk)) hb hl
              refine ⟨⟨h3, h1⟩, fun p hp => ?_⟩
              simp only [resObs, List.mem_cons] at hp
              rcases hp with rfl | hp
              · exact h4
              · exact h2 p hp
            · cases h
          | mp mt ka va kt vt =>
            cases c <;> simp only [resDec] at h <;> try (cases h; done)
            split at h
            · rename_i sv a b ha hb
              simp only [Option.some.injEq] at h
              subst h
              obtain ⟨h3, h4, _⟩ := mapOf_ok I L.less (by simp only [mapAt]; omega) ha hs
              obtain ⟨h1, h2⟩ := ih (j + 1) l b vs (fun k hk => hi k (by simpa [resIds] using hk)) hb hl
              refine ⟨⟨h3, h1⟩, fun p hp => ?_⟩
              simp only [resObs, List.mem_cons] at hp
              rcases hp with rfl | hp
              · exact h4
              · exact h2 p hp
            · cases h
          | obj q =>
            cases c with
            | agg _ => simp [resDec] at h
            | one sv =>
              cases sv <;> (try (simp [resDec] at h; done))
              simp only [resDec] at h
              obtain ⟨hq, h1⟩ := bif_some h
              clear h
              have hq := Nat.eq_of_beq_eq_true hq
              subst hq
              obtain ⟨h2, h3⟩ := ih (j + 1) l y vs (fun k hk => hi k (by simp only [resIds]; exact .tail _ hk)) h1 hl
              refine ⟨⟨?_, h2⟩, h3⟩
              have := (worth_bound (hd := hd) (hi q (.head _))).1
              show SVRel w G (worth hd σ) (.own q) v
              simp only [SVRel]
              rw [this]
              exact hs
          | ptr q =>
            cases c with
            | agg _ => simp [resDec] at h
            | one sv =>
              cases sv <;> (try (simp [resDec] at h; done))
              rename_i i' o
              cases o with
              | succ o => simp [resDec] at h
              | zero =>
                simp only [resDec] at h
                obtain ⟨hq, h1⟩ := bif_some h
                clear h
                have hq := Nat.eq_of_beq_eq_true hq
                subst hq
                obtain ⟨h2, h3⟩ := ih (j + 1) l y vs (fun k hk => hi k (by simp only [resIds]; exact .tail _ hk)) h1 hl
                refine ⟨⟨?_, h2⟩, h3⟩
                have := (worth_bound (hd := hd) (hi q (.head _))).1
                show SVRel w G (worth hd σ) (.ptr q 0) v
                simp only [SVRel]
                rw [this]
                exact hs
          | mix q =>
            cases c <;> simp only [resDec] at h <;> try (cases h; done)
            split at h
            · rename_i cs a b ha hb
              simp only [Option.some.injEq] at h
              subst h
              obtain ⟨vs', rfl, hvs'⟩ := hs
              obtain ⟨h1, h2⟩ := ih (j + 1) l b vs (fun k hk => hi k (by simp only [resIds, List.mem_append]; exact .inr hk)) hb hl
              refine ⟨⟨⟨vs', rfl, ?_⟩, h1⟩, h2⟩
              exact encCP_ren (ρ := fun i => i) q a _ (fun i hi' => (worth_bound (hi i (by simp only [resIds, List.mem_append]; exact .inl (cp_ids hi')))).1.symm) (decCP_ok I (Sub.all S) L q _ a _ ha hvs')
            · cases h

theorem all2_replicate {Rr : SS → Value → Prop} (h : ∀ v, Rr .dead v) (v : Value) : ∀ n, all2 Rr (List.replicate n .dead) (List.replicate n v)
  | 0 => trivial
  | n + 1 => ⟨h v, all2_replicate h v n⟩

theorem inMk {args : List Pat} {ao : List (Nat × OPat)} (a : slotsDen args) (o : objsDen ao) : inArgs ao (mkIn ao a o) = a ∧ inObjs ao (mkIn ao a o) = o := by
  cases ao with
  | nil => exact ⟨rfl, rfl⟩
  | cons p l => exact ⟨rfl, rfl⟩

theorem outMk {res : List RPat} {ro : List (Nat × OPat)} (a : resDen res) (o : objsDen ro) : outRes ro (mkOut ro a o) = a ∧ outObjs ro (mkOut ro a o) = o := by
  cases ro with
  | nil => exact ⟨rfl, rfl⟩
  | cons p l => exact ⟨rfl, rfl⟩

theorem mem_meet {a i : Nat} {b : List Nat} : ∀ {l : List Nat}, i ∈ meet b l ↔ i ∈ l ∧ i ∈ b
  | [] => by simp [meet]
  | j :: l => by
    simp only [meet]
    cases hm : memN j b with
    | true =>
      simp only [cond_true, List.mem_cons, mem_meet (a := a) (l := l)]
      constructor
      · rintro (rfl | ⟨h1, h2⟩)
        · exact ⟨.inl rfl, memN_mem hm⟩
        · exact ⟨.inr h1, h2⟩
      · rintro ⟨rfl | h1, h2⟩
        · exact .inl rfl
        · exact .inr ⟨h1, h2⟩
    | false =>
      simp only [cond_false, List.mem_cons, mem_meet (a := a) (l := l)]
      constructor
      · rintro ⟨h1, h2⟩; exact ⟨.inr h1, h2⟩
      · rintro ⟨rfl | h1, h2⟩
        · rw [mem_memN h2] at hm; cases hm
        · exact ⟨h1, h2⟩

/-- A run of the body, whatever is asked of its end, as long as the results follow. -/
structure RunTo (P : Program) (fn : Func) (body : Code) (args : List Pat) (ao : List (Nat × OPat)) (res : List RPat) (ro : List (Nat × OPat)) (x : inDen args ao) (y : outDen res ro) : Type 1 where
  R : Type
  deq : DecidableEq R
  E : Sums R
  L : Pieces R
  κ : SExit → St → Option R
  r : R
  hE : ∀ C : Ctx, C.P = P → ∀ f g, E f = some g → SumOk C f g
  hQ : ∀ f g, E f = some g → DetSum g
  hL : ∀ C : Ctx, C.P = P → ∀ p g, L p = some g → PieceOk C (codeAt body p) g
  run : sh P E L body [] ⟨pad fn.ntmps (encSlots (fun i => i) args (inArgs ao x)), encObjs (fun i => i) ao (inObjs ao x), oids ao⟩ κ = some r
  fin : ∀ ex S, κ ex S = some r → ∃ pr, finP P pr fn.results.toList ao res ro ex S = some y

theorem con_of_run {P : Program} {f : FuncId} {fn : Func} {body : Code} {args : List Pat} {ao : List (Nat × OPat)} {res : List RPat} {ro : List (Nat × OPat)} (hf : P.funcs[f]? = some fn) (hb : fn.body = some body) (hao : nodupB (oids ao) = true)
    {Fn : inDen args ao → Option (outDen res ro)} (hs : ∀ x y, Fn x = some y → Nonempty (RunTo P fn body args ao res ro x y)) : Con P f args ao res ro Fn := by
  intro w F hd x y vals hF hlie hap hob hargs hy
  obtain ⟨⟨R, deq, E, L, κ, r, hE, hQ, hL, hy, hfin⟩⟩ := hs x y hy
  generalize hO : encObjs (fun i => i) ao (inObjs ao x) = O at *
  have hids : O.map (·.1) = oids ao := by rw [← hO, ids_encObjs, mem_oids]
  let C : Ctx := { P, w0 := w, E := F, W := LiesIn hd O, small := fun b h => ⟨hF b h, fun h' => hlie b h' h⟩, hd0 := hd }
  have I : Inv C hd ⟨pad fn.ntmps (encSlots (fun i => i) args (inArgs ao x)), O, oids ao⟩ (vals.toArray ++ Array.replicate (fn.ntmps - vals.toArray.size) undef) w := by
    refine ⟨?_, hob, ?_, hap, ?_, ⟨rfl, rfl, rfl, Nat.le_refl _, fun _ _ _ => rfl⟩, fun _ _ => rfl⟩
    · have hlen := hargs.len
      simp only [Array.toList_append, Array.toList_replicate, pad, List.size_toArray, hlen]
      exact hargs.app (all2_replicate (SSRel.dead w _ hd) undef _)
    · show (O.map (·.1)).Nodup
      rw [hids]; exact nodupB_ok hao
    · intro p hp b hb
      exact .inr ⟨p, hp, hb⟩
  refine calls_of_wp hf hb (wp_mono (sh_wp (hE C rfl) hQ body (hL C rfl) (ds := []) body rfl I hy) ?_)
  rintro e ⟨tmps', ds'⟩ w' ⟨ex, hd0', S0', rfl, hk, hds, I0'⟩
  simp only at hds
  subst hds
  obtain ⟨pr, hk⟩ := hfin ex S0' hk
  obtain ⟨hd', I'⟩ := prep_ok pr I0'
  unfold finP at hk
  generalize prep pr S0' = S' at hk I'
  have done : (resVals P S' fn.results.toList fun l => match (bindRes 0 res l (selfN (oids ro) (oids ao))).bind (bindObs (look S'.objs) ro) with
      | none => none
      | some σ =>
        match nodupB ((bound σ (oids ro ++ ownIds 0 res)).map (·.2)) && disjN (meet (oids ro) (oids ao)) S'.pins && outOk res ro && (oids ro).all (isBound σ) && (meet (oids ro) (oids ao)).all (selfBound σ),
          resDec S' ((bound σ (oids ro ++ ownIds 0 res)).map (·.2)) σ 0 res l, decObjs (look S'.objs) ((bound σ (oids ro ++ ownIds 0 res)).map (·.2)) (named σ) ro with
        | true, some y, some o => some (mkOut ro y o)
        | _, _, _ => none) = some y →
      ∃ v, (results fn tmps').run P w' = .ok v w' ∧ ∃ vs hd', Ending.returned v = .returned (pack vs) ∧
        all2 (CvRel w' (forb F hd' (encObjs (fun i => i) ro (outObjs ro y) ++ resObs (fun i => i) 0 res (outRes ro y))) hd') (resCvs (fun i => i) 0 res (outRes ro y)) vs ∧
        (∀ p ∈ encObjs (fun i => i) ro (outObjs ro y) ++ resObs (fun i => i) 0 res (outRes ro y), ObRel w' (forb F hd' (encObjs (fun i => i) ro (outObjs ro y) ++ resObs (fun i => i) 0 res (outRes ro y))) hd' (hd' p.1) p.2) ∧
        Apart hd' (encObjs (fun i => i) ro (outObjs ro y) ++ resObs (fun i => i) 0 res (outRes ro y)) ∧
        (∀ i ∈ oids ao, i ∈ oids ro → hd' i = hd i) ∧
        (∀ b, LiesIn hd' (encObjs (fun i => i) ro (outObjs ro y) ++ resObs (fun i => i) 0 res (outRes ro y)) b → w.heap.size ≤ b ∨ LiesIn hd O b) ∧
        On w w' ∧ ∀ b, b < w.heap.size → ¬ LiesIn hd O b → w'.heap[b]? = w.heap[b]? := by
    intro hk
    obtain ⟨ss, vs, hrun, hss, hk⟩ := resVals_ok I' _ _ y hk
    split at hk
    · cases hk
    · rename_i σ hσ
      split at hk
      · rename_i ry oy hck hry hoy
        simp only [Option.some.injEq] at hk
        subst hk
        rw [(outMk ry oy).1, (outMk ry oy).2]
        simp only [Bool.and_eq_true] at hck
        obtain ⟨⟨⟨⟨hnd, hpin⟩, hout⟩, hbnd⟩, hself⟩ := hck
        simp only [outOk, Bool.and_eq_true] at hout
        obtain ⟨hsub, _⟩ := hout
        have hbound : ∀ k ∈ oids ro, isBound σ k = true := fun k hk => List.all_eq_true.1 hbnd k hk
        have hres : ∀ k ∈ resIds res, isBound σ k = true := fun k hk => hbound k (memN_mem (List.all_eq_true.1 hsub k (List.mem_append_left _ hk)))
        have hobs : ∀ k ∈ obsIds ro, isBound σ k = true := fun k hk => hbound k (memN_mem (List.all_eq_true.1 hsub k (List.mem_append_right _ hk)))
        have hmemO := decObjs_mem (Sub.all S') ro oy hoy
        have hmemR := resDec_mem res 0 ss ry hry
        have hnd := nodupB_ok hnd
        -- the objects behind the results' names
        have there : ∀ k ∈ oids ro ++ ownIds 0 res, ∀ i, nameOf σ k = some i → ∃ o, (i, o) ∈ S'.objs := by
          intro k hk i hi
          rcases List.mem_append.1 hk with hk | hk
          · obtain ⟨o, ho⟩ := hmemO k (by rw [← mem_oids]; exact hk)
            have : named σ k = i := by unfold named; rw [hi]; rfl
            rw [this] at ho
            exact ⟨o, ho⟩
          · exact hmemR k hk i hi
        have hroid : ∀ p ∈ encObjs (fun i => i) ro oy ++ resObs (fun i => i) 0 res ry, p.1 ∈ oids ro ++ ownIds 0 res := by
          intro p hp
          rcases List.mem_append.1 hp with hp | hp
          · obtain ⟨k, h1, h2⟩ := mem_encObjs hp; rw [h2]; exact List.mem_append_left _ h1
          · obtain ⟨k, h1, h2⟩ := mem_resObs hp; rw [h2]; exact List.mem_append_right _ h1
        have hworth : ∀ k b, blk (worth hd' σ k) = some b → ∃ i, nameOf σ k = some i ∧ blk (hd' i) = some b := by
          intro k b hb
          unfold worth at hb
          split at hb
          · rename_i i hi; exact ⟨i, hi, hb⟩
          · cases hq : Nat.beq (k % 2) 1 <;> simp [hq, blk] at hb
        generalize hR : encObjs (fun i => i) ro oy ++ resObs (fun i => i) 0 res ry = R at *
        have hLies : ∀ b, LiesIn (worth hd' σ) R b → ∃ k i o, k ∈ oids ro ++ ownIds 0 res ∧ nameOf σ k = some i ∧ (i, o) ∈ S'.objs ∧ blk (hd' i) = some b := by
          rintro b ⟨p, hp, hpb⟩
          obtain ⟨i, hi, hib⟩ := hworth _ b hpb
          obtain ⟨o, ho⟩ := there p.1 (hroid p hp) i hi
          exact ⟨p.1, i, o, hroid p hp, hi, ho, hib⟩
        have Lt : Lets C hd' S' w' ((bound σ (oids ro ++ ownIds 0 res)).map (·.2)) (forb F (worth hd' σ) R) := by
          constructor
          · rintro b _ (h | h)
            · exact .inl h
            · obtain ⟨_, i, o, _, _, ho, hb⟩ := hLies b h
              exact .inr ⟨_, ho, hb⟩
          · rintro i o hio hni b hb (h | h)
            · have := C.small b h
              rcases I'.place _ hio b hb with h' | h'
              · have := this.1; omega
              · exact this.2 h'
            · obtain ⟨k, i', o', hk, hki, ho', hb'⟩ := hLies b h
              refine I'.apart (i', o') ho' (i, o) hio (fun e => hni ?_) b hb' hb
              have e : i' = i := e
              subst e
              exact List.mem_map.2 ⟨(k, i'), mem_bound hki hk, rfl⟩
        obtain ⟨h1, h2⟩ := resDec_ok I' Lt res 0 ss ry vs hres hry hss
        have h3 := decObjs_ok I' (Sub.all S') Lt ro oy hoy
        have h4 : ∀ p ∈ encObjs (fun i => i) ro oy, ObRel w' (forb F (worth hd' σ) R) (worth hd' σ) (worth hd' σ p.1) p.2 :=
          ObRel_enc (hd0 := fun i => hd' (named σ i)) (v := fun i => hd' (named σ i)) (fun i hi => (worth_bound (hobs i hi)).1.symm) (fun k hk => (worth_bound (hbound k hk)).1.symm) h3
        refine ⟨_, run_results hrun, vs, worth hd' σ, rfl, h1, ?_, ?_, ?_, ?_, ⟨I'.still.os, I'.still.tape, I'.still.output, I'.still.size⟩, fun b hb hnl => I'.still.block b hb hnl⟩
        · intro p hp
          rw [← hR] at hp
          rcases List.mem_append.1 hp with hp | hp
          · exact h4 p hp
          · exact h2 p hp
        · intro p hp q hq hne b hpb hqb
          obtain ⟨i, hi, hib⟩ := hworth _ b hpb
          obtain ⟨i', hi', hib'⟩ := hworth _ b hqb
          obtain ⟨o, ho⟩ := there p.1 (hroid p hp) i hi
          obtain ⟨o', ho'⟩ := there q.1 (hroid q hq) i' hi'
          by_cases he : i = i'
          · subst he
            exact hne (bound_inj hnd (mem_bound hi (hroid p hp)) (mem_bound hi' (hroid q hq)))
          · exact I'.apart _ ho _ ho' he b hib hib'
        · intro i hia hir
          have hm := (mem_meet (a := 0)).2 ⟨hia, hir⟩
          have hsb := List.all_eq_true.1 hself i hm
          have hpi := I'.pins i (memN_mem (List.all_eq_true.1 hpin i hm))
          unfold selfBound at hsb
          split at hsb
          · rename_i j hj
            have hj' := Nat.eq_of_beq_eq_true hsb
            subst hj'
            show worth hd' σ j = hd j
            unfold worth
            rw [hj]
            exact hpi
          · cases hsb
        · intro b hb
          obtain ⟨_, i, o, _, _, ho, hib⟩ := hLies b hb
          exact I'.place _ ho b hib
      · cases hk
  cases ex with
  | normal => exact ⟨rfl, done hk⟩
  | exit i => cases hk
  | ret => exact ⟨rfl, done hk⟩

theorem con_of_sh {P : Program} {f : FuncId} {fn : Func} {body : Code} {args : List Pat} {ao : List (Nat × OPat)} {res : List RPat} {ro : List (Nat × OPat)} (hf : P.funcs[f]? = some fn) (hb : fn.body = some body) (hao : nodupB (oids ao) = true)
    {E : Sums (outDen res ro)} {L : Pieces (outDen res ro)} (hE : ∀ C : Ctx, C.P = P → ∀ f g, E f = some g → SumOk C f g) (hQ : ∀ f g, E f = some g → DetSum g) (hL : ∀ C : Ctx, C.P = P → ∀ p g, L p = some g → PieceOk C (codeAt body p) g)
    {Fn : inDen args ao → Option (outDen res ro)}
    (pr : Preps) (hs : ∀ x, Fn x = sh P E L body [] ⟨pad fn.ntmps (encSlots (fun i => i) args (inArgs ao x)), encObjs (fun i => i) ao (inObjs ao x), oids ao⟩ (finP P pr fn.results.toList ao res ro)) : Con P f args ao res ro Fn :=
  con_of_run hf hb hao fun x y hy => ⟨⟨_, inferInstance, E, L, _, y, hE, hQ, hL, (hs x).symm.trans hy, fun _ _ h => ⟨pr, h⟩⟩⟩

end
end Go.Sh
