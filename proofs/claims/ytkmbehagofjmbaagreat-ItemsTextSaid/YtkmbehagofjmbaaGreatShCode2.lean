/-
  The shadow evaluator is right: of code, of loops. No project text.
-/
import Derived.Test.YtkmbehagofjmbaaGreatShDraw4
import Derived.Scope
namespace Go.Sh

section
variable {R : Type} {C : Ctx} {hd : Nat → Value} {S : St} {tmps : Array Value} {w : World} {ds : List Deferred}

/-- How the evaluator's way out reads in the model. -/
def SExit.real : SExit → Exit
  | .normal => .normal
  | .exit i => .exit i
  | .ret => .ret

/-- Behind a piece of code: the evaluator's answer holds of the way out and of the state. -/
def After (C : Ctx) (ds : List Deferred) (κ : SExit → St → Option R) (r : R) (e : Exit) (a : Act) (w : World) : Prop :=
  ∃ x hd S, e = x.real ∧ κ x S = some r ∧ a.defers = ds ∧ Inv C hd S a.tmps w

def PieceOk (C : Ctx) (c : Code) (g : St → (SExit → St → Option R) → Option R) : Prop :=
  ∀ (hd : Nat → Value) (S : St) (tmps : Array Value) (w : World) (ds : List Deferred) (κ : SExit → St → Option R) (r : R), Inv C hd S tmps w → g S κ = some r →
    c.wp C.P (After C ds κ r) { tmps, defers := ds } w

theorem sh_wp [DecidableEq R] {E : Sums R} (hE : ∀ f g, E f = some g → SumOk C f g) (hQ : ∀ f g, E f = some g → DetSum g) {L : Pieces R} (root : Code) (hL : ∀ p g, L p = some g → PieceOk C (codeAt root p) g) :
    ∀ (c : Code) {p : List Nat}, codeAt root p = c → ∀ {hd : Nat → Value} {S : St} {tmps : Array Value} {w : World} {κ : SExit → St → Option R} {r : R}, Inv C hd S tmps w → sh C.P E L c p S κ = some r →
      c.wp C.P (After C ds κ r) { tmps, defers := ds } w := by
  intro c
  induction c with
  | skip => intro p hp hd S tmps w κ r I h; exact wp_skip ⟨.normal, hd, S, rfl, h, rfl, I⟩
  | region id os draw =>
    intro p hp hd S tmps w κ r I h
    cases draw with
    | true =>
      simp only [sh] at h
      split at h
      · rename_i g hg; rw [← hp]; exact hL _ g hg hd S tmps w ds κ r I h
      · obtain ⟨hd', h⟩ := bif_some h
        refine draw_wp hE hQ hd' (κ := κ .normal) ?_ I h
        intro hd' S' tmps' w' hk I'
        exact ⟨.normal, hd', S', rfl, hk, rfl, I'⟩
    | false =>
      simp only [sh] at h
      split at h
      · rename_i g hg; rw [← hp]; exact hL _ g hg hd S tmps w ds κ r I h
      · refine wp_region_list (ops_wp hE os (κ := κ .normal) ?_ os.toList I h)
        intro hd' S' tmps' w' hk I'
        exact ⟨.normal, hd', S', rfl, hk, rfl, I'⟩
  | seq a b iha ihb =>
    intro p hp hd S tmps w κ r I h
    simp only [sh] at h
    refine wp_seq (wp_mono (iha (p := 0 :: p) (by simp [codeAt, hp, child]) I h) ?_)
    rintro e ⟨tmps', ds'⟩ w' ⟨x, hd', S', rfl, hk, hds, I'⟩
    simp only at hds
    subst hds
    cases x with
    | normal => exact ihb (p := 1 :: p) (by simp [codeAt, hp, child]) I' hk
    | exit i => exact ⟨.exit i, hd', S', rfl, hk, rfl, I'⟩
    | ret => exact ⟨.ret, hd', S', rfl, hk, rfl, I'⟩
  | cond c x y ihx ihy =>
    intro p hp hd S tmps w κ r I h
    simp only [sh] at h
    split at h
    · rename_i g hg; rw [← hp]; exact hL _ g hg hd S tmps w ds κ r I h
    · split at h
      · rename_i b hb
        have hc := I.rd c ds
        rw [hb] at hc
        refine wp_cond_split (t := b) hc ?_ ?_
        · rintro rfl; exact ihx (p := 0 :: p) (by simp [codeAt, hp, child]) I h
        · rintro rfl; exact ihy (p := 1 :: p) (by simp [codeAt, hp, child]) I h
      · cases h
  | block id c ih =>
    intro p hp hd S tmps w κ r I h
    simp only [sh] at h
    refine wp_block (wp_mono (ih (p := 0 :: p) (by simp [codeAt, hp, child]) I h) ?_)
    rintro e ⟨tmps', ds'⟩ w' ⟨x, hd', S', rfl, hk, hds, I'⟩
    simp only at hds
    subst hds
    cases x with
    | normal => exact ⟨.normal, hd', S', rfl, hk, rfl, I'⟩
    | exit j =>
      simp only [SExit.real, Exit.inBlock]
      cases hb : Nat.beq j id with
      | true =>
        rw [if_pos (Nat.eq_of_beq_eq_true hb)]
        simp only [hb, cond_true] at hk
        exact ⟨.normal, hd', S', rfl, hk, rfl, I'⟩
      | false =>
        rw [if_neg (beq_ne hb)]
        simp only [hb, cond_false] at hk
        exact ⟨.exit j, hd', S', rfl, hk, rfl, I'⟩
    | ret => exact ⟨.ret, hd', S', rfl, hk, rfl, I'⟩
  | loop c ih =>
    intro p hp hd S tmps w κ r I h
    simp only [sh] at h
    split at h
    · rename_i g hg; rw [← hp]; exact hL _ g hg hd S tmps w ds κ r I h
    · cases h
  | exit id => intro p hp hd S tmps w κ r I h; exact wp_exit ⟨.exit id, hd, S, rfl, h, rfl, I⟩
  | ret => intro p hp hd S tmps w κ r I h; exact wp_ret ⟨.ret, hd, S, rfl, h, rfl, I⟩
  | rangeFunc f ps a b _ _ => intro p hp hd S tmps w κ r I h; cases h
  | scope c ih =>
    intro p hp hd S tmps w κ r I h
    refine wp_scope_straight (wp_mono (ih (p := 0 :: p) (by simp [codeAt, hp, child]) I h) ?_)
    rintro e a w' ⟨x, hd', S', rfl, hk, hds, I'⟩
    cases x <;> exact ⟨_, hd', S', rfl, hk, hds, I'⟩
  | label l => intro p hp hd S tmps w κ r I h; exact wp_label ⟨.normal, hd, S, rfl, h, rfl, I⟩
  | goto l => intro p hp hd S tmps w κ r I h; cases h
  | refuse s => intro p hp hd S tmps w κ r I h; cases h

/-- A loop from its head on. -/
def loopWp (P : Program) (c : Code) (Q : Exit → Act → World → Prop) (a : Act) (w : World) : Prop :=
  ∀ (b : Frame) (k : List Item) (cs : List Frame), ∃ e a' w', Q e a' w' ∧ Arrives P (lone (b.at a (.code c :: .inLoop c :: k)) cs w) b k cs e a' w'

theorem loopWp.wp {P : Program} {c : Code} {Q : Exit → Act → World → Prop} {a : Act} (h : loopWp P c Q a w) : (Code.loop c).wp P Q a w := by
  intro b k cs
  obtain ⟨e, a', w', hq, harr⟩ := h b k cs
  exact ⟨e, a', w', hq, .of_steps (.one step_loop) harr⟩

theorem loopWp.round {P : Program} {c : Code} {Q : Exit → Act → World → Prop} {a : Act} (h : c.wp P (Exit.then (loopWp P c Q) Q) a w) : loopWp P c Q a w := by
  intro b k cs
  obtain ⟨e, a₁, w₁, hq, harr⟩ := h b (.inLoop c :: k) cs
  cases e with
  | normal =>
    obtain ⟨e₂, a₂, w₂, hq₂, harr₂⟩ := hq b k cs
    exact ⟨e₂, a₂, w₂, hq₂, .of_steps (Steps.trans harr (.one step_inLoop)) harr₂⟩
  | exit id => exact ⟨_, a₁, w₁, hq, .pass (x := .inLoop c) rfl (fun _ _ => .inl (by simp)) harr⟩
  | goto l => exact ⟨_, a₁, w₁, hq, .pass (x := .inLoop c) rfl (fun _ _ => .inl (by simp)) harr⟩
  | ret => exact ⟨_, a₁, w₁, hq, .pass (x := .inLoop c) rfl (fun _ _ => .inl (by simp)) harr⟩
  | panic ch => exact ⟨_, a₁, w₁, hq, .pass (x := .inLoop c) rfl (fun _ _ => .inl (by simp)) harr⟩
  | outgrown => exact ⟨_, a₁, w₁, hq, .pass (x := .inLoop c) rfl (fun _ _ => .inl (by simp)) harr⟩

end
end Go.Sh
