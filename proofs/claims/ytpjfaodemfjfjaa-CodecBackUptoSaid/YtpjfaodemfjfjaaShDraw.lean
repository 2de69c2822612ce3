/-
  A region that draws its order: where the quiet operations are apart, the text's order serves every order. No project text.
-/
import Derived.Test.YtpjfaodemfjfjaaShCode
import Derived.Orders
namespace Go.Sh

section
variable {R : Type} {P : Program} {S : St}

/-- A called function that leaves the evaluator's state alone, and gives the same in each state of the same objects. -/
def QuietSum (g : Nat → List SS → St → (SS → St → Option R) → Option R) : Prop :=
  ∀ d as S κ r, g d as S κ = some r → ∃ v, κ v S = some r ∧ ∀ d' S1, S1.objs = S.objs → ∀ (κ' : SS → St → Option R) (r' : R), κ' v S1 = some r' → g d' as S1 κ' = some r'

theorem listOf_objs {S1 : St} (h : S1.objs = S.objs) (t : Ty) (v : SV) : listOf S1 t v = listOf S t v := by
  cases v <;> simp only [listOf, h]

theorem lenOf_objs {S1 : St} (h : S1.objs = S.objs) (v : SV) : lenOf S1 v = lenOf S v := by
  cases v <;> simp only [lenOf, h]

theorem ints_det {op : BinOp} {k : IntKind} {a b : Int} {κ : Value → Option R} {r : R} (h : ints op k a b κ = some r) : ∃ v, κ v = some r ∧ ∀ (κ' : Value → Option R) (r' : R), κ' v = some r' → ints op k a b κ' = some r' := by
  cases op <;> simp only [ints] at h ⊢ <;> first
    | (cases h; done)
    | (exact ⟨_, h, fun κ' r' hk => hk⟩)
    | (obtain ⟨hb, h⟩ := bif_some' h; exact ⟨_, h, fun κ' r' hk => by rw [hb]; exact hk⟩)

theorem eqAgg_det {t : TypeId} {x y : List SV} {κ : Bool → Option R} {r : R} (h : eqAgg P t x y κ = some r) : ∃ v, κ v = some r ∧ ∀ (κ' : Bool → Option R) (r' : R), κ' v = some r' → eqAgg P t x y κ' = some r' := by
  unfold eqAgg at h ⊢
  split at h
  · split at h
    · rename_i a b ha hb
      exact ⟨_, h, fun κ' r' hk => by simp only [*]⟩
    · cases h
  · cases h

theorem binop_det {t : TypeId} {op : BinOp} {x y : SS} {κ : SS → Option R} {r : R} (h : binop P t op x y κ = some r) : ∃ v, κ v = some r ∧ ∀ (κ' : SS → Option R) (r' : R), κ' v = some r' → binop P t op x y κ' = some r' := by
  unfold binop at h
  split at h
  · split at h
    · obtain ⟨v, hv, hr⟩ := eqAgg_det h
      exact ⟨_, hv, fun κ' r' hk => by simp only [binop]; exact hr _ _ hk⟩
    · obtain ⟨v, hv, hr⟩ := eqAgg_det h
      exact ⟨_, hv, fun κ' r' hk => by simp only [binop]; exact hr _ _ hk⟩
    · cases h
  · split at h
    · obtain ⟨hb, h⟩ := bif_some' h
      exact ⟨_, h, fun κ' r' hk => by simp only [binop, hb]; exact hk⟩
    · obtain ⟨hb, h⟩ := bif_some' h
      exact ⟨_, h, fun κ' r' hk => by simp only [binop, hb]; exact hk⟩
    · split at h
      · rename_i e
        obtain ⟨v, hv, hr⟩ := ints_det h
        refine ⟨_, hv, fun κ' r' hk => ?_⟩
        have := hr (fun v => κ' (.at v)) r' hk
        subst e
        unfold binop
        simp only [if_true]
        exact this
      · cases h
  · split at h <;> first
      | (cases h; done)
      | exact ⟨_, h, fun κ' r' hk => by simp only [binop]; exact hk⟩
  · split at h
    · exact ⟨_, h, fun κ' r' hk => by simp only [binop, *]⟩
    · exact ⟨_, h, fun κ' r' hk => by simp only [binop, *]⟩
    · cases h
  · cases h

theorem unop_det {op : UnOp} {x : SS} {κ : SS → Option R} {r : R} (h : unop op x κ = some r) : ∃ v, κ v = some r ∧ ∀ (κ' : SS → Option R) (r' : R), κ' v = some r' → unop op x κ' = some r' := by
  unfold unop at h
  split at h
  · exact ⟨_, h, fun κ' r' hk => by simp only [unop]; exact hk⟩
  · exact ⟨_, h, fun κ' r' hk => by simp only [unop]; exact hk⟩
  · cases h

theorem load_det {t : TypeId} {x : SS} {κ : SS → Option R} {r : R} (h : load P S t x κ = some r) : ∃ v, κ v = some r ∧ ∀ S1, S1.objs = S.objs → ∀ (κ' : SS → Option R) (r' : R), κ' v = some r' → load P S1 t x κ' = some r' := by
  unfold load at h
  split at h
  · split at h
    · split at h
      · exact ⟨_, h, fun S1 ho κ' r' hk => by simp only [load, *]⟩
      · cases h
    · cases h
  · split at h
    · rename_i hlk
      obtain ⟨hb, h1⟩ := bif_some h
      rw [Option.bind_eq_some_iff] at h1
      obtain ⟨d, hd, h2⟩ := h1
      split at h2
      · rename_i hc
        exact ⟨_, h2, fun S1 ho κ' r' hk => by simp only [load, *, cond_true, Option.bind_some]⟩
      · cases h2
    · cases h
  · split at h
    · exact ⟨_, h, fun S1 ho κ' r' hk => by simp only [load, *]⟩
    · cases h
  · cases h

theorem getInt_det {s : SS} {κ : Int → Option R} {r : R} (h : getInt s κ = some r) : ∃ n, κ n = some r ∧ ∀ κ' : Int → Option R, getInt s κ' = κ' n := by
  unfold getInt at h
  split at h
  · exact ⟨_, h, fun κ' => rfl⟩
  · cases h

theorem getIntO_det {s : Option SS} {d : Int} {κ : Int → Option R} {r : R} (h : getIntO s d κ = some r) : ∃ n, κ n = some r ∧ ∀ κ' : Int → Option R, getIntO s d κ' = κ' n := by
  cases s with
  | none => exact ⟨d, h, fun κ' => rfl⟩
  | some s => exact getInt_det h

theorem slice_det {t : TypeId} {x : SS} {lo hi : Option SS} {κ : SS → Option R} {r : R} (h : slice P S t x lo hi κ = some r) : ∃ v, κ v = some r ∧ ∀ S1, S1.objs = S.objs → ∀ (κ' : SS → Option R) (r' : R), κ' v = some r' → slice P S1 t x lo hi κ' = some r' := by
  unfold slice at h
  split at h
  · rename_i hu
    obtain ⟨hb, h1⟩ := bif_some h
    obtain ⟨a, h2, ra⟩ := getIntO_det h1
    obtain ⟨b, h3, rb⟩ := getIntO_det h2
    obtain ⟨hc, h4⟩ := bif_some h3
    exact ⟨_, h4, fun S1 ho κ' r' hk => by simp only [slice, hu, hb, ra, rb, hc, cond_true]; exact hk⟩
  · rename_i hu
    split at h
    · rename_i hlk
      obtain ⟨hb, h1⟩ := bif_some h
      obtain ⟨a, h2, ra⟩ := getIntO_det h1
      obtain ⟨b, h3, rb⟩ := getIntO_det h2
      obtain ⟨hc, h4⟩ := bif_some h3
      exact ⟨_, h4, fun S1 ho κ' r' hk => by simp only [slice, hu, ho, hlk, hb, ra, rb, hc, cond_true]; exact hk⟩
    · cases h
  · rename_i hu
    obtain ⟨hb, h1⟩ := bif_some h
    obtain ⟨a, h2, ra⟩ := getIntO_det h1
    obtain ⟨b, h3, rb⟩ := getIntO_det h2
    obtain ⟨hc, h4⟩ := bif_some h3
    exact ⟨_, h4, fun S1 ho κ' r' hk => by simp only [slice, hu, hb, ra, rb, hc, cond_true]; exact hk⟩
  · rename_i hu
    split at h
    · rename_i hty
      rw [Option.bind_eq_some_iff] at h
      obtain ⟨l, hl, h1⟩ := h
      exact ⟨_, h1, fun S1 ho κ' r' hk => by simp only [slice, hu, hty, hl, Option.bind_some]; exact hk⟩
    · cases h
  · rename_i hu
    split at h
    · rename_i hty
      exact ⟨_, h, fun S1 ho κ' r' hk => by simp only [slice, hu, hty]; exact hk⟩
    · cases h
  · rename_i hu
    split at h
    · rename_i hty
      exact ⟨_, h, fun S1 ho κ' r' hk => by simp only [slice, hu, hty]; exact hk⟩
    · cases h
  · cases h

theorem indexAddr_det {t : TypeId} {x i : SS} {κ : SS → Option R} {r : R} (h : indexAddr P S t x i κ = some r) : ∃ v, κ v = some r ∧ ∀ S1, S1.objs = S.objs → ∀ (κ' : SS → Option R) (r' : R), κ' v = some r' → indexAddr P S1 t x i κ' = some r' := by
  unfold indexAddr at h
  obtain ⟨n, h1, rn⟩ := getInt_det h
  clear h
  split at h1
  · rename_i hu
    obtain ⟨hb, h2⟩ := bif_some h1
    rw [Option.bind_eq_some_iff] at h2
    obtain ⟨d, hd, h3⟩ := h2
    exact ⟨_, h3, fun S1 ho κ' r' hk => by simp only [indexAddr, rn, hu, hb, hd, cond_true, Option.bind_some]; exact hk⟩
  · rename_i hu
    split at h1
    · rename_i hlk
      obtain ⟨hb, h2⟩ := bif_some h1
      obtain ⟨hc, h3⟩ := bif_some h2
      exact ⟨_, h3, fun S1 ho κ' r' hk => by simp only [indexAddr, rn, hu, ho, hlk, hb, hc, cond_true]; exact hk⟩
    · cases h1
  · rename_i hu
    obtain ⟨hb, h2⟩ := bif_some h1
    obtain ⟨hc, h3⟩ := bif_some h2
    exact ⟨_, h3, fun S1 ho κ' r' hk => by simp only [indexAddr, rn, hu, hb, hc, cond_true]; exact hk⟩
  · rename_i hu
    obtain ⟨hc, h3⟩ := bif_some h1
    exact ⟨_, h3, fun S1 ho κ' r' hk => by simp only [indexAddr, rn, hu, hc, cond_true]; exact hk⟩
  · rename_i hu
    obtain ⟨hc, h3⟩ := bif_some h1
    exact ⟨_, h3, fun S1 ho κ' r' hk => by simp only [indexAddr, rn, hu, hc, cond_true]; exact hk⟩
  · cases h1

theorem fieldAddr_det {t : TypeId} {x : SS} {f : Nat} {κ : SS → Option R} {r : R} (h : fieldAddr P t x f κ = some r) : ∃ v, κ v = some r ∧ ∀ (κ' : SS → Option R) (r' : R), κ' v = some r' → fieldAddr P t x f κ' = some r' := by
  unfold fieldAddr at h
  split at h
  · rename_i hu
    split at h
    · rename_i hf
      obtain ⟨hb, h1⟩ := bif_some' h
      split at h1
      · exact ⟨_, h1, fun κ' r' hk => by simp only [fieldAddr, hu, hf, hb, cond_false]; exact hk⟩
      · exact ⟨_, h1, fun κ' r' hk => by simp only [fieldAddr, hu, hf, hb, cond_false]; exact hk⟩
      · exact ⟨_, h1, fun κ' r' hk => by simp only [fieldAddr, hu, hf, hb, cond_false]; exact hk⟩
      · cases h1
    · cases h
  · cases h

theorem field_det {t : TypeId} {x : SS} {f : Nat} {κ : SS → Option R} {r : R} (h : field P t x f κ = some r) : ∃ v, κ v = some r ∧ ∀ (κ' : SS → Option R) (r' : R), κ' v = some r' → field P t x f κ' = some r' := by
  unfold field at h
  split at h
  · rename_i hu
    split at h
    · rename_i hf
      split at h
      · rename_i hg
        split at h
        · rename_i hc
          exact ⟨_, h, fun κ' r' hk => by simp only [field, hu, hf, hg, hc]; exact hk⟩
        · cases h
      · cases h
    · cases h
  · cases h

theorem index_det {t : TypeId} {x i : SS} {κ : SS → Option R} {r : R} (h : index P t x i κ = some r) : ∃ v, κ v = some r ∧ ∀ (κ' : SS → Option R) (r' : R), κ' v = some r' → index P t x i κ' = some r' := by
  unfold index at h
  split at h
  · rename_i hu
    obtain ⟨n, h1, rn⟩ := getInt_det h
    split at h1
    · rename_i hg
      obtain ⟨hb, h2⟩ := bif_some h1
      split at h2
      · rename_i hc
        exact ⟨_, h2, fun κ' r' hk => by simp only [index, hu, rn, hg, hb, hc, cond_true]; exact hk⟩
      · cases h2
    · cases h1
  · cases h

theorem extract_det {x : SS} {i : Nat} {κ : SS → Option R} {r : R} (h : extract x i κ = some r) : ∃ v, κ v = some r ∧ ∀ (κ' : SS → Option R) (r' : R), κ' v = some r' → extract x i κ' = some r' := by
  unfold extract at h
  split at h
  · split at h
    · rename_i hc
      exact ⟨_, h, fun κ' r' hk => by simp only [extract, hc]; exact hk⟩
    · cases h
  · cases h

theorem fill_objs {S1 : St} {place : Nat → Option (Nat × Nat)} : ∀ (ps : List (Nat × Operand)) (l : List SV), (∀ p ∈ ps, rd S1 p.2 = rd S p.2) → fillCells place S1 l ps = fillCells place S l ps
  | [], l, _ => rfl
  | (i, x) :: ps, l, h => by
    have hx : rd S1 x = rd S x := h (i, x) (.head _)
    have ih : ∀ l, fillCells place S1 l ps = fillCells place S l ps := fun l => fill_objs ps l fun p hp => h p (.tail _ hp)
    simp only [fillCells, hx, ih]

theorem build_det {t : TypeId} {ps : List (Nat × Operand)} {κ : SS → Option R} {r : R} (h : build P S t ps κ = some r) :
    ∃ v, κ v = some r ∧ ∀ S1, (∀ p ∈ ps, rd S1 p.2 = rd S p.2) → ∀ (κ' : SS → Option R) (r' : R), κ' v = some r' → build P S1 t ps κ' = some r' := by
  unfold build at h
  split at h
  · rename_i hz hu
    obtain ⟨hb, h1⟩ := bif_some h
    split at h1
    · rename_i l hl
      exact ⟨_, h1, fun S1 hp κ' r' hk => by simp only [build, hz, hu, hb, cond_true, fill_objs ps _ hp, hl]; exact hk⟩
    · cases h1
  · rename_i hz hu
    obtain ⟨hb, h1⟩ := bif_some h
    split at h1
    · rename_i l hl
      exact ⟨_, h1, fun S1 hp κ' r' hk => by simp only [build, hz, hu, hb, cond_true, fill_objs ps _ hp, hl]; exact hk⟩
    · cases h1
  · cases h

theorem rds_objs {S1 : St} : ∀ l : List Operand, (∀ x ∈ l, rd S1 x = rd S x) → rds S1 l = rds S l
  | [], _ => rfl
  | x :: l, h => by simp only [rds, h x (.head _), rds_objs l fun y hy => h y (.tail _ hy)]

theorem builtin_det {d : Nat} {b : Builtin} (hb : b = .len ∨ b = .max ∨ b = .min) {tys : List TypeId} {args : List SS} {κ : SS → St → Option R} {r : R} (h : builtin P S d b tys args κ = some r) :
    ∃ v, κ v S = some r ∧ ∀ (S1 : St), S1.objs = S.objs → ∀ (κ' : SS → St → Option R) (r' : R), κ' v S1 = some r' → builtin P S1 d b tys args κ' = some r' := by
  unfold builtin at h
  split at h
  · rename_i t v
    split at h
    · rename_i hu
      split at h
      · rename_i n hn
        exact ⟨_, h, fun S1 ho κ' r' hk => by simp only [builtin, hu, lenOf_objs ho, hn]; exact hk⟩
      · cases h
    · rename_i hu
      split at h
      · exact ⟨_, h, fun S1 ho κ' r' hk => by simp only [builtin, hu]; exact hk⟩
      · cases h
    · cases h
  · rcases hb with h | h | h <;> cases h
  · rcases hb with h | h | h <;> cases h
  · exact ⟨_, h, fun S1 ho κ' r' hk => by simp only [builtin]; exact hk⟩
  · exact ⟨_, h, fun S1 ho κ' r' hk => by simp only [builtin]; exact hk⟩
  · cases h

theorem opv_det {E : Sums R} {Qf : FuncId → Bool} (hQ : ∀ f g, Qf f = true → E f = some g → QuietSum g) {d : Nat} {op : Op} (hq : opQuiet P Qf op = true) {κ : SS → St → Option R} {r : R} (h : opv P E S d op κ = some r) :
    ∃ v, κ v S = some r ∧ ∀ (S1 : St), S1.objs = S.objs → (∀ x ∈ op.operands, rd S1 x = rd S x) → ∀ (κ' : SS → St → Option R) (r' : R), κ' v S1 = some r' → opv P E S1 d op κ' = some r' := by
  unfold opQuiet at hq
  split at hq
  · rename_i x
    exact ⟨_, h, fun S1 ho hr κ' r' hk => by simp only [opv, hr x (by simp [Op.operands])]; exact hk⟩
  · rename_i x
    exact ⟨_, h, fun S1 ho hr κ' r' hk => by simp only [opv, hr x (by simp [Op.operands])]; exact hk⟩
  · rename_i c a b
    simp only [opv] at h
    split at h
    · rename_i q hc
      split at h
      · rename_i x y hx hy
        exact ⟨_, h, fun S1 ho hr κ' r' hk => by simp only [opv, hr c (by simp [Op.operands]), hr a (by simp [Op.operands]), hr b (by simp [Op.operands]), hc, hx, hy]; exact hk⟩
      · rename_i hne
        cases q with
        | true =>
          refine ⟨_, h, fun S1 ho hr κ' r' hk => ?_⟩
          simp only [opv, hr c (by simp [Op.operands]), hr a (by simp [Op.operands]), hr b (by simp [Op.operands]), hc]
          exact hk
        | false =>
          refine ⟨_, h, fun S1 ho hr κ' r' hk => ?_⟩
          simp only [opv, hr c (by simp [Op.operands]), hr a (by simp [Op.operands]), hr b (by simp [Op.operands]), hc]
          exact hk
    · cases h
  · rename_i t ps
    simp only [opv] at h
    obtain ⟨v, hv, hr⟩ := build_det h
    exact ⟨v, hv, fun S1 ho hrd κ' r' hk => by simp only [opv]; exact hr S1 (fun p hp => hrd p.2 (by simp only [Op.operands, List.mem_toArray]; exact List.mem_map.2 ⟨p, hp, rfl⟩)) _ r' hk⟩
  · rename_i t a
    simp only [opv] at h
    obtain ⟨v, hv, hr⟩ := load_det h
    exact ⟨v, hv, fun S1 ho hrd κ' r' hk => by simp only [opv, hrd a (by simp [Op.operands])]; exact hr S1 ho _ r' hk⟩
  · rename_i x
    simp only [opv] at h
    split at h
    · rename_i hx
      exact ⟨_, h, fun S1 ho hr κ' r' hk => by simp only [opv, hr x (by simp [Op.operands]), hx]; exact hk⟩
    · rename_i hx
      exact ⟨_, h, fun S1 ho hr κ' r' hk => by simp only [opv, hr x (by simp [Op.operands]), hx]; exact hk⟩
    · rename_i hx
      exact ⟨_, h, fun S1 ho hr κ' r' hk => by simp only [opv, hr x (by simp [Op.operands]), hx]; exact hk⟩
    · cases h
  · rename_i op t x y yt
    simp only [opv] at h
    obtain ⟨v, hv, hr⟩ := binop_det h
    exact ⟨v, hv, fun S1 ho hrd κ' r' hk => by simp only [opv, hrd x (by simp [Op.operands]), hrd y (by simp [Op.operands])]; exact hr _ r' hk⟩
  · rename_i op t x
    simp only [opv] at h
    obtain ⟨v, hv, hr⟩ := unop_det h
    exact ⟨v, hv, fun S1 ho hrd κ' r' hk => by simp only [opv, hrd x (by simp [Op.operands])]; exact hr _ r' hk⟩
  · rename_i t x lo hi
    simp only [opv] at h
    obtain ⟨v, hv, hr⟩ := slice_det h
    refine ⟨v, hv, fun S1 ho hrd κ' r' hk => ?_⟩
    have hlo : lo.map (rd S1) = lo.map (rd S) := by cases lo with
      | none => rfl
      | some l => simp only [Option.map_some, hrd l (by simp [Op.operands])]
    have hhi : hi.map (rd S1) = hi.map (rd S) := by cases hi with
      | none => rfl
      | some l => simp only [Option.map_some, hrd l (by simp [Op.operands])]
    simp only [opv, hrd x (by simp [Op.operands]), hlo, hhi]
    exact hr S1 ho _ r' hk
  · rename_i t x f
    simp only [opv] at h
    obtain ⟨v, hv, hr⟩ := fieldAddr_det h
    exact ⟨v, hv, fun S1 ho hrd κ' r' hk => by simp only [opv, hrd x (by simp [Op.operands])]; exact hr _ r' hk⟩
  · rename_i t x f
    simp only [opv] at h
    obtain ⟨v, hv, hr⟩ := field_det h
    exact ⟨v, hv, fun S1 ho hrd κ' r' hk => by simp only [opv, hrd x (by simp [Op.operands])]; exact hr _ r' hk⟩
  · rename_i t x i
    simp only [opv] at h
    obtain ⟨v, hv, hr⟩ := indexAddr_det h
    exact ⟨v, hv, fun S1 ho hrd κ' r' hk => by simp only [opv, hrd x (by simp [Op.operands]), hrd i (by simp [Op.operands])]; exact hr S1 ho _ r' hk⟩
  · rename_i t x i
    simp only [opv] at h
    obtain ⟨v, hv, hr⟩ := index_det h
    exact ⟨v, hv, fun S1 ho hrd κ' r' hk => by simp only [opv, hrd x (by simp [Op.operands]), hrd i (by simp [Op.operands])]; exact hr _ r' hk⟩
  · rename_i x i
    simp only [opv] at h
    obtain ⟨v, hv, hr⟩ := extract_det h
    exact ⟨v, hv, fun S1 ho hrd κ' r' hk => by simp only [opv, hrd x (by simp [Op.operands])]; exact hr _ r' hk⟩
  · rename_i s t x
    simp only [opv, convert] at h
    split at h
    · rename_i h1 h2 h3
      exact ⟨_, h, fun S1 ho hrd κ' r' hk => by simp only [opv, convert, hrd x (by simp [Op.operands]), h1, h2, h3]; exact hk⟩
    · rename_i h1 h2 h3
      split at h
      · rename_i h4 h5
        exact ⟨_, h, fun S1 ho hrd κ' r' hk => by simp only [opv, convert, hrd x (by simp [Op.operands]), h1, h2, h3, h4, listOf_objs ho, h5]; exact hk⟩
      · cases h
    · rename_i h1 h2 h3
      simp [h2] at hq
    · cases h
  · rename_i args tys
    simp only [opv] at h
    obtain ⟨v, hv, hr⟩ := builtin_det (.inl rfl) h
    exact ⟨v, hv, fun S1 ho hrd κ' r' hk => by simp only [opv, rds_objs args.toList (fun x hx => hrd x (by simp [Op.operands, Call.operands]; simpa using hx))]; exact hr S1 ho κ' r' hk⟩
  · rename_i args tys
    simp only [opv] at h
    obtain ⟨v, hv, hr⟩ := builtin_det (.inr (.inl rfl)) h
    exact ⟨v, hv, fun S1 ho hrd κ' r' hk => by simp only [opv, rds_objs args.toList (fun x hx => hrd x (by simp [Op.operands, Call.operands]; simpa using hx))]; exact hr S1 ho κ' r' hk⟩
  · rename_i args tys
    simp only [opv] at h
    obtain ⟨v, hv, hr⟩ := builtin_det (.inr (.inr rfl)) h
    exact ⟨v, hv, fun S1 ho hrd κ' r' hk => by simp only [opv, rds_objs args.toList (fun x hx => hrd x (by simp [Op.operands, Call.operands]; simpa using hx))]; exact hr S1 ho κ' r' hk⟩
  · rename_i f args tys
    simp only [opv] at h
    split at h
    · rename_i g hg
      obtain ⟨hc, h1⟩ := bif_some h
      obtain ⟨v, hv, hr⟩ := hQ f g hq hg _ _ _ _ _ h1
      exact ⟨v, hv, fun S1 ho hrd κ' r' hk => by
        simp only [opv, hg, hc, cond_true, rds_objs args.toList (fun x hx => hrd x (by simp [Op.operands, Call.operands]; right; simpa using hx))]
        exact hr d S1 ho _ r' hk⟩
    · cases h
  · cases hq

end
end Go.Sh
