/-
  A region that draws its order, I: what an operation does is determined by what it looks at. No project text.
-/
import Derived.Test.YtkmbehagofjmbaaGreatShCode
import Derived.Orders
namespace Go.Sh

section
variable {R : Type} {P : Program} {S : St} {lk : Lk} {rf : Operand → SS}

theorem ints_det {op : BinOp} {k : IntKind} {a b : Int} {κ : Value → Option R} {r : R} (h : ints op k a b κ = some r) : ∃ v, κ v = some r ∧ ∀ (κ' : Value → Option R) (r' : R), κ' v = some r' → ints op k a b κ' = some r' := by
  cases op <;> simp only [ints] at h ⊢ <;> first
    | (cases h; done)
    | (exact ⟨_, h, fun κ' r' hk => hk⟩)
    | (obtain ⟨hb, h⟩ := bif_some' h; exact ⟨_, h, fun κ' r' hk => by rw [hb]; exact hk⟩)

theorem eqAgg_det {t : TypeId} {x y : List SV} {κ : Bool → Option R} {r : R} (h : eqAgg P t x y κ = some r) : ∃ v, κ v = some r ∧ ∀ (κ' : Bool → Option R) (r' : R), κ' v = some r' → eqAgg P t x y κ' = some r' := by
  unfold eqAgg at h ⊢
  split at h
  · split at h
    · rename_i a b ha hb
      exact ⟨_, h, fun κ' r' hk => by simp only [*]⟩
    · cases h
  · cases h

theorem binop_det {t : TypeId} {op : BinOp} {x y : SS} {κ : SS → Option R} {r : R} (h : binop P t op x y κ = some r) : ∃ v, κ v = some r ∧ ∀ (κ' : SS → Option R) (r' : R), κ' v = some r' → binop P t op x y κ' = some r' := by
  unfold binop at h
  split at h
  · split at h
    · obtain ⟨v, hv, hr⟩ := eqAgg_det h
      exact ⟨_, hv, fun κ' r' hk => by simp only [binop]; exact hr _ _ hk⟩
    · obtain ⟨v, hv, hr⟩ := eqAgg_det h
      exact ⟨_, hv, fun κ' r' hk => by simp only [binop]; exact hr _ _ hk⟩
    · cases h
  · split at h
    · obtain ⟨hb, h⟩ := bif_some' h
      exact ⟨_, h, fun κ' r' hk => by simp only [binop, hb]; exact hk⟩
    · obtain ⟨hb, h⟩ := bif_some' h
      exact ⟨_, h, fun κ' r' hk => by simp only [binop, hb]; exact hk⟩
    · split at h
      · rename_i e
        obtain ⟨v, hv, hr⟩ := ints_det h
        refine ⟨_, hv, fun κ' r' hk => ?_⟩
        have := hr (fun v => κ' (.at v)) r' hk
        subst e
        unfold binop
        simp only [if_true]
        exact this
      · cases h
  · split at h <;> first
      | (cases h; done)
      | exact ⟨_, h, fun κ' r' hk => by simp only [binop]; exact hk⟩
  · split at h
    · exact ⟨_, h, fun κ' r' hk => by simp only [binop, *]⟩
    · exact ⟨_, h, fun κ' r' hk => by simp only [binop, *]⟩
    · cases h
  · cases h

theorem unop_det {op : UnOp} {x : SS} {κ : SS → Option R} {r : R} (h : unop op x κ = some r) : ∃ v, κ v = some r ∧ ∀ (κ' : SS → Option R) (r' : R), κ' v = some r' → unop op x κ' = some r' := by
  unfold unop at h
  split at h
  · exact ⟨_, h, fun κ' r' hk => by simp only [unop]; exact hk⟩
  · exact ⟨_, h, fun κ' r' hk => by simp only [unop]; exact hk⟩
  · cases h

theorem load_det {t : TypeId} {x : SS} {κ : SS → Option R} {r : R} (h : load P lk t x κ = some r) : ∃ v, κ v = some r ∧ ∀ (κ' : SS → Option R) (r' : R), κ' v = some r' → load P lk t x κ' = some r' := by
  unfold load at h
  split at h
  · split at h
    · split at h
      · exact ⟨_, h, fun κ' r' hk => by simp only [load, *]⟩
      · cases h
    · cases h
  · split at h
    · rename_i hlk
      obtain ⟨hb, h1⟩ := bif_some h
      rw [Option.bind_eq_some_iff] at h1
      obtain ⟨d, hd, h2⟩ := h1
      split at h2
      · rename_i hc
        exact ⟨_, h2, fun κ' r' hk => by simp only [load, *, cond_true, Option.bind_some]⟩
      · cases h2
    · cases h
  · split at h
    · exact ⟨_, h, fun κ' r' hk => by simp only [load, *]⟩
    · cases h
  · cases h

theorem getInt_det {s : SS} {κ : Int → Option R} {r : R} (h : getInt s κ = some r) : ∃ n, κ n = some r ∧ ∀ κ' : Int → Option R, getInt s κ' = κ' n := by
  unfold getInt at h
  split at h
  · exact ⟨_, h, fun κ' => rfl⟩
  · cases h

theorem getIntO_det {s : Option SS} {d : Int} {κ : Int → Option R} {r : R} (h : getIntO s d κ = some r) : ∃ n, κ n = some r ∧ ∀ κ' : Int → Option R, getIntO s d κ' = κ' n := by
  cases s with
  | none => exact ⟨d, h, fun κ' => rfl⟩
  | some s => exact getInt_det h

theorem slice_det {t : TypeId} {x : SS} {lo hi : Option SS} {κ : SS → Option R} {r : R} (h : slice P lk t x lo hi κ = some r) : ∃ v, κ v = some r ∧ ∀ (κ' : SS → Option R) (r' : R), κ' v = some r' → slice P lk t x lo hi κ' = some r' := by
  unfold slice at h
  split at h
  · rename_i hu
    obtain ⟨hb, h1⟩ := bif_some h
    obtain ⟨a, h2, ra⟩ := getIntO_det h1
    obtain ⟨b, h3, rb⟩ := getIntO_det h2
    obtain ⟨hc, h4⟩ := bif_some h3
    exact ⟨_, h4, fun κ' r' hk => by simp only [slice, hu, hb, ra, rb, hc, cond_true]; exact hk⟩
  · rename_i hu
    split at h
    · rename_i hlk
      obtain ⟨hb, h1⟩ := bif_some h
      obtain ⟨a, h2, ra⟩ := getIntO_det h1
      obtain ⟨b, h3, rb⟩ := getIntO_det h2
      obtain ⟨hc, h4⟩ := bif_some h3
      exact ⟨_, h4, fun κ' r' hk => by simp only [slice, hu, hlk, hb, ra, rb, hc, cond_true]; exact hk⟩
    · cases h
  · rename_i hu
    obtain ⟨hb, h1⟩ := bif_some h
    obtain ⟨a, h2, ra⟩ := getIntO_det h1
    obtain ⟨b, h3, rb⟩ := getIntO_det h2
    obtain ⟨hc, h4⟩ := bif_some h3
    exact ⟨_, h4, fun κ' r' hk => by simp only [slice, hu, hb, ra, rb, hc, cond_true]; exact hk⟩
  · rename_i hu
    split at h
    · rename_i hty
      rw [Option.bind_eq_some_iff] at h
      obtain ⟨l, hl, h1⟩ := h
      exact ⟨_, h1, fun κ' r' hk => by simp only [slice, hu, hty, hl, Option.bind_some]; exact hk⟩
    · cases h
  · rename_i hu
    split at h
    · rename_i hty
      exact ⟨_, h, fun κ' r' hk => by simp only [slice, hu, hty]; exact hk⟩
    · cases h
  · rename_i hu
    split at h
    · rename_i hty
      exact ⟨_, h, fun κ' r' hk => by simp only [slice, hu, hty]; exact hk⟩
    · cases h
  · cases h

theorem indexAddr_det {t : TypeId} {x i : SS} {κ : SS → Option R} {r : R} (h : indexAddr P lk t x i κ = some r) : ∃ v, κ v = some r ∧ ∀ (κ' : SS → Option R) (r' : R), κ' v = some r' → indexAddr P lk t x i κ' = some r' := by
  unfold indexAddr at h
  obtain ⟨n, h1, rn⟩ := getInt_det h
  clear h
  split at h1
  · rename_i hu
    obtain ⟨hb, h2⟩ := bif_some h1
    rw [Option.bind_eq_some_iff] at h2
    obtain ⟨d, hd, h3⟩ := h2
    exact ⟨_, h3, fun κ' r' hk => by simp only [indexAddr, rn, hu, hb, hd, cond_true, Option.bind_some]; exact hk⟩
  · rename_i hu
    split at h1
    · rename_i hlk
      obtain ⟨hb, h2⟩ := bif_some h1
      obtain ⟨hc, h3⟩ := bif_some h2
      exact ⟨_, h3, fun κ' r' hk => by simp only [indexAddr, rn, hu, hlk, hb, hc, cond_true]; exact hk⟩
    · cases h1
  · rename_i hu
    obtain ⟨hb, h2⟩ := bif_some h1
    obtain ⟨hc, h3⟩ := bif_some h2
    exact ⟨_, h3, fun κ' r' hk => by simp only [indexAddr, rn, hu, hb, hc, cond_true]; exact hk⟩
  · rename_i hu
    obtain ⟨hc, h3⟩ := bif_some h1
    exact ⟨_, h3, fun κ' r' hk => by simp only [indexAddr, rn, hu, hc, cond_true]; exact hk⟩
  · rename_i hu
    obtain ⟨hc, h3⟩ := bif_some h1
    exact ⟨_, h3, fun κ' r' hk => by simp only [indexAddr, rn, hu, hc, cond_true]; exact hk⟩
  · cases h1

theorem fieldAddr_det {t : TypeId} {x : SS} {f : Nat} {κ : SS → Option R} {r : R} (h : fieldAddr P t x f κ = some r) : ∃ v, κ v = some r ∧ ∀ (κ' : SS → Option R) (r' : R), κ' v = some r' → fieldAddr P t x f κ' = some r' := by
  unfold fieldAddr at h
  split at h
  · rename_i hu
    split at h
    · rename_i hf
      obtain ⟨hb, h1⟩ := bif_some' h
      split at h1
      · exact ⟨_, h1, fun κ' r' hk => by simp only [fieldAddr, hu, hf, hb, cond_false]; exact hk⟩
      · exact ⟨_, h1, fun κ' r' hk => by simp only [fieldAddr, hu, hf, hb, cond_false]; exact hk⟩
      · exact ⟨_, h1, fun κ' r' hk => by simp only [fieldAddr, hu, hf, hb, cond_false]; exact hk⟩
      · cases h1
    · cases h
  · cases h

theorem field_det {t : TypeId} {x : SS} {f : Nat} {κ : SS → Option R} {r : R} (h : field P t x f κ = some r) : ∃ v, κ v = some r ∧ ∀ (κ' : SS → Option R) (r' : R), κ' v = some r' → field P t x f κ' = some r' := by
  unfold field at h
  split at h
  · rename_i hu
    split at h
    · rename_i hf
      split at h
      · rename_i hg
        split at h
        · rename_i hc
          exact ⟨_, h, fun κ' r' hk => by simp only [field, hu, hf, hg, hc]; exact hk⟩
        · cases h
      · cases h
    · cases h
  · cases h

theorem cutK_det {g : Bool} {m : Nat} {l : List SV} {κ : SS → Option R} {r : R} (h : cutK g m l κ = some r) : ∃ v, κ v = some r ∧ ∀ (κ' : SS → Option R) (r' : R), κ' v = some r' → cutK g m l κ' = some r' := by
  unfold cutK at h
  split at h
  · rename_i hc
    exact ⟨_, h, fun κ' r' hk => by simp only [cutK, hc]; exact hk⟩
  · cases h

theorem pickAt_det {g : Bool} {m : Nat} {n : Int} {κ : SS → Option R} {r : R} : ∀ (left k : Nat) (l : List SV), pickAt g m n κ k left l = some r →
    ∃ v, κ v = some r ∧ ∀ (κ' : SS → Option R) (r' : R), κ' v = some r' → pickAt g m n κ' k left l = some r'
  | 0, _, _, h => by cases h
  | left + 1, k, l, h => by
    simp only [pickAt] at h
    cases hd : decide (n = (k : Int)) with
    | true =>
      simp only [hd, cond_true] at h
      obtain ⟨v, hv, hr⟩ := cutK_det h
      exact ⟨v, hv, fun κ' r' hk => by simp only [pickAt, hd, cond_true]; exact hr κ' r' hk⟩
    | false =>
      simp only [hd, cond_false] at h
      obtain ⟨v, hv, hr⟩ := pickAt_det left (k + 1) _ h
      exact ⟨v, hv, fun κ' r' hk => by simp only [pickAt, hd, cond_false]; exact hr κ' r' hk⟩

theorem indexIn_det {g : Bool} {m len : Nat} {n : Int} {l : List SV} {κ : SS → Option R} {r : R} (h : indexIn g m n len l κ = some r) :
    ∃ v, κ v = some r ∧ ∀ (κ' : SS → Option R) (r' : R), κ' v = some r' → indexIn g m n len l κ' = some r' := by
  unfold indexIn at h
  split at h
  · rename_i he
    obtain ⟨v, hv, hr⟩ := cutK_det h
    exact ⟨v, hv, fun κ' r' hk => by simp only [indexIn, he]; exact hr κ' r' hk⟩
  · rename_i he
    obtain ⟨v, hv, hr⟩ := pickAt_det len 0 l h
    exact ⟨v, hv, fun κ' r' hk => by simp only [indexIn, he]; exact hr κ' r' hk⟩

theorem index_det {t : TypeId} {x i : SS} {κ : SS → Option R} {r : R} (h : index P t x i κ = some r) : ∃ v, κ v = some r ∧ ∀ (κ' : SS → Option R) (r' : R), κ' v = some r' → index P t x i κ' = some r' := by
  unfold index at h
  split at h
  · rename_i hu
    obtain ⟨n, h1, rn⟩ := getInt_det h
    split at h1
    · rename_i hg
      obtain ⟨hb, h2⟩ := bif_some h1
      obtain ⟨v, hv, hr⟩ := indexIn_det h2
      exact ⟨v, hv, fun κ' r' hk => by simp only [index, hu, rn, hg, hb, cond_true]; exact hr κ' r' hk⟩
    · cases h1
  · rename_i hu
    obtain ⟨n, h1, rn⟩ := getInt_det h
    split at h1
    · rename_i hb
      exact ⟨_, h1, fun κ' r' hk => by simp only [index, hu, rn, hb]; exact hk⟩
    · cases h1
  · cases h

theorem extract_det {x : SS} {i : Nat} {κ : SS → Option R} {r : R} (h : extract x i κ = some r) : ∃ v, κ v = some r ∧ ∀ (κ' : SS → Option R) (r' : R), κ' v = some r' → extract x i κ' = some r' := by
  unfold extract at h
  split at h
  · split at h
    · rename_i hc
      exact ⟨_, h, fun κ' r' hk => by simp only [extract, hc]; exact hk⟩
    · cases h
  · cases h

theorem bind_det {α β : Type} {x : Option α} {f : α → (β → Option R) → Option R} {κ : β → Option R} {r : R} (h : (x.bind fun d => f d κ) = some r)
    (hf : ∀ d, f d κ = some r → ∃ v, κ v = some r ∧ ∀ (κ' : β → Option R) (r' : R), κ' v = some r' → f d κ' = some r') :
    ∃ v, κ v = some r ∧ ∀ (κ' : β → Option R) (r' : R), κ' v = some r' → (x.bind fun d => f d κ') = some r' := by
  cases x with
  | none => cases h
  | some d => exact hf d h

theorem build_det {t : TypeId} {ps : List (Nat × Operand)} {κ : SS → Option R} {r : R} (h : build P rf t ps κ = some r) :
    ∃ v, κ v = some r ∧ ∀ (κ' : SS → Option R) (r' : R), κ' v = some r' → build P rf t ps κ' = some r' := by
  unfold build at h
  split at h
  · rename_i hz hu
    obtain ⟨hb, h1⟩ := bif_some h
    split at h1
    · rename_i l hl
      exact ⟨_, h1, fun κ' r' hk => by simp only [build, hz, hu, hb, cond_true, hl]; exact hk⟩
    · cases h1
  · rename_i hz hu
    obtain ⟨hb, h1⟩ := bif_some h
    split at h1
    · rename_i l hl
      exact ⟨_, h1, fun κ' r' hk => by simp only [build, hz, hu, hb, cond_true, hl]; exact hk⟩
    · cases h1
  · cases h

theorem put_det {x : SV} {vs : List SV} {κ : List Ef → Option R} {r : R} (h : putCells lk x vs κ = some r) :
    ∃ es, κ es = some r ∧ ∀ (κ' : List Ef → Option R) (r' : R), κ' es = some r' → putCells lk x vs κ' = some r' := by
  unfold putCells at h
  split at h
  · split at h
    · rename_i hlk
      split at h
      · rename_i hov
        exact ⟨_, h, fun κ' r' hk => by simp only [putCells, hlk, hov]; exact hk⟩
      · cases h
    · cases h
  · split at h
    · rename_i hf
      split at h
      · rename_i hlk
        obtain ⟨hn, h1⟩ := bif_some h
        rw [Option.bind_eq_some_iff] at h1
        obtain ⟨d, hd, h2⟩ := h1
        split at h2
        · rename_i hov
          split at h2
          · rename_i hdec
            exact ⟨_, h2, fun κ' r' hk => by simp only [putCells, hf, hlk, hn, cond_true, hd, Option.bind_some, hov, hdec]; exact hk⟩
          · cases h2
        · cases h2
      · cases h
    · cases h
  · cases h

theorem store_det {t : TypeId} {x v : SS} {κ : List Ef → Option R} {r : R} (h : store P lk t x v κ = some r) :
    ∃ es, κ es = some r ∧ ∀ (κ' : List Ef → Option R) (r' : R), κ' es = some r' → store P lk t x v κ' = some r' := by
  unfold store at h
  split at h
  · cases h
  · rename_i hc
    obtain ⟨hb, h1⟩ := bif_some h
    split at h1
    · obtain ⟨es, h2, hr⟩ := put_det h1
      exact ⟨es, h2, fun κ' r' hk => by simp only [store, hc, hb, cond_true]; exact hr κ' r' hk⟩
    · cases h1

theorem buildSlice_det {d : Nat} {t : TypeId} {n : Nat} {ps : List (Nat × Operand)} {κ : SS → List Ef → Option R} {r : R} (h : buildSlice P rf lk d t n ps κ = some r) :
    ∃ v es, κ v es = some r ∧ ∀ (κ' : SS → List Ef → Option R) (r' : R), κ' v es = some r' → buildSlice P rf lk d t n ps κ' = some r' := by
  unfold buildSlice at h
  split at h
  · rename_i hu
    split at h
    · rename_i hty hz
      split at h
      · rename_i hb hf
        split at h
        · rename_i hfz
          split at h
          · rename_i hd
            exact ⟨_, _, h, fun κ' r' hk => by simp only [buildSlice, hu, hty, hz, hb, hf, hfz, hd]; exact hk⟩
          · cases h
        · cases h
      · cases h
    · cases h
  · cases h

theorem makeSlice_det {d : Nat} {t : TypeId} {x y : SS} {κ : SS → List Ef → Option R} {r : R} (h : makeSlice P d t x y κ = some r) :
    ∃ v es, κ v es = some r ∧ ∀ (κ' : SS → List Ef → Option R) (r' : R), κ' v es = some r' → makeSlice P d t x y κ' = some r' := by
  unfold makeSlice at h
  split at h
  · rename_i hu
    split at h
    · rename_i hty hz
      split at h
      · rename_i hd
        obtain ⟨n, h1, rn⟩ := getInt_det h
        obtain ⟨c, h2, rc⟩ := getInt_det h1
        obtain ⟨hb, h3⟩ := bif_some h2
        exact ⟨_, _, h3, fun κ' r' hk => by simp only [makeSlice, hu, hty, hz, hd, rn, rc, hb, cond_true]; exact hk⟩
      · cases h
    · cases h
  · cases h

theorem append_det {d : Nat} {t : TypeId} {x y : SS} {κ : SS → List Ef → Option R} {r : R} (h : append P lk d t x y κ = some r) :
    ∃ v es, κ v es = some r ∧ ∀ (κ' : SS → List Ef → Option R) (r' : R), κ' v es = some r' → append P lk d t x y κ' = some r' := by
  unfold append at h
  split at h
  · rename_i hu
    split at h
    · rename_i hty
      split at h
      · rename_i hx hy
        obtain ⟨hb, h1⟩ := bif_some h
        split at h1
        · obtain ⟨he, h2⟩ := bif_some h1
          exact ⟨_, _, h2, fun κ' r' hk => by simp only [append, hu, hty, hx, hy, hb, he, cond_true]; exact hk⟩
        · split at h1
          · obtain ⟨he, h2⟩ := bif_some h1
            exact ⟨_, _, h2, fun κ' r' hk => by simp only [append, hu, hty, hx, hy, hb, he, cond_true]; exact hk⟩
          · cases h1
        · exact ⟨_, _, h1, fun κ' r' hk => by simp only [append, hu, hty, hx, hy, hb, cond_true]; exact hk⟩
        · cases h1
      · cases h
    · cases h
  · cases h

theorem part_det {t : Ty} {i n a j m : Nat} {u : Ty} {β : Type} {f : List t.den → (β → Option R) → Option R} {κ : β → Option R} {r : R} (h : partK lk t i n a j m u (fun l => f l κ) = some r)
    (hf : ∀ l, f l κ = some r → ∃ v, κ v = some r ∧ ∀ (κ' : β → Option R) (r' : R), κ' v = some r' → f l κ' = some r') :
    ∃ v, κ v = some r ∧ ∀ (κ' : β → Option R) (r' : R), κ' v = some r' → partK lk t i n a j m u (fun l => f l κ') = some r' := by
  unfold partK at h ⊢
  split at h
  · rename_i hlk
    obtain ⟨hn, h1⟩ := bif_some h
    rw [Option.bind_eq_some_iff] at h1
    obtain ⟨d, hd, h2⟩ := h1
    split at h2
    · rename_i hx
      obtain ⟨v, hv, hr⟩ := hf _ h2
      refine ⟨v, hv, fun κ' r' hk => ?_⟩
      simp only [hlk, hn, cond_true, hd, Option.bind_some, hx]
      exact hr κ' r' hk
    · cases h2
  · cases h

theorem copy_det {t : TypeId} {x y : SS} {κ : SS → List Ef → Option R} {r : R} (h : copy P lk t x y κ = some r) :
    ∃ v es, κ v es = some r ∧ ∀ (κ' : SS → List Ef → Option R) (r' : R), κ' v es = some r' → copy P lk t x y κ' = some r' := by
  unfold copy at h
  split at h
  · rename_i hu
    split at h
    · rename_i hty hlk
      split at h
      · rename_i hc hl
        exact ⟨_, _, h, fun κ' r' hk => by simp only [copy, hu, hty, hlk, hc, hl]; exact hk⟩
      · cases h
    · cases h
  · rename_i hu
    split at h
    · rename_i hty
      split at h
      · rename_i hm ho
        obtain ⟨es, h1, hr⟩ := put_det h
        exact ⟨_, es, h1, fun κ' r' hk => by simp only [copy, hu, hty, hm, ho]; exact hr _ r' hk⟩
      · cases h
    · cases h
  · rename_i i k a j n u y hu
    split at h
    · rename_i ty hty
      split at h
      · rename_i m hm
        obtain ⟨es, h1, hr⟩ := part_det (f := fun old (κ : List Ef → Option R) => putCells lk (.ep i k a j) (encMany ty (overList old m)) κ) (κ := fun es => κ (.at (.int .i64 (min m.length n : Nat))) es) h (fun l hl => put_det hl)
        exact ⟨_, es, h1, fun κ' r' hk => by simp only [copy, hu, hty, hm]; exact hr (fun es => κ' (.at (.int .i64 (min m.length n : Nat))) es) r' hk⟩
      · cases h
    · cases h
  · cases h

theorem convert_det {s t : TypeId} {x : SS} {κ : SS → List Ef → Option R} {r : R} (h : convert P lk s t x κ = some r) :
    ∃ v es, κ v es = some r ∧ ∀ (κ' : SS → List Ef → Option R) (r' : R), κ' v es = some r' → convert P lk s t x κ' = some r' := by
  unfold convert at h
  split at h
  · rename_i h1 h2
    exact ⟨_, _, h, fun κ' r' hk => by simp only [convert, h1, h2]; exact hk⟩
  · rename_i h1 h2
    split at h
    · rename_i h4 h5
      exact ⟨_, _, h, fun κ' r' hk => by simp only [convert, h1, h2, h4, h5]; exact hk⟩
    · cases h
  · rename_i h1 h2
    split at h
    · rename_i h3 h4 h5
      split at h
      · cases h
      · exact ⟨_, _, h, fun κ' r' hk => by simp only [convert, h1, h2, h3, h4, h5]; exact hk⟩
    · cases h
  · cases h

theorem mapLook_det {t : TypeId} {m k : SS} {ok : Bool} {κ : SS → Option R} {r : R} (h : mapLook P lk t m k ok κ = some r) : ∃ v, κ v = some r ∧ ∀ (κ' : SS → Option R) (r' : R), κ' v = some r' → mapLook P lk t m k ok κ' = some r' := by
  unfold mapLook at h
  split at h
  · split at h
    · rename_i hlk
      obtain ⟨hc, h1⟩ := bif_some h
      split at h1
      · rename_i hx hz
        cases ok with
        | true => exact ⟨_, h1, fun κ' r' hk => by simp only [mapLook, hlk, hc, cond_true, hx, hz]; exact hk⟩
        | false => exact ⟨_, h1, fun κ' r' hk => by simp only [mapLook, hlk, hc, cond_true, cond_false, hx, hz]; exact hk⟩
      · cases h1
    · cases h
  · cases h

theorem mapSet_det {t : TypeId} {m k x : SS} {κ : List Ef → Option R} {r : R} (h : mapSet P lk t m k x κ = some r) : ∃ v, κ v = some r ∧ ∀ (κ' : List Ef → Option R) (r' : R), κ' v = some r' → mapSet P lk t m k x κ' = some r' := by
  unfold mapSet at h
  split at h
  · split at h
    · rename_i hlk
      obtain ⟨hc, h1⟩ := bif_some h
      split at h1
      · rename_i hx hv
        obtain ⟨hs, h2⟩ := bif_some h1
        split at h2
        · rename_i hf
          split at h2
          · rename_i hd
            exact ⟨_, h2, fun κ' r' hk => by simp only [mapSet, hlk, hc, cond_true, hx, hv, hs, hf, hd]; exact hk⟩
          · cases h2
        · cases h2
      · cases h1
    · cases h
  · cases h

theorem mapDel_det {t : TypeId} {m k : SS} {κ : List Ef → Option R} {r : R} (h : mapDel P lk t m k κ = some r) : ∃ v, κ v = some r ∧ ∀ (κ' : List Ef → Option R) (r' : R), κ' v = some r' → mapDel P lk t m k κ' = some r' := by
  unfold mapDel at h
  split at h
  · split at h
    · rename_i hlk
      obtain ⟨hc, h1⟩ := bif_some h
      split at h1
      · rename_i hx
        exact ⟨_, h1, fun κ' r' hk => by simp only [mapDel, hlk, hc, cond_true, hx]; exact hk⟩
      · cases h1
    · cases h
  · cases h

theorem makeMap_det {d : Nat} {t : TypeId} {κ : SS → List Ef → Option R} {r : R} (h : makeMap P d t κ = some r) : ∃ v es, κ v es = some r ∧ ∀ (κ' : SS → List Ef → Option R) (r' : R), κ' v es = some r' → makeMap P d t κ' = some r' := by
  unfold makeMap at h
  split at h
  · rename_i hu
    split at h
    · rename_i h1 h2 h3 h4
      obtain ⟨hc, h5⟩ := bif_some h
      exact ⟨_, _, h5, fun κ' r' hk => by simp only [makeMap, hu, h1, h2, h3, h4, hc, cond_true]; exact hk⟩
    · cases h
  · cases h

theorem mapRange_det {d : Nat} {t : TypeId} {m : SS} {κ : SS → List Ef → Option R} {r : R} (h : mapRange P lk d t m κ = some r) : ∃ v es, κ v es = some r ∧ ∀ (κ' : SS → List Ef → Option R) (r' : R), κ' v es = some r' → mapRange P lk d t m κ' = some r' := by
  unfold mapRange at h
  split at h
  · rename_i hu
    split at h
    · rename_i hlk
      obtain ⟨hc, h1⟩ := bif_some' h
      exact ⟨_, _, h1, fun κ' r' hk => by simp only [mapRange, hu, hlk, hc, cond_false]; exact hk⟩
    · cases h
  · cases h

theorem mapEnt_det {it : SS} {κ : SS → Option R} {r : R} (h : mapEnt lk it κ = some r) : ∃ v, κ v = some r ∧ ∀ (κ' : SS → Option R) (r' : R), κ' v = some r' → mapEnt lk it κ' = some r' := by
  unfold mapEnt at h
  split at h
  · split at h
    · rename_i hlk
      split at h
      · rename_i hlm
        obtain ⟨hc, h1⟩ := bif_some h
        split at h1
        · rename_i hs
          split at h1
          · rename_i he
            exact ⟨_, h1, fun κ' r' hk => by simp only [mapEnt, hlk, hlm, hc, cond_true, hs, he]; exact hk⟩
          · cases h1
        · cases h1
      · cases h
    · cases h
  · cases h

theorem clearL_det {t : TypeId} {x : SV} {κ : List Ef → Option R} {r : R} (h : clearL P lk t x κ = some r) : ∃ v, κ v = some r ∧ ∀ (κ' : List Ef → Option R) (r' : R), κ' v = some r' → clearL P lk t x κ' = some r' := by
  unfold clearL at h
  split at h
  · rename_i hu
    split at h
    · rename_i hlk
      split at h
      · rename_i hc hz
        split at h
        · rename_i hd
          exact ⟨_, h, fun κ' r' hk => by simp only [clearL, hu, hlk, hc, hz, hd]; exact hk⟩
        · cases h
      · cases h
    · cases h
  · rename_i hu
    split at h
    · rename_i hlk
      split at h
      · rename_i hc hz
        split at h
        · rename_i hd
          exact ⟨_, h, fun κ' r' hk => by simp only [clearL, hu, hlk, hc, hz, hd]; exact hk⟩
        · cases h
      · cases h
    · cases h
  · rename_i hu
    exact ⟨_, h, fun κ' r' hk => by simp only [clearL, hu]; exact hk⟩
  · cases h

theorem cmpBytes_det {args : List SS} {κ : SS → Option R} {r : R} (h : cmpBytes lk args κ = some r) : ∃ v, κ v = some r ∧ ∀ (κ' : SS → Option R) (r' : R), κ' v = some r' → cmpBytes lk args κ' = some r' := by
  unfold cmpBytes at h
  split at h
  · split at h
    · rename_i ha hb
      exact ⟨_, h, fun κ' r' hk => by simp only [cmpBytes, ha, hb]; exact hk⟩
    · cases h
  · cases h

theorem builtin_det {d : Nat} {b : Builtin} {tys : List TypeId} {args : List SS} {κ : SS → List Ef → Option R} {r : R} (h : builtin P lk d b tys args κ = some r) :
    ∃ v es, κ v es = some r ∧ ∀ (κ' : SS → List Ef → Option R) (r' : R), κ' v es = some r' → builtin P lk d b tys args κ' = some r' := by
  unfold builtin at h
  split at h
  · split at h
    · rename_i hu
      split at h
      · rename_i hn
        exact ⟨_, _, h, fun κ' r' hk => by simp only [builtin, hu, hn]; exact hk⟩
      · cases h
    · rename_i hu
      split at h
      · exact ⟨_, _, h, fun κ' r' hk => by simp only [builtin, hu]; exact hk⟩
      · cases h
    · rename_i hu
      split at h
      · split at h
        · rename_i hlk
          exact ⟨_, _, h, fun κ' r' hk => by simp only [builtin, hu, hlk]; exact hk⟩
        · cases h
      · cases h
    · cases h
  · obtain ⟨es, h1, hr⟩ := mapDel_det h
    exact ⟨_, es, h1, fun κ' r' hk => by simp only [builtin]; exact hr _ r' hk⟩
  · obtain ⟨es, h1, hr⟩ := clearL_det h
    exact ⟨_, es, h1, fun κ' r' hk => by simp only [builtin]; exact hr _ r' hk⟩
  · obtain ⟨hb, h1⟩ := bif_some h
    obtain ⟨v, es, h2, hr⟩ := append_det h1
    exact ⟨v, es, h2, fun κ' r' hk => by simp only [builtin, hb, cond_true]; exact hr κ' r' hk⟩
  · obtain ⟨v, es, h2, hr⟩ := copy_det h
    exact ⟨v, es, h2, fun κ' r' hk => by simp only [builtin]; exact hr κ' r' hk⟩
  · exact ⟨_, _, h, fun κ' r' hk => by simp only [builtin]; exact hk⟩
  · exact ⟨_, _, h, fun κ' r' hk => by simp only [builtin]; exact hk⟩
  · cases h

/-- What a called function does is determined by what it is given. -/
def DetSum (g : Nat → List SS → Lk → (SS → List Ef → Option R) → Option R) : Prop :=
  ∀ d as lk κ r, g d as lk κ = some r → ∃ v es, κ v es = some r ∧ ∀ (κ' : SS → List Ef → Option R) (r' : R), κ' v es = some r' → g d as lk κ' = some r'

theorem lift_det {f : (SS → Option R) → Option R} {κ : SS → List Ef → Option R} {r : R} (h : ∃ v, κ v [] = some r ∧ ∀ (κ' : SS → Option R) (r' : R), κ' v = some r' → f κ' = some r') :
    ∃ v es, κ v es = some r ∧ ∀ (κ' : SS → List Ef → Option R) (r' : R), κ' v es = some r' → f (fun v => κ' v []) = some r' := by
  obtain ⟨v, hv, hr⟩ := h
  exact ⟨v, [], hv, fun κ' r' hk => hr _ r' hk⟩

theorem act_det {E : Sums R} (hE : ∀ f g, E f = some g → DetSum g) {d : Nat} {op : Op} {κ : SS → List Ef → Option R} {r : R} (h : act P E rf lk d op κ = some r) :
    ∃ v es, κ v es = some r ∧ ∀ (κ' : SS → List Ef → Option R) (r' : R), κ' v es = some r' → act P E rf lk d op κ' = some r' := by
  unfold act at h
  split at h
  · exact ⟨_, _, h, fun κ' r' hk => by simp only [act]; exact hk⟩
  · exact ⟨_, _, h, fun κ' r' hk => by simp only [act]; exact hk⟩
  · split at h
    · rename_i q hc
      split at h
      · rename_i hx hy
        exact ⟨_, _, h, fun κ' r' hk => by simp only [act, hc, hx, hy]; exact hk⟩
      · rename_i hne
        cases q with
        | true => exact ⟨_, _, h, fun κ' r' hk => by simp only [act, hc]; exact hk⟩
        | false => exact ⟨_, _, h, fun κ' r' hk => by simp only [act, hc]; exact hk⟩
    · cases h
  · split at h
    · rename_i hz
      exact ⟨_, _, h, fun κ' r' hk => by simp only [act, hz]; exact hk⟩
    · cases h
  · split at h
    · rename_i hz
      obtain ⟨hb, h1⟩ := bif_some h
      exact ⟨_, _, h1, fun κ' r' hk => by simp only [act, hz, hb, cond_true]; exact hk⟩
    · cases h
  · exact lift_det (f := fun κ => build P rf _ _ κ) (build_det h)
  · exact buildSlice_det h
  · exact lift_det (f := fun κ => load P lk _ _ κ) (load_det h)
  · obtain ⟨es, h1, hr⟩ := store_det h
    exact ⟨_, es, h1, fun κ' r' hk => hr _ r' hk⟩
  · split at h
    · rename_i hx
      exact ⟨_, _, h, fun κ' r' hk => by simp only [act, hx]; exact hk⟩
    · rename_i hx
      exact ⟨_, _, h, fun κ' r' hk => by simp only [act, hx]; exact hk⟩
    · rename_i hx
      exact ⟨_, _, h, fun κ' r' hk => by simp only [act, hx]; exact hk⟩
    · cases h
  · exact lift_det (f := fun κ => binop P _ _ _ _ κ) (binop_det h)
  · exact lift_det (f := fun κ => unop _ _ κ) (unop_det h)
  · exact convert_det h
  · exact makeSlice_det h
  · exact lift_det (f := fun κ => slice P lk _ _ _ _ κ) (slice_det h)
  · exact lift_det (f := fun κ => fieldAddr P _ _ _ κ) (fieldAddr_det h)
  · exact lift_det (f := fun κ => field P _ _ _ κ) (field_det h)
  · exact lift_det (f := fun κ => indexAddr P lk _ _ _ κ) (indexAddr_det h)
  · exact lift_det (f := fun κ => index P _ _ _ κ) (index_det h)
  · exact lift_det (f := fun κ => extract _ _ κ) (extract_det h)
  · exact builtin_det h
  · split at h
    · rename_i hg
      obtain ⟨hc, h1⟩ := bif_some h
      obtain ⟨v, es, h2, hr⟩ := hE _ _ hg _ _ _ _ _ h1
      exact ⟨v, es, h2, fun κ' r' hk => by simp only [act, hg, hc, cond_true]; exact hr κ' r' hk⟩
    · rename_i hg
      obtain ⟨hc, h1⟩ := bif_some h
      obtain ⟨v, h2, hr⟩ := cmpBytes_det h1
      exact ⟨v, [], h2, fun κ' r' hk => by simp only [act, hg, hc, cond_true]; exact hr _ r' hk⟩
  · rename_i x args tys hnf
    have hact : ∀ κ' : SS → List Ef → Option R, act P E rf lk d (.call { callee := .value x, args, argTypes := tys }) κ' = match rf x with
        | .val (.one (.at (.func (.func f) fs cs))) => match fs.toList, cs.toList with
          | [], [] => match E f with
            | some g => bif callable P f then g d (rds rf args.toList) lk κ' else none
            | none => none
          | _, _ => none
        | .val (.one (.own i)) => match lk i with
          | some (.clo f cells) => match E f with
            | some g => bif callable P f && solids cells then g d (rds rf args.toList ++ onesK cells) lk κ' else none
            | none => none
          | _ => none
        | _ => none := by
      intro κ'
      cases x with
      | func f => exact absurd rfl (hnf f)
      | _ => rfl
    split at h
    · rename_i f fs cs hq
      split at h
      · rename_i hfs hcs
        split at h
        · rename_i hg
          obtain ⟨hc, h1⟩ := bif_some h
          obtain ⟨v, es, h2, hr⟩ := hE _ _ hg _ _ _ _ _ h1
          exact ⟨v, es, h2, fun κ' r' hk => by rw [hact, hq]; simp only [hfs, hcs, hg, hc, cond_true]; exact hr κ' r' hk⟩
        · cases h
      · cases h
    · rename_i i hq
      split at h
      · rename_i f cells hlk
        split at h
        · rename_i hg
          obtain ⟨hc, h1⟩ := bif_some h
          obtain ⟨v, es, h2, hr⟩ := hE _ _ hg _ _ _ _ _ h1
          exact ⟨v, es, h2, fun κ' r' hk => by rw [hact, hq]; simp only [hlk, hg, hc, cond_true]; exact hr κ' r' hk⟩
        · cases h
      · cases h
    · cases h
  · split at h
    · rename_i hfs hcs
      obtain ⟨hc, h1⟩ := bif_some h
      exact ⟨_, _, h1, fun κ' r' hk => by simp only [act, hfs, hcs, hc, cond_true]; exact hk⟩
    · cases h
  · split at h
    · rename_i hq
      obtain ⟨hc, h1⟩ := bif_some h
      exact ⟨_, _, h1, fun κ' r' hk => by simp only [act, hq, hc, cond_true]; exact hk⟩
    · cases h
  · exact makeMap_det h
  · obtain ⟨n, h1, hn⟩ := getInt_det h
    obtain ⟨v, es, h2, hr⟩ := makeMap_det h1
    exact ⟨v, es, h2, fun κ' r' hk => by simp only [act]; rw [hn]; exact hr κ' r' hk⟩
  · exact lift_det (f := fun κ => mapLook P lk _ _ _ _ κ) (mapLook_det h)
  · obtain ⟨es, h1, hr⟩ := mapSet_det h
    exact ⟨_, es, h1, fun κ' r' hk => hr _ r' hk⟩
  · obtain ⟨es, h1, hr⟩ := mapSet_det h
    exact ⟨_, es, h1, fun κ' r' hk => hr _ r' hk⟩
  · exact mapRange_det h
  · exact lift_det (f := fun κ => mapEnt lk _ κ) (mapEnt_det h)
  · cases h

/- What an operation looks at. -/

theorem fill_rf {rf1 : Operand → SS} {place : Nat → Option (Nat × Nat)} : ∀ (ps : List (Nat × Operand)) (l : List SV), (∀ p ∈ ps, rf1 p.2 = rf p.2) → fillCells place rf1 l ps = fillCells place rf l ps
  | [], l, _ => rfl
  | (i, x) :: ps, l, h => by
    have hx : rf1 x = rf x := h (i, x) (.head _)
    have ih : ∀ l, fillCells place rf1 l ps = fillCells place rf l ps := fun l => fill_rf ps l fun p hp => h p (.tail _ hp)
    simp only [fillCells, hx, ih]

theorem rds_rf {rf1 : Operand → SS} : ∀ l : List Operand, (∀ x ∈ l, rf1 x = rf x) → rds rf1 l = rds rf l
  | [], _ => rfl
  | x :: l, h => by simp only [rds, h x (.head _), rds_rf l fun y hy => h y (.tail _ hy)]

theorem act_rf {E : Sums R} {rf1 : Operand → SS} {d : Nat} {op : Op} (h : ∀ x ∈ op.operands, rf1 x = rf x) (κ : SS → List Ef → Option R) : act P E rf1 lk d op κ = act P E rf lk d op κ := by
  cases op with
  | call c =>
    obtain ⟨callee, args, tys⟩ := c
    have ha : rds rf1 args.toList = rds rf args.toList := rds_rf _ fun x hx => h x (by
      simp only [Op.operands, Call.operands, Array.mem_append]
      exact .inr (by simpa using hx))
    cases callee with
    | builtin b => simp only [act, ha]
    | value f =>
      have hf : rf1 f = rf f := h f (by simp [Op.operands, Call.operands])
      cases f <;> simp only [act, ha, hf]
    | invoke r m => rfl
  | build t ps =>
    have hp : ∀ p ∈ ps.toList, rf1 p.2 = rf p.2 := fun p hp => h p.2 (by simp only [Op.operands, List.mem_toArray]; exact List.mem_map.2 ⟨p, hp, rfl⟩)
    simp only [act, build, fill_rf _ _ hp]
  | buildSlice t n ps =>
    have hp : ∀ p ∈ ps.toList, rf1 p.2 = rf p.2 := fun p hp => h p.2 (by simp only [Op.operands, List.mem_toArray]; exact List.mem_map.2 ⟨p, hp, rfl⟩)
    simp only [act, buildSlice, fill_rf _ _ hp]
  | slice t x lo hi mx =>
    have hx := h x (by simp [Op.operands])
    have hlo : lo.map rf1 = lo.map rf := by cases lo with
      | none => rfl
      | some l => simp only [Option.map_some, h l (by simp [Op.operands])]
    have hhi : hi.map rf1 = hi.map rf := by cases hi with
      | none => rfl
      | some l => simp only [Option.map_some, h l (by simp [Op.operands])]
    cases mx <;> simp only [act, hx, hlo, hhi]
  | pick c a b => simp only [act, h c (by simp [Op.operands]), h a (by simp [Op.operands]), h b (by simp [Op.operands])]
  | move x => simp only [act, h x (by simp [Op.operands])]
  | assign x => simp only [act, h x (by simp [Op.operands])]
  | box t x => simp only [act, h x (by simp [Op.operands])]
  | load t x => simp only [act, h x (by simp [Op.operands])]
  | nilCheck x => simp only [act, h x (by simp [Op.operands])]
  | unOp o t x => simp only [act, h x (by simp [Op.operands])]
  | convert s t x => simp only [act, h x (by simp [Op.operands])]
  | fieldAddr t x f => simp only [act, h x (by simp [Op.operands])]
  | field t x f => simp only [act, h x (by simp [Op.operands])]
  | extract x i => simp only [act, h x (by simp [Op.operands])]
  | store t x y => simp only [act, h x (by simp [Op.operands]), h y (by simp [Op.operands])]
  | binOp o t x y u => simp only [act, h x (by simp [Op.operands]), h y (by simp [Op.operands])]
  | makeSlice t x y => simp only [act, h x (by simp [Op.operands]), h y (by simp [Op.operands])]
  | indexAddr t x y => simp only [act, h x (by simp [Op.operands]), h y (by simp [Op.operands])]
  | index t x y => simp only [act, h x (by simp [Op.operands]), h y (by simp [Op.operands])]
  | makeFunc fn fs cs =>
    have hc : rds rf1 cs.toList = rds rf cs.toList := rds_rf _ fun x hx => h x (by
      simp only [Op.operands, Array.mem_append]
      exact .inr (by simpa using hx))
    cases fn <;> simp only [act, hc]
  | makeInterface t x => simp only [act, h x (by simp [Op.operands])]
  | makeMap t x => cases x with
    | none => rfl
    | some x => simp only [act, h x (by simp [Op.operands])]
  | lookup t m k ok => simp only [act, h m (by simp [Op.operands]), h k (by simp [Op.operands])]
  | mapUpdate t m k x => simp only [act, h m (by simp [Op.operands]), h k (by simp [Op.operands]), h x (by simp [Op.operands])]
  | insert t m k x => simp only [act, h m (by simp [Op.operands]), h k (by simp [Op.operands]), h x (by simp [Op.operands])]
  | range t m => simp only [act, h m (by simp [Op.operands])]
  | entry it => simp only [act, h it (by simp [Op.operands])]
  | _ => rfl

theorem act_pure {E : Sums R} {lk1 : Lk} {d : Nat} {op : Op} (h : opPure op = true) (κ : SS → List Ef → Option R) : act P E rf lk1 d op κ = act P E rf lk d op κ := by
  cases op <;> first | rfl | cases h

theorem reach_eq {lk1 : Lk} : ∀ (n : Nat) (ids : List Nat), (∀ j ∈ reach lk n ids, lk1 j = lk j) → reach lk1 n ids = reach lk n ids
  | 0, _, _ => rfl
  | n + 1, ids, h => by
    simp only [reach] at h ⊢
    have e : (ids.flatMap fun i => obRefs (lk1 i)) = ids.flatMap fun i => obRefs (lk i) := by
      rw [List.flatMap_def, List.flatMap_def]
      congr 1
      refine List.map_congr_left fun i hi => ?_
      rw [h i (List.mem_append_left _ hi)]
    rw [e, reach_eq n _ fun j hj => h j (List.mem_append_right _ hj)]

theorem memN_mem {i : Nat} : ∀ {l : List Nat}, memN i l = true → i ∈ l
  | j :: l, h => by
    simp only [memN] at h
    cases hb : Nat.beq j i with
    | true => rw [Nat.eq_of_beq_eq_true hb]; exact .head _
    | false => rw [hb] at h; exact .tail _ (memN_mem h)

theorem mem_memN {i : Nat} : ∀ {l : List Nat}, i ∈ l → memN i l = true
  | j :: l, h => by
    simp only [memN]
    cases hb : Nat.beq j i with
    | true => rfl
    | false =>
      rcases List.mem_cons.1 h with h | h
      · subst h; simp at hb
      · exact mem_memN h

theorem lkOf_eq {o1 o2 : List (Nat × Ob)} {ids : List Nat} (h : ∀ j ∈ ids, look o1 j = look o2 j) : lkOf o1 ids = lkOf o2 ids := by
  funext i
  unfold lkOf
  cases hm : memN i ids with
  | true => exact h i (memN_mem hm)
  | false => rfl

theorem opIds_eq {S S1 : St} {op : Op} (hr : ∀ x ∈ op.operands, rd S1 x = rd S x) (ho : ∀ j ∈ opIds S op, look S1.objs j = look S.objs j) : opIds S1 op = opIds S op := by
  unfold opIds at ho ⊢
  rw [rds_rf _ (fun x hx => hr x (by simpa using hx))]
  exact reach_eq 3 _ ho

end
end Go.Sh
