/-
  The shadow evaluator's operations are right, II: what runs. No project text.
-/
import Derived.Test.YtkmbehagofjmbaaGreatShOps
namespace Go.Sh

section
variable {R : Type} {C : Ctx} {hd : Nat → Value} {S : St} {lk : Lk} {tmps : Array Value} {w : World}

/-- An operation has run, and the evaluator's answer holds of what it has left. -/
def Good (C : Ctx) (S : St) (tmps : Array Value) (κ : SS → List Ef → Option R) (r : R) (res : Result Value) : Prop :=
  ∃ v w' hd' es s, res = .ok v w' ∧ κ s es = some r ∧ Inv C hd' (apps es S) tmps w' ∧ SSRel w' (C.F hd' (apps es S)) hd' s v

theorem Good.pure {κ : SS → List Ef → Option R} {r : R} {res : Result Value} {v : Value} {s : SS} (I : Inv C hd S tmps w) (hr : res = .ok v w) (hk : κ s [] = some r) (hs : SSRel w (C.F hd S) hd s v) :
    Good C S tmps κ r res := ⟨v, w, hd, [], s, hr, hk, I, hs⟩

theorem bif_some {α : Type} {b : Bool} {x : Option α} {r : α} (h : (bif b then x else none) = some r) : b = true ∧ x = some r := by
  cases b with
  | true => exact ⟨rfl, h⟩
  | false => cases h

theorem bif_some' {α : Type} {b : Bool} {x : Option α} {r : α} (h : (bif b then none else x) = some r) : b = false ∧ x = some r := by
  cases b with
  | false => exact ⟨rfl, h⟩
  | true => cases h

theorem info_of_underlying {P : Program} {t : TypeId} {d : TypeDesc} (h : P.underlying t = some d) : ∃ i, P.info? t = some i ∧ P.cellsOf t = i.size := by
  unfold Program.underlying at h
  cases hi : P.info? t with
  | none => simp [hi] at h
  | some i => exact ⟨i, rfl, by simp [Program.cellsOf, hi]⟩

theorem isAggT_true {P : Program} {t : TypeId} (h : isAggT P t = some true) : (match P.underlying t with | some (.struct _) | some (.array _ _) => true | _ => false) = true := by
  unfold isAggT at h
  split at h <;> simp_all

theorem ints_ok {P : Program} {op : BinOp} {k : IntKind} {a b : Int} {κ : Value → Option R} {r : R} (t : TypeId) (h : ints op k a b κ = some r) (h1 : op ≠ .shl) (h2 : op ≠ .shr) :
    ∃ v, (Go.binOp op t (.int k a) (.int k b)).run P w = .ok v w ∧ κ v = some r := by
  cases op <;> simp only [ints] at h <;> first
    | (exact absurd rfl h1)
    | (exact absurd rfl h2)
    | (cases h; done)
    | (refine ⟨_, ?_, h⟩; simp [Go.binOp, Op.intArith, Op.intBits, Op.intCmp]; done)
    | (obtain ⟨hb, h⟩ := bif_some' h; have hb : b ≠ 0 := by simpa using hb
       refine ⟨_, ?_, h⟩; simp [Go.binOp, Op.intDiv, hb]; done)

theorem guard_plain (P : Program) (op : BinOp) (t : TypeId) (x y : Operand) (a b : Value) (ha : ∀ cs, a ≠ .agg cs) (hn : a ≠ .nilIface) : (eqGuard op t x y a b).run P w = .ok () w := by
  cases op <;> simp [eqGuard] <;> (split <;> simp_all)

theorem binop_good (I : Inv C hd S tmps w) {op : BinOp} {t : TypeId} {x y : Operand} {sx sy : SS} {vx vy : Value} (hx : SSRel w (C.F hd S) hd sx vx) (hy : SSRel w (C.F hd S) hd sy vy)
    {κ : SS → List Ef → Option R} {r : R} (h : binop C.P t op sx sy (fun v => κ v []) = some r) :
    Good C S tmps κ r ((do eqGuard op t x y vx vy; Go.binOp op t vx vy : Sem Value).run C.P w) := by
  unfold binop at h
  split at h
  · rename_i a b
    obtain ⟨xs, rfl, hxs⟩ := hx
    obtain ⟨ys, rfl, hys⟩ := hy
    have key : ∀ κ' : Bool → Option R, eqAgg C.P t a b κ' = some r → ∃ q : Bool, (Op.equalIn 10000 t (.agg xs) (.agg ys)).run C.P w = .ok q w ∧ κ' q = some r ∧ C.P.eqGuardType C.P.depth t = false := by
      intro κ' h
      unfold eqAgg at h
      split at h
      · rename_i ty hg hag hty
        split at h
        · rename_i da db hda hdb
          have h1 := decAll_ok hda hxs
          have h2 := decAll_ok hdb hys
          have := eqIn_ok (P := C.P) (w := w) 12 t ty hty 10000 (by omega) da db _ _ h1 h2
          have hp : ∀ z : Array Value, (match C.P.underlying t with | some (.struct _) | some (.array _ _) => true | _ => false) = true → pval C.P t z.toList = .agg z := by
            intro z hz
            unfold pval
            split at hz <;> simp_all
          rw [hp xs (isAggT_true hag), hp ys (isAggT_true hag)] at this
          exact ⟨_, this, h, hg⟩
        · cases h
      · cases h
    split at h
    · obtain ⟨q, hq, hk, hg⟩ := key _ h
      refine Good.pure I (v := .bool q) ?_ hk (rfl : _ = _)
      simp [run_eqGuard_agg w _ t x y xs ys hg, Go.binOp, Op.equal, Op.maxDepth, hq]
    · obtain ⟨q, hq, hk, hg⟩ := key _ h
      refine Good.pure I (v := .bool (!q)) ?_ hk (rfl : _ = _)
      simp [run_eqGuard_agg w _ t x y xs ys hg, Go.binOp, Op.equal, Op.maxDepth, hq]
    · cases h
  · rename_i k a k' b
    simp only [SSRel, CvRel, SVRel] at hx hy
    subst hx; subst hy
    have hg := guard_plain (w := w) C.P op t x y (.int k a) (.int k' b) (by simp) (by simp)
    split at h
    · obtain ⟨hb, h⟩ := bif_some' h
      have hb : ¬ b < 0 := by simpa using hb
      refine Good.pure I ?_ h (rfl : _ = _)
      simp [hg, Go.binOp, Op.shift, hb, shl]
    · obtain ⟨hb, h⟩ := bif_some' h
      have hb : ¬ b < 0 := by simpa using hb
      refine Good.pure I ?_ h (rfl : _ = _)
      simp [hg, Go.binOp, Op.shift, hb, shr]
    · split at h
      · rename_i e
        subst e
        obtain ⟨v, hv, hk⟩ := ints_ok (P := C.P) (w := w) t h (by assumption) (by assumption)
        refine Good.pure I (v := v) ?_ hk (rfl : _ = _)
        simp [hg, hv]
      · cases h
  · rename_i a b
    simp only [SSRel, CvRel, SVRel] at hx hy
    subst hx; subst hy
    have hg := guard_plain (w := w) C.P op t x y (.string a) (.string b) (by simp) (by simp)
    split at h <;> first
      | (cases h; done)
      | (refine Good.pure I ?_ h (rfl : _ = _); simp [hg, Go.binOp, Op.stringOp, strEq, strLt]; done)
  · rename_i a b
    simp only [SSRel, CvRel, SVRel] at hx hy
    subst hx; subst hy
    have hg := guard_plain (w := w) C.P op t x y (.bool a) (.bool b) (by simp) (by simp)
    split at h
    · rename_i hu
      refine Good.pure I ?_ h (rfl : _ = _)
      simp [hg, Go.binOp, Op.equal, Op.maxDepth, run_equalIn_bool w 9999 t a b hu]
    · rename_i hu
      refine Good.pure I ?_ h (rfl : _ = _)
      simp [hg, Go.binOp, Op.equal, Op.maxDepth, run_equalIn_bool w 9999 t a b hu]
    · cases h
  · cases h

theorem run_isAgg {P : Program} {t : TypeId} {g : Bool} (h : isAggT P t = some g) : (isAgg t).run P w = .ok g w := by
  unfold isAggT at h
  split at h
  · rename_i hu; simp only [Option.some.injEq] at h; subst h; simp [isAgg, run_underlying hu]
  · rename_i hu; simp only [Option.some.injEq] at h; subst h; simp [isAgg, run_underlying hu]
  · rename_i d h1 h2 hu
    simp only [Option.some.injEq] at h; subst h
    cases d <;> simp_all [isAgg, run_underlying hu]
  · cases h

theorem run_sizeOf' {P : Program} {t : TypeId} {g : Bool} (h : isAggT P t = some g) : (sizeOf t).run P w = .ok (P.cellsOf t) w := by
  unfold isAggT at h
  cases hu : P.underlying t with
  | none => simp [hu] at h
  | some d =>
    obtain ⟨i, hi, hc⟩ := info_of_underlying hu
    simp [sizeOf, typeInfo, hi, hc]

theorem addr_add (b o j : Nat) : (⟨b, o, none⟩ : Addr).add j = ⟨b, o + j, none⟩ := by
  unfold Addr.add; split <;> simp_all

/-- A value of n cells is read. -/
theorem cut_ok {F : Nat → Prop} {P : Program} {t : TypeId} {g : Bool} (hg : isAggT P t = some g) {l : List SV} {vs : List Value} (hl : all2 (SVRel w F hd) l vs) {c : Cv} (hc : cut g (P.cellsOf t) l = some c)
    {b o : Nat} (hm : ∀ j v, vs[j]? = some v → w.cell? ⟨b, o + j, none⟩ = some v) : ∃ v, (loadVar t ⟨b, o, none⟩).run P w = .ok v w ∧ CvRel w F hd c v := by
  unfold cut at hc
  split at hc
  · obtain ⟨hle, hc⟩ := bif_some hc
    have hle := Nat.le_of_ble_eq_true hle
    simp only [Option.some.injEq] at hc
    subst hc
    have hlen : (vs.take (P.cellsOf t)).length = P.cellsOf t := by rw [List.length_take, ← hl.len]; omega
    have := run_loadCells_list (P := P) w ⟨b, o, none⟩ (vs.take (P.cellsOf t)) (fun j v hj => by
      rw [addr_add]
      refine hm j v ?_
      rw [List.getElem?_take] at hj
      split at hj
      · exact hj
      · cases hj)
    rw [hlen] at this
    refine ⟨.agg (vs.take (P.cellsOf t)).toArray, ?_, ⟨_, rfl, by simpa using hl.take _⟩⟩
    simp only [loadVar, Sem.run_bind, run_isAgg hg, Result.andThen_ok, if_true, run_sizeOf' hg, this, Sem.run_pure]
  · split at hc
    · rename_i v0 r hn
      simp only [Option.some.injEq] at hc
      subst hc
      cases vs with
      | nil => exact hl.elim
      | cons v vs =>
        refine ⟨v, ?_, hl.1⟩
        have := hm 0 v rfl
        simp only [Nat.add_zero] at this
        simp [loadVar, run_isAgg hg, this]
    · cases hc

theorem row_cells {g e : Nat} {cur : Array Value} {fr : Nat × Nat} (hg : w.heap[g]? = some (.cells cur e fr)) (o : Nat) : ∀ j v, (cur.toList.drop o)[j]? = some v → w.cell? ⟨g, o + j, none⟩ = some v := by
  intro j v hj
  rw [cell_of_row w g (o + j) cur e fr hg]
  rw [List.getElem?_drop] at hj
  simpa using hj

theorem load_val (I : Inv C hd S tmps w) (hsub : Sub lk S) {t : TypeId} {sx : SS} {vx : Value} (hx : SSRel w (C.F hd S) hd sx vx) {κ : SS → Option R} {r : R} (h : load C.P lk t sx κ = some r) :
    ∃ v s, (Instr.loadAt t vx).run C.P w = .ok v w ∧ κ s = some r ∧ SSRel w (C.F hd S) hd s v := by
  unfold load at h
  split at h
  · rename_i g i o hg
    obtain ⟨b, hb, rfl⟩ := hx
    split at h
    · rename_i cells hlk
      split at h
      · rename_i c hc
        obtain ⟨b', cur, e, hv, hcur, hl⟩ := I.objs _ (look_mem (hsub _ _ hlk))
        simp only [hb, Value.pointer.injEq, Option.some.injEq, Addr.mk.injEq, and_true] at hv
        subst hv
        obtain ⟨v, hv, hcv⟩ := cut_ok hg (hl.drop o) hc (row_cells hcur o)
        exact ⟨v, _, by simpa [Instr.loadAt, Instr.sureAddr] using hv, h, hcv⟩
      · cases h
    · cases h
  · rename_i g i n a b hg
    obtain ⟨q, L, cc, hb, rfl⟩ := hx
    split at h
    · rename_i e ty l hlk
      obtain ⟨hn, h1⟩ := bif_some h
      clear h
      have hn := Nat.eq_of_beq_eq_true hn
      subst hn
      rw [Option.bind_eq_some_iff] at h1
      obtain ⟨d, hd', h⟩ := h1
      split at h
      · rename_i c hc
        obtain ⟨xs, ho, hr⟩ := I.objs _ (look_mem (hsub _ _ hlk))
        have hcells := ho.cells (g := q) (by rw [hb]; rfl)
        obtain ⟨cs, hcs, hat⟩ := hr.get (ty.cells_len) a d hd'
        have hl := (enc_ok (hd := hd) ty d cs hcs).drop b
        obtain ⟨v, hv, hcv⟩ := cut_ok hg hl hc (b := q) (o := a * ty.nc + b) (fun j v hj => by
          rw [List.getElem?_drop] at hj
          have := hcells _ v (hat _ v hj)
          rw [addr_add, Nat.zero_add] at this
          rw [Nat.add_assoc]
          exact this)
        exact ⟨v, _, by simpa [Instr.loadAt, Instr.sureAddr] using hv, h, hcv⟩
      · cases h
    · cases h
  · rename_i g ty d o hg
    obtain ⟨b, q, cs, rfl, hcs, hm, hF⟩ := hx
    split at h
    · rename_i c hc
      have hl := (enc_ok (hd := hd) ty d cs hcs).drop o
      obtain ⟨v, hv, hcv⟩ := cut_ok hg hl hc (b := b) (o := q + o) (fun j v hj => by
        rw [List.getElem?_drop] at hj
        have := hm _ v hj
        rw [Nat.add_assoc]
        exact this)
      exact ⟨v, _, by simpa [Instr.loadAt, Instr.sureAddr] using hv, h, hcv⟩
    · cases h
  · cases h

theorem load_good (I : Inv C hd S tmps w) (hsub : Sub lk S) {t : TypeId} {sx : SS} {vx : Value} (hx : SSRel w (C.F hd S) hd sx vx) {κ : SS → List Ef → Option R} {r : R} (h : load C.P lk t sx (fun v => κ v []) = some r) :
    Good C S tmps κ r ((Instr.loadAt t vx).run C.P w) := by
  obtain ⟨v, s, hv, hk, hs⟩ := load_val I hsub hx h
  exact Good.pure I hv hk hs

end
end Go.Sh
