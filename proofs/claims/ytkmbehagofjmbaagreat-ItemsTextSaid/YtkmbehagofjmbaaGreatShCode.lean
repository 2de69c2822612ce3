/-
  The shadow evaluator is right: of operations, of code, of loops. No project text.
-/
import Derived.Test.YtkmbehagofjmbaaGreatShMap4
import Derived.KernelRfl
import Derived.WideMake
import GoSem.Extern.Table
namespace Go.Sh

section
variable {R : Type} {C : Ctx} {hd : Nat → Value} {S : St} {tmps : Array Value} {w : World} {ds : List Deferred}

/-- What the evaluator takes a called function to do, it does. -/
def SumOk (C : Ctx) (f : FuncId) (g : Nat → List SS → Lk → (SS → List Ef → Option R) → Option R) : Prop :=
  ∀ (hd : Nat → Value) (S : St) (lk : Lk) (tmps : Array Value) (w : World) (d : Nat) (args : List SS) (vals : List Value) (κ : SS → List Ef → Option R) (r : R),
    Inv C hd S tmps w → Sub lk S → all2 (SSRel w (C.F hd S) hd) args vals → g d args lk κ = some r →
    Calls C.P f vals.toArray w fun e w' => ∃ v hd' es s, e = .returned v ∧ κ s es = some r ∧ Inv C hd' (apps es S) tmps w' ∧ SSRel w' (C.F hd' (apps es S)) hd' s v

theorem rds_ok (I : Inv C hd S tmps w) : ∀ xs : List Operand, all2 (SSRel w (C.F hd S) hd) (rds (rd S) xs) (xs.map ({ tmps, defers := ds } : Act).eval)
  | [] => trivial
  | x :: xs => ⟨I.rd x ds, rds_ok I xs⟩

theorem optRel (I : Inv C hd S tmps w) (x : Option Operand) : ((x.map (rd S)) = none ∧ (x.map ({ tmps, defers := ds } : Act).eval) = none) ∨
    ∃ s v, (x.map (rd S)) = some s ∧ (x.map ({ tmps, defers := ds } : Act).eval) = some v ∧ SSRel w (C.F hd S) hd s v := by
  cases x with
  | none => exact .inl ⟨rfl, rfl⟩
  | some x => exact .inr ⟨_, _, rfl, rfl, I.rd x ds⟩

theorem upon_good {o : Oper} {K : Act → World → Prop} {Q : Exit → Act → World → Prop} {κ : SS → St → Option R} {r : R} {res : Result Value} (h : Good C S tmps (fun s es => κ s (apps es S)) r res)
    (hrun : (execOp ({ tmps, defers := ds } : Act).eval o).run C.P w = res.andThen fun v w' => .ok (.value v) w')
    (hK : ∀ v w' hd' S' s, κ s S' = some r → Inv C hd' S' tmps w' → SSRel w' (C.F hd' S') hd' s v → K (({ tmps, defers := ds } : Act).put o.dst v) w') :
    o.wp C.P { tmps, defers := ds } w K Q := by
  obtain ⟨v, w', hd', es, s, rfl, hk, I', hs⟩ := h
  unfold Oper.wp
  rw [hrun]
  exact hK v w' hd' _ s hk I' hs

theorem find_cmp {fn : Func} (h1 : fn.name = "internal/bytealg.Compare") (h2 : fn.origin = "") : Extern.findNext fn = none ∧ Extern.find fn = some Extern.BytealgCompare.compare := by
  have e1 : Extern.allNextRows.lookup "internal/bytealg.Compare" = none := by kernel_rfl
  have e2 : Extern.allGenericRows.lookup "internal/bytealg.Compare" = none := by kernel_rfl
  have e3 : Extern.allTypedRows.lookup "internal/bytealg.Compare" = none := by kernel_rfl
  have e4 : Extern.allRows.lookup "internal/bytealg.Compare" = some Extern.BytealgCompare.compare := by kernel_rfl
  have e5 : Extern.allNextRows.lookup "" = none := by kernel_rfl
  unfold Extern.findNext Extern.find
  rw [h1, h2]
  simp only [e1, e2, e3, e4, e5]
  exact ⟨rfl, rfl⟩

theorem run_cmp {P : Program} {w : World} {a b : Value} {x y : ByteArray} (h1 : (Extern.Bytes.bytesOf a).run P w = .ok x w) (h2 : (Extern.Bytes.bytesOf b).run P w = .ok y w) :
    (Extern.BytealgCompare.compare #[a, b]).run P w = .ok (.int .i64 (Extern.BytealgCompare.cmp x y)) w := by
  show (do pure (goInt (Extern.BytealgCompare.cmp (← Extern.Bytes.bytesOf a) (← Extern.Bytes.bytesOf b))) : Sem Value).run P w = _
  simp [h1, h2, goInt]

theorem run_callable {P : Program} {f : FuncId} {vals : Array Value} (hc : callable P f = true) : (callFunc f vals).run P w = .ok (.enter f vals) w := by
  unfold callable at hc
  split at hc
  · rename_i fn hfn
    simp only [Bool.and_eq_true, bne_iff_ne, ne_eq] at hc
    obtain ⟨h2, h3⟩ := hc
    obtain ⟨body, hbody⟩ := Option.isSome_iff_exists.1 h3
    simp [callFunc, hfn, h2, hbody]
  · cases hc

theorem act_wp {E : Sums R} (hE : ∀ f g, E f = some g → SumOk C f g) (I : Inv C hd S tmps w) {o : Oper} {K : Act → World → Prop} {Q : Exit → Act → World → Prop} {κ : SS → St → Option R} {r : R}
    (h : (act C.P E (rd S) (lkOf S.objs (opIds S o.op)) (o.dst.getD 0) o.op fun v es => κ v (apps es S)) = some r)
    (hK : ∀ v w' hd' S' s, κ s S' = some r → Inv C hd' S' tmps w' → SSRel w' (C.F hd' S') hd' s v → K (({ tmps, defers := ds } : Act).put o.dst v) w') :
    o.wp C.P { tmps, defers := ds } w K Q := by
  obtain ⟨dst, op, type, pos, after, guard⟩ := o
  simp only at h
  have hsub := Sub.of S (opIds S op)
  generalize lkOf S.objs (opIds S op) = lk at h hsub
  unfold act at h
  split at h
  · rename_i x
    exact upon_good (Good.pure I (v := ({ tmps, defers := ds } : Act).eval x) rfl h (I.rd x ds)) (by simp [execOp]) hK
  · rename_i x
    exact upon_good (Good.pure I (v := ({ tmps, defers := ds } : Act).eval x) rfl h (I.rd x ds)) (by simp [execOp]) hK
  · rename_i c a b
    split at h
    · rename_i q hq
      have hc := I.rd c ds
      rw [hq] at hc
      have hc : ({ tmps, defers := ds } : Act).eval c = .bool q := hc
      have ha := I.rd a ds
      have hb := I.rd b ds
      have hrun : (execOp ({ tmps, defers := ds } : Act).eval { dst, op := .pick c a b, type, pos, after, guard }).run C.P w =
          (Result.ok (if q then ({ tmps, defers := ds } : Act).eval a else ({ tmps, defers := ds } : Act).eval b) w : Result Value).andThen fun v w' => .ok (.value v) w' := by
        simp [execOp, hc, asBool]
      split at h
      · rename_i x y hx hy
        rw [hx] at ha
        rw [hy] at hb
        have ha : ({ tmps, defers := ds } : Act).eval a = .bool x := ha
        have hb : ({ tmps, defers := ds } : Act).eval b = .bool y := hb
        refine upon_good (Good.pure I (v := if q then ({ tmps, defers := ds } : Act).eval a else ({ tmps, defers := ds } : Act).eval b) rfl h ?_) hrun hK
        rw [ha, hb]
        cases q <;> exact (rfl : _ = _)
      · cases q with
        | true => exact upon_good (Good.pure I rfl h ha) (by simpa using hrun) hK
        | false => exact upon_good (Good.pure I rfl h hb) (by simpa using hrun) hK
    · cases h
  · rename_i t
    split at h
    · rename_i z hz
      exact upon_good (alloc_good I hz h) (by simp [execOp]) hK
    · cases h
  · rename_i t x
    split at h
    · rename_i vs hvs
      obtain ⟨hso, h1⟩ := bif_some h
      exact upon_good (box_good I (t := t) (I.rd x ds) hvs hso h1) (by simp [execOp]) hK
    · cases h
  · exact upon_good (build_good I ds h) (by simp [execOp]) hK
  · exact upon_good (buildSlice_good I hsub ds h) (by simp [execOp]) hK
  · rename_i t a
    exact upon_good (load_good I hsub (I.rd a ds) h) (by simp [execOp]) hK
  · rename_i t a x
    obtain ⟨w', hd', es, hrun, hk, I'⟩ := store_good I hsub (I.rd a ds) (I.rd x ds) h
    unfold Oper.wp
    have : (execOp ({ tmps, defers := ds } : Act).eval { dst, op := .store t a x, type, pos, after, guard }).run C.P w = .ok .skip w' := by simp [execOp, hrun]
    rw [this]
    exact hK undef w' hd' _ .dead hk I' trivial
  · rename_i x
    have hx := I.rd x ds
    split at h
    · rename_i i o hq
      rw [hq] at hx
      have hx0 := hx
      obtain ⟨b, _, he⟩ := hx
      exact upon_good (Good.pure I (v := ({ tmps, defers := ds } : Act).eval x) rfl h hx0) (by simp [execOp, he]) hK
    · rename_i i n a b hq
      rw [hq] at hx
      have hx0 := hx
      obtain ⟨b, _, _, _, he⟩ := hx
      exact upon_good (Good.pure I (v := ({ tmps, defers := ds } : Act).eval x) rfl h hx0) (by simp [execOp, he]) hK
    · rename_i t y j hq
      rw [hq] at hx
      have hx0 := hx
      obtain ⟨b, _, _, he, _⟩ := hx
      exact upon_good (Good.pure I (v := ({ tmps, defers := ds } : Act).eval x) rfl h hx0) (by simp [execOp, he]) hK
    · cases h
  · rename_i op t x y yt
    refine upon_good (binop_good I (x := x) (y := y) (I.rd x ds) (I.rd y ds) h) ?_ hK
    simp only [execOp, Sem.run_bind, Sem.run_pure]
  · rename_i op t x
    exact upon_good (unop_good I (I.rd x ds) h) (by simp [execOp]) hK
  · rename_i s t x
    exact upon_good (convert_good I hsub (I.rd x ds) h) (by simp [execOp]) hK
  · rename_i t l c
    exact upon_good (makeSlice_good I (I.rd l ds) (I.rd c ds) h) (by simp [execOp]) hK
  · rename_i t x lo hi
    exact upon_good (slice_good I hsub (I.rd x ds) (optRel (ds := ds) I lo) (optRel (ds := ds) I hi) h) (by simp [execOp]) hK
  · rename_i s x f
    exact upon_good (fieldAddr_good I (I.rd x ds) h) (by simp [execOp]) hK
  · rename_i t x f
    exact upon_good (field_good I (I.rd x ds) h) (by simp [execOp]) hK
  · rename_i t x i
    exact upon_good (indexAddr_good I hsub (I.rd x ds) (I.rd i ds) h) (by simp [execOp]) hK
  · rename_i t x i
    exact upon_good (index_good I (I.rd x ds) (I.rd i ds) h) (by simp [execOp]) hK
  · rename_i x i
    exact upon_good (extract_good I (I.rd x ds) h) (by simp [execOp]) hK
  · rename_i b args argTypes
    have hargs := rds_ok (ds := ds) I args.toList
    have hlist : args.map ({ tmps, defers := ds } : Act).eval = (args.toList.map ({ tmps, defers := ds } : Act).eval).toArray := by rw [← Array.toList_inj]; simp
    unfold builtin at h
    split at h
    · rename_i t v htys hrd
      rw [hrd] at hargs
      have htys' : argTypes = #[t] := by rw [← Array.toList_inj]; simpa using htys
      cases hm : args.toList.map ({ tmps, defers := ds } : Act).eval with
      | nil => rw [hm] at hargs; exact hargs.elim
      | cons x xs =>
        rw [hm] at hargs hlist
        obtain ⟨hx, hxs⟩ := hargs
        cases xs with
        | cons _ _ => exact hxs.elim
        | nil =>
          have hexec : ∀ n : Int, (Builtin.len_ #[t] type #[x]).run C.P w = .ok (goInt n) w → (execOp ({ tmps, defers := ds } : Act).eval { dst, op := .call { callee := .builtin .len, args, argTypes }, type, pos, after, guard }).run C.P w =
              (Result.ok (Value.int .i64 n) w : Result Value).andThen fun v w' => .ok (.value v) w' := by
            intro n hn
            simp [execOp, resolve, invoke, Go.builtin, hlist, htys', hn, goInt]
          split at h
          · rename_i e hu
            split at h
            · rename_i n hn
              refine upon_good (Good.pure I (v := .int .i64 n) rfl h (rfl : _ = _)) (hexec n ?_) hK
              obtain ⟨a, l, c, rfl, rfl⟩ := len_ok I hsub hn hx
              simp [Builtin.len_, run_underlying hu]
            · cases h
          · rename_i hu
            split at h
            · rename_i s
              have hx : x = .string s := hx
              subst hx
              refine upon_good (Good.pure I (v := .int .i64 s.size) rfl h (rfl : _ = _)) (hexec s.size ?_) hK
              simp [Builtin.len_, run_underlying hu]
            · cases h
          · rename_i mk me hu
            split at h
            · rename_i i
              split at h
              · rename_i mt ka va k v l c nl hlk
                obtain ⟨rfl, _⟩ := hx
                refine upon_good (Good.pure I (v := .int .i64 l.length) rfl h (rfl : _ = _)) (hexec l.length ?_) hK
                obtain ⟨es, hat, hl, _, _⟩ := map_at (I.objs _ (look_mem (hsub _ _ hlk)))
                have hlen := hl.len
                simp only [Array.length_toList] at hlen
                rcases hat with ⟨e, rfl, _⟩ | ⟨rr, e, hg⟩
                · have e : hd i = .map none := e
                  rw [e]
                  simp at hlen
                  simp [Builtin.len_, run_underlying hu, goInt, hlen]
                · have e : hd i = .map (some rr) := e
                  rw [e]
                  simp [Builtin.len_, run_underlying hu, run_getObj_map hg, goInt, hlen]
              · cases h
            · cases h
          · cases h
    · rename_i t ts m k htys hrd
      rw [hrd] at hargs
      have htys' : argTypes = (t :: ts).toArray := by rw [← Array.toList_inj]; simpa using htys
      cases hm : args.toList.map ({ tmps, defers := ds } : Act).eval with
      | nil => rw [hm] at hargs; exact hargs.elim
      | cons vx xs =>
        rw [hm] at hargs hlist
        obtain ⟨hx, hxs⟩ := hargs
        cases xs with
        | nil => exact hxs.elim
        | cons vy xs =>
          obtain ⟨hy, hxs⟩ := hxs
          cases xs with
          | cons _ _ => exact hxs.elim
          | nil => exact upon_good (mapDel_good I hsub (ty := type) hx hy h ts) (by simp [execOp, resolve, invoke, Go.builtin, hlist, htys']) hK
    · rename_i t x htys hrd
      rw [hrd] at hargs
      have htys' : argTypes = #[t] := by rw [← Array.toList_inj]; simpa using htys
      cases hm : args.toList.map ({ tmps, defers := ds } : Act).eval with
      | nil => rw [hm] at hargs; exact hargs.elim
      | cons vx xs =>
        rw [hm] at hargs hlist
        obtain ⟨hx, hxs⟩ := hargs
        cases xs with
        | cons _ _ => exact hxs.elim
        | nil => exact upon_good (clearL_good I hsub (ty' := type) hx h) (by simp [execOp, resolve, invoke, Go.builtin, hlist, htys']) hK
    · rename_i t u x y htys hrd
      rw [hrd] at hargs
      have htys' : argTypes = #[t, u] := by rw [← Array.toList_inj]; simpa using htys
      obtain ⟨htu, h1⟩ := bif_some h
      have htu := Nat.eq_of_beq_eq_true htu
      subst htu
      cases hm : args.toList.map ({ tmps, defers := ds } : Act).eval with
      | nil => rw [hm] at hargs; exact hargs.elim
      | cons vx xs =>
        rw [hm] at hargs hlist
        obtain ⟨hx, hxs⟩ := hargs
        cases xs with
        | nil => exact hxs.elim
        | cons vy xs =>
          obtain ⟨hy, hxs⟩ := hxs
          cases xs with
          | cons _ _ => exact hxs.elim
          | nil => exact upon_good (append_good I hsub (ty' := type) hx hy h1) (by simp [execOp, resolve, invoke, Go.builtin, hlist, htys']) hK
    · rename_i t u x y htys hrd
      rw [hrd] at hargs
      have htys' : argTypes = #[t, u] := by rw [← Array.toList_inj]; simpa using htys
      cases hm : args.toList.map ({ tmps, defers := ds } : Act).eval with
      | nil => rw [hm] at hargs; exact hargs.elim
      | cons vx xs =>
        rw [hm] at hargs hlist
        obtain ⟨hx, hxs⟩ := hargs
        cases xs with
        | nil => exact hxs.elim
        | cons vy xs =>
          obtain ⟨hy, hxs⟩ := hxs
          cases xs with
          | cons _ _ => exact hxs.elim
          | nil => exact upon_good (copy_good I hsub (u := u) (ty' := type) hx hy h) (by simp [execOp, resolve, invoke, Go.builtin, hlist, htys']) hK
    · rename_i k a k' b hrd
      rw [hrd] at hargs
      cases hm : args.toList.map ({ tmps, defers := ds } : Act).eval with
      | nil => rw [hm] at hargs; exact hargs.elim
      | cons vx xs =>
        rw [hm] at hargs hlist
        obtain ⟨hx, hxs⟩ := hargs
        cases xs with
        | nil => exact hxs.elim
        | cons vy xs =>
          obtain ⟨hy, hxs⟩ := hxs
          cases xs with
          | cons _ _ => exact hxs.elim
          | nil =>
            have hx : vx = .int k a := hx
            have hy : vy = .int k' b := hy
            subst hx; subst hy
            exact upon_good (Good.pure I (v := .int k (maxI a b)) rfl h (rfl : _ = _)) (by simp [execOp, resolve, invoke, Go.builtin, hlist, Builtin.max_, Builtin.max2, maxI]) hK
    · rename_i k a k' b hrd
      rw [hrd] at hargs
      cases hm : args.toList.map ({ tmps, defers := ds } : Act).eval with
      | nil => rw [hm] at hargs; exact hargs.elim
      | cons vx xs =>
        rw [hm] at hargs hlist
        obtain ⟨hx, hxs⟩ := hargs
        cases xs with
        | nil => exact hxs.elim
        | cons vy xs =>
          obtain ⟨hy, hxs⟩ := hxs
          cases xs with
          | cons _ _ => exact hxs.elim
          | nil =>
            have hx : vx = .int k a := hx
            have hy : vy = .int k' b := hy
            subst hx; subst hy
            exact upon_good (Good.pure I (v := .int k (minI a b)) rfl h (rfl : _ = _)) (by simp [execOp, resolve, invoke, Go.builtin, hlist, Builtin.min_, Builtin.min2, minI]) hK
    · cases h
  · rename_i f args argTypes
    split at h
    · rename_i g hg
      obtain ⟨hc, h1⟩ := bif_some h
      have hargs := rds_ok (ds := ds) I args.toList
      have hcall := hE f g hg hd S lk tmps w _ _ _ _ r I hsub hargs h1
      unfold Oper.wp
      have hrun : (execOp ({ tmps, defers := ds } : Act).eval { dst, op := .call { callee := .value (.func f), args, argTypes }, type, pos, after, guard }).run C.P w =
          .ok (.enter f (args.toList.map ({ tmps, defers := ds } : Act).eval).toArray) w := by
        unfold callable at hc
        split at hc
        · rename_i fn hfn
          simp only [Bool.and_eq_true, bne_iff_ne, ne_eq] at hc
          obtain ⟨h2, h3⟩ := hc
          obtain ⟨body, hbody⟩ := Option.isSome_iff_exists.1 h3
          have hl : args.map ({ tmps, defers := ds } : Act).eval = (args.toList.map ({ tmps, defers := ds } : Act).eval).toArray := by rw [← Array.toList_inj]; simp
          have hf : ({ tmps, defers := ds } : Act).eval (.func f) = .func (.func f) #[] #[] := rfl
          simp [execOp, resolve, Deferred.ofValue, hf, invoke, callFunc, hfn, h2, hbody, hl]
        · cases hc
      rw [hrun]
      refine hcall.mono ?_
      rintro e w' ⟨v, hd', es, s, rfl, hk, I', hs⟩
      exact hK v w' hd' _ s hk I' hs
    · obtain ⟨hc, h1⟩ := bif_some h
      unfold extCmp at hc
      split at hc
      · rename_i fn hfn
        simp only [Bool.and_eq_true, beq_iff_eq, Option.isNone_iff_eq_none] at hc
        have hargs := rds_ok (ds := ds) I args.toList
        have hlist : args.map ({ tmps, defers := ds } : Act).eval = (args.toList.map ({ tmps, defers := ds } : Act).eval).toArray := by rw [← Array.toList_inj]; simp
        unfold cmpBytes at h1
        split at h1
        · rename_i x y hrd
          rw [hrd] at hargs
          split at h1
          · rename_i a b ha hb
            cases hm : args.toList.map ({ tmps, defers := ds } : Act).eval with
            | nil => rw [hm] at hargs; exact hargs.elim
            | cons vx xs =>
              rw [hm] at hargs hlist
              obtain ⟨hx, hxs⟩ := hargs
              cases xs with
              | nil => exact hxs.elim
              | cons vy xs =>
                obtain ⟨hy, hxs⟩ := hxs
                cases xs with
                | cons _ _ => exact hxs.elim
                | nil =>
                  have e1 := run_bytesOf I hsub ha hx
                  have e2 := run_bytesOf I hsub hb hy
                  have hf : ({ tmps, defers := ds } : Act).eval (.func f) = .func (.func f) #[] #[] := rfl
                  refine upon_good (Good.pure I (v := .int .i64 (Extern.BytealgCompare.cmp (strOf a) (strOf b))) rfl h1 (rfl : _ = _)) ?_ hK
                  have hfind : Extern.findNext fn = none ∧ Extern.find fn = some Extern.BytealgCompare.compare := by
                    exact find_cmp hc.1.1 hc.1.2
                  have hm : (mark (.extern f)).run C.P w = .ok () w := rfl
                  simp [execOp, resolve, Deferred.ofValue, hf, invoke, callFunc, hfn, hc.1.1, hc.2, hlist, hfind.1, hfind.2, run_cmp e1 e2, hm]
          · cases h1
        · cases h1
      · cases hc
  · rename_i x args argTypes hnf
    have hx := I.rd x ds
    split at h
    · rename_i f fs cs hq
      rw [hq] at hx
      have hx : ({ tmps, defers := ds } : Act).eval x = .func (.func f) fs cs := hx
      split at h
      · rename_i hfs hcs
        have hfs : fs = #[] := by rw [← Array.toList_inj]; simpa using hfs
        have hcs : cs = #[] := by rw [← Array.toList_inj]; simpa using hcs
        subst hfs; subst hcs
        split at h
        · rename_i g hg
          obtain ⟨hc, h1⟩ := bif_some h
          have hargs := rds_ok (ds := ds) I args.toList
          have hcall := hE f g hg hd S lk tmps w _ _ _ _ r I hsub hargs h1
          have hl : args.map ({ tmps, defers := ds } : Act).eval = (args.toList.map ({ tmps, defers := ds } : Act).eval).toArray := by rw [← Array.toList_inj]; simp
          unfold Oper.wp
          have hrun : (execOp ({ tmps, defers := ds } : Act).eval { dst, op := .call { callee := .value x, args, argTypes }, type, pos, after, guard }).run C.P w =
              .ok (.enter f (args.toList.map ({ tmps, defers := ds } : Act).eval).toArray) w := by
            simp [execOp, resolve, Deferred.ofValue, hx, invoke, run_callable hc, hl]
          rw [hrun]
          refine hcall.mono ?_
          rintro e w' ⟨v, hd', es, s, rfl, hk, I', hs⟩
          exact hK v w' hd' _ s hk I' hs
        · cases h
      · cases h
    · rename_i i hq
      rw [hq] at hx
      obtain ⟨hx, _⟩ := hx
      split at h
      · rename_i f cells hlk
        split at h
        · rename_i g hg
          obtain ⟨hc0, h1⟩ := bif_some h
          simp only [Bool.and_eq_true] at hc0
          obtain ⟨cs, hi, hcells⟩ := I.objs _ (look_mem (hsub _ _ hlk))
          simp only at hi
          rw [hi] at hx
          have hargs := all2.app (rds_ok (ds := ds) I args.toList) (onesK_ok hcells)
          have hcall := hE f g hg hd S lk tmps w _ _ _ _ r I hsub hargs h1
          have hl : args.map ({ tmps, defers := ds } : Act).eval ++ cs = (args.toList.map ({ tmps, defers := ds } : Act).eval ++ cs.toList).toArray := by rw [← Array.toList_inj]; simp
          unfold Oper.wp
          have hrun : (execOp ({ tmps, defers := ds } : Act).eval { dst, op := .call { callee := .value x, args, argTypes }, type, pos, after, guard }).run C.P w =
              .ok (.enter f (args.toList.map ({ tmps, defers := ds } : Act).eval ++ cs.toList).toArray) w := by
            simp only [execOp, resolve, Deferred.ofValue, hx, invoke, Sem.run_bind, Sem.run_pure, Result.andThen_ok, Array.empty_append, hl, run_callable hc0.1]
          rw [hrun]
          refine hcall.mono ?_
          rintro e w' ⟨v, hd', es, s, rfl, hk, I', hs⟩
          exact hK v w' hd' _ s hk I' hs
        · cases h
      · cases h
    · cases h
  · rename_i f fs cs
    split at h
    · rename_i cells hfs hcs
      obtain ⟨hso, h1⟩ := bif_some h
      have hfs : fs = #[] := by rw [← Array.toList_inj]; simpa using hfs
      subst hfs
      have hcells : all2 (SVRel w (C.F hd S) hd) cells (cs.map ({ tmps, defers := ds } : Act).eval).toList := by
        have := onesOf_ok hcs (rds_ok (ds := ds) I cs.toList)
        simpa using this
      exact upon_good (makeFunc_good I hcells h1) (by simp [execOp]) hK
    · cases h
  · rename_i t x
    split at h
    · rename_i v hq
      obtain ⟨hso, h1⟩ := bif_some h
      have hx := I.rd x ds
      rw [hq] at hx
      obtain ⟨hd', I', hs⟩ := new_bare I (dst.getD 0) (.ifc t (v.killed (dst.getD 0))) (.iface t (({ tmps, defers := ds } : Act).eval x)) rfl rfl (fun F' k => ⟨_, rfl, SVRel.kill k _ (fun j hj => upd_ne _ hj) hx⟩)
      simp only [Bool.and_eq_true] at hso
      refine upon_good ⟨_, w, hd', _, _, rfl, h1, I', hs⟩ ?_ hK
      unfold notIface at hso
      cases hu : C.P.underlying t with
      | none => rw [hu] at hso; cases hso.2
      | some d => cases d <;> first | (rw [hu] at hso; cases hso.2; done) | simp [execOp, Instr.makeInterface, run_underlying hu]
    · cases h
  · exact upon_good (makeMap_good I h) (by simp [execOp, run_makeMap_plain]) hK
  · rename_i t x
    obtain ⟨k, n, hv, h1⟩ := getInt_ok h (I.rd x ds)
    have hm := makeMap_good I h1
    refine upon_good hm ?_ hK
    unfold makeMap at h1
    split at h1
    · rename_i kt et hu
      simp [execOp, Instr.makeMap, hv, run_underlying hu, asInt, asIntOf, run_newObj]
    · cases h1
  · rename_i t m k ok
    exact upon_good (mapLook_good I hsub (I.rd m ds) (I.rd k ds) h) (by simp [execOp]) hK
  · rename_i t m k x
    obtain ⟨w', hd', es, hrun, hk, I'⟩ := mapSet_good I hsub (I.rd m ds) (I.rd k ds) (I.rd x ds) h
    unfold Oper.wp
    have : (execOp ({ tmps, defers := ds } : Act).eval { dst, op := .mapUpdate t m k x, type, pos, after, guard }).run C.P w = .ok .skip w' := by simp [execOp, hrun]
    rw [this]
    exact hK undef w' hd' _ .dead hk I' trivial
  · rename_i t m k x
    obtain ⟨w', hd', es, hrun, hk, I'⟩ := mapSet_good I hsub (I.rd m ds) (I.rd k ds) (I.rd x ds) h
    unfold Oper.wp
    have : (execOp ({ tmps, defers := ds } : Act).eval { dst, op := .insert t m k x, type, pos, after, guard }).run C.P w = .ok .skip w' := by simp [execOp, hrun]
    rw [this]
    exact hK undef w' hd' _ .dead hk I' trivial
  · rename_i t m
    exact upon_good (mapRange_good I hsub (I.rd m ds) h) (by simp [execOp]) hK
  · rename_i it
    exact upon_good (mapEnt_good I hsub (I.rd it ds) h) (by simp [execOp]) hK
  · cases h

theorem opv_wp [DecidableEq R] {E : Sums R} (hE : ∀ f g, E f = some g → SumOk C f g) (I : Inv C hd S tmps w) {o : Oper} {K : Act → World → Prop} {Q : Exit → Act → World → Prop} {κ : SS → St → Option R} {r : R}
    (h : opv C.P E S (o.dst.getD 0) o.op κ = some r)
    (hK : ∀ v w' hd' S' s, κ s S' = some r → Inv C hd' S' tmps w' → SSRel w' (C.F hd' S') hd' s v → K (({ tmps, defers := ds } : Act).put o.dst v) w') :
    o.wp C.P { tmps, defers := ds } w K Q := by
  cases hmany : opMany o.op with
  | true =>
    unfold opv at h
    rw [hmany] at h
    obtain ⟨dst, op, type, pos, after, guard⟩ := o
    obtain ⟨res, hg, hrun⟩ := actN_good I (Sub.of S (opIds S op)) ds (dst := dst) (type := type) (pos := pos) (after := after) (guard := guard) h
    exact upon_good hg hrun hK
  | false =>
    unfold opv at h
    rw [hmany, cond_false] at h
    exact act_wp hE I h hK

theorem put_dst {o : Oper} {v : Value} {s : SS} (I : Inv C hd S tmps w) (hs : SSRel w (C.F hd S) hd s v) :
    ∃ tmps', ({ tmps, defers := ds } : Act).put o.dst v = { tmps := tmps', defers := ds } ∧ Inv C hd (setDst o s S) tmps' w := by
  unfold setDst
  cases h : o.dst with
  | none => exact ⟨tmps, rfl, I⟩
  | some d => exact ⟨tmps.setIfInBounds d v, rfl, I.put hs d⟩

theorem all2_nth_at {Rr : SS → Value → Prop} {v : Value} : ∀ {l : List SS} {m : List Value} (i : Nat), all2 Rr l m → nth l i = .val (.one (.at v)) → ∃ x, m[i]? = some x ∧ Rr (.val (.one (.at v))) x
  | [], [], _, _, hn => by simp [nth, SS.dead] at hn
  | s :: _, x :: _, 0, hl, hn => by simp only [nth] at hn; subst hn; exact ⟨x, rfl, hl.1⟩
  | _ :: _, _ :: _, i + 1, hl, hn => by obtain ⟨x, h1, h2⟩ := all2_nth_at i hl.2 (by simpa [nth] using hn); exact ⟨x, by simpa using h1, h2⟩
  | [], _ :: _, _, hl, _ => hl.elim
  | _ :: _, [], _, hl, _ => hl.elim

theorem all2_nth_undef {Rr : SS → Value → Prop} : ∀ {l : List SS} {m : List Value} (i : Nat), all2 Rr l m → nth l i = .tup [] → ∃ x, m[i]? = some x ∧ Rr (.tup []) x
  | [], [], _, _, hn => by simp [nth, SS.dead] at hn
  | s :: _, x :: _, 0, hl, hn => by simp only [nth] at hn; subst hn; exact ⟨x, rfl, hl.1⟩
  | _ :: _, _ :: _, i + 1, hl, hn => by obtain ⟨x, h1, h2⟩ := all2_nth_undef i hl.2 (by simpa [nth] using hn); exact ⟨x, by simpa using h1, h2⟩
  | [], _ :: _, _, hl, _ => hl.elim
  | _ :: _, [], _, hl, _ => hl.elim

/-- What an operation that was passed over has left. -/
theorem undef_rel (w : World) (F : Nat → Prop) (hd : Nat → Value) : SSRel w F hd (.tup []) undef := ⟨#[], rfl, trivial⟩

theorem not_yielded {all : Array Oper} {j t : Nat} {S : St} {hd : Nat → Value} {tmps : Array Value} {w : World} {C : Ctx} (I : Inv C hd S tmps w) (ht : (all[j]?).bind (·.dst) = some t) (hb : nth S.slots t = .tup []) : yielded all tmps j = none := by
  obtain ⟨x, hx, vs, rfl, hv⟩ := all2_nth_undef t I.slots hb
  have : tmps[t]? = some (.tuple vs) := by simpa using hx
  simp [yielded, ht, this]

theorem all2_put_same {Rr : SS → Value → Prop} {s : SS} : ∀ {l : List SS} {m : List Value} (i : Nat), all2 Rr l m → (∀ x, m[i]? = some x → Rr s x) → all2 Rr (put l i s) m
  | [], [], _, _, _ => trivial
  | _ :: _, x :: _, 0, hl, h => ⟨h x rfl, hl.2⟩
  | _ :: _, _ :: _, i + 1, hl, h => ⟨hl.1, all2_put_same i hl.2 (by simpa using h)⟩
  | [], _ :: _, _, hl, _ => hl.elim
  | _ :: _, [], _, hl, _ => hl.elim

theorem Inv.reslot (I : Inv C hd S tmps w) (i : Nat) {s : SS} (h : ∀ x, tmps.toList[i]? = some x → SSRel w (C.F hd S) hd s x) : Inv C hd { S with slots := Sh.put S.slots i s } tmps w :=
  ⟨all2_put_same i I.slots h, I.objs, I.nodup, I.apart, I.place, I.still, I.pins⟩

theorem ops_wp [DecidableEq R] {E : Sums R} (hE : ∀ f g, E f = some g → SumOk C f g) (all : Array Oper) {Q : Exit → Act → World → Prop} {κ : St → Option R} {r : R}
    (hQ : ∀ hd' S' tmps' w', κ S' = some r → Inv C hd' S' tmps' w' → Q .normal { tmps := tmps', defers := ds } w') :
    ∀ (l : List Oper) {hd : Nat → Value} {S : St} {tmps : Array Value} {w : World}, Inv C hd S tmps w → ops C.P E all l S κ = some r → wpList C.P all Q l { tmps, defers := ds } w
  | [], hd, S, tmps, w, I, h => hQ hd S tmps w h I
  | o :: l, hd, S, tmps, w, I, h => by
    have go : ∀ (S1 : St), Inv C hd S1 tmps w → (opv C.P E S1 (o.dst.getD 0) o.op fun v S => ops C.P E all l (setDst o v S) κ) = some r →
        o.wp C.P { tmps, defers := ds } w (wpList C.P all Q l) Q := by
      intro S1 I1 h1
      refine opv_wp hE I1 h1 ?_
      intro v w' hd' S' s hk I' hs
      obtain ⟨tmps', hp, I2⟩ := put_dst (o := o) (ds := ds) I' hs
      rw [hp]
      exact ops_wp hE all hQ l I2 hk
    have skip : ∀ (S1 : St), Inv C hd S1 tmps w → ops C.P E all l (setDst o (.tup []) S1) κ = some r → wpList C.P all Q l (({ tmps, defers := ds } : Act).put o.dst undef) w := by
      intro S1 I1 h1
      obtain ⟨tmps', hp, I2⟩ := put_dst (o := o) (ds := ds) I1 (undef_rel w _ hd)
      rw [hp]
      exact ops_wp hE all hQ l I2 h1
    unfold ops at h
    unfold wpList
    split at h
    · rename_i hg
      rw [if_pos (by simp [Region.wanted, hg])]
      exact .inl (go S I h)
    · rename_i j want hg
      split at h
      · cases h
      · rename_i t ht
        split at h
        · rename_i b hb
          obtain ⟨x, hx, hxb⟩ := all2_nth_at t I.slots hb
          have hxb : x = .bool b := hxb
          subst hxb
          have hy : yielded all tmps j = some b := by
            have : tmps[t]? = some (.bool b) := by simpa using hx
            simp [yielded, ht, this]
          have hw : Region.wanted o (yielded all tmps) = (b == want) := by
            simp [Region.wanted, hg, hy]
          have I1 : ∀ c, b = c → Inv C hd { S with slots := put S.slots t (.at (.bool c)) } tmps w := by
            rintro c rfl
            refine I.reslot t ?_
            intro x hx'
            rw [hx] at hx'
            simp only [Option.some.injEq] at hx'
            subst hx'
            exact (rfl : _ = _)
          rw [hw]
          cases b with
          | true =>
            simp only [cond_true] at h
            cases hwant : (true == want) with
            | true => rw [hwant] at h; rw [if_pos rfl]; exact .inl (go _ (I1 true rfl) h)
            | false => rw [hwant] at h; rw [if_neg (by simp)]; exact skip _ (I1 true rfl) h
          | false =>
            simp only [cond_false] at h
            cases hwant : (false == want) with
            | true => rw [hwant] at h; rw [if_pos rfl]; exact .inl (go _ (I1 false rfl) h)
            | false => rw [hwant] at h; rw [if_neg (by simp)]; exact skip _ (I1 false rfl) h
        · rename_i hb
          have hw : Region.wanted o (yielded all tmps) = false := by
            simp [Region.wanted, hg, not_yielded I ht hb]
          rw [hw, if_neg (by simp)]
          exact skip _ I h
        · cases h

end
end Go.Sh
