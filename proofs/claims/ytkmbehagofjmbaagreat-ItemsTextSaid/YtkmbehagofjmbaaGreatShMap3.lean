/-
  The shadow evaluator's operations are right, IX: walks over maps, function values, comparison with nil, clear, the comparison of bytes. No project text.
-/
import Derived.Test.YtkmbehagofjmbaaGreatShMap2
import Derived.Laws.Cover3
import Derived.Laws.Pointers
namespace Go.Sh
open Go.ChangeMaps (setBlock)

section
variable {R : Type} {C : Ctx} {hd : Nat → Value} {S : St} {lk : Lk} {tmps : Array Value} {w : World}

theorem agree_ok [DecidableEq R] {a b : Option R} {r : R} (h : agree a b = some r) : a = some r ∧ b = some r := by
  unfold agree at h
  split at h
  · split at h
    · obtain ⟨he, h1⟩ := bif_some h
      have he := of_decide_eq_true he
      rw [he] at h1 ⊢
      exact ⟨h1, h1⟩
    · cases h
  · cases h

theorem allJ_ok [DecidableEq R] : ∀ {n : Nat} {f : Nat → Option R} {r : R}, allJ n f = some r → ∀ j, j < n → f j = some r
  | 0, _, _, h, _, _ => by simp [allJ] at h
  | 1, _, _, h, j, hj => by have : j = 0 := by omega
                            subst this; exact h
  | n + 2, f, r, h, j, hj => by
    obtain ⟨h1, h2⟩ := agree_ok h
    by_cases e : j = n + 1
    · subst e; exact h1
    · exact allJ_ok h2 j (by omega)

theorem notSeen_ok {F : Nat → Prop} {ka va : Bool} {k v : Ty} {seen : List Nat} : ∀ {l : List (Nat × (k.den × v.den))} {es : List MapEntry}, all2 (entRel w F ka va k v) l es →
    all2 (entRel w F ka va k v) (notSeen seen l) (es.filter fun e => !seen.toArray.contains e.born)
  | [], [], _ => trivial
  | e :: l, m :: es, h => by
    have ih := notSeen_ok (seen := seen) h.2
    have hc : ∀ (l : List Nat) (x : Nat), memN x l = l.contains x := by
      intro l x
      induction l with
      | nil => rfl
      | cons y l ih =>
        simp only [memN, List.contains_cons]
        cases hb : Nat.beq y x with
        | true => have := Nat.eq_of_beq_eq_true hb; subst this; simp
        | false =>
          have : (x == y) = false := by simpa using fun e => beq_ne hb e.symm
          rw [this, ← ih]; simp
    simp only [notSeen, List.filter_cons, h.1.1, hc]
    rw [show seen.toArray.contains e.1 = seen.contains e.1 by simp]
    cases hs : seen.contains e.1 with
    | true => simpa using ih
    | false => exact ⟨h.1, ih⟩
  | [], _ :: _, h => h.elim
  | _ :: _, [], h => h.elim

theorem mapNext_good [DecidableEq R] (I : Inv C hd S tmps w) (hsub : Sub lk S) {si : SS} {vi : Value} {ty : TypeId} (hi : SSRel w (C.F hd S) hd si vi) {κ : SS → List Ef → Option R} {r : R} (h : mapNext lk si κ = some r) :
    Good C S tmps κ r ((Instr.next vi false ty).run C.P w) := by
  unfold mapNext at h
  split at h
  · rename_i i
    obtain ⟨b0, hb0, rfl⟩ := hi
    split at h
    · rename_i m since seen hlk
      have hmi := look_mem (hsub _ _ hlk)
      obtain ⟨b, hib, hit⟩ := I.objs _ hmi
      simp only at hib
      rw [hb0] at hib
      simp only [Value.pointer.injEq, Option.some.injEq, Addr.mk.injEq, and_true] at hib
      subst hib
      split at h
      · rename_i mt ka va k v l c nl hlm
        obtain ⟨hcs, h1⟩ := bif_some h
        clear h
        have hcs := Nat.eq_of_beq_eq_true hcs
        subst hcs
        have hmm := look_mem (hsub _ _ hlm)
        rcases I.objs _ hmm with ⟨_, hm, rfl, rfl⟩ | ⟨rr, es, hm, hg, hl, hb, hn⟩
        · simp only at hm
          simp only [notSeen] at h1
          rcases hit with ⟨_, hg⟩ | ⟨_, e, _⟩
          · refine Good.pure I (v := .tuple #[.bool false]) ?_ h1 ⟨_, rfl, rfl, trivial⟩
            simp [Instr.next, run_getObj_iter hg]
          · rw [hm] at e; cases e
        · simp only at hm
          rcases hit with ⟨e, _⟩ | ⟨r2, e, hgi⟩
          · rw [hm] at e; cases e
          · rw [hm] at e
            simp only [Value.map.injEq, Option.some.injEq] at e
            subst e
            have hleft : all2 (entRel w (C.F hd S) ka va k v) (notSeen seen l) (leftOf es seen.toArray).toList := by
              have := notSeen_ok (seen := seen) hl
              simpa [leftOf] using this
            rcases run_next_at (P := C.P) w ty b0 rr c c seen.toArray es c hgi hg hb (Nat.le_refl _) with ⟨h0, hrun⟩ | ⟨e, he, w1, hw1, hrun⟩
            · have hnil : notSeen seen l = [] := List.eq_nil_of_length_eq_zero (by rw [hleft.len]; simpa using h0)
              rw [hnil] at h1
              exact Good.pure I (v := .tuple #[.bool false]) hrun h1 ⟨_, rfl, rfl, trivial⟩
            · obtain ⟨j, hj, hje⟩ := List.mem_iff_getElem.1 he
              cases hns : notSeen seen l with
              | nil => rw [hns] at hleft; have := hleft.len; simp at this hj; omega
              | cons x0 rest =>
                rw [hns] at h1 hleft
                have hjl : j < rest.length + 1 := by have := hleft.len; simp only [List.length_cons] at this; omega
                have h2 := allJ_ok h1 j hjl
                split at h2
                · rename_i x hx
                  have hrel := hleft.get j x e hx (by rw [List.getElem?_eq_getElem hj, hje])
                  have on : On w (setBlock w1 b0 (.mapIter (some rr) c (seen.toArray.push e.born) c)) := by
                    rcases hw1 with rfl | rfl
                    · exact on_setBlock _ _ _
                    · exact (on_drew w).trans (on_setBlock _ _ _)
                  have hother : ∀ b, b ≠ b0 → (setBlock w1 b0 (.mapIter (some rr) c (seen.toArray.push e.born) c)).heap[b]? = w.heap[b]? := by
                    intro b hbn
                    rw [setBlock_other hbn]
                    rcases hw1 with rfl | rfl <;> rfl
                  have hat : (setBlock w1 b0 (.mapIter (some rr) c (seen.toArray.push e.born) c)).heap[b0]? = some (.mapIter (some rr) c (seen.toArray.push e.born) c) := by
                    refine setBlock_at (o := .mapIter (some rr) c seen.toArray c) ?_
                    rcases hw1 with rfl | rfl <;> exact hgi
                  have hlies : Lies hd S i b0 := ⟨⟨_, hmi⟩, by rw [hb0]; rfl⟩
                  obtain ⟨I', kk⟩ := I.set i (.iter m c (seen ++ [x.1])) on (fun b _ hnl => hother b fun e => hnl (e ▸ hlies))
                    (fun _ => ⟨b0, hb0, .inr ⟨rr, hm, by rw [hat, hrel.1]; simp⟩⟩)
                  refine ⟨_, _, hd, _, _, hrun, h2, I', ⟨_, rfl, rfl, ?_, ?_, trivial⟩⟩
                  · exact valCv_ok (valRel.keep kk hrel.2.1)
                  · exact valCv_ok (valRel.keep kk hrel.2.2)
                · cases h2
      · cases h
    · cases h
  · cases h

theorem stampAt_ok {F : Nat → Prop} {ka va : Bool} {k v : Ty} {s : Nat} : ∀ {l : List (Nat × (k.den × v.den))} {es : List MapEntry} {e : Nat × (k.den × v.den)}, all2 (entRel w F ka va k v) l es → stampAt s l = some e →
    ∃ m, es.find? (·.born == s) = some m ∧ entRel w F ka va k v e m
  | [], _, _, _, h => by simp [stampAt] at h
  | x :: l, m :: es, e, hl, h => by
    simp only [stampAt] at h
    cases hb : Nat.beq x.1 s with
    | true =>
      have hb := Nat.eq_of_beq_eq_true hb
      simp only [hb, Nat.beq_refl, cond_true, Option.some.injEq] at h
      subst h
      exact ⟨m, by rw [List.find?_cons]; simp [hl.1.1, hb], hl.1⟩
    | false =>
      rw [hb] at h
      obtain ⟨m', h1, h2⟩ := stampAt_ok hl.2 h
      refine ⟨m', ?_, h2⟩
      rw [List.find?_cons]
      have : (m.born == s) = false := by rw [hl.1.1]; simpa using beq_ne hb
      simp [this, h1]
  | _ :: _, [], _, hl, _ => hl.elim

theorem mapEnt_good (I : Inv C hd S tmps w) (hsub : Sub lk S) {si : SS} {vi : Value} (hi : SSRel w (C.F hd S) hd si vi) {κ : SS → List Ef → Option R} {r : R} (h : mapEnt lk si (fun v => κ v []) = some r) :
    Good C S tmps κ r ((Instr.entry vi).run C.P w) := by
  unfold mapEnt at h
  split at h
  · rename_i i
    obtain ⟨b0, hb0, rfl⟩ := hi
    split at h
    · rename_i m since seen hlk
      have hmi := look_mem (hsub _ _ hlk)
      obtain ⟨b, hib, hit⟩ := I.objs _ hmi
      simp only at hib
      rw [hb0] at hib
      simp only [Value.pointer.injEq, Option.some.injEq, Addr.mk.injEq, and_true] at hib
      subst hib
      split at h
      · rename_i mt ka va k v l c nl hlm
        obtain ⟨hcs, h1⟩ := bif_some h
        clear h
        have hcs := Nat.eq_of_beq_eq_true hcs
        subst hcs
        split at h1
        · rename_i s hs
          split at h1
          · rename_i e he
            have hmm := look_mem (hsub _ _ hlm)
            rcases I.objs _ hmm with ⟨_, hm, rfl, rfl⟩ | ⟨rr, es, hm, hg, hl, hb, hn⟩
            · simp [stampAt] at he
            · simp only at hm
              rcases hit with ⟨e2, _⟩ | ⟨r2, e2, hgi⟩
              · rw [hm] at e2; cases e2
              · rw [hm] at e2
                simp only [Value.map.injEq, Option.some.injEq] at e2
                subst e2
                obtain ⟨me, hf, hrel⟩ := stampAt_ok hl he
                have hback : seen.toArray.back? = some s := by simpa [Array.back?, List.getLast?_eq_getElem?] using hs
                have hf' : es.find? (·.born == s) = some me := by rw [← Array.find?_toList]; exact hf
                refine Good.pure I (v := .tuple #[me.key, me.val]) ?_ h1 ⟨_, rfl, valCv_ok hrel.2.1, valCv_ok hrel.2.2, trivial⟩
                simp [Instr.entry, run_getObj_iter hgi, hback, run_getObj_map hg, hf']
          · cases h1
        · cases h1
      · cases h
    · cases h
  · cases h

theorem new_bare (I : Inv C hd S tmps w) (d : Nat) (o : Ob) (v : Value) (hv : blk v = none) (hh : isHdl v = true) (ho : ∀ F', Keeps w w (C.F hd S) F' → ObRel w F' (upd hd d v) v o) :
    ∃ hd', Inv C hd' (S.renew d o) tmps w ∧ SSRel w (C.F hd' (S.renew d o)) hd' (.one (.own d)) v := by
  obtain ⟨I', _⟩ := I.renew (w' := w) d o v (On.refl w) (fun b hb => by rw [hv] at hb; cases hb) (fun _ _ _ => rfl) ho
  exact ⟨_, I', ⟨(upd_same _ _ _).symm, hh⟩⟩

theorem onesOf_ok {F : Nat → Prop} : ∀ {l : List SS} {cells : List SV} {vs : List Value}, onesOf l = some cells → all2 (SSRel w F hd) l vs → all2 (SVRel w F hd) cells vs
  | [], _, [], h, _ => by simp only [onesOf, Option.some.injEq] at h; subst h; trivial
  | .val (.one v) :: l, cells, x :: vs, h, hl => by
    simp only [onesOf, Option.map_eq_some_iff] at h
    obtain ⟨r, hr, rfl⟩ := h
    exact ⟨hl.1, onesOf_ok hr hl.2⟩
  | .val (.agg _) :: _, _, _, h, _ => by simp [onesOf] at h
  | .tup _ :: _, _, _, h, _ => by simp [onesOf] at h
  | [], _, _ :: _, _, hl => hl.elim
  | _ :: _, _, [], _, hl => hl.elim

theorem onesK_ok {F : Nat → Prop} : ∀ {cells : List SV} {vs : List Value}, all2 (SVRel w F hd) cells vs → all2 (SSRel w F hd) (onesK cells) vs
  | [], [], _ => trivial
  | _ :: _, _ :: _, h => ⟨h.1, onesK_ok h.2⟩
  | [], _ :: _, h => h.elim
  | _ :: _, [], h => h.elim

theorem makeFunc_good (I : Inv C hd S tmps w) {d f : Nat} {cells : List SV} {cs : Array Value} (hc : all2 (SVRel w (C.F hd S) hd) cells cs.toList) {κ : SS → List Ef → Option R} {r : R} (h : κ (.one (.own d)) [.renew d (.clo f (killCells d cells))] = some r) :
    Good C S tmps κ r ((Instr.makeFunc (.func f) #[] cs).run C.P w) := by
  obtain ⟨hd', I', hs⟩ := new_bare I d (.clo f (killCells d cells)) (.func (.func f) #[] cs) rfl rfl (fun F' k => ⟨cs, rfl, all2_killCells k d (fun j hj => upd_ne _ hj) hc⟩)
  exact ⟨_, _, hd', _, _, by simp [Instr.makeFunc], h, I', hs⟩

theorem nilK_ok [DecidableEq R] {α : Type} {l : List α} {κ : Bool → Option R} {r : R} (h : nilK l κ = some r) : κ false = some r ∧ (l = [] → κ true = some r) := by
  unfold nilK at h
  split at h
  · obtain ⟨h1, h2⟩ := agree_ok h; exact ⟨h2, fun _ => h1⟩
  · exact ⟨h, fun e => by cases e⟩

/-- What '== nil' says of a value. -/
def isNilValue : Value → Bool
  | .slice none _ _ | .pointer none | .map none => true
  | _ => false

theorem isNilV_ok [DecidableEq R] {q : Nat} (I : Inv C hd S tmps w) (hsub : Sub lk S) {sx : SS} {vx : Value} (hx : SSRel w (C.F hd S) hd sx vx) {κ : Bool → Option R} {r : R} (h : isNilV q lk sx κ = some r) :
    κ (isNilValue vx) = some r ∧ ((q = 0 ∧ ∃ a n c, vx = .slice a n c) ∨ (q = 1 ∧ ∃ p, vx = .pointer p) ∨ (q = 2 ∧ ∃ m, vx = .map m)) := by
  unfold isNilV at h
  split at h
  · obtain ⟨hq, h⟩ := bif_some h
    cases hx; exact ⟨h, .inl ⟨Nat.eq_of_beq_eq_true hq, _, _, _, rfl⟩⟩
  · rename_i t l
    obtain ⟨hq, h⟩ := bif_some h
    have hq := Nat.eq_of_beq_eq_true hq
    obtain ⟨h1, h2⟩ := nilK_ok h
    rcases hx with ⟨⟨p, rfl⟩, hl⟩ | ⟨b, off, cap, xs, rfl, _⟩
    · cases p with
      | none => exact ⟨h2 hl, .inl ⟨hq, _, _, _, rfl⟩⟩
      | some a => exact ⟨h1, .inl ⟨hq, _, _, _, rfl⟩⟩
    · exact ⟨h1, .inl ⟨hq, _, _, _, rfl⟩⟩
  · rename_i i
    obtain ⟨rfl, _⟩ := hx
    split at h
    · rename_i e t l hlk
      obtain ⟨hq, h⟩ := bif_some h
      have hq := Nat.eq_of_beq_eq_true hq
      obtain ⟨h1, h2⟩ := nilK_ok h
      obtain ⟨xs, ho, _⟩ := I.objs _ (look_mem (hsub _ _ hlk))
      simp only at ho
      rcases ho.2 with ⟨e1, e2⟩ | ⟨g, cap, cur, e1, _⟩
      · rw [e1]; exact ⟨h2 (List.eq_nil_of_length_eq_zero e2), .inl ⟨hq, _, _, _, rfl⟩⟩
      · rw [e1]; exact ⟨h1, .inl ⟨hq, _, _, _, rfl⟩⟩
    · rename_i mt ka va k v l c hlk
      obtain ⟨hq, h⟩ := bif_some h
      have hq := Nat.eq_of_beq_eq_true hq
      rcases I.objs _ (look_mem (hsub _ _ hlk)) with ⟨hf, _⟩ | ⟨rr, es, hm, _⟩
      · cases hf
      · simp only at hm
        rw [hm]
        exact ⟨h, .inr (.inr ⟨hq, _, rfl⟩)⟩
    · cases h
  · rename_i i n off len
    obtain ⟨hq, h⟩ := bif_some h
    have hq := Nat.eq_of_beq_eq_true hq
    rcases hx with ⟨_, _, _, hl⟩ | ⟨b, o, L, C', cap, _, rfl, _⟩
    · cases hl
    · exact ⟨h, .inl ⟨hq, _, _, _, rfl⟩⟩
  · rename_i i o
    obtain ⟨hq, h⟩ := bif_some h
    have hq := Nat.eq_of_beq_eq_true hq
    obtain ⟨b, _, rfl⟩ := hx
    exact ⟨h, .inr (.inl ⟨hq, _, rfl⟩)⟩
  · obtain ⟨hq, h⟩ := bif_some h
    have hq := Nat.eq_of_beq_eq_true hq
    obtain ⟨b, o, cs, rfl, _⟩ := hx
    exact ⟨h, .inr (.inl ⟨hq, _, rfl⟩)⟩
  · obtain ⟨hq, h⟩ := bif_some h
    have hq := Nat.eq_of_beq_eq_true hq
    cases hx; exact ⟨h, .inr (.inl ⟨hq, _, rfl⟩)⟩
  · cases h

theorem run_equal_nil {P : Program} {t : TypeId} {v x : Value} (hk : nilKind P t = nilOf v) (h : (nilKind P t = 0 ∧ ∃ a n c, x = .slice a n c) ∨ (nilKind P t = 1 ∧ ∃ p, x = .pointer p) ∨ (nilKind P t = 2 ∧ ∃ m, x = .map m)) :
    (Op.equal t x v).run P w = .ok (isNilValue x) w := by
  unfold nilKind at hk h
  split at hk
  · rename_i e hu
    simp only [hu] at h
    rcases h with ⟨_, a, n, c, rfl⟩ | ⟨h, _⟩ | ⟨h, _⟩
    · unfold nilOf at hk
      split at hk <;> (try (cases hk; done))
      rw [run_equal_slice_nil w t e a n c hu]
      cases a <;> rfl
    · cases h
    · cases h
  · rename_i e hu
    simp only [hu] at h
    rcases h with ⟨h, _⟩ | ⟨_, p, rfl⟩ | ⟨h, _⟩
    · cases h
    · unfold nilOf at hk
      split at hk <;> (try (cases hk; done))
      rw [run_equal_pointer_nil w t p (by rw [hu]; simp [Program.pointee, hu])]
      cases p <;> rfl
    · cases h
  · rename_i k e hu
    simp only [hu] at h
    rcases h with ⟨h, _⟩ | ⟨h, _⟩ | ⟨_, m, rfl⟩
    · cases h
    · cases h
    · unfold nilOf at hk
      split at hk <;> (try (cases hk; done))
      rw [run_equal_map_nil w t k e m hu]
      cases m <;> rfl
  · exfalso
    unfold nilOf at hk
    split at hk <;> cases hk

theorem actN_good [DecidableEq R] (I : Inv C hd S tmps w) (hsub : Sub lk S) (ds : List Deferred) {op : Op} {dst : Option Tmp} {type : TypeId} {pos : String} {after : Array Edge} {guard : Option (Nat × Bool)} {κ : SS → List Ef → Option R} {r : R}
    (h : actN C.P (rd S) lk op κ = some r) : ∃ res : Result Value, Good C S tmps κ r res ∧ (execOp ({ tmps, defers := ds } : Act).eval { dst, op, type, pos, after, guard }).run C.P w = res.andThen fun v w' => .ok (.value v) w' := by
  unfold actN at h
  split at h
  · rename_i it
    exact ⟨_, mapNext_good (ty := type) I hsub (I.rd it ds) h, by simp [execOp]⟩
  · rename_i t x v yt
    obtain ⟨hk, h⟩ := bif_some h
    have hk := Nat.eq_of_beq_eq_true hk
    obtain ⟨h1, h2⟩ := isNilV_ok I hsub (I.rd x ds) h
    refine ⟨_, Good.pure I (v := .bool (isNilValue (({ tmps, defers := ds } : Act).eval x))) rfl h1 (rfl : _ = _), ?_⟩
    have he := run_equal_nil (w := w) hk h2
    have hg := guard_plain (w := w) C.P .eql t x (.const v) (({ tmps, defers := ds } : Act).eval x) v (by rcases h2 with ⟨_, a, n, c, e⟩ | ⟨_, p, e⟩ | ⟨_, m, e⟩ <;> rw [e] <;> simp) (by rcases h2 with ⟨_, a, n, c, e⟩ | ⟨_, p, e⟩ | ⟨_, m, e⟩ <;> rw [e] <;> simp)
    have hv : ({ tmps, defers := ds } : Act).eval (.const v) = v := rfl
    have hb : (Go.binOp .eql t (({ tmps, defers := ds } : Act).eval x) v).run C.P w = .ok (.bool (isNilValue (({ tmps, defers := ds } : Act).eval x))) w := by
      rcases h2 with ⟨_, a, n, c, e⟩ | ⟨_, p, e⟩ | ⟨_, m, e⟩ <;> rw [e] at he ⊢ <;> simp [Go.binOp, he]
    simp only [execOp, hv, Sem.run_bind, hg, Result.andThen_ok, hb, Sem.run_pure]
  · rename_i t x v yt
    obtain ⟨hk, h⟩ := bif_some h
    have hk := Nat.eq_of_beq_eq_true hk
    obtain ⟨h1, h2⟩ := isNilV_ok I hsub (I.rd x ds) h
    refine ⟨_, Good.pure I (v := .bool (!isNilValue (({ tmps, defers := ds } : Act).eval x))) rfl h1 (rfl : _ = _), ?_⟩
    have he := run_equal_nil (w := w) hk h2
    have hg := guard_plain (w := w) C.P .neq t x (.const v) (({ tmps, defers := ds } : Act).eval x) v (by rcases h2 with ⟨_, a, n, c, e⟩ | ⟨_, p, e⟩ | ⟨_, m, e⟩ <;> rw [e] <;> simp) (by rcases h2 with ⟨_, a, n, c, e⟩ | ⟨_, p, e⟩ | ⟨_, m, e⟩ <;> rw [e] <;> simp)
    have hv : ({ tmps, defers := ds } : Act).eval (.const v) = v := rfl
    have hb : (Go.binOp .neq t (({ tmps, defers := ds } : Act).eval x) v).run C.P w = .ok (.bool (!isNilValue (({ tmps, defers := ds } : Act).eval x))) w := by
      rcases h2 with ⟨_, a, n, c, e⟩ | ⟨_, p, e⟩ | ⟨_, m, e⟩ <;> rw [e] at he ⊢ <;> simp [Go.binOp, he]
    simp only [execOp, hv, Sem.run_bind, hg, Result.andThen_ok, hb, Sem.run_pure]
  · cases h

end
end Go.Sh
