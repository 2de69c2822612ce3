/-
  A region that draws its order, II: every order. No project text.
-/
import Derived.Test.YtkmbehagofjmbaaGreatShDraw
namespace Go.Sh

section
variable {R : Type} {P : Program} {E : Sums R} {all : Array Oper}

theorem put_nth : ∀ (l : List SS) (t : Nat), put l t (nth l t) = l
  | [], _ => rfl
  | _ :: _, 0 => rfl
  | x :: l, t + 1 => by simp only [put, nth, put_nth l t]

theorem nth_put_ne : ∀ (l : List SS) (s : SS) {t u : Nat}, t ≠ u → nth (put l t s) u = nth l u
  | [], _, _, _, _ => rfl
  | _ :: _, _, 0, 0, h => absurd rfl h
  | _ :: _, _, 0, _ + 1, _ => rfl
  | _ :: _, _, _ + 1, 0, _ => rfl
  | _ :: l, s, t + 1, u + 1, h => nth_put_ne l s (by omega)

theorem put_comm : ∀ (l : List SS) (a b : SS) {t u : Nat}, t ≠ u → put (put l t a) u b = put (put l u b) t a
  | [], _, _, _, _, _ => rfl
  | _ :: _, _, _, 0, 0, h => absurd rfl h
  | _ :: _, _, _, 0, _ + 1, _ => rfl
  | _ :: _, _, _, _ + 1, 0, _ => rfl
  | x :: l, a, b, t + 1, u + 1, h => by simp only [put, put_comm l a b (show t ≠ u by omega)]

theorem same_put {S : St} {t : Nat} {s : SS} (h : nth S.slots t = s) : ({ S with slots := put S.slots t s } : St) = S := by
  subst h; rw [put_nth]

theorem setDst_objs (o : Oper) (v : SS) (S : St) : (setDst o v S).objs = S.objs := by
  unfold setDst; split <;> rfl

theorem setDst_comm {a b : Oper} (h : a.apart all b = true) (u v : SS) (S : St) : setDst b v (setDst a u S) = setDst a u (setDst b v S) := by
  obtain ⟨_, h2, _⟩ := Oper.apart_spec h
  unfold setDst
  cases ha : a.dst with
  | none => simp only
  | some d =>
    cases hb : b.dst with
    | none => rfl
    | some e =>
      have hne : d ≠ e := fun he => h2 d ha (by rw [hb, he])
      simp only [put_comm _ _ _ hne]

/- What is forgotten. -/

def killAllS : List Nat → SS → SS
  | [], s => s
  | i :: l, s => killAllS l (s.killed i)

def killAllO : List Nat → Ob → Ob
  | [], o => o
  | i :: l, o => killAllO l (o.killed i)

theorem killAllSlots_append : ∀ (a b : List Nat) (s : List SS), killAllSlots (a ++ b) s = killAllSlots b (killAllSlots a s)
  | [], _, _ => rfl
  | _ :: a, b, s => killAllSlots_append a b _

theorem apps_slots : ∀ (es : List Ef) (S : St), (apps es S).slots = killAllSlots (killsE es) S.slots
  | [], _ => rfl
  | .drop i :: es, S => apps_slots es (S.drop i)
  | .renew i o :: es, S => apps_slots es (S.renew i o)
  | .set i o :: es, S => apps_slots es { S with objs := setOb i o S.objs }
  | .bulk ks ins news :: es, S => by
    rw [show apps (.bulk ks ins news :: es) S = apps es (Ef.app (.bulk ks ins news) S) from rfl, apps_slots es]
    simp only [killsE, Ef.kills, Ef.app]
    rw [killAllSlots_append (ks ++ idsOf news)]

theorem nth_killSlots (i : Nat) : ∀ (l : List SS) (t : Nat), nth (killSlots i l) t = (nth l t).killed i
  | [], _ => rfl
  | _ :: _, 0 => rfl
  | _ :: l, t + 1 => nth_killSlots i l t

theorem nth_killAll : ∀ (ks : List Nat) (l : List SS) (t : Nat), nth (killAllSlots ks l) t = killAllS ks (nth l t)
  | [], _, _ => rfl
  | i :: ks, l, t => by simp only [killAllSlots, killAllS, nth_killAll ks, nth_killSlots]

theorem put_killSlots (i : Nat) (v : SS) : ∀ (l : List SS) (t : Nat), killSlots i (put l t v) = put (killSlots i l) t (v.killed i)
  | [], _ => rfl
  | _ :: _, 0 => rfl
  | x :: l, t + 1 => by simp only [put, killSlots, put_killSlots i v l t]

theorem put_killAll : ∀ (ks : List Nat) (v : SS) (l : List SS) (t : Nat), killAllSlots ks (put l t v) = put (killAllSlots ks l) t (killAllS ks v)
  | [], _, _, _ => rfl
  | i :: ks, v, l, t => by simp only [killAllSlots, killAllS, put_killSlots, put_killAll ks]

theorem apps_objs : ∀ (es : List Ef) (S S1 : St), S1.objs = S.objs → (apps es S1).objs = (apps es S).objs
  | [], _, _, h => h
  | .drop i :: es, S, S1, h => apps_objs es (S.drop i) (S1.drop i) (by simp only [St.drop, h])
  | .renew i o :: es, S, S1, h => apps_objs es (S.renew i o) (S1.renew i o) (by simp only [St.renew, h])
  | .set i o :: es, S, S1, h => apps_objs es { S with objs := setOb i o S.objs } { S1 with objs := setOb i o S1.objs } (by show setOb i o S1.objs = setOb i o S.objs; rw [h])
  | .bulk ks ins news :: es, S, S1, h => apps_objs es (Ef.app (.bulk ks ins news) S) (Ef.app (.bulk ks ins news) S1) (by simp only [Ef.app, h])

theorem apps_pins : ∀ (es : List Ef) (S S1 : St), S1.pins = S.pins → (apps es S1).pins = (apps es S).pins
  | [], _, _, h => h
  | .drop i :: es, S, S1, h => apps_pins es (S.drop i) (S1.drop i) (by simp only [St.drop, h])
  | .renew i o :: es, S, S1, h => apps_pins es (S.renew i o) (S1.renew i o) (by simp only [St.renew, h])
  | .set i o :: es, S, S1, h => apps_pins es { S with objs := setOb i o S.objs } { S1 with objs := setOb i o S1.objs } h
  | .bulk ks ins news :: es, S, S1, h => apps_pins es (Ef.app (.bulk ks ins news) S) (Ef.app (.bulk ks ins news) S1) (by simp only [Ef.app, h])

theorem look_setOb {i j : Nat} {o : Ob} (h : j ≠ i) : ∀ l : List (Nat × Ob), look (setOb i o l) j = look l j
  | [] => rfl
  | (k, p) :: l => by
    simp only [setOb]
    cases hb : Nat.beq k i with
    | true =>
      have e := Nat.eq_of_beq_eq_true hb
      have : Nat.beq k j = false := by
        cases hk : Nat.beq k j with
        | false => rfl
        | true => exact absurd ((Nat.eq_of_beq_eq_true hk).symm.trans e) h
      simp only [cond_true, look, this, cond_false]
    | false => simp only [cond_false, look, look_setOb h l]

theorem mem_idsOf {i : Nat} {o : Ob} : ∀ {l : List (Nat × Ob)}, (i, o) ∈ l → i ∈ idsOf l
  | (_, _) :: l, h => by
    rcases List.mem_cons.1 h with h | h
    · cases h; exact .head _
    · exact .tail _ (mem_idsOf h)

theorem look_setObs {j : Nat} : ∀ (ins l : List (Nat × Ob)), j ∉ idsOf ins → look (setObs ins l) j = look l j
  | [], _, _ => rfl
  | (i, o) :: ins, l, h => by
    simp only [idsOf, List.mem_cons, not_or] at h
    simp only [setObs, look_setObs ins _ h.2, look_setOb h.1]

theorem look_app {j : Nat} : ∀ (news l : List (Nat × Ob)), j ∉ idsOf news → look (news ++ l) j = look l j
  | [], _, _ => rfl
  | (i, o) :: news, l, h => by
    simp only [idsOf, List.mem_cons, not_or] at h
    have hb : Nat.beq i j = false := by
      cases hb : Nat.beq i j with
      | false => rfl
      | true => exact absurd (Nat.eq_of_beq_eq_true hb).symm h.1
    simp only [List.cons_append, look, hb, cond_false, look_app news l h.2]

theorem look_killAll {j : Nat} : ∀ (ks : List Nat) (l : List (Nat × Ob)), j ∉ ks → look (killAllObjs ks l) j = (look l j).map (killAllO ks)
  | [], l, _ => by show look l j = (look l j).map (killAllO []); cases look l j <;> rfl
  | i :: ks, l, h => by
    simp only [List.mem_cons, not_or] at h
    simp only [killAllObjs, look_killAll ks _ h.2, look_killObjs (Ne.symm h.1), Option.map_map]
    rfl

theorem killAllO_append : ∀ (a b : List Nat) (o : Ob), killAllO (a ++ b) o = killAllO b (killAllO a o)
  | [], _, _ => rfl
  | _ :: a, b, o => killAllO_append a b _

theorem look_apps {j : Nat} : ∀ (es : List Ef) (S : St), j ∉ killsE es → j ∉ setsE es → look (apps es S).objs j = (look S.objs j).map (killAllO (killsE es))
  | [], S, _, _ => by show look S.objs j = (look S.objs j).map (killAllO []); cases look S.objs j <;> rfl
  | .drop i :: es, S, hk, hs => by
    simp only [killsE, Ef.kills, List.singleton_append, List.mem_cons, not_or] at hk
    simp only [setsE, Ef.sets, List.nil_append] at hs
    rw [show apps (.drop i :: es) S = apps es (S.drop i) from rfl, look_apps es _ hk.2 hs]
    simp only [St.drop, look_killObjs (Ne.symm hk.1), Option.map_map]
    rfl
  | .renew i o :: es, S, hk, hs => by
    simp only [killsE, Ef.kills, List.singleton_append, List.mem_cons, not_or] at hk
    simp only [setsE, Ef.sets, List.nil_append] at hs
    rw [show apps (.renew i o :: es) S = apps es (S.renew i o) from rfl, look_apps es _ hk.2 hs]
    have hb : Nat.beq i j = false := by
      cases hb : Nat.beq i j with
      | false => rfl
      | true => exact absurd (Nat.eq_of_beq_eq_true hb).symm hk.1
    simp only [St.renew, look, hb, cond_false, look_killObjs (Ne.symm hk.1), Option.map_map]
    rfl
  | .set i o :: es, S, hk, hs => by
    simp only [killsE, Ef.kills, List.nil_append] at hk
    simp only [setsE, Ef.sets, List.singleton_append, List.mem_cons, not_or] at hs
    rw [show apps (.set i o :: es) S = apps es { S with objs := setOb i o S.objs } from rfl, look_apps es _ hk hs.2, look_setOb hs.1]
    rfl
  | .bulk ks ins news :: es, S, hk, hs => by
    simp only [killsE, Ef.kills, List.mem_append, not_or] at hk
    simp only [setsE, Ef.sets, List.mem_append, not_or] at hs
    rw [show apps (.bulk ks ins news :: es) S = apps es (Ef.app (.bulk ks ins news) S) from rfl, look_apps es _ hk.2 hs.2]
    simp only [Ef.app, look_app _ _ hk.1.2, look_setObs _ _ hs.1]
    rw [look_killAll _ _ (by simp only [List.mem_append, not_or]; exact hk.1), Option.map_map]
    simp only [killsE, Ef.kills]
    congr 1
    funext o
    exact (killAllO_append _ _ _).symm

theorem disj_spec {a b : List Nat} (h : disj a b = true) : ∀ i ∈ a, i ∉ b := by
  intro i hi hb
  have := List.all_eq_true.1 h i hi
  rw [mem_memN hb] at this
  cases this

/- What is alive behind a forgetting was not touched by it. -/

theorem SV.killed_alive {i : Nat} {v : SV} (h : (v.killed i).alive = true) : v.killed i = v := by
  rcases (SV.killed_ref i v).2 with h1 | h1
  · rw [h1] at h; cases h
  · exact h1

theorem cells_alive {i : Nat} : ∀ {l : List SV}, cellsAlive (killCells i l) = true → killCells i l = l
  | [], _ => rfl
  | v :: l, h => by
    simp only [killCells, cellsAlive, Bool.and_eq_true] at h ⊢
    rw [SV.killed_alive h.1, cells_alive h.2]

theorem Cv.killed_alive {i : Nat} {c : Cv} (h : (c.killed i).alive = true) : c.killed i = c := by
  cases c with
  | one v => simp only [Cv.killed] at h ⊢; rw [SV.killed_alive h]
  | agg l => simp only [Cv.killed] at h ⊢; rw [cells_alive h]

theorem cvs_alive {i : Nat} : ∀ {l : List Cv}, cvsAlive (killCvs i l) = true → killCvs i l = l
  | [], _ => rfl
  | c :: l, h => by
    simp only [killCvs, cvsAlive, Bool.and_eq_true] at h ⊢
    rw [Cv.killed_alive h.1, cvs_alive h.2]

theorem SS.killed_alive {i : Nat} {s : SS} (h : (s.killed i).alive = true) : s.killed i = s := by
  cases s with
  | val c => simp only [SS.killed] at h ⊢; rw [Cv.killed_alive h]
  | tup l => simp only [SS.killed] at h ⊢; rw [cvs_alive h]

theorem Ob.killed_alive {i : Nat} {o : Ob} (h : (o.killed i).alive = true) : o.killed i = o := by
  cases o with
  | box l => exact congrArg Ob.box (cells_alive h)
  | arr e t l => rfl
  | clo g l => exact congrArg (Ob.clo g) (cells_alive h)
  | ifc t v => exact congrArg (Ob.ifc t) (SV.killed_alive h)
  | map mt ka va k v l c nl => rfl
  | iter m a b =>
    simp only [Ob.killed] at h ⊢
    cases hb : Nat.beq m i with
    | true => rw [hb] at h; cases h
    | false => rfl
  | gone => rfl

theorem SV.dead_killed (i : Nat) (v : SV) (h : v.alive = false) : (v.killed i).alive = false := by cases v <;> first | rfl | exact absurd h (by simp [SV.alive])

theorem cells_dead (i : Nat) : ∀ l : List SV, cellsAlive l = false → cellsAlive (killCells i l) = false
  | v :: l, h => by
    simp only [killCells, cellsAlive, Bool.and_eq_false_iff] at h ⊢
    rcases h with h | h
    · exact .inl (SV.dead_killed i v h)
    · exact .inr (cells_dead i l h)

theorem Cv.dead_killed (i : Nat) (c : Cv) (h : c.alive = false) : (c.killed i).alive = false := by
  cases c with
  | one v => exact SV.dead_killed i v h
  | agg l => exact cells_dead i l h

theorem cvs_dead (i : Nat) : ∀ l : List Cv, cvsAlive l = false → cvsAlive (killCvs i l) = false
  | c :: l, h => by
    simp only [killCvs, cvsAlive, Bool.and_eq_false_iff] at h ⊢
    rcases h with h | h
    · exact .inl (Cv.dead_killed i c h)
    · exact .inr (cvs_dead i l h)

theorem SS.dead_killed (i : Nat) (s : SS) (h : s.alive = false) : (s.killed i).alive = false := by
  cases s with
  | val c => exact Cv.dead_killed i c h
  | tup l => exact cvs_dead i l h

theorem Ob.dead_killed (i : Nat) (o : Ob) (h : o.alive = false) : (o.killed i).alive = false := by
  cases o with
  | box l => exact cells_dead i l h
  | arr e t l => cases h
  | clo g l => exact cells_dead i l h
  | ifc t v => exact SV.dead_killed i v h
  | map mt ka va k v l c nl => cases h
  | iter m a b => cases h
  | gone => rfl

theorem killAllS_alive : ∀ {ks : List Nat} {s : SS}, (killAllS ks s).alive = true → killAllS ks s = s
  | [], _, _ => rfl
  | i :: ks, s, h => by
    have h1 := killAllS_alive (ks := ks) h
    simp only [killAllS] at h ⊢
    rw [h1] at h ⊢
    exact SS.killed_alive h

theorem killAllO_alive : ∀ {ks : List Nat} {o : Ob}, (killAllO ks o).alive = true → killAllO ks o = o
  | [], _, _ => rfl
  | i :: ks, o, h => by
    have h1 := killAllO_alive (ks := ks) h
    simp only [killAllO] at h ⊢
    rw [h1] at h ⊢
    exact Ob.killed_alive h

/- What does not refer to it is not touched. -/

theorem SV.killed_free {i : Nat} {v : SV} (h : v.ref ≠ some i) : v.killed i = v := by
  cases v <;> simp only [SV.killed] <;> first
    | rfl
    | (rename_i j; cases hb : Nat.beq j i with
       | true => exact absurd (congrArg some (Nat.eq_of_beq_eq_true hb)) h
       | false => rfl)
    | (rename_i j _; cases hb : Nat.beq j i with
       | true => exact absurd (congrArg some (Nat.eq_of_beq_eq_true hb)) h
       | false => rfl)
    | (rename_i j _ _ _; cases hb : Nat.beq j i with
       | true => exact absurd (congrArg some (Nat.eq_of_beq_eq_true hb)) h
       | false => rfl)
    | (rename_i j _ _ _ _; cases hb : Nat.beq j i with
       | true => exact absurd (congrArg some (Nat.eq_of_beq_eq_true hb)) h
       | false => rfl)
    | (rename_i j _ _ _ _ _; cases hb : Nat.beq j i with
       | true => exact absurd (congrArg some (Nat.eq_of_beq_eq_true hb)) h
       | false => rfl)

theorem cells_free {i : Nat} : ∀ {l : List SV}, i ∉ cellRefs l → killCells i l = l
  | [], _ => rfl
  | v :: l, h => by
    simp only [cellRefs] at h
    simp only [killCells]
    cases hr : v.ref with
    | none => rw [hr] at h; rw [SV.killed_free (by rw [hr]; simp), cells_free h]
    | some j =>
      rw [hr] at h
      simp only [List.mem_cons, not_or] at h
      rw [SV.killed_free (by rw [hr]; simp only [ne_eq, Option.some.injEq]; exact fun e => h.1 e.symm), cells_free h.2]

theorem Cv.killed_free {i : Nat} {c : Cv} (h : i ∉ c.refs) : c.killed i = c := by
  cases c with
  | one v => have := cells_free (l := [v]) h; simp only [killCells, List.cons.injEq, and_true] at this; simp only [Cv.killed, this]
  | agg l => simp only [Cv.killed, cells_free (l := l) h]

theorem cvs_free {i : Nat} : ∀ {l : List Cv}, i ∉ cvsRefs l → killCvs i l = l
  | [], _ => rfl
  | c :: l, h => by
    simp only [cvsRefs, List.mem_append, not_or] at h
    simp only [killCvs, Cv.killed_free h.1, cvs_free h.2]

theorem SS.killed_free {i : Nat} {s : SS} (h : i ∉ s.refs) : s.killed i = s := by
  cases s with
  | val c => simp only [SS.killed, Cv.killed_free (c := c) h]
  | tup l => simp only [SS.killed, cvs_free (l := l) h]

theorem Ob.killed_free {i : Nat} {o : Ob} (h : i ∉ o.refs) : o.killed i = o := by
  cases o with
  | box l => exact congrArg Ob.box (cells_free h)
  | arr e t l => rfl
  | clo g l => exact congrArg (Ob.clo g) (cells_free h)
  | ifc t v =>
    have := cells_free (l := [v]) h
    simp only [killCells, List.cons.injEq, and_true] at this
    exact congrArg (Ob.ifc t) this
  | map mt ka va k v l c nl => rfl
  | iter m a b =>
    simp only [Ob.killed]
    cases hb : Nat.beq m i with
    | true => exact absurd (by rw [Nat.eq_of_beq_eq_true hb]; exact .head _) h
    | false => rfl
  | gone => rfl

theorem killAllS_free : ∀ {ks : List Nat} {s : SS}, (∀ i ∈ s.refs, i ∉ ks) → killAllS ks s = s
  | [], _, _ => rfl
  | i :: ks, s, h => by
    have h1 : s.killed i = s := SS.killed_free fun hi => h i hi (.head _)
    simp only [killAllS, h1]
    exact killAllS_free fun j hj hjk => h j hj (.tail _ hjk)

theorem killAllO_free : ∀ {ks : List Nat} {o : Ob}, (∀ i ∈ o.refs, i ∉ ks) → killAllO ks o = o
  | [], _, _ => rfl
  | i :: ks, o, h => by
    have h1 : o.killed i = o := Ob.killed_free fun hi => h i hi (.head _)
    simp only [killAllO, h1]
    exact killAllO_free fun j hj hjk => h j hj (.tail _ hjk)

theorem ssRefs_mem {s : SS} : ∀ {l : List SS}, s ∈ l → ∀ i ∈ s.refs, i ∈ ssRefs l
  | x :: l, h, i, hi => by
    simp only [ssRefs, List.mem_append]
    rcases List.mem_cons.1 h with rfl | h
    · exact .inl hi
    · exact .inr (ssRefs_mem h i hi)

theorem ssAlive_mem : ∀ {l : List SS}, ssAlive l = true → ∀ s ∈ l, s.alive = true
  | x :: l, h, s, hs => by
    simp only [ssAlive, Bool.and_eq_true] at h
    rcases List.mem_cons.1 hs with rfl | hs
    · exact h.1
    · exact ssAlive_mem h.2 s hs

end
end Go.Sh
