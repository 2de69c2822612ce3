/-
  Contracts over the shadow evaluator, II: a state behind a call. No project text.
-/
import Derived.Test.YtkmbehagofjmbaaGreatShCon
namespace Go.Sh

theorem cellRefs_killed {i j : Nat} : ∀ {l : List SV}, j ∈ cellRefs (killCells i l) → j ≠ i ∧ j ∈ cellRefs l
  | v :: l, h => by
    simp only [killCells, cellRefs] at h ⊢
    have hv := SV.killed_ref i v
    have key : j ∈ cellRefs (killCells i l) → j ≠ i ∧ j ∈ (match v.ref with | some i => i :: cellRefs l | none => cellRefs l) := by
      intro h
      obtain ⟨h1, h2⟩ := cellRefs_killed h
      refine ⟨h1, ?_⟩
      split
      · exact .tail _ h2
      · exact h2
    split at h
    · rename_i k hk
      rcases List.mem_cons.1 h with rfl | h
      · refine ⟨fun e => hv.1 (by rw [hk, e]), ?_⟩
        rcases hv.2 with h2 | h2
        · rw [h2] at hk; cases hk
        · rw [h2] at hk; rw [hk]; exact .head _
      · exact key h
    · exact key h

theorem Cv.refs_killed {i j : Nat} {c : Cv} (h : j ∈ (c.killed i).refs) : j ≠ i ∧ j ∈ c.refs := by
  cases c with
  | one v => exact cellRefs_killed (l := [v]) h
  | agg l => exact cellRefs_killed (l := l) h

theorem cvsRefs_killed {i j : Nat} : ∀ {l : List Cv}, j ∈ cvsRefs (killCvs i l) → j ≠ i ∧ j ∈ cvsRefs l
  | c :: l, h => by
    simp only [killCvs, cvsRefs, List.mem_append] at h ⊢
    rcases h with h | h
    · obtain ⟨h1, h2⟩ := Cv.refs_killed h; exact ⟨h1, .inl h2⟩
    · obtain ⟨h1, h2⟩ := cvsRefs_killed h; exact ⟨h1, .inr h2⟩

theorem SS.refs_killed {i j : Nat} {s : SS} (h : j ∈ (s.killed i).refs) : j ≠ i ∧ j ∈ s.refs := by
  cases s with
  | val c => exact Cv.refs_killed (c := c) h
  | tup l => exact cvsRefs_killed (l := l) h

theorem Ob.refs_killed {i j : Nat} {o : Ob} (h : j ∈ (o.killed i).refs) : j ≠ i ∧ j ∈ o.refs := by
  cases o with
  | box l => exact cellRefs_killed (l := l) h
  | arr e t l => exact absurd h (by simp [Ob.killed, Ob.refs])
  | clo g l => exact cellRefs_killed (l := l) h
  | ifc t v => exact cellRefs_killed (l := [v]) h
  | map mt ka va k v l c nl => exact absurd h (by simp [Ob.killed, Ob.refs])
  | iter m a b =>
    simp only [Ob.killed] at h
    cases hb : Nat.beq m i with
    | true => simp [hb, Ob.refs] at h
    | false =>
      simp only [hb, cond_false, Ob.refs, List.mem_singleton] at h
      subst h
      exact ⟨beq_ne hb, .head _⟩
  | gone => exact absurd h (by simp [Ob.killed, Ob.refs])

theorem killAllO_refs {j : Nat} : ∀ {K : List Nat} {o : Ob}, j ∈ (killAllO K o).refs → j ∉ K ∧ j ∈ o.refs
  | [], _, h => ⟨by simp, h⟩
  | i :: K, o, h => by
    obtain ⟨h1, h2⟩ := killAllO_refs (K := K) h
    obtain ⟨h3, h4⟩ := Ob.refs_killed h2
    exact ⟨by simp only [List.mem_cons, not_or]; exact ⟨h3, h1⟩, h4⟩

theorem killAllS_refs {j : Nat} : ∀ {K : List Nat} {s : SS}, j ∈ (killAllS K s).refs → j ∉ K ∧ j ∈ s.refs
  | [], _, h => ⟨by simp, h⟩
  | i :: K, s, h => by
    obtain ⟨h1, h2⟩ := killAllS_refs (K := K) h
    obtain ⟨h3, h4⟩ := SS.refs_killed h2
    exact ⟨by simp only [List.mem_cons, not_or]; exact ⟨h3, h1⟩, h4⟩

section
variable {w w' : World} {F F' : Nat → Prop} {hd hd' : Nat → Value}

theorem cells_keepR (k : Keeps w w' F F') : ∀ {l : List SV} {m : List Value}, (∀ i ∈ cellRefs l, hd' i = hd i) → all2 (SVRel w F hd) l m → all2 (SVRel w' F' hd') l m
  | [], [], _, _ => trivial
  | v :: l, x :: m, hr, h => by
    refine ⟨SVRel.keep k (fun i hi => hr i (by simp only [cellRefs, hi]; exact .head _)) h.1, cells_keepR k (fun i hi => hr i ?_) h.2⟩
    simp only [cellRefs]
    split
    · exact .tail _ hi
    · exact hi
  | [], _ :: _, _, h => h.elim
  | _ :: _, [], _, h => h.elim

theorem Cv_keepR (k : Keeps w w' F F') {c : Cv} {v : Value} (hr : ∀ i ∈ c.refs, hd' i = hd i) (h : CvRel w F hd c v) : CvRel w' F' hd' c v := by
  cases c with
  | one s => exact (cells_keepR k (l := [s]) (m := [v]) hr ⟨h, trivial⟩).1
  | agg l => obtain ⟨cs, hx, hl⟩ := h; exact ⟨cs, hx, cells_keepR k hr hl⟩

theorem cvs_keepR (k : Keeps w w' F F') : ∀ {l : List Cv} {m : List Value}, (∀ i ∈ cvsRefs l, hd' i = hd i) → all2 (CvRel w F hd) l m → all2 (CvRel w' F' hd') l m
  | [], [], _, _ => trivial
  | c :: l, v :: m, hr, h => ⟨Cv_keepR k (fun i hi => hr i (by simp only [cvsRefs, List.mem_append]; exact .inl hi)) h.1, cvs_keepR k (fun i hi => hr i (by simp only [cvsRefs, List.mem_append]; exact .inr hi)) h.2⟩
  | [], _ :: _, _, h => h.elim
  | _ :: _, [], _, h => h.elim

theorem SS_keepR (k : Keeps w w' F F') {s : SS} {v : Value} (hr : ∀ i ∈ s.refs, hd' i = hd i) (h : SSRel w F hd s v) : SSRel w' F' hd' s v := by
  cases s with
  | val c => exact Cv_keepR k (c := c) hr h
  | tup l => obtain ⟨vs, hx, hl⟩ := h; exact ⟨vs, hx, cvs_keepR k hr hl⟩

theorem Ob_keepR (k : Keeps w w' F F') {v : Value} {o : Ob} (hr : ∀ i ∈ o.refs, hd' i = hd i) (hb : ∀ b, blk v = some b → w'.heap[b]? = w.heap[b]?) (h : ObRel w F hd v o) : ObRel w' F' hd' v o := by
  cases o with
  | box cells => obtain ⟨b, cur, e, rfl, hg, hl⟩ := h; exact ⟨b, cur, e, rfl, by rw [hb b rfl]; exact hg, cells_keepR k hr hl⟩
  | arr e t l => obtain ⟨xs, ho, hx⟩ := h; exact ⟨xs, owns_keep ho hb, rows.mono (t.cells_keep k) hx⟩
  | clo g l => obtain ⟨cs, e, hl⟩ := h; exact ⟨cs, e, cells_keepR k hr hl⟩
  | ifc t c => obtain ⟨x, e, hl⟩ := h; exact ⟨x, e, (cells_keepR k (l := [c]) (m := [x]) hr ⟨hl, trivial⟩).1⟩
  | map mt ka va kt vt l c nl => exact map_keep k hb h
  | iter m s seen =>
    obtain ⟨b, rfl, h⟩ := h
    exact ⟨b, rfl, by rw [hr m (.head _), hb b rfl]; exact h⟩
  | gone =>
    intro b hb'
    exact gone_lt (hb b hb') (h b hb')

theorem kill_slots : ∀ (K : List Nat) {l : List SS} {m : List Value}, all2 (SSRel w F hd) l m → all2 (SSRel w F hd) (killAllSlots K l) m
  | [], _, _, h => h
  | i :: K, _, _, h => kill_slots K (all2_killSlots (Keeps.refl w F) i (fun _ _ => rfl) h)

theorem kill_objs : ∀ (K : List Nat) {o : Ob} {v : Value}, ObRel w F hd v o → ObRel w F hd v (killAllO K o)
  | [], _, _, h => h
  | i :: K, _, _, h => kill_objs K (ObRel.kill (Keeps.refl w F) i (fun _ _ => rfl) (fun _ _ => rfl) h)

theorem slots_keepR (k : Keeps w w' F F') : ∀ {l : List SS} {m : List Value}, (∀ s ∈ l, ∀ i ∈ s.refs, hd' i = hd i) → all2 (SSRel w F hd) l m → all2 (SSRel w' F' hd') l m
  | [], [], _, _ => trivial
  | s :: l, v :: m, hr, h => ⟨SS_keepR k (hr s (.head _)) h.1, slots_keepR k (fun s hs => hr s (.tail _ hs)) h.2⟩
  | [], _ :: _, _, h => h.elim
  | _ :: _, [], _, h => h.elim
end

theorem mem_killSlots {i : Nat} : ∀ {l : List SS} {s : SS}, s ∈ killSlots i l → ∃ s0 ∈ l, s = s0.killed i
  | x :: l, s, h => by
    simp only [killSlots, List.mem_cons] at h
    rcases h with rfl | h
    · exact ⟨x, .head _, rfl⟩
    · obtain ⟨s0, h1, h2⟩ := mem_killSlots h; exact ⟨s0, .tail _ h1, h2⟩

theorem mem_killAllSlots : ∀ (K : List Nat) {l : List SS} {s : SS}, s ∈ killAllSlots K l → ∃ s0 ∈ l, s = killAllS K s0
  | [], _, s, h => ⟨s, h, rfl⟩
  | i :: K, l, s, h => by
    obtain ⟨s1, h1, rfl⟩ := mem_killAllSlots K h
    obtain ⟨s0, h2, rfl⟩ := mem_killSlots h1
    exact ⟨s0, h2, rfl⟩

theorem mem_killAllObjs : ∀ (K : List Nat) {l : List (Nat × Ob)} {p : Nat × Ob}, p ∈ killAllObjs K l → p.1 ∉ K ∧ ∃ o, (p.1, o) ∈ l ∧ p.2 = killAllO K o
  | [], _, p, h => ⟨by simp, p.2, h, rfl⟩
  | i :: K, l, p, h => by
    obtain ⟨h1, o, h2, h3⟩ := mem_killAllObjs K h
    obtain ⟨h4, o', h5, h6⟩ := mem_killObjs h2
    simp only at h4 h5 h6
    exact ⟨by simp only [List.mem_cons, not_or]; exact ⟨h4, h1⟩, o', h5, by rw [h3, h6]; rfl⟩

theorem ids_killAllObjs : ∀ (K : List Nat) (l : List (Nat × Ob)), ((killAllObjs K l).map (·.1)).Sublist (l.map (·.1))
  | [], l => List.Sublist.refl _
  | i :: K, l => (ids_killAllObjs K (killObjs i l)).trans (ids_killObjs i l)

theorem mem_killAllPins : ∀ (K : List Nat) {l : List Nat} {i : Nat}, i ∈ killAllPins K l → i ∉ K ∧ i ∈ l
  | [], _, _, h => ⟨by simp, h⟩
  | j :: K, l, i, h => by
    obtain ⟨h1, h2⟩ := mem_killAllPins K h
    obtain ⟨h3, h4⟩ := mem_killPins h2
    exact ⟨by simp only [List.mem_cons, not_or]; exact ⟨h3, h1⟩, h4⟩

theorem idsOf_map (l : List (Nat × Ob)) : idsOf l = l.map (·.1) := by
  induction l with
  | nil => rfl
  | cons p l ih => obtain ⟨i, o⟩ := p; simp only [idsOf, ih, List.map_cons]

theorem ids_setObs : ∀ (ins l : List (Nat × Ob)), (setObs ins l).map (·.1) = l.map (·.1)
  | [], _ => rfl
  | (i, o) :: ins, l => by rw [show setObs ((i, o) :: ins) l = setObs ins (setOb i o l) from rfl, ids_setObs ins, ids_setOb]

theorem mem_setObs : ∀ (ins : List (Nat × Ob)) {l : List (Nat × Ob)} {p : Nat × Ob}, (l.map (·.1)).Nodup → p ∈ setObs ins l → (∃ q ∈ ins, q.1 = p.1 ∧ q.2 = p.2) ∨ (p ∈ l ∧ p.1 ∉ idsOf ins)
  | [], _, _, _, h => .inr ⟨h, by simp [idsOf]⟩
  | (i, o) :: ins, l, p, hn, h => by
    rcases mem_setObs ins (l := setOb i o l) (by rw [ids_setOb]; exact hn) h with ⟨q, h1, h2⟩ | ⟨h1, h2⟩
    · exact .inl ⟨q, .tail _ h1, h2⟩
    · rcases mem_setOb hn h1 with ⟨h3, h4⟩ | ⟨h3, h4⟩
      · exact .inl ⟨(i, o), .head _, h3.symm, h4.symm⟩
      · exact .inr ⟨h3, by simp only [idsOf, List.mem_cons, not_or]; exact ⟨h4, h2⟩⟩

section
variable {C : Ctx} {hd : Nat → Value} {S : St} {tmps : Array Value} {w w' : World}

/-- Behind a call: some objects are given up (K), some hold other things (ins), some are new (news). -/
theorem Inv.call (I : Inv C hd S tmps w) {K : List Nat} {ins news : List (Nat × Ob)} {hdT : Nat → Value} (on : On w w') (hK : ∀ i, i ∉ K → hdT i = hd i) (hnK : ∀ p ∈ news, p.1 ∈ K)
    (hin : ∀ p ∈ ins, p.1 ∉ K ∧ ∃ o, (p.1, o) ∈ S.objs) (hnewN : (news.map (·.1)).Nodup) {W : Nat → Prop}
    (hW : ∀ b, W b → ∃ p ∈ S.objs, blk (hd p.1) = some b ∧ (p.1 ∈ K ∨ p.1 ∈ idsOf ins)) (hmem : ∀ b, b < w.heap.size → ¬ W b → w'.heap[b]? = w.heap[b]?)
    (hnb : ∀ p ∈ news, ∀ b, blk (hdT p.1) = some b → w.heap.size ≤ b ∨ ∃ q ∈ S.objs, q.1 ∈ K ∧ blk (hd q.1) = some b) (hap : Apart hdT (news ++ ins))
    (hob : ∀ p ∈ news ++ ins, ObRel w' (C.F hdT ⟨killAllSlots K S.slots, news ++ setObs ins (killAllObjs K S.objs), killAllPins K S.pins⟩) hdT (hdT p.1) p.2) :
    Inv C hdT ⟨killAllSlots K S.slots, news ++ setObs ins (killAllObjs K S.objs), killAllPins K S.pins⟩ tmps w' := by
  have hnd : ((killAllObjs K S.objs).map (·.1)).Nodup := List.Sublist.nodup (ids_killAllObjs K S.objs) I.nodup
  -- the old objects
  have hold : ∀ p ∈ setObs ins (killAllObjs K S.objs), p.1 ∉ K ∧ (∃ o, (p.1, o) ∈ S.objs) ∧ ((∃ q ∈ ins, q.1 = p.1 ∧ q.2 = p.2) ∨ (p.1 ∉ idsOf ins ∧ ∃ o, (p.1, o) ∈ S.objs ∧ p.2 = killAllO K o)) := by
    intro p hp
    rcases mem_setObs ins hnd hp with ⟨q, hq, h1, h2⟩ | ⟨h1, h2⟩
    · obtain ⟨h3, o, h4⟩ := hin q hq
      rw [h1] at h3 h4
      exact ⟨h3, ⟨o, h4⟩, .inl ⟨q, hq, h1, h2⟩⟩
    · obtain ⟨h3, o, h4, h5⟩ := mem_killAllObjs K h1
      exact ⟨h3, ⟨o, h4⟩, .inr ⟨h2, o, h4, h5⟩⟩
  generalize hT : (⟨killAllSlots K S.slots, news ++ setObs ins (killAllObjs K S.objs), killAllPins K S.pins⟩ : St) = T at *
  have hTo : T.objs = news ++ setObs ins (killAllObjs K S.objs) := by rw [← hT]
  have hF : ∀ b, b < w.heap.size → C.F hdT T b → C.F hd S b := by
    rintro b hb (h | ⟨p, hp, hpb⟩)
    · exact .inl h
    · rw [hTo] at hp
      rcases List.mem_append.1 hp with hp | hp
      · rcases hnb p hp b hpb with h | ⟨q, hq, _, hqb⟩
        · omega
        · exact .inr ⟨q, hq, hqb⟩
      · obtain ⟨h1, ⟨o, h2⟩, _⟩ := hold p hp
        rw [hK _ h1] at hpb
        exact .inr ⟨_, h2, hpb⟩
  have k : Keeps w w' (C.F hd S) (C.F hdT T) := ⟨fun b hb hlt => hmem b hlt fun h => by
    obtain ⟨p, hp, hpb, _⟩ := hW b h
    exact hb (.inr ⟨p, hp, hpb⟩), hF⟩
  have hstill : Still C w' := by
    refine ⟨on.os.trans I.still.os, on.tape.trans I.still.tape, on.output.trans I.still.output, Nat.le_trans I.still.size on.size, fun b hb hnW => ?_⟩
    rw [hmem b (Nat.lt_of_lt_of_le hb I.still.size) fun h => ?_, I.still.block b hb hnW]
    obtain ⟨p, hp, hpb, _⟩ := hW b h
    rcases I.place p hp b hpb with h' | h'
    · omega
    · exact hnW h'
  refine ⟨?_, ?_, ?_, ?_, ?_, hstill, ?_⟩
  · rw [← hT]
    rw [hT]
    have := kill_slots K I.slots
    rw [← hT] at k
    rw [← hT]
    exact slots_keepR k (fun s hs i hi => by
      obtain ⟨s0, _, rfl⟩ := mem_killAllSlots K hs
      exact hK i (killAllS_refs hi).1) this
  · intro p hp
    rw [hTo] at hp
    rcases List.mem_append.1 hp with hp | hp
    · exact hob p (List.mem_append_left _ hp)
    · obtain ⟨h1, ⟨o1, h2⟩, h3⟩ := hold p hp
      rcases h3 with ⟨q, hq, h4, h5⟩ | ⟨h4, o, h5, h6⟩
      · rw [← h4, ← h5]; exact hob q (List.mem_append_right _ hq)
      · rw [h6, hK _ h1]
        refine Ob_keepR k (fun i hi => hK i (killAllO_refs hi).1) (fun b hb => hmem b ((I.objs _ h5).lt b hb) fun h => ?_) (kill_objs K (I.objs _ h5))
        obtain ⟨q, hq, hqb, hqk⟩ := hW b h
        refine I.apart q hq (p.1, o) h5 (fun e => ?_) b hqb hb
        have e : q.1 = p.1 := e
        rcases hqk with hqk | hqk
        · exact h1 (e ▸ hqk)
        · exact h4 (e ▸ hqk)
  · rw [hTo, List.map_append, ids_setObs]
    refine List.nodup_append.2 ⟨hnewN, hnd, fun a ha b hb e => ?_⟩
    obtain ⟨p, hp, rfl⟩ := List.mem_map.1 ha
    obtain ⟨q, hq, rfl⟩ := List.mem_map.1 hb
    exact (mem_killAllObjs K hq).1 (e ▸ hnK p hp)
  · intro p hp q hq hne b hpb hqb
    rw [hTo] at hp hq
    have one : ∀ p ∈ news, ∀ q ∈ setObs ins (killAllObjs K S.objs), p.1 ≠ q.1 → blk (hdT p.1) = some b → blk (hdT q.1) = some b → False := by
      intro p hp q hq hne hpb hqb
      obtain ⟨h1, ⟨o, h2⟩, h3⟩ := hold q hq
      rcases h3 with ⟨r, hr, h4, _⟩ | _
      · exact hap p (List.mem_append_left _ hp) r (List.mem_append_right _ hr) (by rw [h4]; exact hne) b hpb (by rw [h4]; exact hqb)
      · rw [hK _ h1] at hqb
        rcases hnb p hp b hpb with h | ⟨r, hr, hrK, hrb⟩
        · have := (I.objs _ h2).lt b hqb; omega
        · exact I.apart r hr (q.1, o) h2 (fun e => h1 (by have e : r.1 = q.1 := e; rw [← e]; exact hrK)) b hrb hqb
    rcases List.mem_append.1 hp with hp | hp <;> rcases List.mem_append.1 hq with hq | hq
    · exact hap p (List.mem_append_left _ hp) q (List.mem_append_left _ hq) hne b hpb hqb
    · exact one p hp q hq hne hpb hqb
    · exact one q hq p hp (Ne.symm hne) hqb hpb
    · obtain ⟨h1, ⟨o1, h2⟩, _⟩ := hold p hp
      obtain ⟨h3, ⟨o2, h4⟩, _⟩ := hold q hq
      rw [hK _ h1] at hpb
      rw [hK _ h3] at hqb
      exact I.apart _ h2 _ h4 hne b hpb hqb
  · intro p hp b hpb
    rw [hTo] at hp
    rcases List.mem_append.1 hp with hp | hp
    · rcases hnb p hp b hpb with h | ⟨q, hq, _, hqb⟩
      · exact .inl (Nat.le_trans I.still.size h)
      · exact I.place q hq b hqb
    · obtain ⟨h1, ⟨o, h2⟩, _⟩ := hold p hp
      rw [hK _ h1] at hpb
      exact I.place _ h2 b hpb
  · intro i hi
    rw [← hT] at hi
    obtain ⟨h1, h2⟩ := mem_killAllPins K hi
    rw [hK i h1]
    exact I.pins i h2

end
end Go.Sh
