/-
  Contracts over the shadow evaluator, IV: a call. No project text.
-/
import Derived.Test.YtkmbehagofjmbaaGreatShCon3
namespace Go.Sh

section
variable {C : Ctx}

theorem packs {w' : World} {F' : Nat → Prop} {hd' : Nat → Value} {cs : List Cv} {vs : List Value} (h : all2 (CvRel w' F' hd') cs vs) : SSRel w' F' hd' (packCvs cs) (pack vs) := by
  match cs, vs, h with
  | [c], [v], h => exact h.1
  | [], [], _ => exact ⟨_, rfl, trivial⟩
  | c :: c2 :: cs, v :: v2 :: vs, h => exact ⟨_, rfl, by simpa using h⟩
  | [_], _ :: _ :: _, h => exact h.2.elim
  | _ :: _ :: _, [_], h => exact h.2.elim
  | [], _ :: _, h => exact h.elim
  | _ :: _, [], h => exact h.elim

theorem freshN_back (d k : Nat) : freshN d k - 10000000 * (d + 1) = k := by
  show 10000000 * (d + 1) + k - 10000000 * (d + 1) = k
  exact Nat.add_sub_cancel_left _ _

theorem conSum_ok {R : Type} {f : FuncId} {args : List Pat} {ao : List (Nat × OPat)} {res : List RPat} {ro : List (Nat × OPat)} {Fn : inDen args ao → Option (outDen res ro)} (h : Con C.P f args ao res ro Fn) :
    SumOk C f (conSum (R := R) args ao res ro Fn) := by
  intro hd S lk tmps w d as vals κ r I hsub hargs hk
  unfold conSum at hk
  split at hk
  · cases hk
  · rename_i σ hσ
    simp only at hk
    split at hk
    · rename_i x o hck hx ho
      rw [Option.bind_eq_some_iff] at hk
      obtain ⟨y, hy, hk⟩ := hk
      simp only [Bool.and_eq_true] at hck
      obtain ⟨⟨⟨⟨hnd1, hnd2⟩, hout⟩, hown⟩, hdio⟩ := hck
      have hnd1 := nodupB_ok hnd1
      simp only [outOk, Bool.and_eq_true] at hout
      obtain ⟨hsubI, hnd3⟩ := hout
      have hnd3 := nodupB_ok hnd3
      have hown := disj_spec hown
      have hdio := disj_spec hdio
      have hres : ∀ k ∈ resIds res, k ∈ oids ro := fun k hk => memN_mem (List.all_eq_true.1 hsubI k (List.mem_append_left _ hk))
      have hobs : ∀ k ∈ obsIds ro, k ∈ oids ro := fun k hk => memN_mem (List.all_eq_true.1 hsubI k (List.mem_append_right _ hk))
      have hinj := inj_of_nodup_map hnd1
      have hmemO : ∀ k ∈ oids ao, ∃ o, (named σ k, o) ∈ S.objs := fun k hk => decObjs_mem hsub ao o ho k (by rw [← mem_oids]; exact hk)
      generalize haids : (oids ao).map (named σ) = aids at *
      have haid : ∀ k ∈ oids ao, named σ k ∈ aids := fun k hk => by rw [← haids]; exact List.mem_map.2 ⟨k, hk, rfl⟩
      have hio : ∀ i, i ∈ (meet (oids ro) (oids ao)).map (named σ) ↔ ∃ k ∈ oids ao, k ∈ oids ro ∧ named σ k = i := by
        intro i
        rw [List.mem_map]
        constructor
        · rintro ⟨k, hk, rfl⟩; obtain ⟨h1, h2⟩ := (mem_meet (a := 0)).1 hk; exact ⟨k, h1, h2, rfl⟩
        · rintro ⟨k, h1, h2, rfl⟩; exact ⟨k, (mem_meet (a := 0)).2 ⟨h1, h2⟩, rfl⟩
      generalize hioN : (meet (oids ro) (oids ao)).map (named σ) = io at *
      generalize hO : encObjs (fun i => i) ao o = O
      have hOk : ∀ p ∈ O, p.1 ∈ oids ao := by
        intro p hp; rw [← hO] at hp; obtain ⟨k, h1, h2⟩ := mem_encObjs hp; rw [h2]; exact h1
      -- what is dropped, and what the callee must not look at
      generalize hdr : (bif resFlat res && obsFlat ro then [] else without aids (allRefs lk as aids)) = dr at *
      have hdrA : ∀ i ∈ dr, i ∉ aids := by
        intro i hi
        rw [← hdr] at hi
        cases hfl : (resFlat res && obsFlat ro) with
        | true => rw [hfl] at hi; simp at hi
        | false => rw [hfl] at hi; exact (mem_without.1 hi).2
      let F : Nat → Prop := fun b => (resFlat res && obsFlat ro) = false ∧ (C.E b ∨ ∃ p ∈ S.objs, p.1 ∉ dr ∧ p.1 ∉ aids ∧ blk (hd p.1) = some b)
      have hFlt : ∀ b, F b → b < w.heap.size := by
        rintro b ⟨_, h | ⟨p, hp, _, _, hpb⟩⟩
        · exact Nat.lt_of_lt_of_le (C.small b h).1 I.still.size
        · exact (I.objs p hp).lt b hpb
      have hOlies : ∀ b, LiesIn (fun k => hd (named σ k)) O b → ∃ k ∈ oids ao, ∃ o, (named σ k, o) ∈ S.objs ∧ blk (hd (named σ k)) = some b := by
        rintro b ⟨p, hp, hpb⟩
        obtain ⟨o', ho'⟩ := hmemO p.1 (hOk p hp)
        exact ⟨p.1, hOk p hp, o', ho', hpb⟩
      have hOF : ∀ b, LiesIn (fun k => hd (named σ k)) O b → ¬ F b := by
        rintro b hb ⟨_, h | ⟨q, hq, _, hqa, hqb⟩⟩
        · obtain ⟨k, _, o', ho', hob⟩ := hOlies b hb
          have := C.small b h
          rcases I.place _ ho' b hob with h' | h'
          · omega
          · exact this.2 h'
        · obtain ⟨k, hk, o', ho', hob⟩ := hOlies b hb
          exact I.apart _ ho' q hq (fun e => hqa (by rw [← e]; exact haid k hk)) b hob hqb
      have hOap : Apart (fun k => hd (named σ k)) O := by
        intro p hp q hq hne b hpb hqb
        obtain ⟨o1, h1⟩ := hmemO p.1 (hOk p hp)
        obtain ⟨o2, h2⟩ := hmemO q.1 (hOk q hq)
        exact I.apart _ h1 _ h2 (fun e => hne (hinj _ (hOk p hp) _ (hOk q hq) e)) b hpb hqb
      -- the arguments, as the callee sees them
      obtain ⟨keep, hkeepA, L, hx', ho'⟩ : ∃ keep : List Nat, (∀ i ∈ aids, i ∈ keep) ∧ Lets C hd S w keep (forb F (fun k => hd (named σ k)) O) ∧ decSlots lk keep (named σ) args as = some x ∧ decObjs lk keep (named σ) ao = some o := by
        have hless : ∀ b, b < w.heap.size → forb F (fun k => hd (named σ k)) O b → C.F hd S b := by
          rintro b _ (⟨_, h | ⟨q, hq, _, _, hqb⟩⟩ | hb)
          · exact .inl h
          · exact .inr ⟨q, hq, hqb⟩
          · obtain ⟨k, _, o', ho', hob⟩ := hOlies b hb
            exact .inr ⟨_, ho', hob⟩
        cases hfl : (resFlat res && obsFlat ro) with
        | true =>
          refine ⟨aids, fun i hi => hi, ⟨hless, ?_⟩, hx, ho⟩
          rintro i oi hio' hni b hb (⟨hf, _⟩ | hb')
          · rw [hfl] at hf; cases hf
          · obtain ⟨k, hk, o', ho', hob⟩ := hOlies b hb'
            exact I.apart _ ho' (i, oi) hio' (fun e => hni (by have e : named σ k = i := e; rw [← e]; exact haid k hk)) b hob hb
        | false =>
          rw [hfl] at hdr
          simp only [cond_false] at hdr
          have hdrop : ∀ i ∈ allRefs lk as aids, i ∉ aids → i ∈ dr := fun i hi hni => by rw [← hdr]; exact mem_without.2 ⟨hi, hni⟩
          have hkp : ∀ i, i ∈ (S.objs.map (·.1)).filter (fun i => !memN i dr) ++ aids ↔ (i ∈ S.objs.map (·.1) ∧ i ∉ dr) ∨ i ∈ aids := by
            intro i
            simp only [List.mem_append, List.mem_filter, Bool.not_eq_true']
            constructor
            · rintro (⟨h1, h2⟩ | h1)
              · exact .inl ⟨h1, fun h => by rw [mem_memN h] at h2; cases h2⟩
              · exact .inr h1
            · rintro (⟨h1, h2⟩ | h1)
              · refine .inl ⟨h1, ?_⟩
                cases hm : memN i dr with
                | false => rfl
                | true => exact absurd (memN_mem hm) h2
              · exact .inr h1
          refine ⟨(S.objs.map (·.1)).filter (fun i => !memN i dr) ++ aids, fun i hi => (hkp i).2 (.inr hi), ⟨hless, ?_⟩, ?_, ?_⟩
          · rintro i oi hio' hni b hb (⟨_, h | ⟨q, hq, hqd, _, hqb⟩⟩ | hb')
            · have := C.small b h
              rcases I.place _ hio' b hb with h' | h'
              · omega
              · exact this.2 h'
            · refine I.apart q hq (i, oi) hio' (fun e => hni ?_) b hqb hb
              have e : q.1 = i := e
              exact (hkp i).2 (.inl ⟨e ▸ List.mem_map.2 ⟨q, hq, rfl⟩, e ▸ hqd⟩)
            · obtain ⟨k, hk, o', ho', hob⟩ := hOlies b hb'
              exact I.apart _ ho' (i, oi) hio' (fun e => hni (by have e : named σ k = i := e; exact (hkp i).2 (.inr (e ▸ haid k hk)))) b hob hb
          · refine decSlots_keep args as x hx fun i hi hni hk => ?_
            rcases (hkp i).1 hk with ⟨_, h2⟩ | h2
            · exact h2 (hdrop i (List.mem_append_left _ hi) hni)
            · exact hni h2
          · refine decObjs_keep ao o ho fun k hk' i hi hni hk => ?_
            rcases (hkp i).1 hk with ⟨_, h2⟩ | h2
            · exact h2 (hdrop i (List.mem_append_right _ (List.mem_flatMap.2 ⟨named σ k, haid k (by rw [mem_oids]; exact hk'), hi⟩)) hni)
            · exact hni h2
      have hslots := decSlots_ok I hsub L args as x vals hx' hargs
      have hobjs := decObjs_ok I hsub L ao o ho'
      rw [hO] at hobjs
      have hcall := h w F (fun k => hd (named σ k)) (mkIn ao x o) y vals hFlt (by rw [(inMk x o).2, hO]; exact hOF) (by rw [(inMk x o).2, hO]; exact hOap) (by rw [(inMk x o).2, hO]; exact hobjs) (by rw [(inMk x o).2, (inMk x o).1, hO]; exact hslots) hy
      rw [(inMk x o).2, hO] at hcall
      refine hcall.mono ?_
      rintro e w' ⟨vs, hd', rfl, hrel, hob, hap, hpin, hfresh, on, hmem⟩
      generalize hRo : encObjs (fun i => i) ro (outObjs ro y) = Ro at *
      generalize hRs : resObs (fun i => i) 0 res (outRes ro y) = Rs at *
      have hRok : ∀ p ∈ Ro, p.1 ∈ oids ro := by
        intro p hp; rw [← hRo] at hp; obtain ⟨k, h1, h2⟩ := mem_encObjs hp; rw [h2]; exact h1
      have hRsk : ∀ p ∈ Rs, p.1 ∈ ownIds 0 res := by
        intro p hp; rw [← hRs] at hp; obtain ⟨k, h1, h2⟩ := mem_resObs hp; rw [h2]; exact h1
      generalize hρ : (fun k => bif memN k (oids ao) then named σ k else freshN d k) = ρ at *
      have ρin : ∀ k ∈ oids ao, ρ k = named σ k := fun k hk => by rw [← hρ]; simp only [mem_memN hk, cond_true]
      have ρout : ∀ k, k ∉ oids ao → ρ k = freshN d k := fun k hk => by
        rw [← hρ]
        have : memN k (oids ao) = false := by
          cases hm : memN k (oids ao) with
          | false => rfl
          | true => exact absurd (memN_mem hm) hk
        simp only [this, cond_false]
      obtain ⟨hp1, hp2, hp3⟩ := partN_spec io (encObjs ρ ro (outObjs ro y))
      generalize hins : (partN io (encObjs ρ ro (outObjs ro y))).1 = ins at *
      generalize hnw : (partN io (encObjs ρ ro (outObjs ro y))).2 = nw at *
      -- the new names
      have newName : ∀ p ∈ nw ++ resObs ρ 0 res (outRes ro y), ∃ k ∈ oids ro ++ ownIds 0 res, k ∉ oids ao ∧ p.1 = freshN d k ∧ p.1 = ρ k := by
        intro p hp
        rcases List.mem_append.1 hp with hp | hp
        · obtain ⟨h1, h2⟩ := (hp2 p).1 hp
          obtain ⟨k, hk, hpk⟩ := mem_encObjs h1
          have hka : k ∉ oids ao := fun hka => h2 ((hio _).2 ⟨k, hka, hk, by rw [hpk, ρin k hka]⟩)
          exact ⟨k, List.mem_append_left _ hk, hka, by rw [hpk, ρout k hka], hpk⟩
        · obtain ⟨k, hk, hpk⟩ := mem_resObs hp
          have hka := hown k hk
          exact ⟨k, List.mem_append_right _ hk, hka, by rw [hpk, ρout k hka], hpk⟩
      have insName : ∀ p ∈ ins, ∃ k ∈ oids ro, k ∈ oids ao ∧ p.1 = named σ k ∧ p.1 = ρ k := by
        intro p hp
        obtain ⟨h1, h2⟩ := (hp1 p).1 hp
        obtain ⟨k, hk, hpk⟩ := mem_encObjs h1
        by_cases hka : k ∈ oids ao
        · exact ⟨k, hk, hka, by rw [hpk, ρin k hka], hpk⟩
        · exfalso
          rw [hpk, ρout k hka] at h2
          exact hdio _ h2 (List.mem_map.2 ⟨k, List.mem_append_left _ (mem_without.2 ⟨hk, hka⟩), rfl⟩)
      generalize hnews : nw ++ resObs ρ 0 res (outRes ro y) = news at *
      have hioNew : ∀ i ∈ io, i ∉ idsOf news := by
        intro i hi hin
        rw [idsOf_map] at hin
        obtain ⟨p, hp, rfl⟩ := List.mem_map.1 hin
        obtain ⟨k, hk, hka, hpk, _⟩ := newName p hp
        rw [hpk] at hi
        refine hdio _ hi (List.mem_map.2 ⟨k, ?_, rfl⟩)
        rcases List.mem_append.1 hk with hk | hk
        · exact List.mem_append_left _ (mem_without.2 ⟨hk, hka⟩)
        · exact List.mem_append_right _ hk
      let hdT : Nat → Value := fun i => if i ∈ idsOf news then hd' (i - 10000000 * (d + 1)) else hd i
      have hdNew : ∀ k, freshN d k ∈ idsOf news → hdT (freshN d k) = hd' k := by
        intro k hk
        have e : hdT (freshN d k) = hd' (freshN d k - 10000000 * (d + 1)) := if_pos hk
        rw [e, freshN_back]
      have hdOld : ∀ i, i ∉ idsOf news → hdT i = hd i := fun i hi => if_neg hi
      -- what a name of the results is worth here
      have worthy : ∀ k ∈ oids ro ++ ownIds 0 res, hd' k = hdT (ρ k) := by
        intro k hk
        by_cases hka : k ∈ oids ao
        · have hkr : k ∈ oids ro := by
            rcases List.mem_append.1 hk with hk | hk
            · exact hk
            · exact absurd hka (hown k hk)
          have hii : named σ k ∈ io := (hio _).2 ⟨k, hka, hkr, rfl⟩
          rw [ρin k hka, hdOld _ (hioNew _ hii)]
          exact hpin k hka hkr
        · rw [ρout k hka]
          refine (hdNew k ?_).symm
          rw [idsOf_map, ← hnews, List.map_append, List.mem_append]
          rcases List.mem_append.1 hk with hk | hk
          · left
            obtain ⟨p, hp, hpk⟩ := encObjs_at (ρ := ρ) (x := outObjs ro y) hk
            rw [ρout k hka] at hpk
            refine List.mem_map.2 ⟨p, (hp2 p).2 ⟨hp, fun hpi => ?_⟩, hpk⟩
            rw [hpk] at hpi
            exact hdio _ hpi (List.mem_map.2 ⟨k, List.mem_append_left _ (mem_without.2 ⟨hk, hka⟩), rfl⟩)
          · right
            obtain ⟨p, hp, hpk⟩ := resObs_at (ρ := ρ) (y := outRes ro y) hk
            rw [ρout k hka] at hpk
            exact List.mem_map.2 ⟨p, hp, hpk⟩
      let K : List Nat := (dr ++ without io aids) ++ idsOf news
      have hKdef : ∀ i, i ∈ K ↔ i ∈ dr ∨ (i ∈ aids ∧ i ∉ io) ∨ i ∈ idsOf news := by
        intro i
        show i ∈ (dr ++ without io aids) ++ idsOf news ↔ _
        simp only [List.mem_append, mem_without, or_assoc]
      have hinsK : ∀ p ∈ ins, p.1 ∉ K := by
        intro p hp hK
        obtain ⟨k, hkr, hka, hpk, _⟩ := insName p hp
        have hii : p.1 ∈ io := (hio _).2 ⟨k, hka, hkr, hpk.symm⟩
        rcases (hKdef _).1 hK with h1 | ⟨_, h1⟩ | h1
        · exact hdrA _ h1 (by rw [hpk]; exact haid k hka)
        · exact h1 hii
        · exact hioNew _ hii h1
      have hinsIds : ∀ k ∈ oids ao, k ∈ oids ro → named σ k ∈ idsOf ins := by
        intro k hka hkr
        obtain ⟨p, hp, hpk⟩ := encObjs_at (ρ := ρ) (x := outObjs ro y) hkr
        rw [ρin k hka] at hpk
        rw [idsOf_map]
        exact List.mem_map.2 ⟨p, (hp1 p).2 ⟨hp, by rw [hpk]; exact (hio _).2 ⟨k, hka, hkr, rfl⟩⟩, hpk⟩
      -- names of objects in the new state, and in the results
      have hname : ∀ p ∈ news ++ ins, ∃ k ∈ oids ro ++ ownIds 0 res, p.1 = ρ k ∧ hdT p.1 = hd' k := by
        intro p hp
        rcases List.mem_append.1 hp with hp | hp
        · obtain ⟨k, hk, _, _, hpk⟩ := newName p hp
          exact ⟨k, hk, hpk, by rw [hpk]; exact (worthy k hk).symm⟩
        · obtain ⟨k, hk, _, _, hpk⟩ := insName p hp
          exact ⟨k, List.mem_append_left _ hk, hpk, by rw [hpk]; exact (worthy k (List.mem_append_left _ hk)).symm⟩
      have hR : ∀ k ∈ oids ro ++ ownIds 0 res, ∃ p ∈ Ro ++ Rs, p.1 = k := by
        intro k hk
        rcases List.mem_append.1 hk with hk | hk
        · obtain ⟨p, hp, hpk⟩ := encObjs_at (ρ := fun i => i) (x := outObjs ro y) hk
          rw [hRo] at hp
          exact ⟨p, List.mem_append_left _ hp, hpk⟩
        · obtain ⟨p, hp, hpk⟩ := resObs_at (ρ := fun i => i) (y := outRes ro y) hk
          rw [hRs] at hp
          exact ⟨p, List.mem_append_right _ hp, hpk⟩
      have hdKsame : ∀ i, i ∉ K → hdT i = hd i := fun i hi => hdOld i fun h1 => hi ((hKdef i).2 (.inr (.inr h1)))
      -- less is forbidden behind the call
      have hsubF : (resFlat res && obsFlat ro) = false → ∀ b, b < w'.heap.size → C.F hdT ⟨killAllSlots K S.slots, news ++ setObs ins (killAllObjs K S.objs), killAllPins K S.pins⟩ b → forb F hd' (Ro ++ Rs) b := by
        rintro hfl b _ (hb | ⟨p, hp, hpb⟩)
        · exact .inl ⟨hfl, .inl hb⟩
        · have inR : ∀ p ∈ news ++ ins, blk (hdT p.1) = some b → forb F hd' (Ro ++ Rs) b := by
            intro p hp hpb
            obtain ⟨k, hk, _, he⟩ := hname p hp
            obtain ⟨q, hq, hqk⟩ := hR k hk
            exact .inr ⟨q, hq, by rw [hqk, ← he]; exact hpb⟩
          rcases List.mem_append.1 hp with hp | hp
          · exact inR p (List.mem_append_left _ hp) hpb
          · have hnd : ((killAllObjs K S.objs).map (·.1)).Nodup := List.Sublist.nodup (ids_killAllObjs K S.objs) I.nodup
            rcases mem_setObs ins hnd hp with ⟨q, hq, h1, _⟩ | ⟨h1, h2⟩
            · exact inR q (List.mem_append_right _ hq) (by rw [h1]; exact hpb)
            · obtain ⟨h3, o', h4, _⟩ := mem_killAllObjs K h1
              rw [hdKsame _ h3] at hpb
              refine .inl ⟨hfl, .inr ⟨_, h4, fun h5 => h3 ((hKdef _).2 (.inl h5)), fun h5 => ?_, hpb⟩⟩
              have h5 : p.1 ∈ aids := h5
              rw [← haids] at h5
              obtain ⟨k, hka, hke⟩ := List.mem_map.1 h5
              by_cases hkr : k ∈ oids ro
              · exact h2 (by rw [← hke]; exact hinsIds k hka hkr)
              · refine h3 ((hKdef _).2 (.inr (.inl ⟨by rw [← hke]; exact haid k hka, fun hpi => hkr ?_⟩)))
                obtain ⟨k', hka', hkr', hke'⟩ := (hio _).1 hpi
                have := hinj k hka k' hka' (by rw [hke, hke'])
                rw [this]; exact hkr'
      have hc1 : (∀ b, b < w'.heap.size → C.F hdT ⟨killAllSlots K S.slots, news ++ setObs ins (killAllObjs K S.objs), killAllPins K S.pins⟩ b → forb F hd' (Ro ++ Rs) b) ∨ (resFlat res = true ∧ obsFlat ro = true) := by
        cases hfl : (resFlat res && obsFlat ro) with
        | false => exact .inl (hsubF hfl)
        | true => rw [Bool.and_eq_true] at hfl; exact .inr hfl
      have hobT : ∀ p ∈ news ++ ins, ObRel w' (C.F hdT ⟨killAllSlots K S.slots, news ++ setObs ins (killAllObjs K S.objs), killAllPins K S.pins⟩) hdT (hdT p.1) p.2 := by
        have h1 := obs_conv (ρ := ρ) (os := ro) (x := outObjs ro y) (hd0 := hd') (hd' := hdT) (hc1.imp id And.right) (fun i hi => worthy i (List.mem_append_left _ (hobs i hi))) (fun k hk => worthy k (List.mem_append_left _ hk)) (by
          intro p hp; rw [hRo] at hp; exact hob p (List.mem_append_left _ hp))
        have h2 := owns_conv (ρ := ρ) (rs := res) (j := 0) (y := outRes ro y) (hd0 := hd') (hd' := hdT) (hc1.imp id And.left) (fun k hk => worthy k (List.mem_append_right _ hk)) (by
          intro p hp; rw [hRs] at hp; exact hob p (List.mem_append_right _ hp))
        intro p hp
        rcases List.mem_append.1 hp with hp | hp
        · rw [← hnews] at hp
          rcases List.mem_append.1 hp with hp | hp
          · exact h1 p ((hp2 p).1 hp).1
          · exact h2 p hp
        · exact h1 p ((hp1 p).1 hp).1
      have hapT : Apart hdT (news ++ ins) := by
        intro p hp q hq hne b hpb hqb
        obtain ⟨k1, hk1, he1, hw1⟩ := hname p hp
        obtain ⟨k2, hk2, he2, hw2⟩ := hname q hq
        obtain ⟨p', hp', hpk⟩ := hR k1 hk1
        obtain ⟨q', hq', hqk⟩ := hR k2 hk2
        refine hap p' hp' q' hq' (fun e => hne ?_) b (by rw [hpk, ← hw1]; exact hpb) (by rw [hqk, ← hw2]; exact hqb)
        rw [he1, he2, ← hpk, ← hqk, e]
      have hnewN : (news.map (·.1)).Nodup := by
        have hsubl : (news.map (·.1)).Sublist ((oids ro ++ ownIds 0 res).map ρ) := by
          rw [← hnews, List.map_append, List.map_append, ids_resObs]
          refine List.Sublist.append ?_ (List.Sublist.refl _)
          have := hp3
          rw [ids_encObjs] at this
          rw [mem_oids, List.map_map]
          exact this
        refine List.Sublist.nodup hsubl (nodup_map_of_inj hnd3 fun a ha b hb e => ?_)
        have inRo : ∀ a ∈ oids ro ++ ownIds 0 res, a ∈ oids ao → a ∈ oids ro := by
          intro a ha haa
          rcases List.mem_append.1 ha with h1 | h1
          · exact h1
          · exact absurd haa (hown a h1)
        have mixed : ∀ a ∈ oids ro ++ ownIds 0 res, a ∈ oids ao → ∀ b ∈ oids ro ++ ownIds 0 res, b ∉ oids ao → named σ a = freshN d b → False := by
          intro a ha haa b hb hba e
          have : named σ a ∈ io := (hio _).2 ⟨a, haa, inRo a ha haa, rfl⟩
          rw [e] at this
          refine hdio _ this (List.mem_map.2 ⟨b, ?_, rfl⟩)
          rcases List.mem_append.1 hb with h1 | h1
          · exact List.mem_append_left _ (mem_without.2 ⟨h1, hba⟩)
          · exact List.mem_append_right _ h1
        by_cases haa : a ∈ oids ao <;> by_cases hba : b ∈ oids ao
        · rw [ρin a haa, ρin b hba] at e; exact hinj a haa b hba e
        · rw [ρin a haa, ρout b hba] at e; exact (mixed a ha haa b hb hba e).elim
        · rw [ρout a haa, ρin b hba] at e; exact (mixed b hb hba a ha haa e.symm).elim
        · rw [ρout a haa, ρout b hba] at e; unfold freshN at e; omega
      have IT : Inv C hdT ⟨killAllSlots K S.slots, news ++ setObs ins (killAllObjs K S.objs), killAllPins K S.pins⟩ tmps w' := by
        refine I.call on hdKsame (fun p hp => (hKdef _).2 (.inr (.inr (by rw [idsOf_map]; exact List.mem_map.2 ⟨p, hp, rfl⟩)))) (fun p hp => ⟨hinsK p hp, ?_⟩) hnewN (W := LiesIn (fun k => hd (named σ k)) O) ?_ hmem ?_ hapT hobT
        · obtain ⟨k, _, hka, hpk, _⟩ := insName p hp
          rw [hpk]; exact hmemO k hka
        · intro b hb
          obtain ⟨k, hka, o', ho', hob'⟩ := hOlies b hb
          refine ⟨_, ho', hob', ?_⟩
          by_cases hkr : k ∈ oids ro
          · exact .inr (hinsIds k hka hkr)
          · refine .inl ((hKdef _).2 (.inr (.inl ⟨haid k hka, fun hpi => hkr ?_⟩)))
            obtain ⟨k', hka', hkr', hke'⟩ := (hio _).1 hpi
            rw [hinj k hka k' hka' hke'.symm]; exact hkr'
        · intro p hp b hpb
          obtain ⟨k, hk, hka, hpk, hpρ⟩ := newName p hp
          have hw : hdT p.1 = hd' k := by rw [hpρ]; exact (worthy k hk).symm
          rw [hw] at hpb
          obtain ⟨q, hq, hqk⟩ := hR k hk
          rcases hfresh b ⟨q, hq, by rw [hqk]; exact hpb⟩ with h1 | h1
          · exact .inl h1
          · obtain ⟨k', hka', o', ho', hob'⟩ := hOlies b h1
            refine .inr ⟨_, ho', ?_, hob'⟩
            by_cases hkr : k' ∈ oids ro
            · exfalso
              obtain ⟨q', hq', hqk'⟩ := hR k' (List.mem_append_left _ hkr)
              refine hap q hq q' hq' (fun e => hka (by rw [← hqk, e, hqk']; exact hka')) b (by rw [hqk]; exact hpb) (by rw [hqk', hpin k' hka' hkr]; exact hob')
            · refine (hKdef _).2 (.inr (.inl ⟨haid k' hka', fun hpi => hkr ?_⟩))
              obtain ⟨k2, hka2, hkr2, hke2⟩ := (hio _).1 hpi
              rw [hinj k' hka' k2 hka2 hke2.symm]; exact hkr2
      have hrelT := res_conv (ρ := ρ) (rs := res) (j := 0) (y := outRes ro y) (vs := vs) (hd0 := hd') (hd' := hdT) (hc1.imp id And.left) (fun i hi => worthy i (List.mem_append_left _ (hres i hi))) (fun k hk => worthy k (List.mem_append_right _ hk)) hrel
      exact ⟨_, hdT, _, _, rfl, hk, by rw [apps_bulkE]; exact IT, by rw [apps_bulkE]; exact packs hrelT⟩
    · cases hk

theorem conSum_det {R : Type} {args : List Pat} {ao : List (Nat × OPat)} {res : List RPat} {ro : List (Nat × OPat)} {Fn : inDen args ao → Option (outDen res ro)} : DetSum (conSum (R := R) args ao res ro Fn) := by
  intro d as lk κ r h
  unfold conSum at h
  split at h
  · cases h
  · rename_i σ hσ
    simp only at h
    split at h
    · rename_i x o h1 h2 h3
      rw [Option.bind_eq_some_iff] at h
      obtain ⟨y, hy, hk⟩ := h
      exact ⟨_, _, hk, fun κ' r' hk' => by unfold conSum; simp only [hσ, h1, h2, h3, hy, Option.bind_some]; exact hk'⟩
    · cases h

end
end Go.Sh
